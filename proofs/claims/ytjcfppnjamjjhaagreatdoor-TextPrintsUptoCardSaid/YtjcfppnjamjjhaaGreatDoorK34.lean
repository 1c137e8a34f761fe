/- Part 4 of the proof: rules, mirrors and plain laws. The card of TextPrints (second form) is proved here: for every term the law returns true, and the arguments read behind the call as they did before; conditions: what is read is of bulk at most 1048576, and the listed package-level variables hold what the text of the program lays (tied). -/
import Derived.Test.YtjcfppnjamjjhaaGreatDoorK33
import Derived.Shelf.Strings.Builder1
import Derived.Lib.LaidTab
import Derived.Lib.ItoaNum
import Derived.Lib.AtoiErrMem
set_option maxHeartbeats 2000000
set_option maxRecDepth 100000
set_option linter.unusedSimpArgs false
set_option linter.unusedVariables false
set_option linter.unusedSectionVars false
namespace Go.Proofs.YtjcfppnjamjjhaaGreatDoor
open Go.RowKit
section
variable (U:Univ)
inductive BX where
 | stc (T:TypeId) (t:U.T)
 | bld (T E:TypeId) (t:U.T)
end
section
variable {U:Univ} (D:Codec U)
@[reducible] def BX.Ty:BX U→Type
 | .stc _ t=>U.R t
 | .bld _ _ t=>List (U.R t)
def BX.n:BX U→Nat
 | .stc _ _=>1
 | .bld _ _ _=>2
def BX.rs:BX U→List Nat
 | .stc _ _=>[0]
 | .bld _ _ _=>[0,1]
def WD:(x:BX U)→x.Ty→TMe U
 | .stc T t,v=>⟨[.box 0 T [.grp t v]],[],1⟩
 | .bld T E t,v=>⟨[.box 0 T [.one (.ptr 0 0),.one (.app 1 0)]],[(1,⟨E,t,v,0⟩)],2⟩
def Dm (m:TMe U) (i:Nat):(x:BX U)→Option (x.Ty×List Nat)
 | .stc T t=>match YQ m.es i with
  | some (T',N)=>cond (Nat.beq T' T&&Nat.beq N (U.E t).sz) (match GJ D m.es i 0 N with
   | some xs=>match Wo D m.tk t xs with
    | some v=>some (v,[i])
    | none=>none
   | none=>none) none
  | none=>none
 | .bld T E t=>match YQ m.es i with
  | some (T',N)=>cond (Nat.beq T' T&&Nat.beq N 2) (match GJ D m.es i 0 2 with
   | some [.one (.ptr i' off),.one (.app j ver)]=>match cur m.tk j ver with
    | some tok=>cond (Nat.beq i' i&&(Nat.beq off 0&&(Nat.beq tok.E E&&!(Nat.beq E 0)))) (match Kg tok.t t tok.l with
     | some l=>some (l,[i,j])
     | none=>none) none
    | none=>none
   | _=>none) none
  | none=>none
def UH (m:TMe U) (i:Nat) (rs:List Nat):(x:BX U)→x.Ty→TMe U
 | .stc _ t,v=>⟨.set i 0 [.grp t v]::m.es,m.tk,m.nx⟩
 | .bld _ E t,v=>⟨.set i 1 [.one (.app (rs.getD 1 0) (QX m.tk (rs.getD 1 0)))]::m.es,(rs.getD 1 0,⟨E,t,v,QX m.tk (rs.getD 1 0)⟩)::m.tk,m.nx⟩
def Dv (m:TMe U) (i:Nat) (rs:List Nat):BX U→Bool
 | .stc _ _=>ZV rs&&(rs.all (fun j=>Nat.blt j m.nx)&&(lk m.tk i).isNone)
 | .bld _ _ _=>ZV rs&&(rs.all (fun j=>Nat.blt j m.nx)&&((lk m.tk i).isNone&&(m.es.all (Zy (rs.getD 1 0))&&!(m.es.any (Ev.hasApp (rs.getD 1 0) (QX m.tk (rs.getD 1 0)))))))
def KC:(x:BX U)→x.Ty→Nat→Nat→HB
 | .stc T t,v,_,_=>.cells T (((U.E t).enc v).map .d)
 | .bld T E t,v,i,j=>.cells T [.ptr i 0,.app j (U.E t).sz ((U.E t).encL v)]
def KB:(x:BX U)→x.Ty→Nat→List (Nat×Option Tok)
 | .stc _ _,_,_=>[]
 | .bld _ E t,v,j=>[(j,(⟨E,t,v,0⟩:TTok U).erO)]
variable {D}
theorem cmB_er (hD:D.OK) (x:BX U) (v:x.Ty):(WD x v).er D=⟨[(0,KC x v 0 1)],KB x v 1,x.n⟩:=by
 cases x with
 | stc T t =>
  show (⟨[(0,.cells T (Ji D [] [It.grp t v]))],[],1⟩:Mem)=_
  rw [erL_grp hD];rfl
 | bld T E t=>rfl
theorem cbox_ren (ρ:Nat→Nat) (x:BX U) (v:x.Ty) (i j:Nat):(KC x v i j).ren ρ=KC x v (ρ i) (ρ j):=by
 cases x with
 | stc T t =>
  show HB.cells T ((((U.E t).enc v).map CA.d).map (CA.ren ρ))=_
  rw [List.map_map];rfl
 | bld T E t=>rfl
theorem whole_row {ys:List CA} {n:Nat} (h:ys.length=n):(ys.drop 0).take n=ys:=by
 rw [List.drop_zero,List.take_of_length_le (by omega)]
theorem rdB_ok (hD:D.OK) {m:TMe U} {i:Nat} {x:BX U} {v:x.Ty} {rs:List Nat} (h:Dm D m i x=some (v,rs)) :
  (∃ A,lk (m.er D).hp i=some A∧∀ V w o,A.rel V w o→(KC x v i (rs.getD 1 0)).rel V w o)∧(∀ k T,lk (KB x v (rs.getD 1 0)) k=some (some T)→lk (m.er D).tk k=some (some T))∧rs.length=x.n∧rs.getD 0 0=i:=by
 cases x with
 | stc T t =>
  have h':(match YQ m.es i with
   | some (T',N)=>cond (Nat.beq T' T&&Nat.beq N (U.E t).sz) (match GJ D m.es i 0 N with
    | some xs=>match Wo D m.tk t xs with
     | some v=>some (v,[i])
     | none=>none
    | none=>none) none
   | none=>none)=some (v,rs):=h
  split at h'
  ·rename_i T' N hb
   cases hc:(Nat.beq T' T&&Nat.beq N (U.E t).sz) with
   | false=>rw [hc] at h';cases h'
   | true =>
    rw [hc,cond_true] at h'
    obtain ⟨c1,c2⟩:=Bool.and_eq_true_iff.1 hc
    have e1:=Nat.eq_of_beq_eq_true c1
    subst e1
    split at h'
    ·rename_i xs hr
     split at h'
     ·rename_i v' hv;cases h'
      obtain ⟨ys,b1,b2⟩:=Y9 hD (tk:=m.tk) hb
      obtain ⟨T2,zs,r1,r2,r3⟩:=Yd hD (tk:=m.tk) hr
      rw [b1] at r1;cases r1
      rw [whole_row b2] at r3
      refine ⟨⟨_,b1,fun V w o hr=>BW.rel (.cells ?_) hr⟩,(fun k T hk=>by cases hk),rfl,rfl⟩
      rw [r3]
      exact csubs_LW (bldT_ok hD hv)
     ·cases h'
    ·cases h'
  ·cases h'
 | bld T E t =>
  have h':(match YQ m.es i with
   | some (T',N)=>cond (Nat.beq T' T&&Nat.beq N 2) (match GJ D m.es i 0 2 with
    | some [.one (.ptr i' off),.one (.app j ver)]=>match cur m.tk j ver with
     | some tok=>cond (Nat.beq i' i&&(Nat.beq off 0&&(Nat.beq tok.E E&&!(Nat.beq E 0)))) (match Kg tok.t t tok.l with
      | some l=>some (l,[i,j])
      | none=>none) none
     | none=>none
    | _=>none) none
   | none=>none)=some (v,rs):=h
  split at h'
  ·rename_i T' N hb
   cases hc:(Nat.beq T' T&&Nat.beq N 2) with
   | false=>rw [hc] at h';cases h'
   | true =>
    rw [hc,cond_true] at h'
    obtain ⟨c1,c2⟩:=Bool.and_eq_true_iff.1 hc
    have e1:=Nat.eq_of_beq_eq_true c1
    have e2:=Nat.eq_of_beq_eq_true c2
    subst e1;subst e2
    split at h'
    ·rename_i i' off j ver hr
     split at h'
     ·rename_i tok hcur
      cases hq:(Nat.beq i' i&&(Nat.beq off 0&&(Nat.beq tok.E E&&!(Nat.beq E 0)))) with
      | false=>rw [hq] at h';cases h'
      | true =>
       rw [hq,cond_true] at h'
       obtain ⟨q1,q23⟩:=Bool.and_eq_true_iff.1 hq
       obtain ⟨q2,q3⟩:=Bool.and_eq_true_iff.1 q23
       have f1:=Nat.eq_of_beq_eq_true q1
       have f2:=Nat.eq_of_beq_eq_true q2
       obtain ⟨q3,q4⟩:=Bool.and_eq_true_iff.1 q3
       have f3:=Nat.eq_of_beq_eq_true q3
       have fN:Nat.beq E 0=false:=by simpa using q4
       subst f1;subst f2
       split at h'
       ·rename_i l hl;cases h'
        obtain ⟨et,el⟩:=YA hl
        subst et
        have el':tok.l=v:=el.symm
        obtain ⟨ys,b1,b2⟩:=Y9 hD (tk:=m.tk) hb
        obtain ⟨T2,zs,r1,r2,r3⟩:=Yd hD (tk:=m.tk) hr
        rw [b1] at r1;cases r1
        rw [whole_row b2] at r3
        have eapp:(TA.app j ver:TA U).er m.tk=.app j (U.E tok.t).sz ((U.E tok.t).encL tok.l):=by
         show (match cur m.tk j ver with
          | some T=>CA.app j (U.E T.t).sz ((U.E T.t).encL T.l)
          | none=>CA.any)=_
         rw [hcur]
        have e4:ys=[.ptr i' 0,.app j (U.E tok.t).sz ((U.E tok.t).encL tok.l)]:=by
         rw [r3]
         show [CA.ptr i' 0,(TA.app j ver:TA U).er m.tk]=_
         rw [eapp]
        refine ⟨⟨_,b1,fun V w o hr=>?_⟩,fun k T hk=>?_,Z,Z⟩
        ·rw [e4,el'] at hr;exact hr
        ·have hk0:lk [(j,(⟨E,tok.t,v,0⟩:TTok U).erO)] k=some (some T):=hk
         rw [Zw fN] at hk0
         have hk':lk [(j,some (⟨E,(U.E tok.t).sz,((U.E tok.t).encL v).length,[]⟩:Tok))] k=some (some T):=hk0
         rw [Q8] at hk'
         split at hk'
         ·rename_i ek;subst ek
          cases hk'
          have hlk:lk m.tk j=some tok:=by
           unfold cur at hcur
           split at hcur
           ·rename_i T0 h0
            cases hq:Nat.beq T0.ver ver with
            | false=>rw [hq] at hcur;cases hcur
            | true=>rw [hq] at hcur;cases hcur;exact h0
           ·cases hcur
          show lk (QM TTok.erO m.tk) j=_
          rw [QP,hlk]
          show some tok.erO=_
          rw [Zw (by rw [f3];exact fN)]
          unfold TTok.er
          rw [f3,el']
         ·cases hk'
       ·cases h'
     ·cases h'
    ·cases h'
  ·cases h'
variable (U) in
structure PF where
 bx:BX U
 args:List (AK U)
 res:List (AK U)
 pk:PK
 m:bx.Ty→tup args→Option ((bx.Ty×tup res)⊕(pk.Ty×bx.Ty))
def UZ (D:Codec U) (bx:BX U) (res:List (AK U)) (pk:PK):(bx.Ty×tup res)⊕(pk.Ty×bx.Ty)→OutM
 | .inl y=>.val (Qu (QO D res y.2)) ((WD bx y.1).er D)
 | .inr y=>.die (XU pk y.1) ((WD bx y.2).er D)
def GH (D:Codec U) (W:Wd) (P:Program) (f:Nat) (pf:PF U):Prop:=(pf.res.all JY=true∧pf.args.all JY=true)∧∀ b v y,pf.m b v=some y→CallO W P f (.one (.ptr 0 0)::QO D pf.args v) ((WD pf.bx b).er D) (UZ D pf.bx pf.res pf.pk y)
section
variable (D) (C:TCfg U) (K:FuncId→List (TAV U)→Option (KR U)) (X:XH U)
def UX (bx:BX U) (res:List (AK U)) (rs:List ResultVar) {α:Type} (s:TSt U):Option ((bx.Ty×tup res)⊕α):=match WX D C s res rs with
 | some r=>match Dm D s.m 0 bx with
  | some (b,ns)=>cond (WC ns bx.rs) (some (.inl (b,r))) none
  | none=>none
 | none=>none
def D3 (bx:BX U) (pk:PK) {α:Type} (v:Value) (s:TSt U):Option (α⊕(pk.Ty×bx.Ty)):=match decP pk v with
 | some e=>match Dm D s.m 0 bx with
  | some (b,ns)=>cond (WC ns bx.rs) (some (.inr (e,b))) none
  | none=>none
 | none=>none
def pcall (fn:Func) (H:Hints U) (bx:BX U) (b:bx.Ty) (args:List (TAV U)) (res:List (AK U)) (pk:PK):Option ((bx.Ty×tup res)⊕(pk.Ty×bx.Ty)):=match Xx fn.body H with
 | some (_,tc)=>cond (Nat.ble (args.length+1) fn.ntmps) (JN D C K X tc D4 none (R:=(bx.Ty×tup res)⊕(pk.Ty×bx.Ty)) (fun s=>Kr X D4 s none (UX D C bx res fn.results.toList) (D3 D bx pk)) (fun v s=>Kr X D4 s (some v) (UX D C bx res fn.results.toList) (D3 D bx pk)) ⟨JG 0 (.one (.ptr 0 0)::args),WD bx b,fn.ntmps,[]⟩ some fun e s=>match e with
   | .normal=>Kr X D4 s none (UX D C bx res fn.results.toList) (D3 D bx pk)
   | _=>none) none
 | none=>none
end
theorem HRel.trimN {E:Env} {V:Vu} {hp:List (Nat×HB)} {tk:List (Nat×Option Tok)} {w:World} {n:Nat} (H:HRel E V hp tk w) (hh:∀ i B,lk hp i=some B→i < n∧B.below n) (ht:∀ i T,lk tk i=some (some T)→i < n) (h0:E.V0.nx≤n):HRel E { V with nx:=n } hp tk w:=by
 refine ⟨H.ext,⟨h0,H.le0.ι,H.le0.cu,H.le0.κ,H.le0.S,H.le0.cell,H.le0.dk⟩,H.sz,H.sub,?_,H.inj,H.new,?_,?_⟩
 ·intro i B hi
  obtain ⟨h1,h2⟩:=hh i B hi
  obtain ⟨-,o,ho,hB⟩:=H.own i B hi
  refine ⟨h1,o,ho,?_⟩
  cases B with
  | cells T xs=>obtain ⟨vs,h3,h4⟩:=hB;exact ⟨vs,h3,h4.trim h2⟩
  | obj o'=>exact hB
  | loop s p tm nt ps assign body D=>obtain ⟨-,fn,tmps,h3,h4,h5⟩:=hB;exact ⟨h2.1,fn,tmps,h3,h4,fun t x hx=>(h5 t x hx).trim (h2.2 t x hx)⟩
  | mp es clock=>obtain ⟨ents,h3,h4,h5⟩:=hB;exact ⟨ents,h3,h4,fun i k x b hi=>let ⟨v,h6,h7⟩:=h5 i k x b hi;⟨v,h6,h7.trim (h2 _ (List.mem_of_getElem? hi))⟩⟩
 ·intro i T hi
  obtain ⟨h1,hcu,xs,h2,h3⟩:=H.tok i T hi
  exact ⟨ht i _ hi,hcu,xs,h2,h3⟩
 ·exact H.tki
theorem box_rel (hD:D.OK) {bx:BX U} {b:bx.Ty} {s:TSt U} (hb:Dm D s.m 0 bx=some (b,bx.rs)) {E:Env} {V:Vu} {w:World} (H:HRel E V (s.er D).hp (s.er D).tk w) (h0:E.V0.nx≤bx.n):HRel E { V with nx:=bx.n } ((WD bx b).er D).hp ((WD bx b).er D).tk w:=by
 obtain ⟨⟨A,a1,a2⟩,a3,-,-⟩:=rdB_ok hD hb
 have ecb:KC bx b 0 (bx.rs.getD 1 0)=KC bx b 0 1:=by cases bx <;> rfl
 have ect:KB bx b (bx.rs.getD 1 0)=KB bx b 1:=by cases bx <;> rfl
 rw [ecb] at a2
 rw [ect] at a3
 rw [cmB_er hD]
 have w1:∀ i B,lk [(0,KC bx b 0 1)] i=some B→∃ A,lk (s.er D).hp i=some A∧∀ V w o,A.rel V w o→B.rel V w o:=by
  intro i B hB
  rw [Q8] at hB
  split at hB
  ·rename_i e;subst e;cases hB;exact ⟨A,a1,a2⟩
  ·cases hB
 have w2:∀ i B,lk [(0,KC bx b 0 1)] i=some B→i < bx.n∧B.below bx.n:=by
  intro i B hB
  rw [Q8] at hB
  split at hB
  ·rename_i e;subst e;cases hB
   cases bx with
   | stc T t=>exact ⟨Nat.one_pos,fun x hx=>by obtain ⟨c,_,rfl⟩:=List.mem_map.1 hx;trivial⟩
   | bld T E' t =>
    refine ⟨Nat.two_pos,fun x hx=>?_⟩
    rcases List.mem_cons.1 hx with rfl | hx
    ·exact Nat.two_pos
    ·rw [List.mem_singleton.1 hx];exact Nat.one_lt_two
  ·cases hB
 have w3:∀ i T,lk (KB bx b 1) i=some (some T)→i < bx.n:=by
  intro i T hT
  cases bx with
  | stc T' t=>cases hT
  | bld T' E' t =>
   have hT':lk [(1,(⟨E',t,b,0⟩:TTok U).erO)] i=some (some T):=hT
   rw [Q8] at hT'
   split at hT'
   ·rename_i e;subst e;exact Nat.one_lt_two
   ·cases hT'
 exact (H.weak w1 fun i T hT=>a3 i T hT).trimN w2 w3 h0
theorem Wm (x:BX U) (b:x.Ty):(WD x b).nx=x.n:=by cases x <;> rfl
def EndB (D:Codec U) (bx:BX U) (res:List (AK U)) (pk:PK) (y:(bx.Ty×tup res)⊕(pk.Ty×bx.Ty)) (o:OutM):Prop :=
 ∃ (s:TSt U) (b':bx.Ty),Dm D s.m 0 bx=some (b',bx.rs)∧match y with
  | .inl z=>z.1=b'∧∃ xs,o=.val (Qu xs) (s.er D).mem∧xs.length=(QO D res z.2).length∧∀ (i:Nat) (y:AV),(QO D res z.2)[i]?=some y→∃ x,xs[i]?=some x∧∀ V w v,x.rel V w v→y.rel (Y2 V.S) w v
  | .inr z=>z.2=b'∧o=.die (XU pk z.1) (s.er D).mem
theorem CallO.of_B (hD:D.OK) {W:Wd} {P:Program} {f:FuncId} {args:List AV} {bx:BX U} {b:bx.Ty} {res:List (AK U)} {pk:PK} {y:(bx.Ty×tup res)⊕(pk.Ty×bx.Ty)} (h:CallP W P f args ((WD bx b).er D) (EndB D bx res pk y)):CallO W P f args ((WD bx b).er D) (UZ D bx res pk y):=by
 refine Yr h.1 fun E V w vs hP hW H hn ha=>(h.2 E V w vs hP hW H hn ha).mono ?_
 rintro e w' ⟨o,⟨s,b',hb,hy⟩,ho⟩
 have hn':V.nx=bx.n:=hn.trans (Wm bx b)
 have h0:E.V0.nx≤bx.n:=by rw [← hn'];exact H.le0.nx
 have le:∀ V':Vu,V.Le V' w w'→V.Le { V' with nx:=bx.n } w w':=fun V' L=>⟨Nat.le_of_eq hn',L.ι,L.cu,L.κ,L.S,L.cell,L.dk⟩
 cases y with
 | inl z =>
  obtain ⟨rfl,xs,rfl,hl,hs⟩:=hy
  obtain ⟨v,V',rfl,H',hn2,L,hv⟩:=ho
  refine ⟨v,{ V' with nx:=bx.n },Z,box_rel hD hb H' h0,(Wm bx _).symm,le V' L,?_⟩
  exact (res_weak hl hs hv).mono (of_le (V:={ V' with nx:=bx.n }))
 | inr z =>
  obtain ⟨rfl,rfl⟩:=hy
  obtain ⟨V',rfl,H',hn2,L⟩:=ho
  exact ⟨{ V' with nx:=bx.n },Z,box_rel hD hb H' h0,(Wm bx _).symm,le V' L⟩
theorem encK_data_below {k:AK U} (hk:JY k=true) (v:k.Ty) (m:Nat):(KA k v 0).belowB m=true:=encK_below k v 0 (fun i hi=>by cases k <;> first | (cases hk;done) | (cases hi))
theorem Ga {C:TCfg U} {K:FuncId→List (TAV U)→Option (KR U)} {X:XH U} {P:Program} (hP:P=Tryz.prog) (hT:C.T.OK P) (hD:D.OK) {W:Wd} (hK:XA W D P K) (hX:GE W D P X) {f:FuncId} {fn:Func} (hf:P.funcs[f]?=some fn) (hen:Qg P f) (H:Hints U) (pf:PF U) (hd:pf.res.all JY=true) (hd2:pf.args.all JY=true)
  (h:∀ b v,pcall D C K X fn H pf.bx b (Kf pf.args v) pf.res pf.pk=pf.m b v):GH D W P f pf:=by
 refine ⟨⟨hd,hd2⟩,fun b v y hy=>?_⟩
 have h:=(h b v).trans hy
 unfold pcall at h
 split at h
 ·rename_i c tc hc
  obtain ⟨hc1,hc2⟩:=codeOf_ok hc
  cases l1:Nat.ble ((Kf pf.args v).length+1) fn.ntmps with
  | false=>rw [l1] at h;cases h
  | true =>
   rw [l1,cond_true] at h
   have ho:∀ (s:TSt U) (u:Option Value),Kr X D4 s u (UX D C pf.bx pf.res fn.results.toList) (D3 D pf.bx pf.pk)=some y→∀ e,Dz u e→∃ o,EndB D pf.bx pf.res pf.pk y o∧EndO W P fn (WD pf.bx b).nx e (s.er D) o:=by
    intro s u hend e he
    obtain ⟨s',a1,a2,a3,a4,a5⟩:=GB hX fn (WD pf.bx b).nx (noY_ok s.m) hend
    rcases a5 with ⟨b1,b2⟩ | ⟨pv,rfl,b1,b2⟩
    ·unfold UX at b1
     split at b1
     ·rename_i r hr
      split at b1
      ·rename_i b' ns hb
       cases hq:WC ns pf.bx.rs with
       | false=>rw [hq] at b1;cases b1
       | true =>
        rw [hq] at b1;cases b1
        obtain ⟨xs,q1,q2,q3⟩:=decR_ok (P:=P) hT hD hr
        have hns:=Kq hq
        subst hns
        exact ⟨_,⟨s',b',hb,Z,xs,Z,q2,q3⟩,b2 e (s'.er D) xs he a2 (ToW.refl _ _ _ _) q1⟩
      ·cases b1
     ·cases b1
    ·unfold D3 at b1
     split at b1
     ·rename_i ev hev
      split at b1
      ·rename_i b' ns hb
       cases hq:WC ns pf.bx.rs with
       | false=>rw [hq] at b1;cases b1
       | true =>
        rw [hq] at b1;cases b1
        have ee:=decP_ok hev
        subst ee
        have hns:=Kq hq
        subst hns
        exact ⟨_,⟨s',b',hb,Z,Z⟩,b2 e (s'.er D) he a2 (ToW.refl _ _ _ _)⟩
      ·cases b1
     ·cases b1
   have hcall:=call_ofP (m:=WD pf.bx b) hP hT hD hK hX (noY_ok _) hf hen hc1 hc2 (show (TAV.one (TA.ptr 0 0)::Kf pf.args v).length≤fn.ntmps from Nat.le_of_ble_eq_true l1) (fun E=>To.refl _ _) (Sfx.refl _) h (S:=EndB D pf.bx pf.res pf.pk y) (fun e s hs hk=>by
     cases e with
     | normal=>exact ho s none hk _ (.inl rfl)
     | ret=>cases hk
     | exit j=>cases hk
     | goto l=>cases hk
     | panic c=>cases hk
     | outgrown=>cases hk) (fun a hp hex=>by
     cases hp
     exact ⟨fun s hs e=>ho s none e _ (.inr Z),fun v s hs e=>ho s (some v) e _ Z⟩)
   have hargs:(TAV.one (TA.ptr 0 0)::Kf pf.args v).map (TAV.er D (WD pf.bx b).tk)=.one (.ptr 0 0)::QO D pf.args v:=by
    rw [List.map_cons]
    show AV.one (.ptr 0 0)::_=_
    rw [encL1_data hD (WD pf.bx b).tk v hd2]
   rw [hargs] at hcall
   exact CallO.of_B hD hcall
 ·cases h
theorem ptr_data (hD:D.OK) (ρ:Nat→Nat) {rk:List (AK U)} (hk:rk.all JY=true) (v:tup rk):(QO D rk v).map (AV.ren ρ)=QO D rk v:=by
 unfold QO
 rw [List.map_map]
 refine List.map_congr_left fun x hx=>?_
 obtain ⟨k,h1,a,rfl⟩:=encL_mem hx
 have hk':=List.all_eq_true.1 hk k h1
 cases k with
 | app i e t=>cases hk'
 | stc t =>
  have key:∀ x:U.R t,AV.ren ρ (AV.agg (Ji D [] [It.grp t x]))=AV.agg (Ji D [] [It.grp t x]):=fun x=>by
   rw [erL_grp hD]
   show AV.agg ((((U.E t).enc x).map CA.d).map (CA.ren ρ))=_
   rw [List.map_map];rfl
  exact key a
 | int k=>rfl
 | bool=>rfl
 | str=>rfl
 | sl t=>rfl
theorem res_ren (ρ:Nat→Nat) (xs:List AV) (h:xs.map (AV.ren ρ)=xs):(Qu xs).ren ρ=Qu xs:=by
 match xs,h with
 | [],h=>rfl
 | [x],h =>
  have:x.ren ρ=x:=by injection h
  show TV.v (x.ren ρ)=.v x
  rw [this]
 | x::y::l,h =>
  show TV.tup ((x::y::l).map (AV.ren ρ))=.tup (x::y::l)
  rw [h]
section
variable (D)
def tblF (tb:List (Nat×PF U)):XH U:=fun _ c args m=>match c with
 | .fn f=>match lk tb f,args with
  | some pf,.one (.ptr i off)::rest=>cond (Nat.beq off 0) (match Dm D m i pf.bx,Yx m.tk rest with
   | some (b,rs),some rest'=>cond (Dv m i rs pf.bx) (match UE D pf.args rest' with
    | some v=>some ⟨fun k d=>Option.bind (pf.m b v) (Sum.elim (fun r=>k (U6 pf.res r.2) (UH m i rs pf.bx r.1)) fun e=>d (XU pf.pk e.1) (UH m i rs pf.bx e.2))⟩
    | none=>none) none
   | _,_=>none) none
  | _,_=>none
 | _=>none
end
def JV {α:Type} (rs:List Nat) (l:List (Nat×α)):List (Nat×α):=l.filter fun p=>!(rs.contains p.1)
theorem KW {α:Type} (rs:List Nat):∀ (l:List (Nat×α)) (i:Nat),lk (JV rs l) i=if i∈rs then none else lk l i
  | [],i=>by unfold JV;simp [lk]
  | (k,x)::l,i=>by
    have ih:=KW rs l i
    unfold JV at ih ⊢
    rw [List.filter_cons]
    by_cases hk:k∈rs
    · have:(!(rs.contains (k,x).1))=false:=by simp [hk]
      rw [this,if_neg (by simp),ih]
      by_cases hi:i∈rs
      · rw [if_pos hi,if_pos hi]
      · rw [if_neg hi,if_neg hi,Q8,if_neg (fun e=>hi (by rw [← e];exact hk))]
    · have:(!(rs.contains (k,x).1))=true:=by simp [hk]
      rw [this,if_pos rfl,Q8,ih,Q8]
      by_cases e:k=i
      · rw [if_pos e,if_pos e,if_neg (by rw [← e];exact hk)]
      · rw [if_neg e,if_neg e]
theorem hpLe_of {hp:List (Nat×HB)}:∀ {l:List (Nat×HB)},(∀ p∈l,lk hp p.1=some p.2)→hpLe hp l
  | [],h=>trivial
  | (i,x)::l,h=>⟨⟨x,h _ (List.mem_cons_self ..),.refl _⟩,hpLe_of fun p hp=>h p (List.mem_cons_of_mem _ hp)⟩
theorem setL_whole {zs ys:List CA} (h:zs.length=ys.length):setL zs 0 ys=ys:=by
 rw [setL_eq ys zs 0 (by omega),List.take_zero,List.nil_append,List.drop_of_length_le (by omega),List.append_nil]
theorem encL_below {ks:List (AK U)} (hk:ks.all JY=true) (v:tup ks) (n:Nat):∀ y∈QO D ks v,y.below n:=by
 intro y hy
 obtain ⟨x,hx,rfl⟩:=List.mem_map.1 hy
 obtain ⟨k,h1,a,rfl⟩:=encL_mem hx
 exact TAV.er_below _ (encK_data_below (List.all_eq_true.1 hk k h1) a n)
theorem wr_ok (hD:D.OK) {m:TMe U} {i:Nat} {x:BX U} {b:x.Ty} {rs:List Nat} (h:Dm D m i x=some (b,rs)) (hk:Dv m i rs x=true) (b':x.Ty) :
  (∀ k B,lk ((UH m i rs x b').er D).hp k=some B→(k=i∧∀ V w o,(KC x b' i (rs.getD 1 0)).rel V w o→B.rel V w o)∨(k∉rs∧∃ A,lk (m.er D).hp k=some A∧∀ V w o,A.rel V w o→B.rel V w o)) ∧
  (∀ k T,lk ((UH m i rs x b').er D).tk k=some (some T)→lk (KB x b' (rs.getD 1 0)) k=some (some T)∨(k∉rs∧lk (m.er D).tk k=some (some T)))∧SfM m (UH m i rs x b')∧(UH m i rs x b').nx=m.nx:=by
 cases x with
 | stc T t =>
  have h':(match YQ m.es i with
   | some (T',N)=>cond (Nat.beq T' T&&Nat.beq N (U.E t).sz) (match GJ D m.es i 0 N with
    | some xs=>match Wo D m.tk t xs with
     | some v=>some (v,[i])
     | none=>none
    | none=>none) none
   | none=>none)=some (b,rs):=h
  split at h'
  ·rename_i T' N hb
   cases hc:(Nat.beq T' T&&Nat.beq N (U.E t).sz) with
   | false=>rw [hc] at h';cases h'
   | true =>
    rw [hc,cond_true] at h'
    obtain ⟨c1,c2⟩:=Bool.and_eq_true_iff.1 hc
    have e1:=Nat.eq_of_beq_eq_true c1
    have e2:=Nat.eq_of_beq_eq_true c2
    subst e1
    split at h'
    ·split at h'
     ·cases h'
      obtain ⟨ys,b1,b2⟩:=Y9 hD (tk:=m.tk) hb
      have hk':(ZV [i]&&([i].all (fun j=>Nat.blt j m.nx)&&(lk m.tk i).isNone))=true:=hk
      obtain ⟨k1,k2⟩:=Bool.and_eq_true_iff.1 hk'
      obtain ⟨k2,k3⟩:=Bool.and_eq_true_iff.1 k2
      have hrow:∀ v:U.R t,Ji D m.tk [It.grp t v]=((U.E t).enc v).map .d:=fun v=>erL_grp hD m.tk t v
      refine ⟨fun k B hB=>?_,fun k T hT=>?_,⟨⟨[_],Z⟩,⟨[],Z⟩,Nat.le_refl _⟩,Z⟩
      ·have hB':lk (match lk (Qm D m.tk m.es) i with
        | some (.cells T ys)=>(i,.cells T (setL ys 0 (Ji D m.tk [It.grp t b'])))::Qm D m.tk m.es
        | _=>Qm D m.tk m.es) k=some B:=hB
       rw [b1] at hB'
       dsimp only at hB'
       rw [Q8] at hB'
       split at hB'
       ·rename_i ek
        left
        refine ⟨ek.symm,fun V w o hr=>?_⟩
        cases hB'
        rw [setL_whole (by rw [Z8 hD,b2,e2];rfl),hrow b']
        exact hr
       ·rename_i ek
        right
        exact ⟨fun hm=>ek (List.mem_singleton.1 hm).symm,B,hB',fun _ _ _ h=>h⟩
      ·right
       refine ⟨fun hm=>?_,hT⟩
       rw [List.mem_singleton.1 hm] at hT
       have hT':lk (QM TTok.erO m.tk) i=some (some T):=hT
       rw [QP] at hT'
       cases hz:lk m.tk i with
       | none=>rw [hz] at hT';cases hT'
       | some z=>rw [hz] at k3;cases k3
     ·cases h'
    ·cases h'
  ·cases h'
 | bld T E t =>
  have h0:=h
  have h':(match YQ m.es i with
   | some (T',N)=>cond (Nat.beq T' T&&Nat.beq N 2) (match GJ D m.es i 0 2 with
    | some [.one (.ptr i' off),.one (.app j ver)]=>match cur m.tk j ver with
     | some tok=>cond (Nat.beq i' i&&(Nat.beq off 0&&(Nat.beq tok.E E&&!(Nat.beq E 0)))) (match Kg tok.t t tok.l with
      | some l=>some (l,[i,j])
      | none=>none) none
     | none=>none
    | _=>none) none
   | none=>none)=some (b,rs):=h
  split at h'
  ·rename_i T' N hb
   cases hc:(Nat.beq T' T&&Nat.beq N 2) with
   | false=>rw [hc] at h';cases h'
   | true =>
    rw [hc,cond_true] at h'
    obtain ⟨c1,c2⟩:=Bool.and_eq_true_iff.1 hc
    have e1:=Nat.eq_of_beq_eq_true c1
    have e2:=Nat.eq_of_beq_eq_true c2
    subst e1;subst e2
    split at h'
    ·rename_i i' off j ver hr
     split at h'
     ·rename_i tok hcur
      cases hq:(Nat.beq i' i&&(Nat.beq off 0&&(Nat.beq tok.E E&&!(Nat.beq E 0)))) with
      | false=>rw [hq] at h';cases h'
      | true =>
       rw [hq,cond_true] at h'
       obtain ⟨q1,q23⟩:=Bool.and_eq_true_iff.1 hq
       obtain ⟨q2,q3⟩:=Bool.and_eq_true_iff.1 q23
       have f1:=Nat.eq_of_beq_eq_true q1
       have f2:=Nat.eq_of_beq_eq_true q2
       subst f1;subst f2
       split at h'
       ·cases h'
        have hk':(ZV [i',j]&&([i',j].all (fun j=>Nat.blt j m.nx)&&((lk m.tk i').isNone&&(m.es.all (Zy j)&&!(m.es.any (Ev.hasApp j (QX m.tk j)))))))=true:=hk
        obtain ⟨k1,k2⟩:=Bool.and_eq_true_iff.1 hk'
        obtain ⟨k2,k3⟩:=Bool.and_eq_true_iff.1 k2
        obtain ⟨k3,k4⟩:=Bool.and_eq_true_iff.1 k3
        obtain ⟨k4,k5⟩:=Bool.and_eq_true_iff.1 k4
        have hij:i' ≠ j:=fun e=>by
         have:=nodupN_ok k1
         rw [e] at this
         simp at this
        obtain ⟨tk',htk'⟩:∃ tk',tk'=(j,(⟨E,t,b',QX m.tk j⟩:TTok U))::m.tk:=⟨_,rfl⟩
        obtain ⟨ys,b1,b2⟩:=Y9 hD (tk:=tk') hb
        obtain ⟨T2,zs,r1,r2,r3⟩:=Yd hD (tk:=tk') hr
        rw [b1] at r1;cases r1
        rw [whole_row b2] at r3
        have eapp:(TA.app j (QX m.tk j):TA U).er tk'=.app j (U.E t).sz ((U.E t).encL b'):=by
         show (match cur tk' j (QX m.tk j) with
          | some T=>CA.app j (U.E T.t).sz ((U.E T.t).encL T.l)
          | none=>CA.any)=_
         rw [htk',Z9,if_pos rfl,if_pos rfl]
        have hst:=Yz (D:=D) (tk:=m.tk) (tk':=tk') (es:=m.es) (by
         rw [htk']
         exact X3 fun hp=>by
          have:m.es.any (Ev.hasApp j (QX m.tk j))=true:=hp
          have k5':(!(m.es.any (Ev.hasApp j (QX m.tk j))))=true:=k5
          rw [this] at k5';cases k5')
        refine ⟨fun k B hB=>?_,fun k T hT=>?_,⟨⟨[_],Z⟩,⟨[_],Z⟩,Nat.le_refl _⟩,Z⟩
        ·have hB':lk (match lk (Qm D tk' m.es) i' with
          | some (.cells T ys)=>(i',.cells T (setL ys 1 (Ji D tk' [It.one (.app j (QX m.tk j))])))::Qm D tk' m.es
          | _=>Qm D tk' m.es) k=some B:=by rw [htk'];exact hB
         rw [b1] at hB'
         dsimp only at hB'
         rw [Q8] at hB'
         split at hB'
         ·rename_i ek
          left
          refine ⟨ek.symm,fun V w o hr=>?_⟩
          cases hB'
          have e5:setL ys 1 (Ji D tk' [It.one (.app j (QX m.tk j))])=[.ptr i' 0,.app j (U.E t).sz ((U.E t).encL b')]:=by
           rw [r3]
           show setL [CA.ptr i' 0,(TA.app j ver:TA U).er tk'] 1 [(TA.app j (QX m.tk j):TA U).er tk']=_
           rw [eapp];rfl
          rw [e5]
          exact hr
         ·rename_i ek
          right
          have hkj:k ≠ j:=fun e=>by
           rw [e,noLp_none (show m.es.all (Zy j)=true from k4)] at hB'
           cases hB'
          have ow:=hst k
          rw [hB'] at ow
          cases hA:lk (Qm D m.tk m.es) k with
          | none=>rw [hA] at ow;exact ow.elim
          | some A =>
           rw [hA] at ow
           refine ⟨fun hm=>?_,A,hA,fun V w o hr=>BW.rel ow hr⟩
           rcases List.mem_cons.1 hm with e | hm
           ·exact ek e.symm
           ·exact hkj (List.mem_singleton.1 hm)
        ·have hT':lk (QM TTok.erO ((j,(⟨E,t,b',QX m.tk j⟩:TTok U))::m.tk)) k=some (some T):=hT
         have hT2:lk ((j,(⟨E,t,b',QX m.tk j⟩:TTok U).erO)::QM TTok.erO m.tk) k=some (some T):=hT'
         rw [Q8] at hT2
         split at hT2
         ·rename_i ek
          left
          rw [← hT2]
          show lk [(j,_)] k=_
          rw [Q8,if_pos ek];rfl
         ·rename_i ek
          right
          refine ⟨fun hm=>?_,hT2⟩
          rcases List.mem_cons.1 hm with e | hm
          ·rw [e,QP] at hT2
           cases hz:lk m.tk i' with
           | none=>rw [hz] at hT2;cases hT2
           | some z =>
            have k3':(lk m.tk i').isNone=true:=k3
            rw [hz] at k3';cases k3'
          ·exact ek (List.mem_singleton.1 hm).symm
       ·cases h'
     ·cases h'
    ·cases h'
  ·cases h'
theorem okB_ok {m:TMe U} {i:Nat} {rs:List Nat} {x:BX U} (h:Dv m i rs x=true):rs.Nodup∧∀ j∈rs,j < m.nx:=by
 have key:ZV rs=true∧rs.all (fun j=>Nat.blt j m.nx)=true:=by
  cases x with
  | stc T t =>
   have h':(ZV rs&&(rs.all (fun j=>Nat.blt j m.nx)&&(lk m.tk i).isNone))=true:=h
   obtain ⟨k1,k2⟩:=Bool.and_eq_true_iff.1 h'
   exact ⟨k1,(Bool.and_eq_true_iff.1 k2).1⟩
  | bld T E t =>
   have h':(ZV rs&&(rs.all (fun j=>Nat.blt j m.nx)&&((lk m.tk i).isNone&&(m.es.all (Zy (rs.getD 1 0))&&!(m.es.any (Ev.hasApp (rs.getD 1 0) (QX m.tk (rs.getD 1 0))))))))=true:=h
   obtain ⟨k1,k2⟩:=Bool.and_eq_true_iff.1 h'
   exact ⟨k1,(Bool.and_eq_true_iff.1 k2).1⟩
 exact ⟨nodupN_ok key.1,fun j hj=>Nat.le_of_ble_eq_true (List.all_eq_true.1 key.2 j hj)⟩
theorem cbox_below (x:BX U) (b:x.Ty):hpBelow x.n [(0,KC x b 0 1)]:=by
 cases x with
 | stc T t=>exact ⟨Nat.one_pos,fun x hx=>by obtain ⟨c,_,rfl⟩:=List.mem_map.1 hx;trivial,trivial⟩
 | bld T E t =>
  refine ⟨Nat.two_pos,fun x hx=>?_,trivial⟩
  rcases List.mem_cons.1 hx with rfl | hx
  ·exact Nat.two_pos
  ·rw [List.mem_singleton.1 hx];exact Nat.one_lt_two
theorem ctok_below (x:BX U) (b:x.Ty):tkBelow x.n (KB x b 1):=by
 cases x with
 | stc T t=>trivial
 | bld T E t=>exact ⟨Nat.one_lt_two,trivial⟩
theorem ren_box (x:BX U) {rs:List Nat} (hl:rs.length=x.n) (n:Nat):ZG rs n 0=rs.getD 0 0∧rs.getD 0 0∈rs∧∀ z:x.Ty,JL (ZG rs n) [(0,KC x z 0 1)]=[(rs.getD 0 0,KC x z (rs.getD 0 0) (rs.getD 1 0))]∧Y5 (ZG rs n) (KB x z 1)=KB x z (rs.getD 1 0)∧∀ (k:Nat) (T:Option Tok),lk (KB x z (rs.getD 1 0)) k=some T→k∈rs:=by
 cases x with
 | stc T t =>
  match rs,hl with
  | [q],_ =>
   refine ⟨rfl,List.mem_cons_self ..,fun z=>⟨?_,rfl,fun k T h=>by cases h⟩⟩
   show [(q,(KC (BX.stc T t) z 0 1).ren _)]=_
   rw [cbox_ren];rfl
 | bld T E t =>
  match rs,hl with
  | [q,q2],_ =>
   refine ⟨Z,List.mem_cons_self ..,fun z=>⟨?_,Z,fun k T h=>?_⟩⟩
   ·show [(q,(KC (BX.bld T E t) z 0 1).ren _)]=_
    rw [cbox_ren];rfl
   ·have h':lk [(q2,(⟨E,t,z,0⟩:TTok U).erO)] k=some T:=h
    rw [Q8] at h'
    split at h'
    ·rename_i e;rw [← e];exact List.mem_cons_of_mem _ (List.mem_cons_self ..)
    ·cases h'
theorem ctok_le (x:BX U) (b:x.Ty) (j:Nat) (r:List (Nat×Option Tok)):tkLe (KB x b j++r) (KB x b j):=by
 cases x with
 | stc T t=>trivial
 | bld T E t=>exact ⟨fun T hT=>by show lk ((j,_)::_) _=_;rw [Q8,if_pos rfl,hT],trivial⟩
def JM {α:Type}:List (Nat×α)→List (Nat×α)
  | []=>[]
  | (k,x)::l=>(k,x)::QI k (JM l)
theorem Kw {α:Type}:∀ (l:List (Nat×α)) (i:Nat),lk (JM l) i=lk l i
  | [],i=>rfl
  | (k,x)::l,i=>by
    show lk ((k,x)::QI k (JM l)) i=_
    rw [JA,Q8,Q8,Kw l i]
theorem fronts_mem {α:Type}:∀ (l:List (Nat×α)),∀ p∈JM l,lk l p.1=some p.2
  | [],p,h=>by cases h
  | (k,x)::l,p,h=>by
    rcases List.mem_cons.1 h with e | h
    · rw [e,Q8,if_pos rfl]
    · obtain ⟨h1,h2⟩:=List.mem_filter.1 h
      have hne:p.1 ≠ k:=ZC (by simpa using h2)
      rw [Q8,if_neg (fun e=>hne e.symm)]
      exact fronts_mem l p h1
theorem tkLe_of {tk:List (Nat×Option Tok)}:∀ {l:List (Nat×Option Tok)},(∀ p∈l,lk tk p.1=some p.2)→tkLe tk l
  | [],h=>trivial
  | (i,x)::l,h=>⟨fun T e=>by rw [h _ (List.mem_cons_self ..),e],tkLe_of fun p hp=>h p (List.mem_cons_of_mem _ hp)⟩
theorem call_box {W:Wd} {P:Program} (hD:D.OK) {f:FuncId} {bx:BX U} {b:bx.Ty} {args0:List AV} {m:TMe U} {i:Nat} {rs:List Nat} {o:OutM} (hrd:Dm D m i bx=some (b,rs)) (hok:Dv m i rs bx=true) (ha:∀ ρ:Nat→Nat,args0.map (AV.ren ρ)=args0) (hb:∀ y∈args0,y.below bx.n)
    (hc:CallO W P f (.one (.ptr 0 0)::args0) ((WD bx b).er D) o) (hn:o.m.nx=bx.n):CallO W P f (.one (.ptr i 0)::args0) (m.er D) (o.ren (ZG rs m.nx) (JM (JV rs (m.er D).hp)) (JM (JV rs (m.er D).tk)) m.nx):=by
  obtain ⟨hnd,hlt⟩:=okB_ok hok
  obtain ⟨⟨A,a1,a2⟩,a3,a4,a5⟩:=rdB_ok hD hrd
  obtain ⟨ρ0,him,ρb⟩:=ren_box bx a4 m.nx
  rw [a5] at ρ0 him ρb
  obtain ⟨r1,r2,r3⟩:=ρb b
  rw [cmB_er hD] at hc
  have hren:=CallO.ren (n:=m.nx) (nx2:=m.nx) (hp:=[(i,KC bx b i (rs.getD 1 0))]++JV rs (m.er D).hp) (tk:=KB bx b (rs.getD 1 0)++JV rs (m.er D).tk) (hpF:=JM (JV rs (m.er D).hp)) (tkF:=JM (JV rs (m.er D).tk)) rs hc
    (by
      rw [r1]
      exact hpLe_of fun p hp=>by rw [List.mem_singleton.1 hp];show lk ((i,_)::_) i=_;rw [Q8,if_pos rfl])
    (by rw [r2];exact ctok_le _ _ _ _)
    (hpLe_of fun p hp=>by
      have h1:=fronts_mem _ p hp
      show lk ((i,_)::JV rs (m.er D).hp) p.1=_
      have hni:p.1 ≠ i:=fun e=>by
        rw [KW,e,if_pos him] at h1;cases h1
      rw [Q8,if_neg (fun e=>hni e.symm)];exact h1)
    (tkLe_of fun p hp=>by
      have h1:=fronts_mem _ p hp
      have hni:p.1∉rs:=fun e=>by rw [KW,if_pos e] at h1;cases h1
      rw [GL]
      cases hc:lk (KB bx b (rs.getD 1 0)) p.1 with
      | none=>exact h1
      | some x=>exact (hni (r3 _ _ hc)).elim)
    a4 hnd hlt
    (fun k B hB hm=>by rw [Kw,KW,if_pos hm] at hB;cases hB)
    (fun k T hT hm=>by rw [Kw,KW,if_pos hm] at hT;cases hT)
    (cbox_below _ _) (ctok_below _ _)
    (fun y hy=>by
      rcases List.mem_cons.1 hy with rfl | hy
      · show 0 < bx.n;cases bx <;> first | exact Nat.one_pos | exact Nat.two_pos
      · exact hb y hy)
    (by rw [hn];exact Nat.le_refl _) (by rw [hn];exact Nat.add_comm _ _)
  have eargs:((AV.one (.ptr 0 0))::args0).map (AV.ren (ZG rs m.nx))=.one (.ptr i 0)::args0:=by
    rw [List.map_cons,ha]
    show AV.one (.ptr (ZG rs m.nx 0) 0)::args0=_
    rw [ρ0]
  rw [eargs] at hren
  refine CallO.pre (m0:=⟨[(i,KC bx b i (rs.getD 1 0))]++JV rs (m.er D).hp,KB bx b (rs.getD 1 0)++JV rs (m.er D).tk,m.nx⟩) (fun k B hB=>?_) (fun k T hT=>?_) Z hren
  · have hB':lk ((i,KC bx b i (rs.getD 1 0))::JV rs (m.er D).hp) k=some B:=hB
    rw [Q8] at hB'
    split at hB'
    · rename_i e;subst e;cases hB';exact ⟨A,a1,a2⟩
    · rw [KW] at hB'
      split at hB'
      · cases hB'
      · exact ⟨B,hB',fun _ _ _ h=>h⟩
  · have hT':lk (KB bx b (rs.getD 1 0)++JV rs (m.er D).tk) k=some (some T):=hT
    rw [GL] at hT'
    split at hT'
    · rename_i x hx;cases hT';exact a3 k T hx
    · rw [KW] at hT'
      split at hT'
      · cases hT'
      · exact hT'
theorem ZE (hD:D.OK) {P:Program} {tb:List (Nat×PF U)} {W:Wd} (h:AllT (GH D W P) tb):GE W D P (tblF D tb):=by
 intro Y c args m xo hY hx
 unfold tblF at hx
 split at hx
 ·rename_i f
  split at hx
  ·rename_i pf i off rest hpf
   cases hoff:Nat.beq off 0 with
   | false=>rw [hoff] at hx;cases hx
   | true =>
    rw [hoff,cond_true] at hx
    have eoff:=Nat.eq_of_beq_eq_true hoff
    subst eoff
    split at hx
    ·rename_i b rs rest' hrd hs
     cases hok:Dv m i rs pf.bx with
     | false=>rw [hok] at hx;cases hx
     | true =>
      rw [hok,cond_true] at hx
      split at hx
      ·rename_i v hv;cases hx
       obtain ⟨⟨hd1,hd2⟩,hm⟩:=h.get hpf
       intro β k d r hr
       obtain ⟨y,hy,hk⟩:=YR (show Option.bind _ _=some r from hr)
       have hc:=hm b v y hy
       have hn:(UZ D pf.bx pf.res pf.pk y).m.nx=pf.bx.n:=by
        cases y with
        | inl y=>exact Wm _ _
        | inr y=>exact Wm _ _
       have call:=call_box hD hrd hok (fun ρ=>ptr_data hD ρ hd2 v) (encL_below hd2 v _) hc hn
       obtain ⟨-,-,a4,a5⟩:=rdB_ok hD hrd
       obtain ⟨-,-,ρb⟩:=ren_box pf.bx a4 m.nx
       rw [a5] at ρb
       have hargs:∀ V w vs,argsRel V w ((TAV.one (TA.ptr i 0)::rest).map (TAV.er D m.tk)) vs→argsRel V w (AV.one (.ptr i 0)::QO D pf.args v) vs:=by
        intro V w vs ha
        have hsb:=settleVs_ok (D:=D) hs (decL_asub hD hv m.tk)
        obtain ⟨h3,h4⟩:=hsb.spec
        refine ⟨by rw [ha.1,List.map_cons,List.length_cons,List.length_cons,h3],fun j z hz=>?_⟩
        cases j with
        | zero =>
         cases hz
         exact ha.2 0 _ Z
        | succ j =>
         obtain ⟨x,hx,hxy⟩:=h4 j z hz
         obtain ⟨u,hu,hr⟩:=ha.2 (j+1) x hx
         exact ⟨u,hu,(hxy.rel hr).mono (of_le (V:=V))⟩
       have post:∀ b':pf.bx.Ty,(UZ D pf.bx pf.res pf.pk y).m=(WD pf.bx b').er D→CallO W P f (AV.one (.ptr i 0)::QO D pf.args v) (m.er D) (((UZ D pf.bx pf.res pf.pk y).ren (ZG rs m.nx) (JM (JV rs (m.er D).hp)) (JM (JV rs (m.er D).tk)) m.nx).with ((UH m i rs pf.bx b').er D))∧SfM m (UH m i rs pf.bx b'):=by
        intro b' hb'
        obtain ⟨w1,w2,w3,w4⟩:=wr_ok hD hrd hok b'
        obtain ⟨r1,r2,-⟩:=ρb b'
        have em:((UZ D pf.bx pf.res pf.pk y).ren (ZG rs m.nx) (JM (JV rs (m.er D).hp)) (JM (JV rs (m.er D).tk)) m.nx).m=⟨[(i,KC pf.bx b' i (rs.getD 1 0))]++JM (JV rs (m.er D).hp),KB pf.bx b' (rs.getD 1 0)++JM (JV rs (m.er D).tk),m.nx⟩:=by
         have e0:∀ o:OutM,(o.ren (ZG rs m.nx) (JM (JV rs (m.er D).hp)) (JM (JV rs (m.er D).tk)) m.nx).m=⟨JL (ZG rs m.nx) o.m.hp++JM (JV rs (m.er D).hp),Y5 (ZG rs m.nx) o.m.tk++JM (JV rs (m.er D).tk),m.nx⟩:=fun o=>by cases o <;> rfl
         rw [e0,hb',cmB_er hD]
         show (⟨JL _ [(0,KC pf.bx b' 0 1)]++_,Y5 _ (KB pf.bx b' 1)++_,_⟩:Mem)=_
         rw [r1,r2]
        refine ⟨CallO.post (fun k B hB=>?_) (fun k T hT=>?_) (by rw [em];exact w4) call,w3⟩
        ·rw [em]
         show ∃ A,lk ((i,KC pf.bx b' i (rs.getD 1 0))::JM (JV rs (m.er D).hp)) k=some A∧_
         rcases w1 k B hB with ⟨e,hw⟩ | ⟨hn',A,hA,hw⟩
         ·exact ⟨_,by rw [Q8,if_pos e.symm],hw⟩
         ·refine ⟨A,?_,hw⟩
          have hki:i ≠ k:=fun e=>by
           obtain ⟨-,him,-⟩:=ren_box pf.bx a4 m.nx
           rw [a5,e] at him
           exact hn' him
          rw [Q8,if_neg hki,Kw,KW,if_neg hn']
          exact hA
        ·rw [em]
         show lk (KB pf.bx b' (rs.getD 1 0)++JM (JV rs (m.er D).tk)) k=some (some T)
         rw [GL]
         rcases w2 k T hT with e | ⟨hn',e⟩
         ·rw [e]
         ·obtain ⟨-,-,r3⟩:=ρb b'
          cases hz:lk (KB pf.bx b' (rs.getD 1 0)) k with
          | some x=>exact (hn' (r3 k x hz)).elim
          | none=>dsimp only;rw [Kw,KW,if_neg hn'];exact e
       cases y with
       | inl y =>
        obtain ⟨p1,p2⟩:=post y.1 rfl
        refine ⟨.val (U6 pf.res y.2) (UH m i rs pf.bx y.1),?_,p2,hk⟩
        show CallO W P f ((TAV.one (TA.ptr i 0)::rest).map (TAV.er D m.tk)) (m.er D) (.val ((U6 pf.res y.2).er D _) _)
        rw [outT_er hD _ y.2 hd1]
        have e:((UZ D pf.bx pf.res pf.pk (.inl y)).ren (ZG rs m.nx) (JM (JV rs (m.er D).hp)) (JM (JV rs (m.er D).tk)) m.nx).with ((UH m i rs pf.bx y.1).er D)=.val (Qu (QO D pf.res y.2)) ((UH m i rs pf.bx y.1).er D):=by
         show OutM.val ((Qu (QO D pf.res y.2)).ren _) _=_
         rw [res_ren _ _ (ptr_data hD _ hd1 y.2)]
        rw [e] at p1
        exact CallO.args hargs p1
       | inr y =>
        obtain ⟨p1,p2⟩:=post y.2 rfl
        exact ⟨.die (XU pf.pk y.1) (UH m i rs pf.bx y.2),CallO.args (o:=.die (XU pf.pk y.1) ((UH m i rs pf.bx y.2).er D)) hargs p1,p2,hk⟩
      ·cases hx
    ·cases hx
  ·cases hx
 ·cases hx
end
end Go.Proofs.YtjcfppnjamjjhaaGreatDoor
namespace Go.Proofs.YtjcfppnjamjjhaaGreatDoor
open Go.RowKit
section
variable {U:Univ} (D:Codec U)
def ccH (f T:Nat):XH U:=fun _ c args m=>match c with
 | .fn g=>match args with
  | [.one (.ptr i off)]=>cond (Nat.beq g f&&Nat.beq off 0) (match YQ m.es i,GJ D m.es i 0 1 with
   | some (T',N),some [.one (.ptr i' o')]=>cond (Nat.beq i' i&&Nat.beq o' 0) (some ⟨fun k _=>k (.tup []) m⟩) none
   | some (T',N),some [.one (.c (.v (.pointer none)))]=>cond (Nat.beq T' T&&Nat.beq N 2) (some ⟨fun k _=>k (.tup []) ⟨.set i 0 [.one (.ptr i 0)]::m.es,m.tk,m.nx⟩⟩) none
   | _,_=>none) none
  | _=>none
 | _=>none
variable {D}
theorem one_arg {V:Vu} {w:World} {x:AV} {vs:Array Value} (h:argsRel V w [x] vs):∃ u,vs=#[u]∧x.rel V w u:=by
 obtain ⟨u,hu,hr⟩:=h.2 0 x rfl
 refine ⟨u,?_,hr⟩
 apply Array.ext_getElem?
 intro k
 match k with
 | 0=>rw [hu];rfl
 | k+1=>rw [Array.getElem?_eq_none (by rw [h.1];simp)];simp
theorem ccH_ok (hD:D.OK) {W:Wd} {P:Program} {f T:Nat} (hen:Qg P f)
  (hu:∀ b w,w.cell? ⟨b,0,none⟩=some (.pointer (some ⟨b,0,none⟩))→Calls P f #[.pointer (some ⟨b,0,none⟩)] w fun e w'=>e=.returned (.tuple #[])∧w'=w)
  (hf:∀ b w,w.cell? ⟨b,0,none⟩=some (.pointer none)→w.shape? b=some (T,2)→w.frozen? ⟨b,0,none⟩=false →
   Calls P f #[.pointer (some ⟨b,0,none⟩)] w fun e w'=>e=.returned (.tuple #[])∧w'=w.setCell ⟨b,0,none⟩ (.pointer (some ⟨b,0,none⟩))):GE W D P (ccH D f T):=by
 intro Y c args m xo hY hx
 unfold ccH at hx
 split at hx
 ·rename_i g
  split at hx
  ·rename_i i off
   cases hc:(Nat.beq g f&&Nat.beq off 0) with
   | false=>rw [hc] at hx;cases hx
   | true =>
    rw [hc,cond_true] at hx
    obtain ⟨c1,c2⟩:=Bool.and_eq_true_iff.1 hc
    have e1:=Nat.eq_of_beq_eq_true c1;have e2:=Nat.eq_of_beq_eq_true c2
    subst e1 e2
    have first:∀ {x:TA U},GJ D m.es i 0 1=some [.one x]→∃ T ys,lk (m.er D).hp i=some (.cells T ys)∧ys[0]?=(Ji D m.tk [.one x])[0]?:=fun {x} h=>by
     obtain ⟨T,ys,h1,h2,h3⟩:=Yd hD (tk:=m.tk) h
     refine ⟨T,ys,h1,?_⟩
     rw [← h3];simp
    split at hx
    ·rename_i T' N i' o' hb hr
     cases hc2:(Nat.beq i' i&&Nat.beq o' 0) with
     | false=>rw [hc2] at hx;cases hx
     | true =>
      rw [hc2] at hx;cases hx
      obtain ⟨d1,d2⟩:=Bool.and_eq_true_iff.1 hc2
      have e1:=Nat.eq_of_beq_eq_true d1;have e2:=Nat.eq_of_beq_eq_true d2
      subst e1 e2
      obtain ⟨T2,ys,hl,hy⟩:=first hr
      intro β k d r hrun
      refine ⟨.val (.tup []) m,?_,SfM.refl m,hrun⟩
      refine Yr hen (o:=.val (.tup []) (m.er D)) fun E V w vs hP hW H hn ha=>?_
      obtain ⟨u,rfl,hu'⟩:=one_arg ha
      obtain ⟨-,rfl⟩:i' < V.nx∧u=.pointer (some ⟨V.ι i',0,none⟩):=hu'
      obtain ⟨-,o,ho,vs,rfl,hvs⟩:=H.own _ _ hl
      obtain ⟨u0,hu0,hr0⟩:=hvs.2 0 _ hy
      obtain ⟨-,rfl⟩:i' < V.nx∧u0=.pointer (some ⟨V.ι i',0,none⟩):=hr0
      refine (hu (V.ι i') w (by rw [Jh ho];exact hu0)).mono ?_
      rintro e w' ⟨rfl,rfl⟩
      exact ⟨_,V,rfl,H,hn,Vu.Le.refl _ _,⟨#[],rfl,rfl,fun i y hy=>by cases hy⟩⟩
    ·rename_i T' N hb hr
     cases hc2:(Nat.beq T' T&&Nat.beq N 2) with
     | false=>rw [hc2] at hx;cases hx
     | true =>
      rw [hc2] at hx;cases hx
      obtain ⟨d1,d2⟩:=Bool.and_eq_true_iff.1 hc2
      have e1:=Nat.eq_of_beq_eq_true d1;have e2:=Nat.eq_of_beq_eq_true d2
      subst e1 e2
      obtain ⟨T2,ys,hl,hy⟩:=first hr
      obtain ⟨ys2,hl2,hlen⟩:=Y9 hD (tk:=m.tk) hb
      obtain ⟨rfl,rfl⟩:T2=T'∧ys=ys2:=by
       have:=hl.symm.trans hl2
       cases this;exact ⟨rfl,rfl⟩
      intro β k d r hrun
      refine ⟨.val (.tup []) ⟨.set i 0 [.one (.ptr i 0)]::m.es,m.tk,m.nx⟩,?_,⟨⟨[_],Z⟩,⟨[],Z⟩,Nat.le_refl _⟩,hrun⟩
      refine Yr hen (o:=.val (.tup []) ((⟨.set i 0 [.one (.ptr i 0)]::m.es,m.tk,m.nx⟩:TMe U).er D)) fun E V w vs hP hW H hn ha=>?_
      obtain ⟨u,rfl,hu'⟩:=one_arg ha
      obtain ⟨hi,rfl⟩:i < V.nx∧u=.pointer (some ⟨V.ι i,0,none⟩):=hu'
      obtain ⟨-,o,ho,vs,rfl,hvs⟩:=H.own _ _ hl
      obtain ⟨u0,hu0,hr0⟩:=hvs.2 0 _ hy
      have e0:u0=.pointer none:=by cases hr0;rfl
      subst e0
      refine (hf (V.ι i) w (by rw [Jh ho];exact hu0) (by have:=hvs.1;unfold World.shape?;rw [ho];simp only [];rw [this,hlen]) (free_of_own ho 0)).mono ?_
      rintro e w' ⟨rfl,rfl⟩
      obtain ⟨H1,L1⟩:=H.store hl 0 (x:=.ptr i 0) (u:=.pointer (some ⟨V.ι i,0,none⟩)) ⟨hi,rfl⟩
      refine ⟨_,V,rfl,H1.congr (fun j=>?_) (fun j=>rfl),hn,L1,⟨#[],rfl,rfl,fun i y hy=>by cases hy⟩⟩
      show lk (match lk (Qm D m.tk m.es) i with
       | some (.cells T ys)=>(i,.cells T (setL ys 0 (Ji D m.tk [.one (.ptr i 0)])))::Qm D m.tk m.es
       | _=>Qm D m.tk m.es) j=_
      rw [show lk (Qm D m.tk m.es) i=some (.cells T2 ys) from hl]
      rfl
    ·cases hx
  ·cases hx
 ·cases hx
variable (D)
def K1 {α β:Type}:Option (α⊕β)→Option α
 | some (.inl a)=>some a
 | _=>none
def tblG (tb:List (Nat×PF U)):XH U:=fun _ c args m=>match c with
 | .fn f=>match lk tb f,args with
  | some pf,.one (.ptr i off)::rest=>cond (Nat.beq off 0) (match Dm D m i pf.bx,Yx m.tk rest with
   | some (b,rs),some rest'=>cond (Dv m i rs pf.bx) (match UE D pf.args rest' with
    | some v=>some ⟨fun k _=>Option.bind (K1 (pf.m b v)) fun r=>k (U6 pf.res r.2) (UH m i rs pf.bx r.1)⟩
    | none=>none) none
   | _,_=>none) none
  | _,_=>none
 | _=>none
variable {D}
theorem ZD (hD:D.OK) {P:Program} {tb:List (Nat×PF U)} {W:Wd} (h:AllT (GH D W P) tb):GE W D P (tblG D tb):=by
 intro Y c args m xo hY hx
 obtain ⟨xo',h',hr⟩:∃ xo',tblF D tb Y c args m=some xo'∧∀ ⦃β:Type⦄ (k:TTV U→TMe U→Option β) (d:Value→TMe U→Option β) (r:β),xo.run k d=some r→xo'.run k d=some r:=by
  unfold tblG at hx
  unfold tblF
  split at hx
  ·split at hx
   ·rename_i f pf i off rest hlk
    try (dsimp only;rw [hlk];dsimp only)
    cases hoff:Nat.beq off 0 with
    | false=>rw [hoff] at hx;cases hx
    | true =>
     rw [hoff,cond_true] at hx
     rw [cond_true]
     split at hx
     ·rename_i b rs rest' hrd hs
      try (rw [hrd,hs];dsimp only)
      cases hok:Dv m i rs pf.bx with
      | false=>rw [hok] at hx;cases hx
      | true =>
       rw [hok,cond_true] at hx
       rw [cond_true]
       split at hx
       ·rename_i v hv
        cases hx
        try rw [hv]
        refine ⟨_,Z,fun β k d r hk=>?_⟩
        obtain ⟨y,hy,hk⟩:=YR (show Option.bind (K1 (pf.m b v)) _=some r from hk)
        have hm:pf.m b v=some (.inl y):=by
         unfold K1 at hy
         split at hy
         ·rename_i a ha;cases hy;exact ha
         ·cases hy
        show Option.bind (pf.m b v) _=some r
        rw [hm]
        exact hk
       ·cases hx
     ·cases hx
   ·cases hx
  ·cases hx
 intro β k d r hk
 exact ZE hD h Y c args m xo' hY h' k d r (hr k d r hk)
end
end Go.Proofs.YtjcfppnjamjjhaaGreatDoor
namespace Go.Proofs.YtjcfppnjamjjhaaGreatDoor
open Go.RowKit Go.Shelf
theorem builder_String {P:Program} {ρ:Ren} (L:Lays.n169 P ρ) (X:Builder.Extra P ρ) (b g cap:Nat) (cur:Array Value) (l:List UInt8) (w:World)
  (hc:w.cell? ⟨b,1,none⟩=some (.slice (some ⟨g,0,none⟩) l.length cap)) (hg:w.heap[g]?=some (.cells cur (ρ.t 5) (0,0))) (hl0:l.length ≠ 0) (hnc:l.length≤cap) (hcm:cap≤maxLen) (hcs:cur.size=cap * 1)
  (hcells:∀ (j:Nat) (x:UInt8),l[j]?=some x→w.cell? ⟨g,j,none⟩=some (.int .u8 x.toNat)) :
  Calls P (ρ.f 169) #[.pointer (some ⟨b,0,none⟩)] w fun e w'=>e=.returned (.string ⟨l.toArray⟩)∧w'=w.drew.freeze ⟨g,0,none⟩ l.length:=by
 have h0:l ≠ []:=by simpa using hl0
 have c1:w.drew.cell? ⟨b,1,none⟩=some (.slice (some ⟨g,0,none⟩) l.length cap):=hc
 have hSD:(Builtin.unsafeSliceData_ #[(ρ.t 37)] (ρ.t 127) #[.slice (some ⟨g,0,none⟩) l.length cap]).run P w.drew=.ok (.pointer (some ⟨g,0,none⟩)) w.drew :=
  Lib.run_unsafeSliceData_row _ _ _ _ _ _ (by omega)
 have hUS:(Builtin.unsafeString_ #[(ρ.t 127),(ρ.t 3)] (ρ.t 9) #[.pointer (some ⟨g,0,none⟩),.int .i64 l.length]).run P w.drew=.ok (.string ⟨l.toArray⟩) (w.drew.freeze ⟨g,0,none⟩ l.length):=by
  refine Lib.run_unsafeString_row w.drew (ρ.t 127) (ρ.t 3) (ρ.t 9) (ρ.t 5) L.t127 X.cellsByte g cur.size (by have hg':w.drew.heap[g]?=some (.cells cur (ρ.t 5) (0,0)):=hg;simp [World.shape?,hg']) l h0 (by omega) (by unfold maxLen at hcm;omega) ?_
  intro j x hx
  rw [Zv,Nat.zero_add]
  exact hcells j x hx
 have mixed:=L.mixed
 have t72:=L.t72;have a72:=L.a72;have z72:=L.z72;have v72:=L.v72;have u72:=run_underlying L.t72
 have t70:=L.t70;have a70:=L.a70;have z70:=L.z70;have v70:=L.v70;have u70:=run_underlying L.t70
 have t37:=L.t37;have a37:=L.a37;have z37:=L.z37;have v37:=L.v37;have u37:=run_underlying L.t37
 have t127:=L.t127;have a127:=L.a127;have z127:=L.z127;have v127:=L.v127;have u127:=run_underlying L.t127
 have t3:=L.t3;have a3:=L.a3;have z3:=L.z3;have v3:=L.v3;have u3:=run_underlying L.t3
 have t9:=L.t9;have a9:=L.a9;have z9:=L.z9;have v9:=L.v9;have u9:=run_underlying L.t9
 have t5:=X.t5;have a5:=X.a5;have z5:=X.z5;have v5:=X.v5;have u5:=run_underlying X.t5
 go_enter L.f169,Body.n169_ntmps ρ
 go_wp2
 go_region_o
 all_goals (go_wp2;go_ret;exact ⟨rfl,rfl⟩)
theorem frz_heap (w:World) (g n k:Nat) (hk:k ≠ g):(w.drew.freeze ⟨g,0,none⟩ n).heap[k]?=w.heap[k]?:=by
 unfold World.freeze
 split
 ·rfl
 ·show (w.drew.heap.modify g _)[k]?=_
  rw [Array.getElem?_modify,if_neg (fun e=>hk e.symm)]
  rfl
theorem frz_size (w:World) (g n:Nat):(w.drew.freeze ⟨g,0,none⟩ n).heap.size=w.heap.size:=by
 unfold World.freeze
 split
 ·rfl
 ·show (w.drew.heap.modify g _).size=_
  rw [Array.size_modify];rfl
theorem frz_cell (w:World) (g n b o:Nat):(w.drew.freeze ⟨g,0,none⟩ n).cell? ⟨b,o,none⟩=w.cell? ⟨b,o,none⟩:=by
 unfold World.freeze
 split
 ·rfl
 ·simp only [World.cell?,Array.getElem?_modify]
  by_cases e:g=b
  ·rw [if_pos e]
   have e2:w.drew.heap[b]?=w.heap[b]?:=rfl
   rw [e2]
   cases hb:w.heap[b]? with
   | none=>rfl
   | some x=>cases x <;> rfl
  ·rw [if_neg e];rfl
theorem frz_dk (w:World) (g n b:Nat) (ds:Option (List Deferred)) (h:w.heap[b]?=some (.deferred ds)):(w.drew.freeze ⟨g,0,none⟩ n).heap[b]?=some (.deferred ds):=by
 unfold World.freeze
 split
 ·exact h
 ·show (w.drew.heap.modify g _)[b]?=_
  rw [Array.getElem?_modify]
  by_cases e:g=b
  ·rw [if_pos e]
   show Option.map _ w.heap[b]?=_
   rw [h];rfl
  ·rw [if_neg e];exact h
theorem frz_os (w:World) (g n:Nat):(w.drew.freeze ⟨g,0,none⟩ n).os=w.os∧(w.drew.freeze ⟨g,0,none⟩ n).tape=w.tape∧(w.drew.freeze ⟨g,0,none⟩ n).output=w.output:=by
 unfold World.freeze
 split <;> exact ⟨rfl,rfl,rfl⟩
theorem HRel.frz {E:Env} {V:Vu} {hp:List (Nat×HB)} {tk:List (Nat×Option Tok)} {w:World} (h:HRel E V hp tk w) {g n:Nat} (hM:E.w0.heap.size≤g∨E.M g)
  (hb:∀ j B,lk hp j=some B→V.ι j ≠ g) (ht:∀ j T,lk tk j=some (some T)→(V.κ j T.n).ownBlock ≠ some g):HRel E V hp tk (w.drew.freeze ⟨g,0,none⟩ n)∧V.Le V w (w.drew.freeze ⟨g,0,none⟩ n):=by
 have L:V.Le V w (w.drew.freeze ⟨g,0,none⟩ n):=⟨Nat.le_refl _,fun _ _=>rfl,fun _ _=>Nat.le_refl _,fun _ _ _ _=>rfl,fun _ _ h=>h,fun b o _=>frz_cell w g n b o,fun b o _ ds hd=>frz_dk w g n b ds hd⟩
 obtain ⟨o1,o2,o3⟩:=frz_os w g n
 refine ⟨⟨⟨o1.trans h.ext.os,o2.trans h.ext.tape,o3.trans h.ext.output,by rw [frz_size];exact h.ext.size,fun k hk hkM=>?_⟩,h.le0.trans L,fun b o hs=>by rw [frz_size];exact h.sz b o hs,h.sub,fun i B hi=>?_,h.inj,h.new,fun i T hi=>?_,h.tki⟩,L⟩
 ·have hkg:k ≠ g:=fun e=>by
   subst e
   rcases hM with hM | hM
   ·exact absurd hk (Nat.not_lt.2 hM)
   ·exact hkM hM
  rw [frz_heap w g n k hkg];exact h.ext.block k hk hkM
 ·obtain ⟨h1,o,h2,h3⟩:=h.own i B hi
  exact ⟨h1,o,by rw [frz_heap w g n _ (hb i B hi)];exact h2,h3.mono L⟩
 ·obtain ⟨h1,h2,xs,h3,h4⟩:=h.tok i T hi
  exact ⟨h1,h2,xs,h3.keepW rfl (ownsRow_same h3.1 fun k hk=>frz_heap w g n k fun e=>ht i T hi (by rw [hk,e])) L.lx,h4⟩
section
variable {U:Univ} (D:Codec U)
structure BytR (B:BytOf U) where
 rg:List (U.R B.t)→Bool
 ok:∀ l,rg l=true→(U.E B.t).encL l=bc (B.sb l)
def strH (f E0:Nat) (B:BytOf U) (R:BytR B):XH U:=fun _ c args m=>match c with
 | .fn g=>match args with
  | [.one (.ptr i off)]=>cond (Nat.beq g f&&Nat.beq off 0) (match GJ D m.es i 1 1 with
   | some [.one (.app j ver)]=>match cur m.tk j ver with
    | some T=>match Kg T.t B.t T.l with
     | some l=>cond ((Nat.beq T.E E0&&!(Nat.beq E0 0))&&!(m.es.any (Ev.hasApp j (QX m.tk j)))) (some ⟨fun k _=>Qd (cond (R.rg l) (!l.isEmpty) false) (k (.v (.one (.c (.str (B.sb l))))) ⟨m.es,(j,⟨0,B.t,l,QX m.tk j⟩)::m.tk,m.nx⟩)⟩) none
     | none=>none
    | none=>none
   | _=>none) none
  | _=>none
 | _=>none
variable {D}
theorem strH_ok (hD:D.OK) {W:Wd} {P:Program} {f E0:Nat} {B:BytOf U} {R:BytR B} (hen:Qg P f)
  (hs:∀ (b g cap:Nat) (cur:Array Value) (l:List UInt8) (w:World),w.cell? ⟨b,1,none⟩=some (.slice (some ⟨g,0,none⟩) l.length cap)→w.heap[g]?=some (.cells cur E0 (0,0))→l.length ≠ 0→l.length≤cap→cap≤maxLen→cur.size=cap * 1 →
   (∀ (j:Nat) (x:UInt8),l[j]?=some x→w.cell? ⟨g,j,none⟩=some (.int .u8 x.toNat))→Calls P f #[.pointer (some ⟨b,0,none⟩)] w fun e w'=>e=.returned (.string ⟨l.toArray⟩)∧w'=w.drew.freeze ⟨g,0,none⟩ l.length):GE W D P (strH D f E0 B R):=by
 intro Y c args m xo hY hx
 unfold strH at hx
 split at hx
 ·rename_i g0
  split at hx
  ·rename_i i off
   cases hc:(Nat.beq g0 f&&Nat.beq off 0) with
   | false=>rw [hc] at hx;cases hx
   | true =>
    rw [hc,cond_true] at hx
    obtain ⟨c1,c2⟩:=Bool.and_eq_true_iff.1 hc
    have e1:=Nat.eq_of_beq_eq_true c1;have e2:=Nat.eq_of_beq_eq_true c2
    subst e1 e2
    split at hx
    ·rename_i j ver hrd
     split at hx
     ·rename_i T hcur
      split at hx
      ·rename_i l hl
       obtain ⟨et,el⟩:=YA hl
       obtain ⟨TE,Tt,Tl,Tv⟩:=T
       dsimp only at et el
       subst et
       subst el
       cases hcd:((Nat.beq TE E0&&!(Nat.beq E0 0))&&!(m.es.any (Ev.hasApp j (QX m.tk j)))) with
       | false=>rw [hcd] at hx;cases hx
       | true =>
        rw [hcd] at hx;cases hx
        obtain ⟨d12,d3⟩:=Bool.and_eq_true_iff.1 hcd
        obtain ⟨d1,d2⟩:=Bool.and_eq_true_iff.1 d12
        have eE:=Nat.eq_of_beq_eq_true d1
        have eN:Nat.beq E0 0=false:=by simpa using d2
        subst eE
        intro β k d r hrun
        obtain ⟨hg,hrun⟩:=Ko (show Qd _ _=some r from hrun)
        have hrg:R.rg l=true:=Jk hg
        have hne:l.isEmpty=false:=by simpa using QS hg
        have henc:=R.ok l hrg
        have hlen:(B.sb l).length=((U.E B.t).encL l).length:=by rw [henc,bc_len]
        have hl0:(B.sb l).length ≠ 0:=by
         rw [hlen,Enc.len]
         cases l with
         | nil=>cases hne
         | cons x r=>simp
        have hlk:lk m.tk j=some ⟨TE,B.t,l,Tv⟩:=by
         unfold cur at hcur
         split at hcur
         ·rename_i T0 h0
          cases hq:Nat.beq T0.ver ver with
          | false=>rw [hq] at hcur;cases hcur
          | true=>rw [hq] at hcur;cases hcur;exact h0
         ·cases hcur
        have htok:lk (m.er D).tk j=some (some ⟨TE,1,(B.sb l).length,[]⟩):=by
         show lk (QM TTok.erO m.tk) j=_
         rw [QP,hlk]
         show some (TTok.erO (⟨TE,B.t,l,Tv⟩:TTok U))=_
         rw [Zw eN]
         show some (some (⟨TE,(U.E B.t).sz,((U.E B.t).encL l).length,[]⟩:Tok))=_
         rw [B.sz,hlen]
        obtain ⟨T2,ys,q1,q2,q3⟩:=Yd hD (tk:=m.tk) hrd
        have hy:ys[1]?=some (CA.app j 1 (bc (B.sb l))):=by
         have h1:((ys.drop 1).take 1)[0]?=ys[1]?:=by simp
         rw [← h1,q3]
         show some (match cur m.tk j ver with
          | some T=>CA.app j (U.E T.t).sz ((U.E T.t).encL T.l)
          | none=>CA.any)=_
         rw [hcur]
         show some (CA.app j (U.E B.t).sz ((U.E B.t).encL l))=_
         rw [B.sz,henc]
        refine ⟨.val (.v (.one (.c (.str (B.sb l))))) ⟨m.es,(j,⟨0,B.t,l,QX m.tk j⟩)::m.tk,m.nx⟩,?_,⟨⟨[],Z⟩,⟨[_],Z⟩,Nat.le_refl _⟩,hrun⟩
        refine Yr hen (o:=.val (.v (.one (.d (.v (.string (DT (B.sb l))))))) ((⟨m.es,(j,⟨0,B.t,l,QX m.tk j⟩)::m.tk,m.nx⟩:TMe U).er D)) fun E V w vs hP hW H hn ha=>?_
        obtain ⟨u,rfl,hu'⟩:=one_arg ha
        obtain ⟨hi,rfl⟩:i < V.nx∧u=.pointer (some ⟨V.ι i,0,none⟩):=hu'
        obtain ⟨-,o,ho,vs,rfl,hvs⟩:=H.own _ _ (show lk (m.er D).hp i=some (.cells T2 ys) from q1)
        obtain ⟨u1,hu1,hr1⟩:=hvs.2 1 _ hy
        obtain ⟨-,hcu,rfl,hrd1⟩:j < V.nx∧(bc (B.sb l)).length≤V.cu j∧u1=V.κ j (bc (B.sb l)).length∧Reads V.S w (C.sl 1 (bc (B.sb l))) u1:=hr1
        rw [bc_len] at hu1 hrd1
        obtain ⟨t1,t2,xs,t3,t4⟩:=H.tok j _ htok
        dsimp only at t2 t3 t4
        obtain ⟨g,cap,cu0,hv,-,hgc,hnc,hcm,hcs,-⟩:∃ g cap cur,V.κ j (B.sb l).length=.slice (some ⟨g,0,none⟩) (B.sb l).length cap∧0≤g∧w.heap[g]?=some (.cells cur TE (0,0))∧(B.sb l).length≤cap∧cap≤maxLen∧cur.size=cap * 1∧cur.toList.take ((B.sb l).length * 1)=xs:=by
         rcases t3.1.2 with ⟨_,hz⟩ | hr
         ·exact absurd hz hl0
         ·exact hr
        have hown:(V.κ j (B.sb l).length).ownBlock=some g:=by rw [hv];rfl
        obtain ⟨t5,t6,t7⟩:=t4 g hown
        rw [hv] at hu1 hrd1
        have hcells:∀ (q:Nat) (x:UInt8),(B.sb l)[q]?=some x→w.cell? ⟨g,q,none⟩=some (.int .u8 x.toNat):=by
         generalize hes:bc (B.sb l)=es at hrd1
         have hel:es.length=(B.sb l).length:=by rw [← hes,bc_len]
         generalize hv2:Value.slice (some ⟨g,0,none⟩) (B.sb l).length cap=v2 at hrd1
         cases hrd1 with
         | sl _ _ a cap2 b0 off0 ff hcap haa hll hcc hss hrr =>
          have ea:=haa (by intro e;rw [e] at hel;exact hl0 hel.symm)
          injection hv2 with e1 e2 e3
          rw [ea] at e1
          injection e1 with e1
          injection e1 with e4 e5
          subst e4 e5
          intro q x hq
          have hq':es[q]?=some [C.v (.int .u8 x.toNat)]:=by rw [← hes];unfold bc;rw [List.getElem?_map,hq];rfl
          have h1:=hcc q _ 0 _ hq' rfl
          have h2:=hrr q _ 0 _ hq' rfl
          rw [Nat.mul_one,Nat.add_zero,Nat.zero_add] at h1
          generalize ff q 0=fv at h1 h2
          cases h2
          exact h1
        refine (hs (V.ι i) g cap cu0 (B.sb l) w (by rw [Jh ho];exact hu1) hgc hl0 hnc hcm hcs hcells).mono ?_
        rintro e w' ⟨rfl,rfl⟩
        have hst:=Yz (D:=D) (tk:=m.tk) (tk':=(j,(⟨0,B.t,l,QX m.tk j⟩:TTok U))::m.tk) (es:=m.es) (X3 fun hp=>by
         have:m.es.any (Ev.hasApp j (QX m.tk j))=true:=hp
         rw [this] at d3;cases d3)
        have hhp:∀ k B',lk ((⟨m.es,(j,⟨0,B.t,l,QX m.tk j⟩)::m.tk,m.nx⟩:TMe U).er D).hp k=some B'→∃ A,lk (m.er D).hp k=some A∧∀ V w o,A.rel V w o→B'.rel V w o:=fun k B' hB=>by
         have ow:=hst k
         have hB':lk (Qm D ((j,(⟨0,B.t,l,QX m.tk j⟩:TTok U))::m.tk) m.es) k=some B':=hB
         rw [hB'] at ow
         show ∃ A,lk (Qm D m.tk m.es) k=some A∧_
         cases hA:lk (Qm D m.tk m.es) k with
         | none=>rw [hA] at ow;exact ow.elim
         | some A=>rw [hA] at ow;exact ⟨A,rfl,fun V w o hr=>BW.rel ow hr⟩
        have htk:∀ k T,lk ((⟨m.es,(j,⟨0,B.t,l,QX m.tk j⟩)::m.tk,m.nx⟩:TMe U).er D).tk k=some (some T)→k ≠ j∧lk (m.er D).tk k=some (some T):=fun k T hT=>by
         have hT':lk ((j,(none:Option Tok))::G5 m.tk) k=some (some T):=hT
         rw [Q8] at hT'
         by_cases e:j=k
         ·rw [if_pos e] at hT';cases hT'
         ·rw [if_neg e] at hT';exact ⟨fun h=>e h.symm,hT'⟩
        have H1:=H.weak hhp fun k T hT=>(htk k T hT).2
        obtain ⟨H2,L2⟩:=H1.frz (g:=g) (n:=(B.sb l).length) t5 (fun k B' hB=>by
         obtain ⟨A,hA,-⟩:=hhp k B' hB
         exact t7 k A hA) (fun k T hT hk=>by
         obtain ⟨n1,n2⟩:=htk k T hT
         exact n1 (H.tki k j T _ g n2 htok hk hown))
        exact ⟨_,V,Z,H2,hn,L2,Jb Z⟩
      ·cases hx
     ·cases hx
    ·cases hx
  ·cases hx
 ·cases hx
end
end Go.Proofs.YtjcfppnjamjjhaaGreatDoor
namespace Go.Proofs.YtjcfppnjamjjhaaGreatDoor
open Go.RowKit
def Tabs (P:Program) (S:Nat→Nat→Prop) (w:World):Prop :=
 ∃ g, P.globalNamed "internal/strconv.uint64pow10" = some g ∧ (∀ o, S g o) ∧ ∀ o, w.cell? ⟨g, o, none⟩ = (Lib.pow10Tab.map fun z => Value.int .u64 z)[o]?
theorem Tabs.mono {P:Program} {S S':Nat→Nat→Prop} {w w':World} (h:Tabs P S w) (hS:∀ b o,S b o→S' b o) (hw:∀ b o,S b o→w'.cell? ⟨b,o,none⟩=w.cell? ⟨b,o,none⟩):Tabs P S' w':=by
 obtain ⟨g,h1,h2,h3⟩:=h
 exact ⟨g,h1,fun o=>hS _ _ (h2 o),fun o=>(hw _ _ (h2 o)).trans (h3 o)⟩
theorem Tabs.is {P : Program} {S : Nat → Nat → Prop} {w : World} (h : Tabs P S w) : Lib.TabIs P w "internal/strconv.uint64pow10" .u64 Lib.pow10Tab := by
 obtain ⟨g,h1,-,h3⟩:=h
 have h0:=h3 0
 unfold Lib.TabIs World.var?
 rw [h1]
 simp only [World.cell?] at h0 h3
 simp only [Option.bind_some]
 split at h0
 ·rename_i c T f hc
  rw [hc]
  refine congrArg some (Array.ext_getElem? fun o=>?_)
  have:=h3 o
  rw [hc] at this
  simpa using this
 ·have:(Lib.pow10Tab.map fun z=>Value.int .u64 z)[0]?=some (.int .u64 1):=rfl
  rw [this] at h0;cases h0
theorem Tabs.of {P : Program} {S : Nat → Nat → Prop} {w : World} {g : Nat} (hg : P.globalNamed "internal/strconv.uint64pow10" = some g) (hS : ∀ o, S g o) (h : Lib.TabIs P w "internal/strconv.uint64pow10" .u64 Lib.pow10Tab) : Tabs P S w := by
 refine ⟨g,hg,hS,fun o=>?_⟩
 unfold Lib.TabIs World.var? at h
 rw [hg] at h
 simp only [Option.bind_some] at h
 split at h
 ·rename_i c T f hc
  cases h
  simp [World.cell?,hc]
 ·cases h
theorem Tabs.blk {P : Program} {S : Nat → Nat → Prop} {w : World} (h : Tabs P S w) : ∃ g, P.globalNamed "internal/strconv.uint64pow10" = some g ∧ (∀ o, S g o) ∧ (∀ o, w.cell? ⟨g, o, none⟩ = (Lib.pow10Tab.map fun z => Value.int .u64 z)[o]?) ∧ ∀ ds, w.heap[g]? ≠ some (Obj.deferred ds) := by
 obtain ⟨g,h1,h2,h3⟩:=h
 refine ⟨g,h1,h2,h3,fun ds hd=>?_⟩
 have h0:=h3 0
 simp only [World.cell?] at h0
 rw [hd] at h0
 have:(Lib.pow10Tab.map fun z=>Value.int .u64 z)[0]?=some (.int .u64 1):=rfl
 rw [this] at h0;cases h0
def WT (P:Program):Wd where
 p:=Tabs P
 mono:=fun V V' w w' hL h=>h.mono hL.S hL.cell
 mono2:=fun S S' w w' hS hw h=>by
  obtain ⟨g,h1,h2,h3,h4⟩:=h.blk
  refine ⟨g,h1,fun o=>hS g o h4 (h2 o),fun o=>?_⟩
  rw [← h3 o]
  simp only [World.cell?]
  rw [hw g h4]
end Go.Proofs.YtjcfppnjamjjhaaGreatDoor
namespace Go.Proofs.YtjcfppnjamjjhaaGreatDoor
open Go.RowKit Go.Shelf
set_option maxRecDepth 100000
theorem ext_of_below {w w':World} (h:Below w.heap.size w w'):G6 w w':=⟨h.os,h.tape,h.output,h.size,fun k hk _=>h.block k hk⟩
theorem Zb {W:Wd} {P:Program} {f:FuncId} {vs0:List Value} {res:TV} (v:Value) (hen:Qg P f) (hres:∀ V w,res.rel V w v) (h:∀ S w,W.p S w→Calls P f vs0.toArray w fun e w'=>e=.returned v∧G6 w w'):FunW W P f (vs0.map fun a=>.one (.d (.v a))) res:=by
 refine ⟨hen,fun S w vs hS hW hargs=>?_⟩
 have hsz:vs.size=vs0.length:=by rw [hargs.1,List.length_map]
 have hvs:vs=vs0.toArray:=by
  apply Array.ext_getElem?
  intro k
  cases hk:vs0[k]? with
  | none =>
   have:=List.getElem?_eq_none_iff.1 hk
   rw [Array.getElem?_eq_none (by omega)]
   simp [hk]
  | some a =>
   obtain ⟨u,h1,h2⟩:=hargs.2 k (.one (.d (.v a))) (by rw [List.getElem?_map,hk];rfl)
   have e:u=a:=by cases h2;rfl
   rw [h1,e]
   simp [hk]
 rw [hvs]
 exact (h S w hW).mono fun e w' ⟨he,hx⟩=>⟨v,S,he,hx,fun _ _ h=>h,fun b o h=>⟨.inl h,Nat.lt_of_lt_of_le (hS b o h) hx.size⟩,hres _ _⟩
abbrev W0:Wd:=WT Tryz.prog
theorem Wd.tabs {S:Nat→Nat→Prop} {w:World} (h:W0.p S w):Tabs Tryz.prog S w:=h
section
variable {U:Univ}
def kOr (A B:FuncId→List (TAV U)→Option (KR U)) (f:FuncId) (args:List (TAV U)):Option (KR U):=match A f args with
 | some k=>some k
 | none=>B f args
theorem kOr_ok {W:Wd} {D:Codec U} {P:Program} {A B:FuncId→List (TAV U)→Option (KR U)} (hA:XA W D P A) (hB:XA W D P B):XA W D P (kOr A B):=by
 intro f args kr a h ha
 unfold kOr at h
 split at h
 ·rename_i k hk;cases h;exact hA f args _ a hk ha
 ·exact hB f args _ a h ha
end
noncomputable def k62:KF UV:=⟨[.int .i64],[.str],fun (n:Int)=>Qd (cond (decide (-9223372036854775808≤n)) (decide (n≤9223372036854775807)) false) (some (Lib.itoa n))⟩
theorem en_62:Qg Tryz.prog 62:=enters_of Tryz.func62 (by kernel_rfl) rfl
theorem X0:Ya DV W0 Tryz.prog 62 k62:=⟨rfl,fun (v:Int) (r:Bs) h=>by
 obtain ⟨hg,h⟩:=Ko (show Qd _ _=some r from h)
 cases h
 have h0:-9223372036854775808≤v:=of_decide_eq_true (Jk hg)
 have h1:v≤9223372036854775807:=of_decide_eq_true (QS hg)
 refine Zb (vs0:=[.int .i64 v]) (res:=TS (Lib.itoa v)) (.string (DT (Lib.itoa v))) en_62 (fun V w=>Jb Z) fun S w hW=>?_
 refine Calls.mono (Any.strconv_Itoa Tryz.lays171 v h0 h1 w (Wd.tabs hW).is) ?_
 rintro e w' ⟨rfl,k,os,rfl⟩
 exact ⟨rfl,⟨rfl,rfl,rfl,(by simp [Go.Sort.grow,World.drewN]),fun k hk _=>by simp [Go.Sort.grow,World.drewN,Array.getElem?_append_left hk]⟩⟩⟩
noncomputable def k122:KF UV:=⟨[.str,.int .u8],[.int .i64],fun (v:Bs×Int)=>some (Lib.indexByte v.1 v.2.toNat.toUInt8)⟩
theorem en_122:Qg Tryz.prog 122:=enters_of Tryz.func122 (by kernel_rfl) rfl
theorem k122_ok:Ya DV W0 Tryz.prog 122 k122:=⟨rfl,fun (v:Bs×Int) (r:Int) h=>by
 cases h
 refine Zb (vs0:=[.string (DT v.1),.int .u8 v.2]) (res:=TI (Lib.indexByte v.1 v.2.toNat.toUInt8)) (.int .i64 (Lib.indexByte v.1 v.2.toNat.toUInt8)) en_122 (fun V w=>Jb Z) fun S w hW=>?_
 refine Calls.mono (Any.strings_IndexByte Tryz.lays137 (DT v.1) v.2 w) ?_
 rintro e w' ⟨rfl,rfl⟩
 exact ⟨Z,ExtM.refl _ _⟩⟩
noncomputable def k126:KF UV:=⟨[.str,.str],[.bool],fun (v:Bs×Bs)=>some (Lib.hasPrefix v.1 v.2)⟩
theorem en_126:Qg Tryz.prog 126:=enters_of Tryz.func126 (by kernel_rfl) rfl
theorem k126_ok:Ya DV W0 Tryz.prog 126 k126:=⟨rfl,fun (v:Bs×Bs) (r:Bool) h=>by
 cases h
 refine Zb (vs0:=[.string (DT v.1),.string (DT v.2)]) (res:=TB (Lib.hasPrefix v.1 v.2)) (.bool (Lib.hasPrefix v.1 v.2)) en_126 (fun V w=>Jb Z) fun S w hW=>?_
 refine Calls.mono (Any.strings_HasPrefix Tryz.lays99 (DT v.1) (DT v.2) w) ?_
 rintro e w' ⟨rfl,rfl⟩
 exact ⟨Z,ExtM.refl _ _⟩⟩
noncomputable def k146:KF UV:=⟨[.str,.str],[.str],fun (v:Bs×Bs)=>Qd (cond (Nat.ble v.1.length 1000000000) (cond (Nat.ble v.2.length 1000) (v.2.all fun b=>decide (b.toNat < 128)) false) false) (some (Lib.trimS v.1 v.2))⟩
theorem en_146:Qg Tryz.prog 146:=enters_of Tryz.func146 (by kernel_rfl) rfl
theorem k146_ok:Ya DV W0 Tryz.prog 146 k146:=⟨rfl,fun (v:Bs×Bs) (r:Bs) h=>by
 obtain ⟨hg,h⟩:=Ko (show Qd _ _=some r from h)
 cases h
 have h0:=Nat.le_of_ble_eq_true (Jk hg)
 have h1:=Nat.le_of_ble_eq_true (Jk (QS hg))
 have h2:=QS (QS hg)
 refine Zb (vs0:=[.string (DT v.1),.string (DT v.2)]) (res:=TS (Lib.trimS v.1 v.2)) (.string (DT (Lib.trimS v.1 v.2))) en_146 (fun V w=>Jb Z) fun S w hW=>?_
 refine Calls.mono (Any.strings_Trim_laid Tryz.lays160 (by kernel_rfl) (DT v.1) (DT v.2) w (by rw [YD];omega) (by rw [YD];omega) (ascii_of_all h2)) ?_
 rintro e w' ⟨rfl,hb⟩
 exact ⟨Z,ext_of_below hb⟩⟩
theorem en_147:Qg Tryz.prog 147:=enters_of Tryz.func147 (by kernel_rfl) rfl
def atK:FuncId→List (TAV UV)→Option (KR UV):=fun f args=>cond (Nat.beq f 147) (match args with
 | [.one (.c (.str s))]=>some ⟨Int,Qd (cond (Nat.ble s.length 18) (Lib.atoi s).isSome false) (some ((Lib.atoi s).getD 0)),fun n=>.tup [.one (.c (.v (.int .i64 n))),.one (.c (.v .nilIface))]⟩
 | _=>none) none
theorem tup2 {a b:Value} {x y:AV} (h1:∀ V w,x.rel V w a) (h2:∀ V w,y.rel V w b):∀ V w,(TV.tup [x,y]).rel V w (.tuple #[a,b]):=fun V w =>
 ⟨#[a,b],rfl,rfl,fun i z hz=>by
  match i,hz with
  | 0,hz=>cases hz;exact ⟨a,rfl,h1 V w⟩
  | 1,hz=>cases hz;exact ⟨b,rfl,h2 V w⟩⟩
theorem atK_ok:XA W0 DV Tryz.prog atK:=by
 intro f args kr a h ha
 unfold atK at h
 cases hb:Nat.beq f 147 with
 | false=>rw [hb] at h;cases h
 | true =>
  rw [hb,cond_true] at h
  have:=Nat.eq_of_beq_eq_true hb
  subst this
  split at h
  ·rename_i s
   cases h
   obtain ⟨hg,h⟩:=Ko (show Qd _ _=some a from ha)
   have h0:=Nat.le_of_ble_eq_true (Jk hg)
   obtain ⟨n,hn⟩:=Option.isSome_iff_exists.1 (QS hg)
   have e:a=n:=by
    have:(Lib.atoi s).getD 0=a:=Option.some.inj h
    rw [← this,hn];rfl
   subst e
   refine ⟨[.one (.d (.v (.string (DT s))))],fun tk=>.cons (.one (.d _)) .nil,fun tk=>?_⟩
   refine Zb (vs0:=[.string (DT s)]) (.tuple #[.int .i64 a,.nilIface]) en_147 (tup2 (fun V w=>Reads.v _ Z) (fun V w=>Reads.v _ Z)) fun S w hW=>?_
   refine Calls.mono (Any.strconv_Atoi Tryz.lays172 (DT s) a (by rw [YD];exact h0) hn w) ?_
   rintro e w' ⟨rfl,t,rfl⟩
   exact ⟨Z,ext_of_below (Lib.bytesWorld_below _ _ _)⟩
  ·cases h
theorem join_funW (xs:List (List UInt8)) (sep:List UInt8) (h:(cond (Nat.ble xs.length 1000000) (Nat.ble (Lib.join xs sep).length 1000000000) false)=true):FunW (WT Tryz.prog) Tryz.prog 141 [.one (.d (.sl 1 (xs.map Wz))),.one (Do sep)] (TS (Lib.join xs sep)):=by
 have h0:=Nat.le_of_ble_eq_true (Jk h)
 have h1:=Nat.le_of_ble_eq_true (QS h)
 have hmap:(xs.map DT).map (·.data.toList)=xs:=by
  rw [List.map_map]
  have:((fun x:ByteArray=>x.data.toList) ∘ DT)=id:=rfl
  rw [this,List.map_id]
 refine ⟨enters_of Tryz.func141 (by kernel_rfl) rfl,fun S w vs hS _ hargs=>?_⟩
 obtain ⟨u0,hu0,r0⟩:=hargs.2 0 _ rfl
 obtain ⟨u1,hu1,r1⟩:=hargs.2 1 _ rfl
 have e1:u1=.string (DT sep):=by cases r1;rfl
 subst e1
 have hvs:vs=#[u0,.string (DT sep)]:=by
  apply Array.ext_getElem?
  intro k
  match k with
  | 0=>rw [hu0];rfl
  | 1=>rw [hu1];rfl
  | k+2=>rw [Array.getElem?_eq_none (by rw [hargs.1];simp)];simp
 rw [hvs]
 have fin:∀ (e:Ending) (w':World),e=.returned (.string (DT (Lib.join xs sep)))∧Below w.heap.size w w'→∃ v S',e=.returned v∧G6 w w'∧(∀ b o,S b o→S' b o)∧(∀ b o,S' b o→(S b o∨w.heap.size≤b)∧b < w'.heap.size)∧(TS (Lib.join xs sep)).rel (Y2 S') w' v :=
  fun e w' ⟨he,hb⟩=>⟨_,S,he,ext_of_below hb,fun _ _ h=>h,fun b o h=>⟨.inl h,Nat.lt_of_lt_of_le (hS b o h) hb.size⟩,Jb rfl⟩
 have rd:Reads S w (.sl 1 (xs.map Wz)) u0:=r0
 generalize hes:xs.map Wz=es at rd
 cases rd with
 | sl _ _ a cap b off f hcap ha hl hc hs hr =>
  subst hes
  rw [List.length_map] at hcap ⊢
  cases xs with
  | nil =>
   refine Calls.mono (Any.strings_Join_none Tryz.lays156 Tryz.bx156 a cap (DT sep) w) ?_
   rintro e w' ⟨rfl,rfl⟩
   exact fin _ _ ⟨Z,Below.refl _ _⟩
  | cons x r =>
   have ha':=ha (by simp)
   subst ha'
   have hget:∀ (j:Nat) (y:List UInt8),(x::r)[j]?=some y→w.cell? ⟨b,off+j,none⟩=some (.string (DT y))∧S b (off+j):=fun j y hy=>by
    have hj:((x::r).map Wz)[j]?=some (Wz y):=by rw [List.getElem?_map,hy];rfl
    have h3:=hc j (Wz y) 0 _ hj rfl
    have h4:=hs j (Wz y) 0 _ hj rfl
    have h5:=hr j (Wz y) 0 _ hj rfl
    rw [Nat.mul_one,Nat.add_zero] at h3 h4
    have e5:f j 0=.string (DT y):=by
     generalize hfv:f j 0=fv at h5
     cases h5;rfl
    rw [e5] at h3
    exact ⟨h3,h4⟩
   have key:=Any.strings_Join Tryz.lays156 Tryz.bx156 b off cap ((x::r).map DT) (DT sep) w (fun j y hy=>by
    rw [List.getElem?_map] at hy
    cases hz:(x::r)[j]? with
    | none=>rw [hz] at hy;cases hy
    | some z=>rw [hz] at hy;cases hy;exact (hget j z hz).1) (hS _ _ (hget 0 x rfl).2) (by rw [List.length_map];omega) (by rw [List.length_map];exact hcap) (by rw [hmap];exact Nat.le_trans h1 (by decide))
   rw [hmap,List.length_map] at key
   exact Calls.mono key fin
noncomputable def k141:KF UV:=⟨[.sl .t9,.str],[.str],fun (v:List Bs×Bs)=>Qd (cond (Nat.ble v.1.length 1000000) (Nat.ble (Lib.join v.1 v.2).length 1000000000) false) (some (Lib.join v.1 v.2))⟩
theorem k141_ok:Ya DV W0 Tryz.prog 141 k141:=⟨rfl,fun (v:List Bs×Bs) (r:Bs) h=>by
 obtain ⟨hg,h⟩:=Ko (show Qd _ _=some r from h)
 cases h
 exact join_funW v.1 v.2 hg⟩
def D8 (n:Int):Option (List UInt8):=Qd (cond (decide (-9223372036854775808≤n)) (decide (n≤9223372036854775807)) false) (some (Lib.itoa n))
def m122 (s:List UInt8) (c:Int):Option Int:=some (Lib.indexByte s c.toNat.toUInt8)
def m126 (s p:List UInt8):Option Bool:=some (Lib.hasPrefix s p)
def m146 (s c:List UInt8):Option (List UInt8):=Qd (cond (Nat.ble s.length 1000000000) (cond (Nat.ble c.length 1000) (c.all fun b=>decide (b.toNat < 128)) false) false) (some (Lib.trimS s c))
def m141 (l:List (List UInt8)) (s:List UInt8):Option (List UInt8):=Qd (cond (Nat.ble l.length 1000000) (Nat.ble (Lib.join l s).length 1000000000) false) (some (Lib.join l s))
theorem en_112:Qg Tryz.prog 112:=enters_of Tryz.func112 (by kernel_rfl) rfl
theorem en_30:Qg Tryz.prog 30:=enters_of Tryz.func30 (by kernel_rfl) rfl
theorem cc_ok:GE W0 DV Tryz.prog (ccH DV 112 62):=ccH_ok Qw en_112 (fun b w h=>Any.Builder_copyCheck_used Tryz.lays240 Tryz.bx156.toX72 b w h) (fun b w h h2 h3=>Any.Builder_copyCheck_fresh Tryz.lays240 Tryz.bx156.toX72 b w h h2 h3)
noncomputable def rgV:BytR btV where
 rg:=fun l=>(l:List Byt).all fun x=>cond (decide (0≤x.n)) (decide (x.n < 256)) false
 ok:=fun l h=>by
  have key:∀ l:List Byt,(l.all fun x=>cond (decide (0≤x.n)) (decide (x.n < 256)) false)=true→l.map bytC=bc (l.map Byt.u8):=fun l h=>by
   unfold bc
   rw [List.map_map]
   refine List.map_congr_left fun x hx=>?_
   have hx2:=List.all_eq_true.1 h x hx
   have h0:0≤x.n:=of_decide_eq_true (Jk hx2)
   have h1:x.n < 256:=of_decide_eq_true (QS hx2)
   show [C.v (.int .u8 x.n)]=[C.v (.int .u8 ((UInt8.ofNat x.n.toNat).toNat:Int))]
   rw [UInt8.toNat_ofNat',Nat.mod_eq_of_lt (by omega),Int.toNat_of_nonneg h0]
  exact key l h
theorem st_ok:GE W0 DV Tryz.prog (strH DV 30 5 btV rgV):=strH_ok Qw en_30 fun b g cap cur l w h1 h2 h3 h4 h5 h6 h7=>builder_String Tryz.lays169 Tryz.bx169 b g cap cur l w h1 h2 h3 h4 h5 h6 h7
end Go.Proofs.YtjcfppnjamjjhaaGreatDoor
namespace Go.Proofs.YtjcfppnjamjjhaaGreatDoor
open Go.RowKit Go.Shelf
theorem Ja:QV Tryz.prog 25 0=some 0:=by kernel_rfl
theorem Yh:QV Tryz.prog 25 1=some 1:=by kernel_rfl
theorem Xc:QV Tryz.prog 25 2=some 2:=by kernel_rfl
theorem YF:QV Tryz.prog 25 3=some 3:=by kernel_rfl
theorem JR:QV Tryz.prog 25 4=some 4:=by kernel_rfl
theorem Ke:QV Tryz.prog 82 0=some 0:=by kernel_rfl
theorem Yg:QV Tryz.prog 82 1=some 1:=by kernel_rfl
theorem fo_107_0:QV Tryz.prog 107 0=some 0:=by kernel_rfl
theorem fo_107_1:QV Tryz.prog 107 1=some 1:=by kernel_rfl
theorem fo_107_2:QV Tryz.prog 107 2=some 2:=by kernel_rfl
theorem fo_107_3:QV Tryz.prog 107 3=some 3:=by kernel_rfl
theorem JF:QV Tryz.prog 142 0=some 0:=by kernel_rfl
theorem Kz:QV Tryz.prog 142 1=some 1:=by kernel_rfl
theorem fo_155_0:QV Tryz.prog 155 0=some 0:=by kernel_rfl
theorem fo_155_1:QV Tryz.prog 155 1=some 1:=by kernel_rfl
theorem Zq:QV Tryz.prog 155 2=some 2:=by kernel_rfl
theorem Zp:QV Tryz.prog 155 3=some 3:=by kernel_rfl
theorem fo_155_4:QV Tryz.prog 155 4=some 4:=by kernel_rfl
theorem QL:Jf Tryz.prog 3=some (false,1):=by kernel_rfl
theorem ag_4:Jf Tryz.prog 4=some (false,1):=by kernel_rfl
theorem Df:Jf Tryz.prog 9=some (false,1):=by kernel_rfl
theorem G4:Jf Tryz.prog 22=some (false,1):=by kernel_rfl
theorem Zu:Jf Tryz.prog 23=some (false,1):=by kernel_rfl
theorem YT:Jf Tryz.prog 25=some (true,5):=by kernel_rfl
theorem ag_26:Jf Tryz.prog 26=some (false,1):=by kernel_rfl
theorem XN:Jf Tryz.prog 28=some (false,1):=by kernel_rfl
theorem Ki:Jf Tryz.prog 80=some (false,1):=by kernel_rfl
theorem GP:Jf Tryz.prog 82=some (true,2):=by kernel_rfl
theorem ag_107:Jf Tryz.prog 107=some (true,4):=by kernel_rfl
theorem G0:Jf Tryz.prog 142=some (true,2):=by kernel_rfl
theorem ag_153:Jf Tryz.prog 153=some (false,1):=by kernel_rfl
theorem ag_155:Jf Tryz.prog 155=some (true,5):=by kernel_rfl
theorem Ws:Jf Tryz.prog 156=some (true,65):=by kernel_rfl
theorem K6:J7 Tryz.prog 22=some (82,2):=by kernel_rfl
theorem YY:J7 Tryz.prog 23=some (25,5):=by kernel_rfl
theorem Zd:J7 Tryz.prog 80=some (142,2):=by kernel_rfl
theorem z_3:Yu Tryz.prog 3=some [.int .i64 0]:=by kernel_rfl
theorem z_25:Yu Tryz.prog 25=some [.int .i64 0,.int .i64 0,.string ByteArray.empty,.slice none 0 0,.slice none 0 0]:=by kernel_rfl
theorem z_26:Yu Tryz.prog 26=some [.nilFunc]:=by kernel_rfl
theorem z_28:Yu Tryz.prog 28=some [.int .i64 0]:=by kernel_rfl
theorem z_82:Yu Tryz.prog 82=some [.int .i64 0,.slice none 0 0]:=by kernel_rfl
theorem z_107:Yu Tryz.prog 107=some [.int .i64 0,.int .i64 0,.int .i64 0,.int .i64 0]:=by kernel_rfl
theorem z_142:Yu Tryz.prog 142=some [.int .i64 0,.int .i64 0]:=by kernel_rfl
theorem z_155:Yu Tryz.prog 155=some [.bool false,.bool false,.int .i64 0,.int .i64 0,.int .i64 0]:=by kernel_rfl
theorem z_156:Yu Tryz.prog 156=some [.bool false,.bool false,.int .i64 0,.int .i64 0,.int .i64 0,.bool false,.bool false,.int .i64 0,.int .i64 0,.int .i64 0,.bool false,.bool false,.int .i64 0,.int .i64 0,.int .i64 0,.bool false,.bool false,.int .i64 0,.int .i64 0,.int .i64 0,.bool false,.bool false,.int .i64 0,.int .i64 0,.int .i64 0,.bool false,.bool false,.int .i64 0,.int .i64 0,.int .i64 0,.bool false,.bool false,.int .i64 0,.int .i64 0,.int .i64 0,.bool false,.bool false,.int .i64 0,.int .i64 0,.int .i64 0,.bool false,.bool false,.int .i64 0,.int .i64 0,.int .i64 0,.bool false,.bool false,.int .i64 0,.int .i64 0,.int .i64 0,.bool false,.bool false,.int .i64 0,.int .i64 0,.int .i64 0,.bool false,.bool false,.int .i64 0,.int .i64 0,.int .i64 0,.bool false,.bool false,.int .i64 0,.int .i64 0,.int .i64 0]:=by kernel_rfl
theorem bd_107:Zx Tryz.prog 107 [(0,1),(1,1),(2,1),(3,1)] [.int .i64 0,.int .i64 0,.int .i64 0,.int .i64 0]:=⟨by kernel_rfl,by kernel_rfl⟩
theorem Jo:Zx Tryz.prog 155 [(0,1),(1,1),(2,1),(3,1),(4,1)] [.bool false,.bool false,.int .i64 0,.int .i64 0,.int .i64 0]:=⟨by kernel_rfl,by kernel_rfl⟩
theorem bd_156:Zx Tryz.prog 156 [(0,5),(5,5),(10,5),(15,5),(20,5),(25,5),(30,5),(35,5),(40,5),(45,5),(50,5),(55,5),(60,5)] [.bool false,.bool false,.int .i64 0,.int .i64 0,.int .i64 0,.bool false,.bool false,.int .i64 0,.int .i64 0,.int .i64 0,.bool false,.bool false,.int .i64 0,.int .i64 0,.int .i64 0,.bool false,.bool false,.int .i64 0,.int .i64 0,.int .i64 0,.bool false,.bool false,.int .i64 0,.int .i64 0,.int .i64 0,.bool false,.bool false,.int .i64 0,.int .i64 0,.int .i64 0,.bool false,.bool false,.int .i64 0,.int .i64 0,.int .i64 0,.bool false,.bool false,.int .i64 0,.int .i64 0,.int .i64 0,.bool false,.bool false,.int .i64 0,.int .i64 0,.int .i64 0,.bool false,.bool false,.int .i64 0,.int .i64 0,.int .i64 0,.bool false,.bool false,.int .i64 0,.int .i64 0,.int .i64 0,.bool false,.bool false,.int .i64 0,.int .i64 0,.int .i64 0,.bool false,.bool false,.int .i64 0,.int .i64 0,.int .i64 0]:=⟨by kernel_rfl,by kernel_rfl⟩
theorem arr_156:XY Tryz.prog 156=some (13,5):=by kernel_rfl
theorem UJ:JB Tryz.prog 9=true:=by kernel_rfl
theorem en_27:Qg Tryz.prog 27:=enters_of Tryz.func27 (by kernel_rfl) rfl
theorem en_58:Qg Tryz.prog 58:=enters_of Tryz.func58 (by kernel_rfl) rfl
theorem en_59:Qg Tryz.prog 59:=enters_of Tryz.func59 (by kernel_rfl) rfl
theorem en_60:Qg Tryz.prog 60:=enters_of Tryz.func60 (by kernel_rfl) rfl
theorem en_106:Qg Tryz.prog 106:=enters_of Tryz.func106 (by kernel_rfl) rfl
theorem en_107:Qg Tryz.prog 107:=enters_of Tryz.func107 (by kernel_rfl) rfl
theorem en_108:Qg Tryz.prog 108:=enters_of Tryz.func108 (by kernel_rfl) rfl
theorem en_109:Qg Tryz.prog 109:=enters_of Tryz.func109 (by kernel_rfl) rfl
theorem en_110:Qg Tryz.prog 110:=enters_of Tryz.func110 (by kernel_rfl) rfl
theorem en_111:Qg Tryz.prog 111:=enters_of Tryz.func111 (by kernel_rfl) rfl
theorem en_135:Qg Tryz.prog 135:=enters_of Tryz.func135 (by kernel_rfl) rfl
theorem en_136:Qg Tryz.prog 136:=enters_of Tryz.func136 (by kernel_rfl) rfl
theorem en_158:Qg Tryz.prog 158:=enters_of Tryz.func158 (by kernel_rfl) rfl
theorem en_188:Qg Tryz.prog 188:=enters_of Tryz.func188 (by kernel_rfl) rfl
theorem en_189:Qg Tryz.prog 189:=enters_of Tryz.func189 (by kernel_rfl) rfl
theorem en_211:Qg Tryz.prog 211:=enters_of Tryz.func211 (by kernel_rfl) rfl
theorem mixed:Tryz.prog.follows .mixedOrders=true:=by kernel_rfl
theorem as_156:tyArrS Tryz.prog 156=some (13,5):=by kernel_rfl
noncomputable def Z4:Code:=(cA (cA (cB (cA (cB (cB (cB (bodyC Tryz.f27))))))))
noncomputable def Yj:Code:=(cB (cA (cB (cA (cB (cB (cB (bodyC Tryz.f27))))))))
def m189f2 (a0:LV) (a1:Lvl):Option Unit :=
 some ()
theorem m189f2_ok (a0:LV) (a1:Lvl) (r:Unit) (h0:m189f2 a0 a1=some r):CallM Tryz.prog 189 [.agg (cE a0),.one (.ptr 0 0)] ⟨[(0,.cells 82 (cE a1))],[],1⟩ (Qu [.one (dB (decide (a1.c≤a0.2)))]) ⟨[(0,.cells 82 (cE a1))],[],2⟩:=by
 unfold m189f2 at h0
 refine Jt ⟨[(3,.v (.one (dB (decide (a1.c≤a0.2)))))],[(0,.cells 82 (cE a1))],[],2,9,[]⟩ Z Z en_189 (lb Z) Z (Qj Z .nil) (fun w0 M V0 Q hv0 hQ0=>?_)
 simp only [QY]
 refine Q3<|Q0<|Qx Z Z (lb Z) (J9 Z)<|DX Z Z Z<|Q2<|Q1<|Q3<|Q0<|DU Z Z Z (Q5 Kz Z)<|DU Z Z Z (Q7 QL Z Z Z)<|DU Z Z Z (Q5 Ke Z)<|DU Z Z Z (Q7 QL Z Z Z)<|DU Z Z Z (Q4 Z Z Z)<|DX Z Z Z ?_
 refine Q2<|Q1<|Qp ?_
 have e:=DS h0;subst e
 exact hQ0 _ _ _ (.inr Z) Z (DR (Nat.le_trans hv0 (lb Z)) Z Z Z Z Z)
def YM (a0:List LV) (a1:Lvl) (s1:Int):Option (LO Int (Unit⊕Int)) :=
 cond (decide (s1 < (a0.length:Int)))
   (Option.bind (Jy a0 s1) fun (x3:LV) =>
 Option.bind (m189f2 x3 a1) fun (x4:Unit) =>
 cond (decide (a1.c≤x3.2))
   (some (.done (.inr s1)))
   (some (.next (QG (s1+1)))))
   (some (.done (.inl ())))
def m211f1 (a0:List LV) (a1:Lvl):Option Int :=
 Option.bind (Qo (YM a0 a1) Qt 0) (Sum.elim (fun (o1:Unit)=>some (-1)) (fun o=>some o))
theorem m211f1_ok (a0:List LV) (a1:Lvl) (r:Int) (h0:m211f1 a0 a1=some r):CallM Tryz.prog 211 [.one (dS a0),.one (.fn 189 [(0,0)])] ⟨[(0,.cells 82 (cE a1))],[],1⟩ (Qu [.one (dI r)]) ⟨[(0,.cells 82 (cE a1))],[],1⟩:=by
 unfold m211f1 at h0
 refine Jt ⟨[(4,.v (.one (dI r)))],[(0,.cells 82 (cE a1))],[],1,19,[]⟩ Z Z en_211 (lb Z) Z (Qj Z .nil) (fun w0 M V0 Q hv0 hQ0=>?_)
 simp only [QY]
 refine Q3<|Q0<|DX Z Z Z<|Q2<|Q1<|Q3<|Q3<|Q0<|DW Z Z Z<|DU Z Z Z (QQ (α:=LV) Zd Z (.d _))<|DW Z Z Z<|Q2<|Q1<|Qr ?_
 refine Jr 0 (fun (o1:Unit)=>⟨[],[(0,.cells 82 (cE a1))],[],1,19,[]⟩) (fun (o1:Unit)=>(some (-1))=some r) ?_ ?_
 refine Qq h0 (fun o2 hl1 h0=>?_)
 refine Jq (YM a0 a1) (fun s1=>⟨[(0,.v (.one (dS a0))),(1,.v (.one (.fn 189 [(0,0)]))),(7,.v (.one (dI (a0.length:Int)))),(8,.v (.one (dI s1)))],[(0,.cells 82 (cE a1))],[],1,19,[]⟩) 0 o2 (DR (Nat.le_trans hv0 (lb Z)) Z Z Z Z Z) hl1 (fun s1 n1 oo1 h1 ho1=>?_)
 unfold YM at h1
 refine Q3<|Q0<|DU Z Z Z (Q4 Z Z Z)<|Q2<|Q1<|Q3 ?_
 refine Qh (b:=(decide (s1 < (a0.length:Int)))) Z (fun c3=>?_) (fun c3=>?_)
 replace h1:=Qe c3 h1
 refine Qi<|Q1<|Q3<|Qr<|Q3<|Q0<|DW Z Z Z<|DX Z Z Z<|Q2<|Q1<|Q3<|Q0<|DW Z Z Z<|DW Z Z Z ?_
 refine DW Z Z Z ?_
 refine Qq h1 (fun x4 hx4 h1=>?_)
 refine DU Z Z Z (J1 (α:=LV) Zd Z (.d _) Z hx4)<|DU Z Z Z (J5 (x4:LV) G0 Z) ?_
 refine Qq h1 (fun x5 hx5 h1=>?_)
 refine Qx Z Z (lb Z) (YK (hp1':=[(0,.cells 82 (cE a1))]) (tk1':=[]) (hpF:=[]) (tkF:=[]) (res2:=Qu [.one (dB (decide (a1.c≤x4.2)))]) (nx2:=2) [0] Z Z (m189f2_ok x4 a1 x5 hx5) Z Z (DZ Z Z DY) Z Z (gR Z gZ) jZ hZ kZ Z Z Z Z Z (bA Z) Z Z Z Z)<|Q2<|Q1 ?_
 refine Qh (b:=(decide (a1.c≤x4.2))) Z (fun c6=>?_) (fun c6=>?_)
 replace h1:=Qe c6 h1
 refine Q3<|Q0<|DW Z Z Z<|DX Z Z Z<|Q2<|Q1<|Qp ?_
 have e:=DS h1;subst e
 have e_:_=_:=ho1
 subst e_
 try dsimp only [Sum.elim_inl,Sum.elim_inr] at h0
 have e:=DS h0;subst e
 exact hQ0 _ _ _ (.inr Z) Z (DR (Nat.le_trans hv0 (lb Z)) Z Z Z Z Z)
 replace h1:=Qf c6 h1
 refine Qi<|Qy<|Q1<|Q0<|DU Z Z Z (Q4 Z Z Z)<|DW Z Z Z<|Q2 ?_
 have e:=DS h1;subst e
 refine J6 (QG (s1+1)) (DR (Nat.le_trans hv0 (lb Z)) Z Z Z Z Z) ho1
 replace h1:=Qf c3 h1
 refine Jw<|QC<|QC ?_
 have e:=DS h1;subst e
 have e_:_=_:=ho1
 subst e_
 exact Jp () (DR (Nat.le_trans hv0 (lb Z)) Z Z Z Z Z) h0
 intro o1 h0
 refine QZ<|Q1<|Q3<|Q0<|DX Z Z Z<|Q2<|Q1<|Qp ?_
 have e:=DS h0;subst e
 exact hQ0 _ _ _ (.inr Z) Z (DR (Nat.le_trans hv0 (lb Z)) Z Z Z Z Z)
def W8 (a0:List LV) (a1:Lvl):Option Bool :=
 Option.bind (m211f1 a0 a1) fun (x1:Int) =>
 some (decide (0≤x1))
theorem m188f0_ok (a0:List LV) (a1:Lvl) (r:Bool) (h0:W8 a0 a1=some r):CallM Tryz.prog 188 [.one (dS a0),.one (.fn 189 [(0,0)])] ⟨[(0,.cells 82 (cE a1))],[],1⟩ (Qu [.one (dB r)]) ⟨[(0,.cells 82 (cE a1))],[],1⟩:=by
 unfold W8 at h0
 refine Jt ⟨[(4,.v (.one (dB r)))],[(0,.cells 82 (cE a1))],[],1,9,[]⟩ Z Z en_188 (lb Z) Z (Qj Z .nil) (fun w0 M V0 Q hv0 hQ0=>?_)
 simp only [QY]
 refine Q3<|Q0<|DX Z Z Z<|Q2<|Q1<|Q3<|Q0<|DW Z Z Z<|DW Z Z Z ?_
 refine Qq h0 (fun x1 hx1 h0=>?_)
 refine Qx Z Z (lb Z) (YK (hp1':=[(0,.cells 82 (cE a1))]) (tk1':=[]) (hpF:=[]) (tkF:=[]) (res2:=Qu [.one (dI x1)]) (nx2:=1) [0] Z Z (m211f1_ok a0 a1 x1 hx1) Z Z (DZ Z Z DY) Z Z (gR Z gZ) jZ hZ kZ Z Z Z Z Z (bA Z) Z Z Z Z)<|DU Z Z Z (Q4 Z Z Z)<|DX Z Z Z<|Q2<|Q1<|Qp ?_
 have e:=DS h0;subst e
 exact hQ0 _ _ _ (.inr Z) Z (DR (Nat.le_trans hv0 (lb Z)) Z Z Z Z Z)
def K8 (a0:Lvl) (s1:Int):Option (LO Int (Unit⊕Bool)) :=
 cond (decide (s1 < (a0.vs.length:Int)))
   (Option.bind (Jy a0.vs s1) fun (x5:LV) =>
 Option.bind (cond (decide (x5.1 < (-65536)))
   (some true)
   (cond (decide (7 < x5.1))
   (some true)
   (cond (decide (x5.2 < 0))
   (some true)
   (cond (decide (100 < x5.2))
   (some true)
   (cond (decide (0 < s1))
   (Option.bind (Jy a0.vs (QG (s1 - 1))) fun (x12:LV) =>
 some (decide (x5.1≤x12.1)))
   (some false)))))) (fun (v6:Bool)=>cond v6
   (some (.done (.inr false)))
   (some (.next (QG (s1+1))))))
   (some (.done (.inl ())))
def Ub (a0:Lvl):Option Bool :=
 Option.bind (cond (decide (a0.c < 0))
   (some true)
   (cond (decide (100 < a0.c))
   (some true)
   (cond (decide (0 < a0.c))
   (Option.bind (Option.bind (W8 a0.vs a0) fun (x7:Bool) =>
 some x7) (fun (y5:Bool)=>some y5))
   (some false)))) (fun (v1:Bool)=>cond v1
   (some false)
   (Option.bind (Qo (K8 a0) Qt 0) (Sum.elim (fun (o3:Unit)=>some true) (fun o=>some o))))
theorem m136_ok (a0:Lvl) (r:Bool) (h0:Ub a0=some r):Fun Tryz.prog 136 [.agg (cE a0)] (Qu [.one (dB r)]):=by
 unfold Ub at h0
 refine QF 9 65 Tryz.func136 Z en_136 Z (lb Z) (fun S w=>?_)
 simp only [QY]
 refine Q3<|Q0<|Qx Z Z (lb Z) (J9 Z)<|DX Z Z Z<|Q2<|Q1<|Q3<|Q3 ?_
 refine QE (fun (v1:Bool)=>⟨[(1,.v (.one (.ptr 0 0))),(21,.v (.one (dB v1)))],[(0,.cells 82 (cE a0))],[],1,65,[]⟩) (fun (v1:Bool)=>(cond v1
     (some false)
     (Option.bind (Qo (K8 a0) Qt 0) (Sum.elim (fun (o3:Unit)=>some true) (fun o=>some o))))=some r) ?_ ?_
 refine Qq h0 (fun w1_ h1 h0=>?_)
 refine Q0<|DU Z Z Z (Q5 Ke Z)<|DU Z Z Z (Q7 QL Z Z Z)<|DU Z Z Z (Q4 Z Z Z)<|DW Z Z Z ?_
 refine Qn (d:=8) (c:=(decide (a0.c < 0))) Z (fun c2=>?_) (fun c2=>?_)
 replace h1:=Qe c2 h1
 refine Q6 Z Z<|Q6 Z Z<|Q6 Z Z<|DU Z Z Z (Qb Z Z)<|DW Z Z Z<|Q6 Z Z<|Q6 Z Z<|Q6 Z Z<|Q6 Z Z<|Q6 Z Z<|Q6 Z Z<|Q6 Z Z<|DU Z Z Z (Qb Z Z)<|Q2 ?_
 have e:=DS h1;subst e
 exact Qa true (DR (Nat.zero_le _) Z Z Z Z Z) h0
 replace h1:=Qf c2 h1
 refine DU Z Z Z (Q5 Ke Z)<|DU Z Z Z (Q7 QL Z Z Z)<|DU Z Z Z (Q4 Z Z Z)<|DU Z Z Z (Qc Z Z)<|DW Z Z Z ?_
 refine Qn (d:=13) (c:=(decide (100 < a0.c))) Z (fun c3=>?_) (fun c3=>?_)
 replace h1:=Qe c3 h1
 refine Q6 Z Z<|Q6 Z Z<|Q6 Z Z<|Q6 Z Z<|Q6 Z Z<|Q6 Z Z<|Q6 Z Z<|DU Z Z Z (Qb Z Z)<|Q2 ?_
 have e:=DS h1;subst e
 exact Qa true (DR (Nat.zero_le _) Z Z Z Z Z) h0
 replace h1:=Qf c3 h1
 refine DU Z Z Z (Q5 Ke Z)<|DU Z Z Z (Q7 QL Z Z Z)<|DU Z Z Z (Q4 Z Z Z)<|DW Z Z Z ?_
 refine Qn (d:=17) (c:=(decide (0 < a0.c))) Z (fun c4=>?_) (fun c4=>?_)
 replace h1:=Qe c4 h1
 refine DU Z Z Z (J0 (a0:Lvl) GP Z Z) ?_
 refine Qq h1 (fun y5 h2 h1=>?_)
 have hc6:CallM Tryz.prog 158 [.agg (cE a0)] ⟨[(0,.cells 82 (cE a0))],[],1⟩ (Qu [.one (dB y5)]) ⟨[(0,.cells 82 (cE a0))],[],2⟩:=by
  refine Jt ⟨[(2,.v (.one (dB y5)))],[(0,.cells 82 (cE a0))],[],2,7,[]⟩ Z Z en_158 (lb Z) Z (Qj Z .nil) (fun w0 M V0 Q hv2 hQ2=>?_)
  simp only [QY]
  refine Q3<|Q0<|Qx Z Z (lb Z) (J9 Z)<|DX Z Z Z<|Q2<|Q1<|Q3<|Q0<|DU Z Z Z (Q5 Yg Z)<|DU Z Z Z (Q7 Ki Z Z Z)<|DU Z Z Z (RO.makeFunc1 Z) ?_
  refine Qq h2 (fun x7 hx7 h2=>?_)
  refine Qx Z Z (lb Z) (YK (hp1':=[(1,.cells 82 (cE a0))]) (tk1':=[]) (hpF:=[(0,.cells 82 (cE a0))]) (tkF:=[]) (res2:=Qu [.one (dB x7)]) (nx2:=2) [1] Z Z (m188f0_ok a0.vs a0 x7 hx7) Z Z (DZ Z Z DY) Z Z (gR Z gZ) jZ (hA Z) kZ Z Z Z Z Z (bA Z) Z Z Z Z)<|DX Z Z Z<|Q2<|Q1<|Qp ?_
  have e:=DS h2;subst e
  exact hQ2 _ _ _ (.inr Z) Z (DR (Nat.le_trans hv2 (lb Z)) Z Z Z Z Z)
 refine Qx Z Z (lb Z) (OpOK.callW Z Z Z hc6 Z (hA Z) kZ)<|DU Z Z Z (Qb Z Z)<|DU Z Z Z (Qc Z Z)<|Q2 ?_
 have e:=DS h1;subst e
 exact Qa y5 (DR (Nat.zero_le _) Z Z Z Z Z) h0
 replace h1:=Qf c4 h1
 refine Q6 Z Z<|Q6 Z Z<|DU Z Z Z (Qc Z Z)<|DU Z Z Z (Qc Z Z)<|Q2 ?_
 have e:=DS h1;subst e
 exact Qa false (DR (Nat.zero_le _) Z Z Z Z Z) h0
 intro v1 h0
 refine Q1 ?_
 refine Qh (b:=v1) Z (fun c8=>?_) (fun c8=>?_)
 replace h0:=Qe c8 h0
 refine Q3<|Q0<|DX Z Z Z<|Q2<|Q1<|Qp ?_
 have e:=DS h0;subst e
 exact Qk (fun _ _ h=>h) Z (Qj Z .nil) (.cons (.one (.d _)) .nil)
 replace h0:=Qf c8 h0
 refine Qi<|Q1<|Q3<|Q3<|Q0<|DU Z Z Z (Q5 Yg Z)<|DU Z Z Z (Q7 Ki Z Z Z)<|DU Z Z Z (QQ (α:=LV) Zd Z (.d _))<|DW Z Z Z<|Q2<|Q1<|Qr ?_
 refine Jr 0 (fun (o9:Unit)=>⟨[],[(0,.cells 82 (cE a0))],[],1,65,[]⟩) (fun (o9:Unit)=>(some true)=some r) ?_ ?_
 refine Qq h0 (fun o10 hl1 h0=>?_)
 refine Jq (K8 a0) (fun s1=>⟨[(1,.v (.one (.ptr 0 0))),(23,.v (.one (dS a0.vs))),(24,.v (.one (dI (a0.vs.length:Int)))),(25,.v (.one (dI s1)))],[(0,.cells 82 (cE a0))],[],1,65,[]⟩) 0 o10 (DR (Nat.zero_le _) Z Z Z Z Z) hl1 (fun s1 n1 oo1 h1 ho1=>?_)
 unfold K8 at h1
 refine Q3<|Q0<|DU Z Z Z (Q4 Z Z Z)<|Q2<|Q1<|Q3 ?_
 refine Qh (b:=(decide (s1 < (a0.vs.length:Int)))) Z (fun c11=>?_) (fun c11=>?_)
 replace h1:=Qe c11 h1
 refine Qi<|Q1<|Q3<|Qr<|Q3<|Q0<|DW Z Z Z ?_
 refine Qq h1 (fun x12 hx12 h1=>?_)
 refine DU Z Z Z (J1 (α:=LV) Zd Z (.d _) Z hx12)<|DU Z Z Z (J5 (x12:LV) G0 Z)<|Qx Z Z (lb Z) (QW z_142 Z)<|DX Z Z Z<|Y1 Z Z (Jn (x12:LV) G0 Z Z Z Z Z)<|Q2<|Q1<|Q3 ?_
 refine QE (fun (v13:Bool)=>⟨[(1,.v (.one (.ptr 0 0))),(23,.v (.one (dS a0.vs))),(24,.v (.one (dI (a0.vs.length:Int)))),(25,.v (.one (dI s1))),(63,.v (.one (dB v13)))],[(0,.cells 82 (cE a0)),(1,.cells 142 (cE x12))],[],2,65,[]⟩) (fun (v13:Bool)=>(cond v13
     (some (.done (.inr false)))
     (some (.next (QG (s1+1)))))=some oo1) ?_ ?_
 refine Qq h1 (fun w2_ h2 h1=>?_)
 refine YU [] [] mixed (by kernel_rfl) (by kernel_rfl) (by kernel_rfl) ?_
 refine RunA.rd Z Z Z (Q9 (Q5 JF Z)) Z<|RunA.rd Z Z Z (Q9 (Q7 QL Z Z Z)) Z<|RunA.rd Z Z Z (Q9 (Q4 Z Z Z)) Z ?_
 refine YV (c:=(decide (x12.1 < (-65536)))) Z Z Z (Q9 (J2 Z)) Z (fun c14=>?_) (fun c14=>?_)
 replace h2:=Qe c14 h2
 refine RunA.no Z Z Z Z<|RunA.no Z Z Z Z<|RunA.no Z Z Z Z<|RunA.rd Z Z Z (Q9 (Qb Z Z)) Z<|RunA.rd Z Z Z (Q9 (J2 Z)) Z<|RunA.no Z Z Z Z<|RunA.no Z Z Z Z<|RunA.no Z Z Z Z<|RunA.rd Z Z Z (Q9 (Qb Z Z)) Z<|RunA.rd Z Z Z (Q9 (J2 Z)) Z<|RunA.no Z Z Z Z<|RunA.no Z Z Z Z<|RunA.no Z Z Z Z<|RunA.rd Z Z Z (Q9 (Qb Z Z)) Z ?_
 refine RunA.rd Z Z Z (Q9 (J2 Z)) Z<|RunA.no Z Z Z Z<|RunA.no Z Z Z Z<|RunA.no Z Z Z Z<|RunA.no Z Z Z Z<|RunA.no Z Z Z Z<|RunA.no Z Z Z Z<|RunA.no Z Z Z Z<|RunA.no Z Z Z Z<|RunA.no Z Z Z Z<|RunA.no Z Z Z Z<|RunA.no Z Z Z Z<|RunA.no Z Z Z Z<|RunA.no Z Z Z Z ?_
 refine RunA.no Z Z Z Z<|RunA.rd Z Z Z (Q9 (Qb Z Z)) Z ?_
 refine RunA.nil ⟨?ex,_,_,Z,?_⟩
 case ex=>exact trivial
 have e:=DS h2;subst e
 exact Qa true (DR (Nat.zero_le _) Z Z Z Z Z) h1
 replace h2:=Qf c14 h2
 refine RunA.rd Z Z Z (Q9 (Q5 JF Z)) Z<|RunA.rd Z Z Z (Q9 (Q7 QL Z Z Z)) Z<|RunA.rd Z Z Z (Q9 (Q4 Z Z Z)) Z<|RunA.rd Z Z Z (Q9 (Qc Z Z)) Z ?_
 refine YV (c:=(decide (7 < x12.1))) Z Z Z (Q9 (J2 Z)) Z (fun c15=>?_) (fun c15=>?_)
 replace h2:=Qe c15 h2
 refine RunA.no Z Z Z Z<|RunA.no Z Z Z Z<|RunA.no Z Z Z Z<|RunA.rd Z Z Z (Q9 (Qb Z Z)) Z<|RunA.rd Z Z Z (Q9 (J2 Z)) Z<|RunA.no Z Z Z Z<|RunA.no Z Z Z Z<|RunA.no Z Z Z Z<|RunA.rd Z Z Z (Q9 (Qb Z Z)) Z<|RunA.rd Z Z Z (Q9 (J2 Z)) Z<|RunA.no Z Z Z Z<|RunA.no Z Z Z Z<|RunA.no Z Z Z Z<|RunA.no Z Z Z Z ?_
 refine RunA.no Z Z Z Z<|RunA.no Z Z Z Z<|RunA.no Z Z Z Z<|RunA.no Z Z Z Z<|RunA.no Z Z Z Z<|RunA.no Z Z Z Z<|RunA.no Z Z Z Z<|RunA.no Z Z Z Z<|RunA.no Z Z Z Z<|RunA.no Z Z Z Z<|RunA.rd Z Z Z (Q9 (Qb Z Z)) Z ?_
 refine RunA.nil ⟨?ex,_,_,Z,?_⟩
 case ex=>exact trivial
 have e:=DS h2;subst e
 exact Qa true (DR (Nat.zero_le _) Z Z Z Z Z) h1
 replace h2:=Qf c15 h2
 refine RunA.rd Z Z Z (Q9 (Q5 Kz Z)) Z<|RunA.rd Z Z Z (Q9 (Q7 QL Z Z Z)) Z<|RunA.rd Z Z Z (Q9 (Q4 Z Z Z)) Z<|RunA.rd Z Z Z (Q9 (Qc Z Z)) Z ?_
 refine YV (c:=(decide (x12.2 < 0))) Z Z Z (Q9 (J2 Z)) Z (fun c16=>?_) (fun c16=>?_)
 replace h2:=Qe c16 h2
 refine RunA.no Z Z Z Z<|RunA.no Z Z Z Z<|RunA.no Z Z Z Z<|RunA.rd Z Z Z (Q9 (Qb Z Z)) Z<|RunA.rd Z Z Z (Q9 (J2 Z)) Z<|RunA.no Z Z Z Z<|RunA.no Z Z Z Z<|RunA.no Z Z Z Z<|RunA.no Z Z Z Z<|RunA.no Z Z Z Z<|RunA.no Z Z Z Z<|RunA.no Z Z Z Z<|RunA.no Z Z Z Z<|RunA.no Z Z Z Z ?_
 refine RunA.no Z Z Z Z<|RunA.no Z Z Z Z<|RunA.no Z Z Z Z<|RunA.no Z Z Z Z<|RunA.no Z Z Z Z<|RunA.rd Z Z Z (Q9 (Qb Z Z)) Z ?_
 refine RunA.nil ⟨?ex,_,_,Z,?_⟩
 case ex=>exact trivial
 have e:=DS h2;subst e
 exact Qa true (DR (Nat.zero_le _) Z Z Z Z Z) h1
 replace h2:=Qf c16 h2
 refine RunA.rd Z Z Z (Q9 (Q5 Kz Z)) Z<|RunA.rd Z Z Z (Q9 (Q7 QL Z Z Z)) Z<|RunA.rd Z Z Z (Q9 (Q4 Z Z Z)) Z<|RunA.rd Z Z Z (Q9 (Qc Z Z)) Z ?_
 refine YV (c:=(decide (100 < x12.2))) Z Z Z (Q9 (J2 Z)) Z (fun c17=>?_) (fun c17=>?_)
 replace h2:=Qe c17 h2
 refine RunA.no Z Z Z Z<|RunA.no Z Z Z Z<|RunA.no Z Z Z Z<|RunA.no Z Z Z Z<|RunA.no Z Z Z Z<|RunA.no Z Z Z Z<|RunA.no Z Z Z Z<|RunA.no Z Z Z Z<|RunA.no Z Z Z Z<|RunA.no Z Z Z Z<|RunA.no Z Z Z Z<|RunA.no Z Z Z Z<|RunA.no Z Z Z Z<|RunA.no Z Z Z Z ?_
 refine RunA.rd Z Z Z (Q9 (Qb Z Z)) Z ?_
 refine RunA.nil ⟨?ex,_,_,Z,?_⟩
 case ex=>exact trivial
 have e:=DS h2;subst e
 exact Qa true (DR (Nat.zero_le _) Z Z Z Z Z) h1
 replace h2:=Qf c17 h2
 refine RunA.rd Z Z Z (Q9 (J2 Z)) Z<|RunA.rd Z Z Z (Q9 (Q4 Z Z Z)) Z ?_
 refine YV (c:=(decide (0 < s1))) Z Z Z (Q9 (J2 Z)) Z (fun c18=>?_) (fun c18=>?_)
 replace h2:=Qe c18 h2
 refine RunA.rd Z Z Z (Q9 (Q5 Yg Z)) Z<|RunA.rd Z Z Z (Q9 (Q7 Ki Z Z Z)) Z<|RunA.rd Z Z Z (Q9 (J2 Z)) Z<|RunA.rd Z Z Z (Q9 (Q4 Z Z Z)) Z ?_
 refine Qq h2 (fun x19 hx19 h2=>?_)
 refine RunA.rd Z Z Z (Q9 (J1 (α:=LV) Zd Z (.d _) Z hx19)) Z<|RunA.rd Z Z Z (Q9 (Yn JF Z)) Z<|RunA.rd Z Z Z (Q9 (YJ QL Z Z)) Z<|RunA.rd Z Z Z (Q9 (Q5 JF Z)) Z<|RunA.rd Z Z Z (Q9 (Q7 QL Z Z Z)) Z<|RunA.rd Z Z Z (Q9 (Q4 Z Z Z)) Z<|RunA.rd Z Z Z (Q9 (Qb Z Z)) Z<|RunA.rd Z Z Z (Q9 (Qc Z Z)) Z ?_
 refine RunA.nil ⟨?ex,_,_,Z,?_⟩
 case ex=>exact trivial
 have e:=DS h2;subst e
 exact Qa (decide (x12.1≤x19.1)) (DR (Nat.zero_le _) Z Z Z Z Z) h1
 replace h2:=Qf c18 h2
 refine RunA.no Z Z Z Z<|RunA.no Z Z Z Z<|RunA.no Z Z Z Z<|RunA.no Z Z Z Z<|RunA.no Z Z Z Z<|RunA.no Z Z Z Z<|RunA.no Z Z Z Z<|RunA.no Z Z Z Z<|RunA.no Z Z Z Z<|RunA.no Z Z Z Z<|RunA.rd Z Z Z (Q9 (Qc Z Z)) Z<|RunA.rd Z Z Z (Q9 (Qc Z Z)) Z ?_
 refine RunA.nil ⟨?ex,_,_,Z,?_⟩
 case ex=>exact trivial
 have e:=DS h2;subst e
 exact Qa false (DR (Nat.zero_le _) Z Z Z Z Z) h1
 intro v13 h1
 refine Q1 ?_
 refine Qh (b:=v13) Z (fun c20=>?_) (fun c20=>?_)
 replace h1:=Qe c20 h1
 refine Q3<|Q0<|DX Z Z Z<|Q2<|Q1<|Qp ?_
 have e:=DS h1;subst e
 have e_:_=_:=ho1
 subst e_
 try dsimp only [Sum.elim_inl,Sum.elim_inr] at h0
 have e:=DS h0;subst e
 exact Qk (fun _ _ h=>h) Z (Qj Z .nil) (.cons (.one (.d _)) .nil)
 replace h1:=Qf c20 h1
 refine Qi<|Qy<|Q1<|Q0<|DU Z Z Z (Q4 Z Z Z)<|DW Z Z Z<|Q2 ?_
 have e:=DS h1;subst e
 refine J6 (QG (s1+1)) (DR (Nat.zero_le _) Z Z Z Z Z) ho1
 replace h1:=Qf c11 h1
 refine Jw<|QC<|QC ?_
 have e:=DS h1;subst e
 have e_:_=_:=ho1
 subst e_
 exact Jp () (DR (Nat.zero_le _) Z Z Z Z Z) h0
 intro o9 h0
 refine QZ<|Q1<|Q3<|Q0<|DX Z Z Z<|Q2<|Q1<|Qp ?_
 have e:=DS h0;subst e
 exact Qk (fun _ _ h=>h) Z (Qj Z .nil) (.cons (.one (.d _)) .nil)
def D9 (a0:Byt):Option Bool :=
 Option.bind (cond (decide (97≤a0.n))
   (cond (decide (a0.n≤122))
   (some true)
   (cond (decide (65≤a0.n))
   (cond (decide (a0.n≤90))
   (some true)
   (some (a0.n==95)))
   (some (a0.n==95))))
   (cond (decide (65≤a0.n))
   (cond (decide (a0.n≤90))
   (some true)
   (some (a0.n==95)))
   (some (a0.n==95)))) (fun (v1:Bool)=>some v1)
theorem m135_ok (a0:Byt) (r:Bool) (h0:D9 a0=some r):Fun Tryz.prog 135 [.one (.d (.v (.int .u8 a0.n)))] (Qu [.one (dB r)]):=by
 unfold D9 at h0
 refine QF 9 21 Tryz.func135 Z en_135 Z (lb Z) (fun S w=>?_)
 simp only [QY]
 refine Q3<|Q0<|DX Z Z Z<|Q2<|Q1<|Q3 ?_
 refine QE (fun (v1:Bool)=>⟨[(2,.v (.one (dB v1)))],[],[],0,21,[]⟩) (fun (v1:Bool)=>(some v1)=some r) ?_ ?_
 refine Qq h0 (fun w1_ h1 h0=>?_)
 refine Q0<|DW Z Z Z<|DU Z Z Z (Q4 Z Z Z)<|DW Z Z Z ?_
 refine Qn (d:=5) (c:=(decide (97≤a0.n))) Z (fun c2=>?_) (fun c2=>?_)
 replace h1:=Qe c2 h1
 refine DW Z Z Z<|DU Z Z Z (Q4 Z Z Z)<|DU Z Z Z (Qb Z Z)<|DW Z Z Z ?_
 refine Qn (d:=9) (c:=(decide (a0.n≤122))) Z (fun c3=>?_) (fun c3=>?_)
 replace h1:=Qe c3 h1
 refine Q6 Z Z<|Q6 Z Z<|Q6 Z Z<|Q6 Z Z<|Q6 Z Z<|Q6 Z Z<|DU Z Z Z (Qb Z Z)<|DW Z Z Z<|Q6 Z Z<|Q6 Z Z<|DU Z Z Z (Qb Z Z)<|DX Z Z Z<|Q2 ?_
 have e:=DS h1;subst e
 exact Qa true (DR (Nat.zero_le _) Z Z Z Z Z) h0
 replace h1:=Qf c3 h1
 refine DW Z Z Z<|DU Z Z Z (Q4 Z Z Z)<|DW Z Z Z ?_
 refine Qn (d:=12) (c:=(decide (65≤a0.n))) Z (fun c4=>?_) (fun c4=>?_)
 replace h1:=Qe c4 h1
 refine DW Z Z Z<|DU Z Z Z (Q4 Z Z Z)<|DU Z Z Z (Qb Z Z)<|DU Z Z Z (Qc Z Z)<|DW Z Z Z ?_
 refine Qn (d:=17) (c:=(decide (a0.n≤90))) Z (fun c5=>?_) (fun c5=>?_)
 replace h1:=Qe c5 h1
 refine Q6 Z Z<|Q6 Z Z<|DU Z Z Z (Qb Z Z)<|DX Z Z Z<|Q2 ?_
 have e:=DS h1;subst e
 exact Qa true (DR (Nat.zero_le _) Z Z Z Z Z) h0
 replace h1:=Qf c5 h1
 refine DW Z Z Z<|DU Z Z Z (Q4 Z Z Z)<|DU Z Z Z (Qc Z Z)<|DX Z Z Z<|Q2 ?_
 have e:=DS h1;subst e
 exact Qa (a0.n==95) (DR (Nat.zero_le _) Z Z Z Z Z) h0
 replace h1:=Qf c4 h1
 refine Q6 Z Z<|Q6 Z Z<|DU Z Z Z (Qc Z Z)<|DU Z Z Z (Qc Z Z)<|DW Z Z Z<|DW Z Z Z<|DU Z Z Z (Q4 Z Z Z)<|DU Z Z Z (Qc Z Z)<|DX Z Z Z<|Q2 ?_
 have e:=DS h1;subst e
 exact Qa (a0.n==95) (DR (Nat.zero_le _) Z Z Z Z Z) h0
 replace h1:=Qf c2 h1
 refine Q6 Z Z<|Q6 Z Z<|DU Z Z Z (Qc Z Z)<|DW Z Z Z<|DW Z Z Z<|DU Z Z Z (Q4 Z Z Z)<|DW Z Z Z ?_
 refine Qn (d:=12) (c:=(decide (65≤a0.n))) Z (fun c6=>?_) (fun c6=>?_)
 replace h1:=Qe c6 h1
 refine DW Z Z Z<|DU Z Z Z (Q4 Z Z Z)<|DU Z Z Z (Qb Z Z)<|DU Z Z Z (Qc Z Z)<|DW Z Z Z ?_
 refine Qn (d:=17) (c:=(decide (a0.n≤90))) Z (fun c7=>?_) (fun c7=>?_)
 replace h1:=Qe c7 h1
 refine Q6 Z Z<|Q6 Z Z<|DU Z Z Z (Qb Z Z)<|DX Z Z Z<|Q2 ?_
 have e:=DS h1;subst e
 exact Qa true (DR (Nat.zero_le _) Z Z Z Z Z) h0
 replace h1:=Qf c7 h1
 refine DW Z Z Z<|DU Z Z Z (Q4 Z Z Z)<|DU Z Z Z (Qc Z Z)<|DX Z Z Z<|Q2 ?_
 have e:=DS h1;subst e
 exact Qa (a0.n==95) (DR (Nat.zero_le _) Z Z Z Z Z) h0
 replace h1:=Qf c6 h1
 refine Q6 Z Z<|Q6 Z Z<|DU Z Z Z (Qc Z Z)<|DU Z Z Z (Qc Z Z)<|DW Z Z Z<|DW Z Z Z<|DU Z Z Z (Q4 Z Z Z)<|DU Z Z Z (Qc Z Z)<|DX Z Z Z<|Q2 ?_
 have e:=DS h1;subst e
 exact Qa (a0.n==95) (DR (Nat.zero_le _) Z Z Z Z Z) h0
 intro v1 h0
 refine Q1<|Qp ?_
 have e:=DS h0;subst e
 exact Qk (fun _ _ h=>h) Z (Qj Z .nil) (.cons (.one (.d _)) .nil)
def KV (a0:Bs) (s1:Bool×Int):Option (LO (Bool×Int) (Bool⊕Bool)) :=
 cond (decide (s1.2 < (a0.length:Int)))
   (Option.bind (Jy a0 s1.2) fun (x3:UInt8) =>
 Option.bind (D9 (⟨(x3.toNat:Int)⟩:Byt)) fun (x4:Bool) =>
 cond x4
   (some (.next (false,(QG (s1.2+1)))))
   (cond s1.1
   (some (.done (.inr false)))
   (cond ((x3.toNat:Int)==46)
   (some (.next (true,(QG (s1.2+1)))))
   (Option.bind (cond (decide ((x3.toNat:Int) < 48))
   (some true)
   (some (decide (57 < (x3.toNat:Int))))) (fun (v8:Bool)=>cond v8
   (cond ((x3.toNat:Int) != 39)
   (some (.done (.inr false)))
   (some (.next (s1.1,(QG (s1.2+1))))))
   (some (.next (s1.1,(QG (s1.2+1))))))))))
   (some (.done (.inl s1.1)))
def Uf (a0:Bs):Option Bool :=
 Option.bind (Qo (KV a0) Qt (true,0)) (Sum.elim (fun (o1:Bool)=>Option.bind (cond (!o1)
   (some (decide ((a0.length:Int)≤64)))
   (some false)) (fun (v2:Bool)=>some v2)) (fun o=>some o))
theorem m110_ok (a0:Bs) (r:Bool) (h0:Uf a0=some r):Fun Tryz.prog 110 [.one (Do a0)] (Qu [.one (dB r)]):=by
 unfold Uf at h0
 refine QF 9 39 Tryz.func110 Z en_110 Z (lb Z) (fun S w=>?_)
 simp only [QY]
 refine Q3<|Q0<|DX Z Z Z<|Q2<|Q1<|Q3<|Q0<|DX Z Z Z<|Q2<|Q1<|Q3<|Q3<|Q0<|DW Z Z Z ?_
 refine DU Z Z Z (Xj UJ Z)<|DW Z Z Z<|Q2<|Q1<|Qr ?_
 refine Jr 0 (fun (o1:Bool)=>⟨[(0,.v (.one (Do a0))),(3,.v (.one (dB o1)))],[],[],0,39,[]⟩) (fun (o1:Bool)=>(Option.bind (cond (!o1)
     (some (decide ((a0.length:Int)≤64)))
     (some false)) (fun (v2:Bool)=>some v2))=some r) ?_ ?_
 refine Qq h0 (fun o2 hl1 h0=>?_)
 refine Jq (KV a0) (fun s1=>⟨[(0,.v (.one (Do a0))),(3,.v (.one (dB s1.1))),(7,.v (.one (dI (a0.length:Int)))),(8,.v (.one (dI s1.2)))],[],[],0,39,[]⟩) (true,0) o2 (DR (Nat.zero_le _) Z Z Z Z Z) hl1 (fun s1 n1 oo1 h1 ho1=>?_)
 unfold KV at h1
 refine Q3<|Q0<|DU Z Z Z (Q4 Z Z Z)<|Q2<|Q1<|Q3 ?_
 refine Qh (b:=(decide (s1.2 < (a0.length:Int)))) Z (fun c3=>?_) (fun c3=>?_)
 replace h1:=Qe c3 h1
 refine Qi<|Q1<|Q3<|Qr<|Q3<|Q0<|DW Z Z Z<|DX Z Z Z<|Q2<|Q1<|Q3<|Q0<|DW Z Z Z<|DW Z Z Z ?_
 refine Qq h1 (fun x4 hx4 h1=>?_)
 refine DU Z Z Z (RO.ixS UJ Z Z hx4)<|DX Z Z Z<|Q2<|Q1<|Qr<|Q3<|Q0<|DW Z Z Z ?_
 refine Qq h1 (fun x5 hx5 h1=>?_)
 refine Qx Z Z (lb Z) (Qz (m135_ok (⟨(x4.toNat:Int)⟩:Byt) x5 hx5) Z (.cons (.one (.d _)) .nil))<|DX Z Z Z<|Q2<|Q1 ?_
 refine Qh (b:=x5) Z (fun c6=>?_) (fun c6=>?_)
 replace h1:=Qe c6 h1
 refine Q0<|DX Z Z Z<|Q2<|Qy<|Qy<|Q1<|Q0<|DU Z Z Z (Q4 Z Z Z)<|DW Z Z Z<|Q2 ?_
 have e:=DS h1;subst e
 refine J6 (false,(QG (s1.2+1))) (DR (Nat.zero_le _) Z Z Z Z Z) ho1
 replace h1:=Qf c6 h1
 refine Q3<|Q0<|DW Z Z Z<|DX Z Z Z<|Q2<|Q1 ?_
 refine Qh (b:=s1.1) Z (fun c7=>?_) (fun c7=>?_)
 replace h1:=Qe c7 h1
 refine Q3<|Q0<|DX Z Z Z<|Q2<|Q1<|Qp ?_
 have e:=DS h1;subst e
 have e_:_=_:=ho1
 subst e_
 try dsimp only [Sum.elim_inl,Sum.elim_inr] at h0
 have e:=DS h0;subst e
 exact Qk (fun _ _ h=>h) Z (Qj Z .nil) (.cons (.one (.d _)) .nil)
 replace h1:=Qf c7 h1
 refine Q3<|Q0<|DW Z Z Z<|DU Z Z Z (Q4 Z Z Z)<|DX Z Z Z<|Q2<|Q1 ?_
 refine Qh (b:=((x4.toNat:Int)==46)) Z (fun c8=>?_) (fun c8=>?_)
 replace h1:=Qe c8 h1
 refine Q0<|DX Z Z Z<|Q2<|Qy<|Qy<|Q1<|Q0<|DU Z Z Z (Q4 Z Z Z)<|DW Z Z Z<|Q2 ?_
 have e:=DS h1;subst e
 refine J6 (true,(QG (s1.2+1))) (DR (Nat.zero_le _) Z Z Z Z Z) ho1
 replace h1:=Qf c8 h1
 refine Q3 ?_
 refine QE (fun (v9:Bool)=>⟨[(0,.v (.one (Do a0))),(3,.v (.one (dB s1.1))),(5,.v (.one (.d (.v (.int .u8 (x4.toNat:Int)))))),(7,.v (.one (dI (a0.length:Int)))),(8,.v (.one (dI s1.2))),(22,.v (.one (dB v9)))],[],[],0,39,[]⟩) (fun (v9:Bool)=>(cond v9
     (cond ((x4.toNat:Int) != 39)
     (some (.done (.inr false)))
     (some (.next (s1.1,(QG (s1.2+1))))))
     (some (.next (s1.1,(QG (s1.2+1))))))=some oo1) ?_ ?_
 refine Qq h1 (fun w2_ h2 h1=>?_)
 refine Q0<|DW Z Z Z<|DU Z Z Z (Q4 Z Z Z)<|DW Z Z Z ?_
 refine Qn (d:=25) (c:=(decide ((x4.toNat:Int) < 48))) Z (fun c10=>?_) (fun c10=>?_)
 replace h2:=Qe c10 h2
 refine Q6 Z Z<|Q6 Z Z<|DU Z Z Z (Qb Z Z)<|DX Z Z Z<|Q2 ?_
 have e:=DS h2;subst e
 exact Qa true (DR (Nat.zero_le _) Z Z Z Z Z) h1
 replace h2:=Qf c10 h2
 refine DW Z Z Z<|DU Z Z Z (Q4 Z Z Z)<|DU Z Z Z (Qc Z Z)<|DX Z Z Z<|Q2 ?_
 have e:=DS h2;subst e
 exact Qa (decide (57 < (x4.toNat:Int))) (DR (Nat.zero_le _) Z Z Z Z Z) h1
 intro v9 h1
 refine Q1 ?_
 refine Qh (b:=v9) Z (fun c11=>?_) (fun c11=>?_)
 replace h1:=Qe c11 h1
 refine Q3<|Q0<|DW Z Z Z<|DU Z Z Z (Q4 Z Z Z)<|Q2<|Q1 ?_
 refine Qh (b:=((x4.toNat:Int) != 39)) Z (fun c12=>?_) (fun c12=>?_)
 replace h1:=Qe c12 h1
 refine Q3<|Q0<|DX Z Z Z<|Q2<|Q1<|Qp ?_
 have e:=DS h1;subst e
 have e_:_=_:=ho1
 subst e_
 try dsimp only [Sum.elim_inl,Sum.elim_inr] at h0
 have e:=DS h0;subst e
 exact Qk (fun _ _ h=>h) Z (Qj Z .nil) (.cons (.one (.d _)) .nil)
 replace h1:=Qf c12 h1
 refine Qi<|Qy<|Qy<|Q1<|Q0<|DU Z Z Z (Q4 Z Z Z)<|DW Z Z Z<|Q2 ?_
 have e:=DS h1;subst e
 refine J6 (s1.1,(QG (s1.2+1))) (DR (Nat.zero_le _) Z Z Z Z Z) ho1
 replace h1:=Qf c11 h1
 refine Qi<|Qy<|Qy<|Q1<|Q0<|DU Z Z Z (Q4 Z Z Z)<|DW Z Z Z<|Q2 ?_
 have e:=DS h1;subst e
 refine J6 (s1.1,(QG (s1.2+1))) (DR (Nat.zero_le _) Z Z Z Z Z) ho1
 replace h1:=Qf c3 h1
 refine Jw<|QC<|QC ?_
 have e:=DS h1;subst e
 have e_:_=_:=ho1
 subst e_
 exact Jp s1.1 (DR (Nat.zero_le _) Z Z Z Z Z) h0
 intro o1 h0
 refine QZ<|Q1<|Q3 ?_
 refine QE (fun (v13:Bool)=>⟨[(2,.v (.one (dB v13)))],[],[],0,39,[]⟩) (fun (v13:Bool)=>(some v13)=some r) ?_ ?_
 refine Qq h0 (fun w1_ h1 h0=>?_)
 refine Q0<|DW Z Z Z<|DU Z Z Z (YI Z)<|DW Z Z Z ?_
 refine Qn (d:=34) (c:=(!o1)) Z (fun c14=>?_) (fun c14=>?_)
 replace h1:=Qe c14 h1
 refine DW Z Z Z<|DU Z Z Z (Xj UJ Z)<|DU Z Z Z (Q4 Z Z Z)<|DU Z Z Z (Qb Z Z)<|DX Z Z Z<|Q2 ?_
 have e:=DS h1;subst e
 exact Qa (decide ((a0.length:Int)≤64)) (DR (Nat.zero_le _) Z Z Z Z Z) h0
 replace h1:=Qf c14 h1
 refine Q6 Z Z<|Q6 Z Z<|Q6 Z Z<|DU Z Z Z (Qc Z Z)<|DX Z Z Z<|Q2 ?_
 have e:=DS h1;subst e
 exact Qa false (DR (Nat.zero_le _) Z Z Z Z Z) h0
 intro v13 h0
 refine Q1<|Qp ?_
 have e:=DS h0;subst e
 exact Qk (fun _ _ h=>h) Z (Qj Z .nil) (.cons (.one (.d _)) .nil)
def m60_l0 (a0:Tm) (rc:Tm→Option Int) (s1:Int×Int):Option (LO (Int×Int) Int) :=
 cond (decide (s1.2 < (a0.kids.length:Int)))
   (Option.bind (Jy a0.kids s1.2) fun (x3:Tm) =>
 Option.bind (rc x3) fun (x4:Int) =>
 some (.next ((max s1.1 x4),(QG (s1.2+1)))))
   (some (.done s1.1))
def m60s (rc:Tm→Option Int) (a0:Tm):Option Int :=
 Option.bind (Qo (m60_l0 a0 rc) Qt (0,0)) (fun (o1:Int)=>some (QG (o1+1)))
def m60F (rc:Tm→Option Int) (u:Tm):Option Int:=m60s rc u
def m60 (a0:Tm):Option Int:=Jc m60F Qt a0
theorem m60s_ok (rc:Tm→Option Int) (H:∀ (a0:Tm) (r:Int),rc a0=some r→Fun Tryz.prog 60 [.agg (cE a0)] (Qu [.one (dI r)])) (a0:Tm) (r:Int) (h0:m60s rc a0=some r):Fun Tryz.prog 60 [.agg (cE a0)] (Qu [.one (dI r)]):=by
 unfold m60s at h0
 refine QF 9 20 Tryz.func60 Z en_60 Z (lb Z) (fun S w=>?_)
 simp only [QY]
 refine Q3<|Q0<|Qx Z Z (lb Z) (J9 Z)<|DX Z Z Z<|Q2<|Q1<|Q3<|Q0<|DX Z Z Z<|Q2<|Q1<|Q3<|Q3<|Q0 ?_
 refine DU Z Z Z (Q5 JR Z)<|DU Z Z Z (Q7 Zu Z Z Z)<|DU Z Z Z (QQ (α:=Tm) YY Z (.d _))<|DW Z Z Z<|Q2<|Q1<|Qr ?_
 refine Jr 0 (fun (o1:Int)=>⟨[(3,.v (.one (dI o1)))],[(0,.cells 25 (cE a0))],[],1,20,[]⟩) (fun (o1:Int)=>(some (QG (o1+1)))=some r) ?_ ?_
 refine Qq h0 (fun o2 hl1 h0=>?_)
 refine Jq (m60_l0 a0 rc) (fun s1=>⟨[(3,.v (.one (dI s1.1))),(7,.v (.one (dS a0.kids))),(8,.v (.one (dI (a0.kids.length:Int)))),(9,.v (.one (dI s1.2)))],[(0,.cells 25 (cE a0))],[],1,20,[]⟩) (0,0) o2 (DR (Nat.zero_le _) Z Z Z Z Z) hl1 (fun s1 n1 oo1 h1 ho1=>?_)
 unfold m60_l0 at h1
 refine Q3<|Q0<|DU Z Z Z (Q4 Z Z Z)<|Q2<|Q1<|Q3 ?_
 refine Qh (b:=(decide (s1.2 < (a0.kids.length:Int)))) Z (fun c3=>?_) (fun c3=>?_)
 replace h1:=Qe c3 h1
 refine Qi<|Q1<|Q3<|Qr<|Q3<|Q0 ?_
 refine Qq h1 (fun x4 hx4 h1=>?_)
 refine DU Z Z Z (J1 (α:=Tm) YY Z (.d _) Z hx4)<|DU Z Z Z (J5 (x4:Tm) YT Z)<|Qx Z Z (lb Z) (QW z_25 Z)<|Y1 Z Z (Jn (x4:Tm) YT Z Z Z Z Z)<|Q2<|Q1<|Q0<|DW Z Z Z<|DU Z Z Z (J0 (x4:Tm) YT Z Z) ?_
 refine Qq h1 (fun x5 hx5 h1=>?_)
 refine Qx Z Z (lb Z) (Qz (H x4 x5 hx5) Z (.cons (.agg (.cons (.d _) (.cons (.d _) (.cons (.d _) (.cons (.d _) (.cons (.d _) .nil)))))) .nil))<|DU Z Z Z (Kl Z Z)<|DX Z Z Z<|Q2<|Qy<|Q1<|Q0<|DU Z Z Z (Q4 Z Z Z)<|DW Z Z Z<|Q2 ?_
 have e:=DS h1;subst e
 refine J6 ((max s1.1 x5),(QG (s1.2+1))) (DR (Nat.zero_le _) Z Z Z Z Z) ho1
 replace h1:=Qf c3 h1
 refine Jw<|QC<|QC ?_
 have e:=DS h1;subst e
 have e_:_=_:=ho1
 subst e_
 exact Jp s1.1 (DR (Nat.zero_le _) Z Z Z Z Z) h0
 intro o1 h0
 refine QZ<|Q1<|Q3<|Q0<|DW Z Z Z<|DU Z Z Z (Q4 Z Z Z)<|DX Z Z Z<|Q2<|Q1<|Qp ?_
 have e:=DS h0;subst e
 exact Qk (fun _ _ h=>h) Z (Qj Z .nil) (.cons (.one (.d _)) .nil)
theorem m60_all (n:Nat) (u:Tm) (r:Int) (h0:Jc m60F n u=some r):Fun Tryz.prog 60 [.agg (cE u)] (Qu [.one (dI r)]) :=
 Y6 (C:=fun u r=>Fun Tryz.prog 60 [.agg (cE u)] (Qu [.one (dI r)])) (fun rc H u r h=>m60s_ok rc (fun a0 r h=>H a0 r h) u r h) n u r h0
theorem m60_ok (a0:Tm) (r:Int) (h0:m60 a0=some r):Fun Tryz.prog 60 [.agg (cE a0)] (Qu [.one (dI r)]):=m60_all Qt a0 r h0
def m107 :Option ((List Use)) :=
 some ([(⟨true,false,0,0,(-1)⟩:Use),(⟨false,false,0,0,(-1)⟩:Use),(⟨false,false,1,0,(-1)⟩:Use),(⟨false,true,(-1),0,(-1)⟩:Use),(⟨false,false,0,2,(-1)⟩:Use),(⟨false,false,0,2,1⟩:Use),(⟨false,false,0,2,1⟩:Use),(⟨false,false,0,2,1⟩:Use),(⟨false,false,0,3,(-1)⟩:Use),(⟨false,false,0,1,(-1)⟩:Use),(⟨false,false,0,1,(-1)⟩:Use),(⟨false,false,0,3,2⟩:Use),(⟨true,false,0,0,(-1)⟩:Use)]:List Use)
theorem m107_ok  (r:(List Use)) (h0:m107 =some r):Fun Tryz.prog 107 [] (Qu [.agg (Wh (r:List Use))]):=by
 unfold m107 at h0
 refine QF 9 15 Tryz.func107 Z en_107 Z (lb Z) (fun S w=>?_)
 simp only [QY]
 refine Q3<|Q0<|Qx Z Z (lb Z) (QW z_156 Z)<|Q2<|Q1<|Q3<|Q0<|DU Z Z Z (QR Jo Z Z Z Z)<|DU Z Z Z (RO.build1 Jo Z Z Z)<|DU Z Z Z (QR Jo Z Z Z Z)<|DU Z Z Z (RO.build3 Jo Z Z Z Z Z)<|DU Z Z Z (QR Jo Z Z Z Z)<|DU Z Z Z (QR Jo Z Z Z Z)<|DU Z Z Z (QR Jo Z Z Z Z) ?_
 refine DU Z Z Z (QR Jo Z Z Z Z)<|DU Z Z Z (QR Jo Z Z Z Z)<|DU Z Z Z (QR Jo Z Z Z Z)<|DU Z Z Z (QR Jo Z Z Z Z)<|DU Z Z Z (QR Jo Z Z Z Z)<|DU Z Z Z (QR Jo Z Z Z Z)<|DU Z Z Z (RO.buildN bd_156 Z (.cons Z (.cons Z (.cons Z (.cons Z (.cons Z (.cons Z (.cons Z (.cons Z (.cons Z (.cons Z (.cons Z (.cons Z (.cons Z .nil))))))))))))) Z)<|Y1 Z Z (OpOK.storeAll Ws Z Z Z Z Z Z)<|Q2<|Q1<|Qp ?_
 have e:=DS h0;subst e
 exact Qk (fun _ _ h=>h) Z (RAs.agg Ws Z Z Z Z .nil) (.cons (.agg (.cons (.d _) (.cons (.d _) (.cons (.d _) (.cons (.d _) (.cons (.d _) (.cons (.d _) (.cons (.d _) (.cons (.d _) (.cons (.d _) (.cons (.d _) (.cons (.d _) (.cons (.d _) (.cons (.d _) (.cons (.d _) (.cons (.d _) (.cons (.d _) (.cons (.d _) (.cons (.d _) (.cons (.d _) (.cons (.d _) (.cons (.d _) (.cons (.d _) (.cons (.d _) (.cons (.d _) (.cons (.d _) (.cons (.d _) (.cons (.d _) (.cons (.d _) (.cons (.d _) (.cons (.d _) (.cons (.d _) (.cons (.d _) (.cons (.d _) (.cons (.d _) (.cons (.d _) (.cons (.d _) (.cons (.d _) (.cons (.d _) (.cons (.d _) (.cons (.d _) (.cons (.d _) (.cons (.d _) (.cons (.d _) (.cons (.d _) (.cons (.d _) (.cons (.d _) (.cons (.d _) (.cons (.d _) (.cons (.d _) (.cons (.d _) (.cons (.d _) (.cons (.d _) (.cons (.d _) (.cons (.d _) (.cons (.d _) (.cons (.d _) (.cons (.d _) (.cons (.d _) (.cons (.d _) (.cons (.d _) (.cons (.d _) (.cons (.d _) (.cons (.d _) (.cons (.d _) (.cons (.d _) .nil)))))))))))))))))))))))))))))))))))))))))))))))))))))))))))))))))) .nil)
def KU (a1:Lvl) (a0:Scp) (s1:Int):Option (LO Int (Unit⊕Int)) :=
 cond (decide (s1 < (a1.vs.length:Int)))
   (Option.bind (Jy a1.vs s1) fun (x5:LV) =>
 cond (decide (a0.params≤x5.1))
   (some (.done (.inr 15)))
   (some (.next (QG (s1+1)))))
   (some (.done (.inl ())))
def Kb (a1:Lvl) (a0:Scp) (s1:Int):Option (LO Int (Unit⊕Int)) :=
 cond (decide (s1 < (a1.vs.length:Int)))
   (Option.bind (Jy a1.vs s1) fun (x6:LV) =>
 Option.bind (cond (decide (x6.1 < 0))
   (some (decide (a0.levels≤(QG ((-1) - x6.1)))))
   (some false)) (fun (v7:Bool)=>cond v7
   (some (.done (.inr 23)))
   (some (.next (QG (s1+1))))))
   (some (.done (.inl ())))
noncomputable abbrev m111_h0 (p0_:Scp) (p1_:Lvl) (p2_:LV):List (Nat×HB) :=
 [(0,.cells 107 (cE p0_)),(1,.cells 82 (cE p1_)),(2,.cells 142 (cE p2_))]
def Wa (a0:Scp) (a1:Lvl):Option Int :=
 Option.bind (Ub a1) fun (x1:Bool) =>
 cond (!x1)
   (some 3)
   (Option.bind (Qo (KU a1 a0) Qt 0) (Sum.elim (fun (o3:Unit)=>Option.bind (Qo (Kb a1 a0) Qt 0) (Sum.elim (fun (o4:Unit)=>some 0) (fun o=>some o))) (fun o=>some o)))
theorem m111_ok (a0:Scp) (a1:Lvl) (r:Int) (h0:Wa a0 a1=some r):Fun Tryz.prog 111 [.agg (cE a0),.agg (cE a1)] (Qu [.one (dI r)]):=by
 unfold Wa at h0
 refine QF 9 44 Tryz.func111 Z en_111 Z (lb Z) (fun S w=>?_)
 simp only [QY]
 refine Q3<|Q0<|Qx Z Z (lb Z) (J9 Z)<|Qx Z Z (lb Z) (J9 Z)<|DX Z Z Z<|Q2<|Q1<|Q3<|Q3<|Q0<|DU Z Z Z (J0 (a1:Lvl) GP Z Z) ?_
 refine Qq h0 (fun x1 hx1 h0=>?_)
 refine Qx Z Z (lb Z) (Qz (m136_ok a1 x1 hx1) Z (.cons (.agg (.cons (.d _) (.cons (.d _) .nil))) .nil))<|DU Z Z Z (YI Z)<|Q2<|Q1 ?_
 refine Qh (b:=(!x1)) Z (fun c2=>?_) (fun c2=>?_)
 replace h0:=Qe c2 h0
 refine Q3<|Q0<|DX Z Z Z<|Q2<|Q1<|Qp ?_
 have e:=DS h0;subst e
 exact Qk (fun _ _ h=>h) Z (Qj Z .nil) (.cons (.one (.d _)) .nil)
 replace h0:=Qf c2 h0
 refine Qi<|Q1<|Q3<|Q3<|Q0<|DU Z Z Z (Q5 Yg Z)<|DU Z Z Z (Q7 Ki Z Z Z)<|DU Z Z Z (QQ (α:=LV) Zd Z (.d _))<|DW Z Z Z<|Q2<|Q1<|Qr ?_
 refine Jr 0 (fun (o3:Unit)=>⟨[(2,.v (.one (.ptr 0 0))),(3,.v (.one (.ptr 1 0)))],[(0,.cells 107 (cE a0)),(1,.cells 82 (cE a1))],[],2,44,[]⟩) (fun (o3:Unit)=>(Option.bind (Qo (Kb a1 a0) Qt 0) (Sum.elim (fun (o4:Unit)=>some 0) (fun o=>some o)))=some r) ?_ ?_
 refine Qq h0 (fun o4 hl1 h0=>?_)
 refine Jq (KU a1 a0) (fun s1=>⟨[(2,.v (.one (.ptr 0 0))),(3,.v (.one (.ptr 1 0))),(13,.v (.one (dS a1.vs))),(14,.v (.one (dI (a1.vs.length:Int)))),(15,.v (.one (dI s1)))],[(0,.cells 107 (cE a0)),(1,.cells 82 (cE a1))],[],2,44,[]⟩) 0 o4 (DR (Nat.zero_le _) Z Z Z Z Z) hl1 (fun s1 n1 oo1 h1 ho1=>?_)
 unfold KU at h1
 refine Q3<|Q0<|DU Z Z Z (Q4 Z Z Z)<|Q2<|Q1<|Q3 ?_
 refine Qh (b:=(decide (s1 < (a1.vs.length:Int)))) Z (fun c5=>?_) (fun c5=>?_)
 replace h1:=Qe c5 h1
 refine Qi<|Q1<|Q3<|Qr<|Q3<|Q0 ?_
 refine Qq h1 (fun x6 hx6 h1=>?_)
 refine DU Z Z Z (J1 (α:=LV) Zd Z (.d _) Z hx6)<|DU Z Z Z (J5 (x6:LV) G0 Z)<|Qx Z Z (lb Z) (QW z_142 Z)<|Y1 Z Z (Jn (x6:LV) G0 Z Z Z Z Z)<|Q2<|Q1<|Q3<|Q0<|DU Z Z Z (Q5 JF Z)<|DU Z Z Z (Q7 QL Z Z Z)<|DU Z Z Z (Q5 fo_107_1 Z)<|DU Z Z Z (Q7 QL Z Z Z)<|DU Z Z Z (Q4 Z Z Z)<|Q2 ?_
 refine Q1 ?_
 refine Qh (b:=(decide (a0.params≤x6.1))) Z (fun c7=>?_) (fun c7=>?_)
 replace h1:=Qe c7 h1
 refine Q3<|Q0<|DX Z Z Z<|Q2<|Q1<|Qp ?_
 have e:=DS h1;subst e
 have e_:_=_:=ho1
 subst e_
 try dsimp only [Sum.elim_inl,Sum.elim_inr] at h0
 have e:=DS h0;subst e
 exact Qk (fun _ _ h=>h) Z (Qj Z .nil) (.cons (.one (.d _)) .nil)
 replace h1:=Qf c7 h1
 refine Qi<|Qy<|Q1<|Q0<|DU Z Z Z (Q4 Z Z Z)<|DW Z Z Z<|Q2 ?_
 have e:=DS h1;subst e
 refine J6 (QG (s1+1)) (DR (Nat.zero_le _) Z Z Z Z Z) ho1
 replace h1:=Qf c5 h1
 refine Jw<|QC<|QC ?_
 have e:=DS h1;subst e
 have e_:_=_:=ho1
 subst e_
 exact Jp () (DR (Nat.zero_le _) Z Z Z Z Z) h0
 intro o3 h0
 refine QZ<|Q1<|Q3<|Q3<|Q0<|DU Z Z Z (Q5 Yg Z)<|DU Z Z Z (Q7 Ki Z Z Z)<|DU Z Z Z (QQ (α:=LV) Zd Z (.d _))<|DW Z Z Z<|Q2<|Q1<|Qr ?_
 refine Jr 2 (fun (o8:Unit)=>⟨[],[(0,.cells 107 (cE a0)),(1,.cells 82 (cE a1))],[],2,44,[]⟩) (fun (o8:Unit)=>(some 0)=some r) ?_ ?_
 refine Qq h0 (fun o9 hl1 h0=>?_)
 refine Jq (Kb a1 a0) (fun s1=>⟨[(2,.v (.one (.ptr 0 0))),(26,.v (.one (dS a1.vs))),(27,.v (.one (dI (a1.vs.length:Int)))),(28,.v (.one (dI s1)))],[(0,.cells 107 (cE a0)),(1,.cells 82 (cE a1))],[],2,44,[]⟩) 0 o9 (DR (Nat.zero_le _) Z Z Z Z Z) hl1 (fun s1 n1 oo1 h1 ho1=>?_)
 unfold Kb at h1
 refine Q3<|Q0<|DU Z Z Z (Q4 Z Z Z)<|Q2<|Q1<|Q3 ?_
 refine Qh (b:=(decide (s1 < (a1.vs.length:Int)))) Z (fun c10=>?_) (fun c10=>?_)
 replace h1:=Qe c10 h1
 refine Qi<|Q1<|Q3<|Qr<|Q3<|Q0 ?_
 refine Qq h1 (fun x11 hx11 h1=>?_)
 refine DU Z Z Z (J1 (α:=LV) Zd Z (.d _) Z hx11)<|DU Z Z Z (J5 (x11:LV) G0 Z)<|Qx Z Z (lb Z) (QW z_142 Z)<|Y1 Z Z (Jn (x11:LV) G0 Z Z Z Z Z)<|Q2<|Q1<|Q3 ?_
 refine QE (fun (v12:Bool)=>⟨[(2,.v (.one (.ptr 0 0))),(26,.v (.one (dS a1.vs))),(27,.v (.one (dI (a1.vs.length:Int)))),(28,.v (.one (dI s1))),(42,.v (.one (dB v12)))],m111_h0 a0 a1 x11,[],3,44,[]⟩) (fun (v12:Bool)=>(cond v12
     (some (.done (.inr 23)))
     (some (.next (QG (s1+1)))))=some oo1) ?_ ?_
 refine Qq h1 (fun w2_ h2 h1=>?_)
 refine Q0<|DU Z Z Z (Q5 JF Z)<|DU Z Z Z (Q7 QL Z Z Z)<|DU Z Z Z (Q4 Z Z Z)<|DW Z Z Z ?_
 refine Qn (d:=35) (c:=(decide (x11.1 < 0))) Z (fun c13=>?_) (fun c13=>?_)
 replace h2:=Qe c13 h2
 refine DU Z Z Z (Q5 JF Z)<|DU Z Z Z (Q7 QL Z Z Z)<|DU Z Z Z (Q4 Z Z Z)<|DU Z Z Z (Q5 fo_107_3 Z)<|DU Z Z Z (Q7 QL Z Z Z)<|DU Z Z Z (Q4 Z Z Z)<|DU Z Z Z (Qb Z Z)<|Q2 ?_
 have e:=DS h2;subst e
 exact Qa (decide (a0.levels≤(QG ((-1) - x11.1)))) (DR (Nat.zero_le _) Z Z Z Z Z) h1
 replace h2:=Qf c13 h2
 refine Q6 Z Z<|Q6 Z Z<|Q6 Z Z<|Q6 Z Z<|Q6 Z Z<|Q6 Z Z<|DU Z Z Z (Qc Z Z)<|Q2 ?_
 have e:=DS h2;subst e
 exact Qa false (DR (Nat.zero_le _) Z Z Z Z Z) h1
 intro v12 h1
 refine Q1 ?_
 refine Qh (b:=v12) Z (fun c14=>?_) (fun c14=>?_)
 replace h1:=Qe c14 h1
 refine Q3<|Q0<|DX Z Z Z<|Q2<|Q1<|Qp ?_
 have e:=DS h1;subst e
 have e_:_=_:=ho1
 subst e_
 try dsimp only [Sum.elim_inl,Sum.elim_inr] at h0
 have e:=DS h0;subst e
 exact Qk (fun _ _ h=>h) Z (Qj Z .nil) (.cons (.one (.d _)) .nil)
 replace h1:=Qf c14 h1
 refine Qi<|Qy<|Q1<|Q0<|DU Z Z Z (Q4 Z Z Z)<|DW Z Z Z<|Q2 ?_
 have e:=DS h1;subst e
 refine J6 (QG (s1+1)) (DR (Nat.zero_le _) Z Z Z Z Z) ho1
 replace h1:=Qf c10 h1
 refine Jw<|QC<|QC ?_
 have e:=DS h1;subst e
 have e_:_=_:=ho1
 subst e_
 exact Jp () (DR (Nat.zero_le _) Z Z Z Z Z) h0
 intro o8 h0
 refine QZ<|Q1<|Q3<|Q0<|DX Z Z Z<|Q2<|Q1<|Qp ?_
 have e:=DS h0;subst e
 exact Qk (fun _ _ h=>h) Z (Qj Z .nil) (.cons (.one (.d _)) .nil)
def m109_k0 (p0_:Bool) (p1_:Tm):Option Bool :=
 cond p0_
   (some false)
   (Option.bind (m107 ) fun (b0_:(List Use)) =>
 Option.bind (Jy b0_ p1_.kind) fun (b1_:Use) =>
 Qd (Nat.beq b0_.length 13)
 (Option.bind (cond b1_.index
   (cond b1_.name
   (cond (decide (b1_.levels < 0))
   (some ((p1_.kids.length:Int)==b1_.kids))
   (cond ((p1_.levels.length:Int)==b1_.levels)
   (some ((p1_.kids.length:Int)==b1_.kids))
   (some false)))
   (cond (p1_.name==([]:List UInt8))
   (cond (decide (b1_.levels < 0))
   (some ((p1_.kids.length:Int)==b1_.kids))
   (cond ((p1_.levels.length:Int)==b1_.levels)
   (some ((p1_.kids.length:Int)==b1_.kids))
   (some false)))
   (some false)))
   (cond (p1_.index==0)
   (cond b1_.name
   (cond (decide (b1_.levels < 0))
   (some ((p1_.kids.length:Int)==b1_.kids))
   (cond ((p1_.levels.length:Int)==b1_.levels)
   (some ((p1_.kids.length:Int)==b1_.kids))
   (some false)))
   (cond (p1_.name==([]:List UInt8))
   (cond (decide (b1_.levels < 0))
   (some ((p1_.kids.length:Int)==b1_.kids))
   (cond ((p1_.levels.length:Int)==b1_.levels)
   (some ((p1_.kids.length:Int)==b1_.kids))
   (some false)))
   (some false)))
   (some false))) (fun (b2_:Bool)=>some b2_)))
def Xs (a0:Tm):Option Bool :=
 Option.bind (cond (decide (a0.kind < 0))
   (some true)
   (some (decide (13≤a0.kind)))) (fun (v1:Bool)=>m109_k0 v1 a0)
theorem m109_ok (a0:Tm) (r:Bool) (h0:Xs a0=some r):Fun Tryz.prog 109 [.agg (cE a0)] (Qu [.one (dB r)]):=by
 unfold Xs at h0
 refine QF 9 53 Tryz.func109 Z en_109 Z (lb Z) (fun S w=>?_)
 simp only [QY]
 refine Q3<|Q0<|Qx Z Z (lb Z) (J9 Z)<|DX Z Z Z<|Q2<|Q1<|Q3<|Q3 ?_
 refine QE (fun (v1:Bool)=>⟨[(1,.v (.one (.ptr 0 0))),(11,.v (.one (dB v1)))],[(0,.cells 25 (cE a0))],[],1,53,[]⟩) (fun (v1:Bool)=>(m109_k0 v1 a0)=some r) ?_ ?_
 refine Qq h0 (fun w1_ h1 h0=>?_)
 refine Q0<|DU Z Z Z (Q5 Ja Z)<|DU Z Z Z (Q7 QL Z Z Z)<|DU Z Z Z (Q4 Z Z Z)<|DW Z Z Z ?_
 refine Qn (d:=7) (c:=(decide (a0.kind < 0))) Z (fun c2=>?_) (fun c2=>?_)
 replace h1:=Qe c2 h1
 refine Q6 Z Z<|Q6 Z Z<|Q6 Z Z<|DU Z Z Z (Qb Z Z)<|Q2 ?_
 have e:=DS h1;subst e
 exact Qa true (DR (Nat.zero_le _) Z Z Z Z Z) h0
 replace h1:=Qf c2 h1
 refine DU Z Z Z (Q5 Ja Z)<|DU Z Z Z (Q7 QL Z Z Z)<|DU Z Z Z (Q4 Z Z Z)<|DU Z Z Z (Qc Z Z)<|Q2 ?_
 have e:=DS h1;subst e
 exact Qa (decide (13≤a0.kind)) (DR (Nat.zero_le _) Z Z Z Z Z) h0
 intro v1 h0
 unfold m109_k0 at h0
 refine Q1 ?_
 refine Qh (b:=v1) Z (fun c3=>?_) (fun c3=>?_)
 replace h0:=Qe c3 h0
 refine Q3<|Q0<|DX Z Z Z<|Q2<|Q1<|Qp ?_
 have e:=DS h0;subst e
 exact Qk (fun _ _ h=>h) Z (Qj Z .nil) (.cons (.one (.d _)) .nil)
 replace h0:=Qf c3 h0
 refine Qi<|Q1<|Q3 ?_
 refine YU [4,5] [(0,1),(1,1),(2,1),(3,1)] mixed (by kernel_rfl) (by kernel_rfl) (by kernel_rfl) ?_
 refine Qq h0 (fun x4 hx4 h0=>?_)
 refine RunA.rd Z Z Z (Qz (m107_ok  x4 hx4) Z .nil) Z<|RunA.rd Z Z Z (Q9 (Q5 Ja Z)) Z<|RunA.rd Z Z Z (Q9 (Q7 QL Z Z Z)) Z ?_
 refine Qq h0 (fun x5 hx5 h0=>?_)
 refine guardK h0 (fun g6 h0=>?_)
 refine RunA.rd Z Z Z (Q9 (RO.indexAgg (α:=Use) (tbl:=x4) as_156 Z Z g6 Z hx5)) Z<|RunA.eff Z Z Z (QW z_155 Z) Z<|RunA.eff Z Z Z (Jn (x5:Use) ag_155 Z Z Z Z Z) Z ?_
 refine RunA.nil ⟨?ex,_,_,Z,?_⟩
 case ex=>exact ⟨⟨_,rfl,_,_,rfl,rfl,rfl,.inl ⟨rfl,_,Qz (m107_ok  x4 hx4) rfl .nil,rfl⟩⟩,⟨_,rfl,_,_,rfl,rfl,rfl,.inl ⟨rfl,_,Q9 (Q5 Ja rfl),rfl⟩⟩,⟨_,rfl,_,_,rfl,rfl,rfl,.inl ⟨rfl,_,Q9 (Q7 QL rfl rfl rfl),rfl⟩⟩,⟨_,rfl,_,_,rfl,rfl,rfl,.inl ⟨rfl,_,Q9 (RO.indexAgg (α:=Use) (tbl:=x4) as_156 rfl rfl g6 rfl hx5),rfl⟩⟩,trivial⟩
 refine XQ.less (st':=⟨[(1,.v (.one (.ptr 0 0))),(3,.v (.one (.ptr 1 0)))],[(0,.cells 25 (cE a0)),(1,.cells 155 (cE x5))],[],2,53,[]⟩) (DR (Nat.zero_le _) Z Z Z Z Z)<|Q1<|Q3 ?_
 refine QE (fun (v7:Bool)=>⟨[(2,.v (.one (dB v7)))],[(0,.cells 25 (cE a0)),(1,.cells 155 (cE x5))],[],2,53,[]⟩) (fun (v7:Bool)=>(some v7)=some r) ?_ ?_
 refine Qq h0 (fun w1_ h1 h0=>?_)
 refine Q0<|DU Z Z Z (Q5 fo_155_0 Z)<|DU Z Z Z (Q7 ag_4 Z Z Z)<|DW Z Z Z ?_
 refine Qn (d:=18) (c:=x5.index) Z (fun c8=>?_) (fun c8=>?_)
 replace h1:=Qe c8 h1
 refine Q6 Z Z<|Q6 Z Z<|Q6 Z Z<|DU Z Z Z (Qb Z Z)<|DW Z Z Z<|DU Z Z Z (Q5 fo_155_1 Z)<|DU Z Z Z (Q7 ag_4 Z Z Z)<|DW Z Z Z ?_
 refine Qn (d:=26) (c:=x5.name) Z (fun c9=>?_) (fun c9=>?_)
 replace h1:=Qe c9 h1
 refine Q6 Z Z<|Q6 Z Z<|Q6 Z Z<|DU Z Z Z (Qb Z Z)<|DU Z Z Z (Qb Z Z)<|DW Z Z Z<|DU Z Z Z (Q5 Zq Z)<|DU Z Z Z (Q7 QL Z Z Z)<|DU Z Z Z (Q4 Z Z Z)<|DW Z Z Z ?_
 refine Qn (d:=36) (c:=(decide (x5.levels < 0))) Z (fun c10=>?_) (fun c10=>?_)
 replace h1:=Qe c10 h1
 refine Q6 Z Z<|Q6 Z Z<|Q6 Z Z<|Q6 Z Z<|Q6 Z Z<|Q6 Z Z<|DU Z Z Z (Qb Z Z)<|DU Z Z Z (Qb Z Z)<|DW Z Z Z<|DU Z Z Z (Q5 JR Z)<|DU Z Z Z (Q7 Zu Z Z Z)<|DU Z Z Z (QQ (α:=Tm) YY Z (.d _))<|DU Z Z Z (Q5 Zp Z)<|DU Z Z Z (Q7 QL Z Z Z) ?_
 refine DU Z Z Z (Q4 Z Z Z)<|DU Z Z Z (Qb Z Z)<|DX Z Z Z<|Q2 ?_
 have e:=DS h1;subst e
 exact Qa ((a0.kids.length:Int)==x5.kids) (DR (Nat.zero_le _) Z Z Z Z Z) h0
 replace h1:=Qf c10 h1
 refine DU Z Z Z (Q5 YF Z)<|DU Z Z Z (Q7 G4 Z Z Z)<|DU Z Z Z (QQ (α:=Lvl) K6 Z (.d _))<|DU Z Z Z (Q5 Zq Z)<|DU Z Z Z (Q7 QL Z Z Z)<|DU Z Z Z (Q4 Z Z Z)<|DU Z Z Z (Qc Z Z)<|DU Z Z Z (Qb Z Z)<|DW Z Z Z ?_
 refine Qn (d:=45) (c:=((a0.levels.length:Int)==x5.levels)) Z (fun c11=>?_) (fun c11=>?_)
 replace h1:=Qe c11 h1
 refine DU Z Z Z (Q5 JR Z)<|DU Z Z Z (Q7 Zu Z Z Z)<|DU Z Z Z (QQ (α:=Tm) YY Z (.d _))<|DU Z Z Z (Q5 Zp Z)<|DU Z Z Z (Q7 QL Z Z Z)<|DU Z Z Z (Q4 Z Z Z)<|DU Z Z Z (Qb Z Z)<|DX Z Z Z<|Q2 ?_
 have e:=DS h1;subst e
 exact Qa ((a0.kids.length:Int)==x5.kids) (DR (Nat.zero_le _) Z Z Z Z Z) h0
 replace h1:=Qf c11 h1
 refine Q6 Z Z<|Q6 Z Z<|Q6 Z Z<|Q6 Z Z<|Q6 Z Z<|Q6 Z Z<|DU Z Z Z (Qc Z Z)<|DX Z Z Z<|Q2 ?_
 have e:=DS h1;subst e
 exact Qa false (DR (Nat.zero_le _) Z Z Z Z Z) h0
 replace h1:=Qf c9 h1
 refine DU Z Z Z (Q5 Xc Z)<|DU Z Z Z (Q7 Df Z Z Z)<|DU Z Z Z (RO.eqS Z Z)<|DU Z Z Z (Qc Z Z)<|DU Z Z Z (Qb Z Z)<|DW Z Z Z ?_
 refine Qn (d:=32) (c:=(a0.name==([]:List UInt8))) Z (fun c12=>?_) (fun c12=>?_)
 replace h1:=Qe c12 h1
 refine DU Z Z Z (Q5 Zq Z)<|DU Z Z Z (Q7 QL Z Z Z)<|DU Z Z Z (Q4 Z Z Z)<|DW Z Z Z ?_
 refine Qn (d:=36) (c:=(decide (x5.levels < 0))) Z (fun c13=>?_) (fun c13=>?_)
 replace h1:=Qe c13 h1
 refine Q6 Z Z<|Q6 Z Z<|Q6 Z Z<|Q6 Z Z<|Q6 Z Z<|Q6 Z Z<|DU Z Z Z (Qb Z Z)<|DU Z Z Z (Qb Z Z)<|DW Z Z Z<|DU Z Z Z (Q5 JR Z)<|DU Z Z Z (Q7 Zu Z Z Z)<|DU Z Z Z (QQ (α:=Tm) YY Z (.d _))<|DU Z Z Z (Q5 Zp Z)<|DU Z Z Z (Q7 QL Z Z Z) ?_
 refine DU Z Z Z (Q4 Z Z Z)<|DU Z Z Z (Qb Z Z)<|DX Z Z Z<|Q2 ?_
 have e:=DS h1;subst e
 exact Qa ((a0.kids.length:Int)==x5.kids) (DR (Nat.zero_le _) Z Z Z Z Z) h0
 replace h1:=Qf c13 h1
 refine DU Z Z Z (Q5 YF Z)<|DU Z Z Z (Q7 G4 Z Z Z)<|DU Z Z Z (QQ (α:=Lvl) K6 Z (.d _))<|DU Z Z Z (Q5 Zq Z)<|DU Z Z Z (Q7 QL Z Z Z)<|DU Z Z Z (Q4 Z Z Z)<|DU Z Z Z (Qc Z Z)<|DU Z Z Z (Qb Z Z)<|DW Z Z Z ?_
 refine Qn (d:=45) (c:=((a0.levels.length:Int)==x5.levels)) Z (fun c14=>?_) (fun c14=>?_)
 replace h1:=Qe c14 h1
 refine DU Z Z Z (Q5 JR Z)<|DU Z Z Z (Q7 Zu Z Z Z)<|DU Z Z Z (QQ (α:=Tm) YY Z (.d _))<|DU Z Z Z (Q5 Zp Z)<|DU Z Z Z (Q7 QL Z Z Z)<|DU Z Z Z (Q4 Z Z Z)<|DU Z Z Z (Qb Z Z)<|DX Z Z Z<|Q2 ?_
 have e:=DS h1;subst e
 exact Qa ((a0.kids.length:Int)==x5.kids) (DR (Nat.zero_le _) Z Z Z Z Z) h0
 replace h1:=Qf c14 h1
 refine Q6 Z Z<|Q6 Z Z<|Q6 Z Z<|Q6 Z Z<|Q6 Z Z<|Q6 Z Z<|DU Z Z Z (Qc Z Z)<|DX Z Z Z<|Q2 ?_
 have e:=DS h1;subst e
 exact Qa false (DR (Nat.zero_le _) Z Z Z Z Z) h0
 replace h1:=Qf c12 h1
 refine Q6 Z Z<|Q6 Z Z<|Q6 Z Z<|Q6 Z Z<|Q6 Z Z<|Q6 Z Z<|Q6 Z Z<|Q6 Z Z<|Q6 Z Z<|Q6 Z Z<|Q6 Z Z<|DU Z Z Z (Qc Z Z)<|DW Z Z Z<|Q6 Z Z ?_
 refine Q6 Z Z<|Q6 Z Z<|Q6 Z Z<|Q6 Z Z<|Q6 Z Z<|DU Z Z Z (Qc Z Z)<|DX Z Z Z<|Q2 ?_
 have e:=DS h1;subst e
 exact Qa false (DR (Nat.zero_le _) Z Z Z Z Z) h0
 replace h1:=Qf c8 h1
 refine DU Z Z Z (Q5 Yh Z)<|DU Z Z Z (Q7 QL Z Z Z)<|DU Z Z Z (Q4 Z Z Z)<|DU Z Z Z (Qc Z Z)<|DW Z Z Z ?_
 refine Qn (d:=23) (c:=(a0.index==0)) Z (fun c15=>?_) (fun c15=>?_)
 replace h1:=Qe c15 h1
 refine DU Z Z Z (Q5 fo_155_1 Z)<|DU Z Z Z (Q7 ag_4 Z Z Z)<|DW Z Z Z ?_
 refine Qn (d:=26) (c:=x5.name) Z (fun c16=>?_) (fun c16=>?_)
 replace h1:=Qe c16 h1
 refine Q6 Z Z<|Q6 Z Z<|Q6 Z Z<|DU Z Z Z (Qb Z Z)<|DU Z Z Z (Qb Z Z)<|DW Z Z Z<|DU Z Z Z (Q5 Zq Z)<|DU Z Z Z (Q7 QL Z Z Z)<|DU Z Z Z (Q4 Z Z Z)<|DW Z Z Z ?_
 refine Qn (d:=36) (c:=(decide (x5.levels < 0))) Z (fun c17=>?_) (fun c17=>?_)
 replace h1:=Qe c17 h1
 refine Q6 Z Z<|Q6 Z Z<|Q6 Z Z<|Q6 Z Z<|Q6 Z Z<|Q6 Z Z<|DU Z Z Z (Qb Z Z)<|DU Z Z Z (Qb Z Z)<|DW Z Z Z<|DU Z Z Z (Q5 JR Z)<|DU Z Z Z (Q7 Zu Z Z Z)<|DU Z Z Z (QQ (α:=Tm) YY Z (.d _))<|DU Z Z Z (Q5 Zp Z)<|DU Z Z Z (Q7 QL Z Z Z) ?_
 refine DU Z Z Z (Q4 Z Z Z)<|DU Z Z Z (Qb Z Z)<|DX Z Z Z<|Q2 ?_
 have e:=DS h1;subst e
 exact Qa ((a0.kids.length:Int)==x5.kids) (DR (Nat.zero_le _) Z Z Z Z Z) h0
 replace h1:=Qf c17 h1
 refine DU Z Z Z (Q5 YF Z)<|DU Z Z Z (Q7 G4 Z Z Z)<|DU Z Z Z (QQ (α:=Lvl) K6 Z (.d _))<|DU Z Z Z (Q5 Zq Z)<|DU Z Z Z (Q7 QL Z Z Z)<|DU Z Z Z (Q4 Z Z Z)<|DU Z Z Z (Qc Z Z)<|DU Z Z Z (Qb Z Z)<|DW Z Z Z ?_
 refine Qn (d:=45) (c:=((a0.levels.length:Int)==x5.levels)) Z (fun c18=>?_) (fun c18=>?_)
 replace h1:=Qe c18 h1
 refine DU Z Z Z (Q5 JR Z)<|DU Z Z Z (Q7 Zu Z Z Z)<|DU Z Z Z (QQ (α:=Tm) YY Z (.d _))<|DU Z Z Z (Q5 Zp Z)<|DU Z Z Z (Q7 QL Z Z Z)<|DU Z Z Z (Q4 Z Z Z)<|DU Z Z Z (Qb Z Z)<|DX Z Z Z<|Q2 ?_
 have e:=DS h1;subst e
 exact Qa ((a0.kids.length:Int)==x5.kids) (DR (Nat.zero_le _) Z Z Z Z Z) h0
 replace h1:=Qf c18 h1
 refine Q6 Z Z<|Q6 Z Z<|Q6 Z Z<|Q6 Z Z<|Q6 Z Z<|Q6 Z Z<|DU Z Z Z (Qc Z Z)<|DX Z Z Z<|Q2 ?_
 have e:=DS h1;subst e
 exact Qa false (DR (Nat.zero_le _) Z Z Z Z Z) h0
 replace h1:=Qf c16 h1
 refine DU Z Z Z (Q5 Xc Z)<|DU Z Z Z (Q7 Df Z Z Z)<|DU Z Z Z (RO.eqS Z Z)<|DU Z Z Z (Qc Z Z)<|DU Z Z Z (Qb Z Z)<|DW Z Z Z ?_
 refine Qn (d:=32) (c:=(a0.name==([]:List UInt8))) Z (fun c19=>?_) (fun c19=>?_)
 replace h1:=Qe c19 h1
 refine DU Z Z Z (Q5 Zq Z)<|DU Z Z Z (Q7 QL Z Z Z)<|DU Z Z Z (Q4 Z Z Z)<|DW Z Z Z ?_
 refine Qn (d:=36) (c:=(decide (x5.levels < 0))) Z (fun c20=>?_) (fun c20=>?_)
 replace h1:=Qe c20 h1
 refine Q6 Z Z<|Q6 Z Z<|Q6 Z Z<|Q6 Z Z<|Q6 Z Z<|Q6 Z Z<|DU Z Z Z (Qb Z Z)<|DU Z Z Z (Qb Z Z)<|DW Z Z Z<|DU Z Z Z (Q5 JR Z)<|DU Z Z Z (Q7 Zu Z Z Z)<|DU Z Z Z (QQ (α:=Tm) YY Z (.d _))<|DU Z Z Z (Q5 Zp Z)<|DU Z Z Z (Q7 QL Z Z Z) ?_
 refine DU Z Z Z (Q4 Z Z Z)<|DU Z Z Z (Qb Z Z)<|DX Z Z Z<|Q2 ?_
 have e:=DS h1;subst e
 exact Qa ((a0.kids.length:Int)==x5.kids) (DR (Nat.zero_le _) Z Z Z Z Z) h0
 replace h1:=Qf c20 h1
 refine DU Z Z Z (Q5 YF Z)<|DU Z Z Z (Q7 G4 Z Z Z)<|DU Z Z Z (QQ (α:=Lvl) K6 Z (.d _))<|DU Z Z Z (Q5 Zq Z)<|DU Z Z Z (Q7 QL Z Z Z)<|DU Z Z Z (Q4 Z Z Z)<|DU Z Z Z (Qc Z Z)<|DU Z Z Z (Qb Z Z)<|DW Z Z Z ?_
 refine Qn (d:=45) (c:=((a0.levels.length:Int)==x5.levels)) Z (fun c21=>?_) (fun c21=>?_)
 replace h1:=Qe c21 h1
 refine DU Z Z Z (Q5 JR Z)<|DU Z Z Z (Q7 Zu Z Z Z)<|DU Z Z Z (QQ (α:=Tm) YY Z (.d _))<|DU Z Z Z (Q5 Zp Z)<|DU Z Z Z (Q7 QL Z Z Z)<|DU Z Z Z (Q4 Z Z Z)<|DU Z Z Z (Qb Z Z)<|DX Z Z Z<|Q2 ?_
 have e:=DS h1;subst e
 exact Qa ((a0.kids.length:Int)==x5.kids) (DR (Nat.zero_le _) Z Z Z Z Z) h0
 replace h1:=Qf c21 h1
 refine Q6 Z Z<|Q6 Z Z<|Q6 Z Z<|Q6 Z Z<|Q6 Z Z<|Q6 Z Z<|DU Z Z Z (Qc Z Z)<|DX Z Z Z<|Q2 ?_
 have e:=DS h1;subst e
 exact Qa false (DR (Nat.zero_le _) Z Z Z Z Z) h0
 replace h1:=Qf c19 h1
 refine Q6 Z Z<|Q6 Z Z<|Q6 Z Z<|Q6 Z Z<|Q6 Z Z<|Q6 Z Z<|Q6 Z Z<|Q6 Z Z<|Q6 Z Z<|Q6 Z Z<|Q6 Z Z<|DU Z Z Z (Qc Z Z)<|DW Z Z Z<|Q6 Z Z ?_
 refine Q6 Z Z<|Q6 Z Z<|Q6 Z Z<|Q6 Z Z<|Q6 Z Z<|DU Z Z Z (Qc Z Z)<|DX Z Z Z<|Q2 ?_
 have e:=DS h1;subst e
 exact Qa false (DR (Nat.zero_le _) Z Z Z Z Z) h0
 replace h1:=Qf c15 h1
 refine Q6 Z Z<|Q6 Z Z<|Q6 Z Z<|Q6 Z Z<|Q6 Z Z<|Q6 Z Z<|Q6 Z Z<|DU Z Z Z (Qc Z Z)<|DW Z Z Z<|Q6 Z Z<|Q6 Z Z<|Q6 Z Z<|Q6 Z Z<|Q6 Z Z ?_
 refine Q6 Z Z<|Q6 Z Z<|Q6 Z Z<|Q6 Z Z<|Q6 Z Z<|Q6 Z Z<|DU Z Z Z (Qc Z Z)<|DW Z Z Z<|Q6 Z Z<|Q6 Z Z<|Q6 Z Z<|Q6 Z Z<|Q6 Z Z<|Q6 Z Z ?_
 refine DU Z Z Z (Qc Z Z)<|DX Z Z Z<|Q2 ?_
 have e:=DS h1;subst e
 exact Qa false (DR (Nat.zero_le _) Z Z Z Z Z) h0
 intro v7 h0
 refine Q1<|Qp ?_
 have e:=DS h0;subst e
 exact Qk (fun _ _ h=>h) Z (Qj Z .nil) (.cons (.one (.d _)) .nil)
def Ye (a1:Tm) (a0:Scp) (s1:Int):Option (LO Int (Unit⊕Int)) :=
 cond (decide (s1 < (a1.levels.length:Int)))
   (Option.bind (Jy a1.levels s1) fun (x9:Lvl) =>
 Option.bind (Wa a0 x9) fun (x10:Int) =>
 cond (x10 != 0)
   (some (.done (.inr x10)))
   (some (.next (QG (s1+1)))))
   (some (.done (.inl ())))
def Z3 (p0_:Tm) (p1_:Scp) (p2_:Int):Option Int :=
 Option.bind (cond (p0_.kind==0)
   (cond (decide (p0_.index < 0))
   (some true)
   (some (decide (p1_.vars≤(QG (p0_.index - p2_))))))
   (some false)) (fun (b0_:Bool)=>cond b0_
   (some 24)
   (Option.bind (cond (p0_.kind==12)
   (cond (decide (p0_.index < 0))
   (some true)
   (some (decide (p1_.metas≤p0_.index))))
   (some false)) (fun (b1_:Bool)=>cond b1_
   (some 23)
   (some 0))))
def Dw (a0:Scp) (a1:Tm) (a2:Int):Option Int :=
 Option.bind (Xs a1) fun (x1:Bool) =>
 cond (!x1)
   (some 3)
   (cond (a1.kind==3)
   (Option.bind (Uf a1.name) fun (x4:Bool) =>
 cond (!x4)
   (some 29)
   (cond (decide (8 < (a1.levels.length:Int)))
   (some 6)
   (Option.bind (Qo (Ye a1 a0) Qt 0) (Sum.elim (fun (o7:Unit)=>Z3 a1 a0 a2) (fun o=>some o)))))
   (Option.bind (Qo (Ye a1 a0) Qt 0) (Sum.elim (fun (o21:Unit)=>Z3 a1 a0 a2) (fun o=>some o))))
theorem m59_ok (a0:Scp) (a1:Tm) (a2:Int) (r:Int) (h0:Dw a0 a1 a2=some r):Fun Tryz.prog 59 [.agg (cE a0),.agg (cE a1),.one (dI a2)] (Qu [.one (dI r)]):=by
 unfold Dw at h0
 refine QF 9 72 Tryz.func59 Z en_59 Z (lb Z) (fun S w=>?_)
 simp only [QY]
 refine Q3<|Q0<|Qx Z Z (lb Z) (J9 Z)<|Qx Z Z (lb Z) (J9 Z)<|DX Z Z Z<|Q2<|Q1<|Q3<|Q3<|Q0<|DU Z Z Z (J0 (a1:Tm) YT Z Z) ?_
 refine Qq h0 (fun x1 hx1 h0=>?_)
 refine Qx Z Z (lb Z) (Qz (m109_ok a1 x1 hx1) Z (.cons (.agg (.cons (.d _) (.cons (.d _) (.cons (.d _) (.cons (.d _) (.cons (.d _) .nil)))))) .nil))<|DU Z Z Z (YI Z)<|Q2<|Q1 ?_
 refine Qh (b:=(!x1)) Z (fun c2=>?_) (fun c2=>?_)
 replace h0:=Qe c2 h0
 refine Q3<|Q0<|DX Z Z Z<|Q2<|Q1<|Qp ?_
 have e:=DS h0;subst e
 exact Qk (fun _ _ h=>h) Z (Qj Z .nil) (.cons (.one (.d _)) .nil)
 replace h0:=Qf c2 h0
 refine Qi<|Q1<|Q3<|Q3<|Q0<|DU Z Z Z (Q5 Ja Z)<|DU Z Z Z (Q7 QL Z Z Z)<|DU Z Z Z (Q4 Z Z Z)<|Q2<|Q1 ?_
 refine Qh (b:=(a1.kind==3)) Z (fun c3=>?_) (fun c3=>?_)
 replace h0:=Qe c3 h0
 refine Q3<|Q3<|Q0<|DU Z Z Z (Q5 Xc Z)<|DU Z Z Z (Q7 Df Z Z Z) ?_
 refine Qq h0 (fun x4 hx4 h0=>?_)
 refine Qx Z Z (lb Z) (Qz (m110_ok a1.name x4 hx4) Z (.cons (.one (.d _)) .nil))<|DU Z Z Z (YI Z)<|Q2<|Q1 ?_
 refine Qh (b:=(!x4)) Z (fun c5=>?_) (fun c5=>?_)
 replace h0:=Qe c5 h0
 refine Q3<|Q0<|DX Z Z Z<|Q2<|Q1<|Qp ?_
 have e:=DS h0;subst e
 exact Qk (fun _ _ h=>h) Z (Qj Z .nil) (.cons (.one (.d _)) .nil)
 replace h0:=Qf c5 h0
 refine Qi<|Q1<|Q3<|Q0<|DU Z Z Z (Q5 YF Z)<|DU Z Z Z (Q7 G4 Z Z Z)<|DU Z Z Z (QQ (α:=Lvl) K6 Z (.d _))<|DU Z Z Z (Q4 Z Z Z)<|Q2<|Q1 ?_
 refine Qh (b:=(decide (8 < (a1.levels.length:Int)))) Z (fun c6=>?_) (fun c6=>?_)
 replace h0:=Qe c6 h0
 refine Q3<|Q0<|DX Z Z Z<|Q2<|Q1<|Qp ?_
 have e:=DS h0;subst e
 exact Qk (fun _ _ h=>h) Z (Qj Z .nil) (.cons (.one (.d _)) .nil)
 replace h0:=Qf c6 h0
 refine Qi<|Q1<|Q3<|Q3<|Q0<|DU Z Z Z (Q5 YF Z)<|DU Z Z Z (Q7 G4 Z Z Z)<|DU Z Z Z (QQ (α:=Lvl) K6 Z (.d _))<|DW Z Z Z<|Q2<|Q1<|Qr ?_
 refine Jr 0 (fun (o7:Unit)=>⟨[(2,.v (.one (dI a2))),(3,.v (.one (.ptr 0 0))),(4,.v (.one (.ptr 1 0)))],[(0,.cells 107 (cE a0)),(1,.cells 25 (cE a1))],[],2,72,[]⟩) (fun (o7:Unit)=>(Z3 a1 a0 a2)=some r) ?_ ?_
 refine Qq h0 (fun o8 hl1 h0=>?_)
 refine Jq (Ye a1 a0) (fun s1=>⟨[(2,.v (.one (dI a2))),(3,.v (.one (.ptr 0 0))),(4,.v (.one (.ptr 1 0))),(25,.v (.one (dS a1.levels))),(26,.v (.one (dI (a1.levels.length:Int)))),(27,.v (.one (dI s1)))],[(0,.cells 107 (cE a0)),(1,.cells 25 (cE a1))],[],2,72,[]⟩) 0 o8 (DR (Nat.zero_le _) Z Z Z Z Z) hl1 (fun s1 n1 oo1 h1 ho1=>?_)
 unfold Ye at h1
 refine Q3<|Q0<|DU Z Z Z (Q4 Z Z Z)<|Q2<|Q1<|Q3 ?_
 refine Qh (b:=(decide (s1 < (a1.levels.length:Int)))) Z (fun c9=>?_) (fun c9=>?_)
 replace h1:=Qe c9 h1
 refine Qi<|Q1<|Q3<|Qr<|Q3<|Q0 ?_
 refine Qq h1 (fun x10 hx10 h1=>?_)
 refine DU Z Z Z (J1 (α:=Lvl) K6 Z (.d _) Z hx10)<|DU Z Z Z (J5 (x10:Lvl) GP Z)<|Qx Z Z (lb Z) (QW z_82 Z)<|Y1 Z Z (Jn (x10:Lvl) GP Z Z Z Z Z)<|Q2<|Q1<|Q3<|Q0<|DU Z Z Z (J0 (a0:Scp) ag_107 Z Z)<|DU Z Z Z (J0 (x10:Lvl) GP Z Z) ?_
 refine Qq h1 (fun x11 hx11 h1=>?_)
 refine Qx Z Z (lb Z) (Qz (m111_ok a0 x10 x11 hx11) Z (.cons (.agg (.cons (.d _) (.cons (.d _) (.cons (.d _) (.cons (.d _) .nil))))) (.cons (.agg (.cons (.d _) (.cons (.d _) .nil))) .nil)))<|DX Z Z Z<|Q2<|Q1<|Q3<|Q0<|DW Z Z Z<|DU Z Z Z (Q4 Z Z Z)<|Q2<|Q1 ?_
 refine Qh (b:=(x11 != 0)) Z (fun c12=>?_) (fun c12=>?_)
 replace h1:=Qe c12 h1
 refine Q3<|Q0<|DW Z Z Z<|DX Z Z Z<|Q2<|Q1<|Qp ?_
 have e:=DS h1;subst e
 have e_:_=_:=ho1
 subst e_
 try dsimp only [Sum.elim_inl,Sum.elim_inr] at h0
 have e:=DS h0;subst e
 exact Qk (fun _ _ h=>h) Z (Qj Z .nil) (.cons (.one (.d _)) .nil)
 replace h1:=Qf c12 h1
 refine Qi<|Qy<|Q1<|Q0<|DU Z Z Z (Q4 Z Z Z)<|DW Z Z Z<|Q2 ?_
 have e:=DS h1;subst e
 refine J6 (QG (s1+1)) (DR (Nat.zero_le _) Z Z Z Z Z) ho1
 replace h1:=Qf c9 h1
 refine Jw<|QC<|QC ?_
 have e:=DS h1;subst e
 have e_:_=_:=ho1
 subst e_
 exact Jp () (DR (Nat.zero_le _) Z Z Z Z Z) h0
 intro o7 h0
 unfold Z3 at h0
 refine QZ<|Q1<|Q3<|Qr<|Q3 ?_
 refine QE (fun (v13:Bool)=>⟨[(3,.v (.one (.ptr 0 0))),(4,.v (.one (.ptr 1 0))),(38,.v (.one (dB v13)))],[(0,.cells 107 (cE a0)),(1,.cells 25 (cE a1))],[],2,72,[]⟩) (fun (v13:Bool)=>(cond v13
     (some 24)
     (Option.bind (cond (a1.kind==12)
     (cond (decide (a1.index < 0))
     (some true)
     (some (decide (a0.metas≤a1.index))))
     (some false)) (fun (v15:Bool)=>cond v15
     (some 23)
     (some 0))))=some r) ?_ ?_
 refine Qq h0 (fun w1_ h1 h0=>?_)
 refine Q0<|DU Z Z Z (Q5 Ja Z)<|DU Z Z Z (Q7 QL Z Z Z)<|DU Z Z Z (Q4 Z Z Z)<|DW Z Z Z ?_
 refine Qn (d:=42) (c:=(a1.kind==0)) Z (fun c14=>?_) (fun c14=>?_)
 replace h1:=Qe c14 h1
 refine DU Z Z Z (Q5 Yh Z)<|DU Z Z Z (Q7 QL Z Z Z)<|DU Z Z Z (Q4 Z Z Z)<|DW Z Z Z ?_
 refine Qn (d:=46) (c:=(decide (a1.index < 0))) Z (fun c15=>?_) (fun c15=>?_)
 replace h1:=Qe c15 h1
 refine Q6 Z Z<|Q6 Z Z<|Q6 Z Z<|Q6 Z Z<|Q6 Z Z<|Q6 Z Z<|Q6 Z Z<|DU Z Z Z (Qb Z Z)<|DU Z Z Z (Qb Z Z)<|DX Z Z Z<|Q2 ?_
 have e:=DS h1;subst e
 exact Qa true (DR (Nat.zero_le _) Z Z Z Z Z) h0
 replace h1:=Qf c15 h1
 refine DU Z Z Z (Q5 Yh Z)<|DU Z Z Z (Q7 QL Z Z Z)<|DW Z Z Z<|DU Z Z Z (Q4 Z Z Z)<|DU Z Z Z (Q5 fo_107_0 Z)<|DU Z Z Z (Q7 QL Z Z Z)<|DU Z Z Z (Q4 Z Z Z)<|DU Z Z Z (Qc Z Z)<|DU Z Z Z (Qb Z Z)<|DX Z Z Z<|Q2 ?_
 have e:=DS h1;subst e
 exact Qa (decide (a0.vars≤(QG (a1.index - a2)))) (DR (Nat.zero_le _) Z Z Z Z Z) h0
 replace h1:=Qf c14 h1
 refine Q6 Z Z<|Q6 Z Z<|Q6 Z Z<|Q6 Z Z<|Q6 Z Z<|Q6 Z Z<|Q6 Z Z<|Q6 Z Z<|Q6 Z Z<|Q6 Z Z<|Q6 Z Z<|Q6 Z Z<|DU Z Z Z (Qc Z Z)<|DX Z Z Z ?_
 refine Q2 ?_
 have e:=DS h1;subst e
 exact Qa false (DR (Nat.zero_le _) Z Z Z Z Z) h0
 intro v13 h0
 refine Q1 ?_
 refine Qh (b:=v13) Z (fun c16=>?_) (fun c16=>?_)
 replace h0:=Qe c16 h0
 refine Q3<|Q0<|DX Z Z Z<|Q2<|Q1<|Qp ?_
 have e:=DS h0;subst e
 exact Qk (fun _ _ h=>h) Z (Qj Z .nil) (.cons (.one (.d _)) .nil)
 replace h0:=Qf c16 h0
 refine Q3 ?_
 refine QE (fun (v17:Bool)=>⟨[(56,.v (.one (dB v17)))],[(0,.cells 107 (cE a0)),(1,.cells 25 (cE a1))],[],2,72,[]⟩) (fun (v17:Bool)=>(cond v17
     (some 23)
     (some 0))=some r) ?_ ?_
 refine Qq h0 (fun w1_ h1 h0=>?_)
 refine Q0<|DU Z Z Z (Q5 Ja Z)<|DU Z Z Z (Q7 QL Z Z Z)<|DU Z Z Z (Q4 Z Z Z)<|DW Z Z Z ?_
 refine Qn (d:=60) (c:=(a1.kind==12)) Z (fun c18=>?_) (fun c18=>?_)
 replace h1:=Qe c18 h1
 refine DU Z Z Z (Q5 Yh Z)<|DU Z Z Z (Q7 QL Z Z Z)<|DU Z Z Z (Q4 Z Z Z)<|DW Z Z Z ?_
 refine Qn (d:=64) (c:=(decide (a1.index < 0))) Z (fun c19=>?_) (fun c19=>?_)
 replace h1:=Qe c19 h1
 refine Q6 Z Z<|Q6 Z Z<|Q6 Z Z<|Q6 Z Z<|Q6 Z Z<|DU Z Z Z (Qb Z Z)<|DU Z Z Z (Qb Z Z)<|DX Z Z Z<|Q2 ?_
 have e:=DS h1;subst e
 exact Qa true (DR (Nat.zero_le _) Z Z Z Z Z) h0
 replace h1:=Qf c19 h1
 refine DU Z Z Z (Q5 Yh Z)<|DU Z Z Z (Q7 QL Z Z Z)<|DU Z Z Z (Q5 fo_107_2 Z)<|DU Z Z Z (Q7 QL Z Z Z)<|DU Z Z Z (Q4 Z Z Z)<|DU Z Z Z (Qc Z Z)<|DU Z Z Z (Qb Z Z)<|DX Z Z Z<|Q2 ?_
 have e:=DS h1;subst e
 exact Qa (decide (a0.metas≤a1.index)) (DR (Nat.zero_le _) Z Z Z Z Z) h0
 replace h1:=Qf c18 h1
 refine Q6 Z Z<|Q6 Z Z<|Q6 Z Z<|Q6 Z Z<|Q6 Z Z<|Q6 Z Z<|Q6 Z Z<|Q6 Z Z<|Q6 Z Z<|Q6 Z Z<|DU Z Z Z (Qc Z Z)<|DX Z Z Z<|Q2 ?_
 have e:=DS h1;subst e
 exact Qa false (DR (Nat.zero_le _) Z Z Z Z Z) h0
 intro v17 h0
 refine Q1 ?_
 refine Qh (b:=v17) Z (fun c20=>?_) (fun c20=>?_)
 replace h0:=Qe c20 h0
 refine Q3<|Q0<|DX Z Z Z<|Q2<|Q1<|Qp ?_
 have e:=DS h0;subst e
 exact Qk (fun _ _ h=>h) Z (Qj Z .nil) (.cons (.one (.d _)) .nil)
 replace h0:=Qf c20 h0
 refine Qi<|Qy<|Q1<|Q3<|Q0<|DX Z Z Z<|Q2<|Q1<|Qp ?_
 have e:=DS h0;subst e
 exact Qk (fun _ _ h=>h) Z (Qj Z .nil) (.cons (.one (.d _)) .nil)
 replace h0:=Qf c3 h0
 refine Qi<|Q1<|Q3<|Q3<|Q0<|DU Z Z Z (Q5 YF Z)<|DU Z Z Z (Q7 G4 Z Z Z)<|DU Z Z Z (QQ (α:=Lvl) K6 Z (.d _))<|DW Z Z Z<|Q2<|Q1<|Qr ?_
 refine Jr 0 (fun (o21:Unit)=>⟨[(2,.v (.one (dI a2))),(3,.v (.one (.ptr 0 0))),(4,.v (.one (.ptr 1 0)))],[(0,.cells 107 (cE a0)),(1,.cells 25 (cE a1))],[],2,72,[]⟩) (fun (o21:Unit)=>(Z3 a1 a0 a2)=some r) ?_ ?_
 refine Qq h0 (fun o22 hl1 h0=>?_)
 refine Jq (Ye a1 a0) (fun s1=>⟨[(2,.v (.one (dI a2))),(3,.v (.one (.ptr 0 0))),(4,.v (.one (.ptr 1 0))),(25,.v (.one (dS a1.levels))),(26,.v (.one (dI (a1.levels.length:Int)))),(27,.v (.one (dI s1)))],[(0,.cells 107 (cE a0)),(1,.cells 25 (cE a1))],[],2,72,[]⟩) 0 o22 (DR (Nat.zero_le _) Z Z Z Z Z) hl1 (fun s1 n1 oo1 h1 ho1=>?_)
 unfold Ye at h1
 refine Q3<|Q0<|DU Z Z Z (Q4 Z Z Z)<|Q2<|Q1<|Q3 ?_
 refine Qh (b:=(decide (s1 < (a1.levels.length:Int)))) Z (fun c23=>?_) (fun c23=>?_)
 replace h1:=Qe c23 h1
 refine Qi<|Q1<|Q3<|Qr<|Q3<|Q0 ?_
 refine Qq h1 (fun x24 hx24 h1=>?_)
 refine DU Z Z Z (J1 (α:=Lvl) K6 Z (.d _) Z hx24)<|DU Z Z Z (J5 (x24:Lvl) GP Z)<|Qx Z Z (lb Z) (QW z_82 Z)<|Y1 Z Z (Jn (x24:Lvl) GP Z Z Z Z Z)<|Q2<|Q1<|Q3<|Q0<|DU Z Z Z (J0 (a0:Scp) ag_107 Z Z)<|DU Z Z Z (J0 (x24:Lvl) GP Z Z) ?_
 refine Qq h1 (fun x25 hx25 h1=>?_)
 refine Qx Z Z (lb Z) (Qz (m111_ok a0 x24 x25 hx25) Z (.cons (.agg (.cons (.d _) (.cons (.d _) (.cons (.d _) (.cons (.d _) .nil))))) (.cons (.agg (.cons (.d _) (.cons (.d _) .nil))) .nil)))<|DX Z Z Z<|Q2<|Q1<|Q3<|Q0<|DW Z Z Z<|DU Z Z Z (Q4 Z Z Z)<|Q2<|Q1 ?_
 refine Qh (b:=(x25 != 0)) Z (fun c26=>?_) (fun c26=>?_)
 replace h1:=Qe c26 h1
 refine Q3<|Q0<|DW Z Z Z<|DX Z Z Z<|Q2<|Q1<|Qp ?_
 have e:=DS h1;subst e
 have e_:_=_:=ho1
 subst e_
 try dsimp only [Sum.elim_inl,Sum.elim_inr] at h0
 have e:=DS h0;subst e
 exact Qk (fun _ _ h=>h) Z (Qj Z .nil) (.cons (.one (.d _)) .nil)
 replace h1:=Qf c26 h1
 refine Qi<|Qy<|Q1<|Q0<|DU Z Z Z (Q4 Z Z Z)<|DW Z Z Z<|Q2 ?_
 have e:=DS h1;subst e
 refine J6 (QG (s1+1)) (DR (Nat.zero_le _) Z Z Z Z Z) ho1
 replace h1:=Qf c23 h1
 refine Jw<|QC<|QC ?_
 have e:=DS h1;subst e
 have e_:_=_:=ho1
 subst e_
 exact Jp () (DR (Nat.zero_le _) Z Z Z Z Z) h0
 intro o21 h0
 unfold Z3 at h0
 refine QZ<|Q1<|Q3<|Qr<|Q3 ?_
 refine QE (fun (v27:Bool)=>⟨[(3,.v (.one (.ptr 0 0))),(4,.v (.one (.ptr 1 0))),(38,.v (.one (dB v27)))],[(0,.cells 107 (cE a0)),(1,.cells 25 (cE a1))],[],2,72,[]⟩) (fun (v27:Bool)=>(cond v27
     (some 24)
     (Option.bind (cond (a1.kind==12)
     (cond (decide (a1.index < 0))
     (some true)
     (some (decide (a0.metas≤a1.index))))
     (some false)) (fun (v29:Bool)=>cond v29
     (some 23)
     (some 0))))=some r) ?_ ?_
 refine Qq h0 (fun w1_ h1 h0=>?_)
 refine Q0<|DU Z Z Z (Q5 Ja Z)<|DU Z Z Z (Q7 QL Z Z Z)<|DU Z Z Z (Q4 Z Z Z)<|DW Z Z Z ?_
 refine Qn (d:=42) (c:=(a1.kind==0)) Z (fun c28=>?_) (fun c28=>?_)
 replace h1:=Qe c28 h1
 refine DU Z Z Z (Q5 Yh Z)<|DU Z Z Z (Q7 QL Z Z Z)<|DU Z Z Z (Q4 Z Z Z)<|DW Z Z Z ?_
 refine Qn (d:=46) (c:=(decide (a1.index < 0))) Z (fun c29=>?_) (fun c29=>?_)
 replace h1:=Qe c29 h1
 refine Q6 Z Z<|Q6 Z Z<|Q6 Z Z<|Q6 Z Z<|Q6 Z Z<|Q6 Z Z<|Q6 Z Z<|DU Z Z Z (Qb Z Z)<|DU Z Z Z (Qb Z Z)<|DX Z Z Z<|Q2 ?_
 have e:=DS h1;subst e
 exact Qa true (DR (Nat.zero_le _) Z Z Z Z Z) h0
 replace h1:=Qf c29 h1
 refine DU Z Z Z (Q5 Yh Z)<|DU Z Z Z (Q7 QL Z Z Z)<|DW Z Z Z<|DU Z Z Z (Q4 Z Z Z)<|DU Z Z Z (Q5 fo_107_0 Z)<|DU Z Z Z (Q7 QL Z Z Z)<|DU Z Z Z (Q4 Z Z Z)<|DU Z Z Z (Qc Z Z)<|DU Z Z Z (Qb Z Z)<|DX Z Z Z<|Q2 ?_
 have e:=DS h1;subst e
 exact Qa (decide (a0.vars≤(QG (a1.index - a2)))) (DR (Nat.zero_le _) Z Z Z Z Z) h0
 replace h1:=Qf c28 h1
 refine Q6 Z Z<|Q6 Z Z<|Q6 Z Z<|Q6 Z Z<|Q6 Z Z<|Q6 Z Z<|Q6 Z Z<|Q6 Z Z<|Q6 Z Z<|Q6 Z Z<|Q6 Z Z<|Q6 Z Z<|DU Z Z Z (Qc Z Z)<|DX Z Z Z ?_
 refine Q2 ?_
 have e:=DS h1;subst e
 exact Qa false (DR (Nat.zero_le _) Z Z Z Z Z) h0
 intro v27 h0
 refine Q1 ?_
 refine Qh (b:=v27) Z (fun c30=>?_) (fun c30=>?_)
 replace h0:=Qe c30 h0
 refine Q3<|Q0<|DX Z Z Z<|Q2<|Q1<|Qp ?_
 have e:=DS h0;subst e
 exact Qk (fun _ _ h=>h) Z (Qj Z .nil) (.cons (.one (.d _)) .nil)
 replace h0:=Qf c30 h0
 refine Q3 ?_
 refine QE (fun (v31:Bool)=>⟨[(56,.v (.one (dB v31)))],[(0,.cells 107 (cE a0)),(1,.cells 25 (cE a1))],[],2,72,[]⟩) (fun (v31:Bool)=>(cond v31
     (some 23)
     (some 0))=some r) ?_ ?_
 refine Qq h0 (fun w1_ h1 h0=>?_)
 refine Q0<|DU Z Z Z (Q5 Ja Z)<|DU Z Z Z (Q7 QL Z Z Z)<|DU Z Z Z (Q4 Z Z Z)<|DW Z Z Z ?_
 refine Qn (d:=60) (c:=(a1.kind==12)) Z (fun c32=>?_) (fun c32=>?_)
 replace h1:=Qe c32 h1
 refine DU Z Z Z (Q5 Yh Z)<|DU Z Z Z (Q7 QL Z Z Z)<|DU Z Z Z (Q4 Z Z Z)<|DW Z Z Z ?_
 refine Qn (d:=64) (c:=(decide (a1.index < 0))) Z (fun c33=>?_) (fun c33=>?_)
 replace h1:=Qe c33 h1
 refine Q6 Z Z<|Q6 Z Z<|Q6 Z Z<|Q6 Z Z<|Q6 Z Z<|DU Z Z Z (Qb Z Z)<|DU Z Z Z (Qb Z Z)<|DX Z Z Z<|Q2 ?_
 have e:=DS h1;subst e
 exact Qa true (DR (Nat.zero_le _) Z Z Z Z Z) h0
 replace h1:=Qf c33 h1
 refine DU Z Z Z (Q5 Yh Z)<|DU Z Z Z (Q7 QL Z Z Z)<|DU Z Z Z (Q5 fo_107_2 Z)<|DU Z Z Z (Q7 QL Z Z Z)<|DU Z Z Z (Q4 Z Z Z)<|DU Z Z Z (Qc Z Z)<|DU Z Z Z (Qb Z Z)<|DX Z Z Z<|Q2 ?_
 have e:=DS h1;subst e
 exact Qa (decide (a0.metas≤a1.index)) (DR (Nat.zero_le _) Z Z Z Z Z) h0
 replace h1:=Qf c32 h1
 refine Q6 Z Z<|Q6 Z Z<|Q6 Z Z<|Q6 Z Z<|Q6 Z Z<|Q6 Z Z<|Q6 Z Z<|Q6 Z Z<|Q6 Z Z<|Q6 Z Z<|DU Z Z Z (Qc Z Z)<|DX Z Z Z<|Q2 ?_
 have e:=DS h1;subst e
 exact Qa false (DR (Nat.zero_le _) Z Z Z Z Z) h0
 intro v31 h0
 refine Q1 ?_
 refine Qh (b:=v31) Z (fun c34=>?_) (fun c34=>?_)
 replace h0:=Qe c34 h0
 refine Q3<|Q0<|DX Z Z Z<|Q2<|Q1<|Qp ?_
 have e:=DS h0;subst e
 exact Qk (fun _ _ h=>h) Z (Qj Z .nil) (.cons (.one (.d _)) .nil)
 replace h0:=Qf c34 h0
 refine Qi<|Qy<|Q1<|Q3<|Q0<|DX Z Z Z<|Q2<|Q1<|Qp ?_
 have e:=DS h0;subst e
 exact Qk (fun _ _ h=>h) Z (Qj Z .nil) (.cons (.one (.d _)) .nil)
def m108f3_k0 (p0_:Tm×Int×Tm×Int×Scp×Int×Tm→Option ((Int×Int)⊕(Bool×Int))) (p1_:Tm) (p2_:Int) (p3_:Tm) (p4_:Int) (p5_:Scp) (p6_:Int×Int) (p7_:Tm):Option (LO (Int×Int) (Int⊕((Int×Int)⊕(Bool×Int)))) :=
 Option.bind (p0_ (p1_,p2_,p3_,p4_,p5_,p6_.2,p7_)) (Sum.elim (fun (b0_:Int×Int)=>some (.done (.inr (.inl (b0_.1,b0_.2))))) (fun (b1_:Bool×Int)=>cond (!b1_.1)
   (some (.done (.inr (.inr (false,b1_.2)))))
   (some (.next ((QG (p6_.1+1)),b1_.2)))))
def YN (a0:Tm) (v9:Int) (a1:Int) (rc:Tm×Int×Tm×Int×Scp×Int×Tm→Option ((Int×Int)⊕(Bool×Int))) (a2:Tm) (a3:Int) (a4:Scp) (a6:Tm) (s1:Int×Int):Option (LO (Int×Int) (Int⊕((Int×Int)⊕(Bool×Int)))) :=
 cond (decide (s1.1 < (a0.kids.length:Int)))
   (Option.bind (Jy a0.kids s1.1) fun (x12:Tm) =>
 Option.bind (cond (s1.1==v9)
   (some (QG (a1+1)))
   (some a1)) (fun (v13:Int)=>m108f3_k0 rc x12 v13 a2 a3 a4 s1 a6))
   (some (.done (.inl s1.2)))
def ZJ (p0_:Bool) (p1_:Tm) (p2_:Int) (p3_:Tm×Int×Tm×Int×Scp×Int×Tm→Option ((Int×Int)⊕(Bool×Int))) (p4_:Tm) (p5_:Int) (p6_:Scp) (p7_:Tm) (p8_:Int):Option ((Int×Int)⊕(Bool×Int)) :=
 Option.bind (cond p0_
   (Qd (cond (decide (0≤p1_.kind)) (Nat.blt p1_.kind.toNat 13) false)
 (Option.bind (Jy ([(-1),(-1),(-1),(-1),(-1),1,1,1,(-1),(-1),(-1),2,(-1)]:List Int) p1_.kind) fun (b0_:Int) =>
 some b0_))
   (some (-1))) (fun (b1_:Int)=>Option.bind (Qo (YN p1_ b1_ p2_ p3_ p4_ p5_ p6_ p7_) Qt (0,(QG (p8_+1)))) (Sum.elim (fun (b2_:Int)=>some (.inr (true,b2_))) (fun o=>some o)))
noncomputable abbrev QN :HB :=
 .loop .ready none [(5,.v (.one (.ptr 3 0))),(10,.v (.one (.ptr 4 0))),(11,.v (.one (.ptr 5 0))),(12,.v (.one (.ptr 6 0))),(26,.v (.one (.fn 106 [(7,0)])))] 45 #[27,28] Z4 Yj 2
noncomputable abbrev Ql :HB :=
 .cells 156 [dB true,dB false,dI 0,dI 0,dI (-1),dB false,dB false,dI 0,dI 0,dI (-1),dB false,dB false,dI 1,dI 0,dI (-1),dB false,dB true,dI (-1),dI 0,dI (-1),dB false,dB false,dI 0,dI 2,dI (-1),dB false,dB false,dI 0,dI 2,dI 1,dB false,dB false,dI 0,dI 2,dI 1,dB false,dB false,dI 0,dI 2,dI 1,dB false,dB false,dI 0,dI 3,dI (-1),dB false,dB false,dI 0,dI 1,dI (-1),dB false,dB false,dI 0,dI 1,dI (-1),dB false,dB false,dI 0,dI 3,dI 2,dB true,dB false,dI 0,dI 0,dI (-1)]
noncomputable abbrev m108f3_h2 (p0_:Tm) (p1_:Int) (p2_:Scp) (p3_:Int) (p4_:Tm) (p5_:Tm):List (Nat×HB) :=
 [(0,.cells 153 [.yld 1]),(1,QN),(2,.obj (.deferred (some []))),(3,.cells 25 (cE p0_)),(4,.cells 28 [dI p1_]),(5,.cells 107 (cE p2_)),(6,.cells 3 [dI p3_]),(7,.cells 25 (cE p4_)),(8,Ql),(9,.cells 26 [.fn 108 [(0,0),(8,0),(9,0)]]),(10,.cells 25 (cE p5_))]
noncomputable abbrev ZK :HB :=
 .loop .busy none [(5,.v (.one (.ptr 3 0))),(10,.v (.one (.ptr 4 0))),(11,.v (.one (.ptr 5 0))),(12,.v (.one (.ptr 6 0))),(26,.v (.one (.fn 106 [(7,0)])))] 45 #[27,28] Z4 Yj 2
noncomputable abbrev m108f3_h4 (p0_:Tm) (p1_:Int) (p2_:Scp) (p3_:Int) (p4_:Tm) (p5_:Tm):List (Nat×HB) :=
 [(0,.cells 153 [.yld 1]),(1,ZK),(2,.obj (.deferred (some []))),(3,.cells 25 (cE p0_)),(4,.cells 28 [dI p1_]),(5,.cells 107 (cE p2_)),(6,.cells 3 [dI p3_]),(7,.cells 25 (cE p4_)),(8,Ql),(9,.cells 26 [.fn 108 [(0,0),(8,0),(9,0)]]),(10,.cells 25 (cE p5_)),(11,.cells 25 (cE p5_))]
noncomputable abbrev m108f3_h5 (p0_:Tm) (p1_:Int) (p2_:Scp) (p3_:Int) (p4_:Tm) (p5_:Tm):List (Nat×HB) :=
 [(0,.cells 153 [.yld 1]),(1,QN),(2,.obj (.deferred (some []))),(3,.cells 25 (cE p0_)),(4,.cells 28 [dI p1_]),(5,.cells 107 (cE p2_)),(6,.cells 3 [dI p3_]),(7,.cells 25 (cE p4_)),(8,Ql),(9,.cells 26 [.fn 108 [(0,0),(8,0),(9,0)]]),(10,.cells 25 (cE p5_)),(11,.cells 25 (cE p5_))]
noncomputable abbrev m108f3_h6 (p0_:Tm) (p1_:Int) (p2_:Scp) (p3_:Int) (p4_:Tm) (p5_:Tm):List (Nat×HB) :=
 [(0,.cells 153 [.yld 1]),(1,ZK),(2,.obj (.deferred (some []))),(3,.cells 25 (cE p0_)),(4,.cells 28 [dI p1_]),(5,.cells 107 (cE p2_)),(6,.cells 3 [dI p3_]),(7,.cells 25 (cE p4_)),(8,Ql),(9,.cells 26 [.fn 108 [(0,0),(8,0),(9,0)]]),(10,.cells 25 (cE p5_))]
noncomputable abbrev m108f3_h7 (p0_:Tm) (p1_:Int) (p2_:Scp) (p3_:Int×Int) (p4_:Tm) (p5_:Tm) (p6_:Tm):List (Nat×HB) :=
 [(0,.cells 153 [.yld 1]),(1,QN),(2,.obj (.deferred (some []))),(3,.cells 25 (cE p0_)),(4,.cells 28 [dI p1_]),(5,.cells 107 (cE p2_)),(6,.cells 3 [dI p3_.2]),(7,.cells 25 (cE p4_)),(8,Ql),(9,.cells 26 [.fn 108 [(0,0),(8,0),(9,0)]]),(10,.cells 25 (cE p5_)),(12,.cells 25 (cE p6_))]
noncomputable abbrev J8 :HB :=
 .loop .done (some .ret) [(5,.v (.one (.ptr 3 0))),(10,.v (.one (.ptr 4 0))),(11,.v (.one (.ptr 5 0))),(12,.v (.one (.ptr 6 0))),(26,.v (.one (.fn 106 [(7,0)])))] 45 #[27,28] Z4 Yj 2
noncomputable abbrev m108f3_h9 (p0_:Tm) (p1_:Int×Int) (p2_:Scp) (p3_:Tm):List (Nat×HB) :=
 [(0,.cells 153 [.yld 1]),(1,J8),(2,.obj (.deferred (some []))),(3,.cells 25 (cE p0_)),(4,.cells 28 [dI p1_.1]),(5,.cells 107 (cE p2_)),(6,.cells 3 [dI p1_.2]),(7,.cells 25 (cE p3_)),(8,Ql),(9,.cells 26 [.fn 108 [(0,0),(8,0),(9,0)]])]
noncomputable abbrev m108f3_h10 (p0_:Tm) (p1_:Int) (p2_:Scp) (p3_:Bool×Int) (p4_:Tm):List (Nat×HB) :=
 [(0,.cells 153 [.yld 1]),(1,QN),(2,.obj (.deferred (some []))),(3,.cells 25 (cE p0_)),(4,.cells 28 [dI p1_]),(5,.cells 107 (cE p2_)),(6,.cells 3 [dI p3_.2]),(7,.cells 25 (cE p4_)),(8,Ql),(9,.cells 26 [.fn 108 [(0,0),(8,0),(9,0)]])]
noncomputable abbrev Zh (p0_:Tm) (p1_:Int) (p2_:Scp) (p3_:Int) (p4_:Tm):List (Nat×HB) :=
 [(0,.cells 153 [.yld 1]),(1,QN),(2,.obj (.deferred (some []))),(3,.cells 25 (cE p0_)),(4,.cells 28 [dI p1_]),(5,.cells 107 (cE p2_)),(6,.cells 3 [dI p3_]),(7,.cells 25 (cE p4_)),(8,Ql),(9,.cells 26 [.fn 108 [(0,0),(8,0),(9,0)]])]
noncomputable abbrev m108f3_h12 (p0_:Tm) (p1_:Int) (p2_:Scp) (p3_:Int) (p4_:Tm):List (Nat×HB) :=
 [(0,.cells 153 [.yld 1]),(1,J8),(2,.obj (.deferred (some []))),(3,.cells 25 (cE p0_)),(4,.cells 28 [dI p1_]),(5,.cells 107 (cE p2_)),(6,.cells 3 [dI p3_]),(7,.cells 25 (cE p4_)),(8,Ql),(9,.cells 26 [.fn 108 [(0,0),(8,0),(9,0)]])]
def Gy (rc:Tm×Int×Tm×Int×Scp×Int×Tm→Option ((Int×Int)⊕(Bool×Int))) (a0:Tm) (a1:Int) (a2:Tm) (a3:Int) (a4:Scp) (a5:Int) (a6:Tm):Option ((Int×Int)⊕(Bool×Int)) :=
 Option.bind (Option.bind (Dw a4 a0 a1) fun (x6:Int) =>
 cond (x6 != 0)
   (some (.inr x6))
   (some (.inl ()))) (Sum.elim (fun (y1:Unit)=>Option.bind (cond (decide (0≤a0.kind))
   (some (decide (a0.kind < 13)))
   (some false)) (fun (v8:Bool)=>ZJ v8 a0 a1 rc a2 a3 a4 a6 a5)) (fun (y2:Int)=>some (.inl (y2,a5))))
def Z5 (rc:Tm×Int×Tm×Int×Scp×Int×Tm→Option ((Int×Int)⊕(Bool×Int))) (u:Tm×Int×Tm×Int×Scp×Int×Tm):Option ((Int×Int)⊕(Bool×Int)):=Gy rc u.1 u.2.1 u.2.2.1 u.2.2.2.1 u.2.2.2.2.1 u.2.2.2.2.2.1 u.2.2.2.2.2.2
def m108f3 (a0:Tm) (a1:Int) (a2:Tm) (a3:Int) (a4:Scp) (a5:Int) (a6:Tm):Option ((Int×Int)⊕(Bool×Int)):=Jc Z5 Qt (a0,a1,a2,a3,a4,a5,a6)
theorem m108f3s_ok (rc:Tm×Int×Tm×Int×Scp×Int×Tm→Option ((Int×Int)⊕(Bool×Int))) (H:∀ (a0:Tm) (a1:Int) (a2:Tm) (a3:Int) (a4:Scp) (a5:Int) (a6:Tm) (r:(Int×Int)⊕(Bool×Int)),rc (a0,a1,a2,a3,a4,a5,a6)=some r→CallE Tryz.prog 108 [.agg (cE a0),.one (dI a1),.one (.ptr 0 0),.one (.ptr 8 0),.one (.ptr 9 0)] ⟨Zh a2 a3 a4 a5 a6,[],10⟩ ((Sum.elim (fun (r0:Int×Int)=>((.ret [.one (dB false)]):EK)) (fun (r1:Bool×Int)=>((.ret [.one (dB r1.1)]):EK))) r) ⟨((Sum.elim (fun (r0:Int×Int)=>(⟨[(7,.v (.one (dB false)))],[(0,.cells 153 [.yld 1]),(1,J8),(2,.obj (.deferred (some []))),(3,.cells 25 (cE a2)),(4,.cells 28 [dI r0.1]),(5,.cells 107 (cE a4)),(6,.cells 3 [dI r0.2]),(7,.cells 25 (cE a6)),(8,Ql),(9,.cells 26 [.fn 108 [(0,0),(8,0),(9,0)]])],[],12,50,[]⟩:St)) (fun (r1:Bool×Int)=>(⟨[(7,.v (.one (dB r1.1)))],[(0,.cells 153 [.yld 1]),(1,QN),(2,.obj (.deferred (some []))),(3,.cells 25 (cE a2)),(4,.cells 28 [dI a3]),(5,.cells 107 (cE a4)),(6,.cells 3 [dI r1.2]),(7,.cells 25 (cE a6)),(8,Ql),(9,.cells 26 [.fn 108 [(0,0),(8,0),(9,0)]])],[],12,50,[]⟩:St))) r).hp,((Sum.elim (fun (r0:Int×Int)=>(⟨[(7,.v (.one (dB false)))],[(0,.cells 153 [.yld 1]),(1,J8),(2,.obj (.deferred (some []))),(3,.cells 25 (cE a2)),(4,.cells 28 [dI r0.1]),(5,.cells 107 (cE a4)),(6,.cells 3 [dI r0.2]),(7,.cells 25 (cE a6)),(8,Ql),(9,.cells 26 [.fn 108 [(0,0),(8,0),(9,0)]])],[],12,50,[]⟩:St)) (fun (r1:Bool×Int)=>(⟨[(7,.v (.one (dB r1.1)))],[(0,.cells 153 [.yld 1]),(1,QN),(2,.obj (.deferred (some []))),(3,.cells 25 (cE a2)),(4,.cells 28 [dI a3]),(5,.cells 107 (cE a4)),(6,.cells 3 [dI r1.2]),(7,.cells 25 (cE a6)),(8,Ql),(9,.cells 26 [.fn 108 [(0,0),(8,0),(9,0)]])],[],12,50,[]⟩:St))) r).tk,((Sum.elim (fun (r0:Int×Int)=>(⟨[(7,.v (.one (dB false)))],[(0,.cells 153 [.yld 1]),(1,J8),(2,.obj (.deferred (some []))),(3,.cells 25 (cE a2)),(4,.cells 28 [dI r0.1]),(5,.cells 107 (cE a4)),(6,.cells 3 [dI r0.2]),(7,.cells 25 (cE a6)),(8,Ql),(9,.cells 26 [.fn 108 [(0,0),(8,0),(9,0)]])],[],12,50,[]⟩:St)) (fun (r1:Bool×Int)=>(⟨[(7,.v (.one (dB r1.1)))],[(0,.cells 153 [.yld 1]),(1,QN),(2,.obj (.deferred (some []))),(3,.cells 25 (cE a2)),(4,.cells 28 [dI a3]),(5,.cells 107 (cE a4)),(6,.cells 3 [dI r1.2]),(7,.cells 25 (cE a6)),(8,Ql),(9,.cells 26 [.fn 108 [(0,0),(8,0),(9,0)]])],[],12,50,[]⟩:St))) r).nx⟩) (a0:Tm) (a1:Int) (a2:Tm) (a3:Int) (a4:Scp) (a5:Int) (a6:Tm) (r:(Int×Int)⊕(Bool×Int)) (h0:Gy rc a0 a1 a2 a3 a4 a5 a6=some r):CallE Tryz.prog 108 [.agg (cE a0),.one (dI a1),.one (.ptr 0 0),.one (.ptr 8 0),.one (.ptr 9 0)] ⟨Zh a2 a3 a4 a5 a6,[],10⟩ ((Sum.elim (fun (r0:Int×Int)=>((.ret [.one (dB false)]):EK)) (fun (r1:Bool×Int)=>((.ret [.one (dB r1.1)]):EK))) r) ⟨((Sum.elim (fun (r0:Int×Int)=>(⟨[(7,.v (.one (dB false)))],[(0,.cells 153 [.yld 1]),(1,J8),(2,.obj (.deferred (some []))),(3,.cells 25 (cE a2)),(4,.cells 28 [dI r0.1]),(5,.cells 107 (cE a4)),(6,.cells 3 [dI r0.2]),(7,.cells 25 (cE a6)),(8,Ql),(9,.cells 26 [.fn 108 [(0,0),(8,0),(9,0)]])],[],12,50,[]⟩:St)) (fun (r1:Bool×Int)=>(⟨[(7,.v (.one (dB r1.1)))],[(0,.cells 153 [.yld 1]),(1,QN),(2,.obj (.deferred (some []))),(3,.cells 25 (cE a2)),(4,.cells 28 [dI a3]),(5,.cells 107 (cE a4)),(6,.cells 3 [dI r1.2]),(7,.cells 25 (cE a6)),(8,Ql),(9,.cells 26 [.fn 108 [(0,0),(8,0),(9,0)]])],[],12,50,[]⟩:St))) r).hp,((Sum.elim (fun (r0:Int×Int)=>(⟨[(7,.v (.one (dB false)))],[(0,.cells 153 [.yld 1]),(1,J8),(2,.obj (.deferred (some []))),(3,.cells 25 (cE a2)),(4,.cells 28 [dI r0.1]),(5,.cells 107 (cE a4)),(6,.cells 3 [dI r0.2]),(7,.cells 25 (cE a6)),(8,Ql),(9,.cells 26 [.fn 108 [(0,0),(8,0),(9,0)]])],[],12,50,[]⟩:St)) (fun (r1:Bool×Int)=>(⟨[(7,.v (.one (dB r1.1)))],[(0,.cells 153 [.yld 1]),(1,QN),(2,.obj (.deferred (some []))),(3,.cells 25 (cE a2)),(4,.cells 28 [dI a3]),(5,.cells 107 (cE a4)),(6,.cells 3 [dI r1.2]),(7,.cells 25 (cE a6)),(8,Ql),(9,.cells 26 [.fn 108 [(0,0),(8,0),(9,0)]])],[],12,50,[]⟩:St))) r).tk,((Sum.elim (fun (r0:Int×Int)=>(⟨[(7,.v (.one (dB false)))],[(0,.cells 153 [.yld 1]),(1,J8),(2,.obj (.deferred (some []))),(3,.cells 25 (cE a2)),(4,.cells 28 [dI r0.1]),(5,.cells 107 (cE a4)),(6,.cells 3 [dI r0.2]),(7,.cells 25 (cE a6)),(8,Ql),(9,.cells 26 [.fn 108 [(0,0),(8,0),(9,0)]])],[],12,50,[]⟩:St)) (fun (r1:Bool×Int)=>(⟨[(7,.v (.one (dB r1.1)))],[(0,.cells 153 [.yld 1]),(1,QN),(2,.obj (.deferred (some []))),(3,.cells 25 (cE a2)),(4,.cells 28 [dI a3]),(5,.cells 107 (cE a4)),(6,.cells 3 [dI r1.2]),(7,.cells 25 (cE a6)),(8,Ql),(9,.cells 26 [.fn 108 [(0,0),(8,0),(9,0)]])],[],12,50,[]⟩:St))) r).nx⟩:=by
 unfold Gy at h0
 refine CallE.of_body r ((Sum.elim (fun (r0:Int×Int)=>(⟨[(7,.v (.one (dB false)))],[(0,.cells 153 [.yld 1]),(1,J8),(2,.obj (.deferred (some []))),(3,.cells 25 (cE a2)),(4,.cells 28 [dI r0.1]),(5,.cells 107 (cE a4)),(6,.cells 3 [dI r0.2]),(7,.cells 25 (cE a6)),(8,Ql),(9,.cells 26 [.fn 108 [(0,0),(8,0),(9,0)]])],[],12,50,[]⟩:St)) (fun (r1:Bool×Int)=>(⟨[(7,.v (.one (dB r1.1)))],[(0,.cells 153 [.yld 1]),(1,QN),(2,.obj (.deferred (some []))),(3,.cells 25 (cE a2)),(4,.cells 28 [dI a3]),(5,.cells 107 (cE a4)),(6,.cells 3 [dI r1.2]),(7,.cells 25 (cE a6)),(8,Ql),(9,.cells 26 [.fn 108 [(0,0),(8,0),(9,0)]])],[],12,50,[]⟩:St)))) ((Sum.elim (fun (r0:Int×Int)=>((.ret [.one (dB false)]):EK)) (fun (r1:Bool×Int)=>((.ret [.one (dB r1.1)]):EK)))) rfl rfl en_108 (lb rfl) (fun z_=>by cases z_ with
 | inl _=>exact rfl
 | inr _=>exact rfl) (fun z_=>by cases z_ with
 | inl _=>exact (okR (Qj rfl .nil))
 | inr _=>exact (okR (Qj rfl .nil))) (fun w0 M V0 Q hv0 hQ0=>?_)
 simp only [QY]
 refine Q3<|Q0<|Qx Z Z (lb Z) (J9 Z)<|DX Z Z Z<|Q2<|Q1<|Q3<|Q3<|Q0<|DU Z Z Z (Q7 ag_153 Z Z Z)<|DW Z Z Z<|DU Z Z Z (J0 (a0:Tm) YT Z Z) ?_
 refine Qq h0 (fun y3 h1 h0=>?_)
 have ha4:ExecOK Tryz.prog (some 1) Z4 ⟨[(5,.v (.one (.ptr 3 0))),(10,.v (.one (.ptr 4 0))),(11,.v (.one (.ptr 5 0))),(12,.v (.one (.ptr 6 0))),(26,.v (.one (.fn 106 [(7,0)]))),(27,.v (.one (dI a1))),(28,.v (.agg (cE a0)))],m108f3_h2 a2 a3 a4 a5 a6 a0,[],11,45,[]⟩ .normal ⟨[(10,.v (.one (.ptr 4 0))),(11,.v (.one (.ptr 5 0))),(12,.v (.one (.ptr 6 0))),(13,.v (.one (dI a1))),(14,.v (.one (.ptr 11 0)))],m108f3_h5 a2 a3 a4 a5 a6 a0,[],12,45,[]⟩:=by
  refine ExecOK.walk (fun w0 M V0 ro n Q hv1 hro1 hQn1=>?_)
  refine Q3<|Q0<|DX Z Z Z<|Q2<|Q1<|Q0<|Qx Z Z (lb Z) (QW z_25 Z)<|Y1 Z Z (Jn (a0:Tm) YT Z Z Z Z Z)<|Q2 ?_
  exact XQ.of hQn1 (DR (Nat.le_trans hv1 (lb Z)) Z Z Z Z Z)
 have hb5:ExecOK Tryz.prog (some 1) Yj ⟨[(10,.v (.one (.ptr 4 0))),(11,.v (.one (.ptr 5 0))),(12,.v (.one (.ptr 6 0))),(13,.v (.one (dI a1))),(14,.v (.one (.ptr 11 0)))],m108f3_h4 a2 a3 a4 a5 a6 a0,[],12,45,[]⟩ ((Sum.elim (fun (_:Unit)=>(.normal:Exit)) (fun (_:Int)=>(.ret:Exit))) y3) ((Sum.elim (fun (y1:Unit)=>(⟨[],[(0,.cells 153 [.yld 1]),(1,ZK),(2,.obj (.deferred (some []))),(3,.cells 25 (cE a2)),(4,.cells 28 [dI a3]),(5,.cells 107 (cE a4)),(6,.cells 3 [dI (QG (a5+1))]),(7,.cells 25 (cE a6)),(8,Ql),(9,.cells 26 [.fn 108 [(0,0),(8,0),(9,0)]]),(10,.cells 25 (cE a0))],[],12,45,[]⟩:St)) (fun (y2:Int)=>(⟨[],m108f3_h6 a2 y2 a4 a5 a6 a0,[],12,45,[]⟩:St))) y3):=by
  refine ExecOK.walk (fun w0 M V0 ro n Q hv1 hro1 hQn1=>?_)
  refine Qr<|Q3<|Q3<|Q0<|DU Z Z Z (J0 (a4:Scp) ag_107 Z Z)<|DU Z Z Z (J0 (a0:Tm) YT Z Z)<|DW Z Z Z ?_
  refine Qq h1 (fun x6 hx6 h1=>?_)
  refine Qx Z Z (lb Z) (Qz (m59_ok a4 a0 a1 x6 hx6) Z (.cons (.agg (.cons (.d _) (.cons (.d _) (.cons (.d _) (.cons (.d _) .nil))))) (.cons (.agg (.cons (.d _) (.cons (.d _) (.cons (.d _) (.cons (.d _) (.cons (.d _) .nil)))))) (.cons (.one (.d _)) .nil))))<|DX Z Z Z<|Q2<|Q1<|Q3<|Q0<|DW Z Z Z<|DU Z Z Z (Q4 Z Z Z)<|Q2<|Q1 ?_
  refine Qh (b:=(x6 != 0)) Z (fun c7=>?_) (fun c7=>?_)
  replace h1:=Qe c7 h1
  refine Q3<|Q0<|DW Z Z Z<|Y1 Z Z (JH XN Z Z Z Z (lb Z) Z)<|Q2<|Q1<|Qp ?_
  have e:=DS h1;subst e
  exact XQ.of (e:=.ret) (st':=⟨[],m108f3_h6 a2 x6 a4 a5 a6 a0,[],12,45,[]⟩) hQn1 (DR (Nat.le_trans hv1 (lb Z)) Z Z Z Z Z)
  replace h1:=Qf c7 h1
  refine Qi<|Q1<|Q0<|DU Z Z Z (Q7 QL Z Z Z)<|DU Z Z Z (Q4 Z Z Z)<|Y1 Z Z (JH QL Z Z Z Z (lb Z) Z)<|Q2<|Qy ?_
  have e:=DS h1;subst e
  exact XQ.of (e:=.normal) (st':=⟨[],[(0,.cells 153 [.yld 1]),(1,ZK),(2,.obj (.deferred (some []))),(3,.cells 25 (cE a2)),(4,.cells 28 [dI a3]),(5,.cells 107 (cE a4)),(6,.cells 3 [dI (QG (a5+1))]),(7,.cells 25 (cE a6)),(8,Ql),(9,.cells 26 [.fn 108 [(0,0),(8,0),(9,0)]]),(10,.cells 25 (cE a0))],[],12,45,[]⟩) hQn1 (DR (Nat.le_trans hv1 (lb Z)) Z Z Z Z Z)
 refine sumK (C:=fun q_=>ExecOK Tryz.prog (some 1) Yj ⟨[(10,.v (.one (.ptr 4 0))),(11,.v (.one (.ptr 5 0))),(12,.v (.one (.ptr 6 0))),(13,.v (.one (dI a1))),(14,.v (.one (.ptr 11 0)))],m108f3_h4 a2 a3 a4 a5 a6 a0,[],12,45,[]⟩ ((Sum.elim (fun (_:Unit)=>(.normal:Exit)) (fun (_:Int)=>(.ret:Exit))) q_) ((Sum.elim (fun (y1:Unit)=>(⟨[],[(0,.cells 153 [.yld 1]),(1,ZK),(2,.obj (.deferred (some []))),(3,.cells 25 (cE a2)),(4,.cells 28 [dI a3]),(5,.cells 107 (cE a4)),(6,.cells 3 [dI (QG (a5+1))]),(7,.cells 25 (cE a6)),(8,Ql),(9,.cells 26 [.fn 108 [(0,0),(8,0),(9,0)]]),(10,.cells 25 (cE a0))],[],12,45,[]⟩:St)) (fun (y2:Int)=>(⟨[],m108f3_h6 a2 y2 a4 a5 a6 a0,[],12,45,[]⟩:St))) q_)) hb5 h0 (fun y1 hb5 h0=>?_) (fun y2 hb5 h0=>?_)
 replace hb5:ExecOK Tryz.prog (some 1) Yj ⟨[(10,.v (.one (.ptr 4 0))),(11,.v (.one (.ptr 5 0))),(12,.v (.one (.ptr 6 0))),(13,.v (.one (dI a1))),(14,.v (.one (.ptr 11 0)))],m108f3_h4 a2 a3 a4 a5 a6 a0,[],12,45,[]⟩ .normal ⟨[],[(0,.cells 153 [.yld 1]),(1,ZK),(2,.obj (.deferred (some []))),(3,.cells 25 (cE a2)),(4,.cells 28 [dI a3]),(5,.cells 107 (cE a4)),(6,.cells 3 [dI (QG (a5+1))]),(7,.cells 25 (cE a6)),(8,Ql),(9,.cells 26 [.fn 108 [(0,0),(8,0),(9,0)]]),(10,.cells 25 (cE a0))],[],12,45,[]⟩:=hb5
 refine Qx Z Z (lb Z) (OpOK.yield (jump:=none) Z Z Z Z Z (ExecOK.from ha4 (fun E hv=>(DR (Nat.le_trans hv (lb Z)) Z Z Z Z Z))) Z (ExecOK.from hb5 (fun E hv=>(DR (Nat.le_trans hv (lb Z)) Z Z Z Z Z))) Z Z) ?_
 refine DU Z Z Z (YI Z)<|Q2<|Q1 ?_
 refine Qh Z (fun h=>nomatch h) (fun _=>?_)
 refine Qi<|Q1<|Q3<|Q0<|DX Z Z Z<|Q2<|Q1<|Q3<|Q3 ?_
 refine QE (fun (v8:Bool)=>⟨[(1,.v (.one (dI a1))),(3,.v (.one (.ptr 8 0))),(4,.v (.one (.ptr 9 0))),(5,.v (.one (.ptr 10 0))),(8,.v (.one (dI (-1)))),(24,.v (.one (dB v8)))],[(0,.cells 153 [.yld 1]),(1,QN),(2,.obj (.deferred (some []))),(3,.cells 25 (cE a2)),(4,.cells 28 [dI a3]),(5,.cells 107 (cE a4)),(6,.cells 3 [dI (QG (a5+1))]),(7,.cells 25 (cE a6)),(8,Ql),(9,.cells 26 [.fn 108 [(0,0),(8,0),(9,0)]]),(10,.cells 25 (cE a0))],[],12,50,[]⟩) (fun (v8:Bool)=>(ZJ v8 a0 a1 rc a2 a3 a4 a6 a5)=some r) ?_ ?_
 refine Qq h0 (fun w1_ h1 h0=>?_)
 refine Q0<|DU Z Z Z (Q5 Ja Z)<|DU Z Z Z (Q7 QL Z Z Z)<|DU Z Z Z (Q4 Z Z Z)<|DW Z Z Z ?_
 refine Qn (d:=20) (c:=(decide (0≤a0.kind))) Z (fun c9=>?_) (fun c9=>?_)
 replace h1:=Qe c9 h1
 refine DU Z Z Z (Q5 Ja Z)<|DU Z Z Z (Q7 QL Z Z Z)<|DU Z Z Z (Q4 Z Z Z)<|DU Z Z Z (Qb Z Z)<|Q2 ?_
 have e:=DS h1;subst e
 exact Qa (decide (a0.kind < 13)) (DR (Nat.le_trans hv0 (lb Z)) Z Z Z Z Z) h0
 replace h1:=Qf c9 h1
 refine Q6 Z Z<|Q6 Z Z<|Q6 Z Z<|DU Z Z Z (Qc Z Z)<|Q2 ?_
 have e:=DS h1;subst e
 exact Qa false (DR (Nat.le_trans hv0 (lb Z)) Z Z Z Z Z) h0
 intro v8 h0
 unfold ZJ at h0
 refine Q1 ?_
 refine QE (fun (v10:Int)=>⟨[(1,.v (.one (dI a1))),(4,.v (.one (.ptr 9 0))),(5,.v (.one (.ptr 10 0))),(8,.v (.one (dI v10)))],[(0,.cells 153 [.yld 1]),(1,QN),(2,.obj (.deferred (some []))),(3,.cells 25 (cE a2)),(4,.cells 28 [dI a3]),(5,.cells 107 (cE a4)),(6,.cells 3 [dI (QG (a5+1))]),(7,.cells 25 (cE a6)),(8,Ql),(9,.cells 26 [.fn 108 [(0,0),(8,0),(9,0)]]),(10,.cells 25 (cE a0))],[],12,50,[]⟩) (fun (v10:Int)=>(Option.bind (Qo (YN a0 v10 a1 rc a2 a3 a4 a6) Qt (0,(QG (a5+1)))) (Sum.elim (fun (o11:Int)=>some (.inr (true,o11))) (fun o=>some o)))=some r) ?_ ?_
 refine Qq h0 (fun w1_ h1 h0=>?_)
 refine Qh (b:=v8) Z (fun c11=>?_) (fun c11=>?_)
 replace h1:=Qe c11 h1
 refine Q0<|DU Z Z Z (Q5 Ja Z)<|DU Z Z Z (Q7 QL Z Z Z) ?_
 refine guardK h1 (fun g12 h1=>?_)
 refine DU Z Z Z (RO.indexA arr_156 Z Z g12)<|DU Z Z Z (Q5 fo_155_4 Z) ?_
 refine Qq h1 (fun x13 hx13 h1=>?_)
 refine DU Z Z Z (RO.loadCol (m:=a0.kind) (sz:=5) (f:=4) (col:=([(-1),(-1),(-1),(-1),(-1),1,1,1,(-1),(-1),(-1),2,(-1)]:List Int)) QL Z Z Z hx13)<|DX Z Z Z<|Q2 ?_
 have e:=DS h1;subst e
 exact Qa x13 (DR (Nat.le_trans hv0 (lb Z)) Z Z Z Z Z) h0
 replace h1:=Qf c11 h1
 refine Qi ?_
 have e:=DS h1;subst e
 exact Qa (-1) (DR (Nat.le_trans hv0 (lb Z)) Z Z Z Z Z) h0
 intro v10 h0
 refine Q1<|Q3<|Q3<|Q0<|DU Z Z Z (Q5 JR Z)<|DU Z Z Z (Q7 Zu Z Z Z)<|DU Z Z Z (QQ (α:=Tm) YY Z (.d _))<|DW Z Z Z<|Q2<|Q1<|Qr ?_
 refine Jr 0 (fun (o14:Int)=>⟨[],[(0,.cells 153 [.yld 1]),(1,QN),(2,.obj (.deferred (some []))),(3,.cells 25 (cE a2)),(4,.cells 28 [dI a3]),(5,.cells 107 (cE a4)),(6,.cells 3 [dI o14]),(7,.cells 25 (cE a6)),(8,Ql),(9,.cells 26 [.fn 108 [(0,0),(8,0),(9,0)]]),(10,.cells 25 (cE a0))],[],12,50,[]⟩) (fun (o14:Int)=>(some (.inr (true,o14)))=some r) ?_ ?_
 refine Qq h0 (fun o15 hl1 h0=>?_)
 refine Jq (YN a0 v10 a1 rc a2 a3 a4 a6) (fun s1=>⟨[(1,.v (.one (dI a1))),(4,.v (.one (.ptr 9 0))),(8,.v (.one (dI v10))),(31,.v (.one (dS a0.kids))),(32,.v (.one (dI (a0.kids.length:Int)))),(33,.v (.one (dI s1.1)))],[(0,.cells 153 [.yld 1]),(1,QN),(2,.obj (.deferred (some []))),(3,.cells 25 (cE a2)),(4,.cells 28 [dI a3]),(5,.cells 107 (cE a4)),(6,.cells 3 [dI s1.2]),(7,.cells 25 (cE a6)),(8,Ql),(9,.cells 26 [.fn 108 [(0,0),(8,0),(9,0)]]),(10,.cells 25 (cE a0))],[],12,50,[]⟩) (0,(QG (a5+1))) o15 (DR (Nat.le_trans hv0 (lb Z)) Z Z Z Z Z) hl1 (fun s1 n1 oo1 h1 ho1=>?_)
 unfold YN at h1
 refine Q3<|Q0<|DU Z Z Z (Q4 Z Z Z)<|Q2<|Q1<|Q3 ?_
 refine Qh (b:=(decide (s1.1 < (a0.kids.length:Int)))) Z (fun c16=>?_) (fun c16=>?_)
 replace h1:=Qe c16 h1
 refine Qi<|Q1<|Q3<|Qr<|Q3<|Q0<|DW Z Z Z ?_
 refine Qq h1 (fun x17 hx17 h1=>?_)
 refine DU Z Z Z (J1 (α:=Tm) YY Z (.d _) Z hx17)<|DU Z Z Z (J5 (x17:Tm) YT Z)<|Qx Z Z (lb Z) (QW z_25 Z)<|DX Z Z Z<|Y1 Z Z (Jn (x17:Tm) YT Z Z Z Z Z)<|Q2<|Q1<|Q3<|Q0<|DW Z Z Z<|DX Z Z Z<|Q2<|Q1<|Q3 ?_
 refine Q3<|Q0<|DW Z Z Z<|DW Z Z Z<|DU Z Z Z (Q4 Z Z Z)<|Q2<|Q1 ?_
 refine QE (fun (v18:Int)=>⟨[(1,.v (.one (dI a1))),(4,.v (.one (.ptr 9 0))),(8,.v (.one (dI v10))),(10,.v (.one (.ptr 12 0))),(11,.v (.one (dI v18))),(31,.v (.one (dS a0.kids))),(32,.v (.one (dI (a0.kids.length:Int)))),(33,.v (.one (dI s1.1)))],m108f3_h7 a2 a3 a4 s1 a6 a0 x17,[],13,50,[]⟩) (fun (v18:Int)=>(m108f3_k0 rc x17 v18 a2 a3 a4 s1 a6)=some oo1) ?_ ?_
 refine Qq h1 (fun w2_ h2 h1=>?_)
 refine Qh (b:=(s1.1==v10)) Z (fun c19=>?_) (fun c19=>?_)
 replace h2:=Qe c19 h2
 refine Q0<|DW Z Z Z<|DU Z Z Z (Q4 Z Z Z)<|DX Z Z Z<|Q2 ?_
 have e:=DS h2;subst e
 exact Qa (QG (a1+1)) (DR (Nat.le_trans hv0 (lb Z)) Z Z Z Z Z) h1
 replace h2:=Qf c19 h2
 refine Qi ?_
 have e:=DS h2;subst e
 exact Qa a1 (DR (Nat.le_trans hv0 (lb Z)) Z Z Z Z Z) h1
 intro v18 h1
 unfold m108f3_k0 at h1
 refine Q1<|Q3<|Q0<|DU Z Z Z (Q7 ag_26 Z Z Z)<|DU Z Z Z (J0 (x17:Tm) YT Z Z)<|DW Z Z Z ?_
 refine Qq h1 (fun x20 hx20 h1=>?_)
 refine sumE id hx20 h1 (fun x21 hx21 h1=>?_) (fun x22 hx22 h1=>?_)
 refine Qx Z Z (lb Z) (YK (hp1':=[(0,.cells 153 [.yld 1]),(1,.loop .done (some .ret) [(5,.v (.one (.ptr 3 0))),(10,.v (.one (.ptr 4 0))),(11,.v (.one (.ptr 5 0))),(12,.v (.one (.ptr 6 0))),(26,.v (.one (.fn 106 [(7,0)])))] 45 #[27,28] Z4 Yj 2),(2,.obj (.deferred (some []))),(3,.cells 25 (cE a2)),(4,.cells 28 [dI x21.1]),(5,.cells 107 (cE a4)),(6,.cells 3 [dI x21.2]),(7,.cells 25 (cE a6)),(8,.cells 156 [dB true,dB false,dI 0,dI 0,dI (-1),dB false,dB false,dI 0,dI 0,dI (-1),dB false,dB false,dI 1,dI 0,dI (-1),dB false,dB true,dI (-1),dI 0,dI (-1),dB false,dB false,dI 0,dI 2,dI (-1),dB false,dB false,dI 0,dI 2,dI 1,dB false,dB false,dI 0,dI 2,dI 1,dB false,dB false,dI 0,dI 2,dI 1,dB false,dB false,dI 0,dI 3,dI (-1),dB false,dB false,dI 0,dI 1,dI (-1),dB false,dB false,dI 0,dI 1,dI (-1),dB false,dB false,dI 0,dI 3,dI 2,dB true,dB false,dI 0,dI 0,dI (-1)]),(9,.cells 26 [.fn 108 [(0,0),(8,0),(9,0)]])]) (tk1':=[]) (hpF:=[(10,.cells 25 (cE a0)),(12,.cells 25 (cE x17))]) (tkF:=[]) (res2:=Qu [.one (dB false)]) (nx2:=15) [0,1,2,3,4,5,6,7,8,9] Z Z (CallE.m (H x17 v18 a2 a3 a4 s1.2 a6 (.inl x21) hx21)) Z Z (DZ Z Z (DZ Z Z (DZ Z Z (DZ Z Z (DZ Z Z (DZ Z Z (DZ Z Z (DZ Z Z (DZ Z Z (DZ Z Z DY)))))))))) Z Z (gR Z (gR Z (gR Z (gR Z (gR Z (gR Z (gR Z (gR Z (gR Z (gR Z gZ)))))))))) jZ (hA Z) kZ Z Z Z Z Z (bA Z) Z Z Z Z)<|DU Z Z Z (YI Z)<|Q2<|Q1 ?_
 refine Qh Z (fun _=>?_) (fun h=>nomatch h)
 refine Q3<|Q0<|DX Z Z Z<|Q2<|Q1<|Qp ?_
 have e:=DS h1;subst e
 have e_:_=_:=ho1
 subst e_
 try dsimp only [Sum.elim_inl,Sum.elim_inr] at h0
 have e:=DS h0;subst e
 exact hQ0 _ _ byR Z (show StLe _ _ ⟨[(7,.v (.one (dB false)))],m108f3_h9 a2 x21 a4 a6,[],12,50,[]⟩ from (DR (Nat.le_trans hv0 (lb Z)) Z Z Z Z Z))
 refine Qx Z Z (lb Z) (YK (hp1':=[(0,.cells 153 [.yld 1]),(1,.loop .ready none [(5,.v (.one (.ptr 3 0))),(10,.v (.one (.ptr 4 0))),(11,.v (.one (.ptr 5 0))),(12,.v (.one (.ptr 6 0))),(26,.v (.one (.fn 106 [(7,0)])))] 45 #[27,28] Z4 Yj 2),(2,.obj (.deferred (some []))),(3,.cells 25 (cE a2)),(4,.cells 28 [dI a3]),(5,.cells 107 (cE a4)),(6,.cells 3 [dI x22.2]),(7,.cells 25 (cE a6)),(8,.cells 156 [dB true,dB false,dI 0,dI 0,dI (-1),dB false,dB false,dI 0,dI 0,dI (-1),dB false,dB false,dI 1,dI 0,dI (-1),dB false,dB true,dI (-1),dI 0,dI (-1),dB false,dB false,dI 0,dI 2,dI (-1),dB false,dB false,dI 0,dI 2,dI 1,dB false,dB false,dI 0,dI 2,dI 1,dB false,dB false,dI 0,dI 2,dI 1,dB false,dB false,dI 0,dI 3,dI (-1),dB false,dB false,dI 0,dI 1,dI (-1),dB false,dB false,dI 0,dI 1,dI (-1),dB false,dB false,dI 0,dI 3,dI 2,dB true,dB false,dI 0,dI 0,dI (-1)]),(9,.cells 26 [.fn 108 [(0,0),(8,0),(9,0)]])]) (tk1':=[]) (hpF:=[(10,.cells 25 (cE a0)),(12,.cells 25 (cE x17))]) (tkF:=[]) (res2:=Qu [.one (dB x22.1)]) (nx2:=15) [0,1,2,3,4,5,6,7,8,9] Z Z (CallE.m (H x17 v18 a2 a3 a4 s1.2 a6 (.inr x22) hx22)) Z Z (DZ Z Z (DZ Z Z (DZ Z Z (DZ Z Z (DZ Z Z (DZ Z Z (DZ Z Z (DZ Z Z (DZ Z Z (DZ Z Z DY)))))))))) Z Z (gR Z (gR Z (gR Z (gR Z (gR Z (gR Z (gR Z (gR Z (gR Z (gR Z gZ)))))))))) jZ (hA Z) kZ Z Z Z Z Z (bA Z) Z Z Z Z)<|DU Z Z Z (YI Z)<|Q2<|Q1 ?_
 refine Qh (b:=(!x22.1)) Z (fun c23=>?_) (fun c23=>?_)
 replace h1:=Qe c23 h1
 refine Q3<|Q0<|DX Z Z Z<|Q2<|Q1<|Qp ?_
 have e:=DS h1;subst e
 have e_:_=_:=ho1
 subst e_
 try dsimp only [Sum.elim_inl,Sum.elim_inr] at h0
 have e:=DS h0;subst e
 exact hQ0 _ _ byR Z (show StLe _ _ ⟨[(7,.v (.one (dB false)))],m108f3_h10 a2 a3 a4 x22 a6,[],12,50,[]⟩ from (DR (Nat.le_trans hv0 (lb Z)) Z Z Z Z Z))
 replace h1:=Qf c23 h1
 refine Qi<|Qy<|Q1<|Q0<|DU Z Z Z (Q4 Z Z Z)<|DW Z Z Z<|Q2 ?_
 have e:=DS h1;subst e
 refine J6 ((QG (s1.1+1)),x22.2) (DR (Nat.le_trans hv0 (lb Z)) Z Z Z Z Z) ho1
 replace h1:=Qf c16 h1
 refine Jw<|QC<|QC ?_
 have e:=DS h1;subst e
 have e_:_=_:=ho1
 subst e_
 exact Jp s1.2 (DR (Nat.le_trans hv0 (lb Z)) Z Z Z Z Z) h0
 intro o14 h0
 refine QZ<|Q1<|Q3<|Q0<|DX Z Z Z<|Q2<|Q1<|Qp ?_
 have e:=DS h0;subst e
 exact hQ0 _ _ byR Z (show StLe _ _ ⟨[(7,.v (.one (dB true)))],Zh a2 a3 a4 o14 a6,[],12,50,[]⟩ from (DR (Nat.le_trans hv0 (lb Z)) Z Z Z Z Z))
 replace hb5:ExecOK Tryz.prog (some 1) Yj ⟨[(10,.v (.one (.ptr 4 0))),(11,.v (.one (.ptr 5 0))),(12,.v (.one (.ptr 6 0))),(13,.v (.one (dI a1))),(14,.v (.one (.ptr 11 0)))],m108f3_h4 a2 a3 a4 a5 a6 a0,[],12,45,[]⟩ .ret ⟨[],m108f3_h6 a2 y2 a4 a5 a6 a0,[],12,45,[]⟩:=hb5
 refine Qx Z Z (lb Z) (OpOK.yield (jump:=(some .ret)) Z Z Z Z Z (ExecOK.from ha4 (fun E hv=>(DR (Nat.le_trans hv (lb Z)) Z Z Z Z Z))) Z (ExecOK.from hb5 (fun E hv=>(DR (Nat.le_trans hv (lb Z)) Z Z Z Z Z))) Z Z) ?_
 refine DU Z Z Z (YI Z)<|Q2<|Q1 ?_
 refine Qh Z (fun _=>?_) (fun h=>nomatch h)
 refine Q3<|Q0<|DX Z Z Z<|Q2<|Q1<|Qp ?_
 have e:=DS h0;subst e
 exact hQ0 _ _ byR Z (show StLe _ _ ⟨[(7,.v (.one (dB false)))],m108f3_h12 a2 y2 a4 a5 a6,[],12,50,[]⟩ from (DR (Nat.le_trans hv0 (lb Z)) Z Z Z Z Z))
theorem m108f3_all (n:Nat) (u:Tm×Int×Tm×Int×Scp×Int×Tm) (r:(Int×Int)⊕(Bool×Int)) (h0:Jc Z5 n u=some r):CallE Tryz.prog 108 [.agg (cE u.1),.one (dI u.2.1),.one (.ptr 0 0),.one (.ptr 8 0),.one (.ptr 9 0)] ⟨Zh u.2.2.1 u.2.2.2.1 u.2.2.2.2.1 u.2.2.2.2.2.1 u.2.2.2.2.2.2,[],10⟩ ((Sum.elim (fun (r0:Int×Int)=>((.ret [.one (dB false)]):EK)) (fun (r1:Bool×Int)=>((.ret [.one (dB r1.1)]):EK))) r) ⟨((Sum.elim (fun (r0:Int×Int)=>(⟨[(7,.v (.one (dB false)))],[(0,.cells 153 [.yld 1]),(1,J8),(2,.obj (.deferred (some []))),(3,.cells 25 (cE u.2.2.1)),(4,.cells 28 [dI r0.1]),(5,.cells 107 (cE u.2.2.2.2.1)),(6,.cells 3 [dI r0.2]),(7,.cells 25 (cE u.2.2.2.2.2.2)),(8,Ql),(9,.cells 26 [.fn 108 [(0,0),(8,0),(9,0)]])],[],12,50,[]⟩:St)) (fun (r1:Bool×Int)=>(⟨[(7,.v (.one (dB r1.1)))],[(0,.cells 153 [.yld 1]),(1,QN),(2,.obj (.deferred (some []))),(3,.cells 25 (cE u.2.2.1)),(4,.cells 28 [dI u.2.2.2.1]),(5,.cells 107 (cE u.2.2.2.2.1)),(6,.cells 3 [dI r1.2]),(7,.cells 25 (cE u.2.2.2.2.2.2)),(8,Ql),(9,.cells 26 [.fn 108 [(0,0),(8,0),(9,0)]])],[],12,50,[]⟩:St))) r).hp,((Sum.elim (fun (r0:Int×Int)=>(⟨[(7,.v (.one (dB false)))],[(0,.cells 153 [.yld 1]),(1,J8),(2,.obj (.deferred (some []))),(3,.cells 25 (cE u.2.2.1)),(4,.cells 28 [dI r0.1]),(5,.cells 107 (cE u.2.2.2.2.1)),(6,.cells 3 [dI r0.2]),(7,.cells 25 (cE u.2.2.2.2.2.2)),(8,Ql),(9,.cells 26 [.fn 108 [(0,0),(8,0),(9,0)]])],[],12,50,[]⟩:St)) (fun (r1:Bool×Int)=>(⟨[(7,.v (.one (dB r1.1)))],[(0,.cells 153 [.yld 1]),(1,QN),(2,.obj (.deferred (some []))),(3,.cells 25 (cE u.2.2.1)),(4,.cells 28 [dI u.2.2.2.1]),(5,.cells 107 (cE u.2.2.2.2.1)),(6,.cells 3 [dI r1.2]),(7,.cells 25 (cE u.2.2.2.2.2.2)),(8,Ql),(9,.cells 26 [.fn 108 [(0,0),(8,0),(9,0)]])],[],12,50,[]⟩:St))) r).tk,((Sum.elim (fun (r0:Int×Int)=>(⟨[(7,.v (.one (dB false)))],[(0,.cells 153 [.yld 1]),(1,J8),(2,.obj (.deferred (some []))),(3,.cells 25 (cE u.2.2.1)),(4,.cells 28 [dI r0.1]),(5,.cells 107 (cE u.2.2.2.2.1)),(6,.cells 3 [dI r0.2]),(7,.cells 25 (cE u.2.2.2.2.2.2)),(8,Ql),(9,.cells 26 [.fn 108 [(0,0),(8,0),(9,0)]])],[],12,50,[]⟩:St)) (fun (r1:Bool×Int)=>(⟨[(7,.v (.one (dB r1.1)))],[(0,.cells 153 [.yld 1]),(1,QN),(2,.obj (.deferred (some []))),(3,.cells 25 (cE u.2.2.1)),(4,.cells 28 [dI u.2.2.2.1]),(5,.cells 107 (cE u.2.2.2.2.1)),(6,.cells 3 [dI r1.2]),(7,.cells 25 (cE u.2.2.2.2.2.2)),(8,Ql),(9,.cells 26 [.fn 108 [(0,0),(8,0),(9,0)]])],[],12,50,[]⟩:St))) r).nx⟩ :=
 Y6 (C:=fun u r=>CallE Tryz.prog 108 [.agg (cE u.1),.one (dI u.2.1),.one (.ptr 0 0),.one (.ptr 8 0),.one (.ptr 9 0)] ⟨Zh u.2.2.1 u.2.2.2.1 u.2.2.2.2.1 u.2.2.2.2.2.1 u.2.2.2.2.2.2,[],10⟩ ((Sum.elim (fun (r0:Int×Int)=>((.ret [.one (dB false)]):EK)) (fun (r1:Bool×Int)=>((.ret [.one (dB r1.1)]):EK))) r) ⟨((Sum.elim (fun (r0:Int×Int)=>(⟨[(7,.v (.one (dB false)))],[(0,.cells 153 [.yld 1]),(1,J8),(2,.obj (.deferred (some []))),(3,.cells 25 (cE u.2.2.1)),(4,.cells 28 [dI r0.1]),(5,.cells 107 (cE u.2.2.2.2.1)),(6,.cells 3 [dI r0.2]),(7,.cells 25 (cE u.2.2.2.2.2.2)),(8,Ql),(9,.cells 26 [.fn 108 [(0,0),(8,0),(9,0)]])],[],12,50,[]⟩:St)) (fun (r1:Bool×Int)=>(⟨[(7,.v (.one (dB r1.1)))],[(0,.cells 153 [.yld 1]),(1,QN),(2,.obj (.deferred (some []))),(3,.cells 25 (cE u.2.2.1)),(4,.cells 28 [dI u.2.2.2.1]),(5,.cells 107 (cE u.2.2.2.2.1)),(6,.cells 3 [dI r1.2]),(7,.cells 25 (cE u.2.2.2.2.2.2)),(8,Ql),(9,.cells 26 [.fn 108 [(0,0),(8,0),(9,0)]])],[],12,50,[]⟩:St))) r).hp,((Sum.elim (fun (r0:Int×Int)=>(⟨[(7,.v (.one (dB false)))],[(0,.cells 153 [.yld 1]),(1,J8),(2,.obj (.deferred (some []))),(3,.cells 25 (cE u.2.2.1)),(4,.cells 28 [dI r0.1]),(5,.cells 107 (cE u.2.2.2.2.1)),(6,.cells 3 [dI r0.2]),(7,.cells 25 (cE u.2.2.2.2.2.2)),(8,Ql),(9,.cells 26 [.fn 108 [(0,0),(8,0),(9,0)]])],[],12,50,[]⟩:St)) (fun (r1:Bool×Int)=>(⟨[(7,.v (.one (dB r1.1)))],[(0,.cells 153 [.yld 1]),(1,QN),(2,.obj (.deferred (some []))),(3,.cells 25 (cE u.2.2.1)),(4,.cells 28 [dI u.2.2.2.1]),(5,.cells 107 (cE u.2.2.2.2.1)),(6,.cells 3 [dI r1.2]),(7,.cells 25 (cE u.2.2.2.2.2.2)),(8,Ql),(9,.cells 26 [.fn 108 [(0,0),(8,0),(9,0)]])],[],12,50,[]⟩:St))) r).tk,((Sum.elim (fun (r0:Int×Int)=>(⟨[(7,.v (.one (dB false)))],[(0,.cells 153 [.yld 1]),(1,J8),(2,.obj (.deferred (some []))),(3,.cells 25 (cE u.2.2.1)),(4,.cells 28 [dI r0.1]),(5,.cells 107 (cE u.2.2.2.2.1)),(6,.cells 3 [dI r0.2]),(7,.cells 25 (cE u.2.2.2.2.2.2)),(8,Ql),(9,.cells 26 [.fn 108 [(0,0),(8,0),(9,0)]])],[],12,50,[]⟩:St)) (fun (r1:Bool×Int)=>(⟨[(7,.v (.one (dB r1.1)))],[(0,.cells 153 [.yld 1]),(1,QN),(2,.obj (.deferred (some []))),(3,.cells 25 (cE u.2.2.1)),(4,.cells 28 [dI u.2.2.2.1]),(5,.cells 107 (cE u.2.2.2.2.1)),(6,.cells 3 [dI r1.2]),(7,.cells 25 (cE u.2.2.2.2.2.2)),(8,Ql),(9,.cells 26 [.fn 108 [(0,0),(8,0),(9,0)]])],[],12,50,[]⟩:St))) r).nx⟩) (fun rc H u r h=>m108f3s_ok rc (fun a0 a1 a2 a3 a4 a5 a6 r h=>H (a0,a1,a2,a3,a4,a5,a6) r h) u.1 u.2.1 u.2.2.1 u.2.2.2.1 u.2.2.2.2.1 u.2.2.2.2.2.1 u.2.2.2.2.2.2 r h) n u r h0
theorem m108f3_ok (a0:Tm) (a1:Int) (a2:Tm) (a3:Int) (a4:Scp) (a5:Int) (a6:Tm) (r:(Int×Int)⊕(Bool×Int)) (h0:m108f3 a0 a1 a2 a3 a4 a5 a6=some r):CallE Tryz.prog 108 [.agg (cE a0),.one (dI a1),.one (.ptr 0 0),.one (.ptr 8 0),.one (.ptr 9 0)] ⟨Zh a2 a3 a4 a5 a6,[],10⟩ ((Sum.elim (fun (r0:Int×Int)=>((.ret [.one (dB false)]):EK)) (fun (r1:Bool×Int)=>((.ret [.one (dB r1.1)]):EK))) r) ⟨((Sum.elim (fun (r0:Int×Int)=>(⟨[(7,.v (.one (dB false)))],[(0,.cells 153 [.yld 1]),(1,J8),(2,.obj (.deferred (some []))),(3,.cells 25 (cE a2)),(4,.cells 28 [dI r0.1]),(5,.cells 107 (cE a4)),(6,.cells 3 [dI r0.2]),(7,.cells 25 (cE a6)),(8,Ql),(9,.cells 26 [.fn 108 [(0,0),(8,0),(9,0)]])],[],12,50,[]⟩:St)) (fun (r1:Bool×Int)=>(⟨[(7,.v (.one (dB r1.1)))],[(0,.cells 153 [.yld 1]),(1,QN),(2,.obj (.deferred (some []))),(3,.cells 25 (cE a2)),(4,.cells 28 [dI a3]),(5,.cells 107 (cE a4)),(6,.cells 3 [dI r1.2]),(7,.cells 25 (cE a6)),(8,Ql),(9,.cells 26 [.fn 108 [(0,0),(8,0),(9,0)]])],[],12,50,[]⟩:St))) r).hp,((Sum.elim (fun (r0:Int×Int)=>(⟨[(7,.v (.one (dB false)))],[(0,.cells 153 [.yld 1]),(1,J8),(2,.obj (.deferred (some []))),(3,.cells 25 (cE a2)),(4,.cells 28 [dI r0.1]),(5,.cells 107 (cE a4)),(6,.cells 3 [dI r0.2]),(7,.cells 25 (cE a6)),(8,Ql),(9,.cells 26 [.fn 108 [(0,0),(8,0),(9,0)]])],[],12,50,[]⟩:St)) (fun (r1:Bool×Int)=>(⟨[(7,.v (.one (dB r1.1)))],[(0,.cells 153 [.yld 1]),(1,QN),(2,.obj (.deferred (some []))),(3,.cells 25 (cE a2)),(4,.cells 28 [dI a3]),(5,.cells 107 (cE a4)),(6,.cells 3 [dI r1.2]),(7,.cells 25 (cE a6)),(8,Ql),(9,.cells 26 [.fn 108 [(0,0),(8,0),(9,0)]])],[],12,50,[]⟩:St))) r).tk,((Sum.elim (fun (r0:Int×Int)=>(⟨[(7,.v (.one (dB false)))],[(0,.cells 153 [.yld 1]),(1,J8),(2,.obj (.deferred (some []))),(3,.cells 25 (cE a2)),(4,.cells 28 [dI r0.1]),(5,.cells 107 (cE a4)),(6,.cells 3 [dI r0.2]),(7,.cells 25 (cE a6)),(8,Ql),(9,.cells 26 [.fn 108 [(0,0),(8,0),(9,0)]])],[],12,50,[]⟩:St)) (fun (r1:Bool×Int)=>(⟨[(7,.v (.one (dB r1.1)))],[(0,.cells 153 [.yld 1]),(1,QN),(2,.obj (.deferred (some []))),(3,.cells 25 (cE a2)),(4,.cells 28 [dI a3]),(5,.cells 107 (cE a4)),(6,.cells 3 [dI r1.2]),(7,.cells 25 (cE a6)),(8,Ql),(9,.cells 26 [.fn 108 [(0,0),(8,0),(9,0)]])],[],12,50,[]⟩:St))) r).nx⟩:=m108f3_all Qt (a0,a1,a2,a3,a4,a5,a6) r h0
noncomputable abbrev m27_h0 (p0_:Int) (p1_:Int) (p2_:Int) (p3_:Int):HB :=
 .cells 107 [dI (max p0_ 0),dI (max p1_ 0),dI (max p2_ 0),dI (max p3_ 0)]
noncomputable abbrev m27_h1 (p0_:Tm) (p1_:Int) (p2_:Int) (p3_:Int) (p4_:Int):List (Nat×HB) :=
 [(0,.cells 25 (cE p0_)),(1,.cells 28 [dI 0]),(2,m27_h0 p1_ p2_ p3_ p4_),(3,.cells 3 [dI 0])]
noncomputable abbrev m27_h2 (p0_:Tm) (p1_:Int) (p2_:Int) (p3_:Int) (p4_:Int):List (Nat×HB) :=
 [(0,.cells 25 (cE p0_)),(1,.cells 28 [dI 0]),(2,m27_h0 p1_ p2_ p3_ p4_),(3,.cells 3 [dI 0]),(4,.cells 25 (cE p0_))]
noncomputable abbrev m27_h3 (p0_:Int) (p1_:Int) (p2_:Int) (p3_:Int):HB :=
 .cells 107 [dI ((⟨(max p0_ 0),(max p1_ 0),(max p2_ 0),(max p3_ 0)⟩:Scp).vars),dI ((⟨(max p0_ 0),(max p1_ 0),(max p2_ 0),(max p3_ 0)⟩:Scp).params),dI ((⟨(max p0_ 0),(max p1_ 0),(max p2_ 0),(max p3_ 0)⟩:Scp).metas),dI ((⟨(max p0_ 0),(max p1_ 0),(max p2_ 0),(max p3_ 0)⟩:Scp).levels)]
noncomputable abbrev m27_h4 :HB :=
 .loop .ready none [(5,.v (.one (.ptr 0 0))),(10,.v (.one (.ptr 1 0))),(11,.v (.one (.ptr 2 0))),(12,.v (.one (.ptr 3 0))),(26,.v (.one (.fn 106 [(4,0)])))] 45 #[27,28] Z4 Yj 5
noncomputable abbrev Gg (p0_:Tm) (p1_:Int) (p2_:Int) (p3_:Int) (p4_:Int) (p5_:Int):List (Nat×HB) :=
 [(0,.cells 25 (cE p0_)),(1,.cells 28 [dI 0]),(2,m27_h3 p1_ p2_ p3_ p4_),(3,.cells 3 [dI p5_]),(4,.cells 25 (cE p0_)),(5,.obj (.deferred (some []))),(6,m27_h4)]
noncomputable abbrev m27_h6 :HB :=
 .loop .done (some .ret) [(5,.v (.one (.ptr 0 0))),(10,.v (.one (.ptr 1 0))),(11,.v (.one (.ptr 2 0))),(12,.v (.one (.ptr 3 0))),(26,.v (.one (.fn 106 [(4,0)])))] 45 #[27,28] Z4 Yj 5
noncomputable abbrev KS (p0_:Tm) (p1_:Int×Int) (p2_:Int) (p3_:Int) (p4_:Int) (p5_:Int):List (Nat×HB) :=
 [(0,.cells 25 (cE p0_)),(1,.cells 28 [dI p1_.1]),(2,m27_h3 p2_ p3_ p4_ p5_),(3,.cells 3 [dI p1_.2]),(4,.cells 25 (cE p0_)),(5,.obj (.deferred (some []))),(6,m27_h6)]
noncomputable abbrev m27_h8 (p0_:Tm) (p1_:Int) (p2_:Int) (p3_:Int) (p4_:Int):List (Nat×HB) :=
 [(0,.cells 25 (cE p0_)),(1,.cells 28 [dI 0]),(2,m27_h0 p1_ p2_ p3_ p4_),(3,.cells 3 [dI 0]),(4,.cells 25 (cE p0_)),(5,.obj (.deferred (some []))),(6,m27_h4),(7,.cells 153 [.yld 6])]
noncomputable abbrev m27_h9 :HB :=
 .cells 156 [dB true,dB false,dI 0,dI 0,dI (-1),dB false,dB false,dI 0,dI 0,dI (-1),dB false,dB false,dI 1,dI 0,dI (-1),dB false,dB true,dI (-1),dI 0,dI (-1),dB false,dB false,dI 0,dI 2,dI (-1),dB false,dB false,dI 0,dI 2,dI 1,dB false,dB false,dI 0,dI 2,dI 1,dB false,dB false,dI 0,dI 2,dI 1,dB false,dB false,dI 0,dI 3,dI (-1),dB false,dB false,dI 0,dI 1,dI (-1),dB false,dB false,dI 0,dI 1,dI (-1),dB false,dB false,dI 0,dI 3,dI 2,dB true,dB false,dI 0,dI 0,dI (-1)]
noncomputable abbrev m27_h10 (p0_:Tm) (p1_:Int) (p2_:Int) (p3_:Int) (p4_:Int):List (Nat×HB) :=
 [(0,.cells 25 (cE p0_)),(1,.cells 28 [dI 0]),(2,m27_h0 p1_ p2_ p3_ p4_),(3,.cells 3 [dI 0]),(4,.cells 25 (cE p0_)),(5,.obj (.deferred (some []))),(6,m27_h4),(7,.cells 153 [.yld 6]),(8,m27_h9)]
noncomputable abbrev m27_h11 (p0_:Tm) (p1_:Int) (p2_:Int) (p3_:Int) (p4_:Int) (p5_:Bool×Int):List (Nat×HB) :=
 [(0,.cells 25 (cE p0_)),(1,.cells 28 [dI 0]),(2,m27_h3 p1_ p2_ p3_ p4_),(3,.cells 3 [dI p5_.2]),(4,.cells 25 (cE p0_)),(5,.obj (.deferred (some []))),(6,m27_h4)]
def Dx (a0:Tm) (a1:Int) (a2:Int) (a3:Int) (a4:Int):Option Int :=
 Option.bind (some ()) (fun (y1:Unit)=>Option.bind (Option.bind (some ()) (fun (y7:Unit)=>Option.bind (m108f3 a0 0 a0 0 (⟨(max a1 0),(max a2 0),(max a3 0),(max a4 0)⟩:Scp) 0 a0) (Sum.elim (fun (x10:Int×Int)=>some (.inr (x10.1,x10.2))) (fun (x11:Bool×Int)=>some (.inl x11.2))))) (Sum.elim (fun (y3:Int)=>cond (decide (4096 < y3))
   (some 5)
   (Option.bind (m60 a0) fun (x13:Int) =>
 cond (decide (200 < x13))
   (some 7)
   (some 0))) (fun (y4:Int×Int)=>some y4.1)))
theorem m27_ok (a0:Tm) (a1:Int) (a2:Int) (a3:Int) (a4:Int) (r:Int) (h0:Dx a0 a1 a2 a3 a4=some r):Fun Tryz.prog 27 [.agg (cE a0),.one (dI a1),.one (dI a2),.one (dI a3),.one (dI a4)] (Qu [.one (dI r)]):=by
 unfold Dx at h0
 refine QF 9 45 Tryz.func27 Z en_27 Z (lb Z) (fun S w=>?_)
 simp only [QY]
 refine Q3<|Q0<|Qx Z Z (lb Z) (J9 Z)<|Qx Z Z (lb Z) (QW z_28 Z)<|Q2<|Q1<|Q3<|Q0<|DW Z Z Z<|DU Z Z Z (Kl Z Z)<|DW Z Z Z<|DU Z Z Z (Kl Z Z)<|DW Z Z Z<|DU Z Z Z (Kl Z Z) ?_
 refine DW Z Z Z<|DU Z Z Z (Kl Z Z)<|DU Z Z Z (RO.buildN bd_107 Z (.cons Z (.cons Z (.cons Z (.cons Z .nil)))) Z)<|Qx Z Z (lb Z) (QW z_107 Z)<|Y1 Z Z (JH ag_107 Z Z Z Z (lb Z) Z)<|Q2<|Q1<|Q3<|Q0<|Qx Z Z (lb Z) (QW z_3 Z)<|Y1 Z Z (JH QL Z Z Z Z (lb Z) Z)<|Q2<|Q1<|Q3 ?_
 refine Q3<|Q0<|DU Z Z Z (J0 (a0:Tm) YT Z Z) ?_
 refine Qq h0 (fun y1 h1 h0=>?_)
 have hc2:CallM Tryz.prog 58 [.agg (cE a0)] ⟨m27_h1 a0 a1 a2 a3 a4,[],4⟩ (Qu [.one (.fn 106 [(4,0)])]) ⟨m27_h2 a0 a1 a2 a3 a4,[],5⟩:=by
  refine Jt ⟨[(2,.v (.one (.fn 106 [(4,0)])))],m27_h2 a0 a1 a2 a3 a4,[],5,4,[]⟩ Z Z en_58 (lb Z) Z (Qj Z .nil) (fun w0 M V0 Q hv1 hQ1=>?_)
  simp only [QY]
  refine Q3<|Q0<|Qx Z Z (lb Z) (J9 Z)<|DX Z Z Z<|Q2<|Q1<|Q3<|Q0<|DU Z Z Z (RO.makeFunc1 Z)<|DX Z Z Z<|Q2<|Q1<|Qp ?_
  have e:=DS h1;subst e
  exact hQ1 _ _ _ (.inr Z) Z (DR (Nat.le_trans hv1 (lb Z)) Z Z Z Z Z)
 refine Qx Z Z (lb Z) (OpOK.callW Z Z Z hc2 Z (hA Z) kZ)<|Q2<|Q1<|Qr<|XC.less (st':=⟨[(5,.v (.one (.ptr 0 0))),(10,.v (.one (.ptr 1 0))),(11,.v (.one (.ptr 2 0))),(12,.v (.one (.ptr 3 0))),(26,.v (.one (.fn 106 [(4,0)])))],m27_h2 a0 a1 a2 a3 a4,[],5,45,[]⟩) (DR (Nat.zero_le _) Z Z Z Z Z) ?_
 refine Qq h0 (fun y6 h1 h0=>?_)
 have hc5:CallM Tryz.prog 106 [.one (.yld 6),.one (.ptr 4 0)] ⟨[(6,.loop .ready none [(5,.v (.one (.ptr 0 0))),(10,.v (.one (.ptr 1 0))),(11,.v (.one (.ptr 2 0))),(12,.v (.one (.ptr 3 0))),(26,.v (.one (.fn 106 [(4,0)])))] 45 #[27,28] Z4 Yj 5),(5,.obj (.deferred (some []))),(0,.cells 25 (cE a0)),(1,.cells 28 [dI 0]),(2,.cells 107 [dI (max a1 0),dI (max a2 0),dI (max a3 0),dI (max a4 0)]),(3,.cells 3 [dI 0]),(4,.cells 25 (cE a0))],[],7⟩ (Qu []) ⟨(((Sum.elim (fun (y3:Int)=>(⟨[],Gg a0 a1 a2 a3 a4 y3,[],13,10,[]⟩:St)) (fun (y4:Int×Int)=>(⟨[],KS a0 y4 a1 a2 a3 a4,[],13,10,[]⟩:St)))) y6).hp,(((Sum.elim (fun (y3:Int)=>(⟨[],Gg a0 a1 a2 a3 a4 y3,[],13,10,[]⟩:St)) (fun (y4:Int×Int)=>(⟨[],KS a0 y4 a1 a2 a3 a4,[],13,10,[]⟩:St)))) y6).tk,(((Sum.elim (fun (y3:Int)=>(⟨[],Gg a0 a1 a2 a3 a4 y3,[],13,10,[]⟩:St)) (fun (y4:Int×Int)=>(⟨[],KS a0 y4 a1 a2 a3 a4,[],13,10,[]⟩:St)))) y6).nx⟩:=by
  refine CallM.of_bodyS y6 ((Sum.elim (fun (y3:Int)=>(⟨[],Gg a0 a1 a2 a3 a4 y3,[],13,10,[]⟩:St)) (fun (y4:Int×Int)=>(⟨[],KS a0 y4 a1 a2 a3 a4,[],13,10,[]⟩:St)))) rfl rfl en_106 (lb rfl) (fun z_=>by cases z_ <;> rfl) (fun z_=>.nil) (fun w0 M V0 Q hv1 hQ1=>?_)
  simp only [QY]
  refine Q3<|Q0<|Qx Z Z (lb Z) (J9 Z)<|Q2<|Q1<|Q3<|Q0 ?_
  refine Qq h1 (fun y7 h2 h1=>?_)
  have hc8:CallM Tryz.prog 107 [] ⟨m27_h8 a0 a1 a2 a3 a4,[],8⟩ (Qu [.agg [dB true,dB false,dI 0,dI 0,dI (-1),dB false,dB false,dI 0,dI 0,dI (-1),dB false,dB false,dI 1,dI 0,dI (-1),dB false,dB true,dI (-1),dI 0,dI (-1),dB false,dB false,dI 0,dI 2,dI (-1),dB false,dB false,dI 0,dI 2,dI 1,dB false,dB false,dI 0,dI 2,dI 1,dB false,dB false,dI 0,dI 2,dI 1,dB false,dB false,dI 0,dI 3,dI (-1),dB false,dB false,dI 0,dI 1,dI (-1),dB false,dB false,dI 0,dI 1,dI (-1),dB false,dB false,dI 0,dI 3,dI 2,dB true,dB false,dI 0,dI 0,dI (-1)]]) ⟨m27_h10 a0 a1 a2 a3 a4,[],9⟩:=by
   refine Jt ⟨[(0,.v (.one (.ptr 8 0)))],m27_h10 a0 a1 a2 a3 a4,[],9,15,[]⟩ Z Z en_107 (lb Z) Z (RAs.agg Ws Z Z Z Z .nil) (fun w0 M V0 Q hv2 hQ2=>?_)
   simp only [QY]
   refine Q3<|Q0<|Qx Z Z (lb Z) (QW z_156 Z)<|Q2<|Q1<|Q3<|Q0<|DU Z Z Z (QR Jo Z Z Z Z)<|DU Z Z Z (RO.build1 Jo Z Z Z)<|DU Z Z Z (QR Jo Z Z Z Z)<|DU Z Z Z (RO.build3 Jo Z Z Z Z Z)<|DU Z Z Z (QR Jo Z Z Z Z)<|DU Z Z Z (QR Jo Z Z Z Z)<|DU Z Z Z (QR Jo Z Z Z Z) ?_
   refine DU Z Z Z (QR Jo Z Z Z Z)<|DU Z Z Z (QR Jo Z Z Z Z)<|DU Z Z Z (QR Jo Z Z Z Z)<|DU Z Z Z (QR Jo Z Z Z Z)<|DU Z Z Z (QR Jo Z Z Z Z)<|DU Z Z Z (QR Jo Z Z Z Z)<|DU Z Z Z (RO.buildN bd_156 Z (.cons Z (.cons Z (.cons Z (.cons Z (.cons Z (.cons Z (.cons Z (.cons Z (.cons Z (.cons Z (.cons Z (.cons Z (.cons Z .nil))))))))))))) Z)<|Y1 Z Z (OpOK.storeAll Ws Z Z Z Z Z Z)<|Q2<|Q1<|Qp ?_
   have e:=DS h2;subst e
   exact hQ2 _ _ _ (.inr Z) Z (DR (Nat.le_trans hv2 (lb Z)) Z Z Z Z Z)
  refine Qx Z Z (lb Z) (OpOK.callW Z Z Z hc8 Z (hA Z) kZ)<|Qx Z Z (lb Z) (QW z_156 Z)<|Y1 Z Z (OpOK.storeAll Ws Z Z Z Z Z Z)<|Q2<|Q1<|Q3<|Q0<|Qx Z Z (lb Z) (QW z_26 Z)<|Q2<|Q1<|Q3<|Q0<|DU Z Z Z (RO.makeFunc3 Z Z Z)<|Y1 Z Z (JH ag_26 Z Z Z Z (lb Z) Z) ?_
  refine Q2<|Q1<|Q0<|DU Z Z Z (Q7 ag_26 Z Z Z)<|DU Z Z Z (J0 (a0:Tm) YT Z Z) ?_
  refine Qq h1 (fun x9 hx9 h1=>?_)
  refine sumE id hx9 h1 (fun x10 hx10 h1=>?_) (fun x11 hx11 h1=>?_)
  refine Qx Z Z (lb Z) (YK (hp1':=[(7,.cells 153 [.yld 6]),(6,.loop .done (some .ret) [(5,.v (.one (.ptr 0 0))),(10,.v (.one (.ptr 1 0))),(11,.v (.one (.ptr 2 0))),(12,.v (.one (.ptr 3 0))),(26,.v (.one (.fn 106 [(4,0)])))] 45 #[27,28] Z4 Yj 5),(5,.obj (.deferred (some []))),(0,.cells 25 (cE a0)),(1,.cells 28 [dI x10.1]),(2,.cells 107 [dI ((⟨(max a1 0),(max a2 0),(max a3 0),(max a4 0)⟩:Scp).vars),dI ((⟨(max a1 0),(max a2 0),(max a3 0),(max a4 0)⟩:Scp).params),dI ((⟨(max a1 0),(max a2 0),(max a3 0),(max a4 0)⟩:Scp).metas),dI ((⟨(max a1 0),(max a2 0),(max a3 0),(max a4 0)⟩:Scp).levels)]),(3,.cells 3 [dI x10.2]),(4,.cells 25 (cE a0)),(9,.cells 156 [dB true,dB false,dI 0,dI 0,dI (-1),dB false,dB false,dI 0,dI 0,dI (-1),dB false,dB false,dI 1,dI 0,dI (-1),dB false,dB true,dI (-1),dI 0,dI (-1),dB false,dB false,dI 0,dI 2,dI (-1),dB false,dB false,dI 0,dI 2,dI 1,dB false,dB false,dI 0,dI 2,dI 1,dB false,dB false,dI 0,dI 2,dI 1,dB false,dB false,dI 0,dI 3,dI (-1),dB false,dB false,dI 0,dI 1,dI (-1),dB false,dB false,dI 0,dI 1,dI (-1),dB false,dB false,dI 0,dI 3,dI 2,dB true,dB false,dI 0,dI 0,dI (-1)]),(10,.cells 26 [.fn 108 [(7,0),(9,0),(10,0)]])]) (tk1':=[]) (hpF:=[(8,m27_h9)]) (tkF:=[]) (res2:=Qu [.one (dB false)]) (nx2:=13) [7,6,5,0,1,2,3,4,9,10] Z Z (CallE.m (m108f3_ok a0 0 a0 0 (⟨(max a1 0),(max a2 0),(max a3 0),(max a4 0)⟩:Scp) 0 a0 (.inl x10) hx10)) Z Z (DZ Z Z (DZ Z Z (DZ Z Z (DZ Z Z (DZ Z Z (DZ Z Z (DZ Z Z (DZ Z Z (DZ Z Z (DZ Z Z DY)))))))))) Z Z (gR Z (gR Z (gR Z (gR Z (gR Z (gR Z (gR Z (gR Z (gR Z (gR Z gZ)))))))))) jZ (hA Z) kZ Z Z Z Z Z (bA Z) Z Z Z Z)<|Q2 ?_
  have e:=DS h1;subst e
  exact hQ1 _ _ _ (.inl Z) Z (show StLe _ _ ⟨[],KS a0 x10 a1 a2 a3 a4,[],13,10,[]⟩ from (DR (Nat.le_trans hv1 (lb Z)) Z Z Z Z Z))
  refine Qx Z Z (lb Z) (YK (hp1':=[(7,.cells 153 [.yld 6]),(6,.loop .ready none [(5,.v (.one (.ptr 0 0))),(10,.v (.one (.ptr 1 0))),(11,.v (.one (.ptr 2 0))),(12,.v (.one (.ptr 3 0))),(26,.v (.one (.fn 106 [(4,0)])))] 45 #[27,28] Z4 Yj 5),(5,.obj (.deferred (some []))),(0,.cells 25 (cE a0)),(1,.cells 28 [dI 0]),(2,.cells 107 [dI ((⟨(max a1 0),(max a2 0),(max a3 0),(max a4 0)⟩:Scp).vars),dI ((⟨(max a1 0),(max a2 0),(max a3 0),(max a4 0)⟩:Scp).params),dI ((⟨(max a1 0),(max a2 0),(max a3 0),(max a4 0)⟩:Scp).metas),dI ((⟨(max a1 0),(max a2 0),(max a3 0),(max a4 0)⟩:Scp).levels)]),(3,.cells 3 [dI x11.2]),(4,.cells 25 (cE a0)),(9,.cells 156 [dB true,dB false,dI 0,dI 0,dI (-1),dB false,dB false,dI 0,dI 0,dI (-1),dB false,dB false,dI 1,dI 0,dI (-1),dB false,dB true,dI (-1),dI 0,dI (-1),dB false,dB false,dI 0,dI 2,dI (-1),dB false,dB false,dI 0,dI 2,dI 1,dB false,dB false,dI 0,dI 2,dI 1,dB false,dB false,dI 0,dI 2,dI 1,dB false,dB false,dI 0,dI 3,dI (-1),dB false,dB false,dI 0,dI 1,dI (-1),dB false,dB false,dI 0,dI 1,dI (-1),dB false,dB false,dI 0,dI 3,dI 2,dB true,dB false,dI 0,dI 0,dI (-1)]),(10,.cells 26 [.fn 108 [(7,0),(9,0),(10,0)]])]) (tk1':=[]) (hpF:=[(8,m27_h9)]) (tkF:=[]) (res2:=Qu [.one (dB x11.1)]) (nx2:=13) [7,6,5,0,1,2,3,4,9,10] Z Z (CallE.m (m108f3_ok a0 0 a0 0 (⟨(max a1 0),(max a2 0),(max a3 0),(max a4 0)⟩:Scp) 0 a0 (.inr x11) hx11)) Z Z (DZ Z Z (DZ Z Z (DZ Z Z (DZ Z Z (DZ Z Z (DZ Z Z (DZ Z Z (DZ Z Z (DZ Z Z (DZ Z Z DY)))))))))) Z Z (gR Z (gR Z (gR Z (gR Z (gR Z (gR Z (gR Z (gR Z (gR Z (gR Z gZ)))))))))) jZ (hA Z) kZ Z Z Z Z Z (bA Z) Z Z Z Z)<|Q2 ?_
  have e:=DS h1;subst e
  exact hQ1 _ _ _ (.inl Z) Z (show StLe _ _ ⟨[],m27_h11 a0 a1 a2 a3 a4 x11,[],13,10,[]⟩ from (DR (Nat.le_trans hv1 (lb Z)) Z Z Z Z Z))
 refine sumK (C:=fun q_=>CallM Tryz.prog 106 [.one (.yld 6),.one (.ptr 4 0)] ⟨[(6,.loop .ready none [(5,.v (.one (.ptr 0 0))),(10,.v (.one (.ptr 1 0))),(11,.v (.one (.ptr 2 0))),(12,.v (.one (.ptr 3 0))),(26,.v (.one (.fn 106 [(4,0)])))] 45 #[27,28] Z4 Yj 5),(5,.obj (.deferred (some []))),(0,.cells 25 (cE a0)),(1,.cells 28 [dI 0]),(2,.cells 107 [dI (max a1 0),dI (max a2 0),dI (max a3 0),dI (max a4 0)]),(3,.cells 3 [dI 0]),(4,.cells 25 (cE a0))],[],7⟩ (Qu []) ⟨(((Sum.elim (fun (y3:Int)=>(⟨[],Gg a0 a1 a2 a3 a4 y3,[],13,10,[]⟩:St)) (fun (y4:Int×Int)=>(⟨[],KS a0 y4 a1 a2 a3 a4,[],13,10,[]⟩:St)))) q_).hp,(((Sum.elim (fun (y3:Int)=>(⟨[],Gg a0 a1 a2 a3 a4 y3,[],13,10,[]⟩:St)) (fun (y4:Int×Int)=>(⟨[],KS a0 y4 a1 a2 a3 a4,[],13,10,[]⟩:St)))) q_).tk,(((Sum.elim (fun (y3:Int)=>(⟨[],Gg a0 a1 a2 a3 a4 y3,[],13,10,[]⟩:St)) (fun (y4:Int×Int)=>(⟨[],KS a0 y4 a1 a2 a3 a4,[],13,10,[]⟩:St)))) q_).nx⟩) hc5 h0 (fun y3 hc5 h0=>?_) (fun y4 hc5 h0=>?_)
 replace hc5:CallM Tryz.prog 106 [.one (.yld 6),.one (.ptr 4 0)] ⟨[(6,.loop .ready none [(5,.v (.one (.ptr 0 0))),(10,.v (.one (.ptr 1 0))),(11,.v (.one (.ptr 2 0))),(12,.v (.one (.ptr 3 0))),(26,.v (.one (.fn 106 [(4,0)])))] 45 #[27,28] Z4 Yj 5),(5,.obj (.deferred (some []))),(0,.cells 25 (cE a0)),(1,.cells 28 [dI 0]),(2,.cells 107 [dI (max a1 0),dI (max a2 0),dI (max a3 0),dI (max a4 0)]),(3,.cells 3 [dI 0]),(4,.cells 25 (cE a0))],[],7⟩ (Qu []) ⟨Gg a0 a1 a2 a3 a4 y3,[],13⟩:=hc5
 refine XC.exec (rangeFunc_out (e:=.normal) rfl hc5 rfl rfl (by intro h;cases h) rfl) rfl ?_
 refine Qy<|Q1<|Q3<|Qr<|Q3<|Q0<|DU Z Z Z (Q7 QL Z Z Z)<|DU Z Z Z (Q4 Z Z Z)<|DX Z Z Z<|Q2<|Q1 ?_
 refine Qh (b:=(decide (4096 < y3))) Z (fun c12=>?_) (fun c12=>?_)
 replace h0:=Qe c12 h0
 refine Q3<|Q0<|Y1 Z Z (JH XN Z Z Z Z (lb Z) Z)<|Q2<|Q1<|Qp ?_
 have e:=DS h0;subst e
 exact Qk (fun _ _ h=>h) Z (Gu XN Z Z Z .nil) (.cons (.one (.d _)) .nil)
 replace h0:=Qf c12 h0
 refine Q3<|Q0<|DU Z Z Z (J0 (a0:Tm) YT Z Z) ?_
 refine Qq h0 (fun x13 hx13 h0=>?_)
 refine Qx Z Z (lb Z) (Qz (m60_ok a0 x13 hx13) Z (.cons (.agg (.cons (.d _) (.cons (.d _) (.cons (.d _) (.cons (.d _) (.cons (.d _) .nil)))))) .nil))<|DU Z Z Z (Q4 Z Z Z)<|DX Z Z Z<|Q2<|Q1 ?_
 refine Qh (b:=(decide (200 < x13))) Z (fun c14=>?_) (fun c14=>?_)
 replace h0:=Qe c14 h0
 refine Q3<|Q0<|Y1 Z Z (JH XN Z Z Z Z (lb Z) Z)<|Q2<|Q1<|Qp ?_
 have e:=DS h0;subst e
 exact Qk (fun _ _ h=>h) Z (Gu XN Z Z Z .nil) (.cons (.one (.d _)) .nil)
 replace h0:=Qf c14 h0
 refine Qi<|Qy<|Q1<|Q3<|Q0<|Y1 Z Z (JH XN Z Z Z Z (lb Z) Z)<|Q2<|Q1<|Qp ?_
 have e:=DS h0;subst e
 exact Qk (fun _ _ h=>h) Z (Gu XN Z Z Z .nil) (.cons (.one (.d _)) .nil)
 replace hc5:CallM Tryz.prog 106 [.one (.yld 6),.one (.ptr 4 0)] ⟨[(6,.loop .ready none [(5,.v (.one (.ptr 0 0))),(10,.v (.one (.ptr 1 0))),(11,.v (.one (.ptr 2 0))),(12,.v (.one (.ptr 3 0))),(26,.v (.one (.fn 106 [(4,0)])))] 45 #[27,28] Z4 Yj 5),(5,.obj (.deferred (some []))),(0,.cells 25 (cE a0)),(1,.cells 28 [dI 0]),(2,.cells 107 [dI (max a1 0),dI (max a2 0),dI (max a3 0),dI (max a4 0)]),(3,.cells 3 [dI 0]),(4,.cells 25 (cE a0))],[],7⟩ (Qu []) ⟨KS a0 y4 a1 a2 a3 a4,[],13⟩:=hc5
 refine XC.exec (rangeFunc_out (e:=.ret) rfl hc5 rfl rfl (by intro h;cases h) rfl) rfl ?_
 have e:=DS h0;subst e
 exact Qk (fun _ _ h=>h) Z (Gu XN Z Z Z .nil) (.cons (.one (.d _)) .nil)
noncomputable def k136:KF UV:=⟨[.stc .t82],[.bool],fun v=>Ub v⟩
theorem k136_ok:Ya DV W0 Tryz.prog 136 k136:=⟨rfl,fun v r h=>Xk (Eq.mp (show _=Fun Tryz.prog 136 (QO DV k136.args v) (Qu (QO DV k136.res r)) from by kernel_rfl) (m136_ok v r h))⟩
noncomputable def k110:KF UV:=⟨[.str],[.bool],fun v=>Uf v⟩
theorem k110_ok:Ya DV W0 Tryz.prog 110 k110:=⟨rfl,fun v r h=>Xk (Eq.mp (show _=Fun Tryz.prog 110 (QO DV k110.args v) (Qu (QO DV k110.res r)) from by kernel_rfl) (m110_ok v r h))⟩
noncomputable def k27:KF UV:=⟨[.stc .t25,.int .i64,.int .i64,.int .i64,.int .i64],[.int .i64],fun v=>Dx (v.1) (v.2.1) (v.2.2.1) (v.2.2.2.1) (v.2.2.2.2)⟩
theorem k27_ok:Ya DV W0 Tryz.prog 27 k27:=⟨rfl,fun v r h=>Xk (Eq.mp (show _=Fun Tryz.prog 27 (QO DV k27.args v) (Qu (QO DV k27.res r)) from by kernel_rfl) (m27_ok (v.1) (v.2.1) (v.2.2.1) (v.2.2.2.1) (v.2.2.2.2) r h))⟩
end Go.Proofs.YtjcfppnjamjjhaaGreatDoor
namespace Go.Proofs.YtjcfppnjamjjhaaGreatDoor
open Go.RowKit Go.Shelf
theorem en_31:Qg Tryz.prog 31:=enters_of Tryz.func31 (by kernel_rfl) rfl
theorem en_65:Qg Tryz.prog 65:=enters_of Tryz.func65 (by kernel_rfl) rfl
theorem en_66:Qg Tryz.prog 66:=enters_of Tryz.func66 (by kernel_rfl) rfl
theorem en_67:Qg Tryz.prog 67:=enters_of Tryz.func67 (by kernel_rfl) rfl
theorem en_98:Qg Tryz.prog 98:=enters_of Tryz.func98 (by kernel_rfl) rfl
theorem en_115:Qg Tryz.prog 115:=enters_of Tryz.func115 (by kernel_rfl) rfl
theorem en_116:Qg Tryz.prog 116:=enters_of Tryz.func116 (by kernel_rfl) rfl
theorem en_117:Qg Tryz.prog 117:=enters_of Tryz.func117 (by kernel_rfl) rfl
theorem en_118:Qg Tryz.prog 118:=enters_of Tryz.func118 (by kernel_rfl) rfl
theorem en_133:Qg Tryz.prog 133:=enters_of Tryz.func133 (by kernel_rfl) rfl
theorem en_142:Qg Tryz.prog 142:=enters_of Tryz.func142 (by kernel_rfl) rfl
def Da (a0:Byt):Option Bool :=
 Option.bind (cond (decide (97≤a0.n))
   (cond (decide (a0.n≤122))
   (some true)
   (cond (decide (65≤a0.n))
   (cond (decide (a0.n≤90))
   (some true)
   (some (a0.n==95)))
   (some (a0.n==95))))
   (cond (decide (65≤a0.n))
   (cond (decide (a0.n≤90))
   (some true)
   (some (a0.n==95)))
   (some (a0.n==95)))) (fun (v1:Bool)=>some v1)
theorem m133_ok (a0:Byt) (r:Bool) (h0:Da a0=some r):Fun Tryz.prog 133 [.one (.d (.v (.int .u8 a0.n)))] (Qu [.one (dB r)]):=by
 unfold Da at h0
 refine QF 9 21 Tryz.func133 Z en_133 Z (lb Z) (fun S w=>?_)
 simp only [QY]
 refine Q3<|Q0<|DX Z Z Z<|Q2<|Q1<|Q3 ?_
 refine QE (fun (v1:Bool)=>⟨[(2,.v (.one (dB v1)))],[],[],0,21,[]⟩) (fun (v1:Bool)=>(some v1)=some r) ?_ ?_
 refine Qq h0 (fun w1_ h1 h0=>?_)
 refine Q0<|DW Z Z Z<|DU Z Z Z (Q4 Z Z Z)<|DW Z Z Z ?_
 refine Qn (d:=5) (c:=(decide (97≤a0.n))) Z (fun c2=>?_) (fun c2=>?_)
 replace h1:=Qe c2 h1
 refine DW Z Z Z<|DU Z Z Z (Q4 Z Z Z)<|DU Z Z Z (Qb Z Z)<|DW Z Z Z ?_
 refine Qn (d:=9) (c:=(decide (a0.n≤122))) Z (fun c3=>?_) (fun c3=>?_)
 replace h1:=Qe c3 h1
 refine Q6 Z Z<|Q6 Z Z<|Q6 Z Z<|Q6 Z Z<|Q6 Z Z<|Q6 Z Z<|DU Z Z Z (Qb Z Z)<|DW Z Z Z<|Q6 Z Z<|Q6 Z Z<|DU Z Z Z (Qb Z Z)<|DX Z Z Z<|Q2 ?_
 have e:=DS h1;subst e
 exact Qa true (DR (Nat.zero_le _) Z Z Z Z Z) h0
 replace h1:=Qf c3 h1
 refine DW Z Z Z<|DU Z Z Z (Q4 Z Z Z)<|DW Z Z Z ?_
 refine Qn (d:=12) (c:=(decide (65≤a0.n))) Z (fun c4=>?_) (fun c4=>?_)
 replace h1:=Qe c4 h1
 refine DW Z Z Z<|DU Z Z Z (Q4 Z Z Z)<|DU Z Z Z (Qb Z Z)<|DU Z Z Z (Qc Z Z)<|DW Z Z Z ?_
 refine Qn (d:=17) (c:=(decide (a0.n≤90))) Z (fun c5=>?_) (fun c5=>?_)
 replace h1:=Qe c5 h1
 refine Q6 Z Z<|Q6 Z Z<|DU Z Z Z (Qb Z Z)<|DX Z Z Z<|Q2 ?_
 have e:=DS h1;subst e
 exact Qa true (DR (Nat.zero_le _) Z Z Z Z Z) h0
 replace h1:=Qf c5 h1
 refine DW Z Z Z<|DU Z Z Z (Q4 Z Z Z)<|DU Z Z Z (Qc Z Z)<|DX Z Z Z<|Q2 ?_
 have e:=DS h1;subst e
 exact Qa (a0.n==95) (DR (Nat.zero_le _) Z Z Z Z Z) h0
 replace h1:=Qf c4 h1
 refine Q6 Z Z<|Q6 Z Z<|DU Z Z Z (Qc Z Z)<|DU Z Z Z (Qc Z Z)<|DW Z Z Z<|DW Z Z Z<|DU Z Z Z (Q4 Z Z Z)<|DU Z Z Z (Qc Z Z)<|DX Z Z Z<|Q2 ?_
 have e:=DS h1;subst e
 exact Qa (a0.n==95) (DR (Nat.zero_le _) Z Z Z Z Z) h0
 replace h1:=Qf c2 h1
 refine Q6 Z Z<|Q6 Z Z<|DU Z Z Z (Qc Z Z)<|DW Z Z Z<|DW Z Z Z<|DU Z Z Z (Q4 Z Z Z)<|DW Z Z Z ?_
 refine Qn (d:=12) (c:=(decide (65≤a0.n))) Z (fun c6=>?_) (fun c6=>?_)
 replace h1:=Qe c6 h1
 refine DW Z Z Z<|DU Z Z Z (Q4 Z Z Z)<|DU Z Z Z (Qb Z Z)<|DU Z Z Z (Qc Z Z)<|DW Z Z Z ?_
 refine Qn (d:=17) (c:=(decide (a0.n≤90))) Z (fun c7=>?_) (fun c7=>?_)
 replace h1:=Qe c7 h1
 refine Q6 Z Z<|Q6 Z Z<|DU Z Z Z (Qb Z Z)<|DX Z Z Z<|Q2 ?_
 have e:=DS h1;subst e
 exact Qa true (DR (Nat.zero_le _) Z Z Z Z Z) h0
 replace h1:=Qf c7 h1
 refine DW Z Z Z<|DU Z Z Z (Q4 Z Z Z)<|DU Z Z Z (Qc Z Z)<|DX Z Z Z<|Q2 ?_
 have e:=DS h1;subst e
 exact Qa (a0.n==95) (DR (Nat.zero_le _) Z Z Z Z Z) h0
 replace h1:=Qf c6 h1
 refine Q6 Z Z<|Q6 Z Z<|DU Z Z Z (Qc Z Z)<|DU Z Z Z (Qc Z Z)<|DW Z Z Z<|DW Z Z Z<|DU Z Z Z (Q4 Z Z Z)<|DU Z Z Z (Qc Z Z)<|DX Z Z Z<|Q2 ?_
 have e:=DS h1;subst e
 exact Qa (a0.n==95) (DR (Nat.zero_le _) Z Z Z Z Z) h0
 intro v1 h0
 refine Q1<|Qp ?_
 have e:=DS h0;subst e
 exact Qk (fun _ _ h=>h) Z (Qj Z .nil) (.cons (.one (.d _)) .nil)
def Gf (a0:Bs) (s1:Bool×Int):Option (LO (Bool×Int) (Bool⊕Bool)) :=
 cond (decide (s1.2 < (a0.length:Int)))
   (Option.bind (Jy a0 s1.2) fun (x5:UInt8) =>
 cond s1.1
   (Option.bind (Da (⟨(x5.toNat:Int)⟩:Byt)) fun (x7:Bool) =>
 cond (!x7)
   (some (.done (.inr false)))
   (some (.next (false,(QG (s1.2+1))))))
   (cond ((x5.toNat:Int)==46)
   (some (.next (true,(QG (s1.2+1)))))
   (Option.bind (Option.bind (Da (⟨(x5.toNat:Int)⟩:Byt)) fun (x11:Bool) =>
 cond (!x11)
   (cond ((x5.toNat:Int) != 39)
   (cond (decide ((x5.toNat:Int) < 48))
   (some true)
   (some (decide (57 < (x5.toNat:Int)))))
   (some false))
   (some false)) (fun (v10:Bool)=>cond v10
   (some (.done (.inr false)))
   (some (.next (s1.1,(QG (s1.2+1)))))))))
   (some (.done (.inl s1.1)))
def DE (a0:Bs):Option Bool :=
 Option.bind (cond (a0==([]:List UInt8))
   (some true)
   (some (decide (64 < (a0.length:Int))))) (fun (v1:Bool)=>cond v1
   (some false)
   (Option.bind (Qo (Gf a0) Qt (true,0)) (Sum.elim (fun (o3:Bool)=>some (!o3)) (fun o=>some o))))
theorem m98_ok (a0:Bs) (r:Bool) (h0:DE a0=some r):Fun Tryz.prog 98 [.one (Do a0)] (Qu [.one (dB r)]):=by
 unfold DE at h0
 refine QF 9 45 Tryz.func98 Z en_98 Z (lb Z) (fun S w=>?_)
 simp only [QY]
 refine Q3<|Q0<|DX Z Z Z<|Q2<|Q1<|Q3<|Q3 ?_
 refine QE (fun (v1:Bool)=>⟨[(0,.v (.one (Do a0))),(12,.v (.one (dB v1)))],[],[],0,45,[]⟩) (fun (v1:Bool)=>(cond v1
     (some false)
     (Option.bind (Qo (Gf a0) Qt (true,0)) (Sum.elim (fun (o3:Bool)=>some (!o3)) (fun o=>some o))))=some r) ?_ ?_
 refine Qq h0 (fun w1_ h1 h0=>?_)
 refine Q0<|DW Z Z Z<|DU Z Z Z (RO.eqS Z Z)<|DW Z Z Z ?_
 refine Qn (d:=8) (c:=(a0==([]:List UInt8))) Z (fun c2=>?_) (fun c2=>?_)
 replace h1:=Qe c2 h1
 refine Q6 Z Z<|Q6 Z Z<|Q6 Z Z<|DU Z Z Z (Qb Z Z)<|Q2 ?_
 have e:=DS h1;subst e
 exact Qa true (DR (Nat.zero_le _) Z Z Z Z Z) h0
 replace h1:=Qf c2 h1
 refine DW Z Z Z<|DU Z Z Z (Xj UJ Z)<|DU Z Z Z (Q4 Z Z Z)<|DU Z Z Z (Qc Z Z)<|Q2 ?_
 have e:=DS h1;subst e
 exact Qa (decide (64 < (a0.length:Int))) (DR (Nat.zero_le _) Z Z Z Z Z) h0
 intro v1 h0
 refine Q1 ?_
 refine Qh (b:=v1) Z (fun c3=>?_) (fun c3=>?_)
 replace h0:=Qe c3 h0
 refine Q3<|Q0<|DX Z Z Z<|Q2<|Q1<|Qp ?_
 have e:=DS h0;subst e
 exact Qk (fun _ _ h=>h) Z (Qj Z .nil) (.cons (.one (.d _)) .nil)
 replace h0:=Qf c3 h0
 refine Qi<|Q1<|Q3<|Q0<|DX Z Z Z<|Q2<|Q1<|Q3<|Q3<|Q0<|DX Z Z Z<|Q2<|Q1<|Qr ?_
 refine Jr 0 (fun (o4:Bool)=>⟨[(3,.v (.one (dB o4)))],[],[],0,45,[]⟩) (fun (o4:Bool)=>(some (!o4))=some r) ?_ ?_
 refine Qq h0 (fun o5 hl1 h0=>?_)
 refine Jq (Gf a0) (fun s1=>⟨[(0,.v (.one (Do a0))),(3,.v (.one (dB s1.1))),(4,.v (.one (dI s1.2)))],[],[],0,45,[]⟩) (true,0) o5 (DR (Nat.zero_le _) Z Z Z Z Z) hl1 (fun s1 n1 oo1 h1 ho1=>?_)
 unfold Gf at h1
 refine Q3<|Q3<|Q0<|DW Z Z Z<|DW Z Z Z<|DU Z Z Z (Xj UJ Z)<|DU Z Z Z (Q4 Z Z Z)<|Q2<|Q1 ?_
 refine Qh (b:=(decide (s1.2 < (a0.length:Int)))) Z (fun c6=>?_) (fun c6=>?_)
 replace h1:=Qe c6 h1
 refine Qi<|Q1<|Q3<|Qr<|Q3<|Q0<|DW Z Z Z<|DW Z Z Z ?_
 refine Qq h1 (fun x7 hx7 h1=>?_)
 refine DU Z Z Z (RO.ixS UJ Z Z hx7)<|DX Z Z Z<|Q2<|Q1<|Q3<|Q3<|Q0<|DW Z Z Z<|Q2<|Q1 ?_
 refine Qh (b:=s1.1) Z (fun c8=>?_) (fun c8=>?_)
 replace h1:=Qe c8 h1
 refine Q3<|Q3<|Q0<|DW Z Z Z ?_
 refine Qq h1 (fun x9 hx9 h1=>?_)
 refine Qx Z Z (lb Z) (Qz (m133_ok (⟨(x7.toNat:Int)⟩:Byt) x9 hx9) Z (.cons (.one (.d _)) .nil))<|DU Z Z Z (YI Z)<|Q2<|Q1 ?_
 refine Qh (b:=(!x9)) Z (fun c10=>?_) (fun c10=>?_)
 replace h1:=Qe c10 h1
 refine Q3<|Q0<|DX Z Z Z<|Q2<|Q1<|Qp ?_
 have e:=DS h1;subst e
 have e_:_=_:=ho1
 subst e_
 try dsimp only [Sum.elim_inl,Sum.elim_inr] at h0
 have e:=DS h0;subst e
 exact Qk (fun _ _ h=>h) Z (Qj Z .nil) (.cons (.one (.d _)) .nil)
 replace h1:=Qf c10 h1
 refine Qi<|Q1<|Q3<|Q0<|DX Z Z Z<|Q2<|Q1<|Jw<|QC<|QZ<|Q1<|Q0<|DW Z Z Z<|DU Z Z Z (Q4 Z Z Z) ?_
 refine DX Z Z Z<|Q2 ?_
 have e:=DS h1;subst e
 refine J6 (false,(QG (s1.2+1))) (DR (Nat.zero_le _) Z Z Z Z Z) ho1
 replace h1:=Qf c8 h1
 refine Qi<|Q1<|Q3<|Q3<|Q0<|DW Z Z Z<|DU Z Z Z (Q4 Z Z Z)<|Q2<|Q1 ?_
 refine Qh (b:=((x7.toNat:Int)==46)) Z (fun c11=>?_) (fun c11=>?_)
 replace h1:=Qe c11 h1
 refine Q3<|Q0<|DX Z Z Z<|Q2<|Q1<|Jw<|QC<|QZ<|Q1<|Q0<|DW Z Z Z<|DU Z Z Z (Q4 Z Z Z)<|DX Z Z Z<|Q2 ?_
 have e:=DS h1;subst e
 refine J6 (true,(QG (s1.2+1))) (DR (Nat.zero_le _) Z Z Z Z Z) ho1
 replace h1:=Qf c11 h1
 refine Qi<|Q1<|Q3 ?_
 refine QE (fun (v12:Bool)=>⟨[(0,.v (.one (Do a0))),(3,.v (.one (dB s1.1))),(4,.v (.one (dI s1.2))),(42,.v (.one (dB v12)))],[],[],0,45,[]⟩) (fun (v12:Bool)=>(cond v12
     (some (.done (.inr false)))
     (some (.next (s1.1,(QG (s1.2+1))))))=some oo1) ?_ ?_
 refine Qq h1 (fun w2_ h2 h1=>?_)
 refine Q0<|DW Z Z Z ?_
 refine Qq h2 (fun x13 hx13 h2=>?_)
 refine Qx Z Z (lb Z) (Qz (m133_ok (⟨(x7.toNat:Int)⟩:Byt) x13 hx13) Z (.cons (.one (.d _)) .nil))<|DU Z Z Z (YI Z)<|DW Z Z Z ?_
 refine Qn (d:=31) (c:=(!x13)) Z (fun c14=>?_) (fun c14=>?_)
 replace h2:=Qe c14 h2
 refine DW Z Z Z<|DU Z Z Z (Q4 Z Z Z)<|DU Z Z Z (Qb Z Z)<|DW Z Z Z ?_
 refine Qn (d:=35) (c:=((x7.toNat:Int) != 39)) Z (fun c15=>?_) (fun c15=>?_)
 replace h2:=Qe c15 h2
 refine DW Z Z Z<|DU Z Z Z (Q4 Z Z Z)<|DW Z Z Z ?_
 refine Qn (d:=38) (c:=(decide ((x7.toNat:Int) < 48))) Z (fun c16=>?_) (fun c16=>?_)
 replace h2:=Qe c16 h2
 refine Q6 Z Z<|Q6 Z Z<|DU Z Z Z (Qb Z Z)<|DU Z Z Z (Qb Z Z)<|Q2 ?_
 have e:=DS h2;subst e
 exact Qa true (DR (Nat.zero_le _) Z Z Z Z Z) h1
 replace h2:=Qf c16 h2
 refine DW Z Z Z<|DU Z Z Z (Q4 Z Z Z)<|DU Z Z Z (Qc Z Z)<|DU Z Z Z (Qb Z Z)<|Q2 ?_
 have e:=DS h2;subst e
 exact Qa (decide (57 < (x7.toNat:Int))) (DR (Nat.zero_le _) Z Z Z Z Z) h1
 replace h2:=Qf c15 h2
 refine Q6 Z Z<|Q6 Z Z<|Q6 Z Z<|Q6 Z Z<|Q6 Z Z<|Q6 Z Z<|DU Z Z Z (Qc Z Z)<|Q2 ?_
 have e:=DS h2;subst e
 exact Qa false (DR (Nat.zero_le _) Z Z Z Z Z) h1
 replace h2:=Qf c14 h2
 refine Q6 Z Z<|Q6 Z Z<|DU Z Z Z (Qc Z Z)<|DW Z Z Z<|Q6 Z Z<|Q6 Z Z<|Q6 Z Z<|Q6 Z Z<|Q6 Z Z<|Q6 Z Z<|DU Z Z Z (Qc Z Z)<|Q2 ?_
 have e:=DS h2;subst e
 exact Qa false (DR (Nat.zero_le _) Z Z Z Z Z) h1
 intro v12 h1
 refine Q1 ?_
 refine Qh (b:=v12) Z (fun c17=>?_) (fun c17=>?_)
 replace h1:=Qe c17 h1
 refine Q3<|Q0<|DX Z Z Z<|Q2<|Q1<|Qp ?_
 have e:=DS h1;subst e
 have e_:_=_:=ho1
 subst e_
 try dsimp only [Sum.elim_inl,Sum.elim_inr] at h0
 have e:=DS h0;subst e
 exact Qk (fun _ _ h=>h) Z (Qj Z .nil) (.cons (.one (.d _)) .nil)
 replace h1:=Qf c17 h1
 refine Qi<|Qy<|Q1<|Q0<|DW Z Z Z<|DU Z Z Z (Q4 Z Z Z)<|DX Z Z Z<|Q2 ?_
 have e:=DS h1;subst e
 refine J6 (s1.1,(QG (s1.2+1))) (DR (Nat.zero_le _) Z Z Z Z Z) ho1
 replace h1:=Qf c6 h1
 refine Jw<|QC<|QC ?_
 have e:=DS h1;subst e
 have e_:_=_:=ho1
 subst e_
 exact Jp s1.1 (DR (Nat.zero_le _) Z Z Z Z Z) h0
 intro o4 h0
 refine QZ<|Q1<|Q3<|Q0<|DW Z Z Z<|DU Z Z Z (YI Z)<|DX Z Z Z<|Q2<|Q1<|Qp ?_
 have e:=DS h0;subst e
 exact Qk (fun _ _ h=>h) Z (Qj Z .nil) (.cons (.one (.d _)) .nil)
def m142_k0 (p0_:Bool) (p1_:Int):Option Int :=
 cond p0_
   (some 2)
   (Option.bind (cond (p1_==8)
   (some (p1_==8))
   (some (p1_==11))) (fun (b0_:Bool)=>cond b0_
   (some 3)
   (cond (p1_==9)
   (cond (p1_==9)
   (some 1)
   (some 0))
   (cond (p1_==10)
   (some 1)
   (some 0)))))
def m142 (a0:Int):Option Int :=
 Option.bind (cond (a0==4)
   (some (a0==4))
   (cond (a0==5)
   (some (a0==5))
   (cond (a0==6)
   (some (a0==6))
   (some (a0==7))))) (fun (v1:Bool)=>m142_k0 v1 a0)
theorem m142_ok (a0:Int) (r:Int) (h0:m142 a0=some r):Fun Tryz.prog 142 [.one (dI a0)] (Qu [.one (dI r)]):=by
 unfold m142 at h0
 refine QF 9 15 Tryz.func142 Z en_142 Z (lb Z) (fun S w=>?_)
 simp only [QY]
 refine Q3<|Q0<|DX Z Z Z<|Q2<|Q1<|Q3<|Q3<|Q0<|DW Z Z Z<|Q2<|Q1<|Qr<|Q3<|Q3 ?_
 refine Q0<|DU Z Z Z (Q4 Z Z Z)<|DX Z Z Z<|Q2<|Q1 ?_
 refine QE (fun (v1:Bool)=>⟨[(3,.v (.one (dI a0))),(4,.v (.one (dB v1)))],[],[],0,15,[]⟩) (fun (v1:Bool)=>(m142_k0 v1 a0)=some r) ?_ ?_
 refine Qq h0 (fun w1_ h1 h0=>?_)
 refine Qh (b:=(a0==4)) Z (fun c2=>?_) (fun c2=>?_)
 replace h1:=Qe c2 h1
 refine Qi ?_
 have e:=DS h1;subst e
 exact Qa (a0==4) (DR (Nat.zero_le _) Z Z Z Z Z) h0
 replace h1:=Qf c2 h1
 refine Q3<|Q0<|DU Z Z Z (Q4 Z Z Z)<|DX Z Z Z<|Q2<|Q1 ?_
 refine Qh (b:=(a0==5)) Z (fun c3=>?_) (fun c3=>?_)
 replace h1:=Qe c3 h1
 refine Qi ?_
 have e:=DS h1;subst e
 exact Qa (a0==5) (DR (Nat.zero_le _) Z Z Z Z Z) h0
 replace h1:=Qf c3 h1
 refine Q3<|Q0<|DU Z Z Z (Q4 Z Z Z)<|DX Z Z Z<|Q2<|Q1 ?_
 refine Qh (b:=(a0==6)) Z (fun c4=>?_) (fun c4=>?_)
 replace h1:=Qe c4 h1
 refine Qi ?_
 have e:=DS h1;subst e
 exact Qa (a0==6) (DR (Nat.zero_le _) Z Z Z Z Z) h0
 replace h1:=Qf c4 h1
 refine Q0<|DU Z Z Z (Q4 Z Z Z)<|DX Z Z Z<|Q2 ?_
 have e:=DS h1;subst e
 exact Qa (a0==7) (DR (Nat.zero_le _) Z Z Z Z Z) h0
 intro v1 h0
 unfold m142_k0 at h0
 refine Q1 ?_
 refine Qh (b:=v1) Z (fun c5=>?_) (fun c5=>?_)
 replace h0:=Qe c5 h0
 refine Q3<|Q0<|DX Z Z Z<|Q2<|Q1<|Qp ?_
 have e:=DS h0;subst e
 exact Qk (fun _ _ h=>h) Z (Qj Z .nil) (.cons (.one (.d _)) .nil)
 replace h0:=Qf c5 h0
 refine Q3<|Q3<|Q0<|DU Z Z Z (Q4 Z Z Z)<|DX Z Z Z<|Q2<|Q1 ?_
 refine QE (fun (v6:Bool)=>⟨[(3,.v (.one (dI a0))),(9,.v (.one (dB v6)))],[],[],0,15,[]⟩) (fun (v6:Bool)=>(cond v6
     (some 3)
     (cond (a0==9)
     (cond (a0==9)
     (some 1)
     (some 0))
     (cond (a0==10)
     (some 1)
     (some 0))))=some r) ?_ ?_
 refine Qq h0 (fun w1_ h1 h0=>?_)
 refine Qh (b:=(a0==8)) Z (fun c7=>?_) (fun c7=>?_)
 replace h1:=Qe c7 h1
 refine Qi ?_
 have e:=DS h1;subst e
 exact Qa (a0==8) (DR (Nat.zero_le _) Z Z Z Z Z) h0
 replace h1:=Qf c7 h1
 refine Q0<|DU Z Z Z (Q4 Z Z Z)<|DX Z Z Z<|Q2 ?_
 have e:=DS h1;subst e
 exact Qa (a0==11) (DR (Nat.zero_le _) Z Z Z Z Z) h0
 intro v6 h0
 refine Q1 ?_
 refine Qh (b:=v6) Z (fun c8=>?_) (fun c8=>?_)
 replace h0:=Qe c8 h0
 refine Q3<|Q0<|DX Z Z Z<|Q2<|Q1<|Qp ?_
 have e:=DS h0;subst e
 exact Qk (fun _ _ h=>h) Z (Qj Z .nil) (.cons (.one (.d _)) .nil)
 replace h0:=Qf c8 h0
 refine Q3<|Q3<|Q0<|DU Z Z Z (Q4 Z Z Z)<|DX Z Z Z<|Q2<|Q1 ?_
 refine Qh (b:=(a0==9)) Z (fun c9=>?_) (fun c9=>?_)
 replace h0:=Qe c9 h0
 refine Qi<|Q1 ?_
 refine Qh (b:=(a0==9)) Z (fun c10=>?_) (fun c10=>?_)
 replace h0:=Qe c10 h0
 refine Q3<|Q0<|DX Z Z Z<|Q2<|Q1<|Qp ?_
 have e:=DS h0;subst e
 exact Qk (fun _ _ h=>h) Z (Qj Z .nil) (.cons (.one (.d _)) .nil)
 replace h0:=Qf c10 h0
 refine Qi<|Qy<|Q1<|Q3<|Q0<|DX Z Z Z<|Q2<|Q1<|Qp ?_
 have e:=DS h0;subst e
 exact Qk (fun _ _ h=>h) Z (Qj Z .nil) (.cons (.one (.d _)) .nil)
 replace h0:=Qf c9 h0
 refine Q0<|DU Z Z Z (Q4 Z Z Z)<|DX Z Z Z<|Q2<|Q1 ?_
 refine Qh (b:=(a0==10)) Z (fun c11=>?_) (fun c11=>?_)
 replace h0:=Qe c11 h0
 refine Q3<|Q0<|DX Z Z Z<|Q2<|Q1<|Qp ?_
 have e:=DS h0;subst e
 exact Qk (fun _ _ h=>h) Z (Qj Z .nil) (.cons (.one (.d _)) .nil)
 replace h0:=Qf c11 h0
 refine Qi<|Qy<|Q1<|Q3<|Q0<|DX Z Z Z<|Q2<|Q1<|Qp ?_
 have e:=DS h0;subst e
 exact Qk (fun _ _ h=>h) Z (Qj Z .nil) (.cons (.one (.d _)) .nil)
def m115_k0 (p0_:Bool) (p1_:Tm):Option Bool :=
 cond p0_
   (some false)
   (Option.bind (cond (!(p1_.name==([]:List UInt8)))
   (some (p1_.kind != 3))
   (some false)) (fun (b0_:Bool)=>cond b0_
   (some false)
   (cond (p1_.kind==2)
   (some ((p1_.levels.length:Int)==1))
   (Option.bind (cond ((p1_.levels.length:Int)==0)
   (some true)
   (some (p1_.kind==3))) (fun (b1_:Bool)=>some b1_)))))
def Ue (a0:Tm):Option Bool :=
 Option.bind (cond (decide (a0.kind < 0))
   (some true)
   (cond (decide (13≤a0.kind))
   (some true)
   (Option.bind (m142 a0.kind) fun (x4:Int) =>
 some ((a0.kids.length:Int) != x4)))) (fun (v1:Bool)=>cond v1
   (some false)
   (Option.bind (cond (a0.index != 0)
   (cond (a0.kind != 0)
   (some (a0.kind != 12))
   (some false))
   (some false)) (fun (v3:Bool)=>m115_k0 v3 a0)))
theorem m115_ok (a0:Tm) (r:Bool) (h0:Ue a0=some r):Fun Tryz.prog 115 [.agg (cE a0)] (Qu [.one (dB r)]):=by
 unfold Ue at h0
 refine QF 9 57 Tryz.func115 Z en_115 Z (lb Z) (fun S w=>?_)
 simp only [QY]
 refine Q3<|Q0<|Qx Z Z (lb Z) (J9 Z)<|DX Z Z Z<|Q2<|Q1<|Q3<|Q3 ?_
 refine QE (fun (v1:Bool)=>⟨[(1,.v (.one (.ptr 0 0))),(19,.v (.one (dB v1)))],[(0,.cells 25 (cE a0))],[],1,57,[]⟩) (fun (v1:Bool)=>(cond v1
     (some false)
     (Option.bind (cond (a0.index != 0)
     (cond (a0.kind != 0)
     (some (a0.kind != 12))
     (some false))
     (some false)) (fun (v3:Bool)=>m115_k0 v3 a0)))=some r) ?_ ?_
 refine Qq h0 (fun w1_ h1 h0=>?_)
 refine YU [] [] mixed (by kernel_rfl) (by kernel_rfl) (by kernel_rfl) ?_
 refine RunA.rd Z Z Z (Q9 (Q5 Ja Z)) Z<|RunA.rd Z Z Z (Q9 (Q7 QL Z Z Z)) Z<|RunA.rd Z Z Z (Q9 (Q4 Z Z Z)) Z ?_
 refine YV (c:=(decide (a0.kind < 0))) Z Z Z (Q9 (J2 Z)) Z (fun c2=>?_) (fun c2=>?_)
 replace h1:=Qe c2 h1
 refine RunA.no Z Z Z Z<|RunA.no Z Z Z Z<|RunA.no Z Z Z Z<|RunA.rd Z Z Z (Q9 (Qb Z Z)) Z<|RunA.rd Z Z Z (Q9 (J2 Z)) Z<|RunA.no Z Z Z Z<|RunA.no Z Z Z Z<|RunA.no Z Z Z Z<|RunA.no Z Z Z Z<|RunA.no Z Z Z Z<|RunA.no Z Z Z Z<|RunA.no Z Z Z Z<|RunA.rd Z Z Z (Q9 (Qb Z Z)) Z ?_
 refine RunA.nil ⟨?ex,_,_,Z,?_⟩
 case ex=>exact trivial
 have e:=DS h1;subst e
 exact Qa true (DR (Nat.zero_le _) Z Z Z Z Z) h0
 replace h1:=Qf c2 h1
 refine RunA.rd Z Z Z (Q9 (Q5 Ja Z)) Z<|RunA.rd Z Z Z (Q9 (Q7 QL Z Z Z)) Z<|RunA.rd Z Z Z (Q9 (Q4 Z Z Z)) Z<|RunA.rd Z Z Z (Q9 (Qc Z Z)) Z ?_
 refine YV (c:=(decide (13≤a0.kind))) Z Z Z (Q9 (J2 Z)) Z (fun c3=>?_) (fun c3=>?_)
 replace h1:=Qe c3 h1
 refine RunA.no Z Z Z Z<|RunA.no Z Z Z Z<|RunA.no Z Z Z Z<|RunA.no Z Z Z Z<|RunA.no Z Z Z Z<|RunA.no Z Z Z Z<|RunA.no Z Z Z Z<|RunA.rd Z Z Z (Q9 (Qb Z Z)) Z ?_
 refine RunA.nil ⟨?ex,_,_,Z,?_⟩
 case ex=>exact trivial
 have e:=DS h1;subst e
 exact Qa true (DR (Nat.zero_le _) Z Z Z Z Z) h0
 replace h1:=Qf c3 h1
 refine RunA.rd Z Z Z (Q9 (Q5 JR Z)) Z<|RunA.rd Z Z Z (Q9 (Q7 Zu Z Z Z)) Z<|RunA.rd Z Z Z (Q9 (QQ (α:=Tm) YY Z (.d _))) Z<|RunA.rd Z Z Z (Q9 (Q5 Ja Z)) Z<|RunA.rd Z Z Z (Q9 (Q7 QL Z Z Z)) Z ?_
 refine Qq h1 (fun x4 hx4 h1=>?_)
 refine RunA.rd Z Z Z (Qz (m142_ok a0.kind x4 hx4) Z (.cons (.one (.d _)) .nil)) Z<|RunA.rd Z Z Z (Q9 (Q4 Z Z Z)) Z<|RunA.rd Z Z Z (Q9 (Qc Z Z)) Z ?_
 refine RunA.nil ⟨?ex,_,_,Z,?_⟩
 case ex=>exact trivial
 have e:=DS h1;subst e
 exact Qa ((a0.kids.length:Int) != x4) (DR (Nat.zero_le _) Z Z Z Z Z) h0
 intro v1 h0
 refine Q1 ?_
 refine Qh (b:=v1) Z (fun c5=>?_) (fun c5=>?_)
 replace h0:=Qe c5 h0
 refine Q3<|Q0<|DX Z Z Z<|Q2<|Q1<|Qp ?_
 have e:=DS h0;subst e
 exact Qk (fun _ _ h=>h) Z (Qj Z .nil) (.cons (.one (.d _)) .nil)
 replace h0:=Qf c5 h0
 refine Qi<|Q1<|Q3<|Q3 ?_
 refine QE (fun (v6:Bool)=>⟨[(1,.v (.one (.ptr 0 0))),(32,.v (.one (dB v6)))],[(0,.cells 25 (cE a0))],[],1,57,[]⟩) (fun (v6:Bool)=>(m115_k0 v6 a0)=some r) ?_ ?_
 refine Qq h0 (fun w1_ h1 h0=>?_)
 refine Q0<|DU Z Z Z (Q5 Yh Z)<|DU Z Z Z (Q7 QL Z Z Z)<|DU Z Z Z (Q4 Z Z Z)<|DW Z Z Z ?_
 refine Qn (d:=23) (c:=(a0.index != 0)) Z (fun c7=>?_) (fun c7=>?_)
 replace h1:=Qe c7 h1
 refine DU Z Z Z (Q5 Ja Z)<|DU Z Z Z (Q7 QL Z Z Z)<|DU Z Z Z (Q4 Z Z Z)<|DU Z Z Z (Qb Z Z)<|DW Z Z Z ?_
 refine Qn (d:=28) (c:=(a0.kind != 0)) Z (fun c8=>?_) (fun c8=>?_)
 replace h1:=Qe c8 h1
 refine DU Z Z Z (Q5 Ja Z)<|DU Z Z Z (Q7 QL Z Z Z)<|DU Z Z Z (Q4 Z Z Z)<|DU Z Z Z (Qb Z Z)<|Q2 ?_
 have e:=DS h1;subst e
 exact Qa (a0.kind != 12) (DR (Nat.zero_le _) Z Z Z Z Z) h0
 replace h1:=Qf c8 h1
 refine Q6 Z Z<|Q6 Z Z<|Q6 Z Z<|DU Z Z Z (Qc Z Z)<|Q2 ?_
 have e:=DS h1;subst e
 exact Qa false (DR (Nat.zero_le _) Z Z Z Z Z) h0
 replace h1:=Qf c7 h1
 refine Q6 Z Z<|Q6 Z Z<|Q6 Z Z<|DU Z Z Z (Qc Z Z)<|DW Z Z Z<|Q6 Z Z<|Q6 Z Z<|Q6 Z Z<|DU Z Z Z (Qc Z Z)<|Q2 ?_
 have e:=DS h1;subst e
 exact Qa false (DR (Nat.zero_le _) Z Z Z Z Z) h0
 intro v6 h0
 unfold m115_k0 at h0
 refine Q1 ?_
 refine Qh (b:=v6) Z (fun c9=>?_) (fun c9=>?_)
 replace h0:=Qe c9 h0
 refine Q3<|Q0<|DX Z Z Z<|Q2<|Q1<|Qp ?_
 have e:=DS h0;subst e
 exact Qk (fun _ _ h=>h) Z (Qj Z .nil) (.cons (.one (.d _)) .nil)
 replace h0:=Qf c9 h0
 refine Qi<|Q1<|Q3<|Q3 ?_
 refine QE (fun (v10:Bool)=>⟨[(1,.v (.one (.ptr 0 0))),(40,.v (.one (dB v10)))],[(0,.cells 25 (cE a0))],[],1,57,[]⟩) (fun (v10:Bool)=>(cond v10
     (some false)
     (cond (a0.kind==2)
     (some ((a0.levels.length:Int)==1))
     (Option.bind (cond ((a0.levels.length:Int)==0)
     (some true)
     (some (a0.kind==3))) (fun (v13:Bool)=>some v13))))=some r) ?_ ?_
 refine Qq h0 (fun w1_ h1 h0=>?_)
 refine Q0<|DU Z Z Z (Q5 Xc Z)<|DU Z Z Z (Q7 Df Z Z Z)<|DU Z Z Z (RO.neS Z Z)<|DW Z Z Z ?_
 refine Qn (d:=36) (c:=(!(a0.name==([]:List UInt8)))) Z (fun c11=>?_) (fun c11=>?_)
 replace h1:=Qe c11 h1
 refine DU Z Z Z (Q5 Ja Z)<|DU Z Z Z (Q7 QL Z Z Z)<|DU Z Z Z (Q4 Z Z Z)<|DU Z Z Z (Qb Z Z)<|Q2 ?_
 have e:=DS h1;subst e
 exact Qa (a0.kind != 3) (DR (Nat.zero_le _) Z Z Z Z Z) h0
 replace h1:=Qf c11 h1
 refine Q6 Z Z<|Q6 Z Z<|Q6 Z Z<|DU Z Z Z (Qc Z Z)<|Q2 ?_
 have e:=DS h1;subst e
 exact Qa false (DR (Nat.zero_le _) Z Z Z Z Z) h0
 intro v10 h0
 refine Q1 ?_
 refine Qh (b:=v10) Z (fun c12=>?_) (fun c12=>?_)
 replace h0:=Qe c12 h0
 refine Q3<|Q0<|DX Z Z Z<|Q2<|Q1<|Qp ?_
 have e:=DS h0;subst e
 exact Qk (fun _ _ h=>h) Z (Qj Z .nil) (.cons (.one (.d _)) .nil)
 replace h0:=Qf c12 h0
 refine Qi<|Q1<|Q3<|Q3<|Q0<|DU Z Z Z (Q5 Ja Z)<|DU Z Z Z (Q7 QL Z Z Z)<|DU Z Z Z (Q4 Z Z Z)<|Q2<|Q1 ?_
 refine Qh (b:=(a0.kind==2)) Z (fun c13=>?_) (fun c13=>?_)
 replace h0:=Qe c13 h0
 refine Q3<|Q0<|DU Z Z Z (Q5 YF Z)<|DU Z Z Z (Q7 G4 Z Z Z)<|DU Z Z Z (QQ (α:=Lvl) K6 Z (.d _))<|DU Z Z Z (Q4 Z Z Z)<|DX Z Z Z<|Q2<|Q1<|Qp ?_
 have e:=DS h0;subst e
 exact Qk (fun _ _ h=>h) Z (Qj Z .nil) (.cons (.one (.d _)) .nil)
 replace h0:=Qf c13 h0
 refine Qi<|Q1<|Q3 ?_
 refine QE (fun (v14:Bool)=>⟨[(2,.v (.one (dB v14)))],[(0,.cells 25 (cE a0))],[],1,57,[]⟩) (fun (v14:Bool)=>(some v14)=some r) ?_ ?_
 refine Qq h0 (fun w1_ h1 h0=>?_)
 refine Q0<|DU Z Z Z (Q5 YF Z)<|DU Z Z Z (Q7 G4 Z Z Z)<|DU Z Z Z (QQ (α:=Lvl) K6 Z (.d _))<|DU Z Z Z (Q4 Z Z Z)<|DW Z Z Z ?_
 refine Qn (d:=52) (c:=((a0.levels.length:Int)==0)) Z (fun c15=>?_) (fun c15=>?_)
 replace h1:=Qe c15 h1
 refine Q6 Z Z<|Q6 Z Z<|Q6 Z Z<|DU Z Z Z (Qb Z Z)<|DX Z Z Z<|Q2 ?_
 have e:=DS h1;subst e
 exact Qa true (DR (Nat.zero_le _) Z Z Z Z Z) h0
 replace h1:=Qf c15 h1
 refine DU Z Z Z (Q5 Ja Z)<|DU Z Z Z (Q7 QL Z Z Z)<|DU Z Z Z (Q4 Z Z Z)<|DU Z Z Z (Qc Z Z)<|DX Z Z Z<|Q2 ?_
 have e:=DS h1;subst e
 exact Qa (a0.kind==3) (DR (Nat.zero_le _) Z Z Z Z Z) h0
 intro v14 h0
 refine Q1<|Qp ?_
 have e:=DS h0;subst e
 exact Qk (fun _ _ h=>h) Z (Qj Z .nil) (.cons (.one (.d _)) .nil)
def W9 (a0:Int) (a1:Int):Option Int :=
 Option.bind (cond (a1==1)
   (cond (a0==5)
   (some true)
   (cond (a0==6)
   (some true)
   (cond (a0==7)
   (some true)
   (cond (a1==2)
   (some (a0==11))
   (some false)))))
   (cond (a1==2)
   (some (a0==11))
   (some false))) (fun (v1:Bool)=>cond v1
   (some 1)
   (some 0))
theorem m117_ok (a0:Int) (a1:Int) (r:Int) (h0:W9 a0 a1=some r):Fun Tryz.prog 117 [.one (dI a0),.one (dI a1)] (Qu [.one (dI r)]):=by
 unfold W9 at h0
 refine QF 9 27 Tryz.func117 Z en_117 Z (lb Z) (fun S w=>?_)
 simp only [QY]
 refine Q3<|Q0<|DX Z Z Z<|Q2<|Q1<|Q3<|Q3 ?_
 refine QE (fun (v1:Bool)=>⟨[(26,.v (.one (dB v1)))],[],[],0,27,[]⟩) (fun (v1:Bool)=>(cond v1
     (some 1)
     (some 0))=some r) ?_ ?_
 refine Qq h0 (fun w1_ h1 h0=>?_)
 refine Q0<|DW Z Z Z<|DU Z Z Z (Q4 Z Z Z)<|DW Z Z Z ?_
 refine Qn (d:=7) (c:=(a1==1)) Z (fun c2=>?_) (fun c2=>?_)
 replace h1:=Qe c2 h1
 refine DW Z Z Z<|DU Z Z Z (Q4 Z Z Z)<|DW Z Z Z ?_
 refine Qn (d:=10) (c:=(a0==5)) Z (fun c3=>?_) (fun c3=>?_)
 replace h1:=Qe c3 h1
 refine Q6 Z Z<|Q6 Z Z<|DU Z Z Z (Qb Z Z)<|DW Z Z Z<|Q6 Z Z<|Q6 Z Z<|DU Z Z Z (Qb Z Z)<|DU Z Z Z (Qb Z Z)<|DW Z Z Z<|Q6 Z Z<|Q6 Z Z<|Q6 Z Z<|Q6 Z Z<|Q6 Z Z ?_
 refine Q6 Z Z<|DU Z Z Z (Qb Z Z)<|Q2 ?_
 have e:=DS h1;subst e
 exact Qa true (DR (Nat.zero_le _) Z Z Z Z Z) h0
 replace h1:=Qf c3 h1
 refine DW Z Z Z<|DU Z Z Z (Q4 Z Z Z)<|DU Z Z Z (Qc Z Z)<|DW Z Z Z ?_
 refine Qn (d:=14) (c:=(a0==6)) Z (fun c4=>?_) (fun c4=>?_)
 replace h1:=Qe c4 h1
 refine Q6 Z Z<|Q6 Z Z<|DU Z Z Z (Qb Z Z)<|DU Z Z Z (Qb Z Z)<|DW Z Z Z<|Q6 Z Z<|Q6 Z Z<|Q6 Z Z<|Q6 Z Z<|Q6 Z Z<|Q6 Z Z<|DU Z Z Z (Qb Z Z)<|Q2 ?_
 have e:=DS h1;subst e
 exact Qa true (DR (Nat.zero_le _) Z Z Z Z Z) h0
 replace h1:=Qf c4 h1
 refine DW Z Z Z<|DU Z Z Z (Q4 Z Z Z)<|DU Z Z Z (Qc Z Z)<|DU Z Z Z (Qb Z Z)<|DW Z Z Z ?_
 refine Qn (d:=19) (c:=(a0==7)) Z (fun c5=>?_) (fun c5=>?_)
 replace h1:=Qe c5 h1
 refine Q6 Z Z<|Q6 Z Z<|Q6 Z Z<|Q6 Z Z<|Q6 Z Z<|Q6 Z Z<|DU Z Z Z (Qb Z Z)<|Q2 ?_
 have e:=DS h1;subst e
 exact Qa true (DR (Nat.zero_le _) Z Z Z Z Z) h0
 replace h1:=Qf c5 h1
 refine DW Z Z Z<|DU Z Z Z (Q4 Z Z Z)<|DW Z Z Z ?_
 refine Qn (d:=22) (c:=(a1==2)) Z (fun c6=>?_) (fun c6=>?_)
 replace h1:=Qe c6 h1
 refine DW Z Z Z<|DU Z Z Z (Q4 Z Z Z)<|DU Z Z Z (Qb Z Z)<|DU Z Z Z (Qc Z Z)<|Q2 ?_
 have e:=DS h1;subst e
 exact Qa (a0==11) (DR (Nat.zero_le _) Z Z Z Z Z) h0
 replace h1:=Qf c6 h1
 refine Q6 Z Z<|Q6 Z Z<|DU Z Z Z (Qc Z Z)<|DU Z Z Z (Qc Z Z)<|Q2 ?_
 have e:=DS h1;subst e
 exact Qa false (DR (Nat.zero_le _) Z Z Z Z Z) h0
 replace h1:=Qf c2 h1
 refine Q6 Z Z<|Q6 Z Z<|Q6 Z Z<|Q6 Z Z<|Q6 Z Z<|Q6 Z Z<|Q6 Z Z<|Q6 Z Z<|Q6 Z Z<|Q6 Z Z<|DU Z Z Z (Qc Z Z)<|DW Z Z Z<|DW Z Z Z<|DU Z Z Z (Q4 Z Z Z) ?_
 refine DW Z Z Z ?_
 refine Qn (d:=22) (c:=(a1==2)) Z (fun c7=>?_) (fun c7=>?_)
 replace h1:=Qe c7 h1
 refine DW Z Z Z<|DU Z Z Z (Q4 Z Z Z)<|DU Z Z Z (Qb Z Z)<|DU Z Z Z (Qc Z Z)<|Q2 ?_
 have e:=DS h1;subst e
 exact Qa (a0==11) (DR (Nat.zero_le _) Z Z Z Z Z) h0
 replace h1:=Qf c7 h1
 refine Q6 Z Z<|Q6 Z Z<|DU Z Z Z (Qc Z Z)<|DU Z Z Z (Qc Z Z)<|Q2 ?_
 have e:=DS h1;subst e
 exact Qa false (DR (Nat.zero_le _) Z Z Z Z Z) h0
 intro v1 h0
 refine Q1 ?_
 refine Qh (b:=v1) Z (fun c8=>?_) (fun c8=>?_)
 replace h0:=Qe c8 h0
 refine Q3<|Q0<|DX Z Z Z<|Q2<|Q1<|Qp ?_
 have e:=DS h0;subst e
 exact Qk (fun _ _ h=>h) Z (Qj Z .nil) (.cons (.one (.d _)) .nil)
 replace h0:=Qf c8 h0
 refine Qi<|Q1<|Q3<|Q0<|DX Z Z Z<|Q2<|Q1<|Qp ?_
 have e:=DS h0;subst e
 exact Qk (fun _ _ h=>h) Z (Qj Z .nil) (.cons (.one (.d _)) .nil)
def m118_k0 (p0_:Bool) (p1_:Int) (p2_:Lvl) (p3_:LV):Option (LO Int (Unit⊕Bool)) :=
 cond p0_
   (some (.done (.inr false)))
   (Option.bind (cond (decide (0 < p1_))
   (Option.bind (Jy p2_.vs (QG (p1_ - 1))) fun (b0_:LV) =>
 some (decide (p3_.1≤b0_.1)))
   (some false)) (fun (b1_:Bool)=>cond b1_
   (some (.done (.inr false)))
   (Option.bind (cond (decide (0 < p2_.c))
   (some (decide (p2_.c≤p3_.2)))
   (some false)) (fun (b2_:Bool)=>cond b2_
   (some (.done (.inr false)))
   (some (.next (QG (p1_+1))))))))
def K9 (a0:Lvl) (s1:Int):Option (LO Int (Unit⊕Bool)) :=
 cond (decide (s1 < (a0.vs.length:Int)))
   (Option.bind (Jy a0.vs s1) fun (x5:LV) =>
 Option.bind (cond (decide (x5.1 < (-65536)))
   (some true)
   (cond (decide (8≤x5.1))
   (some true)
   (cond (decide (x5.2 < 0))
   (some true)
   (some (decide (100 < x5.2)))))) (fun (v6:Bool)=>m118_k0 v6 s1 a0 x5))
   (some (.done (.inl ())))
def Ud (a0:Lvl):Option Bool :=
 Option.bind (cond (decide (a0.c < 0))
   (some true)
   (some (decide (100 < a0.c)))) (fun (v1:Bool)=>cond v1
   (some false)
   (Option.bind (Qo (K9 a0) Qt 0) (Sum.elim (fun (o3:Unit)=>some true) (fun o=>some o))))
theorem m118_ok (a0:Lvl) (r:Bool) (h0:Ud a0=some r):Fun Tryz.prog 118 [.agg (cE a0)] (Qu [.one (dB r)]):=by
 unfold Ud at h0
 refine QF 9 67 Tryz.func118 Z en_118 Z (lb Z) (fun S w=>?_)
 simp only [QY]
 refine Q3<|Q0<|Qx Z Z (lb Z) (J9 Z)<|DX Z Z Z<|Q2<|Q1<|Q3<|Q3 ?_
 refine QE (fun (v1:Bool)=>⟨[(1,.v (.one (.ptr 0 0))),(12,.v (.one (dB v1)))],[(0,.cells 82 (cE a0))],[],1,67,[]⟩) (fun (v1:Bool)=>(cond v1
     (some false)
     (Option.bind (Qo (K9 a0) Qt 0) (Sum.elim (fun (o3:Unit)=>some true) (fun o=>some o))))=some r) ?_ ?_
 refine Qq h0 (fun w1_ h1 h0=>?_)
 refine Q0<|DU Z Z Z (Q5 Ke Z)<|DU Z Z Z (Q7 QL Z Z Z)<|DU Z Z Z (Q4 Z Z Z)<|DW Z Z Z ?_
 refine Qn (d:=8) (c:=(decide (a0.c < 0))) Z (fun c2=>?_) (fun c2=>?_)
 replace h1:=Qe c2 h1
 refine Q6 Z Z<|Q6 Z Z<|Q6 Z Z<|DU Z Z Z (Qb Z Z)<|Q2 ?_
 have e:=DS h1;subst e
 exact Qa true (DR (Nat.zero_le _) Z Z Z Z Z) h0
 replace h1:=Qf c2 h1
 refine DU Z Z Z (Q5 Ke Z)<|DU Z Z Z (Q7 QL Z Z Z)<|DU Z Z Z (Q4 Z Z Z)<|DU Z Z Z (Qc Z Z)<|Q2 ?_
 have e:=DS h1;subst e
 exact Qa (decide (100 < a0.c)) (DR (Nat.zero_le _) Z Z Z Z Z) h0
 intro v1 h0
 refine Q1 ?_
 refine Qh (b:=v1) Z (fun c3=>?_) (fun c3=>?_)
 replace h0:=Qe c3 h0
 refine Q3<|Q0<|DX Z Z Z<|Q2<|Q1<|Qp ?_
 have e:=DS h0;subst e
 exact Qk (fun _ _ h=>h) Z (Qj Z .nil) (.cons (.one (.d _)) .nil)
 replace h0:=Qf c3 h0
 refine Qi<|Q1<|Q3<|Q3<|Q0<|DX Z Z Z<|Q2<|Q1<|Qr ?_
 refine Jr 0 (fun (o4:Unit)=>⟨[],[(0,.cells 82 (cE a0))],[],1,67,[]⟩) (fun (o4:Unit)=>(some true)=some r) ?_ ?_
 refine Qq h0 (fun o5 hl1 h0=>?_)
 refine Jq (K9 a0) (fun s1=>⟨[(1,.v (.one (.ptr 0 0))),(3,.v (.one (dI s1)))],[(0,.cells 82 (cE a0))],[],1,67,[]⟩) 0 o5 (DR (Nat.zero_le _) Z Z Z Z Z) hl1 (fun s1 n1 oo1 h1 ho1=>?_)
 unfold K9 at h1
 refine Q3<|Q3<|Q0<|DW Z Z Z<|DU Z Z Z (Q5 Yg Z)<|DU Z Z Z (Q7 Ki Z Z Z)<|DU Z Z Z (QQ (α:=LV) Zd Z (.d _))<|DU Z Z Z (Q4 Z Z Z)<|Q2<|Q1 ?_
 refine Qh (b:=(decide (s1 < (a0.vs.length:Int)))) Z (fun c6=>?_) (fun c6=>?_)
 replace h1:=Qe c6 h1
 refine Qi<|Q1<|Q3<|Qr<|Q3<|Q0<|DU Z Z Z (Q5 Yg Z)<|DU Z Z Z (Q7 Ki Z Z Z)<|DW Z Z Z ?_
 refine Qq h1 (fun x7 hx7 h1=>?_)
 refine DU Z Z Z (J1 (α:=LV) Zd Z (.d _) Z hx7)<|DU Z Z Z (J5 (x7:LV) G0 Z)<|Qx Z Z (lb Z) (QW z_142 Z)<|Y1 Z Z (Jn (x7:LV) G0 Z Z Z Z Z)<|Q2<|Q1<|Q3<|Q3 ?_
 refine QE (fun (v8:Bool)=>⟨[(1,.v (.one (.ptr 0 0))),(3,.v (.one (dI s1))),(4,.v (.one (.ptr 1 0))),(42,.v (.one (dB v8)))],[(0,.cells 82 (cE a0)),(1,.cells 142 (cE x7))],[],2,67,[]⟩) (fun (v8:Bool)=>(m118_k0 v8 s1 a0 x7)=some oo1) ?_ ?_
 refine Qq h1 (fun w2_ h2 h1=>?_)
 refine Q0<|DU Z Z Z (Q5 JF Z)<|DU Z Z Z (Q7 QL Z Z Z)<|DU Z Z Z (Q4 Z Z Z)<|DW Z Z Z ?_
 refine Qn (d:=28) (c:=(decide (x7.1 < (-65536)))) Z (fun c9=>?_) (fun c9=>?_)
 replace h2:=Qe c9 h2
 refine Q6 Z Z<|Q6 Z Z<|Q6 Z Z<|DU Z Z Z (Qb Z Z)<|DW Z Z Z<|Q6 Z Z<|Q6 Z Z<|Q6 Z Z<|DU Z Z Z (Qb Z Z)<|DW Z Z Z<|Q6 Z Z<|Q6 Z Z<|Q6 Z Z<|DU Z Z Z (Qb Z Z) ?_
 refine Q2 ?_
 have e:=DS h2;subst e
 exact Qa true (DR (Nat.zero_le _) Z Z Z Z Z) h1
 replace h2:=Qf c9 h2
 refine DU Z Z Z (Q5 JF Z)<|DU Z Z Z (Q7 QL Z Z Z)<|DU Z Z Z (Q4 Z Z Z)<|DU Z Z Z (Qc Z Z)<|DW Z Z Z ?_
 refine Qn (d:=33) (c:=(decide (8≤x7.1))) Z (fun c10=>?_) (fun c10=>?_)
 replace h2:=Qe c10 h2
 refine Q6 Z Z<|Q6 Z Z<|Q6 Z Z<|DU Z Z Z (Qb Z Z)<|DW Z Z Z<|Q6 Z Z<|Q6 Z Z<|Q6 Z Z<|DU Z Z Z (Qb Z Z)<|Q2 ?_
 have e:=DS h2;subst e
 exact Qa true (DR (Nat.zero_le _) Z Z Z Z Z) h1
 replace h2:=Qf c10 h2
 refine DU Z Z Z (Q5 Kz Z)<|DU Z Z Z (Q7 QL Z Z Z)<|DU Z Z Z (Q4 Z Z Z)<|DU Z Z Z (Qc Z Z)<|DW Z Z Z ?_
 refine Qn (d:=38) (c:=(decide (x7.2 < 0))) Z (fun c11=>?_) (fun c11=>?_)
 replace h2:=Qe c11 h2
 refine Q6 Z Z<|Q6 Z Z<|Q6 Z Z<|DU Z Z Z (Qb Z Z)<|Q2 ?_
 have e:=DS h2;subst e
 exact Qa true (DR (Nat.zero_le _) Z Z Z Z Z) h1
 replace h2:=Qf c11 h2
 refine DU Z Z Z (Q5 Kz Z)<|DU Z Z Z (Q7 QL Z Z Z)<|DU Z Z Z (Q4 Z Z Z)<|DU Z Z Z (Qc Z Z)<|Q2 ?_
 have e:=DS h2;subst e
 exact Qa (decide (100 < x7.2)) (DR (Nat.zero_le _) Z Z Z Z Z) h1
 intro v8 h1
 unfold m118_k0 at h1
 refine Q1 ?_
 refine Qh (b:=v8) Z (fun c12=>?_) (fun c12=>?_)
 replace h1:=Qe c12 h1
 refine Q3<|Q0<|DX Z Z Z<|Q2<|Q1<|Qp ?_
 have e:=DS h1;subst e
 have e_:_=_:=ho1
 subst e_
 try dsimp only [Sum.elim_inl,Sum.elim_inr] at h0
 have e:=DS h0;subst e
 exact Qk (fun _ _ h=>h) Z (Qj Z .nil) (.cons (.one (.d _)) .nil)
 replace h1:=Qf c12 h1
 refine Qi<|Q1<|Q3<|Q3 ?_
 refine QE (fun (v13:Bool)=>⟨[(1,.v (.one (.ptr 0 0))),(3,.v (.one (dI s1))),(4,.v (.one (.ptr 1 0))),(56,.v (.one (dB v13)))],[(0,.cells 82 (cE a0)),(1,.cells 142 (cE x7))],[],2,67,[]⟩) (fun (v13:Bool)=>(cond v13
     (some (.done (.inr false)))
     (Option.bind (cond (decide (0 < a0.c))
     (some (decide (a0.c≤x7.2)))
     (some false)) (fun (v15:Bool)=>cond v15
     (some (.done (.inr false)))
     (some (.next (QG (s1+1)))))))=some oo1) ?_ ?_
 refine Qq h1 (fun w2_ h2 h1=>?_)
 refine YU [] [] mixed (by kernel_rfl) (by kernel_rfl) (by kernel_rfl) ?_
 refine RunA.rd Z Z Z (Q9 (J2 Z)) Z<|RunA.rd Z Z Z (Q9 (Q4 Z Z Z)) Z ?_
 refine YV (c:=(decide (0 < s1))) Z Z Z (Q9 (J2 Z)) Z (fun c14=>?_) (fun c14=>?_)
 replace h2:=Qe c14 h2
 refine RunA.rd Z Z Z (Q9 (Q5 Yg Z)) Z<|RunA.rd Z Z Z (Q9 (Q7 Ki Z Z Z)) Z<|RunA.rd Z Z Z (Q9 (J2 Z)) Z<|RunA.rd Z Z Z (Q9 (Q4 Z Z Z)) Z ?_
 refine Qq h2 (fun x15 hx15 h2=>?_)
 refine RunA.rd Z Z Z (Q9 (J1 (α:=LV) Zd Z (.d _) Z hx15)) Z<|RunA.rd Z Z Z (Q9 (Yn JF Z)) Z<|RunA.rd Z Z Z (Q9 (YJ QL Z Z)) Z<|RunA.rd Z Z Z (Q9 (Q5 JF Z)) Z<|RunA.rd Z Z Z (Q9 (Q7 QL Z Z Z)) Z<|RunA.rd Z Z Z (Q9 (Q4 Z Z Z)) Z<|RunA.rd Z Z Z (Q9 (Qb Z Z)) Z ?_
 refine RunA.nil ⟨?ex,_,_,Z,?_⟩
 case ex=>exact trivial
 have e:=DS h2;subst e
 exact Qa (decide (x7.1≤x15.1)) (DR (Nat.zero_le _) Z Z Z Z Z) h1
 replace h2:=Qf c14 h2
 refine RunA.no Z Z Z Z<|RunA.no Z Z Z Z<|RunA.no Z Z Z Z<|RunA.no Z Z Z Z<|RunA.no Z Z Z Z<|RunA.no Z Z Z Z<|RunA.no Z Z Z Z<|RunA.no Z Z Z Z<|RunA.no Z Z Z Z<|RunA.no Z Z Z Z<|RunA.rd Z Z Z (Q9 (Qc Z Z)) Z ?_
 refine RunA.nil ⟨?ex,_,_,Z,?_⟩
 case ex=>exact trivial
 have e:=DS h2;subst e
 exact Qa false (DR (Nat.zero_le _) Z Z Z Z Z) h1
 intro v13 h1
 refine Q1 ?_
 refine Qh (b:=v13) Z (fun c16=>?_) (fun c16=>?_)
 replace h1:=Qe c16 h1
 refine Q3<|Q0<|DX Z Z Z<|Q2<|Q1<|Qp ?_
 have e:=DS h1;subst e
 have e_:_=_:=ho1
 subst e_
 try dsimp only [Sum.elim_inl,Sum.elim_inr] at h0
 have e:=DS h0;subst e
 exact Qk (fun _ _ h=>h) Z (Qj Z .nil) (.cons (.one (.d _)) .nil)
 replace h1:=Qf c16 h1
 refine Qi<|Q1<|Q3 ?_
 refine QE (fun (v17:Bool)=>⟨[(1,.v (.one (.ptr 0 0))),(3,.v (.one (dI s1))),(66,.v (.one (dB v17)))],[(0,.cells 82 (cE a0)),(1,.cells 142 (cE x7))],[],2,67,[]⟩) (fun (v17:Bool)=>(cond v17
     (some (.done (.inr false)))
     (some (.next (QG (s1+1)))))=some oo1) ?_ ?_
 refine Qq h1 (fun w2_ h2 h1=>?_)
 refine Q0<|DU Z Z Z (Q5 Ke Z)<|DU Z Z Z (Q7 QL Z Z Z)<|DU Z Z Z (Q4 Z Z Z)<|DW Z Z Z ?_
 refine Qn (d:=60) (c:=(decide (0 < a0.c))) Z (fun c18=>?_) (fun c18=>?_)
 replace h2:=Qe c18 h2
 refine DU Z Z Z (Q5 Kz Z)<|DU Z Z Z (Q7 QL Z Z Z)<|DU Z Z Z (Q5 Ke Z)<|DU Z Z Z (Q7 QL Z Z Z)<|DU Z Z Z (Q4 Z Z Z)<|DU Z Z Z (Qb Z Z)<|Q2 ?_
 have e:=DS h2;subst e
 exact Qa (decide (a0.c≤x7.2)) (DR (Nat.zero_le _) Z Z Z Z Z) h1
 replace h2:=Qf c18 h2
 refine Q6 Z Z<|Q6 Z Z<|Q6 Z Z<|Q6 Z Z<|Q6 Z Z<|DU Z Z Z (Qc Z Z)<|Q2 ?_
 have e:=DS h2;subst e
 exact Qa false (DR (Nat.zero_le _) Z Z Z Z Z) h1
 intro v17 h1
 refine Q1 ?_
 refine Qh (b:=v17) Z (fun c19=>?_) (fun c19=>?_)
 replace h1:=Qe c19 h1
 refine Q3<|Q0<|DX Z Z Z<|Q2<|Q1<|Qp ?_
 have e:=DS h1;subst e
 have e_:_=_:=ho1
 subst e_
 try dsimp only [Sum.elim_inl,Sum.elim_inr] at h0
 have e:=DS h0;subst e
 exact Qk (fun _ _ h=>h) Z (Qj Z .nil) (.cons (.one (.d _)) .nil)
 replace h1:=Qf c19 h1
 refine Qi<|Qy<|Q1<|Q0<|DW Z Z Z<|DU Z Z Z (Q4 Z Z Z)<|DX Z Z Z<|Q2 ?_
 have e:=DS h1;subst e
 refine J6 (QG (s1+1)) (DR (Nat.zero_le _) Z Z Z Z Z) ho1
 replace h1:=Qf c6 h1
 refine Jw<|QC<|QC ?_
 have e:=DS h1;subst e
 have e_:_=_:=ho1
 subst e_
 exact Jp () (DR (Nat.zero_le _) Z Z Z Z Z) h0
 intro o4 h0
 refine QZ<|Q1<|Q3<|Q0<|DX Z Z Z<|Q2<|Q1<|Qp ?_
 have e:=DS h0;subst e
 exact Qk (fun _ _ h=>h) Z (Qj Z .nil) (.cons (.one (.d _)) .nil)
def KT (a0:Lvl) (a1:Int) (s1:Int):Option (LO Int (Unit⊕Int)) :=
 cond (decide (s1 < (a0.vs.length:Int)))
   (Option.bind (Option.bind (Jy a0.vs s1) fun (x6:LV) =>
 cond (decide (0≤x6.1))
   (Option.bind (Jy a0.vs s1) fun (x8:LV) =>
 some (decide (a1≤x8.1)))
   (some false)) (fun (v5:Bool)=>cond v5
   (some (.done (.inr 15)))
   (some (.next (QG (s1+1))))))
   (some (.done (.inl ())))
def Ka (a0:Lvl) (a2:Int) (s1:Int):Option (LO Int (Unit⊕Int)) :=
 cond (decide (s1 < (a0.vs.length:Int)))
   (Option.bind (Option.bind (Jy a0.vs s1) fun (x7:LV) =>
 cond (decide (x7.1 < 0))
   (Option.bind (Jy a0.vs s1) fun (x9:LV) =>
 some (decide (a2≤(QG ((-1) - x9.1)))))
   (some false)) (fun (v6:Bool)=>cond v6
   (some (.done (.inr 23)))
   (some (.next (QG (s1+1))))))
   (some (.done (.inl ())))
def Uz (a0:Lvl) (a1:Int) (a2:Int):Option Int :=
 Option.bind (Ud a0) fun (x1:Bool) =>
 cond (!x1)
   (some 3)
   (Option.bind (Qo (KT a0 a1) Qt 0) (Sum.elim (fun (o3:Unit)=>Option.bind (Qo (Ka a0 a2) Qt 0) (Sum.elim (fun (o4:Unit)=>some 0) (fun o=>some o))) (fun o=>some o)))
theorem m116_ok (a0:Lvl) (a1:Int) (a2:Int) (r:Int) (h0:Uz a0 a1 a2=some r):Fun Tryz.prog 116 [.agg (cE a0),.one (dI a1),.one (dI a2)] (Qu [.one (dI r)]):=by
 unfold Uz at h0
 refine QF 9 61 Tryz.func116 Z en_116 Z (lb Z) (fun S w=>?_)
 simp only [QY]
 refine Q3<|Q0<|Qx Z Z (lb Z) (J9 Z)<|DX Z Z Z<|Q2<|Q1<|Q3<|Q3<|Q0<|DU Z Z Z (J0 (a0:Lvl) GP Z Z) ?_
 refine Qq h0 (fun x1 hx1 h0=>?_)
 refine Qx Z Z (lb Z) (Qz (m118_ok a0 x1 hx1) Z (.cons (.agg (.cons (.d _) (.cons (.d _) .nil))) .nil))<|DU Z Z Z (YI Z)<|Q2<|Q1 ?_
 refine Qh (b:=(!x1)) Z (fun c2=>?_) (fun c2=>?_)
 replace h0:=Qe c2 h0
 refine Q3<|Q0<|DX Z Z Z<|Q2<|Q1<|Qp ?_
 have e:=DS h0;subst e
 exact Qk (fun _ _ h=>h) Z (Qj Z .nil) (.cons (.one (.d _)) .nil)
 replace h0:=Qf c2 h0
 refine Qi<|Q1<|Q3<|Q3<|Q0<|DX Z Z Z<|Q2<|Q1<|Qr ?_
 refine Jr 0 (fun (o3:Unit)=>⟨[(2,.v (.one (dI a2))),(3,.v (.one (.ptr 0 0)))],[(0,.cells 82 (cE a0))],[],1,61,[]⟩) (fun (o3:Unit)=>(Option.bind (Qo (Ka a0 a2) Qt 0) (Sum.elim (fun (o4:Unit)=>some 0) (fun o=>some o)))=some r) ?_ ?_
 refine Qq h0 (fun o4 hl1 h0=>?_)
 refine Jq (KT a0 a1) (fun s1=>⟨[(1,.v (.one (dI a1))),(2,.v (.one (dI a2))),(3,.v (.one (.ptr 0 0))),(7,.v (.one (dI s1)))],[(0,.cells 82 (cE a0))],[],1,61,[]⟩) 0 o4 (DR (Nat.zero_le _) Z Z Z Z Z) hl1 (fun s1 n1 oo1 h1 ho1=>?_)
 unfold KT at h1
 refine Q3<|Q3<|Q0<|DW Z Z Z<|DU Z Z Z (Q5 Yg Z)<|DU Z Z Z (Q7 Ki Z Z Z)<|DU Z Z Z (QQ (α:=LV) Zd Z (.d _))<|DU Z Z Z (Q4 Z Z Z)<|Q2<|Q1 ?_
 refine Qh (b:=(decide (s1 < (a0.vs.length:Int)))) Z (fun c5=>?_) (fun c5=>?_)
 replace h1:=Qe c5 h1
 refine Qi<|Q1<|Q3<|Qr<|Q3 ?_
 refine QE (fun (v6:Bool)=>⟨[(1,.v (.one (dI a1))),(2,.v (.one (dI a2))),(3,.v (.one (.ptr 0 0))),(7,.v (.one (dI s1))),(35,.v (.one (dB v6)))],[(0,.cells 82 (cE a0))],[],1,61,[]⟩) (fun (v6:Bool)=>(cond v6
     (some (.done (.inr 15)))
     (some (.next (QG (s1+1)))))=some oo1) ?_ ?_
 refine Qq h1 (fun w2_ h2 h1=>?_)
 refine Q0<|DU Z Z Z (Q5 Yg Z)<|DU Z Z Z (Q7 Ki Z Z Z)<|DW Z Z Z ?_
 refine Qq h2 (fun x7 hx7 h2=>?_)
 refine DU Z Z Z (J1 (α:=LV) Zd Z (.d _) Z hx7)<|DU Z Z Z (Yn JF Z)<|DU Z Z Z (YJ QL Z Z)<|DU Z Z Z (Q4 Z Z Z)<|DW Z Z Z ?_
 refine Qn (d:=26) (c:=(decide (0≤x7.1))) Z (fun c8=>?_) (fun c8=>?_)
 replace h2:=Qe c8 h2
 refine DU Z Z Z (Q5 Yg Z)<|DU Z Z Z (Q7 Ki Z Z Z)<|DW Z Z Z ?_
 refine Qq h2 (fun x9 hx9 h2=>?_)
 refine DU Z Z Z (J1 (α:=LV) Zd Z (.d _) Z hx9)<|DU Z Z Z (Yn JF Z)<|DU Z Z Z (YJ QL Z Z)<|DW Z Z Z<|DU Z Z Z (Q4 Z Z Z)<|DU Z Z Z (Qb Z Z)<|Q2 ?_
 have e:=DS h2;subst e
 exact Qa (decide (a1≤x9.1)) (DR (Nat.zero_le _) Z Z Z Z Z) h1
 replace h2:=Qf c8 h2
 refine Q6 Z Z<|Q6 Z Z<|Q6 Z Z<|Q6 Z Z<|Q6 Z Z<|Q6 Z Z<|Q6 Z Z<|Q6 Z Z<|DU Z Z Z (Qc Z Z)<|Q2 ?_
 have e:=DS h2;subst e
 exact Qa false (DR (Nat.zero_le _) Z Z Z Z Z) h1
 intro v6 h1
 refine Q1 ?_
 refine Qh (b:=v6) Z (fun c10=>?_) (fun c10=>?_)
 replace h1:=Qe c10 h1
 refine Q3<|Q0<|DX Z Z Z<|Q2<|Q1<|Qp ?_
 have e:=DS h1;subst e
 have e_:_=_:=ho1
 subst e_
 try dsimp only [Sum.elim_inl,Sum.elim_inr] at h0
 have e:=DS h0;subst e
 exact Qk (fun _ _ h=>h) Z (Qj Z .nil) (.cons (.one (.d _)) .nil)
 replace h1:=Qf c10 h1
 refine Qi<|Qy<|Q1<|Q0<|DW Z Z Z<|DU Z Z Z (Q4 Z Z Z)<|DX Z Z Z<|Q2 ?_
 have e:=DS h1;subst e
 refine J6 (QG (s1+1)) (DR (Nat.zero_le _) Z Z Z Z Z) ho1
 replace h1:=Qf c5 h1
 refine Jw<|QC<|QC ?_
 have e:=DS h1;subst e
 have e_:_=_:=ho1
 subst e_
 exact Jp () (DR (Nat.zero_le _) Z Z Z Z Z) h0
 intro o3 h0
 refine QZ<|Q1<|Q3<|Q3<|Q0<|DX Z Z Z<|Q2<|Q1<|Qr ?_
 refine Jr 2 (fun (o11:Unit)=>⟨[],[(0,.cells 82 (cE a0))],[],1,61,[]⟩) (fun (o11:Unit)=>(some 0)=some r) ?_ ?_
 refine Qq h0 (fun o12 hl1 h0=>?_)
 refine Jq (Ka a0 a2) (fun s1=>⟨[(2,.v (.one (dI a2))),(3,.v (.one (.ptr 0 0))),(8,.v (.one (dI s1)))],[(0,.cells 82 (cE a0))],[],1,61,[]⟩) 0 o12 (DR (Nat.zero_le _) Z Z Z Z Z) hl1 (fun s1 n1 oo1 h1 ho1=>?_)
 unfold Ka at h1
 refine Q3<|Q3<|Q0<|DW Z Z Z<|DU Z Z Z (Q5 Yg Z)<|DU Z Z Z (Q7 Ki Z Z Z)<|DU Z Z Z (QQ (α:=LV) Zd Z (.d _))<|DU Z Z Z (Q4 Z Z Z)<|Q2<|Q1 ?_
 refine Qh (b:=(decide (s1 < (a0.vs.length:Int)))) Z (fun c13=>?_) (fun c13=>?_)
 replace h1:=Qe c13 h1
 refine Qi<|Q1<|Q3<|Qr<|Q3 ?_
 refine QE (fun (v14:Bool)=>⟨[(2,.v (.one (dI a2))),(3,.v (.one (.ptr 0 0))),(8,.v (.one (dI s1))),(60,.v (.one (dB v14)))],[(0,.cells 82 (cE a0))],[],1,61,[]⟩) (fun (v14:Bool)=>(cond v14
     (some (.done (.inr 23)))
     (some (.next (QG (s1+1)))))=some oo1) ?_ ?_
 refine Qq h1 (fun w2_ h2 h1=>?_)
 refine Q0<|DU Z Z Z (Q5 Yg Z)<|DU Z Z Z (Q7 Ki Z Z Z)<|DW Z Z Z ?_
 refine Qq h2 (fun x15 hx15 h2=>?_)
 refine DU Z Z Z (J1 (α:=LV) Zd Z (.d _) Z hx15)<|DU Z Z Z (Yn JF Z)<|DU Z Z Z (YJ QL Z Z)<|DU Z Z Z (Q4 Z Z Z)<|DW Z Z Z ?_
 refine Qn (d:=50) (c:=(decide (x15.1 < 0))) Z (fun c16=>?_) (fun c16=>?_)
 replace h2:=Qe c16 h2
 refine DU Z Z Z (Q5 Yg Z)<|DU Z Z Z (Q7 Ki Z Z Z)<|DW Z Z Z ?_
 refine Qq h2 (fun x17 hx17 h2=>?_)
 refine DU Z Z Z (J1 (α:=LV) Zd Z (.d _) Z hx17)<|DU Z Z Z (Yn JF Z)<|DU Z Z Z (YJ QL Z Z)<|DU Z Z Z (Q4 Z Z Z)<|DW Z Z Z<|DU Z Z Z (Q4 Z Z Z)<|DU Z Z Z (Qb Z Z)<|Q2 ?_
 have e:=DS h2;subst e
 exact Qa (decide (a2≤(QG ((-1) - x17.1)))) (DR (Nat.zero_le _) Z Z Z Z Z) h1
 replace h2:=Qf c16 h2
 refine Q6 Z Z<|Q6 Z Z<|Q6 Z Z<|Q6 Z Z<|Q6 Z Z<|Q6 Z Z<|Q6 Z Z<|Q6 Z Z<|Q6 Z Z<|DU Z Z Z (Qc Z Z)<|Q2 ?_
 have e:=DS h2;subst e
 exact Qa false (DR (Nat.zero_le _) Z Z Z Z Z) h1
 intro v14 h1
 refine Q1 ?_
 refine Qh (b:=v14) Z (fun c18=>?_) (fun c18=>?_)
 replace h1:=Qe c18 h1
 refine Q3<|Q0<|DX Z Z Z<|Q2<|Q1<|Qp ?_
 have e:=DS h1;subst e
 have e_:_=_:=ho1
 subst e_
 try dsimp only [Sum.elim_inl,Sum.elim_inr] at h0
 have e:=DS h0;subst e
 exact Qk (fun _ _ h=>h) Z (Qj Z .nil) (.cons (.one (.d _)) .nil)
 replace h1:=Qf c18 h1
 refine Qi<|Qy<|Q1<|Q0<|DW Z Z Z<|DU Z Z Z (Q4 Z Z Z)<|DX Z Z Z<|Q2 ?_
 have e:=DS h1;subst e
 refine J6 (QG (s1+1)) (DR (Nat.zero_le _) Z Z Z Z Z) ho1
 replace h1:=Qf c13 h1
 refine Jw<|QC<|QC ?_
 have e:=DS h1;subst e
 have e_:_=_:=ho1
 subst e_
 exact Jp () (DR (Nat.zero_le _) Z Z Z Z Z) h0
 intro o11 h0
 refine QZ<|Q1<|Q3<|Q0<|DX Z Z Z<|Q2<|Q1<|Qp ?_
 have e:=DS h0;subst e
 exact Qk (fun _ _ h=>h) Z (Qj Z .nil) (.cons (.one (.d _)) .nil)
def KQ (a0:Tm) (a3:Int) (a5:Int) (s1:Int):Option (LO Int (Unit⊕Int)) :=
 cond (decide (s1 < (a0.levels.length:Int)))
   (Option.bind (Jy a0.levels s1) fun (x8:Lvl) =>
 Option.bind (Uz x8 a3 a5) fun (x9:Int) =>
 cond (x9 != 0)
   (some (.done (.inr x9)))
   (some (.next (QG (s1+1)))))
   (some (.done (.inl ())))
def Z2 (a0:Tm) (rc:Tm×Int×Int×Int×Int×Int→Option Int) (a1:Int) (a2:Int) (a3:Int) (a4:Int) (a5:Int) (s1:Int):Option (LO Int (Unit⊕Int)) :=
 cond (decide (s1 < (a0.kids.length:Int)))
   (Option.bind (Jy a0.kids s1) fun (x13:Tm) =>
 Option.bind (W9 a0.kind s1) fun (x14:Int) =>
 Option.bind (rc (x13,(QG (a1+x14)),a2,a3,a4,a5)) fun (x15:Int) =>
 cond (x15 != 0)
   (some (.done (.inr x15)))
   (some (.next (QG (s1+1)))))
   (some (.done (.inl ())))
def Kn (p0_:Bool) (p1_:Tm) (p2_:Int) (p3_:Tm×Int×Int×Int×Int×Int→Option Int) (p4_:Int) (p5_:Int) (p6_:Int) (p7_:Int):Option Int :=
 cond p0_
   (some 24)
   (Option.bind (cond (p1_.kind==12)
   (cond (decide (p1_.index < 0))
   (some true)
   (some (decide (p2_≤p1_.index))))
   (some false)) (fun (b0_:Bool)=>cond b0_
   (some 23)
   (Option.bind (Qo (Z2 p1_ p3_ p4_ p5_ p6_ p2_ p7_) Qt 0) (Sum.elim (fun (b1_:Unit)=>some 0) (fun o=>some o)))))
def m65_k3 (p0_:Bool) (p1_:Tm) (p2_:Int) (p3_:Int) (p4_:Int) (p5_:Int) (p6_:Int) (p7_:Tm×Int×Int×Int×Int×Int→Option Int):Option Int :=
 cond p0_
   (some 29)
   (cond (decide (8 < (p1_.levels.length:Int)))
   (some 6)
   (Option.bind (Qo (KQ p1_ p2_ p3_) Qt 0) (Sum.elim (fun (b0_:Unit)=>Option.bind (cond (p1_.kind==0)
   (cond (decide (p1_.index < 0))
   (some true)
   (some (decide (p4_≤(QG (p1_.index - p5_))))))
   (some false)) (fun (b1_:Bool)=>Kn b1_ p1_ p6_ p7_ p5_ p4_ p2_ p3_)) (fun o=>some o))))
def Uu (rc:Tm×Int×Int×Int×Int×Int→Option Int) (a0:Tm) (a1:Int) (a2:Int) (a3:Int) (a4:Int) (a5:Int):Option Int :=
 Option.bind (Ue a0) fun (x1:Bool) =>
 cond (!x1)
   (some 3)
   (Option.bind (cond (a0.kind==3)
   (Option.bind (DE a0.name) fun (x5:Bool) =>
 some (!x5))
   (some false)) (fun (v3:Bool)=>m65_k3 v3 a0 a3 a5 a2 a1 a4 rc))
def XT (rc:Tm×Int×Int×Int×Int×Int→Option Int) (u:Tm×Int×Int×Int×Int×Int):Option Int:=Uu rc u.1 u.2.1 u.2.2.1 u.2.2.2.1 u.2.2.2.2.1 u.2.2.2.2.2
def m65 (a0:Tm) (a1:Int) (a2:Int) (a3:Int) (a4:Int) (a5:Int):Option Int:=Jc XT Qt (a0,a1,a2,a3,a4,a5)
theorem m65s_ok (rc:Tm×Int×Int×Int×Int×Int→Option Int) (H:∀ (a0:Tm) (a1:Int) (a2:Int) (a3:Int) (a4:Int) (a5:Int) (r:Int),rc (a0,a1,a2,a3,a4,a5)=some r→Fun Tryz.prog 65 [.agg (cE a0),.one (dI a1),.one (dI a2),.one (dI a3),.one (dI a4),.one (dI a5)] (Qu [.one (dI r)])) (a0:Tm) (a1:Int) (a2:Int) (a3:Int) (a4:Int) (a5:Int) (r:Int) (h0:Uu rc a0 a1 a2 a3 a4 a5=some r):Fun Tryz.prog 65 [.agg (cE a0),.one (dI a1),.one (dI a2),.one (dI a3),.one (dI a4),.one (dI a5)] (Qu [.one (dI r)]):=by
 unfold Uu at h0
 refine QF 9 107 Tryz.func65 Z en_65 Z (lb Z) (fun S w=>?_)
 simp only [QY]
 refine Q3<|Q0<|Qx Z Z (lb Z) (J9 Z)<|DX Z Z Z<|Q2<|Q1<|Q3<|Q3<|Q0<|DU Z Z Z (J0 (a0:Tm) YT Z Z) ?_
 refine Qq h0 (fun x1 hx1 h0=>?_)
 refine Qx Z Z (lb Z) (Qz (m115_ok a0 x1 hx1) Z (.cons (.agg (.cons (.d _) (.cons (.d _) (.cons (.d _) (.cons (.d _) (.cons (.d _) .nil)))))) .nil))<|DU Z Z Z (YI Z)<|Q2<|Q1 ?_
 refine Qh (b:=(!x1)) Z (fun c2=>?_) (fun c2=>?_)
 replace h0:=Qe c2 h0
 refine Q3<|Q0<|DX Z Z Z<|Q2<|Q1<|Qp ?_
 have e:=DS h0;subst e
 exact Qk (fun _ _ h=>h) Z (Qj Z .nil) (.cons (.one (.d _)) .nil)
 replace h0:=Qf c2 h0
 refine Qi<|Q1<|Q3<|Q3 ?_
 refine QE (fun (v3:Bool)=>⟨[(1,.v (.one (dI a1))),(2,.v (.one (dI a2))),(3,.v (.one (dI a3))),(4,.v (.one (dI a4))),(5,.v (.one (dI a5))),(6,.v (.one (.ptr 0 0))),(28,.v (.one (dB v3)))],[(0,.cells 25 (cE a0))],[],1,107,[]⟩) (fun (v3:Bool)=>(m65_k3 v3 a0 a3 a5 a2 a1 a4 rc)=some r) ?_ ?_
 refine Qq h0 (fun w1_ h1 h0=>?_)
 refine Q0<|DU Z Z Z (Q5 Ja Z)<|DU Z Z Z (Q7 QL Z Z Z)<|DU Z Z Z (Q4 Z Z Z)<|DW Z Z Z ?_
 refine Qn (d:=23) (c:=(a0.kind==3)) Z (fun c4=>?_) (fun c4=>?_)
 replace h1:=Qe c4 h1
 refine DU Z Z Z (Q5 Xc Z)<|DU Z Z Z (Q7 Df Z Z Z) ?_
 refine Qq h1 (fun x5 hx5 h1=>?_)
 refine Qx Z Z (lb Z) (Qz (m98_ok a0.name x5 hx5) Z (.cons (.one (.d _)) .nil))<|DU Z Z Z (YI Z)<|DU Z Z Z (Qb Z Z)<|Q2 ?_
 have e:=DS h1;subst e
 exact Qa (!x5) (DR (Nat.zero_le _) Z Z Z Z Z) h0
 replace h1:=Qf c4 h1
 refine Q6 Z Z<|Q6 Z Z<|Q6 Z Z<|Q6 Z Z<|DU Z Z Z (Qc Z Z)<|Q2 ?_
 have e:=DS h1;subst e
 exact Qa false (DR (Nat.zero_le _) Z Z Z Z Z) h0
 intro v3 h0
 unfold m65_k3 at h0
 refine Q1 ?_
 refine Qh (b:=v3) Z (fun c6=>?_) (fun c6=>?_)
 replace h0:=Qe c6 h0
 refine Q3<|Q0<|DX Z Z Z<|Q2<|Q1<|Qp ?_
 have e:=DS h0;subst e
 exact Qk (fun _ _ h=>h) Z (Qj Z .nil) (.cons (.one (.d _)) .nil)
 replace h0:=Qf c6 h0
 refine Qi<|Q1<|Q3<|Q3<|Q0<|DU Z Z Z (Q5 YF Z)<|DU Z Z Z (Q7 G4 Z Z Z)<|DU Z Z Z (QQ (α:=Lvl) K6 Z (.d _))<|DU Z Z Z (Q4 Z Z Z)<|Q2<|Q1 ?_
 refine Qh (b:=(decide (8 < (a0.levels.length:Int)))) Z (fun c7=>?_) (fun c7=>?_)
 replace h0:=Qe c7 h0
 refine Q3<|Q0<|DX Z Z Z<|Q2<|Q1<|Qp ?_
 have e:=DS h0;subst e
 exact Qk (fun _ _ h=>h) Z (Qj Z .nil) (.cons (.one (.d _)) .nil)
 replace h0:=Qf c7 h0
 refine Qi<|Q1<|Q3<|Q3<|Q0<|DX Z Z Z<|Q2<|Q1<|Qr ?_
 refine Jr 0 (fun (o8:Unit)=>⟨[(1,.v (.one (dI a1))),(2,.v (.one (dI a2))),(3,.v (.one (dI a3))),(4,.v (.one (dI a4))),(5,.v (.one (dI a5))),(6,.v (.one (.ptr 0 0)))],[(0,.cells 25 (cE a0))],[],1,107,[]⟩) (fun (o8:Unit)=>(Option.bind (cond (a0.kind==0)
     (cond (decide (a0.index < 0))
     (some true)
     (some (decide (a2≤(QG (a0.index - a1))))))
     (some false)) (fun (v9:Bool)=>Kn v9 a0 a4 rc a1 a2 a3 a5))=some r) ?_ ?_
 refine Qq h0 (fun o9 hl1 h0=>?_)
 refine Jq (KQ a0 a3 a5) (fun s1=>⟨[(1,.v (.one (dI a1))),(2,.v (.one (dI a2))),(3,.v (.one (dI a3))),(4,.v (.one (dI a4))),(5,.v (.one (dI a5))),(6,.v (.one (.ptr 0 0))),(13,.v (.one (dI s1)))],[(0,.cells 25 (cE a0))],[],1,107,[]⟩) 0 o9 (DR (Nat.zero_le _) Z Z Z Z Z) hl1 (fun s1 n1 oo1 h1 ho1=>?_)
 unfold KQ at h1
 refine Q3<|Q3<|Q0<|DW Z Z Z<|DU Z Z Z (Q5 YF Z)<|DU Z Z Z (Q7 G4 Z Z Z)<|DU Z Z Z (QQ (α:=Lvl) K6 Z (.d _))<|DU Z Z Z (Q4 Z Z Z)<|Q2<|Q1 ?_
 refine Qh (b:=(decide (s1 < (a0.levels.length:Int)))) Z (fun c10=>?_) (fun c10=>?_)
 replace h1:=Qe c10 h1
 refine Qi<|Q1<|Q3<|Qr<|Q3<|Q0<|DU Z Z Z (Q5 YF Z)<|DU Z Z Z (Q7 G4 Z Z Z)<|DW Z Z Z ?_
 refine Qq h1 (fun x11 hx11 h1=>?_)
 refine DU Z Z Z (J1 (α:=Lvl) K6 Z (.d _) Z hx11)<|DU Z Z Z (J5 (x11:Lvl) GP Z)<|DW Z Z Z<|DW Z Z Z ?_
 refine Qq h1 (fun x12 hx12 h1=>?_)
 refine Qx Z Z (lb Z) (Qz (m116_ok x11 a3 a5 x12 hx12) Z (.cons (.agg (.cons (.d _) (.cons (.d _) .nil))) (.cons (.one (.d _)) (.cons (.one (.d _)) .nil))))<|DX Z Z Z<|Q2<|Q1<|Q3<|Q0<|DW Z Z Z<|DU Z Z Z (Q4 Z Z Z)<|Q2<|Q1 ?_
 refine Qh (b:=(x12 != 0)) Z (fun c13=>?_) (fun c13=>?_)
 replace h1:=Qe c13 h1
 refine Q3<|Q0<|DW Z Z Z<|DX Z Z Z<|Q2<|Q1<|Qp ?_
 have e:=DS h1;subst e
 have e_:_=_:=ho1
 subst e_
 try dsimp only [Sum.elim_inl,Sum.elim_inr] at h0
 have e:=DS h0;subst e
 exact Qk (fun _ _ h=>h) Z (Qj Z .nil) (.cons (.one (.d _)) .nil)
 replace h1:=Qf c13 h1
 refine Qi<|Qy<|Q1<|Q0<|DW Z Z Z<|DU Z Z Z (Q4 Z Z Z)<|DX Z Z Z<|Q2 ?_
 have e:=DS h1;subst e
 refine J6 (QG (s1+1)) (DR (Nat.zero_le _) Z Z Z Z Z) ho1
 replace h1:=Qf c10 h1
 refine Jw<|QC<|QC ?_
 have e:=DS h1;subst e
 have e_:_=_:=ho1
 subst e_
 exact Jp () (DR (Nat.zero_le _) Z Z Z Z Z) h0
 intro o8 h0
 refine QZ<|Q1<|Q3<|Q3 ?_
 refine QE (fun (v14:Bool)=>⟨[(1,.v (.one (dI a1))),(2,.v (.one (dI a2))),(3,.v (.one (dI a3))),(4,.v (.one (dI a4))),(5,.v (.one (dI a5))),(6,.v (.one (.ptr 0 0))),(66,.v (.one (dB v14)))],[(0,.cells 25 (cE a0))],[],1,107,[]⟩) (fun (v14:Bool)=>(Kn v14 a0 a4 rc a1 a2 a3 a5)=some r) ?_ ?_
 refine Qq h0 (fun w1_ h1 h0=>?_)
 refine Q0<|DU Z Z Z (Q5 Ja Z)<|DU Z Z Z (Q7 QL Z Z Z)<|DU Z Z Z (Q4 Z Z Z)<|DW Z Z Z ?_
 refine Qn (d:=54) (c:=(a0.kind==0)) Z (fun c15=>?_) (fun c15=>?_)
 replace h1:=Qe c15 h1
 refine DU Z Z Z (Q5 Yh Z)<|DU Z Z Z (Q7 QL Z Z Z)<|DU Z Z Z (Q4 Z Z Z)<|DW Z Z Z ?_
 refine Qn (d:=58) (c:=(decide (a0.index < 0))) Z (fun c16=>?_) (fun c16=>?_)
 replace h1:=Qe c16 h1
 refine Q6 Z Z<|Q6 Z Z<|Q6 Z Z<|Q6 Z Z<|Q6 Z Z<|Q6 Z Z<|DU Z Z Z (Qb Z Z)<|DU Z Z Z (Qb Z Z)<|Q2 ?_
 have e:=DS h1;subst e
 exact Qa true (DR (Nat.zero_le _) Z Z Z Z Z) h0
 replace h1:=Qf c16 h1
 refine DU Z Z Z (Q5 Yh Z)<|DU Z Z Z (Q7 QL Z Z Z)<|DW Z Z Z<|DU Z Z Z (Q4 Z Z Z)<|DW Z Z Z<|DU Z Z Z (Q4 Z Z Z)<|DU Z Z Z (Qc Z Z)<|DU Z Z Z (Qb Z Z)<|Q2 ?_
 have e:=DS h1;subst e
 exact Qa (decide (a2≤(QG (a0.index - a1)))) (DR (Nat.zero_le _) Z Z Z Z Z) h0
 replace h1:=Qf c15 h1
 refine Q6 Z Z<|Q6 Z Z<|Q6 Z Z<|Q6 Z Z<|Q6 Z Z<|Q6 Z Z<|Q6 Z Z<|Q6 Z Z<|Q6 Z Z<|Q6 Z Z<|Q6 Z Z<|DU Z Z Z (Qc Z Z)<|Q2 ?_
 have e:=DS h1;subst e
 exact Qa false (DR (Nat.zero_le _) Z Z Z Z Z) h0
 intro v14 h0
 unfold Kn at h0
 refine Q1 ?_
 refine Qh (b:=v14) Z (fun c17=>?_) (fun c17=>?_)
 replace h0:=Qe c17 h0
 refine Q3<|Q0<|DX Z Z Z<|Q2<|Q1<|Qp ?_
 have e:=DS h0;subst e
 exact Qk (fun _ _ h=>h) Z (Qj Z .nil) (.cons (.one (.d _)) .nil)
 replace h0:=Qf c17 h0
 refine Qi<|Q1<|Q3<|Q3 ?_
 refine QE (fun (v18:Bool)=>⟨[(1,.v (.one (dI a1))),(2,.v (.one (dI a2))),(3,.v (.one (dI a3))),(4,.v (.one (dI a4))),(5,.v (.one (dI a5))),(6,.v (.one (.ptr 0 0))),(80,.v (.one (dB v18)))],[(0,.cells 25 (cE a0))],[],1,107,[]⟩) (fun (v18:Bool)=>(cond v18
     (some 23)
     (Option.bind (Qo (Z2 a0 rc a1 a2 a3 a4 a5) Qt 0) (Sum.elim (fun (o20:Unit)=>some 0) (fun o=>some o))))=some r) ?_ ?_
 refine Qq h0 (fun w1_ h1 h0=>?_)
 refine Q0<|DU Z Z Z (Q5 Ja Z)<|DU Z Z Z (Q7 QL Z Z Z)<|DU Z Z Z (Q4 Z Z Z)<|DW Z Z Z ?_
 refine Qn (d:=70) (c:=(a0.kind==12)) Z (fun c19=>?_) (fun c19=>?_)
 replace h1:=Qe c19 h1
 refine DU Z Z Z (Q5 Yh Z)<|DU Z Z Z (Q7 QL Z Z Z)<|DU Z Z Z (Q4 Z Z Z)<|DW Z Z Z ?_
 refine Qn (d:=74) (c:=(decide (a0.index < 0))) Z (fun c20=>?_) (fun c20=>?_)
 replace h1:=Qe c20 h1
 refine Q6 Z Z<|Q6 Z Z<|Q6 Z Z<|Q6 Z Z<|DU Z Z Z (Qb Z Z)<|DU Z Z Z (Qb Z Z)<|Q2 ?_
 have e:=DS h1;subst e
 exact Qa true (DR (Nat.zero_le _) Z Z Z Z Z) h0
 replace h1:=Qf c20 h1
 refine DU Z Z Z (Q5 Yh Z)<|DU Z Z Z (Q7 QL Z Z Z)<|DW Z Z Z<|DU Z Z Z (Q4 Z Z Z)<|DU Z Z Z (Qc Z Z)<|DU Z Z Z (Qb Z Z)<|Q2 ?_
 have e:=DS h1;subst e
 exact Qa (decide (a4≤a0.index)) (DR (Nat.zero_le _) Z Z Z Z Z) h0
 replace h1:=Qf c19 h1
 refine Q6 Z Z<|Q6 Z Z<|Q6 Z Z<|Q6 Z Z<|Q6 Z Z<|Q6 Z Z<|Q6 Z Z<|Q6 Z Z<|Q6 Z Z<|DU Z Z Z (Qc Z Z)<|Q2 ?_
 have e:=DS h1;subst e
 exact Qa false (DR (Nat.zero_le _) Z Z Z Z Z) h0
 intro v18 h0
 refine Q1 ?_
 refine Qh (b:=v18) Z (fun c21=>?_) (fun c21=>?_)
 replace h0:=Qe c21 h0
 refine Q3<|Q0<|DX Z Z Z<|Q2<|Q1<|Qp ?_
 have e:=DS h0;subst e
 exact Qk (fun _ _ h=>h) Z (Qj Z .nil) (.cons (.one (.d _)) .nil)
 replace h0:=Qf c21 h0
 refine Qi<|Q1<|Q3<|Q3<|Q0<|DX Z Z Z<|Q2<|Q1<|Qr ?_
 refine Jr 2 (fun (o22:Unit)=>⟨[],[(0,.cells 25 (cE a0))],[],1,107,[]⟩) (fun (o22:Unit)=>(some 0)=some r) ?_ ?_
 refine Qq h0 (fun o23 hl1 h0=>?_)
 refine Jq (Z2 a0 rc a1 a2 a3 a4 a5) (fun s1=>⟨[(1,.v (.one (dI a1))),(2,.v (.one (dI a2))),(3,.v (.one (dI a3))),(4,.v (.one (dI a4))),(5,.v (.one (dI a5))),(6,.v (.one (.ptr 0 0))),(15,.v (.one (dI s1)))],[(0,.cells 25 (cE a0))],[],1,107,[]⟩) 0 o23 (DR (Nat.zero_le _) Z Z Z Z Z) hl1 (fun s1 n1 oo1 h1 ho1=>?_)
 unfold Z2 at h1
 refine Q3<|Q3<|Q0<|DW Z Z Z<|DU Z Z Z (Q5 JR Z)<|DU Z Z Z (Q7 Zu Z Z Z)<|DU Z Z Z (QQ (α:=Tm) YY Z (.d _))<|DU Z Z Z (Q4 Z Z Z)<|Q2<|Q1 ?_
 refine Qh (b:=(decide (s1 < (a0.kids.length:Int)))) Z (fun c24=>?_) (fun c24=>?_)
 replace h1:=Qe c24 h1
 refine Qi<|Q1<|Q3<|Qr<|Q3 ?_
 refine YU [] [] mixed (by kernel_rfl) (by kernel_rfl) (by kernel_rfl) ?_
 refine RunA.rd Z Z Z (Q9 (Q5 JR Z)) Z<|RunA.rd Z Z Z (Q9 (Q7 Zu Z Z Z)) Z<|RunA.rd Z Z Z (Q9 (J2 Z)) Z ?_
 refine Qq h1 (fun x25 hx25 h1=>?_)
 refine RunA.rd Z Z Z (Q9 (J1 (α:=Tm) YY Z (.d _) Z hx25)) Z<|RunA.rd Z Z Z (Q9 (J5 (x25:Tm) YT Z)) Z<|RunA.rd Z Z Z (Q9 (J2 Z)) Z<|RunA.rd Z Z Z (Q9 (Q5 Ja Z)) Z<|RunA.rd Z Z Z (Q9 (Q7 QL Z Z Z)) Z<|RunA.rd Z Z Z (Q9 (J2 Z)) Z ?_
 refine Qq h1 (fun x26 hx26 h1=>?_)
 refine RunA.rd Z Z Z (Qz (m117_ok a0.kind s1 x26 hx26) Z (.cons (.one (.d _)) (.cons (.one (.d _)) .nil))) Z<|RunA.rd Z Z Z (Q9 (Q4 Z Z Z)) Z<|RunA.rd Z Z Z (Q9 (J2 Z)) Z<|RunA.rd Z Z Z (Q9 (J2 Z)) Z<|RunA.rd Z Z Z (Q9 (J2 Z)) Z<|RunA.rd Z Z Z (Q9 (J2 Z)) Z ?_
 refine Qq h1 (fun x27 hx27 h1=>?_)
 refine RunA.rd Z Z Z (Qz (H x25 (QG (a1+x26)) a2 a3 a4 a5 x27 hx27) Z (.cons (.agg (.cons (.d _) (.cons (.d _) (.cons (.d _) (.cons (.d _) (.cons (.d _) .nil)))))) (.cons (.one (.d _)) (.cons (.one (.d _)) (.cons (.one (.d _)) (.cons (.one (.d _)) (.cons (.one (.d _)) .nil))))))) Z<|RunA.rd Z Z Z (Q9 (RO.assign Z)) Z ?_
 refine RunA.nil ⟨?ex,_,_,Z,?_⟩
 case ex=>exact trivial
 refine XQ.less (st':=⟨[(1,.v (.one (dI a1))),(2,.v (.one (dI a2))),(3,.v (.one (dI a3))),(4,.v (.one (dI a4))),(5,.v (.one (dI a5))),(6,.v (.one (.ptr 0 0))),(15,.v (.one (dI s1))),(16,.v (.one (dI x27)))],[(0,.cells 25 (cE a0))],[],1,107,[]⟩) (DR (Nat.zero_le _) Z Z Z Z Z)<|Q1<|Q3<|Q0<|DW Z Z Z<|DU Z Z Z (Q4 Z Z Z)<|Q2<|Q1 ?_
 refine Qh (b:=(x27 != 0)) Z (fun c28=>?_) (fun c28=>?_)
 replace h1:=Qe c28 h1
 refine Q3<|Q0<|DW Z Z Z<|DX Z Z Z<|Q2<|Q1<|Qp ?_
 have e:=DS h1;subst e
 have e_:_=_:=ho1
 subst e_
 try dsimp only [Sum.elim_inl,Sum.elim_inr] at h0
 have e:=DS h0;subst e
 exact Qk (fun _ _ h=>h) Z (Qj Z .nil) (.cons (.one (.d _)) .nil)
 replace h1:=Qf c28 h1
 refine Qi<|Qy<|Q1<|Q0<|DW Z Z Z<|DU Z Z Z (Q4 Z Z Z)<|DX Z Z Z<|Q2 ?_
 have e:=DS h1;subst e
 refine J6 (QG (s1+1)) (DR (Nat.zero_le _) Z Z Z Z Z) ho1
 replace h1:=Qf c24 h1
 refine Jw<|QC<|QC ?_
 have e:=DS h1;subst e
 have e_:_=_:=ho1
 subst e_
 exact Jp () (DR (Nat.zero_le _) Z Z Z Z Z) h0
 intro o22 h0
 refine QZ<|Q1<|Q3<|Q0<|DX Z Z Z<|Q2<|Q1<|Qp ?_
 have e:=DS h0;subst e
 exact Qk (fun _ _ h=>h) Z (Qj Z .nil) (.cons (.one (.d _)) .nil)
theorem m65_all (n:Nat) (u:Tm×Int×Int×Int×Int×Int) (r:Int) (h0:Jc XT n u=some r):Fun Tryz.prog 65 [.agg (cE u.1),.one (dI u.2.1),.one (dI u.2.2.1),.one (dI u.2.2.2.1),.one (dI u.2.2.2.2.1),.one (dI u.2.2.2.2.2)] (Qu [.one (dI r)]) :=
 Y6 (C:=fun u r=>Fun Tryz.prog 65 [.agg (cE u.1),.one (dI u.2.1),.one (dI u.2.2.1),.one (dI u.2.2.2.1),.one (dI u.2.2.2.2.1),.one (dI u.2.2.2.2.2)] (Qu [.one (dI r)])) (fun rc H u r h=>m65s_ok rc (fun a0 a1 a2 a3 a4 a5 r h=>H (a0,a1,a2,a3,a4,a5) r h) u.1 u.2.1 u.2.2.1 u.2.2.2.1 u.2.2.2.2.1 u.2.2.2.2.2 r h) n u r h0
theorem m65_ok (a0:Tm) (a1:Int) (a2:Int) (a3:Int) (a4:Int) (a5:Int) (r:Int) (h0:m65 a0 a1 a2 a3 a4 a5=some r):Fun Tryz.prog 65 [.agg (cE a0),.one (dI a1),.one (dI a2),.one (dI a3),.one (dI a4),.one (dI a5)] (Qu [.one (dI r)]):=m65_all Qt (a0,a1,a2,a3,a4,a5) r h0
def GV (a0:Tm) (rc:Tm→Option Int) (s1:Int×Int):Option (LO (Int×Int) Int) :=
 cond (decide (s1.2 < (a0.kids.length:Int)))
   (Option.bind (Jy a0.kids s1.2) fun (x3:Tm) =>
 Option.bind (rc x3) fun (x4:Int) =>
 some (.next ((QG (s1.1+x4)),(QG (s1.2+1)))))
   (some (.done s1.1))
def D7 (rc:Tm→Option Int) (a0:Tm):Option Int :=
 Option.bind (Qo (GV a0 rc) Qt (1,0)) (fun (o1:Int)=>some o1)
def UM (rc:Tm→Option Int) (u:Tm):Option Int:=D7 rc u
def m66 (a0:Tm):Option Int:=Jc UM Qt a0
theorem m66s_ok (rc:Tm→Option Int) (H:∀ (a0:Tm) (r:Int),rc a0=some r→Fun Tryz.prog 66 [.agg (cE a0)] (Qu [.one (dI r)])) (a0:Tm) (r:Int) (h0:D7 rc a0=some r):Fun Tryz.prog 66 [.agg (cE a0)] (Qu [.one (dI r)]):=by
 unfold D7 at h0
 refine QF 9 21 Tryz.func66 Z en_66 Z (lb Z) (fun S w=>?_)
 simp only [QY]
 refine Q3<|Q0<|Qx Z Z (lb Z) (J9 Z)<|DX Z Z Z<|Q2<|Q1<|Q3<|Q0<|DX Z Z Z<|Q2<|Q1<|Q3<|Q3<|Q0 ?_
 refine DX Z Z Z<|Q2<|Q1<|Qr ?_
 refine Jr 0 (fun (o1:Int)=>⟨[(3,.v (.one (dI o1)))],[(0,.cells 25 (cE a0))],[],1,21,[]⟩) (fun (o1:Int)=>(some o1)=some r) ?_ ?_
 refine Qq h0 (fun o2 hl1 h0=>?_)
 refine Jq (GV a0 rc) (fun s1=>⟨[(1,.v (.one (.ptr 0 0))),(3,.v (.one (dI s1.1))),(4,.v (.one (dI s1.2)))],[(0,.cells 25 (cE a0))],[],1,21,[]⟩) (1,0) o2 (DR (Nat.zero_le _) Z Z Z Z Z) hl1 (fun s1 n1 oo1 h1 ho1=>?_)
 unfold GV at h1
 refine Q3<|Q3<|Q0<|DW Z Z Z<|DU Z Z Z (Q5 JR Z)<|DU Z Z Z (Q7 Zu Z Z Z)<|DU Z Z Z (QQ (α:=Tm) YY Z (.d _))<|DU Z Z Z (Q4 Z Z Z)<|Q2<|Q1 ?_
 refine Qh (b:=(decide (s1.2 < (a0.kids.length:Int)))) Z (fun c3=>?_) (fun c3=>?_)
 replace h1:=Qe c3 h1
 refine Qi<|Q1<|Q3<|Qr<|Q0<|DW Z Z Z<|DU Z Z Z (Q5 JR Z)<|DU Z Z Z (Q7 Zu Z Z Z)<|DW Z Z Z ?_
 refine Qq h1 (fun x4 hx4 h1=>?_)
 refine DU Z Z Z (J1 (α:=Tm) YY Z (.d _) Z hx4)<|DU Z Z Z (J5 (x4:Tm) YT Z) ?_
 refine Qq h1 (fun x5 hx5 h1=>?_)
 refine Qx Z Z (lb Z) (Qz (H x4 x5 hx5) Z (.cons (.agg (.cons (.d _) (.cons (.d _) (.cons (.d _) (.cons (.d _) (.cons (.d _) .nil)))))) .nil))<|DU Z Z Z (Q4 Z Z Z)<|DX Z Z Z<|Q2<|Qy<|Q1<|Q0<|DW Z Z Z<|DU Z Z Z (Q4 Z Z Z)<|DX Z Z Z<|Q2 ?_
 have e:=DS h1;subst e
 refine J6 ((QG (s1.1+x5)),(QG (s1.2+1))) (DR (Nat.zero_le _) Z Z Z Z Z) ho1
 replace h1:=Qf c3 h1
 refine Jw<|QC<|QC ?_
 have e:=DS h1;subst e
 have e_:_=_:=ho1
 subst e_
 exact Jp s1.1 (DR (Nat.zero_le _) Z Z Z Z Z) h0
 intro o1 h0
 refine QZ<|Q1<|Q3<|Q0<|DW Z Z Z<|DX Z Z Z<|Q2<|Q1<|Qp ?_
 have e:=DS h0;subst e
 exact Qk (fun _ _ h=>h) Z (Qj Z .nil) (.cons (.one (.d _)) .nil)
theorem m66_all (n:Nat) (u:Tm) (r:Int) (h0:Jc UM n u=some r):Fun Tryz.prog 66 [.agg (cE u)] (Qu [.one (dI r)]) :=
 Y6 (C:=fun u r=>Fun Tryz.prog 66 [.agg (cE u)] (Qu [.one (dI r)])) (fun rc H u r h=>m66s_ok rc (fun a0 r h=>H a0 r h) u r h) n u r h0
theorem m66_ok (a0:Tm) (r:Int) (h0:m66 a0=some r):Fun Tryz.prog 66 [.agg (cE a0)] (Qu [.one (dI r)]):=m66_all Qt a0 r h0
def Xr (a0:Tm) (rc:Tm→Option Int) (s1:Int×Int):Option (LO (Int×Int) Int) :=
 cond (decide (s1.2 < (a0.kids.length:Int)))
   (Option.bind (Jy a0.kids s1.2) fun (x3:Tm) =>
 Option.bind (rc x3) fun (x4:Int) =>
 some (.next ((max s1.1 x4),(QG (s1.2+1)))))
   (some (.done s1.1))
def D5 (rc:Tm→Option Int) (a0:Tm):Option Int :=
 Option.bind (Qo (Xr a0 rc) Qt (0,0)) (fun (o1:Int)=>some (QG (o1+1)))
def D6 (rc:Tm→Option Int) (u:Tm):Option Int:=D5 rc u
def m67 (a0:Tm):Option Int:=Jc D6 Qt a0
theorem m67s_ok (rc:Tm→Option Int) (H:∀ (a0:Tm) (r:Int),rc a0=some r→Fun Tryz.prog 67 [.agg (cE a0)] (Qu [.one (dI r)])) (a0:Tm) (r:Int) (h0:D5 rc a0=some r):Fun Tryz.prog 67 [.agg (cE a0)] (Qu [.one (dI r)]):=by
 unfold D5 at h0
 refine QF 9 22 Tryz.func67 Z en_67 Z (lb Z) (fun S w=>?_)
 simp only [QY]
 refine Q3<|Q0<|Qx Z Z (lb Z) (J9 Z)<|DX Z Z Z<|Q2<|Q1<|Q3<|Q0<|DX Z Z Z<|Q2<|Q1<|Q3<|Q3<|Q0 ?_
 refine DX Z Z Z<|Q2<|Q1<|Qr ?_
 refine Jr 0 (fun (o1:Int)=>⟨[(3,.v (.one (dI o1)))],[(0,.cells 25 (cE a0))],[],1,22,[]⟩) (fun (o1:Int)=>(some (QG (o1+1)))=some r) ?_ ?_
 refine Qq h0 (fun o2 hl1 h0=>?_)
 refine Jq (Xr a0 rc) (fun s1=>⟨[(1,.v (.one (.ptr 0 0))),(3,.v (.one (dI s1.1))),(4,.v (.one (dI s1.2)))],[(0,.cells 25 (cE a0))],[],1,22,[]⟩) (0,0) o2 (DR (Nat.zero_le _) Z Z Z Z Z) hl1 (fun s1 n1 oo1 h1 ho1=>?_)
 unfold Xr at h1
 refine Q3<|Q3<|Q0<|DW Z Z Z<|DU Z Z Z (Q5 JR Z)<|DU Z Z Z (Q7 Zu Z Z Z)<|DU Z Z Z (QQ (α:=Tm) YY Z (.d _))<|DU Z Z Z (Q4 Z Z Z)<|Q2<|Q1 ?_
 refine Qh (b:=(decide (s1.2 < (a0.kids.length:Int)))) Z (fun c3=>?_) (fun c3=>?_)
 replace h1:=Qe c3 h1
 refine Qi<|Q1<|Q3<|Qr<|Q0<|DW Z Z Z<|DU Z Z Z (Q5 JR Z)<|DU Z Z Z (Q7 Zu Z Z Z)<|DW Z Z Z ?_
 refine Qq h1 (fun x4 hx4 h1=>?_)
 refine DU Z Z Z (J1 (α:=Tm) YY Z (.d _) Z hx4)<|DU Z Z Z (J5 (x4:Tm) YT Z) ?_
 refine Qq h1 (fun x5 hx5 h1=>?_)
 refine Qx Z Z (lb Z) (Qz (H x4 x5 hx5) Z (.cons (.agg (.cons (.d _) (.cons (.d _) (.cons (.d _) (.cons (.d _) (.cons (.d _) .nil)))))) .nil))<|DU Z Z Z (Kl Z Z)<|DX Z Z Z<|Q2<|Qy<|Q1<|Q0<|DW Z Z Z<|DU Z Z Z (Q4 Z Z Z)<|DX Z Z Z<|Q2 ?_
 have e:=DS h1;subst e
 refine J6 ((max s1.1 x5),(QG (s1.2+1))) (DR (Nat.zero_le _) Z Z Z Z Z) ho1
 replace h1:=Qf c3 h1
 refine Jw<|QC<|QC ?_
 have e:=DS h1;subst e
 have e_:_=_:=ho1
 subst e_
 exact Jp s1.1 (DR (Nat.zero_le _) Z Z Z Z Z) h0
 intro o1 h0
 refine QZ<|Q1<|Q3<|Q0<|DW Z Z Z<|DU Z Z Z (Q4 Z Z Z)<|DX Z Z Z<|Q2<|Q1<|Qp ?_
 have e:=DS h0;subst e
 exact Qk (fun _ _ h=>h) Z (Qj Z .nil) (.cons (.one (.d _)) .nil)
theorem m67_all (n:Nat) (u:Tm) (r:Int) (h0:Jc D6 n u=some r):Fun Tryz.prog 67 [.agg (cE u)] (Qu [.one (dI r)]) :=
 Y6 (C:=fun u r=>Fun Tryz.prog 67 [.agg (cE u)] (Qu [.one (dI r)])) (fun rc H u r h=>m67s_ok rc (fun a0 r h=>H a0 r h) u r h) n u r h0
theorem m67_ok (a0:Tm) (r:Int) (h0:m67 a0=some r):Fun Tryz.prog 67 [.agg (cE a0)] (Qu [.one (dI r)]):=m67_all Qt a0 r h0
def Dn (a0:Tm) (a1:Int) (a2:Int) (a3:Int) (a4:Int):Option Int :=
 Option.bind (m65 a0 0 (max a1 0) a2 a3 a4) fun (x1:Int) =>
 cond (x1 != 0)
   (some x1)
   (Option.bind (m66 a0) fun (x3:Int) =>
 cond (decide (4096 < x3))
   (some 5)
   (Option.bind (m67 a0) fun (x5:Int) =>
 cond (decide (200 < x5))
   (some 7)
   (some 0)))
theorem m31_ok (a0:Tm) (a1:Int) (a2:Int) (a3:Int) (a4:Int) (r:Int) (h0:Dn a0 a1 a2 a3 a4=some r):Fun Tryz.prog 31 [.agg (cE a0),.one (dI a1),.one (dI a2),.one (dI a3),.one (dI a4)] (Qu [.one (dI r)]):=by
 unfold Dn at h0
 refine QF 9 28 Tryz.func31 Z en_31 Z (lb Z) (fun S w=>?_)
 simp only [QY]
 refine Q3<|Q0<|Qx Z Z (lb Z) (J9 Z)<|DX Z Z Z<|Q2<|Q1<|Q3<|Q3<|Q0<|DU Z Z Z (J0 (a0:Tm) YT Z Z)<|DW Z Z Z<|DU Z Z Z (Kl Z Z)<|DW Z Z Z<|DW Z Z Z ?_
 refine DW Z Z Z ?_
 refine Qq h0 (fun x1 hx1 h0=>?_)
 refine Qx Z Z (lb Z) (Qz (m65_ok a0 0 (max a1 0) a2 a3 a4 x1 hx1) Z (.cons (.agg (.cons (.d _) (.cons (.d _) (.cons (.d _) (.cons (.d _) (.cons (.d _) .nil)))))) (.cons (.one (.d _)) (.cons (.one (.d _)) (.cons (.one (.d _)) (.cons (.one (.d _)) (.cons (.one (.d _)) .nil)))))))<|DX Z Z Z<|Q2<|Q1<|Q3<|Q0<|DW Z Z Z<|DU Z Z Z (Q4 Z Z Z)<|Q2<|Q1 ?_
 refine Qh (b:=(x1 != 0)) Z (fun c2=>?_) (fun c2=>?_)
 replace h0:=Qe c2 h0
 refine Q3<|Q0<|DW Z Z Z<|DX Z Z Z<|Q2<|Q1<|Qp ?_
 have e:=DS h0;subst e
 exact Qk (fun _ _ h=>h) Z (Qj Z .nil) (.cons (.one (.d _)) .nil)
 replace h0:=Qf c2 h0
 refine Qi<|Q1<|Q3<|Q3<|Q0<|DU Z Z Z (J0 (a0:Tm) YT Z Z) ?_
 refine Qq h0 (fun x3 hx3 h0=>?_)
 refine Qx Z Z (lb Z) (Qz (m66_ok a0 x3 hx3) Z (.cons (.agg (.cons (.d _) (.cons (.d _) (.cons (.d _) (.cons (.d _) (.cons (.d _) .nil)))))) .nil))<|DU Z Z Z (Q4 Z Z Z)<|Q2<|Q1 ?_
 refine Qh (b:=(decide (4096 < x3))) Z (fun c4=>?_) (fun c4=>?_)
 replace h0:=Qe c4 h0
 refine Q3<|Q0<|DX Z Z Z<|Q2<|Q1<|Qp ?_
 have e:=DS h0;subst e
 exact Qk (fun _ _ h=>h) Z (Qj Z .nil) (.cons (.one (.d _)) .nil)
 replace h0:=Qf c4 h0
 refine Qi<|Q1<|Q3<|Q3<|Q0<|DU Z Z Z (J0 (a0:Tm) YT Z Z) ?_
 refine Qq h0 (fun x5 hx5 h0=>?_)
 refine Qx Z Z (lb Z) (Qz (m67_ok a0 x5 hx5) Z (.cons (.agg (.cons (.d _) (.cons (.d _) (.cons (.d _) (.cons (.d _) (.cons (.d _) .nil)))))) .nil))<|DU Z Z Z (Q4 Z Z Z)<|Q2<|Q1 ?_
 refine Qh (b:=(decide (200 < x5))) Z (fun c6=>?_) (fun c6=>?_)
 replace h0:=Qe c6 h0
 refine Q3<|Q0<|DX Z Z Z<|Q2<|Q1<|Qp ?_
 have e:=DS h0;subst e
 exact Qk (fun _ _ h=>h) Z (Qj Z .nil) (.cons (.one (.d _)) .nil)
 replace h0:=Qf c6 h0
 refine Qi<|Q1<|Q3<|Q0<|DX Z Z Z<|Q2<|Q1<|Qp ?_
 have e:=DS h0;subst e
 exact Qk (fun _ _ h=>h) Z (Qj Z .nil) (.cons (.one (.d _)) .nil)
noncomputable def k118:KF UV:=⟨[.stc .t82],[.bool],fun v=>Ud v⟩
theorem k118_ok:Ya DV W0 Tryz.prog 118 k118:=⟨rfl,fun v r h=>Xk (Eq.mp (show _=Fun Tryz.prog 118 (QO DV k118.args v) (Qu (QO DV k118.res r)) from by kernel_rfl) (m118_ok v r h))⟩
noncomputable def k31:KF UV:=⟨[.stc .t25,.int .i64,.int .i64,.int .i64,.int .i64],[.int .i64],fun v=>Dn (v.1) (v.2.1) (v.2.2.1) (v.2.2.2.1) (v.2.2.2.2)⟩
theorem k31_ok:Ya DV W0 Tryz.prog 31 k31:=⟨rfl,fun v r h=>Xk (Eq.mp (show _=Fun Tryz.prog 31 (QO DV k31.args v) (Qu (QO DV k31.res r)) from by kernel_rfl) (m31_ok (v.1) (v.2.1) (v.2.2.1) (v.2.2.2.1) (v.2.2.2.2) r h))⟩
end Go.Proofs.YtjcfppnjamjjhaaGreatDoor
namespace Go.Proofs.YtjcfppnjamjjhaaGreatDoor
open Go.RowKit Go.Shelf
theorem Ys {n:Int} (h1:-9223372036854775808≤n) (h2:n≤9223372036854775807):QG n=n:=IntWalk.i64_in n ⟨h1,h2⟩
theorem XX {k:Nat} (h:k≤1000000000):QG ((k:Int)+1)=((k+1:Nat):Int):=by rw [Ys (by omega) (by omega)];rfl
theorem Kd {α:Type} (a:List α) (x:α) (b:List α):Jy (a++x::b) (a.length:Int)=some x:=by
 show (a++x::b)[a.length]?=some x
 simp
theorem Gi {α:Type} (a:List α) (x:α) (b:List α):decide ((a.length:Int) < ((a++x::b).length:Int))=true:=by
 rw [decide_eq_true_eq,List.length_append,List.length_cons];omega
theorem mid_lt {α:Type} {l a b:List α} {x:α} (h:l=a++x::b):a.length < l.length:=by rw [h,List.length_append,List.length_cons];omega
theorem KG (a b:Int):(a==b)=decide (a=b):=by
 by_cases h:a=b
 ·rw [decide_eq_true h];exact beq_iff_eq.2 h
 ·rw [decide_eq_false h,Bool.eq_false_iff];exact fun h'=>h (beq_iff_eq.1 h')
theorem JD {α:Type} (a:List α):decide ((a.length:Int) < (a.length:Int))=false:=by simp
theorem Yk {α σ τ β:Type} {step:τ→Option (LO τ β)} (l:List α) (mk:Int→σ→τ) (I:List α→σ→Prop) (Q:β→Prop) (hlen:l.length≤900000000)
  (hin:∀ (a:List α) (x:α) (b:List α) (s:σ),l=a++x::b→I a s →
   (∃ r,step (mk (a.length:Int) s)=some (.done r)∧Q r)∨∃ s',step (mk (a.length:Int) s)=some (.next (mk (QG ((a.length:Int)+1)) s'))∧I (a++[x]) s')
  (hout:∀ s,I l s→∃ r,step (mk (l.length:Int) s)=some (.done r)∧Q r) (s0:σ) (h0:I [] s0):∃ r,Qo step Qt (mk 0 s0)=some r∧Q r:=by
 have key:∀ (b a:List α) (s:σ) (n:Nat),l=a++b→b.length < n→I a s→∃ r,Qo step n (mk (a.length:Int) s)=some r∧Q r:=by
  intro b
  induction b with
  | nil =>
   intro a s n hl hn hI
   rw [List.append_nil] at hl
   subst hl
   obtain ⟨r,h1,h2⟩:=hout s hI
   cases n with
   | zero=>omega
   | succ n=>exact ⟨r,by simp only [Qo,h1],h2⟩
  | cons x b ih =>
   intro a s n hl hn hI
   cases n with
   | zero=>omega
   | succ n =>
    rcases hin a x b s hl hI with ⟨r,h1,h2⟩ | ⟨s',h1,h2⟩
    ·exact ⟨r,by simp only [Qo,h1],h2⟩
    ·have hal:a.length≤900000000:=by rw [hl,List.length_append] at hlen;omega
     rw [XX (by omega)] at h1
     obtain ⟨r,h3,h4⟩:=ih (a++[x]) s' n (by rw [hl,List.append_assoc];rfl) (by simp only [List.length_cons] at hn;omega) h2
     refine ⟨r,?_,h4⟩
     simp only [Qo,h1]
     rw [List.length_append] at h3
     exact h3
 exact key l [] s0 Qt rfl (by unfold Qt;omega) h0
theorem Gw {α:Type} (f:α→Nat) {x:α}:∀ {l:List α},x∈l→f x≤(l.map f).sum
 | y::l,h=>by
  rw [List.map_cons,List.sum_cons]
  rcases List.mem_cons.1 h with rfl | h
  ·omega
  ·have:=Gw f h;omega
def lvz (l:Lvl):Nat:=1+(l.vs.map fun _=>1).sum
def ir (n:Int):Nat:=if -9223372036854775808≤n∧n≤9223372036854775807 then 0 else 10000000000
theorem ir_in {n:Int} (h:ir n≤1000000000):-9223372036854775808≤n∧n≤9223372036854775807:=by
 unfold ir at h
 split at h
 ·assumption
 ·omega
def Tm.size:Tm→Nat
 | .mk _ i n ls ks=>1+ir i+n.length+(ls.map lvz).sum+(ks.attach.map fun k=>Tm.size k.1).sum
termination_by t=>SizeOf.sizeOf t
decreasing_by
 have:=List.sizeOf_lt_of_mem k.2
 simp only [Tm.mk.sizeOf_spec];omega
theorem Tm.size_eq (t:Tm):t.size=1+ir t.index+t.name.length+(t.levels.map lvz).sum+(t.kids.map Tm.size).sum:=by
 cases t
 rw [Tm.size,List.attach_map_val];rfl
theorem Js {t k:Tm} (h:k∈t.kids):k.size < t.size:=by
 have:=Gw Tm.size h
 rw [t.size_eq];omega
theorem Tm.ind {C:Tm→Prop} (h:∀ t:Tm,(∀ k∈t.kids,C k)→C t) (t:Tm):C t:=by
 have:∀ n (t:Tm),t.size≤n→C t:=by
  intro n
  induction n with
  | zero=>intro t ht;rw [t.size_eq] at ht;omega
  | succ n ih=>exact fun t ht=>h t fun k hk=>ih k (by have:=Js hk;omega)
 exact this _ t (Nat.le_refl _)
theorem ZW (t:Tm):t.kids.length < t.size:=by
 rw [t.size_eq]
 have:∀ l:List Tm,l.length≤(l.map Tm.size).sum:=by
  intro l
  induction l with
  | nil=>exact Nat.le_refl _
  | cons x l ih =>
   rw [List.map_cons,List.sum_cons,List.length_cons]
   have:=x.size_eq
   omega
 have:=this t.kids
 omega
theorem sum_split {α:Type} (f:α→Nat) (a:List α) (x:α) (b:List α):((a++x::b).map f).sum=(a.map f).sum+f x+(b.map f).sum:=by simp;omega
theorem beqB (a b:Bs):(a==b)=decide (a=b):=by
 by_cases h:a=b
 ·rw [decide_eq_true h];exact beq_iff_eq.2 h
 ·rw [decide_eq_false h,Bool.eq_false_iff];exact fun h'=>h (beq_iff_eq.1 h')
theorem Xb {α:Type} (g:α→Nat) (hg:∀ x,1≤g x):∀ l:List α,l.length≤(l.map g).sum
 | []=>Nat.le_refl _
 | x::l=>by
  rw [List.map_cons,List.sum_cons,List.length_cons]
  have:=hg x
  have:=Xb g hg l
  omega
theorem loop_any {α σ τ β:Type} {step:τ→Option (LO τ β)} (l:List α) (mk:Int→σ→τ) (hlen:l.length≤900000000)
  (hin:∀ (a:List α) (x:α) (b:List α) (s:σ),l=a++x::b→(∃ r,step (mk (a.length:Int) s)=some (.done r))∨∃ s',step (mk (a.length:Int) s)=some (.next (mk (QG ((a.length:Int)+1)) s')))
  (hout:∀ s,∃ r,step (mk (l.length:Int) s)=some (.done r)) (s0:σ):∃ r,Qo step Qt (mk 0 s0)=some r:=by
 obtain ⟨r,h,-⟩:=Yk l mk (fun _ _=>True) (fun _=>True) hlen (fun a x b s e _=>(hin a x b s e).elim (fun ⟨r,h⟩=>.inl ⟨r,h,trivial⟩) (fun ⟨s',h⟩=>.inr ⟨s',h,trivial⟩)) (fun s _=>let ⟨r,h⟩:=hout s;⟨r,h,trivial⟩) s0 trivial
 exact ⟨r,h⟩
theorem depth_some:∀ (n:Nat) (t:Tm),t.size≤n→t.size≤900000000→∃ r,Jc D6 n t=some r
 | 0,t,h,_=>by rw [t.size_eq] at h;omega
 | n+1,t,h,h2=>by
  show ∃ r,D5 (Jc D6 n) t=some r
  unfold D5
  have hl:=ZW t
  obtain ⟨r,e⟩:=loop_any (step:=Xr t (Jc D6 n)) t.kids (fun i (s:Int)=>(s,i)) (by omega)
   (fun a x b s e=>by
    have hx:=Js (t:=t) (k:=x) (by rw [e];simp)
    obtain ⟨r,hr⟩:=depth_some n x (by omega) (by omega)
    refine .inr ⟨max s r,?_⟩
    unfold Xr
    dsimp only
    rw [e,Gi,Kd]
    simp only [cond_true,Option.bind_some]
    rw [hr];rfl) (fun s=>⟨s,by unfold Xr;dsimp only;rw [JD];rfl⟩) 0
  rw [e];exact ⟨_,rfl⟩
end Go.Proofs.YtjcfppnjamjjhaaGreatDoor
namespace Go.Proofs.YtjcfppnjamjjhaaGreatDoor
open Go.RowKit Go.Shelf
def Dh {α σ β:Type} (f:σ→α→σ⊕β) (e:σ→β):List α→σ→β
 | [],s=>e s
 | x::l,s=>Sum.elim (fun s'=>Dh f e l s') (fun r=>r) (f s x)
theorem loop_sm {α σ τ β:Type} {step:τ→Option (LO τ β)} (l:List α) (mk:Int→σ→τ) (f:σ→α→σ⊕β) (e:σ→β) (I:List α→σ→Prop) (hlen:l.length≤900000000)
  (hin:∀ (a:List α) (x:α) (b:List α) (s:σ),l=a++x::b→I a s→step (mk (a.length:Int) s)=some (Sum.elim (fun s'=>.next (mk (QG ((a.length:Int)+1)) s')) .done (f s x))∧∀ s',f s x=.inl s'→I (a++[x]) s')
  (hout:∀ s,I l s→step (mk (l.length:Int) s)=some (.done (e s))) (s0:σ) (h0:I [] s0):Qo step Qt (mk 0 s0)=some (Dh f e l s0):=by
 obtain ⟨r,h1,h2⟩:=Yk (step:=step) l mk (fun a s=>I a s∧∀ b,l=a++b→Dh f e l s0=Dh f e b s) (fun r=>r=Dh f e l s0) hlen
  (fun a x b s hl hI=>by
   obtain ⟨h3,h4⟩:=hin a x b s hl hI.1
   have h5:=hI.2 (x::b) hl
   cases hf:f s x with
   | inl s' =>
    refine .inr ⟨s',by rw [h3,hf];rfl,h4 s' hf,fun b' hb=>?_⟩
    have:b'=b:=by
     rw [hl,List.append_assoc] at hb
     exact (List.cons.inj (List.append_cancel_left hb)).2.symm
    rw [this,h5,Dh,hf];rfl
   | inr r=>exact .inl ⟨r,by rw [h3,hf];rfl,by rw [h5,Dh,hf];rfl⟩)
  (fun s hI=>⟨e s,hout s hI.1,by rw [hI.2 [] (by simp)];rfl⟩) s0 ⟨h0,fun b hb=>by rw [List.nil_append] at hb;rw [hb]⟩
 rw [h1,h2]
theorem loop_bad {α β:Type} {step:Int→Option (LO Int β)} (l:List α) (bad:List α→α→Prop) (r0 r1:β) (hlen:l.length≤900000000)
  (hin:∀ (a:List α) (x:α) (b:List α),l=a++x::b→(bad a x→step (a.length:Int)=some (.done r0))∧(¬ bad a x→step (a.length:Int)=some (.next (QG ((a.length:Int)+1)))))
  (hout:step (l.length:Int)=some (.done r1)):∃ r,Qo step Qt 0=some r∧((r=r1∧∀ a x b,l=a++x::b→¬ bad a x)∨(r=r0∧∃ a x b,l=a++x::b∧bad a x)):=by
 refine Yk (step:=step) l (fun i (_:Unit)=>i) (fun a _=>∀ a' x b',a=a'++x::b'→¬ bad a' x) (fun r=>(r=r1∧∀ a x b,l=a++x::b→¬ bad a x)∨(r=r0∧∃ a x b,l=a++x::b∧bad a x)) hlen
  (fun a x b s hl hI=>?_) (fun s hI=>⟨r1,hout,.inl ⟨rfl,hI⟩⟩) () (fun a' x b' h=>by cases a' <;> cases h)
 by_cases hb:bad a x
 ·exact .inl ⟨r0,(hin a x b hl).1 hb,.inr ⟨rfl,a,x,b,hl,hb⟩⟩
 ·refine .inr ⟨(),(hin a x b hl).2 hb,fun a' y b' h=>?_⟩
  rcases List.append_eq_append_iff.1 h with ⟨c,h1,h2⟩ | ⟨c,h1,h2⟩
  ·cases c with
   | nil =>
    rw [List.nil_append] at h2
    cases h2
    rw [List.append_nil] at h1
    rw [h1];exact hb
   | cons z c =>
    exfalso
    have:=congrArg List.length h2
    simp at this
  ·cases c with
   | nil =>
    rw [List.nil_append] at h2
    cases h2
    rw [List.append_nil] at h1
    rw [← h1];exact hb
   | cons z c =>
    rw [List.cons_append] at h2
    cases h2
    exact hI a' y c h1
def GY (c:Int):Bool:=(decide (97≤c)&&decide (c≤122))||(decide (65≤c)&&decide (c≤90))||(c==95)
theorem m135_eq (c:Int):D9 ⟨c⟩=some (GY c):=by
 unfold D9 GY
 cases decide (97≤c) <;> cases decide (c≤122) <;> cases decide (65≤c) <;> cases decide (c≤90) <;> rfl
theorem m133_eq (c:Int):Da ⟨c⟩=some (GY c):=m135_eq c
def Dp (st:Bool) (b:UInt8):Bool⊕(Bool⊕Bool) :=
 if GY (b.toNat:Int)=true then .inl false else if st=true then .inr (.inr false) else if (b.toNat:Int)=46 then .inl true else
  if (b.toNat:Int) < 48∨57 < (b.toNat:Int) then (if (b.toNat:Int)=39 then .inl st else .inr (.inr false)) else .inl st
def DC (s:Bs):Bool⊕Bool:=Dh Dp .inl s true
theorem m110_l0_eq (s:Bs) (h:s.length≤900000000):Qo (KV s) Qt (true,0)=some (DC s):=by
 refine loop_sm (step:=KV s) s (fun i (st:Bool)=>(st,i)) Dp .inl (fun _ _=>True) h (fun a x b st e _=>⟨?_,fun _ _=>trivial⟩) (fun st _=>by unfold KV;dsimp only;rw [JD];rfl) true trivial
 unfold KV Dp
 dsimp only
 rw [e,Gi,Kd]
 simp only [cond_true,Option.bind_some]
 rw [m135_eq,Option.bind_some]
 cases GY (x.toNat:Int) with
 | true=>rfl
 | false =>
  cases st with
  | true=>rfl
  | false =>
   simp only [cond_false,KG,Bool.false_eq_true,if_false]
   by_cases h1:(x.toNat:Int)=46
   ·rw [decide_eq_true h1,if_pos h1];rfl
   ·rw [decide_eq_false h1,if_neg h1,cond_false]
    by_cases h2:(x.toNat:Int) < 48
    ·rw [decide_eq_true h2,if_pos (Or.inl h2)]
     by_cases h4:(x.toNat:Int)=39
     ·rw [if_pos h4,h4];rfl
     ·rw [if_neg h4]
      have:((x.toNat:Int) != 39)=true:=bne_iff_ne.2 h4
      simp only [cond_true,Option.bind_some,this];rfl
    ·rw [decide_eq_false h2]
     by_cases h3:57 < (x.toNat:Int)
     ·rw [decide_eq_true h3,if_pos (Or.inr h3)]
      by_cases h4:(x.toNat:Int)=39
      ·omega
      ·rw [if_neg h4]
       have:((x.toNat:Int) != 39)=true:=bne_iff_ne.2 h4
       simp only [cond_true,cond_false,Option.bind_some,this];rfl
     ·rw [decide_eq_false h3,if_neg (by omega)];rfl
theorem m98_l0_eq (s:Bs) (h:s.length≤900000000):Qo (Gf s) Qt (true,0)=some (DC s):=by
 refine loop_sm (step:=Gf s) s (fun i (st:Bool)=>(st,i)) Dp .inl (fun _ _=>True) h (fun a x b st e _=>⟨?_,fun _ _=>trivial⟩) (fun st _=>by unfold Gf;dsimp only;rw [JD];rfl) true trivial
 unfold Gf Dp
 dsimp only
 rw [e,Gi,Kd]
 simp only [cond_true,Option.bind_some]
 rw [m133_eq,Option.bind_some]
 cases st with
 | true=>cases GY (x.toNat:Int) <;> rfl
 | false =>
  simp only [cond_false,KG,Bool.false_eq_true,if_false]
  by_cases h1:(x.toNat:Int)=46
  ·rw [decide_eq_true h1,if_pos h1,if_neg (by rw [h1];decide)];rfl
  ·rw [decide_eq_false h1,if_neg h1,cond_false]
   cases GY (x.toNat:Int) with
   | true=>rfl
   | false =>
    rw [Option.bind_some,if_neg (by decide)]
    simp only [Bool.not_false,cond_true]
    by_cases h4:(x.toNat:Int)=39
    ·have:((x.toNat:Int) != 39)=false:=by rw [h4];rfl
     simp only [cond_false,Option.bind_some,this,if_pos h4]
     split <;> rfl
    ·have:((x.toNat:Int) != 39)=true:=bne_iff_ne.2 h4
     simp only [cond_true,this,if_neg h4]
     by_cases h2:(x.toNat:Int) < 48
     ·rw [decide_eq_true h2,if_pos (Or.inl h2)];rfl
     ·rw [decide_eq_false h2]
      by_cases h3:57 < (x.toNat:Int)
      ·rw [decide_eq_true h3,if_pos (Or.inr h3)];rfl
      ·rw [decide_eq_false h3,if_neg (by omega)];rfl
theorem nm_false:∀ (s:Bs) (st b:Bool),Dh Dp .inl s st=.inr b→b=false
 | [],st,b,h=>by cases h
 | x::s,st,b,h=>by
  rw [Dh] at h
  cases hf:Dp st x with
  | inl st'=>rw [hf] at h;exact nm_false s st' b h
  | inr r =>
   rw [hf] at h
   unfold Dp at hf
   have:r=.inr false:=by
    revert hf
    repeat' split
    all_goals intro hf;cases hf;try rfl
   rw [this] at h
   cases h;rfl
def KO (s:Bs):Bool:=Sum.elim (fun st=>!st&&decide ((s.length:Int)≤64)) (fun b=>b) (DC s)
theorem m110_eq (s:Bs) (h:s.length≤900000000):Uf s=some (KO s):=by
 unfold Uf KO
 rw [m110_l0_eq s h,Option.bind_some]
 cases DC s with
 | inl st=>cases st <;> rfl
 | inr b=>rfl
theorem m98_eq (s:Bs) (h:s.length≤900000000):DE s=some (KO s):=by
 unfold DE KO
 rw [beqB,m98_l0_eq s h]
 by_cases h0:s=[]
 ·subst h0;rfl
 ·rw [decide_eq_false h0,cond_false]
  by_cases h1:64 < (s.length:Int)
  ·rw [decide_eq_true h1,decide_eq_false (by omega)]
   cases hn:DC s with
   | inl st=>cases st <;> rfl
   | inr b=>have:=nm_false s true b hn;subst this;rfl
  ·rw [decide_eq_false h1,decide_eq_true (by omega)]
   cases hn:DC s with
   | inl st=>cases st <;> rfl
   | inr b=>rfl
end Go.Proofs.YtjcfppnjamjjhaaGreatDoor
namespace Go.Proofs.YtjcfppnjamjjhaaGreatDoor
open Go.RowKit Go.Shelf
theorem idx_some {α:Type} {l:List α} {i:Int} (h0:0≤i) (h1:i < (l.length:Int)):∃ x,Jy l i=some x:=by
 cases i with
 | ofNat k=>exact ⟨l[k]'(by have:(Int.ofNat k) < (l.length:Int):=h1;simp at this;omega),List.getElem?_eq_getElem _⟩
 | negSucc k=>omega
def Wc (l:Lvl) (a:List LV) (x:LV):Prop:=x.1 < -65536∨7 < x.1∨x.2 < 0∨100 < x.2∨(0 < a.length∧∃ y,Jy l.vs (QG ((a.length:Int) - 1))=some y∧x.1≤y.1)
theorem prev_some {l:List LV} {a:List LV} {x:LV} {b:List LV} (h:l.length≤900000000) (e:l=a++x::b) (ha:0 < a.length):∃ y,Jy l (QG ((a.length:Int) - 1))=some y:=by
 have:=mid_lt e
 rw [Ys (by omega) (by omega)]
 exact idx_some (by omega) (by omega)
theorem m211_eq (l:List LV) (u:Lvl) (h:l.length≤900000000):∃ b,W8 l u=some b∧(b=true↔∃ x∈l,u.c≤x.2):=by
 have h1:∃ r,Qo (YM l u) Qt 0=some r∧((r=.inl ())∧(∀ x∈l,¬ u.c≤x.2)∨∃ k:Nat,r=.inr (k:Int)∧∃ x∈l,u.c≤x.2):=by
  refine Yk (step:=YM l u) l (fun i (_:Unit)=>i) (fun a _=>∀ x∈a,¬ u.c≤x.2) (fun r=>((r=.inl ())∧(∀ x∈l,¬ u.c≤x.2)∨∃ k:Nat,r=.inr (k:Int)∧∃ x∈l,u.c≤x.2)) h
   (fun a x b s e hI=>?_) (fun s hI=>⟨.inl (),by unfold YM;rw [JD];rfl,.inl ⟨rfl,hI⟩⟩) () (fun x hx=>by cases hx)
  by_cases hx:u.c≤x.2
  ·refine .inl ⟨.inr (a.length:Int),?_,.inr ⟨a.length,rfl,x,by rw [e];simp,hx⟩⟩
   unfold YM
   rw [e,Gi,Kd]
   show cond (decide (u.c≤x.2)) _ _=_
   rw [decide_eq_true hx];rfl
  ·refine .inr ⟨(),?_,fun y hy=>?_⟩
   ·unfold YM
    rw [e,Gi,Kd]
    show cond (decide (u.c≤x.2)) _ _=_
    rw [decide_eq_false hx];rfl
   ·rcases List.mem_append.1 hy with hy | hy
    ·exact hI y hy
    ·rw [List.mem_singleton.1 hy];exact hx
 obtain ⟨r,h2,h3⟩:=h1
 unfold W8 m211f1
 rw [h2]
 rcases h3 with ⟨rfl,h4⟩ | ⟨k,rfl,h4⟩
 ·exact ⟨false,rfl,⟨fun h=>(by cases h),fun ⟨x,hx,h⟩=>(h4 x hx h).elim⟩⟩
 ·refine ⟨true,?_,⟨fun _=>h4,fun _=>rfl⟩⟩
  show some (decide ((0:Int)≤(k:Int)))=_
  rw [decide_eq_true (by omega)]
def Wb (l:Lvl):Prop:=0≤l.c∧l.c≤100∧(0 < l.c→∀ x∈l.vs,¬ l.c≤x.2)∧∀ a x b,l.vs=a++x::b→¬ Wc l a x
theorem m136_eq (l:Lvl) (h:l.vs.length≤900000000):∃ b,Ub l=some b∧(b=true↔Wb l):=by
 have hloop:=loop_bad (β:=Unit⊕Bool) (step:=K8 l) l.vs (Wc l) (.inr false) (.inl ()) h (fun a x b e=>by
  have hprev:=fun ha=>prev_some (x:=x) (b:=b) h e ha
  have:K8 l (a.length:Int)=Option.bind (cond (decide (x.1 < (-65536))) (some true) (cond (decide (7 < x.1)) (some true) (cond (decide (x.2 < 0)) (some true) (cond (decide (100 < x.2)) (some true)
    (cond (decide (0 < (a.length:Int))) (Option.bind (Jy l.vs (QG ((a.length:Int) - 1))) fun (x12:LV)=>some (decide (x.1≤x12.1))) (some false)))))) (fun (v6:Bool)=>cond v6 (some (.done (.inr false))) (some (.next (QG ((a.length:Int)+1))))):=by
   unfold K8
   have e2:l.vs=a++x::b:=e
   rw [show decide ((a.length:Int) < (l.vs.length:Int))=true from by rw [e2];exact Gi a x b,show Jy l.vs (a.length:Int)=some x from by rw [e2];exact Kd a x b]
   rfl
  rw [this]
  unfold Wc
  by_cases c1:x.1 < -65536
  ·rw [decide_eq_true c1];exact ⟨fun _=>rfl,fun h=>(h (.inl c1)).elim⟩
  rw [decide_eq_false c1,cond_false]
  by_cases c2:7 < x.1
  ·rw [decide_eq_true c2];exact ⟨fun _=>rfl,fun h=>(h (.inr (.inl c2))).elim⟩
  rw [decide_eq_false c2,cond_false]
  by_cases c3:x.2 < 0
  ·rw [decide_eq_true c3];exact ⟨fun _=>rfl,fun h=>(h (.inr (.inr (.inl c3)))).elim⟩
  rw [decide_eq_false c3,cond_false]
  by_cases c4:100 < x.2
  ·rw [decide_eq_true c4];exact ⟨fun _=>rfl,fun h=>(h (.inr (.inr (.inr (.inl c4))))).elim⟩
  rw [decide_eq_false c4,cond_false]
  by_cases c5:0 < a.length
  ·rw [decide_eq_true (show 0 < (a.length:Int) by omega),cond_true]
   obtain ⟨y,hy⟩:=hprev c5
   rw [hy,Option.bind_some]
   by_cases c6:x.1≤y.1
   ·rw [decide_eq_true c6];exact ⟨fun _=>rfl,fun h=>(h (.inr (.inr (.inr (.inr ⟨c5,y,rfl,c6⟩))))).elim⟩
   ·rw [decide_eq_false c6]
    refine ⟨fun h=>?_,fun _=>rfl⟩
    rcases h with h | h | h | h | ⟨-,z,hz,h⟩
    ·exact (c1 h).elim
    ·exact (c2 h).elim
    ·exact (c3 h).elim
    ·exact (c4 h).elim
    ·cases hz;exact (c6 h).elim
  ·rw [decide_eq_false (show ¬ 0 < (a.length:Int) by omega)]
   refine ⟨fun h=>?_,fun _=>rfl⟩
   rcases h with h | h | h | h | ⟨h,-⟩
   ·exact (c1 h).elim
   ·exact (c2 h).elim
   ·exact (c3 h).elim
   ·exact (c4 h).elim
   ·exact (c5 h).elim) (by unfold K8;rw [JD];rfl)
 obtain ⟨r,h1,h2⟩:=hloop
 obtain ⟨b,h3,h4⟩:=m211_eq l.vs l h
 unfold Ub
 rw [h3,h1]
 by_cases c1:l.c < 0
 ·rw [decide_eq_true c1];exact ⟨false,rfl,⟨fun h=>(Bool.false_ne_true h).elim,fun h=>by have:=h.1;omega⟩⟩
 rw [decide_eq_false c1,cond_false]
 by_cases c2:100 < l.c
 ·rw [decide_eq_true c2];exact ⟨false,rfl,⟨fun h=>(Bool.false_ne_true h).elim,fun h=>by have:=h.2.1;omega⟩⟩
 rw [decide_eq_false c2,cond_false]
 have key:(∃ x,(0 < l.c∧(∃ x∈l.vs,l.c≤x.2)→x=false)∧(¬ (0 < l.c∧∃ x∈l.vs,l.c≤x.2)→Option.bind (some r) (Sum.elim (fun (o3:Unit)=>some true) (fun o=>some o))=some x)∧cond (decide (0 < l.c)) (Option.bind (Option.bind (some b) fun (x7:Bool)=>some x7) (fun (y5:Bool)=>some y5)) (some false)=some (decide (0 < l.c∧∃ x∈l.vs,l.c≤x.2))∧(x=true→r=.inl ())∧(¬ (0 < l.c∧∃ x∈l.vs,l.c≤x.2)→r=.inl ()→x=true)):=by
  by_cases c3:0 < l.c
  ·rw [decide_eq_true c3]
   cases b with
   | true =>
    have h5:=h4.1 rfl
    exact ⟨false,fun _=>rfl,fun h=>(h ⟨c3,h5⟩).elim,by rw [decide_eq_true ⟨c3,h5⟩];rfl,fun h=>(by cases h),fun h=>(h ⟨c3,h5⟩).elim⟩
   | false =>
    have h5:¬ ∃ x∈l.vs,l.c≤x.2:=fun h=>by have:=h4.2 h;cases this
    rcases h2 with ⟨rfl,-⟩ | ⟨rfl,-⟩
    ·exact ⟨true,fun h=>(h5 h.2).elim,fun _=>rfl,by rw [decide_eq_false fun h=>h5 h.2];rfl,fun _=>rfl,fun _ _=>rfl⟩
    ·exact ⟨false,fun h=>(h5 h.2).elim,fun _=>rfl,by rw [decide_eq_false fun h=>h5 h.2];rfl,fun h=>(by cases h),fun _ h=>by cases h⟩
  ·rw [decide_eq_false c3]
   rcases h2 with ⟨rfl,-⟩ | ⟨rfl,-⟩
   ·exact ⟨true,fun h=>(c3 h.1).elim,fun _=>rfl,by rw [decide_eq_false fun h=>c3 h.1];rfl,fun _=>rfl,fun _ _=>rfl⟩
   ·exact ⟨false,fun h=>(c3 h.1).elim,fun _=>rfl,by rw [decide_eq_false fun h=>c3 h.1];rfl,fun h=>(by cases h),fun _ h=>by cases h⟩
 obtain ⟨x,k1,k2,k3,k4,k5⟩:=key
 rw [k3,Option.bind_some]
 by_cases c4:0 < l.c∧∃ x∈l.vs,l.c≤x.2
 ·rw [decide_eq_true c4]
  refine ⟨false,Z,fun h=>(Bool.false_ne_true h).elim,fun h=>?_⟩
  obtain ⟨y,hy,hy2⟩:=c4.2
  exact (h.2.2.1 c4.1 y hy hy2).elim
 ·rw [decide_eq_false c4]
  refine ⟨x,k2 c4,fun h=>?_,fun h=>?_⟩
  ·have h6:=k4 h
   rcases h2 with ⟨-,h7⟩ | ⟨h7,-⟩
   ·exact ⟨by omega,by omega,fun h8 y hy h9=>c4 ⟨h8,y,hy,h9⟩,h7⟩
   ·rw [h7] at h6;cases h6
  ·refine k5 c4 ?_
   rcases h2 with ⟨h7,-⟩ | ⟨-,a,y,c,h7,h8⟩
   ·exact h7
   ·exact (h.2.2.2 a y c h7 h8).elim
theorem m118_eq (l:Lvl) (h:l.vs.length≤900000000):∃ b,Ud l=some b∧(b=true↔Wb l):=by
 have hloop:=loop_bad (β:=Unit⊕Bool) (step:=K9 l) l.vs (fun a x=>Wc l a x∨(0 < l.c∧l.c≤x.2)) (.inr false) (.inl ()) h (fun a x b e=>by
  have hprev:=fun ha=>prev_some (x:=x) (b:=b) h e ha
  have:K9 l (a.length:Int)=Option.bind (cond (decide (x.1 < (-65536))) (some true) (cond (decide (8≤x.1)) (some true) (cond (decide (x.2 < 0)) (some true) (some (decide (100 < x.2)))))) (fun (v6:Bool)=>m118_k0 v6 (a.length:Int) l x):=by
   unfold K9
   have e2:l.vs=a++x::b:=e
   rw [show decide ((a.length:Int) < (l.vs.length:Int))=true from by rw [e2];exact Gi a x b,show Jy l.vs (a.length:Int)=some x from by rw [e2];exact Kd a x b]
   rfl
  rw [this]
  unfold Wc
  by_cases c1:x.1 < -65536
  ·rw [decide_eq_true c1];exact ⟨fun _=>rfl,fun h=>(h (.inl (.inl c1))).elim⟩
  rw [decide_eq_false c1,cond_false]
  by_cases c2:7 < x.1
  ·rw [decide_eq_true (show 8≤x.1 by omega)];exact ⟨fun _=>rfl,fun h=>(h (.inl (.inr (.inl c2)))).elim⟩
  rw [decide_eq_false (show ¬ 8≤x.1 by omega),cond_false]
  by_cases c3:x.2 < 0
  ·rw [decide_eq_true c3];exact ⟨fun _=>rfl,fun h=>(h (.inl (.inr (.inr (.inl c3))))).elim⟩
  rw [decide_eq_false c3,cond_false]
  by_cases c4:100 < x.2
  ·rw [decide_eq_true c4];exact ⟨fun _=>rfl,fun h=>(h (.inl (.inr (.inr (.inr (.inl c4)))))).elim⟩
  rw [decide_eq_false c4,Option.bind_some]
  show (_→Option.bind (cond (decide (0 < (a.length:Int))) (Option.bind (Jy l.vs (QG ((a.length:Int) - 1))) fun (b0_:LV)=>some (decide (x.1≤b0_.1))) (some false)) _=_)∧(_→Option.bind (cond (decide (0 < (a.length:Int))) (Option.bind (Jy l.vs (QG ((a.length:Int) - 1))) fun (b0_:LV)=>some (decide (x.1≤b0_.1))) (some false)) _=_)
  have hlast:∀ (hno:¬ (0 < a.length∧∃ y,Jy l.vs (QG ((a.length:Int) - 1))=some y∧x.1≤y.1)),((((x.1 < -65536∨7 < x.1∨x.2 < 0∨100 < x.2∨(0 < a.length∧∃ y,Jy l.vs (QG ((a.length:Int) - 1))=some y∧x.1≤y.1)))∨(0 < l.c∧l.c≤x.2))→Option.bind (cond (decide (0 < l.c)) (some (decide (l.c≤x.2))) (some false)) (fun (b2_:Bool)=>(cond b2_ (some (.done (.inr false))) (some (.next (QG ((a.length:Int)+1)))):Option (LO Int (Unit⊕Bool))))=some (.done (.inr false:Unit⊕Bool)))∧(¬ (((x.1 < -65536∨7 < x.1∨x.2 < 0∨100 < x.2∨(0 < a.length∧∃ y,Jy l.vs (QG ((a.length:Int) - 1))=some y∧x.1≤y.1)))∨(0 < l.c∧l.c≤x.2))→Option.bind (cond (decide (0 < l.c)) (some (decide (l.c≤x.2))) (some false)) (fun (b2_:Bool)=>(cond b2_ (some (.done (.inr false))) (some (.next (QG ((a.length:Int)+1)))):Option (LO Int (Unit⊕Bool))))=some (.next (β:=Unit⊕Bool) (QG ((a.length:Int)+1)))):=by
   intro hno
   by_cases c7:0 < l.c
   ·rw [decide_eq_true c7]
    by_cases c8:l.c≤x.2
    ·rw [decide_eq_true c8];exact ⟨fun _=>rfl,fun h=>(h (.inr ⟨c7,c8⟩)).elim⟩
    ·rw [decide_eq_false c8]
     refine ⟨fun h=>?_,fun _=>rfl⟩
     rcases h with (h | h | h | h | h) | ⟨-,h⟩
     ·exact (c1 h).elim
     ·exact (c2 h).elim
     ·exact (c3 h).elim
     ·exact (c4 h).elim
     ·exact (hno h).elim
     ·exact (c8 h).elim
   ·rw [decide_eq_false c7]
    refine ⟨fun h=>?_,fun _=>rfl⟩
    rcases h with (h | h | h | h | h) | ⟨h,-⟩
    ·exact (c1 h).elim
    ·exact (c2 h).elim
    ·exact (c3 h).elim
    ·exact (c4 h).elim
    ·exact (hno h).elim
    ·exact (c7 h).elim
  by_cases c5:0 < a.length
  ·rw [decide_eq_true (show 0 < (a.length:Int) by omega),cond_true]
   obtain ⟨y,hy⟩:=hprev c5
   rw [hy,Option.bind_some]
   rw [hy] at hlast
   by_cases c6:x.1≤y.1
   ·rw [decide_eq_true c6];exact ⟨fun _=>rfl,fun h=>(h (.inl (.inr (.inr (.inr (.inr ⟨c5,y,rfl,c6⟩)))))).elim⟩
   ·rw [decide_eq_false c6]
    exact hlast fun ⟨_,z,hz,h⟩=>by cases hz;exact c6 h
  ·rw [decide_eq_false (show ¬ 0 < (a.length:Int) by omega)]
   exact hlast fun h=>c5 h.1) (by unfold K9;rw [JD];rfl)
 obtain ⟨r,h1,h2⟩:=hloop
 unfold Ud
 rw [h1]
 by_cases c1:l.c < 0
 ·rw [decide_eq_true c1];exact ⟨false,rfl,⟨fun h=>(Bool.false_ne_true h).elim,fun h=>by have:=h.1;omega⟩⟩
 rw [decide_eq_false c1,cond_false]
 by_cases c2:100 < l.c
 ·rw [decide_eq_true c2];exact ⟨false,rfl,⟨fun h=>(Bool.false_ne_true h).elim,fun h=>by have:=h.2.1;omega⟩⟩
 rw [decide_eq_false c2,Option.bind_some,cond_false]
 rcases h2 with ⟨rfl,h3⟩ | ⟨rfl,a,x,b,e,h3⟩
 ·refine ⟨true,rfl,fun _=>⟨by omega,by omega,fun h4 y hy h5=>?_,fun a x b e h4=>h3 a x b e (.inl h4)⟩,fun _=>rfl⟩
  obtain ⟨a,b,e⟩:=List.append_of_mem hy
  exact h3 a y b e (.inr ⟨h4,h5⟩)
 ·refine ⟨false,rfl,fun h=>(Bool.false_ne_true h).elim,fun h4=>?_⟩
  rcases h3 with h3 | ⟨h3,h5⟩
  ·exact (h4.2.2.2 a x b e h3).elim
  ·exact (h4.2.2.1 h3 x (by rw [e];simp) h5).elim
theorem lv_same (l:Lvl) (h:l.vs.length≤900000000):∃ b,Ub l=some b∧Ud l=some b∧(b=true→Wb l):=by
 obtain ⟨b,h1,h2⟩:=m136_eq l h
 obtain ⟨c,h3,h4⟩:=m118_eq l h
 have:b=c:=Bool.eq_iff_iff.2 (h2.trans h4.symm)
 exact ⟨b,h1,by rw [this];exact h3,h2.1⟩
end Go.Proofs.YtjcfppnjamjjhaaGreatDoor
