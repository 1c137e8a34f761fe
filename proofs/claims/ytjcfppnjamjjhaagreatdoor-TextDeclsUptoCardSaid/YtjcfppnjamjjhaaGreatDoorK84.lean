/- Part 4 of the proof: rules, mirrors and plain laws. The card of TextDecls (second form) is proved here: for every declaration the law returns true, and the arguments read behind the call as they did before; conditions: what is read is of bulk at most 1048576, and the listed package-level variables hold what the text of the program lays (tied). -/
import Derived.Test.YtjcfppnjamjjhaaGreatDoorK83
import Derived.Shelf.Strings.Builder1
import Derived.Lib.LaidTab
import Derived.Lib.ItoaNum
import Derived.Lib.AtoiErrMem
set_option maxHeartbeats 2000000
set_option maxRecDepth 100000
set_option linter.unusedSimpArgs false
set_option linter.unusedVariables false
set_option linter.unusedSectionVars false
namespace Go.Proofs.YtjcfppnjamjjhaaGreatDoor
section
open Go.RowKit
section
variable (U:Univ)
inductive BX where
 | stc (T:TypeId) (t:U.T)
 | bld (T E:TypeId) (t:U.T)
end
section
variable {U:Univ} (D:Codec U)
@[reducible] def BX.Ty:BX U→Type
 | .stc _ t=>U.R t
 | .bld _ _ t=>List (U.R t)
def BX.n:BX U→Nat
 | .stc _ _=>1
 | .bld _ _ _=>2
def BX.rs:BX U→List Nat
 | .stc _ _=>[0]
 | .bld _ _ _=>[0,1]
def Dj:(x:BX U)→x.Ty→TMe U
 | .stc T t,v=>⟨[.box 0 T [.grp t v]],[],1⟩
 | .bld T E t,v=>⟨[.box 0 T [.one (.ptr 0 0),.one (.app 1 0)]],[(1,⟨E,t,v,0⟩)],2⟩
def Q99 (m:TMe U) (i:Nat):(x:BX U)→Option (x.Ty×List Nat)
 | .stc T t=>match Zd m.es i with
  | some (T',N)=>cond (Nat.beq T' T&&Nat.beq N (U.E t).sz) (match Wc D m.es i 0 N with
   | some xs=>match Q0p D m.tk t xs with
    | some v=>some (v,[i])
    | none=>none
   | none=>none) none
  | none=>none
 | .bld T E t=>match Zd m.es i with
  | some (T',N)=>cond (Nat.beq T' T&&Nat.beq N 2) (match Wc D m.es i 0 2 with
   | some [.one (.ptr i' off),.one (.app j ver)]=>match cur m.tk j ver with
    | some tok=>cond (Nat.beq i' i&&(Nat.beq off 0&&(Nat.beq tok.E E&&!(Nat.beq E 0)))) (match KO tok.t t tok.l with
     | some l=>some (l,[i,j])
     | none=>none) none
    | none=>none
   | _=>none) none
  | none=>none
def Q6i (m:TMe U) (i:Nat) (rs:List Nat):(x:BX U)→x.Ty→TMe U
 | .stc _ t,v=>⟨.set i 0 [.grp t v]::m.es,m.tk,m.nx⟩
 | .bld _ E t,v=>⟨.set i 1 [.one (.app (rs.getD 1 0) (J0 m.tk (rs.getD 1 0)))]::m.es,(rs.getD 1 0,⟨E,t,v,J0 m.tk (rs.getD 1 0)⟩)::m.tk,m.nx⟩
def Q9v (m:TMe U) (i:Nat) (rs:List Nat):BX U→Bool
 | .stc _ _=>Kr rs&&(rs.all (fun j=>Nat.blt j m.nx)&&(Qcq m.tk i).isNone)
 | .bld _ _ _=>Kr rs&&(rs.all (fun j=>Nat.blt j m.nx)&&((Qcq m.tk i).isNone&&(m.es.all (K1 (rs.getD 1 0))&&!(m.es.any (Ev.hasApp (rs.getD 1 0) (J0 m.tk (rs.getD 1 0)))))))
def Gl:(x:BX U)→x.Ty→Nat→Nat→HB
 | .stc T t,v,_,_=>.cells T (((U.E t).enc v).map .d)
 | .bld T E t,v,i,j=>.cells T [.ptr i 0,.app j (U.E t).sz ((U.E t).encL v)]
def Gk:(x:BX U)→x.Ty→Nat→List (Nat×Option Tok)
 | .stc _ _,_,_=>[]
 | .bld _ E t,v,j=>[(j,(⟨E,t,v,0⟩:TTok U).erO)]
variable {D}
theorem Q67 (hD:D.OK) (x:BX U) (v:x.Ty):(Dj x v).er D=⟨[(0,Gl x v 0 1)],Gk x v 1,x.n⟩:=by
 cases x with
 | stc T t =>
  show (⟨[(0,.cells T (Jm D [] [It.grp t v]))],[],1⟩:Mem)=_
  rw [Dt hD];rfl
 | bld T E t=>rfl
theorem cbox_ren (ρ:Nat→Nat) (x:BX U) (v:x.Ty) (i j:Nat):(Gl x v i j).ren ρ=Gl x v (ρ i) (ρ j):=by
 cases x with
 | stc T t =>
  show HB.cells T ((((U.E t).enc v).map CA.d).map (CA.ren ρ))=_
  rw [List.map_map];rfl
 | bld T E t=>rfl
theorem Uh {ys:List CA} {n:Nat} (h:ys.length=n):(ys.drop 0).take n=ys:=by
 rw [List.drop_zero,List.take_of_length_le (by omega)]
theorem Q51 (hD:D.OK) {m:TMe U} {i:Nat} {x:BX U} {v:x.Ty} {rs:List Nat} (h:Q99 D m i x=some (v,rs)) :
  (∃ A,Qcq (m.er D).hp i=some A∧∀ V w o,A.rel V w o→(Gl x v i (rs.getD 1 0)).rel V w o)∧(∀ k T,Qcq (Gk x v (rs.getD 1 0)) k=some (some T)→Qcq (m.er D).tk k=some (some T))∧rs.length=x.n∧rs.getD 0 0=i:=by
 cases x with
 | stc T t =>
  have h':(match Zd m.es i with
   | some (T',N)=>cond (Nat.beq T' T&&Nat.beq N (U.E t).sz) (match Wc D m.es i 0 N with
    | some xs=>match Q0p D m.tk t xs with
     | some v=>some (v,[i])
     | none=>none
    | none=>none) none
   | none=>none)=some (v,rs):=h
  split at h'
  ·rename_i T' N hb
   cases hc:(Nat.beq T' T&&Nat.beq N (U.E t).sz) with
   | false=>rw [hc] at h';cases h'
   | true =>
    rw [hc,cond_true] at h'
    obtain ⟨c1,c2⟩:=Bool.and_eq_true_iff.1 hc
    have e1:=Nat.eq_of_beq_eq_true c1
    subst e1
    split at h'
    ·rename_i xs hr
     split at h'
     ·rename_i v' hv;cases h'
      obtain ⟨ys,b1,b2⟩:=Yo hD (tk:=m.tk) hb
      obtain ⟨T2,zs,r1,r2,r3⟩:=Yr hD (tk:=m.tk) hr
      rw [b1] at r1;cases r1
      rw [Uh b2] at r3
      refine ⟨⟨_,b1,fun V w o hr=>BW.rel (.cells ?_) hr⟩,(fun k T hk=>by cases hk),rfl,rfl⟩
      rw [r3]
      exact csubs_LW (Du hD hv)
     ·cases h'
    ·cases h'
  ·cases h'
 | bld T E t =>
  have h':(match Zd m.es i with
   | some (T',N)=>cond (Nat.beq T' T&&Nat.beq N 2) (match Wc D m.es i 0 2 with
    | some [.one (.ptr i' off),.one (.app j ver)]=>match cur m.tk j ver with
     | some tok=>cond (Nat.beq i' i&&(Nat.beq off 0&&(Nat.beq tok.E E&&!(Nat.beq E 0)))) (match KO tok.t t tok.l with
      | some l=>some (l,[i,j])
      | none=>none) none
     | none=>none
    | _=>none) none
   | none=>none)=some (v,rs):=h
  split at h'
  ·rename_i T' N hb
   cases hc:(Nat.beq T' T&&Nat.beq N 2) with
   | false=>rw [hc] at h';cases h'
   | true =>
    rw [hc,cond_true] at h'
    obtain ⟨c1,c2⟩:=Bool.and_eq_true_iff.1 hc
    have e1:=Nat.eq_of_beq_eq_true c1
    have e2:=Nat.eq_of_beq_eq_true c2
    subst e1;subst e2
    split at h'
    ·rename_i i' off j ver hr
     split at h'
     ·rename_i tok hcur
      cases hq:(Nat.beq i' i&&(Nat.beq off 0&&(Nat.beq tok.E E&&!(Nat.beq E 0)))) with
      | false=>rw [hq] at h';cases h'
      | true =>
       rw [hq,cond_true] at h'
       obtain ⟨q1,q23⟩:=Bool.and_eq_true_iff.1 hq
       obtain ⟨q2,q3⟩:=Bool.and_eq_true_iff.1 q23
       have f1:=Nat.eq_of_beq_eq_true q1
       have f2:=Nat.eq_of_beq_eq_true q2
       obtain ⟨q3,q4⟩:=Bool.and_eq_true_iff.1 q3
       have f3:=Nat.eq_of_beq_eq_true q3
       have fN:Nat.beq E 0=false:=by simpa using q4
       subst f1;subst f2
       split at h'
       ·rename_i l hl;cases h'
        obtain ⟨et,el⟩:=YS hl
        subst et
        have el':tok.l=v:=el.symm
        obtain ⟨ys,b1,b2⟩:=Yo hD (tk:=m.tk) hb
        obtain ⟨T2,zs,r1,r2,r3⟩:=Yr hD (tk:=m.tk) hr
        rw [b1] at r1;cases r1
        rw [Uh b2] at r3
        have eapp:(TA.app j ver:TA U).er m.tk=.app j (U.E tok.t).sz ((U.E tok.t).encL tok.l):=by
         show (match cur m.tk j ver with
          | some T=>CA.app j (U.E T.t).sz ((U.E T.t).encL T.l)
          | none=>CA.any)=_
         rw [hcur]
        have e4:ys=[.ptr i' 0,.app j (U.E tok.t).sz ((U.E tok.t).encL tok.l)]:=by
         rw [r3]
         show [CA.ptr i' 0,(TA.app j ver:TA U).er m.tk]=_
         rw [eapp]
        refine ⟨⟨_,b1,fun V w o hr=>?_⟩,fun k T hk=>?_,Z,Z⟩
        ·rw [e4,el'] at hr;exact hr
        ·have hk0:Qcq [(j,(⟨E,tok.t,v,0⟩:TTok U).erO)] k=some (some T):=hk
         rw [ZZ fN] at hk0
         have hk':Qcq [(j,some (⟨E,(U.E tok.t).sz,((U.E tok.t).encL v).length,[]⟩:Tok))] k=some (some T):=hk0
         rw [Q8] at hk'
         split at hk'
         ·rename_i ek;subst ek
          cases hk'
          have hlk:Qcq m.tk j=some tok:=by
           unfold cur at hcur
           split at hcur
           ·rename_i T0 h0
            cases hq:Nat.beq T0.ver ver with
            | false=>rw [hq] at hcur;cases hcur
            | true=>rw [hq] at hcur;cases hcur;exact h0
           ·cases hcur
          show Qcq (QP TTok.erO m.tk) j=_
          rw [QR,hlk]
          show some tok.erO=_
          rw [ZZ (by rw [f3];exact fN)]
          unfold TTok.er
          rw [f3,el']
         ·cases hk'
       ·cases h'
     ·cases h'
    ·cases h'
  ·cases h'
variable (U) in
structure PF where
 bx:BX U
 args:List (AK U)
 res:List (AK U)
 pk:PK
 m:bx.Ty→tup args→Option ((bx.Ty×tup res)⊕(pk.Ty×bx.Ty))
def Q54 (D:Codec U) (bx:BX U) (res:List (AK U)) (pk:PK):(bx.Ty×tup res)⊕(pk.Ty×bx.Ty)→OutM
 | .inl y=>.val (Qw (QG D res y.2)) ((Dj bx y.1).er D)
 | .inr y=>.die (Di pk y.1) ((Dj bx y.2).er D)
def ZD (D:Codec U) (W:Wd) (P:Program) (f:Nat) (pf:PF U):Prop:=(pf.res.all Ya=true∧pf.args.all Ya=true)∧∀ b v y,pf.m b v=some y→CallO W P f (.one (.ptr 0 0)::QG D pf.args v) ((Dj pf.bx b).er D) (Q54 D pf.bx pf.res pf.pk y)
section
variable (D) (C:TCfg U) (K:FuncId→List (TAV U)→Option (KR U)) (X:Qd7 U)
def Q7z (bx:BX U) (res:List (AK U)) (rs:List ResultVar) {α:Type} (s:TSt U):Option ((bx.Ty×tup res)⊕α):=match Q36 D C s res rs with
 | some r=>match Q99 D s.m 0 bx with
  | some (b,ns)=>cond (Q16 ns bx.rs) (some (.inl (b,r))) none
  | none=>none
 | none=>none
def Q85 (bx:BX U) (pk:PK) {α:Type} (v:Value) (s:TSt U):Option (α⊕(pk.Ty×bx.Ty)):=match Q9h pk v with
 | some e=>match Q99 D s.m 0 bx with
  | some (b,ns)=>cond (Q16 ns bx.rs) (some (.inr (e,b))) none
  | none=>none
 | none=>none
def pcall (fn:Func) (H:Hints U) (bx:BX U) (b:bx.Ty) (args:List (TAV U)) (res:List (AK U)) (pk:PK):Option ((bx.Ty×tup res)⊕(pk.Ty×bx.Ty)):=match UJ fn.body H with
 | some (_,tc)=>cond (Nat.ble (args.length+1) fn.ntmps) (JY D C K X tc Q87 none (R:=(bx.Ty×tup res)⊕(pk.Ty×bx.Ty)) (fun s=>G5 X Q87 s none (Q7z D C bx res fn.results.toList) (Q85 D bx pk)) (fun v s=>G5 X Q87 s (some v) (Q7z D C bx res fn.results.toList) (Q85 D bx pk)) ⟨JR 0 (.one (.ptr 0 0)::args),Dj bx b,fn.ntmps,[]⟩ some fun e s=>match e with
   | .normal=>G5 X Q87 s none (Q7z D C bx res fn.results.toList) (Q85 D bx pk)
   | _=>none) none
 | none=>none
end
theorem HRel.trimN {E:Env} {V:Vu} {hp:List (Nat×HB)} {tk:List (Nat×Option Tok)} {w:World} {n:Nat} (H:HRel E V hp tk w) (hh:∀ i B,Qcq hp i=some B→i < n∧B.below n) (ht:∀ i T,Qcq tk i=some (some T)→i < n) (h0:E.V0.nx≤n):HRel E { V with nx:=n } hp tk w:=by
 refine ⟨H.ext,⟨h0,H.le0.ι,H.le0.cu,H.le0.κ,H.le0.S,H.le0.cell,H.le0.dk⟩,H.sz,H.sub,?_,H.inj,H.new,?_,?_⟩
 ·intro i B hi
  obtain ⟨h1,h2⟩:=hh i B hi
  obtain ⟨-,o,ho,hB⟩:=H.own i B hi
  refine ⟨h1,o,ho,?_⟩
  cases B with
  | cells T xs=>obtain ⟨vs,h3,h4⟩:=hB;exact ⟨vs,h3,h4.trim h2⟩
  | obj o'=>exact hB
  | loop s p tm nt ps assign body D=>obtain ⟨-,fn,tmps,h3,h4,h5⟩:=hB;exact ⟨h2.1,fn,tmps,h3,h4,fun t x hx=>(h5 t x hx).trim (h2.2 t x hx)⟩
  | mp es clock=>obtain ⟨ents,h3,h4,h5⟩:=hB;exact ⟨ents,h3,h4,fun i k x b hi=>let ⟨v,h6,h7⟩:=h5 i k x b hi;⟨v,h6,h7.trim (h2 _ (List.mem_of_getElem? hi))⟩⟩
 ·intro i T hi
  obtain ⟨h1,hcu,xs,h2,h3⟩:=H.tok i T hi
  exact ⟨ht i _ hi,hcu,xs,h2,h3⟩
 ·exact H.tki
theorem box_rel (hD:D.OK) {bx:BX U} {b:bx.Ty} {s:TSt U} (hb:Q99 D s.m 0 bx=some (b,bx.rs)) {E:Env} {V:Vu} {w:World} (H:HRel E V (s.er D).hp (s.er D).tk w) (h0:E.V0.nx≤bx.n):HRel E { V with nx:=bx.n } ((Dj bx b).er D).hp ((Dj bx b).er D).tk w:=by
 obtain ⟨⟨A,a1,a2⟩,a3,-,-⟩:=Q51 hD hb
 have ecb:Gl bx b 0 (bx.rs.getD 1 0)=Gl bx b 0 1:=by cases bx <;> rfl
 have ect:Gk bx b (bx.rs.getD 1 0)=Gk bx b 1:=by cases bx <;> rfl
 rw [ecb] at a2
 rw [ect] at a3
 rw [Q67 hD]
 have w1:∀ i B,Qcq [(0,Gl bx b 0 1)] i=some B→∃ A,Qcq (s.er D).hp i=some A∧∀ V w o,A.rel V w o→B.rel V w o:=by
  intro i B hB
  rw [Q8] at hB
  split at hB
  ·rename_i e;subst e;cases hB;exact ⟨A,a1,a2⟩
  ·cases hB
 have w2:∀ i B,Qcq [(0,Gl bx b 0 1)] i=some B→i < bx.n∧B.below bx.n:=by
  intro i B hB
  rw [Q8] at hB
  split at hB
  ·rename_i e;subst e;cases hB
   cases bx with
   | stc T t=>exact ⟨Nat.one_pos,fun x hx=>by obtain ⟨c,_,rfl⟩:=List.mem_map.1 hx;trivial⟩
   | bld T E' t =>
    refine ⟨Nat.two_pos,fun x hx=>?_⟩
    rcases List.mem_cons.1 hx with rfl | hx
    ·exact Nat.two_pos
    ·rw [List.mem_singleton.1 hx];exact Nat.one_lt_two
  ·cases hB
 have w3:∀ i T,Qcq (Gk bx b 1) i=some (some T)→i < bx.n:=by
  intro i T hT
  cases bx with
  | stc T' t=>cases hT
  | bld T' E' t =>
   have hT':Qcq [(1,(⟨E',t,b,0⟩:TTok U).erO)] i=some (some T):=hT
   rw [Q8] at hT'
   split at hT'
   ·rename_i e;subst e;exact Nat.one_lt_two
   ·cases hT'
 exact (H.weak w1 fun i T hT=>a3 i T hT).trimN w2 w3 h0
theorem Q0i (x:BX U) (b:x.Ty):(Dj x b).nx=x.n:=by cases x <;> rfl
def Qaj (D:Codec U) (bx:BX U) (res:List (AK U)) (pk:PK) (y:(bx.Ty×tup res)⊕(pk.Ty×bx.Ty)) (o:OutM):Prop :=
 ∃ (s:TSt U) (b':bx.Ty),Q99 D s.m 0 bx=some (b',bx.rs)∧match y with
  | .inl z=>z.1=b'∧∃ xs,o=.val (Qw xs) (s.er D).mem∧xs.length=(QG D res z.2).length∧∀ (i:Nat) (y:AV),(QG D res z.2)[i]?=some y→∃ x,xs[i]?=some x∧∀ V w v,x.rel V w v→y.rel (Yh V.S) w v
  | .inr z=>z.2=b'∧o=.die (Di pk z.1) (s.er D).mem
theorem CallO.of_B (hD:D.OK) {W:Wd} {P:Program} {f:FuncId} {args:List AV} {bx:BX U} {b:bx.Ty} {res:List (AK U)} {pk:PK} {y:(bx.Ty×tup res)⊕(pk.Ty×bx.Ty)} (h:CallP W P f args ((Dj bx b).er D) (Qaj D bx res pk y)):CallO W P f args ((Dj bx b).er D) (Q54 D bx res pk y):=by
 refine YI h.1 fun E V w vs hP hW H hn ha=>(h.2 E V w vs hP hW H hn ha).mono ?_
 rintro e w' ⟨o,⟨s,b',hb,hy⟩,ho⟩
 have hn':V.nx=bx.n:=hn.trans (Q0i bx b)
 have h0:E.V0.nx≤bx.n:=by rw [← hn'];exact H.le0.nx
 have le:∀ V':Vu,V.Le V' w w'→V.Le { V' with nx:=bx.n } w w':=fun V' L=>⟨Nat.le_of_eq hn',L.ι,L.cu,L.κ,L.S,L.cell,L.dk⟩
 cases y with
 | inl z =>
  obtain ⟨rfl,xs,rfl,hl,hs⟩:=hy
  obtain ⟨v,V',rfl,H',hn2,L,hv⟩:=ho
  refine ⟨v,{ V' with nx:=bx.n },Z,box_rel hD hb H' h0,(Q0i bx _).symm,le V' L,?_⟩
  exact (res_weak hl hs hv).mono (Q6n (V:={ V' with nx:=bx.n }))
 | inr z =>
  obtain ⟨rfl,rfl⟩:=hy
  obtain ⟨V',rfl,H',hn2,L⟩:=ho
  exact ⟨{ V' with nx:=bx.n },Z,box_rel hD hb H' h0,(Q0i bx _).symm,le V' L⟩
theorem encK_data_below {k:AK U} (hk:Ya k=true) (v:k.Ty) (m:Nat):(Gj k v 0).belowB m=true:=WI k v 0 (fun i hi=>by cases k <;> first | (cases hk;done) | (cases hi)) (fun i hi=>by cases k <;> first | (cases hk;done) | (cases hi))
theorem YQ {C:TCfg U} {K:FuncId→List (TAV U)→Option (KR U)} {X:Qd7 U} {P:Program} (hP:P=Tryz.prog) (hT:C.T.OK P) (hD:D.OK) {W:Wd} (hK:US W D P K) (hX:X7 W D P X) {f:FuncId} {fn:Func} (hf:P.funcs[f]?=some fn) (hen:Qe P f) (H:Hints U) (pf:PF U) (hd:pf.res.all Ya=true) (hd2:pf.args.all Ya=true)
  (h:∀ b v,pcall D C K X fn H pf.bx b (KN pf.args v) pf.res pf.pk=pf.m b v):ZD D W P f pf:=by
 refine ⟨⟨hd,hd2⟩,fun b v y hy=>?_⟩
 have h:=(h b v).trans hy
 unfold pcall at h
 split at h
 ·rename_i c tc hc
  obtain ⟨hc1,hc2⟩:=W6 hc
  cases l1:Nat.ble ((KN pf.args v).length+1) fn.ntmps with
  | false=>rw [l1] at h;cases h
  | true =>
   rw [l1,cond_true] at h
   have ho:∀ (s:TSt U) (u:Option Value),G5 X Q87 s u (Q7z D C pf.bx pf.res fn.results.toList) (Q85 D pf.bx pf.pk)=some y→∀ e,Qac u e→∃ o,Qaj D pf.bx pf.res pf.pk y o∧EndO W P fn (Dj pf.bx b).nx e (s.er D) o:=by
    intro s u hend e he
    obtain ⟨s',a1,a2,a3,a4,a5⟩:=W4 hX fn (Dj pf.bx b).nx (Q27 s.m) hend
    rcases a5 with ⟨b1,b2⟩ | ⟨pv,rfl,b1,b2⟩
    ·unfold Q7z at b1
     split at b1
     ·rename_i r hr
      split at b1
      ·rename_i b' ns hb
       cases hq:Q16 ns pf.bx.rs with
       | false=>rw [hq] at b1;cases b1
       | true =>
        rw [hq] at b1;cases b1
        obtain ⟨xs,q1,q2,q3⟩:=decR_ok (P:=P) hT hD hr
        have hns:=G4 hq
        subst hns
        exact ⟨_,⟨s',b',hb,Z,xs,Z,q2,q3⟩,b2 e (s'.er D) xs he a2 (ToW.refl _ _ _ _) q1⟩
      ·cases b1
     ·cases b1
    ·unfold Q85 at b1
     split at b1
     ·rename_i ev hev
      split at b1
      ·rename_i b' ns hb
       cases hq:Q16 ns pf.bx.rs with
       | false=>rw [hq] at b1;cases b1
       | true =>
        rw [hq] at b1;cases b1
        have ee:=decP_ok hev
        subst ee
        have hns:=G4 hq
        subst hns
        exact ⟨_,⟨s',b',hb,Z,Z⟩,b2 e (s'.er D) he a2 (ToW.refl _ _ _ _)⟩
      ·cases b1
     ·cases b1
   have hcall:=call_ofP (m:=Dj pf.bx b) hP hT hD hK hX (Q27 _) hf hen hc1 hc2 (show (TAV.one (TA.ptr 0 0)::KN pf.args v).length≤fn.ntmps from Nat.le_of_ble_eq_true l1) (fun E=>To.refl _ _) (Sfx.refl _) h (S:=Qaj D pf.bx pf.res pf.pk y) (fun e s hs hk=>by
     cases e with
     | normal=>exact ho s none hk _ (.inl rfl)
     | ret=>cases hk
     | exit j=>cases hk
     | goto l=>cases hk
     | panic c=>cases hk
     | outgrown=>cases hk) (fun a hp hex=>by
     cases hp
     exact ⟨fun s hs e=>ho s none e _ (.inr Z),fun v s hs e=>ho s (some v) e _ Z⟩)
   have hargs:(TAV.one (TA.ptr 0 0)::KN pf.args v).map (TAV.er D (Dj pf.bx b).tk)=.one (.ptr 0 0)::QG D pf.args v:=by
    rw [List.map_cons]
    show AV.one (.ptr 0 0)::_=_
    rw [WH hD (Dj pf.bx b).tk v hd2]
   rw [hargs] at hcall
   exact CallO.of_B hD hcall
 ·cases h
theorem ptr_data (hD:D.OK) (ρ:Nat→Nat) {rk:List (AK U)} (hk:rk.all Ya=true) (v:tup rk):(QG D rk v).map (AV.ren ρ)=QG D rk v:=by
 unfold QG
 rw [List.map_map]
 refine List.map_congr_left fun x hx=>?_
 obtain ⟨k,h1,a,rfl⟩:=Q0c hx
 have hk':=List.all_eq_true.1 hk k h1
 cases k with
 | app i e t=>cases hk'
 | ptr i o=>cases hk'
 | any=>cases hk'
 | stc t =>
  have key:∀ x:U.R t,AV.ren ρ (AV.agg (Jm D [] [It.grp t x]))=AV.agg (Jm D [] [It.grp t x]):=fun x=>by
   rw [Dt hD]
   show AV.agg ((((U.E t).enc x).map CA.d).map (CA.ren ρ))=_
   rw [List.map_map];rfl
  exact key a
 | int k=>rfl
 | bool=>rfl
 | str=>rfl
 | sl t=>rfl
theorem res_ren (ρ:Nat→Nat) (xs:List AV) (h:xs.map (AV.ren ρ)=xs):(Qw xs).ren ρ=Qw xs:=by
 match xs,h with
 | [],h=>rfl
 | [x],h =>
  have:x.ren ρ=x:=by injection h
  show TV.v (x.ren ρ)=.v x
  rw [this]
 | x::y::l,h =>
  show TV.tup ((x::y::l).map (AV.ren ρ))=.tup (x::y::l)
  rw [h]
section
variable (D)
def Q96 (tb:List (Nat×PF U)):Qd7 U:=fun _ c args m=>match c with
 | .fn f=>match Qcq tb f,args with
  | some pf,.one (.ptr i off)::rest=>cond (Nat.beq off 0) (match Q99 D m i pf.bx,YP m.tk rest with
   | some (b,rs),some rest'=>cond (Q9v m i rs pf.bx) (match Q65 D pf.args rest' with
    | some v=>some ⟨fun k d=>Option.bind (pf.m b v) (Sum.elim (fun r=>k (Q3y pf.res r.2) (Q6i m i rs pf.bx r.1)) fun e=>d (Di pf.pk e.1) (Q6i m i rs pf.bx e.2))⟩
    | none=>none) none
   | _,_=>none) none
  | _,_=>none
 | _=>none
end
def Y5 {α:Type} (rs:List Nat) (l:List (Nat×α)):List (Nat×α):=l.filter fun p=>!(rs.contains p.1)
theorem GJ {α:Type} (rs:List Nat):∀ (l:List (Nat×α)) (i:Nat),Qcq (Y5 rs l) i=if i∈rs then none else Qcq l i
  | [],i=>by unfold Y5;simp [Qcq]
  | (k,x)::l,i=>by
    have ih:=GJ rs l i
    unfold Y5 at ih ⊢
    rw [List.filter_cons]
    by_cases hk:k∈rs
    · have:(!(rs.contains (k,x).1))=false:=by simp [hk]
      rw [this,if_neg (by simp),ih]
      by_cases hi:i∈rs
      · rw [if_pos hi,if_pos hi]
      · rw [if_neg hi,if_neg hi,Q8,if_neg (fun e=>hi (by rw [← e];exact hk))]
    · have:(!(rs.contains (k,x).1))=true:=by simp [hk]
      rw [this,if_pos rfl,Q8,ih,Q8]
      by_cases e:k=i
      · rw [if_pos e,if_pos e,if_neg (by rw [← e];exact hk)]
      · rw [if_neg e,if_neg e]
theorem Q32 {hp:List (Nat×HB)}:∀ {l:List (Nat×HB)},(∀ p∈l,Qcq hp p.1=some p.2)→hpLe hp l
  | [],h=>trivial
  | (i,x)::l,h=>⟨⟨x,h _ (List.mem_cons_self ..),.refl _⟩,Q32 fun p hp=>h p (List.mem_cons_of_mem _ hp)⟩
theorem setL_whole {zs ys:List CA} (h:zs.length=ys.length):setL zs 0 ys=ys:=by
 rw [Q1u ys zs 0 (by omega),List.take_zero,List.nil_append,List.drop_of_length_le (by omega),List.append_nil]
theorem encL_below {ks:List (AK U)} (hk:ks.all Ya=true) (v:tup ks) (n:Nat):∀ y∈QG D ks v,y.below n:=by
 intro y hy
 obtain ⟨x,hx,rfl⟩:=List.mem_map.1 hy
 obtain ⟨k,h1,a,rfl⟩:=Q0c hx
 exact GZ _ (encK_data_below (List.all_eq_true.1 hk k h1) a n)
theorem wr_ok (hD:D.OK) {m:TMe U} {i:Nat} {x:BX U} {b:x.Ty} {rs:List Nat} (h:Q99 D m i x=some (b,rs)) (hk:Q9v m i rs x=true) (b':x.Ty) :
  (∀ k B,Qcq ((Q6i m i rs x b').er D).hp k=some B→(k=i∧∀ V w o,(Gl x b' i (rs.getD 1 0)).rel V w o→B.rel V w o)∨(k∉rs∧∃ A,Qcq (m.er D).hp k=some A∧∀ V w o,A.rel V w o→B.rel V w o)) ∧
  (∀ k T,Qcq ((Q6i m i rs x b').er D).tk k=some (some T)→Qcq (Gk x b' (rs.getD 1 0)) k=some (some T)∨(k∉rs∧Qcq (m.er D).tk k=some (some T)))∧SfM m (Q6i m i rs x b')∧(Q6i m i rs x b').nx=m.nx:=by
 cases x with
 | stc T t =>
  have h':(match Zd m.es i with
   | some (T',N)=>cond (Nat.beq T' T&&Nat.beq N (U.E t).sz) (match Wc D m.es i 0 N with
    | some xs=>match Q0p D m.tk t xs with
     | some v=>some (v,[i])
     | none=>none
    | none=>none) none
   | none=>none)=some (b,rs):=h
  split at h'
  ·rename_i T' N hb
   cases hc:(Nat.beq T' T&&Nat.beq N (U.E t).sz) with
   | false=>rw [hc] at h';cases h'
   | true =>
    rw [hc,cond_true] at h'
    obtain ⟨c1,c2⟩:=Bool.and_eq_true_iff.1 hc
    have e1:=Nat.eq_of_beq_eq_true c1
    have e2:=Nat.eq_of_beq_eq_true c2
    subst e1
    split at h'
    ·split at h'
     ·cases h'
      obtain ⟨ys,b1,b2⟩:=Yo hD (tk:=m.tk) hb
      have hk':(Kr [i]&&([i].all (fun j=>Nat.blt j m.nx)&&(Qcq m.tk i).isNone))=true:=hk
      obtain ⟨k1,k2⟩:=Bool.and_eq_true_iff.1 hk'
      obtain ⟨k2,Qct⟩:=Bool.and_eq_true_iff.1 k2
      have hrow:∀ v:U.R t,Jm D m.tk [It.grp t v]=((U.E t).enc v).map .d:=fun v=>Dt hD m.tk t v
      refine ⟨fun k B hB=>?_,fun k T hT=>?_,⟨⟨[_],Z⟩,⟨[],Z⟩,Nat.le_refl _⟩,Z⟩
      ·have hB':Qcq (match Qcq (Qr D m.tk m.es) i with
        | some (.cells T ys)=>(i,.cells T (setL ys 0 (Jm D m.tk [It.grp t b'])))::Qr D m.tk m.es
        | _=>Qr D m.tk m.es) k=some B:=hB
       rw [b1] at hB'
       dsimp only at hB'
       rw [Q8] at hB'
       split at hB'
       ·rename_i ek
        left
        refine ⟨ek.symm,fun V w o hr=>?_⟩
        cases hB'
        rw [setL_whole (by rw [Zx hD,b2,e2];rfl),hrow b']
        exact hr
       ·rename_i ek
        right
        exact ⟨fun hm=>ek (List.mem_singleton.1 hm).symm,B,hB',fun _ _ _ h=>h⟩
      ·right
       refine ⟨fun hm=>?_,hT⟩
       rw [List.mem_singleton.1 hm] at hT
       have hT':Qcq (QP TTok.erO m.tk) i=some (some T):=hT
       rw [QR] at hT'
       cases hz:Qcq m.tk i with
       | none=>rw [hz] at hT';cases hT'
       | some z=>rw [hz] at Qct;cases Qct
     ·cases h'
    ·cases h'
  ·cases h'
 | bld T E t =>
  have h0:=h
  have h':(match Zd m.es i with
   | some (T',N)=>cond (Nat.beq T' T&&Nat.beq N 2) (match Wc D m.es i 0 2 with
    | some [.one (.ptr i' off),.one (.app j ver)]=>match cur m.tk j ver with
     | some tok=>cond (Nat.beq i' i&&(Nat.beq off 0&&(Nat.beq tok.E E&&!(Nat.beq E 0)))) (match KO tok.t t tok.l with
      | some l=>some (l,[i,j])
      | none=>none) none
     | none=>none
    | _=>none) none
   | none=>none)=some (b,rs):=h
  split at h'
  ·rename_i T' N hb
   cases hc:(Nat.beq T' T&&Nat.beq N 2) with
   | false=>rw [hc] at h';cases h'
   | true =>
    rw [hc,cond_true] at h'
    obtain ⟨c1,c2⟩:=Bool.and_eq_true_iff.1 hc
    have e1:=Nat.eq_of_beq_eq_true c1
    have e2:=Nat.eq_of_beq_eq_true c2
    subst e1;subst e2
    split at h'
    ·rename_i i' off j ver hr
     split at h'
     ·rename_i tok hcur
      cases hq:(Nat.beq i' i&&(Nat.beq off 0&&(Nat.beq tok.E E&&!(Nat.beq E 0)))) with
      | false=>rw [hq] at h';cases h'
      | true =>
       rw [hq,cond_true] at h'
       obtain ⟨q1,q23⟩:=Bool.and_eq_true_iff.1 hq
       obtain ⟨q2,q3⟩:=Bool.and_eq_true_iff.1 q23
       have f1:=Nat.eq_of_beq_eq_true q1
       have f2:=Nat.eq_of_beq_eq_true q2
       subst f1;subst f2
       split at h'
       ·cases h'
        have hk':(Kr [i',j]&&([i',j].all (fun j=>Nat.blt j m.nx)&&((Qcq m.tk i').isNone&&(m.es.all (K1 j)&&!(m.es.any (Ev.hasApp j (J0 m.tk j)))))))=true:=hk
        obtain ⟨k1,k2⟩:=Bool.and_eq_true_iff.1 hk'
        obtain ⟨k2,Qct⟩:=Bool.and_eq_true_iff.1 k2
        obtain ⟨Qct,k4⟩:=Bool.and_eq_true_iff.1 Qct
        obtain ⟨k4,k5⟩:=Bool.and_eq_true_iff.1 k4
        have hij:i' ≠ j:=fun e=>by
         have:=XT k1
         rw [e] at this
         simp at this
        obtain ⟨tk',htk'⟩:∃ tk',tk'=(j,(⟨E,t,b',J0 m.tk j⟩:TTok U))::m.tk:=⟨_,rfl⟩
        obtain ⟨ys,b1,b2⟩:=Yo hD (tk:=tk') hb
        obtain ⟨T2,zs,r1,r2,r3⟩:=Yr hD (tk:=tk') hr
        rw [b1] at r1;cases r1
        rw [Uh b2] at r3
        have eapp:(TA.app j (J0 m.tk j):TA U).er tk'=.app j (U.E t).sz ((U.E t).encL b'):=by
         show (match cur tk' j (J0 m.tk j) with
          | some T=>CA.app j (U.E T.t).sz ((U.E T.t).encL T.l)
          | none=>CA.any)=_
         rw [htk',Zy,if_pos rfl,if_pos rfl]
        have hst:=YR (D:=D) (tk:=m.tk) (tk':=tk') (es:=m.es) (by
         rw [htk']
         exact WL fun hp=>by
          have:m.es.any (Ev.hasApp j (J0 m.tk j))=true:=hp
          have k5':(!(m.es.any (Ev.hasApp j (J0 m.tk j))))=true:=k5
          rw [this] at k5';cases k5')
        refine ⟨fun k B hB=>?_,fun k T hT=>?_,⟨⟨[_],Z⟩,⟨[_],Z⟩,Nat.le_refl _⟩,Z⟩
        ·have hB':Qcq (match Qcq (Qr D tk' m.es) i' with
          | some (.cells T ys)=>(i',.cells T (setL ys 1 (Jm D tk' [It.one (.app j (J0 m.tk j))])))::Qr D tk' m.es
          | _=>Qr D tk' m.es) k=some B:=by rw [htk'];exact hB
         rw [b1] at hB'
         dsimp only at hB'
         rw [Q8] at hB'
         split at hB'
         ·rename_i ek
          left
          refine ⟨ek.symm,fun V w o hr=>?_⟩
          cases hB'
          have e5:setL ys 1 (Jm D tk' [It.one (.app j (J0 m.tk j))])=[.ptr i' 0,.app j (U.E t).sz ((U.E t).encL b')]:=by
           rw [r3]
           show setL [CA.ptr i' 0,(TA.app j ver:TA U).er tk'] 1 [(TA.app j (J0 m.tk j):TA U).er tk']=_
           rw [eapp];rfl
          rw [e5]
          exact hr
         ·rename_i ek
          right
          have hkj:k ≠ j:=fun e=>by
           rw [e,noLp_none (show m.es.all (K1 j)=true from k4)] at hB'
           cases hB'
          have ow:=hst k
          rw [hB'] at ow
          cases hA:Qcq (Qr D m.tk m.es) k with
          | none=>rw [hA] at ow;exact ow.elim
          | some A =>
           rw [hA] at ow
           refine ⟨fun hm=>?_,A,hA,fun V w o hr=>BW.rel ow hr⟩
           rcases List.mem_cons.1 hm with e | hm
           ·exact ek e.symm
           ·exact hkj (List.mem_singleton.1 hm)
        ·have hT':Qcq (QP TTok.erO ((j,(⟨E,t,b',J0 m.tk j⟩:TTok U))::m.tk)) k=some (some T):=hT
         have hT2:Qcq ((j,(⟨E,t,b',J0 m.tk j⟩:TTok U).erO)::QP TTok.erO m.tk) k=some (some T):=hT'
         rw [Q8] at hT2
         split at hT2
         ·rename_i ek
          left
          rw [← hT2]
          show Qcq [(j,_)] k=_
          rw [Q8,if_pos ek];rfl
         ·rename_i ek
          right
          refine ⟨fun hm=>?_,hT2⟩
          rcases List.mem_cons.1 hm with e | hm
          ·rw [e,QR] at hT2
           cases hz:Qcq m.tk i' with
           | none=>rw [hz] at hT2;cases hT2
           | some z =>
            have k3':(Qcq m.tk i').isNone=true:=Qct
            rw [hz] at k3';cases k3'
          ·exact ek (List.mem_singleton.1 hm).symm
       ·cases h'
     ·cases h'
    ·cases h'
  ·cases h'
theorem okB_ok {m:TMe U} {i:Nat} {rs:List Nat} {x:BX U} (h:Q9v m i rs x=true):rs.Nodup∧∀ j∈rs,j < m.nx:=by
 have key:Kr rs=true∧rs.all (fun j=>Nat.blt j m.nx)=true:=by
  cases x with
  | stc T t =>
   have h':(Kr rs&&(rs.all (fun j=>Nat.blt j m.nx)&&(Qcq m.tk i).isNone))=true:=h
   obtain ⟨k1,k2⟩:=Bool.and_eq_true_iff.1 h'
   exact ⟨k1,(Bool.and_eq_true_iff.1 k2).1⟩
  | bld T E t =>
   have h':(Kr rs&&(rs.all (fun j=>Nat.blt j m.nx)&&((Qcq m.tk i).isNone&&(m.es.all (K1 (rs.getD 1 0))&&!(m.es.any (Ev.hasApp (rs.getD 1 0) (J0 m.tk (rs.getD 1 0))))))))=true:=h
   obtain ⟨k1,k2⟩:=Bool.and_eq_true_iff.1 h'
   exact ⟨k1,(Bool.and_eq_true_iff.1 k2).1⟩
 exact ⟨XT key.1,fun j hj=>Nat.le_of_ble_eq_true (List.all_eq_true.1 key.2 j hj)⟩
theorem cbox_below (x:BX U) (b:x.Ty):hpBelow x.n [(0,Gl x b 0 1)]:=by
 cases x with
 | stc T t=>exact ⟨Nat.one_pos,fun x hx=>by obtain ⟨c,_,rfl⟩:=List.mem_map.1 hx;trivial,trivial⟩
 | bld T E t =>
  refine ⟨Nat.two_pos,fun x hx=>?_,trivial⟩
  rcases List.mem_cons.1 hx with rfl | hx
  ·exact Nat.two_pos
  ·rw [List.mem_singleton.1 hx];exact Nat.one_lt_two
theorem ctok_below (x:BX U) (b:x.Ty):tkBelow x.n (Gk x b 1):=by
 cases x with
 | stc T t=>trivial
 | bld T E t=>exact ⟨Nat.one_lt_two,trivial⟩
theorem Q20 (x:BX U) {rs:List Nat} (hl:rs.length=x.n) (n:Nat):K7 rs n 0=rs.getD 0 0∧rs.getD 0 0∈rs∧∀ z:x.Ty,JW (K7 rs n) [(0,Gl x z 0 1)]=[(rs.getD 0 0,Gl x z (rs.getD 0 0) (rs.getD 1 0))]∧Yl (K7 rs n) (Gk x z 1)=Gk x z (rs.getD 1 0)∧∀ (k:Nat) (T:Option Tok),Qcq (Gk x z (rs.getD 1 0)) k=some T→k∈rs:=by
 cases x with
 | stc T t =>
  match rs,hl with
  | [q],_ =>
   refine ⟨rfl,List.mem_cons_self ..,fun z=>⟨?_,rfl,fun k T h=>by cases h⟩⟩
   show [(q,(Gl (BX.stc T t) z 0 1).ren _)]=_
   rw [cbox_ren];rfl
 | bld T E t =>
  match rs,hl with
  | [q,q2],_ =>
   refine ⟨Z,List.mem_cons_self ..,fun z=>⟨?_,Z,fun k T h=>?_⟩⟩
   ·show [(q,(Gl (BX.bld T E t) z 0 1).ren _)]=_
    rw [cbox_ren];rfl
   ·have h':Qcq [(q2,(⟨E,t,z,0⟩:TTok U).erO)] k=some T:=h
    rw [Q8] at h'
    split at h'
    ·rename_i e;rw [← e];exact List.mem_cons_of_mem _ (List.mem_cons_self ..)
    ·cases h'
theorem ctok_le (x:BX U) (b:x.Ty) (j:Nat) (r:List (Nat×Option Tok)):tkLe (Gk x b j++r) (Gk x b j):=by
 cases x with
 | stc T t=>trivial
 | bld T E t=>exact ⟨fun T hT=>by show Qcq ((j,_)::_) _=_;rw [Q8,if_pos rfl,hT],trivial⟩
def JX {α:Type}:List (Nat×α)→List (Nat×α)
  | []=>[]
  | (k,x)::l=>(k,x)::QN k (JX l)
theorem Gd {α:Type}:∀ (l:List (Nat×α)) (i:Nat),Qcq (JX l) i=Qcq l i
  | [],i=>rfl
  | (k,x)::l,i=>by
    show Qcq ((k,x)::QN k (JX l)) i=_
    rw [JM,Q8,Q8,Gd l i]
theorem WF {α:Type}:∀ (l:List (Nat×α)),∀ p∈JX l,Qcq l p.1=some p.2
  | [],p,h=>by cases h
  | (k,x)::l,p,h=>by
    rcases List.mem_cons.1 h with e | h
    · rw [e,Q8,if_pos rfl]
    · obtain ⟨h1,h2⟩:=List.mem_filter.1 h
      have hne:p.1 ≠ k:=K5 (by simpa using h2)
      rw [Q8,if_neg (fun e=>hne e.symm)]
      exact WF l p h1
theorem tkLe_of {tk:List (Nat×Option Tok)}:∀ {l:List (Nat×Option Tok)},(∀ p∈l,Qcq tk p.1=some p.2)→tkLe tk l
  | [],h=>trivial
  | (i,x)::l,h=>⟨fun T e=>by rw [h _ (List.mem_cons_self ..),e],tkLe_of fun p hp=>h p (List.mem_cons_of_mem _ hp)⟩
theorem call_box {W:Wd} {P:Program} (hD:D.OK) {f:FuncId} {bx:BX U} {b:bx.Ty} {args0:List AV} {m:TMe U} {i:Nat} {rs:List Nat} {o:OutM} (hrd:Q99 D m i bx=some (b,rs)) (hok:Q9v m i rs bx=true) (ha:∀ ρ:Nat→Nat,args0.map (AV.ren ρ)=args0) (hb:∀ y∈args0,y.below bx.n)
    (hc:CallO W P f (.one (.ptr 0 0)::args0) ((Dj bx b).er D) o) (hn:o.m.nx=bx.n):CallO W P f (.one (.ptr i 0)::args0) (m.er D) (o.ren (K7 rs m.nx) (JX (Y5 rs (m.er D).hp)) (JX (Y5 rs (m.er D).tk)) m.nx):=by
  obtain ⟨hnd,hlt⟩:=okB_ok hok
  obtain ⟨⟨A,a1,a2⟩,a3,a4,a5⟩:=Q51 hD hrd
  obtain ⟨ρ0,him,ρb⟩:=Q20 bx a4 m.nx
  rw [a5] at ρ0 him ρb
  obtain ⟨r1,r2,r3⟩:=ρb b
  rw [Q67 hD] at hc
  have hren:=CallO.ren (n:=m.nx) (nx2:=m.nx) (hp:=[(i,Gl bx b i (rs.getD 1 0))]++Y5 rs (m.er D).hp) (tk:=Gk bx b (rs.getD 1 0)++Y5 rs (m.er D).tk) (hpF:=JX (Y5 rs (m.er D).hp)) (tkF:=JX (Y5 rs (m.er D).tk)) rs hc
    (by
      rw [r1]
      exact Q32 fun p hp=>by rw [List.mem_singleton.1 hp];show Qcq ((i,_)::_) i=_;rw [Q8,if_pos rfl])
    (by rw [r2];exact ctok_le _ _ _ _)
    (Q32 fun p hp=>by
      have h1:=WF _ p hp
      show Qcq ((i,_)::Y5 rs (m.er D).hp) p.1=_
      have hni:p.1 ≠ i:=fun e=>by
        rw [GJ,e,if_pos him] at h1;cases h1
      rw [Q8,if_neg (fun e=>hni e.symm)];exact h1)
    (tkLe_of fun p hp=>by
      have h1:=WF _ p hp
      have hni:p.1∉rs:=fun e=>by rw [GJ,if_pos e] at h1;cases h1
      rw [Wf]
      cases hc:Qcq (Gk bx b (rs.getD 1 0)) p.1 with
      | none=>exact h1
      | some x=>exact (hni (r3 _ _ hc)).elim)
    a4 hnd hlt
    (fun k B hB hm=>by rw [Gd,GJ,if_pos hm] at hB;cases hB)
    (fun k T hT hm=>by rw [Gd,GJ,if_pos hm] at hT;cases hT)
    (cbox_below _ _) (ctok_below _ _)
    (fun y hy=>by
      rcases List.mem_cons.1 hy with rfl | hy
      · show 0 < bx.n;cases bx <;> first | exact Nat.one_pos | exact Nat.two_pos
      · exact hb y hy)
    (by rw [hn];exact Nat.le_refl _) (by rw [hn];exact Nat.add_comm _ _)
  have eargs:((AV.one (.ptr 0 0))::args0).map (AV.ren (K7 rs m.nx))=.one (.ptr i 0)::args0:=by
    rw [List.map_cons,ha]
    show AV.one (.ptr (K7 rs m.nx 0) 0)::args0=_
    rw [ρ0]
  rw [eargs] at hren
  refine CallO.pre (m0:=⟨[(i,Gl bx b i (rs.getD 1 0))]++Y5 rs (m.er D).hp,Gk bx b (rs.getD 1 0)++Y5 rs (m.er D).tk,m.nx⟩) (fun k B hB=>?_) (fun k T hT=>?_) Z hren
  · have hB':Qcq ((i,Gl bx b i (rs.getD 1 0))::Y5 rs (m.er D).hp) k=some B:=hB
    rw [Q8] at hB'
    split at hB'
    · rename_i e;subst e;cases hB';exact ⟨A,a1,a2⟩
    · rw [GJ] at hB'
      split at hB'
      · cases hB'
      · exact ⟨B,hB',fun _ _ _ h=>h⟩
  · have hT':Qcq (Gk bx b (rs.getD 1 0)++Y5 rs (m.er D).tk) k=some (some T):=hT
    rw [Wf] at hT'
    split at hT'
    · rename_i x hx;cases hT';exact a3 k T hx
    · rw [GJ] at hT'
      split at hT'
      · cases hT'
      · exact hT'
theorem YV (hD:D.OK) {P:Program} {tb:List (Nat×PF U)} {W:Wd} (h:AllT (ZD D W P) tb):X7 W D P (Q96 D tb):=by
 intro Y c args m xo hY hx
 unfold Q96 at hx
 split at hx
 ·rename_i f
  split at hx
  ·rename_i pf i off rest hpf
   cases hoff:Nat.beq off 0 with
   | false=>rw [hoff] at hx;cases hx
   | true =>
    rw [hoff,cond_true] at hx
    have eoff:=Nat.eq_of_beq_eq_true hoff
    subst eoff
    split at hx
    ·rename_i b rs rest' hrd hs
     cases hok:Q9v m i rs pf.bx with
     | false=>rw [hok] at hx;cases hx
     | true =>
      rw [hok,cond_true] at hx
      split at hx
      ·rename_i v hv;cases hx
       obtain ⟨⟨hd1,hd2⟩,hm⟩:=h.get hpf
       intro β k d r hr
       obtain ⟨y,hy,hk⟩:=Ze (show Option.bind _ _=some r from hr)
       have hc:=hm b v y hy
       have hn:(Q54 D pf.bx pf.res pf.pk y).m.nx=pf.bx.n:=by
        cases y with
        | inl y=>exact Q0i _ _
        | inr y=>exact Q0i _ _
       have call:=call_box hD hrd hok (fun ρ=>ptr_data hD ρ hd2 v) (encL_below hd2 v _) hc hn
       obtain ⟨-,-,a4,a5⟩:=Q51 hD hrd
       obtain ⟨-,-,ρb⟩:=Q20 pf.bx a4 m.nx
       rw [a5] at ρb
       have hargs:∀ V w vs,argsRel V w ((TAV.one (TA.ptr i 0)::rest).map (TAV.er D m.tk)) vs→argsRel V w (AV.one (.ptr i 0)::QG D pf.args v) vs:=by
        intro V w vs ha
        have hsb:=KE (D:=D) hs (UH hD hv m.tk)
        obtain ⟨h3,h4⟩:=hsb.spec
        refine ⟨by rw [ha.1,List.map_cons,List.length_cons,List.length_cons,h3],fun j z hz=>?_⟩
        cases j with
        | zero =>
         cases hz
         exact ha.2 0 _ Z
        | succ j =>
         obtain ⟨x,hx,hxy⟩:=h4 j z hz
         obtain ⟨u,hu,hr⟩:=ha.2 (j+1) x hx
         exact ⟨u,hu,(hxy.rel hr).mono (Q6n (V:=V))⟩
       have post:∀ b':pf.bx.Ty,(Q54 D pf.bx pf.res pf.pk y).m=(Dj pf.bx b').er D→CallO W P f (AV.one (.ptr i 0)::QG D pf.args v) (m.er D) (((Q54 D pf.bx pf.res pf.pk y).ren (K7 rs m.nx) (JX (Y5 rs (m.er D).hp)) (JX (Y5 rs (m.er D).tk)) m.nx).with ((Q6i m i rs pf.bx b').er D))∧SfM m (Q6i m i rs pf.bx b'):=by
        intro b' hb'
        obtain ⟨w1,w2,w3,w4⟩:=wr_ok hD hrd hok b'
        obtain ⟨r1,r2,-⟩:=ρb b'
        have em:((Q54 D pf.bx pf.res pf.pk y).ren (K7 rs m.nx) (JX (Y5 rs (m.er D).hp)) (JX (Y5 rs (m.er D).tk)) m.nx).m=⟨[(i,Gl pf.bx b' i (rs.getD 1 0))]++JX (Y5 rs (m.er D).hp),Gk pf.bx b' (rs.getD 1 0)++JX (Y5 rs (m.er D).tk),m.nx⟩:=by
         have e0:∀ o:OutM,(o.ren (K7 rs m.nx) (JX (Y5 rs (m.er D).hp)) (JX (Y5 rs (m.er D).tk)) m.nx).m=⟨JW (K7 rs m.nx) o.m.hp++JX (Y5 rs (m.er D).hp),Yl (K7 rs m.nx) o.m.tk++JX (Y5 rs (m.er D).tk),m.nx⟩:=fun o=>by cases o <;> rfl
         rw [e0,hb',Q67 hD]
         show (⟨JW _ [(0,Gl pf.bx b' 0 1)]++_,Yl _ (Gk pf.bx b' 1)++_,_⟩:Mem)=_
         rw [r1,r2]
        refine ⟨CallO.post (fun k B hB=>?_) (fun k T hT=>?_) (by rw [em];exact w4) call,w3⟩
        ·rw [em]
         show ∃ A,Qcq ((i,Gl pf.bx b' i (rs.getD 1 0))::JX (Y5 rs (m.er D).hp)) k=some A∧_
         rcases w1 k B hB with ⟨e,hw⟩ | ⟨hn',A,hA,hw⟩
         ·exact ⟨_,by rw [Q8,if_pos e.symm],hw⟩
         ·refine ⟨A,?_,hw⟩
          have hki:i ≠ k:=fun e=>by
           obtain ⟨-,him,-⟩:=Q20 pf.bx a4 m.nx
           rw [a5,e] at him
           exact hn' him
          rw [Q8,if_neg hki,Gd,GJ,if_neg hn']
          exact hA
        ·rw [em]
         show Qcq (Gk pf.bx b' (rs.getD 1 0)++JX (Y5 rs (m.er D).tk)) k=some (some T)
         rw [Wf]
         rcases w2 k T hT with e | ⟨hn',e⟩
         ·rw [e]
         ·obtain ⟨-,-,r3⟩:=ρb b'
          cases hz:Qcq (Gk pf.bx b' (rs.getD 1 0)) k with
          | some x=>exact (hn' (r3 k x hz)).elim
          | none=>dsimp only;rw [Gd,GJ,if_neg hn'];exact e
       cases y with
       | inl y =>
        obtain ⟨p1,p2⟩:=post y.1 rfl
        refine ⟨.val (Q3y pf.res y.2) (Q6i m i rs pf.bx y.1),?_,p2,hk⟩
        show CallO W P f ((TAV.one (TA.ptr i 0)::rest).map (TAV.er D m.tk)) (m.er D) (.val ((Q3y pf.res y.2).er D _) _)
        rw [outT_er hD _ y.2 hd1]
        have e:((Q54 D pf.bx pf.res pf.pk (.inl y)).ren (K7 rs m.nx) (JX (Y5 rs (m.er D).hp)) (JX (Y5 rs (m.er D).tk)) m.nx).with ((Q6i m i rs pf.bx y.1).er D)=.val (Qw (QG D pf.res y.2)) ((Q6i m i rs pf.bx y.1).er D):=by
         show OutM.val ((Qw (QG D pf.res y.2)).ren _) _=_
         rw [res_ren _ _ (ptr_data hD _ hd1 y.2)]
        rw [e] at p1
        exact CallO.args hargs p1
       | inr y =>
        obtain ⟨p1,p2⟩:=post y.2 rfl
        exact ⟨.die (Di pf.pk y.1) (Q6i m i rs pf.bx y.2),CallO.args (o:=.die (Di pf.pk y.1) ((Q6i m i rs pf.bx y.2).er D)) hargs p1,p2,hk⟩
      ·cases hx
    ·cases hx
  ·cases hx
 ·cases hx
end
end
section
open Go.RowKit
section
variable {U:Univ} (D:Codec U)
def Qaq (f T:Nat):Qd7 U:=fun _ c args m=>match c with
 | .fn g=>match args with
  | [.one (.ptr i off)]=>cond (Nat.beq g f&&Nat.beq off 0) (match Zd m.es i,Wc D m.es i 0 1 with
   | some (T',N),some [.one (.ptr i' o')]=>cond (Nat.beq i' i&&Nat.beq o' 0) (some ⟨fun k _=>k (.tup []) m⟩) none
   | some (T',N),some [.one (.c (.v (.pointer none)))]=>cond (Nat.beq T' T&&Nat.beq N 2) (some ⟨fun k _=>k (.tup []) ⟨.set i 0 [.one (.ptr i 0)]::m.es,m.tk,m.nx⟩⟩) none
   | _,_=>none) none
  | _=>none
 | _=>none
variable {D}
theorem Q22 {V:Vu} {w:World} {x:AV} {vs:Array Value} (h:argsRel V w [x] vs):∃ u,vs=#[u]∧x.rel V w u:=by
 obtain ⟨u,hu,hr⟩:=h.2 0 x rfl
 refine ⟨u,?_,hr⟩
 apply Array.ext_getElem?
 intro k
 match k with
 | 0=>rw [hu];rfl
 | k+1=>rw [Array.getElem?_eq_none (by rw [h.1];simp)];simp
theorem ccH_ok (hD:D.OK) {W:Wd} {P:Program} {f T:Nat} (hen:Qe P f)
  (hu:∀ b w,w.cell? ⟨b,0,none⟩=some (.pointer (some ⟨b,0,none⟩))→Calls P f #[.pointer (some ⟨b,0,none⟩)] w fun e w'=>e=.returned (.tuple #[])∧w'=w)
  (hf:∀ b w,w.cell? ⟨b,0,none⟩=some (.pointer none)→w.shape? b=some (T,2)→w.frozen? ⟨b,0,none⟩=false →
   Calls P f #[.pointer (some ⟨b,0,none⟩)] w fun e w'=>e=.returned (.tuple #[])∧w'=w.setCell ⟨b,0,none⟩ (.pointer (some ⟨b,0,none⟩))):X7 W D P (Qaq D f T):=by
 intro Y c args m xo hY hx
 unfold Qaq at hx
 split at hx
 ·rename_i g
  split at hx
  ·rename_i i off
   cases hc:(Nat.beq g f&&Nat.beq off 0) with
   | false=>rw [hc] at hx;cases hx
   | true =>
    rw [hc,cond_true] at hx
    obtain ⟨c1,c2⟩:=Bool.and_eq_true_iff.1 hc
    have e1:=Nat.eq_of_beq_eq_true c1;have e2:=Nat.eq_of_beq_eq_true c2
    subst e1 e2
    have first:∀ {x:TA U},Wc D m.es i 0 1=some [.one x]→∃ T ys,Qcq (m.er D).hp i=some (.cells T ys)∧ys[0]?=(Jm D m.tk [.one x])[0]?:=fun {x} h=>by
     obtain ⟨T,ys,h1,h2,h3⟩:=Yr hD (tk:=m.tk) h
     refine ⟨T,ys,h1,?_⟩
     rw [← h3];simp
    split at hx
    ·rename_i T' N i' o' hb hr
     cases hc2:(Nat.beq i' i&&Nat.beq o' 0) with
     | false=>rw [hc2] at hx;cases hx
     | true =>
      rw [hc2] at hx;cases hx
      obtain ⟨d1,d2⟩:=Bool.and_eq_true_iff.1 hc2
      have e1:=Nat.eq_of_beq_eq_true d1;have e2:=Nat.eq_of_beq_eq_true d2
      subst e1 e2
      obtain ⟨T2,ys,hl,hy⟩:=first hr
      intro β k d r hrun
      refine ⟨.val (.tup []) m,?_,SfM.refl m,hrun⟩
      refine YI hen (o:=.val (.tup []) (m.er D)) fun E V w vs hP hW H hn ha=>?_
      obtain ⟨u,rfl,hu'⟩:=Q22 ha
      obtain ⟨-,rfl⟩:i' < V.nx∧u=.pointer (some ⟨V.ι i',0,none⟩):=hu'
      obtain ⟨-,o,ho,vs,rfl,hvs⟩:=H.own _ _ hl
      obtain ⟨u0,hu0,hr0⟩:=hvs.2 0 _ hy
      obtain ⟨-,rfl⟩:i' < V.nx∧u0=.pointer (some ⟨V.ι i',0,none⟩):=hr0
      refine (hu (V.ι i') w (by rw [Jr ho];exact hu0)).mono ?_
      rintro e w' ⟨rfl,rfl⟩
      exact ⟨_,V,rfl,H,hn,Vu.Le.refl _ _,⟨#[],rfl,rfl,fun i y hy=>by cases hy⟩⟩
    ·rename_i T' N hb hr
     cases hc2:(Nat.beq T' T&&Nat.beq N 2) with
     | false=>rw [hc2] at hx;cases hx
     | true =>
      rw [hc2] at hx;cases hx
      obtain ⟨d1,d2⟩:=Bool.and_eq_true_iff.1 hc2
      have e1:=Nat.eq_of_beq_eq_true d1;have e2:=Nat.eq_of_beq_eq_true d2
      subst e1 e2
      obtain ⟨T2,ys,hl,hy⟩:=first hr
      obtain ⟨ys2,hl2,hlen⟩:=Yo hD (tk:=m.tk) hb
      obtain ⟨rfl,rfl⟩:T2=T'∧ys=ys2:=by
       have:=hl.symm.trans hl2
       cases this;exact ⟨rfl,rfl⟩
      intro β k d r hrun
      refine ⟨.val (.tup []) ⟨.set i 0 [.one (.ptr i 0)]::m.es,m.tk,m.nx⟩,?_,⟨⟨[_],Z⟩,⟨[],Z⟩,Nat.le_refl _⟩,hrun⟩
      refine YI hen (o:=.val (.tup []) ((⟨.set i 0 [.one (.ptr i 0)]::m.es,m.tk,m.nx⟩:TMe U).er D)) fun E V w vs hP hW H hn ha=>?_
      obtain ⟨u,rfl,hu'⟩:=Q22 ha
      obtain ⟨hi,rfl⟩:i < V.nx∧u=.pointer (some ⟨V.ι i,0,none⟩):=hu'
      obtain ⟨-,o,ho,vs,rfl,hvs⟩:=H.own _ _ hl
      obtain ⟨u0,hu0,hr0⟩:=hvs.2 0 _ hy
      have e0:u0=.pointer none:=by cases hr0;rfl
      subst e0
      refine (hf (V.ι i) w (by rw [Jr ho];exact hu0) (by have:=hvs.1;unfold World.shape?;rw [ho];simp only [];rw [this,hlen]) (free_of_own ho 0)).mono ?_
      rintro e w' ⟨rfl,rfl⟩
      obtain ⟨H1,L1⟩:=H.store hl 0 (x:=.ptr i 0) (u:=.pointer (some ⟨V.ι i,0,none⟩)) ⟨hi,rfl⟩
      refine ⟨_,V,rfl,H1.congr (fun j=>?_) (fun j=>rfl),hn,L1,⟨#[],rfl,rfl,fun i y hy=>by cases hy⟩⟩
      show Qcq (match Qcq (Qr D m.tk m.es) i with
       | some (.cells T ys)=>(i,.cells T (setL ys 0 (Jm D m.tk [.one (.ptr i 0)])))::Qr D m.tk m.es
       | _=>Qr D m.tk m.es) j=_
      rw [show Qcq (Qr D m.tk m.es) i=some (.cells T2 ys) from hl]
      rfl
    ·cases hx
  ·cases hx
 ·cases hx
variable (D)
def QA {α β:Type}:Option (α⊕β)→Option α
 | some (.inl a)=>some a
 | _=>none
def tblG (tb:List (Nat×PF U)):Qd7 U:=fun _ c args m=>match c with
 | .fn f=>match Qcq tb f,args with
  | some pf,.one (.ptr i off)::rest=>cond (Nat.beq off 0) (match Q99 D m i pf.bx,YP m.tk rest with
   | some (b,rs),some rest'=>cond (Q9v m i rs pf.bx) (match Q65 D pf.args rest' with
    | some v=>some ⟨fun k _=>Option.bind (QA (pf.m b v)) fun r=>k (Q3y pf.res r.2) (Q6i m i rs pf.bx r.1)⟩
    | none=>none) none
   | _,_=>none) none
  | _,_=>none
 | _=>none
variable {D}
theorem Yt (hD:D.OK) {P:Program} {tb:List (Nat×PF U)} {W:Wd} (h:AllT (ZD D W P) tb):X7 W D P (tblG D tb):=by
 intro Y c args m xo hY hx
 obtain ⟨xo',h',hr⟩:∃ xo',Q96 D tb Y c args m=some xo'∧∀ ⦃β:Type⦄ (k:TTV U→TMe U→Option β) (d:Value→TMe U→Option β) (r:β),xo.run k d=some r→xo'.run k d=some r:=by
  unfold tblG at hx
  unfold Q96
  split at hx
  ·split at hx
   ·rename_i f pf i off rest hlk
    try (dsimp only;rw [hlk];dsimp only)
    cases hoff:Nat.beq off 0 with
    | false=>rw [hoff] at hx;cases hx
    | true =>
     rw [hoff,cond_true] at hx
     rw [cond_true]
     split at hx
     ·rename_i b rs rest' hrd hs
      try (rw [hrd,hs];dsimp only)
      cases hok:Q9v m i rs pf.bx with
      | false=>rw [hok] at hx;cases hx
      | true =>
       rw [hok,cond_true] at hx
       rw [cond_true]
       split at hx
       ·rename_i v hv
        cases hx
        try rw [hv]
        refine ⟨_,Z,fun β k d r hk=>?_⟩
        obtain ⟨y,hy,hk⟩:=Ze (show Option.bind (QA (pf.m b v)) _=some r from hk)
        have hm:pf.m b v=some (.inl y):=by
         unfold QA at hy
         split at hy
         ·rename_i a ha;cases hy;exact ha
         ·cases hy
        show Option.bind (pf.m b v) _=some r
        rw [hm]
        exact hk
       ·cases hx
     ·cases hx
   ·cases hx
  ·cases hx
 intro β k d r hk
 exact YV hD h Y c args m xo' hY h' k d r (hr k d r hk)
end
end
section
open Go.RowKit Go.Shelf
theorem builder_String {P:Program} {ρ:Ren} (L:Lays.n169 P ρ) (X:Builder.Extra P ρ) (b g cap:Nat) (cur:Array Value) (l:List UInt8) (w:World)
  (hc:w.cell? ⟨b,1,none⟩=some (.slice (some ⟨g,0,none⟩) l.length cap)) (hg:w.heap[g]?=some (.cells cur (ρ.t 5) (0,0))) (hl0:l.length ≠ 0) (hnc:l.length≤cap) (hcm:cap≤maxLen) (hcs:cur.size=cap * 1)
  (hcells:∀ (j:Nat) (x:UInt8),l[j]?=some x→w.cell? ⟨g,j,none⟩=some (.int .u8 x.toNat)) :
  Calls P (ρ.f 169) #[.pointer (some ⟨b,0,none⟩)] w fun e w'=>e=.returned (.string ⟨l.toArray⟩)∧w'=w.drew.freeze ⟨g,0,none⟩ l.length:=by
 have h0:l ≠ []:=by simpa using hl0
 have c1:w.drew.cell? ⟨b,1,none⟩=some (.slice (some ⟨g,0,none⟩) l.length cap):=hc
 have hSD:(Builtin.unsafeSliceData_ #[(ρ.t 37)] (ρ.t 127) #[.slice (some ⟨g,0,none⟩) l.length cap]).run P w.drew=.ok (.pointer (some ⟨g,0,none⟩)) w.drew :=
  Lib.run_unsafeSliceData_row _ _ _ _ _ _ (by omega)
 have hUS:(Builtin.unsafeString_ #[(ρ.t 127),(ρ.t 3)] (ρ.t 9) #[.pointer (some ⟨g,0,none⟩),.int .i64 l.length]).run P w.drew=.ok (.string ⟨l.toArray⟩) (w.drew.freeze ⟨g,0,none⟩ l.length):=by
  refine Lib.run_unsafeString_row w.drew (ρ.t 127) (ρ.t 3) (ρ.t 9) (ρ.t 5) L.t127 X.cellsByte g cur.size (by have hg':w.drew.heap[g]?=some (.cells cur (ρ.t 5) (0,0)):=hg;simp [World.shape?,hg']) l h0 (by omega) (by unfold maxLen at hcm;omega) ?_
  intro j x hx
  rw [ZX,Nat.zero_add]
  exact hcells j x hx
 have mixed:=L.mixed
 have t72:=L.t72;have a72:=L.a72;have z72:=L.z72;have v72:=L.v72;have u72:=run_underlying L.t72
 have t70:=L.t70;have a70:=L.a70;have z70:=L.z70;have v70:=L.v70;have u70:=run_underlying L.t70
 have t37:=L.t37;have a37:=L.a37;have z37:=L.z37;have v37:=L.v37;have u37:=run_underlying L.t37
 have t127:=L.t127;have a127:=L.a127;have z127:=L.z127;have v127:=L.v127;have u127:=run_underlying L.t127
 have t3:=L.t3;have a3:=L.a3;have z3:=L.z3;have v3:=L.v3;have u3:=run_underlying L.t3
 have t9:=L.t9;have a9:=L.a9;have z9:=L.z9;have v9:=L.v9;have u9:=run_underlying L.t9
 have t5:=X.t5;have a5:=X.a5;have z5:=X.z5;have v5:=X.v5;have u5:=run_underlying X.t5
 go_enter L.f169,Body.n169_ntmps ρ
 go_wp2
 go_region_o
 all_goals (go_wp2;go_ret;exact ⟨rfl,rfl⟩)
theorem Q05 (w:World) (g n k:Nat) (hk:k ≠ g):(w.drew.freeze ⟨g,0,none⟩ n).heap[k]?=w.heap[k]?:=by
 unfold World.freeze
 split
 ·rfl
 ·show (w.drew.heap.modify g _)[k]?=_
  rw [Array.getElem?_modify,if_neg (fun e=>hk e.symm)]
  rfl
theorem frz_size (w:World) (g n:Nat):(w.drew.freeze ⟨g,0,none⟩ n).heap.size=w.heap.size:=by
 unfold World.freeze
 split
 ·rfl
 ·show (w.drew.heap.modify g _).size=_
  rw [Array.size_modify];rfl
theorem frz_cell (w:World) (g n b o:Nat):(w.drew.freeze ⟨g,0,none⟩ n).cell? ⟨b,o,none⟩=w.cell? ⟨b,o,none⟩:=by
 unfold World.freeze
 split
 ·rfl
 ·simp only [World.cell?,Array.getElem?_modify]
  by_cases e:g=b
  ·rw [if_pos e]
   have e2:w.drew.heap[b]?=w.heap[b]?:=rfl
   rw [e2]
   cases hb:w.heap[b]? with
   | none=>rfl
   | some x=>cases x <;> rfl
  ·rw [if_neg e];rfl
theorem frz_dk (w:World) (g n b:Nat) (ds:Option (List Deferred)) (h:w.heap[b]?=some (.deferred ds)):(w.drew.freeze ⟨g,0,none⟩ n).heap[b]?=some (.deferred ds):=by
 unfold World.freeze
 split
 ·exact h
 ·show (w.drew.heap.modify g _)[b]?=_
  rw [Array.getElem?_modify]
  by_cases e:g=b
  ·rw [if_pos e]
   show Option.map _ w.heap[b]?=_
   rw [h];rfl
  ·rw [if_neg e];exact h
theorem frz_os (w:World) (g n:Nat):(w.drew.freeze ⟨g,0,none⟩ n).os=w.os∧(w.drew.freeze ⟨g,0,none⟩ n).tape=w.tape∧(w.drew.freeze ⟨g,0,none⟩ n).output=w.output:=by
 unfold World.freeze
 split <;> exact ⟨rfl,rfl,rfl⟩
theorem HRel.frz {E:Env} {V:Vu} {hp:List (Nat×HB)} {tk:List (Nat×Option Tok)} {w:World} (h:HRel E V hp tk w) {g n:Nat} (hM:E.w0.heap.size≤g∨E.M g)
  (hb:∀ j B,Qcq hp j=some B→V.ι j ≠ g) (ht:∀ j T,Qcq tk j=some (some T)→(V.κ j T.n).ownBlock ≠ some g):HRel E V hp tk (w.drew.freeze ⟨g,0,none⟩ n)∧V.Le V w (w.drew.freeze ⟨g,0,none⟩ n):=by
 have L:V.Le V w (w.drew.freeze ⟨g,0,none⟩ n):=⟨Nat.le_refl _,fun _ _=>rfl,fun _ _=>Nat.le_refl _,fun _ _ _ _=>rfl,fun _ _ h=>h,fun b o _=>frz_cell w g n b o,fun b o _ ds hd=>frz_dk w g n b ds hd⟩
 obtain ⟨o1,o2,o3⟩:=frz_os w g n
 refine ⟨⟨⟨o1.trans h.ext.os,o2.trans h.ext.tape,o3.trans h.ext.output,by rw [frz_size];exact h.ext.size,fun k hk hkM=>?_⟩,h.le0.trans L,fun b o hs=>by rw [frz_size];exact h.sz b o hs,h.sub,fun i B hi=>?_,h.inj,h.new,fun i T hi=>?_,h.tki⟩,L⟩
 ·have hkg:k ≠ g:=fun e=>by
   subst e
   rcases hM with hM | hM
   ·exact absurd hk (Nat.not_lt.2 hM)
   ·exact hkM hM
  rw [Q05 w g n k hkg];exact h.ext.block k hk hkM
 ·obtain ⟨h1,o,h2,h3⟩:=h.own i B hi
  exact ⟨h1,o,by rw [Q05 w g n _ (hb i B hi)];exact h2,h3.mono L⟩
 ·obtain ⟨h1,h2,xs,h3,h4⟩:=h.tok i T hi
  exact ⟨h1,h2,xs,h3.keepW rfl (ownsRow_same h3.1 fun k hk=>Q05 w g n k fun e=>ht i T hi (by rw [hk,e])) L.lx,h4⟩
section
variable {U:Univ} (D:Codec U)
structure BytR (B:BytOf U) where
 rg:List (U.R B.t)→Bool
 ok:∀ l,rg l=true→(U.E B.t).encL l=Qd4 (B.sb l)
def Q9r (f E0:Nat) (B:BytOf U) (R:BytR B):Qd7 U:=fun _ c args m=>match c with
 | .fn g=>match args with
  | [.one (.ptr i off)]=>cond (Nat.beq g f&&Nat.beq off 0) (match Wc D m.es i 1 1 with
   | some [.one (.app j ver)]=>match cur m.tk j ver with
    | some T=>match KO T.t B.t T.l with
     | some l=>cond ((Nat.beq T.E E0&&!(Nat.beq E0 0))&&!(m.es.any (Ev.hasApp j (J0 m.tk j)))) (some ⟨fun k _=>Qc (cond (R.rg l) (!l.isEmpty) false) (k (.v (.one (.c (.str (B.sb l))))) ⟨m.es,(j,⟨0,B.t,l,J0 m.tk j⟩)::m.tk,m.nx⟩)⟩) none
     | none=>none
    | none=>none
   | _=>none) none
  | _=>none
 | _=>none
variable {D}
theorem strH_ok (hD:D.OK) {W:Wd} {P:Program} {f E0:Nat} {B:BytOf U} {R:BytR B} (hen:Qe P f)
  (hs:∀ (b g cap:Nat) (cur:Array Value) (l:List UInt8) (w:World),w.cell? ⟨b,1,none⟩=some (.slice (some ⟨g,0,none⟩) l.length cap)→w.heap[g]?=some (.cells cur E0 (0,0))→l.length ≠ 0→l.length≤cap→cap≤maxLen→cur.size=cap * 1 →
   (∀ (j:Nat) (x:UInt8),l[j]?=some x→w.cell? ⟨g,j,none⟩=some (.int .u8 x.toNat))→Calls P f #[.pointer (some ⟨b,0,none⟩)] w fun e w'=>e=.returned (.string ⟨l.toArray⟩)∧w'=w.drew.freeze ⟨g,0,none⟩ l.length):X7 W D P (Q9r D f E0 B R):=by
 intro Y c args m xo hY hx
 unfold Q9r at hx
 split at hx
 ·rename_i g0
  split at hx
  ·rename_i i off
   cases hc:(Nat.beq g0 f&&Nat.beq off 0) with
   | false=>rw [hc] at hx;cases hx
   | true =>
    rw [hc,cond_true] at hx
    obtain ⟨c1,c2⟩:=Bool.and_eq_true_iff.1 hc
    have e1:=Nat.eq_of_beq_eq_true c1;have e2:=Nat.eq_of_beq_eq_true c2
    subst e1 e2
    split at hx
    ·rename_i j ver hrd
     split at hx
     ·rename_i T hcur
      split at hx
      ·rename_i l hl
       obtain ⟨et,el⟩:=YS hl
       obtain ⟨TE,Tt,Tl,Tv⟩:=T
       dsimp only at et el
       subst et
       subst el
       cases hcd:((Nat.beq TE E0&&!(Nat.beq E0 0))&&!(m.es.any (Ev.hasApp j (J0 m.tk j)))) with
       | false=>rw [hcd] at hx;cases hx
       | true =>
        rw [hcd] at hx;cases hx
        obtain ⟨d12,d3⟩:=Bool.and_eq_true_iff.1 hcd
        obtain ⟨d1,d2⟩:=Bool.and_eq_true_iff.1 d12
        have eE:=Nat.eq_of_beq_eq_true d1
        have eN:Nat.beq E0 0=false:=by simpa using d2
        subst eE
        intro β k d r hrun
        obtain ⟨hg,hrun⟩:=G2 (show Qc _ _=some r from hrun)
        have hrg:R.rg l=true:=Ju hg
        have hne:l.isEmpty=false:=by simpa using QU hg
        have henc:=R.ok l hrg
        have hlen:(B.sb l).length=((U.E B.t).encL l).length:=by rw [henc,Q3a]
        have hl0:(B.sb l).length ≠ 0:=by
         rw [hlen,Enc.len]
         cases l with
         | nil=>cases hne
         | cons x r=>simp
        have hlk:Qcq m.tk j=some ⟨TE,B.t,l,Tv⟩:=by
         unfold cur at hcur
         split at hcur
         ·rename_i T0 h0
          cases hq:Nat.beq T0.ver ver with
          | false=>rw [hq] at hcur;cases hcur
          | true=>rw [hq] at hcur;cases hcur;exact h0
         ·cases hcur
        have htok:Qcq (m.er D).tk j=some (some ⟨TE,1,(B.sb l).length,[]⟩):=by
         show Qcq (QP TTok.erO m.tk) j=_
         rw [QR,hlk]
         show some (TTok.erO (⟨TE,B.t,l,Tv⟩:TTok U))=_
         rw [ZZ eN]
         show some (some (⟨TE,(U.E B.t).sz,((U.E B.t).encL l).length,[]⟩:Tok))=_
         rw [B.sz,hlen]
        obtain ⟨T2,ys,q1,q2,q3⟩:=Yr hD (tk:=m.tk) hrd
        have hy:ys[1]?=some (CA.app j 1 (Qd4 (B.sb l))):=by
         have h1:((ys.drop 1).take 1)[0]?=ys[1]?:=by simp
         rw [← h1,q3]
         show some (match cur m.tk j ver with
          | some T=>CA.app j (U.E T.t).sz ((U.E T.t).encL T.l)
          | none=>CA.any)=_
         rw [hcur]
         show some (CA.app j (U.E B.t).sz ((U.E B.t).encL l))=_
         rw [B.sz,henc]
        refine ⟨.val (.v (.one (.c (.str (B.sb l))))) ⟨m.es,(j,⟨0,B.t,l,J0 m.tk j⟩)::m.tk,m.nx⟩,?_,⟨⟨[],Z⟩,⟨[_],Z⟩,Nat.le_refl _⟩,hrun⟩
        refine YI hen (o:=.val (.v (.one (.d (.v (.string (Qci (B.sb l))))))) ((⟨m.es,(j,⟨0,B.t,l,J0 m.tk j⟩)::m.tk,m.nx⟩:TMe U).er D)) fun E V w vs hP hW H hn ha=>?_
        obtain ⟨u,rfl,hu'⟩:=Q22 ha
        obtain ⟨hi,rfl⟩:i < V.nx∧u=.pointer (some ⟨V.ι i,0,none⟩):=hu'
        obtain ⟨-,o,ho,vs,rfl,hvs⟩:=H.own _ _ (show Qcq (m.er D).hp i=some (.cells T2 ys) from q1)
        obtain ⟨u1,hu1,hr1⟩:=hvs.2 1 _ hy
        obtain ⟨-,hcu,rfl,hrd1⟩:j < V.nx∧(Qd4 (B.sb l)).length≤V.cu j∧u1=V.κ j (Qd4 (B.sb l)).length∧Reads V.S w (C.sl 1 (Qd4 (B.sb l))) u1:=hr1
        rw [Q3a] at hu1 hrd1
        obtain ⟨t1,t2,xs,t3,t4⟩:=H.tok j _ htok
        dsimp only at t2 t3 t4
        obtain ⟨g,cap,cu0,hv,-,hgc,hnc,hcm,hcs,-⟩:∃ g cap cur,V.κ j (B.sb l).length=.slice (some ⟨g,0,none⟩) (B.sb l).length cap∧0≤g∧w.heap[g]?=some (.cells cur TE (0,0))∧(B.sb l).length≤cap∧cap≤maxLen∧cur.size=cap * 1∧cur.toList.take ((B.sb l).length * 1)=xs:=by
         rcases t3.1.2 with ⟨_,hz⟩ | hr
         ·exact absurd hz hl0
         ·exact hr
        have hown:(V.κ j (B.sb l).length).ownBlock=some g:=by rw [hv];rfl
        obtain ⟨t5,t6,t7⟩:=t4 g hown
        rw [hv] at hu1 hrd1
        have hcells:∀ (q:Nat) (x:UInt8),(B.sb l)[q]?=some x→w.cell? ⟨g,q,none⟩=some (.int .u8 x.toNat):=by
         generalize hes:Qd4 (B.sb l)=es at hrd1
         have hel:es.length=(B.sb l).length:=by rw [← hes,Q3a]
         generalize hv2:Value.slice (some ⟨g,0,none⟩) (B.sb l).length cap=v2 at hrd1
         cases hrd1 with
         | sl _ _ a cap2 b0 off0 ff hcap haa hll hcc hss hrr =>
          have ea:=haa (by intro e;rw [e] at hel;exact hl0 hel.symm)
          injection hv2 with e1 e2 e3
          rw [ea] at e1
          injection e1 with e1
          injection e1 with e4 e5
          subst e4 e5
          intro q x hq
          have hq':es[q]?=some [C.v (.int .u8 x.toNat)]:=by rw [← hes];unfold Qd4;rw [List.getElem?_map,hq];rfl
          have h1:=hcc q _ 0 _ hq' rfl
          have h2:=hrr q _ 0 _ hq' rfl
          rw [Nat.mul_one,Nat.add_zero,Nat.zero_add] at h1
          generalize ff q 0=fv at h1 h2
          cases h2
          exact h1
        refine (hs (V.ι i) g cap cu0 (B.sb l) w (by rw [Jr ho];exact hu1) hgc hl0 hnc hcm hcs hcells).mono ?_
        rintro e w' ⟨rfl,rfl⟩
        have hst:=YR (D:=D) (tk:=m.tk) (tk':=(j,(⟨0,B.t,l,J0 m.tk j⟩:TTok U))::m.tk) (es:=m.es) (WL fun hp=>by
         have:m.es.any (Ev.hasApp j (J0 m.tk j))=true:=hp
         rw [this] at d3;cases d3)
        have hhp:∀ k B',Qcq ((⟨m.es,(j,⟨0,B.t,l,J0 m.tk j⟩)::m.tk,m.nx⟩:TMe U).er D).hp k=some B'→∃ A,Qcq (m.er D).hp k=some A∧∀ V w o,A.rel V w o→B'.rel V w o:=fun k B' hB=>by
         have ow:=hst k
         have hB':Qcq (Qr D ((j,(⟨0,B.t,l,J0 m.tk j⟩:TTok U))::m.tk) m.es) k=some B':=hB
         rw [hB'] at ow
         show ∃ A,Qcq (Qr D m.tk m.es) k=some A∧_
         cases hA:Qcq (Qr D m.tk m.es) k with
         | none=>rw [hA] at ow;exact ow.elim
         | some A=>rw [hA] at ow;exact ⟨A,rfl,fun V w o hr=>BW.rel ow hr⟩
        have htk:∀ k T,Qcq ((⟨m.es,(j,⟨0,B.t,l,J0 m.tk j⟩)::m.tk,m.nx⟩:TMe U).er D).tk k=some (some T)→k ≠ j∧Qcq (m.er D).tk k=some (some T):=fun k T hT=>by
         have hT':Qcq ((j,(none:Option Tok))::X5 m.tk) k=some (some T):=hT
         rw [Q8] at hT'
         by_cases e:j=k
         ·rw [if_pos e] at hT';cases hT'
         ·rw [if_neg e] at hT';exact ⟨fun h=>e h.symm,hT'⟩
        have H1:=H.weak hhp fun k T hT=>(htk k T hT).2
        obtain ⟨H2,L2⟩:=H1.frz (g:=g) (n:=(B.sb l).length) t5 (fun k B' hB=>by
         obtain ⟨A,hA,-⟩:=hhp k B' hB
         exact t7 k A hA) (fun k T hT hk=>by
         obtain ⟨n1,n2⟩:=htk k T hT
         exact n1 (H.tki k j T _ g n2 htok hk hown))
        exact ⟨_,V,Z,H2,hn,L2,Jk Z⟩
      ·cases hx
     ·cases hx
    ·cases hx
  ·cases hx
 ·cases hx
end
end
section
open Go.RowKit
def Tabs (P:Program) (S:Nat→Nat→Prop) (w:World):Prop :=
 ∃ g, P.globalNamed "internal/strconv.uint64pow10" = some g ∧ (∀ o, S g o) ∧ ∀ o, w.cell? ⟨g, o, none⟩ = (Lib.pow10Tab.map fun z => Value.int .u64 z)[o]?
theorem Tabs.mono {P:Program} {S S':Nat→Nat→Prop} {w w':World} (h:Tabs P S w) (hS:∀ b o,S b o→S' b o) (hw:∀ b o,S b o→w'.cell? ⟨b,o,none⟩=w.cell? ⟨b,o,none⟩):Tabs P S' w':=by
 obtain ⟨g,h1,h2,h3⟩:=h
 exact ⟨g,h1,fun o=>hS _ _ (h2 o),fun o=>(hw _ _ (h2 o)).trans (h3 o)⟩
theorem Tabs.is {P : Program} {S : Nat → Nat → Prop} {w : World} (h : Tabs P S w) : Lib.TabIs P w "internal/strconv.uint64pow10" .u64 Lib.pow10Tab := by
 obtain ⟨g,h1,-,h3⟩:=h
 have h0:=h3 0
 unfold Lib.TabIs World.var?
 rw [h1]
 simp only [World.cell?] at h0 h3
 simp only [Option.bind_some]
 split at h0
 ·rename_i c T f hc
  rw [hc]
  refine congrArg some (Array.ext_getElem? fun o=>?_)
  have:=h3 o
  rw [hc] at this
  simpa using this
 ·have:(Lib.pow10Tab.map fun z=>Value.int .u64 z)[0]?=some (.int .u64 1):=rfl
  rw [this] at h0;cases h0
theorem Tabs.of {P : Program} {S : Nat → Nat → Prop} {w : World} {g : Nat} (hg : P.globalNamed "internal/strconv.uint64pow10" = some g) (hS : ∀ o, S g o) (h : Lib.TabIs P w "internal/strconv.uint64pow10" .u64 Lib.pow10Tab) : Tabs P S w := by
 refine ⟨g,hg,hS,fun o=>?_⟩
 unfold Lib.TabIs World.var? at h
 rw [hg] at h
 simp only [Option.bind_some] at h
 split at h
 ·rename_i c T f hc
  cases h
  simp [World.cell?,hc]
 ·cases h
theorem Tabs.blk {P : Program} {S : Nat → Nat → Prop} {w : World} (h : Tabs P S w) : ∃ g, P.globalNamed "internal/strconv.uint64pow10" = some g ∧ (∀ o, S g o) ∧ (∀ o, w.cell? ⟨g, o, none⟩ = (Lib.pow10Tab.map fun z => Value.int .u64 z)[o]?) ∧ ∀ ds, w.heap[g]? ≠ some (Obj.deferred ds) := by
 obtain ⟨g,h1,h2,h3⟩:=h
 refine ⟨g,h1,h2,h3,fun ds hd=>?_⟩
 have h0:=h3 0
 simp only [World.cell?] at h0
 rw [hd] at h0
 have:(Lib.pow10Tab.map fun z=>Value.int .u64 z)[0]?=some (.int .u64 1):=rfl
 rw [this] at h0;cases h0
def WT (P:Program):Wd where
 p:=Tabs P
 mono:=fun V V' w w' hL h=>h.mono hL.S hL.cell
 mono2:=fun S S' w w' hS hw h=>by
  obtain ⟨g,h1,h2,h3,h4⟩:=h.blk
  refine ⟨g,h1,fun o=>hS g o h4 (h2 o),fun o=>?_⟩
  rw [← h3 o]
  simp only [World.cell?]
  rw [hw g h4]
end
section
open Go.RowKit Go.Shelf
set_option maxRecDepth 100000
theorem GP {w w':World} (h:Below w.heap.size w w'):X6 w w':=⟨h.os,h.tape,h.output,h.size,fun k hk _=>h.block k hk⟩
theorem ZB {W:Wd} {P:Program} {f:FuncId} {vs0:List Value} {res:TV} (v:Value) (hen:Qe P f) (hres:∀ V w,res.rel V w v) (h:∀ S w,W.p S w→Calls P f vs0.toArray w fun e w'=>e=.returned v∧X6 w w'):FunW W P f (vs0.map fun a=>.one (.d (.v a))) res:=by
 refine ⟨hen,fun S w vs hS hW hargs=>?_⟩
 have hsz:vs.size=vs0.length:=by rw [hargs.1,List.length_map]
 have hvs:vs=vs0.toArray:=by
  apply Array.ext_getElem?
  intro k
  cases hk:vs0[k]? with
  | none =>
   have:=List.getElem?_eq_none_iff.1 hk
   rw [Array.getElem?_eq_none (by omega)]
   simp [hk]
  | some a =>
   obtain ⟨u,h1,h2⟩:=hargs.2 k (.one (.d (.v a))) (by rw [List.getElem?_map,hk];rfl)
   have e:u=a:=by cases h2;rfl
   rw [h1,e]
   simp [hk]
 rw [hvs]
 exact (h S w hW).mono fun e w' ⟨he,hx⟩=>⟨v,S,he,hx,fun _ _ h=>h,fun b o h=>⟨.inl h,Nat.lt_of_lt_of_le (hS b o h) hx.size⟩,hres _ _⟩
abbrev W0:Wd:=WT Tryz.prog
theorem Wd.tabs {S:Nat→Nat→Prop} {w:World} (h:W0.p S w):Tabs Tryz.prog S w:=h
section
variable {U:Univ}
def kOr (A B:FuncId→List (TAV U)→Option (KR U)) (f:FuncId) (args:List (TAV U)):Option (KR U):=match A f args with
 | some k=>some k
 | none=>B f args
theorem kOr_ok {W:Wd} {D:Codec U} {P:Program} {A B:FuncId→List (TAV U)→Option (KR U)} (hA:US W D P A) (hB:US W D P B):US W D P (kOr A B):=by
 intro f args kr a h ha
 unfold kOr at h
 split at h
 ·rename_i k hk;cases h;exact hA f args _ a hk ha
 ·exact hB f args _ a h ha
end
noncomputable def k62:KF UV:=⟨[.int .i64],[.str],fun (n:Int)=>Qc (cond (decide (-9223372036854775808≤n)) (decide (n≤9223372036854775807)) false) (some (Lib.itoa n))⟩
theorem en_62:Qe Tryz.prog 62:=enters_of Tryz.func62 (by kernel_rfl) rfl
theorem GM:Jo DV W0 Tryz.prog 62 k62:=⟨rfl,fun (v:Int) (r:Qdk) h=>by
 obtain ⟨hg,h⟩:=G2 (show Qc _ _=some r from h)
 cases h
 have h0:-9223372036854775808≤v:=of_decide_eq_true (Ju hg)
 have h1:v≤9223372036854775807:=of_decide_eq_true (QU hg)
 refine ZB (vs0:=[.int .i64 v]) (res:=Qd9 (Lib.itoa v)) (.string (Qci (Lib.itoa v))) en_62 (fun V w=>Jk Z) fun S w hW=>?_
 refine Calls.mono (Any.strconv_Itoa Tryz.lays171 v h0 h1 w (Wd.tabs hW).is) ?_
 rintro e w' ⟨rfl,k,os,rfl⟩
 exact ⟨rfl,⟨rfl,rfl,rfl,(by simp [Go.Sort.grow,World.drewN]),fun k hk _=>by simp [Go.Sort.grow,World.drewN,Array.getElem?_append_left hk]⟩⟩⟩
noncomputable def k122:KF UV:=⟨[.str,.int .u8],[.int .i64],fun (v:Qdk×Int)=>some (Lib.indexByte v.1 v.2.toNat.toUInt8)⟩
theorem en_122:Qe Tryz.prog 122:=enters_of Tryz.func122 (by kernel_rfl) rfl
theorem Q2y:Jo DV W0 Tryz.prog 122 k122:=⟨rfl,fun (v:Qdk×Int) (r:Int) h=>by
 cases h
 refine ZB (vs0:=[.string (Qci v.1),.int .u8 v.2]) (res:=Qda (Lib.indexByte v.1 v.2.toNat.toUInt8)) (.int .i64 (Lib.indexByte v.1 v.2.toNat.toUInt8)) en_122 (fun V w=>Jk Z) fun S w hW=>?_
 refine Calls.mono (Any.strings_IndexByte Tryz.lays137 (Qci v.1) v.2 w) ?_
 rintro e w' ⟨rfl,rfl⟩
 exact ⟨Z,ExtM.refl _ _⟩⟩
noncomputable def k126:KF UV:=⟨[.str,.str],[.bool],fun (v:Qdk×Qdk)=>some (Lib.hasPrefix v.1 v.2)⟩
theorem en_126:Qe Tryz.prog 126:=enters_of Tryz.func126 (by kernel_rfl) rfl
theorem k126_ok:Jo DV W0 Tryz.prog 126 k126:=⟨rfl,fun (v:Qdk×Qdk) (r:Bool) h=>by
 cases h
 refine ZB (vs0:=[.string (Qci v.1),.string (Qci v.2)]) (res:=Qdb (Lib.hasPrefix v.1 v.2)) (.bool (Lib.hasPrefix v.1 v.2)) en_126 (fun V w=>Jk Z) fun S w hW=>?_
 refine Calls.mono (Any.strings_HasPrefix Tryz.lays99 (Qci v.1) (Qci v.2) w) ?_
 rintro e w' ⟨rfl,rfl⟩
 exact ⟨Z,ExtM.refl _ _⟩⟩
noncomputable def k146:KF UV:=⟨[.str,.str],[.str],fun (v:Qdk×Qdk)=>Qc (cond (Nat.ble v.1.length 1000000000) (cond (Nat.ble v.2.length 1000) (v.2.all fun b=>decide (b.toNat < 128)) false) false) (some (Lib.trimS v.1 v.2))⟩
theorem en_146:Qe Tryz.prog 146:=enters_of Tryz.func146 (by kernel_rfl) rfl
theorem k146_ok:Jo DV W0 Tryz.prog 146 k146:=⟨rfl,fun (v:Qdk×Qdk) (r:Qdk) h=>by
 obtain ⟨hg,h⟩:=G2 (show Qc _ _=some r from h)
 cases h
 have h0:=Nat.le_of_ble_eq_true (Ju hg)
 have h1:=Nat.le_of_ble_eq_true (Ju (QU hg))
 have h2:=QU (QU hg)
 refine ZB (vs0:=[.string (Qci v.1),.string (Qci v.2)]) (res:=Qd9 (Lib.trimS v.1 v.2)) (.string (Qci (Lib.trimS v.1 v.2))) en_146 (fun V w=>Jk Z) fun S w hW=>?_
 refine Calls.mono (Any.strings_Trim_laid Tryz.lays160 (by kernel_rfl) (Qci v.1) (Qci v.2) w (by rw [YX];omega) (by rw [YX];omega) (ascii_of_all h2)) ?_
 rintro e w' ⟨rfl,hb⟩
 exact ⟨Z,GP hb⟩⟩
theorem en_147:Qe Tryz.prog 147:=enters_of Tryz.func147 (by kernel_rfl) rfl
def atK:FuncId→List (TAV UV)→Option (KR UV):=fun f args=>cond (Nat.beq f 147) (match args with
 | [.one (.c (.str s))]=>some ⟨Int,Qc (cond (Nat.ble s.length 18) (Lib.atoi s).isSome false) (some ((Lib.atoi s).getD 0)),fun n=>.tup [.one (.c (.v (.int .i64 n))),.one (.c (.v .nilIface))]⟩
 | _=>none) none
theorem tup2 {a b:Value} {x y:AV} (h1:∀ V w,x.rel V w a) (h2:∀ V w,y.rel V w b):∀ V w,(TV.tup [x,y]).rel V w (.tuple #[a,b]):=fun V w =>
 ⟨#[a,b],rfl,rfl,fun i z hz=>by
  match i,hz with
  | 0,hz=>cases hz;exact ⟨a,rfl,h1 V w⟩
  | 1,hz=>cases hz;exact ⟨b,rfl,h2 V w⟩⟩
theorem atK_ok:US W0 DV Tryz.prog atK:=by
 intro f args kr a h ha
 unfold atK at h
 cases hb:Nat.beq f 147 with
 | false=>rw [hb] at h;cases h
 | true =>
  rw [hb,cond_true] at h
  have:=Nat.eq_of_beq_eq_true hb
  subst this
  split at h
  ·rename_i s
   cases h
   obtain ⟨hg,h⟩:=G2 (show Qc _ _=some a from ha)
   have h0:=Nat.le_of_ble_eq_true (Ju hg)
   obtain ⟨n,hn⟩:=Option.isSome_iff_exists.1 (QU hg)
   have e:a=n:=by
    have:(Lib.atoi s).getD 0=a:=Option.some.inj h
    rw [← this,hn];rfl
   subst e
   refine ⟨[.one (.d (.v (.string (Qci s))))],fun tk=>.cons (.one (.d _)) .nil,fun tk=>?_⟩
   refine ZB (vs0:=[.string (Qci s)]) (.tuple #[.int .i64 a,.nilIface]) en_147 (tup2 (fun V w=>Reads.v _ Z) (fun V w=>Reads.v _ Z)) fun S w hW=>?_
   refine Calls.mono (Any.strconv_Atoi Tryz.lays172 (Qci s) a (by rw [YX];exact h0) hn w) ?_
   rintro e w' ⟨rfl,t,rfl⟩
   exact ⟨Z,GP (Lib.bytesWorld_below _ _ _)⟩
  ·cases h
theorem join_funW (xs:List (List UInt8)) (sep:List UInt8) (h:(cond (Nat.ble xs.length 1000000) (Nat.ble (Lib.join xs sep).length 1000000000) false)=true):FunW (WT Tryz.prog) Tryz.prog 141 [.one (.d (.sl 1 (xs.map Q12))),.one (Q9i sep)] (Qd9 (Lib.join xs sep)):=by
 have h0:=Nat.le_of_ble_eq_true (Ju h)
 have h1:=Nat.le_of_ble_eq_true (QU h)
 have hmap:(xs.map Qci).map (·.data.toList)=xs:=by
  rw [List.map_map]
  have:((fun x:ByteArray=>x.data.toList) ∘ Qci)=id:=rfl
  rw [this,List.map_id]
 refine ⟨enters_of Tryz.func141 (by kernel_rfl) rfl,fun S w vs hS _ hargs=>?_⟩
 obtain ⟨u0,hu0,r0⟩:=hargs.2 0 _ rfl
 obtain ⟨u1,hu1,r1⟩:=hargs.2 1 _ rfl
 have e1:u1=.string (Qci sep):=by cases r1;rfl
 subst e1
 have hvs:vs=#[u0,.string (Qci sep)]:=by
  apply Array.ext_getElem?
  intro k
  match k with
  | 0=>rw [hu0];rfl
  | 1=>rw [hu1];rfl
  | k+2=>rw [Array.getElem?_eq_none (by rw [hargs.1];simp)];simp
 rw [hvs]
 have fin:∀ (e:Ending) (w':World),e=.returned (.string (Qci (Lib.join xs sep)))∧Below w.heap.size w w'→∃ v S',e=.returned v∧X6 w w'∧(∀ b o,S b o→S' b o)∧(∀ b o,S' b o→(S b o∨w.heap.size≤b)∧b < w'.heap.size)∧(Qd9 (Lib.join xs sep)).rel (Yh S') w' v :=
  fun e w' ⟨he,hb⟩=>⟨_,S,he,GP hb,fun _ _ h=>h,fun b o h=>⟨.inl h,Nat.lt_of_lt_of_le (hS b o h) hb.size⟩,Jk rfl⟩
 have rd:Reads S w (.sl 1 (xs.map Q12)) u0:=r0
 generalize hes:xs.map Q12=es at rd
 cases rd with
 | sl _ _ a cap b off f hcap ha hl hc hs hr =>
  subst hes
  rw [List.length_map] at hcap ⊢
  cases xs with
  | nil =>
   refine Calls.mono (Any.strings_Join_none GX Tryz.bx156 a cap (Qci sep) w) ?_
   rintro e w' ⟨rfl,rfl⟩
   exact fin _ _ ⟨Z,Below.refl _ _⟩
  | cons x r =>
   have ha':=ha (by simp)
   subst ha'
   have hget:∀ (j:Nat) (y:List UInt8),(x::r)[j]?=some y→w.cell? ⟨b,off+j,none⟩=some (.string (Qci y))∧S b (off+j):=fun j y hy=>by
    have hj:((x::r).map Q12)[j]?=some (Q12 y):=by rw [List.getElem?_map,hy];rfl
    have h3:=hc j (Q12 y) 0 _ hj rfl
    have h4:=hs j (Q12 y) 0 _ hj rfl
    have h5:=hr j (Q12 y) 0 _ hj rfl
    rw [Nat.mul_one,Nat.add_zero] at h3 h4
    have e5:f j 0=.string (Qci y):=by
     generalize hfv:f j 0=fv at h5
     cases h5;rfl
    rw [e5] at h3
    exact ⟨h3,h4⟩
   have key:=Any.strings_Join GX Tryz.bx156 b off cap ((x::r).map Qci) (Qci sep) w (fun j y hy=>by
    rw [List.getElem?_map] at hy
    cases hz:(x::r)[j]? with
    | none=>rw [hz] at hy;cases hy
    | some z=>rw [hz] at hy;cases hy;exact (hget j z hz).1) (hS _ _ (hget 0 x rfl).2) (by rw [List.length_map];omega) (by rw [List.length_map];exact hcap) (by rw [hmap];exact Nat.le_trans h1 (by decide))
   rw [hmap,List.length_map] at key
   exact Calls.mono key fin
noncomputable def k141:KF UV:=⟨[.sl .t9,.str],[.str],fun (v:List Qdk×Qdk)=>Qc (cond (Nat.ble v.1.length 1000000) (Nat.ble (Lib.join v.1 v.2).length 1000000000) false) (some (Lib.join v.1 v.2))⟩
theorem k141_ok:Jo DV W0 Tryz.prog 141 k141:=⟨rfl,fun (v:List Qdk×Qdk) (r:Qdk) h=>by
 obtain ⟨hg,h⟩:=G2 (show Qc _ _=some r from h)
 cases h
 exact join_funW v.1 v.2 hg⟩
def Q7i (n:Int):Option (List UInt8):=Qc (cond (decide (-9223372036854775808≤n)) (decide (n≤9223372036854775807)) false) (some (Lib.itoa n))
def m122 (s:List UInt8) (c:Int):Option Int:=some (Lib.indexByte s c.toNat.toUInt8)
def m126 (s p:List UInt8):Option Bool:=some (Lib.hasPrefix s p)
def m146 (s c:List UInt8):Option (List UInt8):=Qc (cond (Nat.ble s.length 1000000000) (cond (Nat.ble c.length 1000) (c.all fun b=>decide (b.toNat < 128)) false) false) (some (Lib.trimS s c))
def m141 (l:List (List UInt8)) (s:List UInt8):Option (List UInt8):=Qc (cond (Nat.ble l.length 1000000) (Nat.ble (Lib.join l s).length 1000000000) false) (some (Lib.join l s))
theorem en_112:Qe Tryz.prog 112:=enters_of Tryz.func112 (by kernel_rfl) rfl
theorem en_30:Qe Tryz.prog 30:=enters_of Tryz.func30 (by kernel_rfl) rfl
theorem Q8s:X7 W0 DV Tryz.prog (Qaq DV 112 62):=ccH_ok Qf en_112 (fun b w h=>Any.Builder_copyCheck_used Kc Tryz.bx156.toX72 b w h) (fun b w h h2 h3=>Any.Builder_copyCheck_fresh Kc Tryz.bx156.toX72 b w h h2 h3)
noncomputable def rgV:BytR Qcb where
 rg:=fun l=>(l:List Byt).all fun x=>cond (decide (0≤x.n)) (decide (x.n < 256)) false
 ok:=fun l h=>by
  have key:∀ l:List Byt,(l.all fun x=>cond (decide (0≤x.n)) (decide (x.n < 256)) false)=true→l.map bytC=Qd4 (l.map Byt.u8):=fun l h=>by
   unfold Qd4
   rw [List.map_map]
   refine List.map_congr_left fun x hx=>?_
   have hx2:=List.all_eq_true.1 h x hx
   have h0:0≤x.n:=of_decide_eq_true (Ju hx2)
   have h1:x.n < 256:=of_decide_eq_true (QU hx2)
   show [C.v (.int .u8 x.n)]=[C.v (.int .u8 ((UInt8.ofNat x.n.toNat).toNat:Int))]
   rw [UInt8.toNat_ofNat',Nat.mod_eq_of_lt (by omega),Int.toNat_of_nonneg h0]
  exact key l h
theorem st_ok:X7 W0 DV Tryz.prog (Q9r DV 30 5 Qcb rgV):=strH_ok Qf en_30 fun b g cap cur l w h1 h2 h3 h4 h5 h6 h7=>builder_String Tryz.lays169 Tryz.bx169 b g cap cur l w h1 h2 h3 h4 h5 h6 h7
end
section
open Go.RowKit Go.Shelf
theorem Jj:QY Tryz.prog 25 0=some 0:=by kernel_rfl
theorem Yw:QY Tryz.prog 25 1=some 1:=by kernel_rfl
theorem U2:QY Tryz.prog 25 2=some 2:=by kernel_rfl
theorem YZ:QY Tryz.prog 25 3=some 3:=by kernel_rfl
theorem Y2:QY Tryz.prog 25 4=some 4:=by kernel_rfl
theorem KM:QY Tryz.prog 82 0=some 0:=by kernel_rfl
theorem Yv:QY Tryz.prog 82 1=some 1:=by kernel_rfl
theorem fo_107_0:QY Tryz.prog 107 0=some 0:=by kernel_rfl
theorem fo_107_1:QY Tryz.prog 107 1=some 1:=by kernel_rfl
theorem fo_107_2:QY Tryz.prog 107 2=some 2:=by kernel_rfl
theorem fo_107_3:QY Tryz.prog 107 3=some 3:=by kernel_rfl
theorem JQ:QY Tryz.prog 142 0=some 0:=by kernel_rfl
theorem Gh:QY Tryz.prog 142 1=some 1:=by kernel_rfl
theorem fo_155_0:QY Tryz.prog 155 0=some 0:=by kernel_rfl
theorem fo_155_1:QY Tryz.prog 155 1=some 1:=by kernel_rfl
theorem ZS:QY Tryz.prog 155 2=some 2:=by kernel_rfl
theorem ZR:QY Tryz.prog 155 3=some 3:=by kernel_rfl
theorem fo_155_4:QY Tryz.prog 155 4=some 4:=by kernel_rfl
theorem QO:Jp Tryz.prog 3=some (false,1):=by kernel_rfl
theorem Qag:Jp Tryz.prog 4=some (false,1):=by kernel_rfl
theorem Q8u:Jp Tryz.prog 9=some (false,1):=by kernel_rfl
theorem X4:Jp Tryz.prog 22=some (false,1):=by kernel_rfl
theorem ZW:Jp Tryz.prog 23=some (false,1):=by kernel_rfl
theorem Zg:Jp Tryz.prog 25=some (true,5):=by kernel_rfl
theorem Q8v:Jp Tryz.prog 26=some (false,1):=by kernel_rfl
theorem Da:Jp Tryz.prog 28=some (false,1):=by kernel_rfl
theorem KT:Jp Tryz.prog 80=some (false,1):=by kernel_rfl
theorem Wj:Jp Tryz.prog 82=some (true,2):=by kernel_rfl
theorem Q3f:Jp Tryz.prog 107=some (true,4):=by kernel_rfl
theorem GU:Jp Tryz.prog 142=some (true,2):=by kernel_rfl
theorem ag_153:Jp Tryz.prog 153=some (false,1):=by kernel_rfl
theorem ag_155:Jp Tryz.prog 155=some (true,5):=by kernel_rfl
theorem Q0v:Jp Tryz.prog 156=some (true,65):=by kernel_rfl
theorem KD:Je Tryz.prog 22=some (82,2):=by kernel_rfl
theorem Zl:Je Tryz.prog 23=some (25,5):=by kernel_rfl
theorem ZE:Je Tryz.prog 80=some (142,2):=by kernel_rfl
theorem z_3:YM Tryz.prog 3=some [.int .i64 0]:=by kernel_rfl
theorem Q9q:YM Tryz.prog 25=some [.int .i64 0,.int .i64 0,.string ByteArray.empty,.slice none 0 0,.slice none 0 0]:=by kernel_rfl
theorem z_26:YM Tryz.prog 26=some [.nilFunc]:=by kernel_rfl
theorem z_28:YM Tryz.prog 28=some [.int .i64 0]:=by kernel_rfl
theorem z_82:YM Tryz.prog 82=some [.int .i64 0,.slice none 0 0]:=by kernel_rfl
theorem z_107:YM Tryz.prog 107=some [.int .i64 0,.int .i64 0,.int .i64 0,.int .i64 0]:=by kernel_rfl
theorem Q6h:YM Tryz.prog 142=some [.int .i64 0,.int .i64 0]:=by kernel_rfl
theorem z_155:YM Tryz.prog 155=some [.bool false,.bool false,.int .i64 0,.int .i64 0,.int .i64 0]:=by kernel_rfl
theorem Q7n:YM Tryz.prog 156=some [.bool false,.bool false,.int .i64 0,.int .i64 0,.int .i64 0,.bool false,.bool false,.int .i64 0,.int .i64 0,.int .i64 0,.bool false,.bool false,.int .i64 0,.int .i64 0,.int .i64 0,.bool false,.bool false,.int .i64 0,.int .i64 0,.int .i64 0,.bool false,.bool false,.int .i64 0,.int .i64 0,.int .i64 0,.bool false,.bool false,.int .i64 0,.int .i64 0,.int .i64 0,.bool false,.bool false,.int .i64 0,.int .i64 0,.int .i64 0,.bool false,.bool false,.int .i64 0,.int .i64 0,.int .i64 0,.bool false,.bool false,.int .i64 0,.int .i64 0,.int .i64 0,.bool false,.bool false,.int .i64 0,.int .i64 0,.int .i64 0,.bool false,.bool false,.int .i64 0,.int .i64 0,.int .i64 0,.bool false,.bool false,.int .i64 0,.int .i64 0,.int .i64 0,.bool false,.bool false,.int .i64 0,.int .i64 0,.int .i64 0]:=by kernel_rfl
theorem bd_107:K0 Tryz.prog 107 [(0,1),(1,1),(2,1),(3,1)] [.int .i64 0,.int .i64 0,.int .i64 0,.int .i64 0]:=⟨by kernel_rfl,by kernel_rfl⟩
theorem JB:K0 Tryz.prog 155 [(0,1),(1,1),(2,1),(3,1),(4,1)] [.bool false,.bool false,.int .i64 0,.int .i64 0,.int .i64 0]:=⟨by kernel_rfl,by kernel_rfl⟩
theorem bd_156:K0 Tryz.prog 156 [(0,5),(5,5),(10,5),(15,5),(20,5),(25,5),(30,5),(35,5),(40,5),(45,5),(50,5),(55,5),(60,5)] [.bool false,.bool false,.int .i64 0,.int .i64 0,.int .i64 0,.bool false,.bool false,.int .i64 0,.int .i64 0,.int .i64 0,.bool false,.bool false,.int .i64 0,.int .i64 0,.int .i64 0,.bool false,.bool false,.int .i64 0,.int .i64 0,.int .i64 0,.bool false,.bool false,.int .i64 0,.int .i64 0,.int .i64 0,.bool false,.bool false,.int .i64 0,.int .i64 0,.int .i64 0,.bool false,.bool false,.int .i64 0,.int .i64 0,.int .i64 0,.bool false,.bool false,.int .i64 0,.int .i64 0,.int .i64 0,.bool false,.bool false,.int .i64 0,.int .i64 0,.int .i64 0,.bool false,.bool false,.int .i64 0,.int .i64 0,.int .i64 0,.bool false,.bool false,.int .i64 0,.int .i64 0,.int .i64 0,.bool false,.bool false,.int .i64 0,.int .i64 0,.int .i64 0,.bool false,.bool false,.int .i64 0,.int .i64 0,.int .i64 0]:=⟨by kernel_rfl,by kernel_rfl⟩
theorem arr_156:DC Tryz.prog 156=some (13,5):=by kernel_rfl
theorem Q73:JN Tryz.prog 9=true:=by kernel_rfl
theorem en_27:Qe Tryz.prog 27:=enters_of Tryz.func27 (by kernel_rfl) rfl
theorem en_58:Qe Tryz.prog 58:=enters_of Tryz.func58 (by kernel_rfl) rfl
theorem en_59:Qe Tryz.prog 59:=enters_of Tryz.func59 (by kernel_rfl) rfl
theorem en_60:Qe Tryz.prog 60:=enters_of Tryz.func60 (by kernel_rfl) rfl
theorem en_106:Qe Tryz.prog 106:=enters_of Tryz.func106 (by kernel_rfl) rfl
theorem en_107:Qe Tryz.prog 107:=enters_of Tryz.func107 (by kernel_rfl) rfl
theorem en_108:Qe Tryz.prog 108:=enters_of Tryz.func108 (by kernel_rfl) rfl
theorem en_109:Qe Tryz.prog 109:=enters_of Tryz.func109 (by kernel_rfl) rfl
theorem en_110:Qe Tryz.prog 110:=enters_of Tryz.func110 (by kernel_rfl) rfl
theorem en_111:Qe Tryz.prog 111:=enters_of Tryz.func111 (by kernel_rfl) rfl
theorem en_135:Qe Tryz.prog 135:=enters_of Tryz.func135 (by kernel_rfl) rfl
theorem en_136:Qe Tryz.prog 136:=enters_of Tryz.func136 (by kernel_rfl) rfl
theorem en_158:Qe Tryz.prog 158:=enters_of Tryz.func158 (by kernel_rfl) rfl
theorem en_188:Qe Tryz.prog 188:=enters_of Tryz.func188 (by kernel_rfl) rfl
theorem en_189:Qe Tryz.prog 189:=enters_of Tryz.func189 (by kernel_rfl) rfl
theorem en_211:Qe Tryz.prog 211:=enters_of Tryz.func211 (by kernel_rfl) rfl
theorem mixed:Tryz.prog.follows .mixedOrders=true:=by kernel_rfl
theorem as_156:Q4u Tryz.prog 156=some (13,5):=by kernel_rfl
noncomputable def Zt:Code:=(Qd3 (Qd3 (Qd2 (Qd3 (Qd2 (Qd2 (Qd2 (bodyC Tryz.f27))))))))
noncomputable def Yz:Code:=(Qd2 (Qd3 (Qd2 (Qd3 (Qd2 (Qd2 (Qd2 (bodyC Tryz.f27))))))))
def Q5k (a0:Qde) (a1:Lvl):Option Unit :=
 some ()
theorem m189f2_ok (a0:Qde) (a1:Lvl) (r:Unit) (h0:Q5k a0 a1=some r):CallM Tryz.prog 189 [.agg (Qd1 a0),.one (.ptr 0 0)] ⟨[(0,.cells 82 (Qd1 a1))],[],1⟩ (Qw [.one (Qd0 (decide (a1.c≤a0.2)))]) ⟨[(0,.cells 82 (Qd1 a1))],[],2⟩:=by
 unfold Q5k at h0
 refine JG ⟨[(3,.v (.one (Qd0 (decide (a1.c≤a0.2)))))],[(0,.cells 82 (Qd1 a1))],[],2,9,[]⟩ Z Z en_189 (Qcr Z) Z (Qm Z .nil) (fun w0 M V0 Q hv0 hQ0=>?_)
 simp only [J4]
 refine Q3<|Q0<|Qz Z Z (Qcr Z) (Jh Z)<|Qcl Z Z Z<|Q2<|Q1<|Q3<|Q0<|Qcj Z Z Z (Q5 Gh Z)<|Qcj Z Z Z (Q7 QO Z Z Z)<|Qcj Z Z Z (Q5 KM Z)<|Qcj Z Z Z (Q7 QO Z Z Z)<|Qcj Z Z Z (Q4 Z Z Z)<|Qcl Z Z Z ?_
 refine Q2<|Q1<|Qu ?_
 have e:=Qch h0;subst e
 exact hQ0 _ _ _ (.inr Z) Z (Qcg (Nat.le_trans hv0 (Qcr Z)) Z Z Z Z Z)
def Za (a0:List Qde) (a1:Lvl) (s1:Int):Option (LO Int (Unit⊕Int)) :=
 cond (decide (s1 < (a0.length:Int)))
   (Option.bind (J3 a0 s1) fun (x3:Qde) =>
 Option.bind (Q5k x3 a1) fun (x4:Unit) =>
 cond (decide (a1.c≤x3.2))
   (some (.done (.inr s1)))
   (some (.next (QE (s1+1)))))
   (some (.done (.inl ())))
def Q2d (a0:List Qde) (a1:Lvl):Option Int :=
 Option.bind (Qj (Za a0 a1) Qk 0) (Sum.elim (fun (o1:Unit)=>some (-1)) (fun o=>some o))
theorem m211f1_ok (a0:List Qde) (a1:Lvl) (r:Int) (h0:Q2d a0 a1=some r):CallM Tryz.prog 211 [.one (Qcy a0),.one (.fn 189 [(0,0)])] ⟨[(0,.cells 82 (Qd1 a1))],[],1⟩ (Qw [.one (Qcz r)]) ⟨[(0,.cells 82 (Qd1 a1))],[],1⟩:=by
 unfold Q2d at h0
 refine JG ⟨[(4,.v (.one (Qcz r)))],[(0,.cells 82 (Qd1 a1))],[],1,19,[]⟩ Z Z en_211 (Qcr Z) Z (Qm Z .nil) (fun w0 M V0 Q hv0 hQ0=>?_)
 simp only [J4]
 refine Q3<|Q0<|Qcl Z Z Z<|Q2<|Q1<|Q3<|Q3<|Q0<|Qck Z Z Z<|Qcj Z Z Z (QS (α:=Qde) ZE Z (.d _))<|Qck Z Z Z<|Q2<|Q1<|Qx ?_
 refine JE 0 (fun (o1:Unit)=>⟨[],[(0,.cells 82 (Qd1 a1))],[],1,19,[]⟩) (fun (o1:Unit)=>(some (-1))=some r) ?_ ?_
 refine Qv h0 (fun o2 hl1 h0=>?_)
 refine JD (Za a0 a1) (fun s1=>⟨[(0,.v (.one (Qcy a0))),(1,.v (.one (.fn 189 [(0,0)]))),(7,.v (.one (Qcz (a0.length:Int)))),(8,.v (.one (Qcz s1)))],[(0,.cells 82 (Qd1 a1))],[],1,19,[]⟩) 0 o2 (Qcg (Nat.le_trans hv0 (Qcr Z)) Z Z Z Z Z) hl1 (fun s1 n1 oo1 h1 ho1=>?_)
 unfold Za at h1
 refine Q3<|Q0<|Qcj Z Z Z (Q4 Z Z Z)<|Q2<|Q1<|Q3 ?_
 refine Qi (b:=(decide (s1 < (a0.length:Int)))) Z (fun c3=>?_) (fun c3=>?_)
 replace h1:=Qg c3 h1
 refine Ql<|Q1<|Q3<|Qx<|Q3<|Q0<|Qck Z Z Z<|Qcl Z Z Z<|Q2<|Q1<|Q3<|Q0<|Qck Z Z Z<|Qck Z Z Z ?_
 refine Qck Z Z Z ?_
 refine Qv h1 (fun x4 hx4 h1=>?_)
 refine Qcj Z Z Z (J7 (α:=Qde) ZE Z (.d _) Z hx4)<|Qcj Z Z Z (Jc (x4:Qde) GU Z) ?_
 refine Qv h1 (fun x5 hx5 h1=>?_)
 refine Qz Z Z (Qcr Z) (Z8 (hp1':=[(0,.cells 82 (Qd1 a1))]) (tk1':=[]) (hpF:=[]) (tkF:=[]) (res2:=Qw [.one (Qd0 (decide (a1.c≤x4.2)))]) (nx2:=2) [0] Z Z (m189f2_ok x4 a1 x5 hx5) Z Z (Qcn Z Z Qcm) Z Z (Qcx Z Qcw) Qcu hZ Qcs Z Z Z Z Z (Qd5 Z) Z Z Z Z)<|Q2<|Q1 ?_
 refine Qi (b:=(decide (a1.c≤x4.2))) Z (fun c6=>?_) (fun c6=>?_)
 replace h1:=Qg c6 h1
 refine Q3<|Q0<|Qck Z Z Z<|Qcl Z Z Z<|Q2<|Q1<|Qu ?_
 have e:=Qch h1;subst e
 have e_:_=_:=ho1
 subst e_
 try dsimp only [Sum.elim_inl,Sum.elim_inr] at h0
 have e:=Qch h0;subst e
 exact hQ0 _ _ _ (.inr Z) Z (Qcg (Nat.le_trans hv0 (Qcr Z)) Z Z Z Z Z)
 replace h1:=Qh c6 h1
 refine Ql<|QB<|Q1<|Q0<|Qcj Z Z Z (Q4 Z Z Z)<|Qck Z Z Z<|Q2 ?_
 have e:=Qch h1;subst e
 refine Jd (QE (s1+1)) (Qcg (Nat.le_trans hv0 (Qcr Z)) Z Z Z Z Z) ho1
 replace h1:=Qh c3 h1
 refine JK<|QI<|QI ?_
 have e:=Qch h1;subst e
 have e_:_=_:=ho1
 subst e_
 exact JC () (Qcg (Nat.le_trans hv0 (Qcr Z)) Z Z Z Z Z) h0
 intro o1 h0
 refine J5<|Q1<|Q3<|Q0<|Qcl Z Z Z<|Q2<|Q1<|Qu ?_
 have e:=Qch h0;subst e
 exact hQ0 _ _ _ (.inr Z) Z (Qcg (Nat.le_trans hv0 (Qcr Z)) Z Z Z Z Z)
def DS (a0:List Qde) (a1:Lvl):Option Bool :=
 Option.bind (Q2d a0 a1) fun (x1:Int) =>
 some (decide (0≤x1))
theorem m188f0_ok (a0:List Qde) (a1:Lvl) (r:Bool) (h0:DS a0 a1=some r):CallM Tryz.prog 188 [.one (Qcy a0),.one (.fn 189 [(0,0)])] ⟨[(0,.cells 82 (Qd1 a1))],[],1⟩ (Qw [.one (Qd0 r)]) ⟨[(0,.cells 82 (Qd1 a1))],[],1⟩:=by
 unfold DS at h0
 refine JG ⟨[(4,.v (.one (Qd0 r)))],[(0,.cells 82 (Qd1 a1))],[],1,9,[]⟩ Z Z en_188 (Qcr Z) Z (Qm Z .nil) (fun w0 M V0 Q hv0 hQ0=>?_)
 simp only [J4]
 refine Q3<|Q0<|Qcl Z Z Z<|Q2<|Q1<|Q3<|Q0<|Qck Z Z Z<|Qck Z Z Z ?_
 refine Qv h0 (fun x1 hx1 h0=>?_)
 refine Qz Z Z (Qcr Z) (Z8 (hp1':=[(0,.cells 82 (Qd1 a1))]) (tk1':=[]) (hpF:=[]) (tkF:=[]) (res2:=Qw [.one (Qcz x1)]) (nx2:=1) [0] Z Z (m211f1_ok a0 a1 x1 hx1) Z Z (Qcn Z Z Qcm) Z Z (Qcx Z Qcw) Qcu hZ Qcs Z Z Z Z Z (Qd5 Z) Z Z Z Z)<|Qcj Z Z Z (Q4 Z Z Z)<|Qcl Z Z Z<|Q2<|Q1<|Qu ?_
 have e:=Qch h0;subst e
 exact hQ0 _ _ _ (.inr Z) Z (Qcg (Nat.le_trans hv0 (Qcr Z)) Z Z Z Z Z)
def KH (a0:Lvl) (s1:Int):Option (LO Int (Unit⊕Bool)) :=
 cond (decide (s1 < (a0.vs.length:Int)))
   (Option.bind (J3 a0.vs s1) fun (x5:Qde) =>
 Option.bind (cond (decide (x5.1 < (-65536)))
   (some true)
   (cond (decide (7 < x5.1))
   (some true)
   (cond (decide (x5.2 < 0))
   (some true)
   (cond (decide (100 < x5.2))
   (some true)
   (cond (decide (0 < s1))
   (Option.bind (J3 a0.vs (QE (s1 - 1))) fun (x12:Qde) =>
 some (decide (x5.1≤x12.1)))
   (some false)))))) (fun (v6:Bool)=>cond v6
   (some (.done (.inr false)))
   (some (.next (QE (s1+1))))))
   (some (.done (.inl ())))
def Q49 (a0:Lvl):Option Bool :=
 Option.bind (cond (decide (a0.c < 0))
   (some true)
   (cond (decide (100 < a0.c))
   (some true)
   (cond (decide (0 < a0.c))
   (Option.bind (Option.bind (DS a0.vs a0) fun (x7:Bool) =>
 some x7) (fun (y5:Bool)=>some y5))
   (some false)))) (fun (v1:Bool)=>cond v1
   (some false)
   (Option.bind (Qj (KH a0) Qk 0) (Sum.elim (fun (o3:Unit)=>some true) (fun o=>some o))))
theorem m136_ok (a0:Lvl) (r:Bool) (h0:Q49 a0=some r):Fun Tryz.prog 136 [.agg (Qd1 a0)] (Qw [.one (Qd0 r)]):=by
 unfold Q49 at h0
 refine QL 9 65 Tryz.func136 Z en_136 Z (Qcr Z) (fun S w=>?_)
 simp only [J4]
 refine Q3<|Q0<|Qz Z Z (Qcr Z) (Jh Z)<|Qcl Z Z Z<|Q2<|Q1<|Q3<|Q3 ?_
 refine QK (fun (v1:Bool)=>⟨[(1,.v (.one (.ptr 0 0))),(21,.v (.one (Qd0 v1)))],[(0,.cells 82 (Qd1 a0))],[],1,65,[]⟩) (fun (v1:Bool)=>(cond v1
     (some false)
     (Option.bind (Qj (KH a0) Qk 0) (Sum.elim (fun (o3:Unit)=>some true) (fun o=>some o))))=some r) ?_ ?_
 refine Qv h0 (fun w1_ h1 h0=>?_)
 refine Q0<|Qcj Z Z Z (Q5 KM Z)<|Qcj Z Z Z (Q7 QO Z Z Z)<|Qcj Z Z Z (Q4 Z Z Z)<|Qck Z Z Z ?_
 refine Qt (d:=8) (c:=(decide (a0.c < 0))) Z (fun c2=>?_) (fun c2=>?_)
 replace h1:=Qg c2 h1
 refine Q6 Z Z<|Q6 Z Z<|Q6 Z Z<|Qcj Z Z Z (Qb Z Z)<|Qck Z Z Z<|Q6 Z Z<|Q6 Z Z<|Q6 Z Z<|Q6 Z Z<|Q6 Z Z<|Q6 Z Z<|Q6 Z Z<|Qcj Z Z Z (Qb Z Z)<|Q2 ?_
 have e:=Qch h1;subst e
 exact Qa true (Qcg (Nat.zero_le _) Z Z Z Z Z) h0
 replace h1:=Qh c2 h1
 refine Qcj Z Z Z (Q5 KM Z)<|Qcj Z Z Z (Q7 QO Z Z Z)<|Qcj Z Z Z (Q4 Z Z Z)<|Qcj Z Z Z (Qd Z Z)<|Qck Z Z Z ?_
 refine Qt (d:=13) (c:=(decide (100 < a0.c))) Z (fun c3=>?_) (fun c3=>?_)
 replace h1:=Qg c3 h1
 refine Q6 Z Z<|Q6 Z Z<|Q6 Z Z<|Q6 Z Z<|Q6 Z Z<|Q6 Z Z<|Q6 Z Z<|Qcj Z Z Z (Qb Z Z)<|Q2 ?_
 have e:=Qch h1;subst e
 exact Qa true (Qcg (Nat.zero_le _) Z Z Z Z Z) h0
 replace h1:=Qh c3 h1
 refine Qcj Z Z Z (Q5 KM Z)<|Qcj Z Z Z (Q7 QO Z Z Z)<|Qcj Z Z Z (Q4 Z Z Z)<|Qck Z Z Z ?_
 refine Qt (d:=17) (c:=(decide (0 < a0.c))) Z (fun c4=>?_) (fun c4=>?_)
 replace h1:=Qg c4 h1
 refine Qcj Z Z Z (J6 (a0:Lvl) Wj Z Z) ?_
 refine Qv h1 (fun y5 h2 h1=>?_)
 have hc6:CallM Tryz.prog 158 [.agg (Qd1 a0)] ⟨[(0,.cells 82 (Qd1 a0))],[],1⟩ (Qw [.one (Qd0 y5)]) ⟨[(0,.cells 82 (Qd1 a0))],[],2⟩:=by
  refine JG ⟨[(2,.v (.one (Qd0 y5)))],[(0,.cells 82 (Qd1 a0))],[],2,7,[]⟩ Z Z en_158 (Qcr Z) Z (Qm Z .nil) (fun w0 M V0 Q hv2 hQ2=>?_)
  simp only [J4]
  refine Q3<|Q0<|Qz Z Z (Qcr Z) (Jh Z)<|Qcl Z Z Z<|Q2<|Q1<|Q3<|Q0<|Qcj Z Z Z (Q5 Yv Z)<|Qcj Z Z Z (Q7 KT Z Z Z)<|Qcj Z Z Z (RO.makeFunc1 Z) ?_
  refine Qv h2 (fun x7 hx7 h2=>?_)
  refine Qz Z Z (Qcr Z) (Z8 (hp1':=[(1,.cells 82 (Qd1 a0))]) (tk1':=[]) (hpF:=[(0,.cells 82 (Qd1 a0))]) (tkF:=[]) (res2:=Qw [.one (Qd0 x7)]) (nx2:=2) [1] Z Z (m188f0_ok a0.vs a0 x7 hx7) Z Z (Qcn Z Z Qcm) Z Z (Qcx Z Qcw) Qcu (hA Z) Qcs Z Z Z Z Z (Qd5 Z) Z Z Z Z)<|Qcl Z Z Z<|Q2<|Q1<|Qu ?_
  have e:=Qch h2;subst e
  exact hQ2 _ _ _ (.inr Z) Z (Qcg (Nat.le_trans hv2 (Qcr Z)) Z Z Z Z Z)
 refine Qz Z Z (Qcr Z) (WN Z Z Z hc6 Z (hA Z) Qcs)<|Qcj Z Z Z (Qb Z Z)<|Qcj Z Z Z (Qd Z Z)<|Q2 ?_
 have e:=Qch h1;subst e
 exact Qa y5 (Qcg (Nat.zero_le _) Z Z Z Z Z) h0
 replace h1:=Qh c4 h1
 refine Q6 Z Z<|Q6 Z Z<|Qcj Z Z Z (Qd Z Z)<|Qcj Z Z Z (Qd Z Z)<|Q2 ?_
 have e:=Qch h1;subst e
 exact Qa false (Qcg (Nat.zero_le _) Z Z Z Z Z) h0
 intro v1 h0
 refine Q1 ?_
 refine Qi (b:=v1) Z (fun c8=>?_) (fun c8=>?_)
 replace h0:=Qg c8 h0
 refine Q3<|Q0<|Qcl Z Z Z<|Q2<|Q1<|Qu ?_
 have e:=Qch h0;subst e
 exact Qn (fun _ _ h=>h) Z (Qm Z .nil) (.cons (.one (.d _)) .nil)
 replace h0:=Qh c8 h0
 refine Ql<|Q1<|Q3<|Q3<|Q0<|Qcj Z Z Z (Q5 Yv Z)<|Qcj Z Z Z (Q7 KT Z Z Z)<|Qcj Z Z Z (QS (α:=Qde) ZE Z (.d _))<|Qck Z Z Z<|Q2<|Q1<|Qx ?_
 refine JE 0 (fun (o9:Unit)=>⟨[],[(0,.cells 82 (Qd1 a0))],[],1,65,[]⟩) (fun (o9:Unit)=>(some true)=some r) ?_ ?_
 refine Qv h0 (fun o10 hl1 h0=>?_)
 refine JD (KH a0) (fun s1=>⟨[(1,.v (.one (.ptr 0 0))),(23,.v (.one (Qcy a0.vs))),(24,.v (.one (Qcz (a0.vs.length:Int)))),(25,.v (.one (Qcz s1)))],[(0,.cells 82 (Qd1 a0))],[],1,65,[]⟩) 0 o10 (Qcg (Nat.zero_le _) Z Z Z Z Z) hl1 (fun s1 n1 oo1 h1 ho1=>?_)
 unfold KH at h1
 refine Q3<|Q0<|Qcj Z Z Z (Q4 Z Z Z)<|Q2<|Q1<|Q3 ?_
 refine Qi (b:=(decide (s1 < (a0.vs.length:Int)))) Z (fun c11=>?_) (fun c11=>?_)
 replace h1:=Qg c11 h1
 refine Ql<|Q1<|Q3<|Qx<|Q3<|Q0<|Qck Z Z Z ?_
 refine Qv h1 (fun x12 hx12 h1=>?_)
 refine Qcj Z Z Z (J7 (α:=Qde) ZE Z (.d _) Z hx12)<|Qcj Z Z Z (Jc (x12:Qde) GU Z)<|Qz Z Z (Qcr Z) (QZ Q6h Z)<|Qcl Z Z Z<|Ye Z Z (Jx (x12:Qde) GU Z Z Z Z Z)<|Q2<|Q1<|Q3 ?_
 refine QK (fun (v13:Bool)=>⟨[(1,.v (.one (.ptr 0 0))),(23,.v (.one (Qcy a0.vs))),(24,.v (.one (Qcz (a0.vs.length:Int)))),(25,.v (.one (Qcz s1))),(63,.v (.one (Qd0 v13)))],[(0,.cells 82 (Qd1 a0)),(1,.cells 142 (Qd1 x12))],[],2,65,[]⟩) (fun (v13:Bool)=>(cond v13
     (some (.done (.inr false)))
     (some (.next (QE (s1+1)))))=some oo1) ?_ ?_
 refine Qv h1 (fun w2_ h2 h1=>?_)
 refine Zh [] [] mixed (by kernel_rfl) (by kernel_rfl) (by kernel_rfl) ?_
 refine RunA.rd Z Z Z (Q9 (Q5 JQ Z)) Z<|RunA.rd Z Z Z (Q9 (Q7 QO Z Z Z)) Z<|RunA.rd Z Z Z (Q9 (Q4 Z Z Z)) Z ?_
 refine Zi (c:=(decide (x12.1 < (-65536)))) Z Z Z (Q9 (J8 Z)) Z (fun c14=>?_) (fun c14=>?_)
 replace h2:=Qg c14 h2
 refine RunA.no Z Z Z Z<|RunA.no Z Z Z Z<|RunA.no Z Z Z Z<|RunA.rd Z Z Z (Q9 (Qb Z Z)) Z<|RunA.rd Z Z Z (Q9 (J8 Z)) Z<|RunA.no Z Z Z Z<|RunA.no Z Z Z Z<|RunA.no Z Z Z Z<|RunA.rd Z Z Z (Q9 (Qb Z Z)) Z<|RunA.rd Z Z Z (Q9 (J8 Z)) Z<|RunA.no Z Z Z Z<|RunA.no Z Z Z Z<|RunA.no Z Z Z Z<|RunA.rd Z Z Z (Q9 (Qb Z Z)) Z ?_
 refine RunA.rd Z Z Z (Q9 (J8 Z)) Z<|RunA.no Z Z Z Z<|RunA.no Z Z Z Z<|RunA.no Z Z Z Z<|RunA.no Z Z Z Z<|RunA.no Z Z Z Z<|RunA.no Z Z Z Z<|RunA.no Z Z Z Z<|RunA.no Z Z Z Z<|RunA.no Z Z Z Z<|RunA.no Z Z Z Z<|RunA.no Z Z Z Z<|RunA.no Z Z Z Z<|RunA.no Z Z Z Z ?_
 refine RunA.no Z Z Z Z<|RunA.rd Z Z Z (Q9 (Qb Z Z)) Z ?_
 refine RunA.nil ⟨?ex,_,_,Z,?_⟩
 case ex=>exact trivial
 have e:=Qch h2;subst e
 exact Qa true (Qcg (Nat.zero_le _) Z Z Z Z Z) h1
 replace h2:=Qh c14 h2
 refine RunA.rd Z Z Z (Q9 (Q5 JQ Z)) Z<|RunA.rd Z Z Z (Q9 (Q7 QO Z Z Z)) Z<|RunA.rd Z Z Z (Q9 (Q4 Z Z Z)) Z<|RunA.rd Z Z Z (Q9 (Qd Z Z)) Z ?_
 refine Zi (c:=(decide (7 < x12.1))) Z Z Z (Q9 (J8 Z)) Z (fun c15=>?_) (fun c15=>?_)
 replace h2:=Qg c15 h2
 refine RunA.no Z Z Z Z<|RunA.no Z Z Z Z<|RunA.no Z Z Z Z<|RunA.rd Z Z Z (Q9 (Qb Z Z)) Z<|RunA.rd Z Z Z (Q9 (J8 Z)) Z<|RunA.no Z Z Z Z<|RunA.no Z Z Z Z<|RunA.no Z Z Z Z<|RunA.rd Z Z Z (Q9 (Qb Z Z)) Z<|RunA.rd Z Z Z (Q9 (J8 Z)) Z<|RunA.no Z Z Z Z<|RunA.no Z Z Z Z<|RunA.no Z Z Z Z<|RunA.no Z Z Z Z ?_
 refine RunA.no Z Z Z Z<|RunA.no Z Z Z Z<|RunA.no Z Z Z Z<|RunA.no Z Z Z Z<|RunA.no Z Z Z Z<|RunA.no Z Z Z Z<|RunA.no Z Z Z Z<|RunA.no Z Z Z Z<|RunA.no Z Z Z Z<|RunA.no Z Z Z Z<|RunA.rd Z Z Z (Q9 (Qb Z Z)) Z ?_
 refine RunA.nil ⟨?ex,_,_,Z,?_⟩
 case ex=>exact trivial
 have e:=Qch h2;subst e
 exact Qa true (Qcg (Nat.zero_le _) Z Z Z Z Z) h1
 replace h2:=Qh c15 h2
 refine RunA.rd Z Z Z (Q9 (Q5 Gh Z)) Z<|RunA.rd Z Z Z (Q9 (Q7 QO Z Z Z)) Z<|RunA.rd Z Z Z (Q9 (Q4 Z Z Z)) Z<|RunA.rd Z Z Z (Q9 (Qd Z Z)) Z ?_
 refine Zi (c:=(decide (x12.2 < 0))) Z Z Z (Q9 (J8 Z)) Z (fun c16=>?_) (fun c16=>?_)
 replace h2:=Qg c16 h2
 refine RunA.no Z Z Z Z<|RunA.no Z Z Z Z<|RunA.no Z Z Z Z<|RunA.rd Z Z Z (Q9 (Qb Z Z)) Z<|RunA.rd Z Z Z (Q9 (J8 Z)) Z<|RunA.no Z Z Z Z<|RunA.no Z Z Z Z<|RunA.no Z Z Z Z<|RunA.no Z Z Z Z<|RunA.no Z Z Z Z<|RunA.no Z Z Z Z<|RunA.no Z Z Z Z<|RunA.no Z Z Z Z<|RunA.no Z Z Z Z ?_
 refine RunA.no Z Z Z Z<|RunA.no Z Z Z Z<|RunA.no Z Z Z Z<|RunA.no Z Z Z Z<|RunA.no Z Z Z Z<|RunA.rd Z Z Z (Q9 (Qb Z Z)) Z ?_
 refine RunA.nil ⟨?ex,_,_,Z,?_⟩
 case ex=>exact trivial
 have e:=Qch h2;subst e
 exact Qa true (Qcg (Nat.zero_le _) Z Z Z Z Z) h1
 replace h2:=Qh c16 h2
 refine RunA.rd Z Z Z (Q9 (Q5 Gh Z)) Z<|RunA.rd Z Z Z (Q9 (Q7 QO Z Z Z)) Z<|RunA.rd Z Z Z (Q9 (Q4 Z Z Z)) Z<|RunA.rd Z Z Z (Q9 (Qd Z Z)) Z ?_
 refine Zi (c:=(decide (100 < x12.2))) Z Z Z (Q9 (J8 Z)) Z (fun c17=>?_) (fun c17=>?_)
 replace h2:=Qg c17 h2
 refine RunA.no Z Z Z Z<|RunA.no Z Z Z Z<|RunA.no Z Z Z Z<|RunA.no Z Z Z Z<|RunA.no Z Z Z Z<|RunA.no Z Z Z Z<|RunA.no Z Z Z Z<|RunA.no Z Z Z Z<|RunA.no Z Z Z Z<|RunA.no Z Z Z Z<|RunA.no Z Z Z Z<|RunA.no Z Z Z Z<|RunA.no Z Z Z Z<|RunA.no Z Z Z Z ?_
 refine RunA.rd Z Z Z (Q9 (Qb Z Z)) Z ?_
 refine RunA.nil ⟨?ex,_,_,Z,?_⟩
 case ex=>exact trivial
 have e:=Qch h2;subst e
 exact Qa true (Qcg (Nat.zero_le _) Z Z Z Z Z) h1
 replace h2:=Qh c17 h2
 refine RunA.rd Z Z Z (Q9 (J8 Z)) Z<|RunA.rd Z Z Z (Q9 (Q4 Z Z Z)) Z ?_
 refine Zi (c:=(decide (0 < s1))) Z Z Z (Q9 (J8 Z)) Z (fun c18=>?_) (fun c18=>?_)
 replace h2:=Qg c18 h2
 refine RunA.rd Z Z Z (Q9 (Q5 Yv Z)) Z<|RunA.rd Z Z Z (Q9 (Q7 KT Z Z Z)) Z<|RunA.rd Z Z Z (Q9 (J8 Z)) Z<|RunA.rd Z Z Z (Q9 (Q4 Z Z Z)) Z ?_
 refine Qv h2 (fun x19 hx19 h2=>?_)
 refine RunA.rd Z Z Z (Q9 (J7 (α:=Qde) ZE Z (.d _) Z hx19)) Z<|RunA.rd Z Z Z (Q9 (YC JQ Z)) Z<|RunA.rd Z Z Z (Q9 (Z7 QO Z Z)) Z<|RunA.rd Z Z Z (Q9 (Q5 JQ Z)) Z<|RunA.rd Z Z Z (Q9 (Q7 QO Z Z Z)) Z<|RunA.rd Z Z Z (Q9 (Q4 Z Z Z)) Z<|RunA.rd Z Z Z (Q9 (Qb Z Z)) Z<|RunA.rd Z Z Z (Q9 (Qd Z Z)) Z ?_
 refine RunA.nil ⟨?ex,_,_,Z,?_⟩
 case ex=>exact trivial
 have e:=Qch h2;subst e
 exact Qa (decide (x12.1≤x19.1)) (Qcg (Nat.zero_le _) Z Z Z Z Z) h1
 replace h2:=Qh c18 h2
 refine RunA.no Z Z Z Z<|RunA.no Z Z Z Z<|RunA.no Z Z Z Z<|RunA.no Z Z Z Z<|RunA.no Z Z Z Z<|RunA.no Z Z Z Z<|RunA.no Z Z Z Z<|RunA.no Z Z Z Z<|RunA.no Z Z Z Z<|RunA.no Z Z Z Z<|RunA.rd Z Z Z (Q9 (Qd Z Z)) Z<|RunA.rd Z Z Z (Q9 (Qd Z Z)) Z ?_
 refine RunA.nil ⟨?ex,_,_,Z,?_⟩
 case ex=>exact trivial
 have e:=Qch h2;subst e
 exact Qa false (Qcg (Nat.zero_le _) Z Z Z Z Z) h1
 intro v13 h1
 refine Q1 ?_
 refine Qi (b:=v13) Z (fun c20=>?_) (fun c20=>?_)
 replace h1:=Qg c20 h1
 refine Q3<|Q0<|Qcl Z Z Z<|Q2<|Q1<|Qu ?_
 have e:=Qch h1;subst e
 have e_:_=_:=ho1
 subst e_
 try dsimp only [Sum.elim_inl,Sum.elim_inr] at h0
 have e:=Qch h0;subst e
 exact Qn (fun _ _ h=>h) Z (Qm Z .nil) (.cons (.one (.d _)) .nil)
 replace h1:=Qh c20 h1
 refine Ql<|QB<|Q1<|Q0<|Qcj Z Z Z (Q4 Z Z Z)<|Qck Z Z Z<|Q2 ?_
 have e:=Qch h1;subst e
 refine Jd (QE (s1+1)) (Qcg (Nat.zero_le _) Z Z Z Z Z) ho1
 replace h1:=Qh c11 h1
 refine JK<|QI<|QI ?_
 have e:=Qch h1;subst e
 have e_:_=_:=ho1
 subst e_
 exact JC () (Qcg (Nat.zero_le _) Z Z Z Z Z) h0
 intro o9 h0
 refine J5<|Q1<|Q3<|Q0<|Qcl Z Z Z<|Q2<|Q1<|Qu ?_
 have e:=Qch h0;subst e
 exact Qn (fun _ _ h=>h) Z (Qm Z .nil) (.cons (.one (.d _)) .nil)
def Q8e (a0:Byt):Option Bool :=
 Option.bind (cond (decide (97≤a0.n))
   (cond (decide (a0.n≤122))
   (some true)
   (cond (decide (65≤a0.n))
   (cond (decide (a0.n≤90))
   (some true)
   (some (a0.n==95)))
   (some (a0.n==95))))
   (cond (decide (65≤a0.n))
   (cond (decide (a0.n≤90))
   (some true)
   (some (a0.n==95)))
   (some (a0.n==95)))) (fun (v1:Bool)=>some v1)
theorem m135_ok (a0:Byt) (r:Bool) (h0:Q8e a0=some r):Fun Tryz.prog 135 [.one (.d (.v (.int .u8 a0.n)))] (Qw [.one (Qd0 r)]):=by
 unfold Q8e at h0
 refine QL 9 21 Tryz.func135 Z en_135 Z (Qcr Z) (fun S w=>?_)
 simp only [J4]
 refine Q3<|Q0<|Qcl Z Z Z<|Q2<|Q1<|Q3 ?_
 refine QK (fun (v1:Bool)=>⟨[(2,.v (.one (Qd0 v1)))],[],[],0,21,[]⟩) (fun (v1:Bool)=>(some v1)=some r) ?_ ?_
 refine Qv h0 (fun w1_ h1 h0=>?_)
 refine Q0<|Qck Z Z Z<|Qcj Z Z Z (Q4 Z Z Z)<|Qck Z Z Z ?_
 refine Qt (d:=5) (c:=(decide (97≤a0.n))) Z (fun c2=>?_) (fun c2=>?_)
 replace h1:=Qg c2 h1
 refine Qck Z Z Z<|Qcj Z Z Z (Q4 Z Z Z)<|Qcj Z Z Z (Qb Z Z)<|Qck Z Z Z ?_
 refine Qt (d:=9) (c:=(decide (a0.n≤122))) Z (fun c3=>?_) (fun c3=>?_)
 replace h1:=Qg c3 h1
 refine Q6 Z Z<|Q6 Z Z<|Q6 Z Z<|Q6 Z Z<|Q6 Z Z<|Q6 Z Z<|Qcj Z Z Z (Qb Z Z)<|Qck Z Z Z<|Q6 Z Z<|Q6 Z Z<|Qcj Z Z Z (Qb Z Z)<|Qcl Z Z Z<|Q2 ?_
 have e:=Qch h1;subst e
 exact Qa true (Qcg (Nat.zero_le _) Z Z Z Z Z) h0
 replace h1:=Qh c3 h1
 refine Qck Z Z Z<|Qcj Z Z Z (Q4 Z Z Z)<|Qck Z Z Z ?_
 refine Qt (d:=12) (c:=(decide (65≤a0.n))) Z (fun c4=>?_) (fun c4=>?_)
 replace h1:=Qg c4 h1
 refine Qck Z Z Z<|Qcj Z Z Z (Q4 Z Z Z)<|Qcj Z Z Z (Qb Z Z)<|Qcj Z Z Z (Qd Z Z)<|Qck Z Z Z ?_
 refine Qt (d:=17) (c:=(decide (a0.n≤90))) Z (fun c5=>?_) (fun c5=>?_)
 replace h1:=Qg c5 h1
 refine Q6 Z Z<|Q6 Z Z<|Qcj Z Z Z (Qb Z Z)<|Qcl Z Z Z<|Q2 ?_
 have e:=Qch h1;subst e
 exact Qa true (Qcg (Nat.zero_le _) Z Z Z Z Z) h0
 replace h1:=Qh c5 h1
 refine Qck Z Z Z<|Qcj Z Z Z (Q4 Z Z Z)<|Qcj Z Z Z (Qd Z Z)<|Qcl Z Z Z<|Q2 ?_
 have e:=Qch h1;subst e
 exact Qa (a0.n==95) (Qcg (Nat.zero_le _) Z Z Z Z Z) h0
 replace h1:=Qh c4 h1
 refine Q6 Z Z<|Q6 Z Z<|Qcj Z Z Z (Qd Z Z)<|Qcj Z Z Z (Qd Z Z)<|Qck Z Z Z<|Qck Z Z Z<|Qcj Z Z Z (Q4 Z Z Z)<|Qcj Z Z Z (Qd Z Z)<|Qcl Z Z Z<|Q2 ?_
 have e:=Qch h1;subst e
 exact Qa (a0.n==95) (Qcg (Nat.zero_le _) Z Z Z Z Z) h0
 replace h1:=Qh c2 h1
 refine Q6 Z Z<|Q6 Z Z<|Qcj Z Z Z (Qd Z Z)<|Qck Z Z Z<|Qck Z Z Z<|Qcj Z Z Z (Q4 Z Z Z)<|Qck Z Z Z ?_
 refine Qt (d:=12) (c:=(decide (65≤a0.n))) Z (fun c6=>?_) (fun c6=>?_)
 replace h1:=Qg c6 h1
 refine Qck Z Z Z<|Qcj Z Z Z (Q4 Z Z Z)<|Qcj Z Z Z (Qb Z Z)<|Qcj Z Z Z (Qd Z Z)<|Qck Z Z Z ?_
 refine Qt (d:=17) (c:=(decide (a0.n≤90))) Z (fun c7=>?_) (fun c7=>?_)
 replace h1:=Qg c7 h1
 refine Q6 Z Z<|Q6 Z Z<|Qcj Z Z Z (Qb Z Z)<|Qcl Z Z Z<|Q2 ?_
 have e:=Qch h1;subst e
 exact Qa true (Qcg (Nat.zero_le _) Z Z Z Z Z) h0
 replace h1:=Qh c7 h1
 refine Qck Z Z Z<|Qcj Z Z Z (Q4 Z Z Z)<|Qcj Z Z Z (Qd Z Z)<|Qcl Z Z Z<|Q2 ?_
 have e:=Qch h1;subst e
 exact Qa (a0.n==95) (Qcg (Nat.zero_le _) Z Z Z Z Z) h0
 replace h1:=Qh c6 h1
 refine Q6 Z Z<|Q6 Z Z<|Qcj Z Z Z (Qd Z Z)<|Qcj Z Z Z (Qd Z Z)<|Qck Z Z Z<|Qck Z Z Z<|Qcj Z Z Z (Q4 Z Z Z)<|Qcj Z Z Z (Qd Z Z)<|Qcl Z Z Z<|Q2 ?_
 have e:=Qch h1;subst e
 exact Qa (a0.n==95) (Qcg (Nat.zero_le _) Z Z Z Z Z) h0
 intro v1 h0
 refine Q1<|Qu ?_
 have e:=Qch h0;subst e
 exact Qn (fun _ _ h=>h) Z (Qm Z .nil) (.cons (.one (.d _)) .nil)
def GI (a0:Qdk) (s1:Bool×Int):Option (LO (Bool×Int) (Bool⊕Bool)) :=
 cond (decide (s1.2 < (a0.length:Int)))
   (Option.bind (J3 a0 s1.2) fun (x3:UInt8) =>
 Option.bind (Q8e (⟨(x3.toNat:Int)⟩:Byt)) fun (x4:Bool) =>
 cond x4
   (some (.next (false,(QE (s1.2+1)))))
   (cond s1.1
   (some (.done (.inr false)))
   (cond ((x3.toNat:Int)==46)
   (some (.next (true,(QE (s1.2+1)))))
   (Option.bind (cond (decide ((x3.toNat:Int) < 48))
   (some true)
   (some (decide (57 < (x3.toNat:Int))))) (fun (v8:Bool)=>cond v8
   (cond ((x3.toNat:Int) != 39)
   (some (.done (.inr false)))
   (some (.next (s1.1,(QE (s1.2+1))))))
   (some (.next (s1.1,(QE (s1.2+1))))))))))
   (some (.done (.inl s1.1)))
def Q2i (a0:Qdk):Option Bool :=
 Option.bind (Qj (GI a0) Qk (true,0)) (Sum.elim (fun (o1:Bool)=>Option.bind (cond (!o1)
   (some (decide ((a0.length:Int)≤64)))
   (some false)) (fun (v2:Bool)=>some v2)) (fun o=>some o))
theorem m110_ok (a0:Qdk) (r:Bool) (h0:Q2i a0=some r):Fun Tryz.prog 110 [.one (Q9i a0)] (Qw [.one (Qd0 r)]):=by
 unfold Q2i at h0
 refine QL 9 39 Tryz.func110 Z en_110 Z (Qcr Z) (fun S w=>?_)
 simp only [J4]
 refine Q3<|Q0<|Qcl Z Z Z<|Q2<|Q1<|Q3<|Q0<|Qcl Z Z Z<|Q2<|Q1<|Q3<|Q3<|Q0<|Qck Z Z Z ?_
 refine Qcj Z Z Z (Ue Q73 Z)<|Qck Z Z Z<|Q2<|Q1<|Qx ?_
 refine JE 0 (fun (o1:Bool)=>⟨[(0,.v (.one (Q9i a0))),(3,.v (.one (Qd0 o1)))],[],[],0,39,[]⟩) (fun (o1:Bool)=>(Option.bind (cond (!o1)
     (some (decide ((a0.length:Int)≤64)))
     (some false)) (fun (v2:Bool)=>some v2))=some r) ?_ ?_
 refine Qv h0 (fun o2 hl1 h0=>?_)
 refine JD (GI a0) (fun s1=>⟨[(0,.v (.one (Q9i a0))),(3,.v (.one (Qd0 s1.1))),(7,.v (.one (Qcz (a0.length:Int)))),(8,.v (.one (Qcz s1.2)))],[],[],0,39,[]⟩) (true,0) o2 (Qcg (Nat.zero_le _) Z Z Z Z Z) hl1 (fun s1 n1 oo1 h1 ho1=>?_)
 unfold GI at h1
 refine Q3<|Q0<|Qcj Z Z Z (Q4 Z Z Z)<|Q2<|Q1<|Q3 ?_
 refine Qi (b:=(decide (s1.2 < (a0.length:Int)))) Z (fun c3=>?_) (fun c3=>?_)
 replace h1:=Qg c3 h1
 refine Ql<|Q1<|Q3<|Qx<|Q3<|Q0<|Qck Z Z Z<|Qcl Z Z Z<|Q2<|Q1<|Q3<|Q0<|Qck Z Z Z<|Qck Z Z Z ?_
 refine Qv h1 (fun x4 hx4 h1=>?_)
 refine Qcj Z Z Z (Q6f Q73 Z Z hx4)<|Qcl Z Z Z<|Q2<|Q1<|Qx<|Q3<|Q0<|Qck Z Z Z ?_
 refine Qv h1 (fun x5 hx5 h1=>?_)
 refine Qz Z Z (Qcr Z) (QC (m135_ok (⟨(x4.toNat:Int)⟩:Byt) x5 hx5) Z (.cons (.one (.d _)) .nil))<|Qcl Z Z Z<|Q2<|Q1 ?_
 refine Qi (b:=x5) Z (fun c6=>?_) (fun c6=>?_)
 replace h1:=Qg c6 h1
 refine Q0<|Qcl Z Z Z<|Q2<|QB<|QB<|Q1<|Q0<|Qcj Z Z Z (Q4 Z Z Z)<|Qck Z Z Z<|Q2 ?_
 have e:=Qch h1;subst e
 refine Jd (false,(QE (s1.2+1))) (Qcg (Nat.zero_le _) Z Z Z Z Z) ho1
 replace h1:=Qh c6 h1
 refine Q3<|Q0<|Qck Z Z Z<|Qcl Z Z Z<|Q2<|Q1 ?_
 refine Qi (b:=s1.1) Z (fun c7=>?_) (fun c7=>?_)
 replace h1:=Qg c7 h1
 refine Q3<|Q0<|Qcl Z Z Z<|Q2<|Q1<|Qu ?_
 have e:=Qch h1;subst e
 have e_:_=_:=ho1
 subst e_
 try dsimp only [Sum.elim_inl,Sum.elim_inr] at h0
 have e:=Qch h0;subst e
 exact Qn (fun _ _ h=>h) Z (Qm Z .nil) (.cons (.one (.d _)) .nil)
 replace h1:=Qh c7 h1
 refine Q3<|Q0<|Qck Z Z Z<|Qcj Z Z Z (Q4 Z Z Z)<|Qcl Z Z Z<|Q2<|Q1 ?_
 refine Qi (b:=((x4.toNat:Int)==46)) Z (fun c8=>?_) (fun c8=>?_)
 replace h1:=Qg c8 h1
 refine Q0<|Qcl Z Z Z<|Q2<|QB<|QB<|Q1<|Q0<|Qcj Z Z Z (Q4 Z Z Z)<|Qck Z Z Z<|Q2 ?_
 have e:=Qch h1;subst e
 refine Jd (true,(QE (s1.2+1))) (Qcg (Nat.zero_le _) Z Z Z Z Z) ho1
 replace h1:=Qh c8 h1
 refine Q3 ?_
 refine QK (fun (v9:Bool)=>⟨[(0,.v (.one (Q9i a0))),(3,.v (.one (Qd0 s1.1))),(5,.v (.one (.d (.v (.int .u8 (x4.toNat:Int)))))),(7,.v (.one (Qcz (a0.length:Int)))),(8,.v (.one (Qcz s1.2))),(22,.v (.one (Qd0 v9)))],[],[],0,39,[]⟩) (fun (v9:Bool)=>(cond v9
     (cond ((x4.toNat:Int) != 39)
     (some (.done (.inr false)))
     (some (.next (s1.1,(QE (s1.2+1))))))
     (some (.next (s1.1,(QE (s1.2+1))))))=some oo1) ?_ ?_
 refine Qv h1 (fun w2_ h2 h1=>?_)
 refine Q0<|Qck Z Z Z<|Qcj Z Z Z (Q4 Z Z Z)<|Qck Z Z Z ?_
 refine Qt (d:=25) (c:=(decide ((x4.toNat:Int) < 48))) Z (fun c10=>?_) (fun c10=>?_)
 replace h2:=Qg c10 h2
 refine Q6 Z Z<|Q6 Z Z<|Qcj Z Z Z (Qb Z Z)<|Qcl Z Z Z<|Q2 ?_
 have e:=Qch h2;subst e
 exact Qa true (Qcg (Nat.zero_le _) Z Z Z Z Z) h1
 replace h2:=Qh c10 h2
 refine Qck Z Z Z<|Qcj Z Z Z (Q4 Z Z Z)<|Qcj Z Z Z (Qd Z Z)<|Qcl Z Z Z<|Q2 ?_
 have e:=Qch h2;subst e
 exact Qa (decide (57 < (x4.toNat:Int))) (Qcg (Nat.zero_le _) Z Z Z Z Z) h1
 intro v9 h1
 refine Q1 ?_
 refine Qi (b:=v9) Z (fun c11=>?_) (fun c11=>?_)
 replace h1:=Qg c11 h1
 refine Q3<|Q0<|Qck Z Z Z<|Qcj Z Z Z (Q4 Z Z Z)<|Q2<|Q1 ?_
 refine Qi (b:=((x4.toNat:Int) != 39)) Z (fun c12=>?_) (fun c12=>?_)
 replace h1:=Qg c12 h1
 refine Q3<|Q0<|Qcl Z Z Z<|Q2<|Q1<|Qu ?_
 have e:=Qch h1;subst e
 have e_:_=_:=ho1
 subst e_
 try dsimp only [Sum.elim_inl,Sum.elim_inr] at h0
 have e:=Qch h0;subst e
 exact Qn (fun _ _ h=>h) Z (Qm Z .nil) (.cons (.one (.d _)) .nil)
 replace h1:=Qh c12 h1
 refine Ql<|QB<|QB<|Q1<|Q0<|Qcj Z Z Z (Q4 Z Z Z)<|Qck Z Z Z<|Q2 ?_
 have e:=Qch h1;subst e
 refine Jd (s1.1,(QE (s1.2+1))) (Qcg (Nat.zero_le _) Z Z Z Z Z) ho1
 replace h1:=Qh c11 h1
 refine Ql<|QB<|QB<|Q1<|Q0<|Qcj Z Z Z (Q4 Z Z Z)<|Qck Z Z Z<|Q2 ?_
 have e:=Qch h1;subst e
 refine Jd (s1.1,(QE (s1.2+1))) (Qcg (Nat.zero_le _) Z Z Z Z Z) ho1
 replace h1:=Qh c3 h1
 refine JK<|QI<|QI ?_
 have e:=Qch h1;subst e
 have e_:_=_:=ho1
 subst e_
 exact JC s1.1 (Qcg (Nat.zero_le _) Z Z Z Z Z) h0
 intro o1 h0
 refine J5<|Q1<|Q3 ?_
 refine QK (fun (v13:Bool)=>⟨[(2,.v (.one (Qd0 v13)))],[],[],0,39,[]⟩) (fun (v13:Bool)=>(some v13)=some r) ?_ ?_
 refine Qv h0 (fun w1_ h1 h0=>?_)
 refine Q0<|Qck Z Z Z<|Qcj Z Z Z (Z6 Z)<|Qck Z Z Z ?_
 refine Qt (d:=34) (c:=(!o1)) Z (fun c14=>?_) (fun c14=>?_)
 replace h1:=Qg c14 h1
 refine Qck Z Z Z<|Qcj Z Z Z (Ue Q73 Z)<|Qcj Z Z Z (Q4 Z Z Z)<|Qcj Z Z Z (Qb Z Z)<|Qcl Z Z Z<|Q2 ?_
 have e:=Qch h1;subst e
 exact Qa (decide ((a0.length:Int)≤64)) (Qcg (Nat.zero_le _) Z Z Z Z Z) h0
 replace h1:=Qh c14 h1
 refine Q6 Z Z<|Q6 Z Z<|Q6 Z Z<|Qcj Z Z Z (Qd Z Z)<|Qcl Z Z Z<|Q2 ?_
 have e:=Qch h1;subst e
 exact Qa false (Qcg (Nat.zero_le _) Z Z Z Z Z) h0
 intro v13 h0
 refine Q1<|Qu ?_
 have e:=Qch h0;subst e
 exact Qn (fun _ _ h=>h) Z (Qm Z .nil) (.cons (.one (.d _)) .nil)
def Q5e (a0:Tm) (rc:Tm→Option Int) (s1:Int×Int):Option (LO (Int×Int) Int) :=
 cond (decide (s1.2 < (a0.kids.length:Int)))
   (Option.bind (J3 a0.kids s1.2) fun (x3:Tm) =>
 Option.bind (rc x3) fun (x4:Int) =>
 some (.next ((max s1.1 x4),(QE (s1.2+1)))))
   (some (.done s1.1))
def Q9x (rc:Tm→Option Int) (a0:Tm):Option Int :=
 Option.bind (Qj (Q5e a0 rc) Qk (0,0)) (fun (o1:Int)=>some (QE (o1+1)))
def m60F (rc:Tm→Option Int) (u:Tm):Option Int:=Q9x rc u
def Qc5 (a0:Tm):Option Int:=QX m60F Qk a0
theorem m60s_ok (rc:Tm→Option Int) (H:∀ (a0:Tm) (r:Int),rc a0=some r→Fun Tryz.prog 60 [.agg (Qd1 a0)] (Qw [.one (Qcz r)])) (a0:Tm) (r:Int) (h0:Q9x rc a0=some r):Fun Tryz.prog 60 [.agg (Qd1 a0)] (Qw [.one (Qcz r)]):=by
 unfold Q9x at h0
 refine QL 9 20 Tryz.func60 Z en_60 Z (Qcr Z) (fun S w=>?_)
 simp only [J4]
 refine Q3<|Q0<|Qz Z Z (Qcr Z) (Jh Z)<|Qcl Z Z Z<|Q2<|Q1<|Q3<|Q0<|Qcl Z Z Z<|Q2<|Q1<|Q3<|Q3<|Q0 ?_
 refine Qcj Z Z Z (Q5 Y2 Z)<|Qcj Z Z Z (Q7 ZW Z Z Z)<|Qcj Z Z Z (QS (α:=Tm) Zl Z (.d _))<|Qck Z Z Z<|Q2<|Q1<|Qx ?_
 refine JE 0 (fun (o1:Int)=>⟨[(3,.v (.one (Qcz o1)))],[(0,.cells 25 (Qd1 a0))],[],1,20,[]⟩) (fun (o1:Int)=>(some (QE (o1+1)))=some r) ?_ ?_
 refine Qv h0 (fun o2 hl1 h0=>?_)
 refine JD (Q5e a0 rc) (fun s1=>⟨[(3,.v (.one (Qcz s1.1))),(7,.v (.one (Qcy a0.kids))),(8,.v (.one (Qcz (a0.kids.length:Int)))),(9,.v (.one (Qcz s1.2)))],[(0,.cells 25 (Qd1 a0))],[],1,20,[]⟩) (0,0) o2 (Qcg (Nat.zero_le _) Z Z Z Z Z) hl1 (fun s1 n1 oo1 h1 ho1=>?_)
 unfold Q5e at h1
 refine Q3<|Q0<|Qcj Z Z Z (Q4 Z Z Z)<|Q2<|Q1<|Q3 ?_
 refine Qi (b:=(decide (s1.2 < (a0.kids.length:Int)))) Z (fun c3=>?_) (fun c3=>?_)
 replace h1:=Qg c3 h1
 refine Ql<|Q1<|Q3<|Qx<|Q3<|Q0 ?_
 refine Qv h1 (fun x4 hx4 h1=>?_)
 refine Qcj Z Z Z (J7 (α:=Tm) Zl Z (.d _) Z hx4)<|Qcj Z Z Z (Jc (x4:Tm) Zg Z)<|Qz Z Z (Qcr Z) (QZ Q9q Z)<|Ye Z Z (Jx (x4:Tm) Zg Z Z Z Z Z)<|Q2<|Q1<|Q0<|Qck Z Z Z<|Qcj Z Z Z (J6 (x4:Tm) Zg Z Z) ?_
 refine Qv h1 (fun x5 hx5 h1=>?_)
 refine Qz Z Z (Qcr Z) (QC (H x4 x5 hx5) Z (.cons (.agg (.cons (.d _) (.cons (.d _) (.cons (.d _) (.cons (.d _) (.cons (.d _) .nil)))))) .nil))<|Qcj Z Z Z (KW Z Z)<|Qcl Z Z Z<|Q2<|QB<|Q1<|Q0<|Qcj Z Z Z (Q4 Z Z Z)<|Qck Z Z Z<|Q2 ?_
 have e:=Qch h1;subst e
 refine Jd ((max s1.1 x5),(QE (s1.2+1))) (Qcg (Nat.zero_le _) Z Z Z Z Z) ho1
 replace h1:=Qh c3 h1
 refine JK<|QI<|QI ?_
 have e:=Qch h1;subst e
 have e_:_=_:=ho1
 subst e_
 exact JC s1.1 (Qcg (Nat.zero_le _) Z Z Z Z Z) h0
 intro o1 h0
 refine J5<|Q1<|Q3<|Q0<|Qck Z Z Z<|Qcj Z Z Z (Q4 Z Z Z)<|Qcl Z Z Z<|Q2<|Q1<|Qu ?_
 have e:=Qch h0;subst e
 exact Qn (fun _ _ h=>h) Z (Qm Z .nil) (.cons (.one (.d _)) .nil)
theorem m60_all (n:Nat) (u:Tm) (r:Int) (h0:QX m60F n u=some r):Fun Tryz.prog 60 [.agg (Qd1 u)] (Qw [.one (Qcz r)]) :=
 Jy (C:=fun u r=>Fun Tryz.prog 60 [.agg (Qd1 u)] (Qw [.one (Qcz r)])) (fun rc H u r h=>m60s_ok rc (fun a0 r h=>H a0 r h) u r h) n u r h0
theorem m60_ok (a0:Tm) (r:Int) (h0:Qc5 a0=some r):Fun Tryz.prog 60 [.agg (Qd1 a0)] (Qw [.one (Qcz r)]):=m60_all Qk a0 r h0
def Qa5 :Option ((List Use)) :=
 some ([(⟨true,false,0,0,(-1)⟩:Use),(⟨false,false,0,0,(-1)⟩:Use),(⟨false,false,1,0,(-1)⟩:Use),(⟨false,true,(-1),0,(-1)⟩:Use),(⟨false,false,0,2,(-1)⟩:Use),(⟨false,false,0,2,1⟩:Use),(⟨false,false,0,2,1⟩:Use),(⟨false,false,0,2,1⟩:Use),(⟨false,false,0,3,(-1)⟩:Use),(⟨false,false,0,1,(-1)⟩:Use),(⟨false,false,0,1,(-1)⟩:Use),(⟨false,false,0,3,2⟩:Use),(⟨true,false,0,0,(-1)⟩:Use)]:List Use)
theorem m107_ok  (r:(List Use)) (h0:Qa5 =some r):Fun Tryz.prog 107 [] (Qw [.agg (Q07 (r:List Use))]):=by
 unfold Qa5 at h0
 refine QL 9 15 Tryz.func107 Z en_107 Z (Qcr Z) (fun S w=>?_)
 simp only [J4]
 refine Q3<|Q0<|Qz Z Z (Qcr Z) (QZ Q7n Z)<|Q2<|Q1<|Q3<|Q0<|Qcj Z Z Z (QT JB Z Z Z Z)<|Qcj Z Z Z (RO.build1 JB Z Z Z)<|Qcj Z Z Z (QT JB Z Z Z Z)<|Qcj Z Z Z (RO.build3 JB Z Z Z Z Z)<|Qcj Z Z Z (QT JB Z Z Z Z)<|Qcj Z Z Z (QT JB Z Z Z Z)<|Qcj Z Z Z (QT JB Z Z Z Z) ?_
 refine Qcj Z Z Z (QT JB Z Z Z Z)<|Qcj Z Z Z (QT JB Z Z Z Z)<|Qcj Z Z Z (QT JB Z Z Z Z)<|Qcj Z Z Z (QT JB Z Z Z Z)<|Qcj Z Z Z (QT JB Z Z Z Z)<|Qcj Z Z Z (QT JB Z Z Z Z)<|Qcj Z Z Z (UO bd_156 Z (.cons Z (.cons Z (.cons Z (.cons Z (.cons Z (.cons Z (.cons Z (.cons Z (.cons Z (.cons Z (.cons Z (.cons Z (.cons Z .nil))))))))))))) Z)<|Ye Z Z (G7 Q0v Z Z Z Z Z Z)<|Q2<|Q1<|Qu ?_
 have e:=Qch h0;subst e
 exact Qn (fun _ _ h=>h) Z (Q3l Q0v Z Z Z Z .nil) (.cons (.agg (.cons (.d _) (.cons (.d _) (.cons (.d _) (.cons (.d _) (.cons (.d _) (.cons (.d _) (.cons (.d _) (.cons (.d _) (.cons (.d _) (.cons (.d _) (.cons (.d _) (.cons (.d _) (.cons (.d _) (.cons (.d _) (.cons (.d _) (.cons (.d _) (.cons (.d _) (.cons (.d _) (.cons (.d _) (.cons (.d _) (.cons (.d _) (.cons (.d _) (.cons (.d _) (.cons (.d _) (.cons (.d _) (.cons (.d _) (.cons (.d _) (.cons (.d _) (.cons (.d _) (.cons (.d _) (.cons (.d _) (.cons (.d _) (.cons (.d _) (.cons (.d _) (.cons (.d _) (.cons (.d _) (.cons (.d _) (.cons (.d _) (.cons (.d _) (.cons (.d _) (.cons (.d _) (.cons (.d _) (.cons (.d _) (.cons (.d _) (.cons (.d _) (.cons (.d _) (.cons (.d _) (.cons (.d _) (.cons (.d _) (.cons (.d _) (.cons (.d _) (.cons (.d _) (.cons (.d _) (.cons (.d _) (.cons (.d _) (.cons (.d _) (.cons (.d _) (.cons (.d _) (.cons (.d _) (.cons (.d _) (.cons (.d _) (.cons (.d _) (.cons (.d _) (.cons (.d _) (.cons (.d _) .nil)))))))))))))))))))))))))))))))))))))))))))))))))))))))))))))))))) .nil)
def GH (a1:Lvl) (a0:Scp) (s1:Int):Option (LO Int (Unit⊕Int)) :=
 cond (decide (s1 < (a1.vs.length:Int)))
   (Option.bind (J3 a1.vs s1) fun (x5:Qde) =>
 cond (decide (a0.params≤x5.1))
   (some (.done (.inr 15)))
   (some (.next (QE (s1+1)))))
   (some (.done (.inl ())))
def KK (a1:Lvl) (a0:Scp) (s1:Int):Option (LO Int (Unit⊕Int)) :=
 cond (decide (s1 < (a1.vs.length:Int)))
   (Option.bind (J3 a1.vs s1) fun (x6:Qde) =>
 Option.bind (cond (decide (x6.1 < 0))
   (some (decide (a0.levels≤(QE ((-1) - x6.1)))))
   (some false)) (fun (v7:Bool)=>cond v7
   (some (.done (.inr 23)))
   (some (.next (QE (s1+1))))))
   (some (.done (.inl ())))
noncomputable abbrev m111_h0 (p0_:Scp) (p1_:Lvl) (p2_:Qde):List (Nat×HB) :=
 [(0,.cells 107 (Qd1 p0_)),(1,.cells 82 (Qd1 p1_)),(2,.cells 142 (Qd1 p2_))]
def DW (a0:Scp) (a1:Lvl):Option Int :=
 Option.bind (Q49 a1) fun (x1:Bool) =>
 cond (!x1)
   (some 3)
   (Option.bind (Qj (GH a1 a0) Qk 0) (Sum.elim (fun (o3:Unit)=>Option.bind (Qj (KK a1 a0) Qk 0) (Sum.elim (fun (o4:Unit)=>some 0) (fun o=>some o))) (fun o=>some o)))
theorem m111_ok (a0:Scp) (a1:Lvl) (r:Int) (h0:DW a0 a1=some r):Fun Tryz.prog 111 [.agg (Qd1 a0),.agg (Qd1 a1)] (Qw [.one (Qcz r)]):=by
 unfold DW at h0
 refine QL 9 44 Tryz.func111 Z en_111 Z (Qcr Z) (fun S w=>?_)
 simp only [J4]
 refine Q3<|Q0<|Qz Z Z (Qcr Z) (Jh Z)<|Qz Z Z (Qcr Z) (Jh Z)<|Qcl Z Z Z<|Q2<|Q1<|Q3<|Q3<|Q0<|Qcj Z Z Z (J6 (a1:Lvl) Wj Z Z) ?_
 refine Qv h0 (fun x1 hx1 h0=>?_)
 refine Qz Z Z (Qcr Z) (QC (m136_ok a1 x1 hx1) Z (.cons (.agg (.cons (.d _) (.cons (.d _) .nil))) .nil))<|Qcj Z Z Z (Z6 Z)<|Q2<|Q1 ?_
 refine Qi (b:=(!x1)) Z (fun c2=>?_) (fun c2=>?_)
 replace h0:=Qg c2 h0
 refine Q3<|Q0<|Qcl Z Z Z<|Q2<|Q1<|Qu ?_
 have e:=Qch h0;subst e
 exact Qn (fun _ _ h=>h) Z (Qm Z .nil) (.cons (.one (.d _)) .nil)
 replace h0:=Qh c2 h0
 refine Ql<|Q1<|Q3<|Q3<|Q0<|Qcj Z Z Z (Q5 Yv Z)<|Qcj Z Z Z (Q7 KT Z Z Z)<|Qcj Z Z Z (QS (α:=Qde) ZE Z (.d _))<|Qck Z Z Z<|Q2<|Q1<|Qx ?_
 refine JE 0 (fun (o3:Unit)=>⟨[(2,.v (.one (.ptr 0 0))),(3,.v (.one (.ptr 1 0)))],[(0,.cells 107 (Qd1 a0)),(1,.cells 82 (Qd1 a1))],[],2,44,[]⟩) (fun (o3:Unit)=>(Option.bind (Qj (KK a1 a0) Qk 0) (Sum.elim (fun (o4:Unit)=>some 0) (fun o=>some o)))=some r) ?_ ?_
 refine Qv h0 (fun o4 hl1 h0=>?_)
 refine JD (GH a1 a0) (fun s1=>⟨[(2,.v (.one (.ptr 0 0))),(3,.v (.one (.ptr 1 0))),(13,.v (.one (Qcy a1.vs))),(14,.v (.one (Qcz (a1.vs.length:Int)))),(15,.v (.one (Qcz s1)))],[(0,.cells 107 (Qd1 a0)),(1,.cells 82 (Qd1 a1))],[],2,44,[]⟩) 0 o4 (Qcg (Nat.zero_le _) Z Z Z Z Z) hl1 (fun s1 n1 oo1 h1 ho1=>?_)
 unfold GH at h1
 refine Q3<|Q0<|Qcj Z Z Z (Q4 Z Z Z)<|Q2<|Q1<|Q3 ?_
 refine Qi (b:=(decide (s1 < (a1.vs.length:Int)))) Z (fun c5=>?_) (fun c5=>?_)
 replace h1:=Qg c5 h1
 refine Ql<|Q1<|Q3<|Qx<|Q3<|Q0 ?_
 refine Qv h1 (fun x6 hx6 h1=>?_)
 refine Qcj Z Z Z (J7 (α:=Qde) ZE Z (.d _) Z hx6)<|Qcj Z Z Z (Jc (x6:Qde) GU Z)<|Qz Z Z (Qcr Z) (QZ Q6h Z)<|Ye Z Z (Jx (x6:Qde) GU Z Z Z Z Z)<|Q2<|Q1<|Q3<|Q0<|Qcj Z Z Z (Q5 JQ Z)<|Qcj Z Z Z (Q7 QO Z Z Z)<|Qcj Z Z Z (Q5 fo_107_1 Z)<|Qcj Z Z Z (Q7 QO Z Z Z)<|Qcj Z Z Z (Q4 Z Z Z)<|Q2 ?_
 refine Q1 ?_
 refine Qi (b:=(decide (a0.params≤x6.1))) Z (fun c7=>?_) (fun c7=>?_)
 replace h1:=Qg c7 h1
 refine Q3<|Q0<|Qcl Z Z Z<|Q2<|Q1<|Qu ?_
 have e:=Qch h1;subst e
 have e_:_=_:=ho1
 subst e_
 try dsimp only [Sum.elim_inl,Sum.elim_inr] at h0
 have e:=Qch h0;subst e
 exact Qn (fun _ _ h=>h) Z (Qm Z .nil) (.cons (.one (.d _)) .nil)
 replace h1:=Qh c7 h1
 refine Ql<|QB<|Q1<|Q0<|Qcj Z Z Z (Q4 Z Z Z)<|Qck Z Z Z<|Q2 ?_
 have e:=Qch h1;subst e
 refine Jd (QE (s1+1)) (Qcg (Nat.zero_le _) Z Z Z Z Z) ho1
 replace h1:=Qh c5 h1
 refine JK<|QI<|QI ?_
 have e:=Qch h1;subst e
 have e_:_=_:=ho1
 subst e_
 exact JC () (Qcg (Nat.zero_le _) Z Z Z Z Z) h0
 intro o3 h0
 refine J5<|Q1<|Q3<|Q3<|Q0<|Qcj Z Z Z (Q5 Yv Z)<|Qcj Z Z Z (Q7 KT Z Z Z)<|Qcj Z Z Z (QS (α:=Qde) ZE Z (.d _))<|Qck Z Z Z<|Q2<|Q1<|Qx ?_
 refine JE 2 (fun (o8:Unit)=>⟨[],[(0,.cells 107 (Qd1 a0)),(1,.cells 82 (Qd1 a1))],[],2,44,[]⟩) (fun (o8:Unit)=>(some 0)=some r) ?_ ?_
 refine Qv h0 (fun o9 hl1 h0=>?_)
 refine JD (KK a1 a0) (fun s1=>⟨[(2,.v (.one (.ptr 0 0))),(26,.v (.one (Qcy a1.vs))),(27,.v (.one (Qcz (a1.vs.length:Int)))),(28,.v (.one (Qcz s1)))],[(0,.cells 107 (Qd1 a0)),(1,.cells 82 (Qd1 a1))],[],2,44,[]⟩) 0 o9 (Qcg (Nat.zero_le _) Z Z Z Z Z) hl1 (fun s1 n1 oo1 h1 ho1=>?_)
 unfold KK at h1
 refine Q3<|Q0<|Qcj Z Z Z (Q4 Z Z Z)<|Q2<|Q1<|Q3 ?_
 refine Qi (b:=(decide (s1 < (a1.vs.length:Int)))) Z (fun c10=>?_) (fun c10=>?_)
 replace h1:=Qg c10 h1
 refine Ql<|Q1<|Q3<|Qx<|Q3<|Q0 ?_
 refine Qv h1 (fun x11 hx11 h1=>?_)
 refine Qcj Z Z Z (J7 (α:=Qde) ZE Z (.d _) Z hx11)<|Qcj Z Z Z (Jc (x11:Qde) GU Z)<|Qz Z Z (Qcr Z) (QZ Q6h Z)<|Ye Z Z (Jx (x11:Qde) GU Z Z Z Z Z)<|Q2<|Q1<|Q3 ?_
 refine QK (fun (v12:Bool)=>⟨[(2,.v (.one (.ptr 0 0))),(26,.v (.one (Qcy a1.vs))),(27,.v (.one (Qcz (a1.vs.length:Int)))),(28,.v (.one (Qcz s1))),(42,.v (.one (Qd0 v12)))],m111_h0 a0 a1 x11,[],3,44,[]⟩) (fun (v12:Bool)=>(cond v12
     (some (.done (.inr 23)))
     (some (.next (QE (s1+1)))))=some oo1) ?_ ?_
 refine Qv h1 (fun w2_ h2 h1=>?_)
 refine Q0<|Qcj Z Z Z (Q5 JQ Z)<|Qcj Z Z Z (Q7 QO Z Z Z)<|Qcj Z Z Z (Q4 Z Z Z)<|Qck Z Z Z ?_
 refine Qt (d:=35) (c:=(decide (x11.1 < 0))) Z (fun c13=>?_) (fun c13=>?_)
 replace h2:=Qg c13 h2
 refine Qcj Z Z Z (Q5 JQ Z)<|Qcj Z Z Z (Q7 QO Z Z Z)<|Qcj Z Z Z (Q4 Z Z Z)<|Qcj Z Z Z (Q5 fo_107_3 Z)<|Qcj Z Z Z (Q7 QO Z Z Z)<|Qcj Z Z Z (Q4 Z Z Z)<|Qcj Z Z Z (Qb Z Z)<|Q2 ?_
 have e:=Qch h2;subst e
 exact Qa (decide (a0.levels≤(QE ((-1) - x11.1)))) (Qcg (Nat.zero_le _) Z Z Z Z Z) h1
 replace h2:=Qh c13 h2
 refine Q6 Z Z<|Q6 Z Z<|Q6 Z Z<|Q6 Z Z<|Q6 Z Z<|Q6 Z Z<|Qcj Z Z Z (Qd Z Z)<|Q2 ?_
 have e:=Qch h2;subst e
 exact Qa false (Qcg (Nat.zero_le _) Z Z Z Z Z) h1
 intro v12 h1
 refine Q1 ?_
 refine Qi (b:=v12) Z (fun c14=>?_) (fun c14=>?_)
 replace h1:=Qg c14 h1
 refine Q3<|Q0<|Qcl Z Z Z<|Q2<|Q1<|Qu ?_
 have e:=Qch h1;subst e
 have e_:_=_:=ho1
 subst e_
 try dsimp only [Sum.elim_inl,Sum.elim_inr] at h0
 have e:=Qch h0;subst e
 exact Qn (fun _ _ h=>h) Z (Qm Z .nil) (.cons (.one (.d _)) .nil)
 replace h1:=Qh c14 h1
 refine Ql<|QB<|Q1<|Q0<|Qcj Z Z Z (Q4 Z Z Z)<|Qck Z Z Z<|Q2 ?_
 have e:=Qch h1;subst e
 refine Jd (QE (s1+1)) (Qcg (Nat.zero_le _) Z Z Z Z Z) ho1
 replace h1:=Qh c10 h1
 refine JK<|QI<|QI ?_
 have e:=Qch h1;subst e
 have e_:_=_:=ho1
 subst e_
 exact JC () (Qcg (Nat.zero_le _) Z Z Z Z Z) h0
 intro o8 h0
 refine J5<|Q1<|Q3<|Q0<|Qcl Z Z Z<|Q2<|Q1<|Qu ?_
 have e:=Qch h0;subst e
 exact Qn (fun _ _ h=>h) Z (Qm Z .nil) (.cons (.one (.d _)) .nil)
def Q2j (p0_:Bool) (p1_:Tm):Option Bool :=
 cond p0_
   (some false)
   (Option.bind (Qa5 ) fun (b0_:(List Use)) =>
 Option.bind (J3 b0_ p1_.kind) fun (b1_:Use) =>
 Qc (Nat.beq b0_.length 13)
 (Option.bind (cond b1_.index
   (cond b1_.name
   (cond (decide (b1_.levels < 0))
   (some ((p1_.kids.length:Int)==b1_.kids))
   (cond ((p1_.levels.length:Int)==b1_.levels)
   (some ((p1_.kids.length:Int)==b1_.kids))
   (some false)))
   (cond (p1_.name==([]:List UInt8))
   (cond (decide (b1_.levels < 0))
   (some ((p1_.kids.length:Int)==b1_.kids))
   (cond ((p1_.levels.length:Int)==b1_.levels)
   (some ((p1_.kids.length:Int)==b1_.kids))
   (some false)))
   (some false)))
   (cond (p1_.index==0)
   (cond b1_.name
   (cond (decide (b1_.levels < 0))
   (some ((p1_.kids.length:Int)==b1_.kids))
   (cond ((p1_.levels.length:Int)==b1_.levels)
   (some ((p1_.kids.length:Int)==b1_.kids))
   (some false)))
   (cond (p1_.name==([]:List UInt8))
   (cond (decide (b1_.levels < 0))
   (some ((p1_.kids.length:Int)==b1_.kids))
   (cond ((p1_.levels.length:Int)==b1_.levels)
   (some ((p1_.kids.length:Int)==b1_.kids))
   (some false)))
   (some false)))
   (some false))) (fun (b2_:Bool)=>some b2_)))
def Uu (a0:Tm):Option Bool :=
 Option.bind (cond (decide (a0.kind < 0))
   (some true)
   (some (decide (13≤a0.kind)))) (fun (v1:Bool)=>Q2j v1 a0)
theorem m109_ok (a0:Tm) (r:Bool) (h0:Uu a0=some r):Fun Tryz.prog 109 [.agg (Qd1 a0)] (Qw [.one (Qd0 r)]):=by
 unfold Uu at h0
 refine QL 9 53 Tryz.func109 Z en_109 Z (Qcr Z) (fun S w=>?_)
 simp only [J4]
 refine Q3<|Q0<|Qz Z Z (Qcr Z) (Jh Z)<|Qcl Z Z Z<|Q2<|Q1<|Q3<|Q3 ?_
 refine QK (fun (v1:Bool)=>⟨[(1,.v (.one (.ptr 0 0))),(11,.v (.one (Qd0 v1)))],[(0,.cells 25 (Qd1 a0))],[],1,53,[]⟩) (fun (v1:Bool)=>(Q2j v1 a0)=some r) ?_ ?_
 refine Qv h0 (fun w1_ h1 h0=>?_)
 refine Q0<|Qcj Z Z Z (Q5 Jj Z)<|Qcj Z Z Z (Q7 QO Z Z Z)<|Qcj Z Z Z (Q4 Z Z Z)<|Qck Z Z Z ?_
 refine Qt (d:=7) (c:=(decide (a0.kind < 0))) Z (fun c2=>?_) (fun c2=>?_)
 replace h1:=Qg c2 h1
 refine Q6 Z Z<|Q6 Z Z<|Q6 Z Z<|Qcj Z Z Z (Qb Z Z)<|Q2 ?_
 have e:=Qch h1;subst e
 exact Qa true (Qcg (Nat.zero_le _) Z Z Z Z Z) h0
 replace h1:=Qh c2 h1
 refine Qcj Z Z Z (Q5 Jj Z)<|Qcj Z Z Z (Q7 QO Z Z Z)<|Qcj Z Z Z (Q4 Z Z Z)<|Qcj Z Z Z (Qd Z Z)<|Q2 ?_
 have e:=Qch h1;subst e
 exact Qa (decide (13≤a0.kind)) (Qcg (Nat.zero_le _) Z Z Z Z Z) h0
 intro v1 h0
 unfold Q2j at h0
 refine Q1 ?_
 refine Qi (b:=v1) Z (fun c3=>?_) (fun c3=>?_)
 replace h0:=Qg c3 h0
 refine Q3<|Q0<|Qcl Z Z Z<|Q2<|Q1<|Qu ?_
 have e:=Qch h0;subst e
 exact Qn (fun _ _ h=>h) Z (Qm Z .nil) (.cons (.one (.d _)) .nil)
 replace h0:=Qh c3 h0
 refine Ql<|Q1<|Q3 ?_
 refine Zh [4,5] [(0,1),(1,1),(2,1),(3,1)] mixed (by kernel_rfl) (by kernel_rfl) (by kernel_rfl) ?_
 refine Qv h0 (fun x4 hx4 h0=>?_)
 refine RunA.rd Z Z Z (QC (m107_ok  x4 hx4) Z .nil) Z<|RunA.rd Z Z Z (Q9 (Q5 Jj Z)) Z<|RunA.rd Z Z Z (Q9 (Q7 QO Z Z Z)) Z ?_
 refine Qv h0 (fun x5 hx5 h0=>?_)
 refine guardK h0 (fun g6 h0=>?_)
 refine RunA.rd Z Z Z (Q9 (RO.indexAgg (α:=Use) (tbl:=x4) as_156 Z Z g6 Z hx5)) Z<|RunA.eff Z Z Z (QZ z_155 Z) Z<|RunA.eff Z Z Z (Jx (x5:Use) ag_155 Z Z Z Z Z) Z ?_
 refine RunA.nil ⟨?ex,_,_,Z,?_⟩
 case ex=>exact ⟨⟨_,rfl,_,_,rfl,rfl,rfl,.inl ⟨rfl,_,QC (m107_ok  x4 hx4) rfl .nil,rfl⟩⟩,⟨_,rfl,_,_,rfl,rfl,rfl,.inl ⟨rfl,_,Q9 (Q5 Jj rfl),rfl⟩⟩,⟨_,rfl,_,_,rfl,rfl,rfl,.inl ⟨rfl,_,Q9 (Q7 QO rfl rfl rfl),rfl⟩⟩,⟨_,rfl,_,_,rfl,rfl,rfl,.inl ⟨rfl,_,Q9 (RO.indexAgg (α:=Use) (tbl:=x4) as_156 rfl rfl g6 rfl hx5),rfl⟩⟩,trivial⟩
 refine Q3h (st':=⟨[(1,.v (.one (.ptr 0 0))),(3,.v (.one (.ptr 1 0)))],[(0,.cells 25 (Qd1 a0)),(1,.cells 155 (Qd1 x5))],[],2,53,[]⟩) (Qcg (Nat.zero_le _) Z Z Z Z Z)<|Q1<|Q3 ?_
 refine QK (fun (v7:Bool)=>⟨[(2,.v (.one (Qd0 v7)))],[(0,.cells 25 (Qd1 a0)),(1,.cells 155 (Qd1 x5))],[],2,53,[]⟩) (fun (v7:Bool)=>(some v7)=some r) ?_ ?_
 refine Qv h0 (fun w1_ h1 h0=>?_)
 refine Q0<|Qcj Z Z Z (Q5 fo_155_0 Z)<|Qcj Z Z Z (Q7 Qag Z Z Z)<|Qck Z Z Z ?_
 refine Qt (d:=18) (c:=x5.index) Z (fun c8=>?_) (fun c8=>?_)
 replace h1:=Qg c8 h1
 refine Q6 Z Z<|Q6 Z Z<|Q6 Z Z<|Qcj Z Z Z (Qb Z Z)<|Qck Z Z Z<|Qcj Z Z Z (Q5 fo_155_1 Z)<|Qcj Z Z Z (Q7 Qag Z Z Z)<|Qck Z Z Z ?_
 refine Qt (d:=26) (c:=x5.name) Z (fun c9=>?_) (fun c9=>?_)
 replace h1:=Qg c9 h1
 refine Q6 Z Z<|Q6 Z Z<|Q6 Z Z<|Qcj Z Z Z (Qb Z Z)<|Qcj Z Z Z (Qb Z Z)<|Qck Z Z Z<|Qcj Z Z Z (Q5 ZS Z)<|Qcj Z Z Z (Q7 QO Z Z Z)<|Qcj Z Z Z (Q4 Z Z Z)<|Qck Z Z Z ?_
 refine Qt (d:=36) (c:=(decide (x5.levels < 0))) Z (fun c10=>?_) (fun c10=>?_)
 replace h1:=Qg c10 h1
 refine Q6 Z Z<|Q6 Z Z<|Q6 Z Z<|Q6 Z Z<|Q6 Z Z<|Q6 Z Z<|Qcj Z Z Z (Qb Z Z)<|Qcj Z Z Z (Qb Z Z)<|Qck Z Z Z<|Qcj Z Z Z (Q5 Y2 Z)<|Qcj Z Z Z (Q7 ZW Z Z Z)<|Qcj Z Z Z (QS (α:=Tm) Zl Z (.d _))<|Qcj Z Z Z (Q5 ZR Z)<|Qcj Z Z Z (Q7 QO Z Z Z) ?_
 refine Qcj Z Z Z (Q4 Z Z Z)<|Qcj Z Z Z (Qb Z Z)<|Qcl Z Z Z<|Q2 ?_
 have e:=Qch h1;subst e
 exact Qa ((a0.kids.length:Int)==x5.kids) (Qcg (Nat.zero_le _) Z Z Z Z Z) h0
 replace h1:=Qh c10 h1
 refine Qcj Z Z Z (Q5 YZ Z)<|Qcj Z Z Z (Q7 X4 Z Z Z)<|Qcj Z Z Z (QS (α:=Lvl) KD Z (.d _))<|Qcj Z Z Z (Q5 ZS Z)<|Qcj Z Z Z (Q7 QO Z Z Z)<|Qcj Z Z Z (Q4 Z Z Z)<|Qcj Z Z Z (Qd Z Z)<|Qcj Z Z Z (Qb Z Z)<|Qck Z Z Z ?_
 refine Qt (d:=45) (c:=((a0.levels.length:Int)==x5.levels)) Z (fun c11=>?_) (fun c11=>?_)
 replace h1:=Qg c11 h1
 refine Qcj Z Z Z (Q5 Y2 Z)<|Qcj Z Z Z (Q7 ZW Z Z Z)<|Qcj Z Z Z (QS (α:=Tm) Zl Z (.d _))<|Qcj Z Z Z (Q5 ZR Z)<|Qcj Z Z Z (Q7 QO Z Z Z)<|Qcj Z Z Z (Q4 Z Z Z)<|Qcj Z Z Z (Qb Z Z)<|Qcl Z Z Z<|Q2 ?_
 have e:=Qch h1;subst e
 exact Qa ((a0.kids.length:Int)==x5.kids) (Qcg (Nat.zero_le _) Z Z Z Z Z) h0
 replace h1:=Qh c11 h1
 refine Q6 Z Z<|Q6 Z Z<|Q6 Z Z<|Q6 Z Z<|Q6 Z Z<|Q6 Z Z<|Qcj Z Z Z (Qd Z Z)<|Qcl Z Z Z<|Q2 ?_
 have e:=Qch h1;subst e
 exact Qa false (Qcg (Nat.zero_le _) Z Z Z Z Z) h0
 replace h1:=Qh c9 h1
 refine Qcj Z Z Z (Q5 U2 Z)<|Qcj Z Z Z (Q7 Q8u Z Z Z)<|Qcj Z Z Z (Q3k Z Z)<|Qcj Z Z Z (Qd Z Z)<|Qcj Z Z Z (Qb Z Z)<|Qck Z Z Z ?_
 refine Qt (d:=32) (c:=(a0.name==([]:List UInt8))) Z (fun c12=>?_) (fun c12=>?_)
 replace h1:=Qg c12 h1
 refine Qcj Z Z Z (Q5 ZS Z)<|Qcj Z Z Z (Q7 QO Z Z Z)<|Qcj Z Z Z (Q4 Z Z Z)<|Qck Z Z Z ?_
 refine Qt (d:=36) (c:=(decide (x5.levels < 0))) Z (fun c13=>?_) (fun c13=>?_)
 replace h1:=Qg c13 h1
 refine Q6 Z Z<|Q6 Z Z<|Q6 Z Z<|Q6 Z Z<|Q6 Z Z<|Q6 Z Z<|Qcj Z Z Z (Qb Z Z)<|Qcj Z Z Z (Qb Z Z)<|Qck Z Z Z<|Qcj Z Z Z (Q5 Y2 Z)<|Qcj Z Z Z (Q7 ZW Z Z Z)<|Qcj Z Z Z (QS (α:=Tm) Zl Z (.d _))<|Qcj Z Z Z (Q5 ZR Z)<|Qcj Z Z Z (Q7 QO Z Z Z) ?_
 refine Qcj Z Z Z (Q4 Z Z Z)<|Qcj Z Z Z (Qb Z Z)<|Qcl Z Z Z<|Q2 ?_
 have e:=Qch h1;subst e
 exact Qa ((a0.kids.length:Int)==x5.kids) (Qcg (Nat.zero_le _) Z Z Z Z Z) h0
 replace h1:=Qh c13 h1
 refine Qcj Z Z Z (Q5 YZ Z)<|Qcj Z Z Z (Q7 X4 Z Z Z)<|Qcj Z Z Z (QS (α:=Lvl) KD Z (.d _))<|Qcj Z Z Z (Q5 ZS Z)<|Qcj Z Z Z (Q7 QO Z Z Z)<|Qcj Z Z Z (Q4 Z Z Z)<|Qcj Z Z Z (Qd Z Z)<|Qcj Z Z Z (Qb Z Z)<|Qck Z Z Z ?_
 refine Qt (d:=45) (c:=((a0.levels.length:Int)==x5.levels)) Z (fun c14=>?_) (fun c14=>?_)
 replace h1:=Qg c14 h1
 refine Qcj Z Z Z (Q5 Y2 Z)<|Qcj Z Z Z (Q7 ZW Z Z Z)<|Qcj Z Z Z (QS (α:=Tm) Zl Z (.d _))<|Qcj Z Z Z (Q5 ZR Z)<|Qcj Z Z Z (Q7 QO Z Z Z)<|Qcj Z Z Z (Q4 Z Z Z)<|Qcj Z Z Z (Qb Z Z)<|Qcl Z Z Z<|Q2 ?_
 have e:=Qch h1;subst e
 exact Qa ((a0.kids.length:Int)==x5.kids) (Qcg (Nat.zero_le _) Z Z Z Z Z) h0
 replace h1:=Qh c14 h1
 refine Q6 Z Z<|Q6 Z Z<|Q6 Z Z<|Q6 Z Z<|Q6 Z Z<|Q6 Z Z<|Qcj Z Z Z (Qd Z Z)<|Qcl Z Z Z<|Q2 ?_
 have e:=Qch h1;subst e
 exact Qa false (Qcg (Nat.zero_le _) Z Z Z Z Z) h0
 replace h1:=Qh c12 h1
 refine Q6 Z Z<|Q6 Z Z<|Q6 Z Z<|Q6 Z Z<|Q6 Z Z<|Q6 Z Z<|Q6 Z Z<|Q6 Z Z<|Q6 Z Z<|Q6 Z Z<|Q6 Z Z<|Qcj Z Z Z (Qd Z Z)<|Qck Z Z Z<|Q6 Z Z ?_
 refine Q6 Z Z<|Q6 Z Z<|Q6 Z Z<|Q6 Z Z<|Q6 Z Z<|Qcj Z Z Z (Qd Z Z)<|Qcl Z Z Z<|Q2 ?_
 have e:=Qch h1;subst e
 exact Qa false (Qcg (Nat.zero_le _) Z Z Z Z Z) h0
 replace h1:=Qh c8 h1
 refine Qcj Z Z Z (Q5 Yw Z)<|Qcj Z Z Z (Q7 QO Z Z Z)<|Qcj Z Z Z (Q4 Z Z Z)<|Qcj Z Z Z (Qd Z Z)<|Qck Z Z Z ?_
 refine Qt (d:=23) (c:=(a0.index==0)) Z (fun c15=>?_) (fun c15=>?_)
 replace h1:=Qg c15 h1
 refine Qcj Z Z Z (Q5 fo_155_1 Z)<|Qcj Z Z Z (Q7 Qag Z Z Z)<|Qck Z Z Z ?_
 refine Qt (d:=26) (c:=x5.name) Z (fun c16=>?_) (fun c16=>?_)
 replace h1:=Qg c16 h1
 refine Q6 Z Z<|Q6 Z Z<|Q6 Z Z<|Qcj Z Z Z (Qb Z Z)<|Qcj Z Z Z (Qb Z Z)<|Qck Z Z Z<|Qcj Z Z Z (Q5 ZS Z)<|Qcj Z Z Z (Q7 QO Z Z Z)<|Qcj Z Z Z (Q4 Z Z Z)<|Qck Z Z Z ?_
 refine Qt (d:=36) (c:=(decide (x5.levels < 0))) Z (fun c17=>?_) (fun c17=>?_)
 replace h1:=Qg c17 h1
 refine Q6 Z Z<|Q6 Z Z<|Q6 Z Z<|Q6 Z Z<|Q6 Z Z<|Q6 Z Z<|Qcj Z Z Z (Qb Z Z)<|Qcj Z Z Z (Qb Z Z)<|Qck Z Z Z<|Qcj Z Z Z (Q5 Y2 Z)<|Qcj Z Z Z (Q7 ZW Z Z Z)<|Qcj Z Z Z (QS (α:=Tm) Zl Z (.d _))<|Qcj Z Z Z (Q5 ZR Z)<|Qcj Z Z Z (Q7 QO Z Z Z) ?_
 refine Qcj Z Z Z (Q4 Z Z Z)<|Qcj Z Z Z (Qb Z Z)<|Qcl Z Z Z<|Q2 ?_
 have e:=Qch h1;subst e
 exact Qa ((a0.kids.length:Int)==x5.kids) (Qcg (Nat.zero_le _) Z Z Z Z Z) h0
 replace h1:=Qh c17 h1
 refine Qcj Z Z Z (Q5 YZ Z)<|Qcj Z Z Z (Q7 X4 Z Z Z)<|Qcj Z Z Z (QS (α:=Lvl) KD Z (.d _))<|Qcj Z Z Z (Q5 ZS Z)<|Qcj Z Z Z (Q7 QO Z Z Z)<|Qcj Z Z Z (Q4 Z Z Z)<|Qcj Z Z Z (Qd Z Z)<|Qcj Z Z Z (Qb Z Z)<|Qck Z Z Z ?_
 refine Qt (d:=45) (c:=((a0.levels.length:Int)==x5.levels)) Z (fun c18=>?_) (fun c18=>?_)
 replace h1:=Qg c18 h1
 refine Qcj Z Z Z (Q5 Y2 Z)<|Qcj Z Z Z (Q7 ZW Z Z Z)<|Qcj Z Z Z (QS (α:=Tm) Zl Z (.d _))<|Qcj Z Z Z (Q5 ZR Z)<|Qcj Z Z Z (Q7 QO Z Z Z)<|Qcj Z Z Z (Q4 Z Z Z)<|Qcj Z Z Z (Qb Z Z)<|Qcl Z Z Z<|Q2 ?_
 have e:=Qch h1;subst e
 exact Qa ((a0.kids.length:Int)==x5.kids) (Qcg (Nat.zero_le _) Z Z Z Z Z) h0
 replace h1:=Qh c18 h1
 refine Q6 Z Z<|Q6 Z Z<|Q6 Z Z<|Q6 Z Z<|Q6 Z Z<|Q6 Z Z<|Qcj Z Z Z (Qd Z Z)<|Qcl Z Z Z<|Q2 ?_
 have e:=Qch h1;subst e
 exact Qa false (Qcg (Nat.zero_le _) Z Z Z Z Z) h0
 replace h1:=Qh c16 h1
 refine Qcj Z Z Z (Q5 U2 Z)<|Qcj Z Z Z (Q7 Q8u Z Z Z)<|Qcj Z Z Z (Q3k Z Z)<|Qcj Z Z Z (Qd Z Z)<|Qcj Z Z Z (Qb Z Z)<|Qck Z Z Z ?_
 refine Qt (d:=32) (c:=(a0.name==([]:List UInt8))) Z (fun c19=>?_) (fun c19=>?_)
 replace h1:=Qg c19 h1
 refine Qcj Z Z Z (Q5 ZS Z)<|Qcj Z Z Z (Q7 QO Z Z Z)<|Qcj Z Z Z (Q4 Z Z Z)<|Qck Z Z Z ?_
 refine Qt (d:=36) (c:=(decide (x5.levels < 0))) Z (fun c20=>?_) (fun c20=>?_)
 replace h1:=Qg c20 h1
 refine Q6 Z Z<|Q6 Z Z<|Q6 Z Z<|Q6 Z Z<|Q6 Z Z<|Q6 Z Z<|Qcj Z Z Z (Qb Z Z)<|Qcj Z Z Z (Qb Z Z)<|Qck Z Z Z<|Qcj Z Z Z (Q5 Y2 Z)<|Qcj Z Z Z (Q7 ZW Z Z Z)<|Qcj Z Z Z (QS (α:=Tm) Zl Z (.d _))<|Qcj Z Z Z (Q5 ZR Z)<|Qcj Z Z Z (Q7 QO Z Z Z) ?_
 refine Qcj Z Z Z (Q4 Z Z Z)<|Qcj Z Z Z (Qb Z Z)<|Qcl Z Z Z<|Q2 ?_
 have e:=Qch h1;subst e
 exact Qa ((a0.kids.length:Int)==x5.kids) (Qcg (Nat.zero_le _) Z Z Z Z Z) h0
 replace h1:=Qh c20 h1
 refine Qcj Z Z Z (Q5 YZ Z)<|Qcj Z Z Z (Q7 X4 Z Z Z)<|Qcj Z Z Z (QS (α:=Lvl) KD Z (.d _))<|Qcj Z Z Z (Q5 ZS Z)<|Qcj Z Z Z (Q7 QO Z Z Z)<|Qcj Z Z Z (Q4 Z Z Z)<|Qcj Z Z Z (Qd Z Z)<|Qcj Z Z Z (Qb Z Z)<|Qck Z Z Z ?_
 refine Qt (d:=45) (c:=((a0.levels.length:Int)==x5.levels)) Z (fun c21=>?_) (fun c21=>?_)
 replace h1:=Qg c21 h1
 refine Qcj Z Z Z (Q5 Y2 Z)<|Qcj Z Z Z (Q7 ZW Z Z Z)<|Qcj Z Z Z (QS (α:=Tm) Zl Z (.d _))<|Qcj Z Z Z (Q5 ZR Z)<|Qcj Z Z Z (Q7 QO Z Z Z)<|Qcj Z Z Z (Q4 Z Z Z)<|Qcj Z Z Z (Qb Z Z)<|Qcl Z Z Z<|Q2 ?_
 have e:=Qch h1;subst e
 exact Qa ((a0.kids.length:Int)==x5.kids) (Qcg (Nat.zero_le _) Z Z Z Z Z) h0
 replace h1:=Qh c21 h1
 refine Q6 Z Z<|Q6 Z Z<|Q6 Z Z<|Q6 Z Z<|Q6 Z Z<|Q6 Z Z<|Qcj Z Z Z (Qd Z Z)<|Qcl Z Z Z<|Q2 ?_
 have e:=Qch h1;subst e
 exact Qa false (Qcg (Nat.zero_le _) Z Z Z Z Z) h0
 replace h1:=Qh c19 h1
 refine Q6 Z Z<|Q6 Z Z<|Q6 Z Z<|Q6 Z Z<|Q6 Z Z<|Q6 Z Z<|Q6 Z Z<|Q6 Z Z<|Q6 Z Z<|Q6 Z Z<|Q6 Z Z<|Qcj Z Z Z (Qd Z Z)<|Qck Z Z Z<|Q6 Z Z ?_
 refine Q6 Z Z<|Q6 Z Z<|Q6 Z Z<|Q6 Z Z<|Q6 Z Z<|Qcj Z Z Z (Qd Z Z)<|Qcl Z Z Z<|Q2 ?_
 have e:=Qch h1;subst e
 exact Qa false (Qcg (Nat.zero_le _) Z Z Z Z Z) h0
 replace h1:=Qh c15 h1
 refine Q6 Z Z<|Q6 Z Z<|Q6 Z Z<|Q6 Z Z<|Q6 Z Z<|Q6 Z Z<|Q6 Z Z<|Qcj Z Z Z (Qd Z Z)<|Qck Z Z Z<|Q6 Z Z<|Q6 Z Z<|Q6 Z Z<|Q6 Z Z<|Q6 Z Z ?_
 refine Q6 Z Z<|Q6 Z Z<|Q6 Z Z<|Q6 Z Z<|Q6 Z Z<|Q6 Z Z<|Qcj Z Z Z (Qd Z Z)<|Qck Z Z Z<|Q6 Z Z<|Q6 Z Z<|Q6 Z Z<|Q6 Z Z<|Q6 Z Z<|Q6 Z Z ?_
 refine Qcj Z Z Z (Qd Z Z)<|Qcl Z Z Z<|Q2 ?_
 have e:=Qch h1;subst e
 exact Qa false (Qcg (Nat.zero_le _) Z Z Z Z Z) h0
 intro v7 h0
 refine Q1<|Qu ?_
 have e:=Qch h0;subst e
 exact Qn (fun _ _ h=>h) Z (Qm Z .nil) (.cons (.one (.d _)) .nil)
def Ys (a1:Tm) (a0:Scp) (s1:Int):Option (LO Int (Unit⊕Int)) :=
 cond (decide (s1 < (a1.levels.length:Int)))
   (Option.bind (J3 a1.levels s1) fun (x9:Lvl) =>
 Option.bind (DW a0 x9) fun (x10:Int) =>
 cond (x10 != 0)
   (some (.done (.inr x10)))
   (some (.next (QE (s1+1)))))
   (some (.done (.inl ())))
def Zs (p0_:Tm) (p1_:Scp) (p2_:Int):Option Int :=
 Option.bind (cond (p0_.kind==0)
   (cond (decide (p0_.index < 0))
   (some true)
   (some (decide (p1_.vars≤(QE (p0_.index - p2_))))))
   (some false)) (fun (b0_:Bool)=>cond b0_
   (some 24)
   (Option.bind (cond (p0_.kind==12)
   (cond (decide (p0_.index < 0))
   (some true)
   (some (decide (p1_.metas≤p0_.index))))
   (some false)) (fun (b1_:Bool)=>cond b1_
   (some 23)
   (some 0))))
def Q9y (a0:Scp) (a1:Tm) (a2:Int):Option Int :=
 Option.bind (Uu a1) fun (x1:Bool) =>
 cond (!x1)
   (some 3)
   (cond (a1.kind==3)
   (Option.bind (Q2i a1.name) fun (x4:Bool) =>
 cond (!x4)
   (some 29)
   (cond (decide (8 < (a1.levels.length:Int)))
   (some 6)
   (Option.bind (Qj (Ys a1 a0) Qk 0) (Sum.elim (fun (o7:Unit)=>Zs a1 a0 a2) (fun o=>some o)))))
   (Option.bind (Qj (Ys a1 a0) Qk 0) (Sum.elim (fun (o21:Unit)=>Zs a1 a0 a2) (fun o=>some o))))
theorem m59_ok (a0:Scp) (a1:Tm) (a2:Int) (r:Int) (h0:Q9y a0 a1 a2=some r):Fun Tryz.prog 59 [.agg (Qd1 a0),.agg (Qd1 a1),.one (Qcz a2)] (Qw [.one (Qcz r)]):=by
 unfold Q9y at h0
 refine QL 9 72 Tryz.func59 Z en_59 Z (Qcr Z) (fun S w=>?_)
 simp only [J4]
 refine Q3<|Q0<|Qz Z Z (Qcr Z) (Jh Z)<|Qz Z Z (Qcr Z) (Jh Z)<|Qcl Z Z Z<|Q2<|Q1<|Q3<|Q3<|Q0<|Qcj Z Z Z (J6 (a1:Tm) Zg Z Z) ?_
 refine Qv h0 (fun x1 hx1 h0=>?_)
 refine Qz Z Z (Qcr Z) (QC (m109_ok a1 x1 hx1) Z (.cons (.agg (.cons (.d _) (.cons (.d _) (.cons (.d _) (.cons (.d _) (.cons (.d _) .nil)))))) .nil))<|Qcj Z Z Z (Z6 Z)<|Q2<|Q1 ?_
 refine Qi (b:=(!x1)) Z (fun c2=>?_) (fun c2=>?_)
 replace h0:=Qg c2 h0
 refine Q3<|Q0<|Qcl Z Z Z<|Q2<|Q1<|Qu ?_
 have e:=Qch h0;subst e
 exact Qn (fun _ _ h=>h) Z (Qm Z .nil) (.cons (.one (.d _)) .nil)
 replace h0:=Qh c2 h0
 refine Ql<|Q1<|Q3<|Q3<|Q0<|Qcj Z Z Z (Q5 Jj Z)<|Qcj Z Z Z (Q7 QO Z Z Z)<|Qcj Z Z Z (Q4 Z Z Z)<|Q2<|Q1 ?_
 refine Qi (b:=(a1.kind==3)) Z (fun c3=>?_) (fun c3=>?_)
 replace h0:=Qg c3 h0
 refine Q3<|Q3<|Q0<|Qcj Z Z Z (Q5 U2 Z)<|Qcj Z Z Z (Q7 Q8u Z Z Z) ?_
 refine Qv h0 (fun x4 hx4 h0=>?_)
 refine Qz Z Z (Qcr Z) (QC (m110_ok a1.name x4 hx4) Z (.cons (.one (.d _)) .nil))<|Qcj Z Z Z (Z6 Z)<|Q2<|Q1 ?_
 refine Qi (b:=(!x4)) Z (fun c5=>?_) (fun c5=>?_)
 replace h0:=Qg c5 h0
 refine Q3<|Q0<|Qcl Z Z Z<|Q2<|Q1<|Qu ?_
 have e:=Qch h0;subst e
 exact Qn (fun _ _ h=>h) Z (Qm Z .nil) (.cons (.one (.d _)) .nil)
 replace h0:=Qh c5 h0
 refine Ql<|Q1<|Q3<|Q0<|Qcj Z Z Z (Q5 YZ Z)<|Qcj Z Z Z (Q7 X4 Z Z Z)<|Qcj Z Z Z (QS (α:=Lvl) KD Z (.d _))<|Qcj Z Z Z (Q4 Z Z Z)<|Q2<|Q1 ?_
 refine Qi (b:=(decide (8 < (a1.levels.length:Int)))) Z (fun c6=>?_) (fun c6=>?_)
 replace h0:=Qg c6 h0
 refine Q3<|Q0<|Qcl Z Z Z<|Q2<|Q1<|Qu ?_
 have e:=Qch h0;subst e
 exact Qn (fun _ _ h=>h) Z (Qm Z .nil) (.cons (.one (.d _)) .nil)
 replace h0:=Qh c6 h0
 refine Ql<|Q1<|Q3<|Q3<|Q0<|Qcj Z Z Z (Q5 YZ Z)<|Qcj Z Z Z (Q7 X4 Z Z Z)<|Qcj Z Z Z (QS (α:=Lvl) KD Z (.d _))<|Qck Z Z Z<|Q2<|Q1<|Qx ?_
 refine JE 0 (fun (o7:Unit)=>⟨[(2,.v (.one (Qcz a2))),(3,.v (.one (.ptr 0 0))),(4,.v (.one (.ptr 1 0)))],[(0,.cells 107 (Qd1 a0)),(1,.cells 25 (Qd1 a1))],[],2,72,[]⟩) (fun (o7:Unit)=>(Zs a1 a0 a2)=some r) ?_ ?_
 refine Qv h0 (fun o8 hl1 h0=>?_)
 refine JD (Ys a1 a0) (fun s1=>⟨[(2,.v (.one (Qcz a2))),(3,.v (.one (.ptr 0 0))),(4,.v (.one (.ptr 1 0))),(25,.v (.one (Qcy a1.levels))),(26,.v (.one (Qcz (a1.levels.length:Int)))),(27,.v (.one (Qcz s1)))],[(0,.cells 107 (Qd1 a0)),(1,.cells 25 (Qd1 a1))],[],2,72,[]⟩) 0 o8 (Qcg (Nat.zero_le _) Z Z Z Z Z) hl1 (fun s1 n1 oo1 h1 ho1=>?_)
 unfold Ys at h1
 refine Q3<|Q0<|Qcj Z Z Z (Q4 Z Z Z)<|Q2<|Q1<|Q3 ?_
 refine Qi (b:=(decide (s1 < (a1.levels.length:Int)))) Z (fun c9=>?_) (fun c9=>?_)
 replace h1:=Qg c9 h1
 refine Ql<|Q1<|Q3<|Qx<|Q3<|Q0 ?_
 refine Qv h1 (fun x10 hx10 h1=>?_)
 refine Qcj Z Z Z (J7 (α:=Lvl) KD Z (.d _) Z hx10)<|Qcj Z Z Z (Jc (x10:Lvl) Wj Z)<|Qz Z Z (Qcr Z) (QZ z_82 Z)<|Ye Z Z (Jx (x10:Lvl) Wj Z Z Z Z Z)<|Q2<|Q1<|Q3<|Q0<|Qcj Z Z Z (J6 (a0:Scp) Q3f Z Z)<|Qcj Z Z Z (J6 (x10:Lvl) Wj Z Z) ?_
 refine Qv h1 (fun x11 hx11 h1=>?_)
 refine Qz Z Z (Qcr Z) (QC (m111_ok a0 x10 x11 hx11) Z (.cons (.agg (.cons (.d _) (.cons (.d _) (.cons (.d _) (.cons (.d _) .nil))))) (.cons (.agg (.cons (.d _) (.cons (.d _) .nil))) .nil)))<|Qcl Z Z Z<|Q2<|Q1<|Q3<|Q0<|Qck Z Z Z<|Qcj Z Z Z (Q4 Z Z Z)<|Q2<|Q1 ?_
 refine Qi (b:=(x11 != 0)) Z (fun c12=>?_) (fun c12=>?_)
 replace h1:=Qg c12 h1
 refine Q3<|Q0<|Qck Z Z Z<|Qcl Z Z Z<|Q2<|Q1<|Qu ?_
 have e:=Qch h1;subst e
 have e_:_=_:=ho1
 subst e_
 try dsimp only [Sum.elim_inl,Sum.elim_inr] at h0
 have e:=Qch h0;subst e
 exact Qn (fun _ _ h=>h) Z (Qm Z .nil) (.cons (.one (.d _)) .nil)
 replace h1:=Qh c12 h1
 refine Ql<|QB<|Q1<|Q0<|Qcj Z Z Z (Q4 Z Z Z)<|Qck Z Z Z<|Q2 ?_
 have e:=Qch h1;subst e
 refine Jd (QE (s1+1)) (Qcg (Nat.zero_le _) Z Z Z Z Z) ho1
 replace h1:=Qh c9 h1
 refine JK<|QI<|QI ?_
 have e:=Qch h1;subst e
 have e_:_=_:=ho1
 subst e_
 exact JC () (Qcg (Nat.zero_le _) Z Z Z Z Z) h0
 intro o7 h0
 unfold Zs at h0
 refine J5<|Q1<|Q3<|Qx<|Q3 ?_
 refine QK (fun (v13:Bool)=>⟨[(3,.v (.one (.ptr 0 0))),(4,.v (.one (.ptr 1 0))),(38,.v (.one (Qd0 v13)))],[(0,.cells 107 (Qd1 a0)),(1,.cells 25 (Qd1 a1))],[],2,72,[]⟩) (fun (v13:Bool)=>(cond v13
     (some 24)
     (Option.bind (cond (a1.kind==12)
     (cond (decide (a1.index < 0))
     (some true)
     (some (decide (a0.metas≤a1.index))))
     (some false)) (fun (v15:Bool)=>cond v15
     (some 23)
     (some 0))))=some r) ?_ ?_
 refine Qv h0 (fun w1_ h1 h0=>?_)
 refine Q0<|Qcj Z Z Z (Q5 Jj Z)<|Qcj Z Z Z (Q7 QO Z Z Z)<|Qcj Z Z Z (Q4 Z Z Z)<|Qck Z Z Z ?_
 refine Qt (d:=42) (c:=(a1.kind==0)) Z (fun c14=>?_) (fun c14=>?_)
 replace h1:=Qg c14 h1
 refine Qcj Z Z Z (Q5 Yw Z)<|Qcj Z Z Z (Q7 QO Z Z Z)<|Qcj Z Z Z (Q4 Z Z Z)<|Qck Z Z Z ?_
 refine Qt (d:=46) (c:=(decide (a1.index < 0))) Z (fun c15=>?_) (fun c15=>?_)
 replace h1:=Qg c15 h1
 refine Q6 Z Z<|Q6 Z Z<|Q6 Z Z<|Q6 Z Z<|Q6 Z Z<|Q6 Z Z<|Q6 Z Z<|Qcj Z Z Z (Qb Z Z)<|Qcj Z Z Z (Qb Z Z)<|Qcl Z Z Z<|Q2 ?_
 have e:=Qch h1;subst e
 exact Qa true (Qcg (Nat.zero_le _) Z Z Z Z Z) h0
 replace h1:=Qh c15 h1
 refine Qcj Z Z Z (Q5 Yw Z)<|Qcj Z Z Z (Q7 QO Z Z Z)<|Qck Z Z Z<|Qcj Z Z Z (Q4 Z Z Z)<|Qcj Z Z Z (Q5 fo_107_0 Z)<|Qcj Z Z Z (Q7 QO Z Z Z)<|Qcj Z Z Z (Q4 Z Z Z)<|Qcj Z Z Z (Qd Z Z)<|Qcj Z Z Z (Qb Z Z)<|Qcl Z Z Z<|Q2 ?_
 have e:=Qch h1;subst e
 exact Qa (decide (a0.vars≤(QE (a1.index - a2)))) (Qcg (Nat.zero_le _) Z Z Z Z Z) h0
 replace h1:=Qh c14 h1
 refine Q6 Z Z<|Q6 Z Z<|Q6 Z Z<|Q6 Z Z<|Q6 Z Z<|Q6 Z Z<|Q6 Z Z<|Q6 Z Z<|Q6 Z Z<|Q6 Z Z<|Q6 Z Z<|Q6 Z Z<|Qcj Z Z Z (Qd Z Z)<|Qcl Z Z Z ?_
 refine Q2 ?_
 have e:=Qch h1;subst e
 exact Qa false (Qcg (Nat.zero_le _) Z Z Z Z Z) h0
 intro v13 h0
 refine Q1 ?_
 refine Qi (b:=v13) Z (fun c16=>?_) (fun c16=>?_)
 replace h0:=Qg c16 h0
 refine Q3<|Q0<|Qcl Z Z Z<|Q2<|Q1<|Qu ?_
 have e:=Qch h0;subst e
 exact Qn (fun _ _ h=>h) Z (Qm Z .nil) (.cons (.one (.d _)) .nil)
 replace h0:=Qh c16 h0
 refine Q3 ?_
 refine QK (fun (v17:Bool)=>⟨[(56,.v (.one (Qd0 v17)))],[(0,.cells 107 (Qd1 a0)),(1,.cells 25 (Qd1 a1))],[],2,72,[]⟩) (fun (v17:Bool)=>(cond v17
     (some 23)
     (some 0))=some r) ?_ ?_
 refine Qv h0 (fun w1_ h1 h0=>?_)
 refine Q0<|Qcj Z Z Z (Q5 Jj Z)<|Qcj Z Z Z (Q7 QO Z Z Z)<|Qcj Z Z Z (Q4 Z Z Z)<|Qck Z Z Z ?_
 refine Qt (d:=60) (c:=(a1.kind==12)) Z (fun c18=>?_) (fun c18=>?_)
 replace h1:=Qg c18 h1
 refine Qcj Z Z Z (Q5 Yw Z)<|Qcj Z Z Z (Q7 QO Z Z Z)<|Qcj Z Z Z (Q4 Z Z Z)<|Qck Z Z Z ?_
 refine Qt (d:=64) (c:=(decide (a1.index < 0))) Z (fun c19=>?_) (fun c19=>?_)
 replace h1:=Qg c19 h1
 refine Q6 Z Z<|Q6 Z Z<|Q6 Z Z<|Q6 Z Z<|Q6 Z Z<|Qcj Z Z Z (Qb Z Z)<|Qcj Z Z Z (Qb Z Z)<|Qcl Z Z Z<|Q2 ?_
 have e:=Qch h1;subst e
 exact Qa true (Qcg (Nat.zero_le _) Z Z Z Z Z) h0
 replace h1:=Qh c19 h1
 refine Qcj Z Z Z (Q5 Yw Z)<|Qcj Z Z Z (Q7 QO Z Z Z)<|Qcj Z Z Z (Q5 fo_107_2 Z)<|Qcj Z Z Z (Q7 QO Z Z Z)<|Qcj Z Z Z (Q4 Z Z Z)<|Qcj Z Z Z (Qd Z Z)<|Qcj Z Z Z (Qb Z Z)<|Qcl Z Z Z<|Q2 ?_
 have e:=Qch h1;subst e
 exact Qa (decide (a0.metas≤a1.index)) (Qcg (Nat.zero_le _) Z Z Z Z Z) h0
 replace h1:=Qh c18 h1
 refine Q6 Z Z<|Q6 Z Z<|Q6 Z Z<|Q6 Z Z<|Q6 Z Z<|Q6 Z Z<|Q6 Z Z<|Q6 Z Z<|Q6 Z Z<|Q6 Z Z<|Qcj Z Z Z (Qd Z Z)<|Qcl Z Z Z<|Q2 ?_
 have e:=Qch h1;subst e
 exact Qa false (Qcg (Nat.zero_le _) Z Z Z Z Z) h0
 intro v17 h0
 refine Q1 ?_
 refine Qi (b:=v17) Z (fun c20=>?_) (fun c20=>?_)
 replace h0:=Qg c20 h0
 refine Q3<|Q0<|Qcl Z Z Z<|Q2<|Q1<|Qu ?_
 have e:=Qch h0;subst e
 exact Qn (fun _ _ h=>h) Z (Qm Z .nil) (.cons (.one (.d _)) .nil)
 replace h0:=Qh c20 h0
 refine Ql<|QB<|Q1<|Q3<|Q0<|Qcl Z Z Z<|Q2<|Q1<|Qu ?_
 have e:=Qch h0;subst e
 exact Qn (fun _ _ h=>h) Z (Qm Z .nil) (.cons (.one (.d _)) .nil)
 replace h0:=Qh c3 h0
 refine Ql<|Q1<|Q3<|Q3<|Q0<|Qcj Z Z Z (Q5 YZ Z)<|Qcj Z Z Z (Q7 X4 Z Z Z)<|Qcj Z Z Z (QS (α:=Lvl) KD Z (.d _))<|Qck Z Z Z<|Q2<|Q1<|Qx ?_
 refine JE 0 (fun (o21:Unit)=>⟨[(2,.v (.one (Qcz a2))),(3,.v (.one (.ptr 0 0))),(4,.v (.one (.ptr 1 0)))],[(0,.cells 107 (Qd1 a0)),(1,.cells 25 (Qd1 a1))],[],2,72,[]⟩) (fun (o21:Unit)=>(Zs a1 a0 a2)=some r) ?_ ?_
 refine Qv h0 (fun o22 hl1 h0=>?_)
 refine JD (Ys a1 a0) (fun s1=>⟨[(2,.v (.one (Qcz a2))),(3,.v (.one (.ptr 0 0))),(4,.v (.one (.ptr 1 0))),(25,.v (.one (Qcy a1.levels))),(26,.v (.one (Qcz (a1.levels.length:Int)))),(27,.v (.one (Qcz s1)))],[(0,.cells 107 (Qd1 a0)),(1,.cells 25 (Qd1 a1))],[],2,72,[]⟩) 0 o22 (Qcg (Nat.zero_le _) Z Z Z Z Z) hl1 (fun s1 n1 oo1 h1 ho1=>?_)
 unfold Ys at h1
 refine Q3<|Q0<|Qcj Z Z Z (Q4 Z Z Z)<|Q2<|Q1<|Q3 ?_
 refine Qi (b:=(decide (s1 < (a1.levels.length:Int)))) Z (fun c23=>?_) (fun c23=>?_)
 replace h1:=Qg c23 h1
 refine Ql<|Q1<|Q3<|Qx<|Q3<|Q0 ?_
 refine Qv h1 (fun x24 hx24 h1=>?_)
 refine Qcj Z Z Z (J7 (α:=Lvl) KD Z (.d _) Z hx24)<|Qcj Z Z Z (Jc (x24:Lvl) Wj Z)<|Qz Z Z (Qcr Z) (QZ z_82 Z)<|Ye Z Z (Jx (x24:Lvl) Wj Z Z Z Z Z)<|Q2<|Q1<|Q3<|Q0<|Qcj Z Z Z (J6 (a0:Scp) Q3f Z Z)<|Qcj Z Z Z (J6 (x24:Lvl) Wj Z Z) ?_
 refine Qv h1 (fun x25 hx25 h1=>?_)
 refine Qz Z Z (Qcr Z) (QC (m111_ok a0 x24 x25 hx25) Z (.cons (.agg (.cons (.d _) (.cons (.d _) (.cons (.d _) (.cons (.d _) .nil))))) (.cons (.agg (.cons (.d _) (.cons (.d _) .nil))) .nil)))<|Qcl Z Z Z<|Q2<|Q1<|Q3<|Q0<|Qck Z Z Z<|Qcj Z Z Z (Q4 Z Z Z)<|Q2<|Q1 ?_
 refine Qi (b:=(x25 != 0)) Z (fun c26=>?_) (fun c26=>?_)
 replace h1:=Qg c26 h1
 refine Q3<|Q0<|Qck Z Z Z<|Qcl Z Z Z<|Q2<|Q1<|Qu ?_
 have e:=Qch h1;subst e
 have e_:_=_:=ho1
 subst e_
 try dsimp only [Sum.elim_inl,Sum.elim_inr] at h0
 have e:=Qch h0;subst e
 exact Qn (fun _ _ h=>h) Z (Qm Z .nil) (.cons (.one (.d _)) .nil)
 replace h1:=Qh c26 h1
 refine Ql<|QB<|Q1<|Q0<|Qcj Z Z Z (Q4 Z Z Z)<|Qck Z Z Z<|Q2 ?_
 have e:=Qch h1;subst e
 refine Jd (QE (s1+1)) (Qcg (Nat.zero_le _) Z Z Z Z Z) ho1
 replace h1:=Qh c23 h1
 refine JK<|QI<|QI ?_
 have e:=Qch h1;subst e
 have e_:_=_:=ho1
 subst e_
 exact JC () (Qcg (Nat.zero_le _) Z Z Z Z Z) h0
 intro o21 h0
 unfold Zs at h0
 refine J5<|Q1<|Q3<|Qx<|Q3 ?_
 refine QK (fun (v27:Bool)=>⟨[(3,.v (.one (.ptr 0 0))),(4,.v (.one (.ptr 1 0))),(38,.v (.one (Qd0 v27)))],[(0,.cells 107 (Qd1 a0)),(1,.cells 25 (Qd1 a1))],[],2,72,[]⟩) (fun (v27:Bool)=>(cond v27
     (some 24)
     (Option.bind (cond (a1.kind==12)
     (cond (decide (a1.index < 0))
     (some true)
     (some (decide (a0.metas≤a1.index))))
     (some false)) (fun (v29:Bool)=>cond v29
     (some 23)
     (some 0))))=some r) ?_ ?_
 refine Qv h0 (fun w1_ h1 h0=>?_)
 refine Q0<|Qcj Z Z Z (Q5 Jj Z)<|Qcj Z Z Z (Q7 QO Z Z Z)<|Qcj Z Z Z (Q4 Z Z Z)<|Qck Z Z Z ?_
 refine Qt (d:=42) (c:=(a1.kind==0)) Z (fun c28=>?_) (fun c28=>?_)
 replace h1:=Qg c28 h1
 refine Qcj Z Z Z (Q5 Yw Z)<|Qcj Z Z Z (Q7 QO Z Z Z)<|Qcj Z Z Z (Q4 Z Z Z)<|Qck Z Z Z ?_
 refine Qt (d:=46) (c:=(decide (a1.index < 0))) Z (fun c29=>?_) (fun c29=>?_)
 replace h1:=Qg c29 h1
 refine Q6 Z Z<|Q6 Z Z<|Q6 Z Z<|Q6 Z Z<|Q6 Z Z<|Q6 Z Z<|Q6 Z Z<|Qcj Z Z Z (Qb Z Z)<|Qcj Z Z Z (Qb Z Z)<|Qcl Z Z Z<|Q2 ?_
 have e:=Qch h1;subst e
 exact Qa true (Qcg (Nat.zero_le _) Z Z Z Z Z) h0
 replace h1:=Qh c29 h1
 refine Qcj Z Z Z (Q5 Yw Z)<|Qcj Z Z Z (Q7 QO Z Z Z)<|Qck Z Z Z<|Qcj Z Z Z (Q4 Z Z Z)<|Qcj Z Z Z (Q5 fo_107_0 Z)<|Qcj Z Z Z (Q7 QO Z Z Z)<|Qcj Z Z Z (Q4 Z Z Z)<|Qcj Z Z Z (Qd Z Z)<|Qcj Z Z Z (Qb Z Z)<|Qcl Z Z Z<|Q2 ?_
 have e:=Qch h1;subst e
 exact Qa (decide (a0.vars≤(QE (a1.index - a2)))) (Qcg (Nat.zero_le _) Z Z Z Z Z) h0
 replace h1:=Qh c28 h1
 refine Q6 Z Z<|Q6 Z Z<|Q6 Z Z<|Q6 Z Z<|Q6 Z Z<|Q6 Z Z<|Q6 Z Z<|Q6 Z Z<|Q6 Z Z<|Q6 Z Z<|Q6 Z Z<|Q6 Z Z<|Qcj Z Z Z (Qd Z Z)<|Qcl Z Z Z ?_
 refine Q2 ?_
 have e:=Qch h1;subst e
 exact Qa false (Qcg (Nat.zero_le _) Z Z Z Z Z) h0
 intro v27 h0
 refine Q1 ?_
 refine Qi (b:=v27) Z (fun c30=>?_) (fun c30=>?_)
 replace h0:=Qg c30 h0
 refine Q3<|Q0<|Qcl Z Z Z<|Q2<|Q1<|Qu ?_
 have e:=Qch h0;subst e
 exact Qn (fun _ _ h=>h) Z (Qm Z .nil) (.cons (.one (.d _)) .nil)
 replace h0:=Qh c30 h0
 refine Q3 ?_
 refine QK (fun (v31:Bool)=>⟨[(56,.v (.one (Qd0 v31)))],[(0,.cells 107 (Qd1 a0)),(1,.cells 25 (Qd1 a1))],[],2,72,[]⟩) (fun (v31:Bool)=>(cond v31
     (some 23)
     (some 0))=some r) ?_ ?_
 refine Qv h0 (fun w1_ h1 h0=>?_)
 refine Q0<|Qcj Z Z Z (Q5 Jj Z)<|Qcj Z Z Z (Q7 QO Z Z Z)<|Qcj Z Z Z (Q4 Z Z Z)<|Qck Z Z Z ?_
 refine Qt (d:=60) (c:=(a1.kind==12)) Z (fun c32=>?_) (fun c32=>?_)
 replace h1:=Qg c32 h1
 refine Qcj Z Z Z (Q5 Yw Z)<|Qcj Z Z Z (Q7 QO Z Z Z)<|Qcj Z Z Z (Q4 Z Z Z)<|Qck Z Z Z ?_
 refine Qt (d:=64) (c:=(decide (a1.index < 0))) Z (fun c33=>?_) (fun c33=>?_)
 replace h1:=Qg c33 h1
 refine Q6 Z Z<|Q6 Z Z<|Q6 Z Z<|Q6 Z Z<|Q6 Z Z<|Qcj Z Z Z (Qb Z Z)<|Qcj Z Z Z (Qb Z Z)<|Qcl Z Z Z<|Q2 ?_
 have e:=Qch h1;subst e
 exact Qa true (Qcg (Nat.zero_le _) Z Z Z Z Z) h0
 replace h1:=Qh c33 h1
 refine Qcj Z Z Z (Q5 Yw Z)<|Qcj Z Z Z (Q7 QO Z Z Z)<|Qcj Z Z Z (Q5 fo_107_2 Z)<|Qcj Z Z Z (Q7 QO Z Z Z)<|Qcj Z Z Z (Q4 Z Z Z)<|Qcj Z Z Z (Qd Z Z)<|Qcj Z Z Z (Qb Z Z)<|Qcl Z Z Z<|Q2 ?_
 have e:=Qch h1;subst e
 exact Qa (decide (a0.metas≤a1.index)) (Qcg (Nat.zero_le _) Z Z Z Z Z) h0
 replace h1:=Qh c32 h1
 refine Q6 Z Z<|Q6 Z Z<|Q6 Z Z<|Q6 Z Z<|Q6 Z Z<|Q6 Z Z<|Q6 Z Z<|Q6 Z Z<|Q6 Z Z<|Q6 Z Z<|Qcj Z Z Z (Qd Z Z)<|Qcl Z Z Z<|Q2 ?_
 have e:=Qch h1;subst e
 exact Qa false (Qcg (Nat.zero_le _) Z Z Z Z Z) h0
 intro v31 h0
 refine Q1 ?_
 refine Qi (b:=v31) Z (fun c34=>?_) (fun c34=>?_)
 replace h0:=Qg c34 h0
 refine Q3<|Q0<|Qcl Z Z Z<|Q2<|Q1<|Qu ?_
 have e:=Qch h0;subst e
 exact Qn (fun _ _ h=>h) Z (Qm Z .nil) (.cons (.one (.d _)) .nil)
 replace h0:=Qh c34 h0
 refine Ql<|QB<|Q1<|Q3<|Q0<|Qcl Z Z Z<|Q2<|Q1<|Qu ?_
 have e:=Qch h0;subst e
 exact Qn (fun _ _ h=>h) Z (Qm Z .nil) (.cons (.one (.d _)) .nil)
def XW (p0_:Tm×Int×Tm×Int×Scp×Int×Tm→Option ((Int×Int)⊕(Bool×Int))) (p1_:Tm) (p2_:Int) (p3_:Tm) (p4_:Int) (p5_:Scp) (p6_:Int×Int) (p7_:Tm):Option (LO (Int×Int) (Int⊕((Int×Int)⊕(Bool×Int)))) :=
 Option.bind (p0_ (p1_,p2_,p3_,p4_,p5_,p6_.2,p7_)) (Sum.elim (fun (b0_:Int×Int)=>some (.done (.inr (.inl (b0_.1,b0_.2))))) (fun (b1_:Bool×Int)=>cond (!b1_.1)
   (some (.done (.inr (.inr (false,b1_.2)))))
   (some (.next ((QE (p6_.1+1)),b1_.2)))))
def Zb (a0:Tm) (v9:Int) (a1:Int) (rc:Tm×Int×Tm×Int×Scp×Int×Tm→Option ((Int×Int)⊕(Bool×Int))) (a2:Tm) (a3:Int) (a4:Scp) (a6:Tm) (s1:Int×Int):Option (LO (Int×Int) (Int⊕((Int×Int)⊕(Bool×Int)))) :=
 cond (decide (s1.1 < (a0.kids.length:Int)))
   (Option.bind (J3 a0.kids s1.1) fun (x12:Tm) =>
 Option.bind (cond (s1.1==v9)
   (some (QE (a1+1)))
   (some a1)) (fun (v13:Int)=>XW rc x12 v13 a2 a3 a4 s1 a6))
   (some (.done (.inl s1.2)))
def Ke (p0_:Bool) (p1_:Tm) (p2_:Int) (p3_:Tm×Int×Tm×Int×Scp×Int×Tm→Option ((Int×Int)⊕(Bool×Int))) (p4_:Tm) (p5_:Int) (p6_:Scp) (p7_:Tm) (p8_:Int):Option ((Int×Int)⊕(Bool×Int)) :=
 Option.bind (cond p0_
   (Qc (cond (decide (0≤p1_.kind)) (Nat.blt p1_.kind.toNat 13) false)
 (Option.bind (J3 ([(-1),(-1),(-1),(-1),(-1),1,1,1,(-1),(-1),(-1),2,(-1)]:List Int) p1_.kind) fun (b0_:Int) =>
 some b0_))
   (some (-1))) (fun (b1_:Int)=>Option.bind (Qj (Zb p1_ b1_ p2_ p3_ p4_ p5_ p6_ p7_) Qk (0,(QE (p8_+1)))) (Sum.elim (fun (b2_:Int)=>some (.inr (true,b2_))) (fun o=>some o)))
noncomputable abbrev QQ :HB :=
 .loop .ready none [(5,.v (.one (.ptr 3 0))),(10,.v (.one (.ptr 4 0))),(11,.v (.one (.ptr 5 0))),(12,.v (.one (.ptr 6 0))),(26,.v (.one (.fn 106 [(7,0)])))] 45 #[27,28] Zt Yz 2
noncomputable abbrev Qq :HB :=
 .cells 156 [Qd0 true,Qd0 false,Qcz 0,Qcz 0,Qcz (-1),Qd0 false,Qd0 false,Qcz 0,Qcz 0,Qcz (-1),Qd0 false,Qd0 false,Qcz 1,Qcz 0,Qcz (-1),Qd0 false,Qd0 true,Qcz (-1),Qcz 0,Qcz (-1),Qd0 false,Qd0 false,Qcz 0,Qcz 2,Qcz (-1),Qd0 false,Qd0 false,Qcz 0,Qcz 2,Qcz 1,Qd0 false,Qd0 false,Qcz 0,Qcz 2,Qcz 1,Qd0 false,Qd0 false,Qcz 0,Qcz 2,Qcz 1,Qd0 false,Qd0 false,Qcz 0,Qcz 3,Qcz (-1),Qd0 false,Qd0 false,Qcz 0,Qcz 1,Qcz (-1),Qd0 false,Qd0 false,Qcz 0,Qcz 1,Qcz (-1),Qd0 false,Qd0 false,Qcz 0,Qcz 3,Qcz 2,Qd0 true,Qd0 false,Qcz 0,Qcz 0,Qcz (-1)]
noncomputable abbrev m108f3_h2 (p0_:Tm) (p1_:Int) (p2_:Scp) (p3_:Int) (p4_:Tm) (p5_:Tm):List (Nat×HB) :=
 [(0,.cells 153 [.yld 1]),(1,QQ),(2,.obj (.deferred (some []))),(3,.cells 25 (Qd1 p0_)),(4,.cells 28 [Qcz p1_]),(5,.cells 107 (Qd1 p2_)),(6,.cells 3 [Qcz p3_]),(7,.cells 25 (Qd1 p4_)),(8,Qq),(9,.cells 26 [.fn 108 [(0,0),(8,0),(9,0)]]),(10,.cells 25 (Qd1 p5_))]
noncomputable abbrev Kf :HB :=
 .loop .busy none [(5,.v (.one (.ptr 3 0))),(10,.v (.one (.ptr 4 0))),(11,.v (.one (.ptr 5 0))),(12,.v (.one (.ptr 6 0))),(26,.v (.one (.fn 106 [(7,0)])))] 45 #[27,28] Zt Yz 2
noncomputable abbrev XY (p0_:Tm) (p1_:Int) (p2_:Scp) (p3_:Int) (p4_:Tm) (p5_:Tm):List (Nat×HB) :=
 [(0,.cells 153 [.yld 1]),(1,Kf),(2,.obj (.deferred (some []))),(3,.cells 25 (Qd1 p0_)),(4,.cells 28 [Qcz p1_]),(5,.cells 107 (Qd1 p2_)),(6,.cells 3 [Qcz p3_]),(7,.cells 25 (Qd1 p4_)),(8,Qq),(9,.cells 26 [.fn 108 [(0,0),(8,0),(9,0)]]),(10,.cells 25 (Qd1 p5_)),(11,.cells 25 (Qd1 p5_))]
noncomputable abbrev m108f3_h5 (p0_:Tm) (p1_:Int) (p2_:Scp) (p3_:Int) (p4_:Tm) (p5_:Tm):List (Nat×HB) :=
 [(0,.cells 153 [.yld 1]),(1,QQ),(2,.obj (.deferred (some []))),(3,.cells 25 (Qd1 p0_)),(4,.cells 28 [Qcz p1_]),(5,.cells 107 (Qd1 p2_)),(6,.cells 3 [Qcz p3_]),(7,.cells 25 (Qd1 p4_)),(8,Qq),(9,.cells 26 [.fn 108 [(0,0),(8,0),(9,0)]]),(10,.cells 25 (Qd1 p5_)),(11,.cells 25 (Qd1 p5_))]
noncomputable abbrev XX (p0_:Tm) (p1_:Int) (p2_:Scp) (p3_:Int) (p4_:Tm) (p5_:Tm):List (Nat×HB) :=
 [(0,.cells 153 [.yld 1]),(1,Kf),(2,.obj (.deferred (some []))),(3,.cells 25 (Qd1 p0_)),(4,.cells 28 [Qcz p1_]),(5,.cells 107 (Qd1 p2_)),(6,.cells 3 [Qcz p3_]),(7,.cells 25 (Qd1 p4_)),(8,Qq),(9,.cells 26 [.fn 108 [(0,0),(8,0),(9,0)]]),(10,.cells 25 (Qd1 p5_))]
noncomputable abbrev m108f3_h7 (p0_:Tm) (p1_:Int) (p2_:Scp) (p3_:Int×Int) (p4_:Tm) (p5_:Tm) (p6_:Tm):List (Nat×HB) :=
 [(0,.cells 153 [.yld 1]),(1,QQ),(2,.obj (.deferred (some []))),(3,.cells 25 (Qd1 p0_)),(4,.cells 28 [Qcz p1_]),(5,.cells 107 (Qd1 p2_)),(6,.cells 3 [Qcz p3_.2]),(7,.cells 25 (Qd1 p4_)),(8,Qq),(9,.cells 26 [.fn 108 [(0,0),(8,0),(9,0)]]),(10,.cells 25 (Qd1 p5_)),(12,.cells 25 (Qd1 p6_))]
noncomputable abbrev Jf :HB :=
 .loop .done (some .ret) [(5,.v (.one (.ptr 3 0))),(10,.v (.one (.ptr 4 0))),(11,.v (.one (.ptr 5 0))),(12,.v (.one (.ptr 6 0))),(26,.v (.one (.fn 106 [(7,0)])))] 45 #[27,28] Zt Yz 2
noncomputable abbrev m108f3_h9 (p0_:Tm) (p1_:Int×Int) (p2_:Scp) (p3_:Tm):List (Nat×HB) :=
 [(0,.cells 153 [.yld 1]),(1,Jf),(2,.obj (.deferred (some []))),(3,.cells 25 (Qd1 p0_)),(4,.cells 28 [Qcz p1_.1]),(5,.cells 107 (Qd1 p2_)),(6,.cells 3 [Qcz p1_.2]),(7,.cells 25 (Qd1 p3_)),(8,Qq),(9,.cells 26 [.fn 108 [(0,0),(8,0),(9,0)]])]
noncomputable abbrev m108f3_h10 (p0_:Tm) (p1_:Int) (p2_:Scp) (p3_:Bool×Int) (p4_:Tm):List (Nat×HB) :=
 [(0,.cells 153 [.yld 1]),(1,QQ),(2,.obj (.deferred (some []))),(3,.cells 25 (Qd1 p0_)),(4,.cells 28 [Qcz p1_]),(5,.cells 107 (Qd1 p2_)),(6,.cells 3 [Qcz p3_.2]),(7,.cells 25 (Qd1 p4_)),(8,Qq),(9,.cells 26 [.fn 108 [(0,0),(8,0),(9,0)]])]
noncomputable abbrev ZI (p0_:Tm) (p1_:Int) (p2_:Scp) (p3_:Int) (p4_:Tm):List (Nat×HB) :=
 [(0,.cells 153 [.yld 1]),(1,QQ),(2,.obj (.deferred (some []))),(3,.cells 25 (Qd1 p0_)),(4,.cells 28 [Qcz p1_]),(5,.cells 107 (Qd1 p2_)),(6,.cells 3 [Qcz p3_]),(7,.cells 25 (Qd1 p4_)),(8,Qq),(9,.cells 26 [.fn 108 [(0,0),(8,0),(9,0)]])]
noncomputable abbrev m108f3_h12 (p0_:Tm) (p1_:Int) (p2_:Scp) (p3_:Int) (p4_:Tm):List (Nat×HB) :=
 [(0,.cells 153 [.yld 1]),(1,Jf),(2,.obj (.deferred (some []))),(3,.cells 25 (Qd1 p0_)),(4,.cells 28 [Qcz p1_]),(5,.cells 107 (Qd1 p2_)),(6,.cells 3 [Qcz p3_]),(7,.cells 25 (Qd1 p4_)),(8,Qq),(9,.cells 26 [.fn 108 [(0,0),(8,0),(9,0)]])]
def XV (rc:Tm×Int×Tm×Int×Scp×Int×Tm→Option ((Int×Int)⊕(Bool×Int))) (a0:Tm) (a1:Int) (a2:Tm) (a3:Int) (a4:Scp) (a5:Int) (a6:Tm):Option ((Int×Int)⊕(Bool×Int)) :=
 Option.bind (Option.bind (Q9y a4 a0 a1) fun (x6:Int) =>
 cond (x6 != 0)
   (some (.inr x6))
   (some (.inl ()))) (Sum.elim (fun (y1:Unit)=>Option.bind (cond (decide (0≤a0.kind))
   (some (decide (a0.kind < 13)))
   (some false)) (fun (v8:Bool)=>Ke v8 a0 a1 rc a2 a3 a4 a6 a5)) (fun (y2:Int)=>some (.inl (y2,a5))))
def Zu (rc:Tm×Int×Tm×Int×Scp×Int×Tm→Option ((Int×Int)⊕(Bool×Int))) (u:Tm×Int×Tm×Int×Scp×Int×Tm):Option ((Int×Int)⊕(Bool×Int)):=XV rc u.1 u.2.1 u.2.2.1 u.2.2.2.1 u.2.2.2.2.1 u.2.2.2.2.2.1 u.2.2.2.2.2.2
def Q5o (a0:Tm) (a1:Int) (a2:Tm) (a3:Int) (a4:Scp) (a5:Int) (a6:Tm):Option ((Int×Int)⊕(Bool×Int)):=QX Zu Qk (a0,a1,a2,a3,a4,a5,a6)
theorem m108f3s_ok (rc:Tm×Int×Tm×Int×Scp×Int×Tm→Option ((Int×Int)⊕(Bool×Int))) (H:∀ (a0:Tm) (a1:Int) (a2:Tm) (a3:Int) (a4:Scp) (a5:Int) (a6:Tm) (r:(Int×Int)⊕(Bool×Int)),rc (a0,a1,a2,a3,a4,a5,a6)=some r→CallE Tryz.prog 108 [.agg (Qd1 a0),.one (Qcz a1),.one (.ptr 0 0),.one (.ptr 8 0),.one (.ptr 9 0)] ⟨ZI a2 a3 a4 a5 a6,[],10⟩ ((Sum.elim (fun (r0:Int×Int)=>((.ret [.one (Qd0 false)]):EK)) (fun (r1:Bool×Int)=>((.ret [.one (Qd0 r1.1)]):EK))) r) ⟨((Sum.elim (fun (r0:Int×Int)=>(⟨[(7,.v (.one (Qd0 false)))],[(0,.cells 153 [.yld 1]),(1,Jf),(2,.obj (.deferred (some []))),(3,.cells 25 (Qd1 a2)),(4,.cells 28 [Qcz r0.1]),(5,.cells 107 (Qd1 a4)),(6,.cells 3 [Qcz r0.2]),(7,.cells 25 (Qd1 a6)),(8,Qq),(9,.cells 26 [.fn 108 [(0,0),(8,0),(9,0)]])],[],12,50,[]⟩:St)) (fun (r1:Bool×Int)=>(⟨[(7,.v (.one (Qd0 r1.1)))],[(0,.cells 153 [.yld 1]),(1,QQ),(2,.obj (.deferred (some []))),(3,.cells 25 (Qd1 a2)),(4,.cells 28 [Qcz a3]),(5,.cells 107 (Qd1 a4)),(6,.cells 3 [Qcz r1.2]),(7,.cells 25 (Qd1 a6)),(8,Qq),(9,.cells 26 [.fn 108 [(0,0),(8,0),(9,0)]])],[],12,50,[]⟩:St))) r).hp,((Sum.elim (fun (r0:Int×Int)=>(⟨[(7,.v (.one (Qd0 false)))],[(0,.cells 153 [.yld 1]),(1,Jf),(2,.obj (.deferred (some []))),(3,.cells 25 (Qd1 a2)),(4,.cells 28 [Qcz r0.1]),(5,.cells 107 (Qd1 a4)),(6,.cells 3 [Qcz r0.2]),(7,.cells 25 (Qd1 a6)),(8,Qq),(9,.cells 26 [.fn 108 [(0,0),(8,0),(9,0)]])],[],12,50,[]⟩:St)) (fun (r1:Bool×Int)=>(⟨[(7,.v (.one (Qd0 r1.1)))],[(0,.cells 153 [.yld 1]),(1,QQ),(2,.obj (.deferred (some []))),(3,.cells 25 (Qd1 a2)),(4,.cells 28 [Qcz a3]),(5,.cells 107 (Qd1 a4)),(6,.cells 3 [Qcz r1.2]),(7,.cells 25 (Qd1 a6)),(8,Qq),(9,.cells 26 [.fn 108 [(0,0),(8,0),(9,0)]])],[],12,50,[]⟩:St))) r).tk,((Sum.elim (fun (r0:Int×Int)=>(⟨[(7,.v (.one (Qd0 false)))],[(0,.cells 153 [.yld 1]),(1,Jf),(2,.obj (.deferred (some []))),(3,.cells 25 (Qd1 a2)),(4,.cells 28 [Qcz r0.1]),(5,.cells 107 (Qd1 a4)),(6,.cells 3 [Qcz r0.2]),(7,.cells 25 (Qd1 a6)),(8,Qq),(9,.cells 26 [.fn 108 [(0,0),(8,0),(9,0)]])],[],12,50,[]⟩:St)) (fun (r1:Bool×Int)=>(⟨[(7,.v (.one (Qd0 r1.1)))],[(0,.cells 153 [.yld 1]),(1,QQ),(2,.obj (.deferred (some []))),(3,.cells 25 (Qd1 a2)),(4,.cells 28 [Qcz a3]),(5,.cells 107 (Qd1 a4)),(6,.cells 3 [Qcz r1.2]),(7,.cells 25 (Qd1 a6)),(8,Qq),(9,.cells 26 [.fn 108 [(0,0),(8,0),(9,0)]])],[],12,50,[]⟩:St))) r).nx⟩) (a0:Tm) (a1:Int) (a2:Tm) (a3:Int) (a4:Scp) (a5:Int) (a6:Tm) (r:(Int×Int)⊕(Bool×Int)) (h0:XV rc a0 a1 a2 a3 a4 a5 a6=some r):CallE Tryz.prog 108 [.agg (Qd1 a0),.one (Qcz a1),.one (.ptr 0 0),.one (.ptr 8 0),.one (.ptr 9 0)] ⟨ZI a2 a3 a4 a5 a6,[],10⟩ ((Sum.elim (fun (r0:Int×Int)=>((.ret [.one (Qd0 false)]):EK)) (fun (r1:Bool×Int)=>((.ret [.one (Qd0 r1.1)]):EK))) r) ⟨((Sum.elim (fun (r0:Int×Int)=>(⟨[(7,.v (.one (Qd0 false)))],[(0,.cells 153 [.yld 1]),(1,Jf),(2,.obj (.deferred (some []))),(3,.cells 25 (Qd1 a2)),(4,.cells 28 [Qcz r0.1]),(5,.cells 107 (Qd1 a4)),(6,.cells 3 [Qcz r0.2]),(7,.cells 25 (Qd1 a6)),(8,Qq),(9,.cells 26 [.fn 108 [(0,0),(8,0),(9,0)]])],[],12,50,[]⟩:St)) (fun (r1:Bool×Int)=>(⟨[(7,.v (.one (Qd0 r1.1)))],[(0,.cells 153 [.yld 1]),(1,QQ),(2,.obj (.deferred (some []))),(3,.cells 25 (Qd1 a2)),(4,.cells 28 [Qcz a3]),(5,.cells 107 (Qd1 a4)),(6,.cells 3 [Qcz r1.2]),(7,.cells 25 (Qd1 a6)),(8,Qq),(9,.cells 26 [.fn 108 [(0,0),(8,0),(9,0)]])],[],12,50,[]⟩:St))) r).hp,((Sum.elim (fun (r0:Int×Int)=>(⟨[(7,.v (.one (Qd0 false)))],[(0,.cells 153 [.yld 1]),(1,Jf),(2,.obj (.deferred (some []))),(3,.cells 25 (Qd1 a2)),(4,.cells 28 [Qcz r0.1]),(5,.cells 107 (Qd1 a4)),(6,.cells 3 [Qcz r0.2]),(7,.cells 25 (Qd1 a6)),(8,Qq),(9,.cells 26 [.fn 108 [(0,0),(8,0),(9,0)]])],[],12,50,[]⟩:St)) (fun (r1:Bool×Int)=>(⟨[(7,.v (.one (Qd0 r1.1)))],[(0,.cells 153 [.yld 1]),(1,QQ),(2,.obj (.deferred (some []))),(3,.cells 25 (Qd1 a2)),(4,.cells 28 [Qcz a3]),(5,.cells 107 (Qd1 a4)),(6,.cells 3 [Qcz r1.2]),(7,.cells 25 (Qd1 a6)),(8,Qq),(9,.cells 26 [.fn 108 [(0,0),(8,0),(9,0)]])],[],12,50,[]⟩:St))) r).tk,((Sum.elim (fun (r0:Int×Int)=>(⟨[(7,.v (.one (Qd0 false)))],[(0,.cells 153 [.yld 1]),(1,Jf),(2,.obj (.deferred (some []))),(3,.cells 25 (Qd1 a2)),(4,.cells 28 [Qcz r0.1]),(5,.cells 107 (Qd1 a4)),(6,.cells 3 [Qcz r0.2]),(7,.cells 25 (Qd1 a6)),(8,Qq),(9,.cells 26 [.fn 108 [(0,0),(8,0),(9,0)]])],[],12,50,[]⟩:St)) (fun (r1:Bool×Int)=>(⟨[(7,.v (.one (Qd0 r1.1)))],[(0,.cells 153 [.yld 1]),(1,QQ),(2,.obj (.deferred (some []))),(3,.cells 25 (Qd1 a2)),(4,.cells 28 [Qcz a3]),(5,.cells 107 (Qd1 a4)),(6,.cells 3 [Qcz r1.2]),(7,.cells 25 (Qd1 a6)),(8,Qq),(9,.cells 26 [.fn 108 [(0,0),(8,0),(9,0)]])],[],12,50,[]⟩:St))) r).nx⟩:=by
 unfold XV at h0
 refine CallE.of_body r ((Sum.elim (fun (r0:Int×Int)=>(⟨[(7,.v (.one (Qd0 false)))],[(0,.cells 153 [.yld 1]),(1,Jf),(2,.obj (.deferred (some []))),(3,.cells 25 (Qd1 a2)),(4,.cells 28 [Qcz r0.1]),(5,.cells 107 (Qd1 a4)),(6,.cells 3 [Qcz r0.2]),(7,.cells 25 (Qd1 a6)),(8,Qq),(9,.cells 26 [.fn 108 [(0,0),(8,0),(9,0)]])],[],12,50,[]⟩:St)) (fun (r1:Bool×Int)=>(⟨[(7,.v (.one (Qd0 r1.1)))],[(0,.cells 153 [.yld 1]),(1,QQ),(2,.obj (.deferred (some []))),(3,.cells 25 (Qd1 a2)),(4,.cells 28 [Qcz a3]),(5,.cells 107 (Qd1 a4)),(6,.cells 3 [Qcz r1.2]),(7,.cells 25 (Qd1 a6)),(8,Qq),(9,.cells 26 [.fn 108 [(0,0),(8,0),(9,0)]])],[],12,50,[]⟩:St)))) ((Sum.elim (fun (r0:Int×Int)=>((.ret [.one (Qd0 false)]):EK)) (fun (r1:Bool×Int)=>((.ret [.one (Qd0 r1.1)]):EK)))) rfl rfl en_108 (Qcr rfl) (fun z_=>by cases z_ with
 | inl _=>exact rfl
 | inr _=>exact rfl) (fun z_=>by cases z_ with
 | inl _=>exact (okR (Qm rfl .nil))
 | inr _=>exact (okR (Qm rfl .nil))) (fun w0 M V0 Q hv0 hQ0=>?_)
 simp only [J4]
 refine Q3<|Q0<|Qz Z Z (Qcr Z) (Jh Z)<|Qcl Z Z Z<|Q2<|Q1<|Q3<|Q3<|Q0<|Qcj Z Z Z (Q7 ag_153 Z Z Z)<|Qck Z Z Z<|Qcj Z Z Z (J6 (a0:Tm) Zg Z Z) ?_
 refine Qv h0 (fun y3 h1 h0=>?_)
 have ha4:ExecOK Tryz.prog (some 1) Zt ⟨[(5,.v (.one (.ptr 3 0))),(10,.v (.one (.ptr 4 0))),(11,.v (.one (.ptr 5 0))),(12,.v (.one (.ptr 6 0))),(26,.v (.one (.fn 106 [(7,0)]))),(27,.v (.one (Qcz a1))),(28,.v (.agg (Qd1 a0)))],m108f3_h2 a2 a3 a4 a5 a6 a0,[],11,45,[]⟩ .normal ⟨[(10,.v (.one (.ptr 4 0))),(11,.v (.one (.ptr 5 0))),(12,.v (.one (.ptr 6 0))),(13,.v (.one (Qcz a1))),(14,.v (.one (.ptr 11 0)))],m108f3_h5 a2 a3 a4 a5 a6 a0,[],12,45,[]⟩:=by
  refine ExecOK.walk (fun w0 M V0 ro n Q hv1 hro1 hQn1=>?_)
  refine Q3<|Q0<|Qcl Z Z Z<|Q2<|Q1<|Q0<|Qz Z Z (Qcr Z) (QZ Q9q Z)<|Ye Z Z (Jx (a0:Tm) Zg Z Z Z Z Z)<|Q2 ?_
  exact Q8w hQn1 (Qcg (Nat.le_trans hv1 (Qcr Z)) Z Z Z Z Z)
 have hb5:ExecOK Tryz.prog (some 1) Yz ⟨[(10,.v (.one (.ptr 4 0))),(11,.v (.one (.ptr 5 0))),(12,.v (.one (.ptr 6 0))),(13,.v (.one (Qcz a1))),(14,.v (.one (.ptr 11 0)))],XY a2 a3 a4 a5 a6 a0,[],12,45,[]⟩ ((Sum.elim (fun (_:Unit)=>(.normal:Exit)) (fun (_:Int)=>(.ret:Exit))) y3) ((Sum.elim (fun (y1:Unit)=>(⟨[],[(0,.cells 153 [.yld 1]),(1,Kf),(2,.obj (.deferred (some []))),(3,.cells 25 (Qd1 a2)),(4,.cells 28 [Qcz a3]),(5,.cells 107 (Qd1 a4)),(6,.cells 3 [Qcz (QE (a5+1))]),(7,.cells 25 (Qd1 a6)),(8,Qq),(9,.cells 26 [.fn 108 [(0,0),(8,0),(9,0)]]),(10,.cells 25 (Qd1 a0))],[],12,45,[]⟩:St)) (fun (y2:Int)=>(⟨[],XX a2 y2 a4 a5 a6 a0,[],12,45,[]⟩:St))) y3):=by
  refine ExecOK.walk (fun w0 M V0 ro n Q hv1 hro1 hQn1=>?_)
  refine Qx<|Q3<|Q3<|Q0<|Qcj Z Z Z (J6 (a4:Scp) Q3f Z Z)<|Qcj Z Z Z (J6 (a0:Tm) Zg Z Z)<|Qck Z Z Z ?_
  refine Qv h1 (fun x6 hx6 h1=>?_)
  refine Qz Z Z (Qcr Z) (QC (m59_ok a4 a0 a1 x6 hx6) Z (.cons (.agg (.cons (.d _) (.cons (.d _) (.cons (.d _) (.cons (.d _) .nil))))) (.cons (.agg (.cons (.d _) (.cons (.d _) (.cons (.d _) (.cons (.d _) (.cons (.d _) .nil)))))) (.cons (.one (.d _)) .nil))))<|Qcl Z Z Z<|Q2<|Q1<|Q3<|Q0<|Qck Z Z Z<|Qcj Z Z Z (Q4 Z Z Z)<|Q2<|Q1 ?_
  refine Qi (b:=(x6 != 0)) Z (fun c7=>?_) (fun c7=>?_)
  replace h1:=Qg c7 h1
  refine Q3<|Q0<|Qck Z Z Z<|Ye Z Z (JS Da Z Z Z Z (Qcr Z) Z)<|Q2<|Q1<|Qu ?_
  have e:=Qch h1;subst e
  exact Q8w (e:=.ret) (st':=⟨[],XX a2 x6 a4 a5 a6 a0,[],12,45,[]⟩) hQn1 (Qcg (Nat.le_trans hv1 (Qcr Z)) Z Z Z Z Z)
  replace h1:=Qh c7 h1
  refine Ql<|Q1<|Q0<|Qcj Z Z Z (Q7 QO Z Z Z)<|Qcj Z Z Z (Q4 Z Z Z)<|Ye Z Z (JS QO Z Z Z Z (Qcr Z) Z)<|Q2<|QB ?_
  have e:=Qch h1;subst e
  exact Q8w (e:=.normal) (st':=⟨[],[(0,.cells 153 [.yld 1]),(1,Kf),(2,.obj (.deferred (some []))),(3,.cells 25 (Qd1 a2)),(4,.cells 28 [Qcz a3]),(5,.cells 107 (Qd1 a4)),(6,.cells 3 [Qcz (QE (a5+1))]),(7,.cells 25 (Qd1 a6)),(8,Qq),(9,.cells 26 [.fn 108 [(0,0),(8,0),(9,0)]]),(10,.cells 25 (Qd1 a0))],[],12,45,[]⟩) hQn1 (Qcg (Nat.le_trans hv1 (Qcr Z)) Z Z Z Z Z)
 refine sumK (C:=fun q_=>ExecOK Tryz.prog (some 1) Yz ⟨[(10,.v (.one (.ptr 4 0))),(11,.v (.one (.ptr 5 0))),(12,.v (.one (.ptr 6 0))),(13,.v (.one (Qcz a1))),(14,.v (.one (.ptr 11 0)))],XY a2 a3 a4 a5 a6 a0,[],12,45,[]⟩ ((Sum.elim (fun (_:Unit)=>(.normal:Exit)) (fun (_:Int)=>(.ret:Exit))) q_) ((Sum.elim (fun (y1:Unit)=>(⟨[],[(0,.cells 153 [.yld 1]),(1,Kf),(2,.obj (.deferred (some []))),(3,.cells 25 (Qd1 a2)),(4,.cells 28 [Qcz a3]),(5,.cells 107 (Qd1 a4)),(6,.cells 3 [Qcz (QE (a5+1))]),(7,.cells 25 (Qd1 a6)),(8,Qq),(9,.cells 26 [.fn 108 [(0,0),(8,0),(9,0)]]),(10,.cells 25 (Qd1 a0))],[],12,45,[]⟩:St)) (fun (y2:Int)=>(⟨[],XX a2 y2 a4 a5 a6 a0,[],12,45,[]⟩:St))) q_)) hb5 h0 (fun y1 hb5 h0=>?_) (fun y2 hb5 h0=>?_)
 replace hb5:ExecOK Tryz.prog (some 1) Yz ⟨[(10,.v (.one (.ptr 4 0))),(11,.v (.one (.ptr 5 0))),(12,.v (.one (.ptr 6 0))),(13,.v (.one (Qcz a1))),(14,.v (.one (.ptr 11 0)))],XY a2 a3 a4 a5 a6 a0,[],12,45,[]⟩ .normal ⟨[],[(0,.cells 153 [.yld 1]),(1,Kf),(2,.obj (.deferred (some []))),(3,.cells 25 (Qd1 a2)),(4,.cells 28 [Qcz a3]),(5,.cells 107 (Qd1 a4)),(6,.cells 3 [Qcz (QE (a5+1))]),(7,.cells 25 (Qd1 a6)),(8,Qq),(9,.cells 26 [.fn 108 [(0,0),(8,0),(9,0)]]),(10,.cells 25 (Qd1 a0))],[],12,45,[]⟩:=hb5
 refine Qz Z Z (Qcr Z) (OpOK.yield (jump:=none) Z Z Z Z Z (KX ha4 (fun E hv=>(Qcg (Nat.le_trans hv (Qcr Z)) Z Z Z Z Z))) Z (KX hb5 (fun E hv=>(Qcg (Nat.le_trans hv (Qcr Z)) Z Z Z Z Z))) Z Z) ?_
 refine Qcj Z Z Z (Z6 Z)<|Q2<|Q1 ?_
 refine Qi Z (fun h=>nomatch h) (fun _=>?_)
 refine Ql<|Q1<|Q3<|Q0<|Qcl Z Z Z<|Q2<|Q1<|Q3<|Q3 ?_
 refine QK (fun (v8:Bool)=>⟨[(1,.v (.one (Qcz a1))),(3,.v (.one (.ptr 8 0))),(4,.v (.one (.ptr 9 0))),(5,.v (.one (.ptr 10 0))),(8,.v (.one (Qcz (-1)))),(24,.v (.one (Qd0 v8)))],[(0,.cells 153 [.yld 1]),(1,QQ),(2,.obj (.deferred (some []))),(3,.cells 25 (Qd1 a2)),(4,.cells 28 [Qcz a3]),(5,.cells 107 (Qd1 a4)),(6,.cells 3 [Qcz (QE (a5+1))]),(7,.cells 25 (Qd1 a6)),(8,Qq),(9,.cells 26 [.fn 108 [(0,0),(8,0),(9,0)]]),(10,.cells 25 (Qd1 a0))],[],12,50,[]⟩) (fun (v8:Bool)=>(Ke v8 a0 a1 rc a2 a3 a4 a6 a5)=some r) ?_ ?_
 refine Qv h0 (fun w1_ h1 h0=>?_)
 refine Q0<|Qcj Z Z Z (Q5 Jj Z)<|Qcj Z Z Z (Q7 QO Z Z Z)<|Qcj Z Z Z (Q4 Z Z Z)<|Qck Z Z Z ?_
 refine Qt (d:=20) (c:=(decide (0≤a0.kind))) Z (fun c9=>?_) (fun c9=>?_)
 replace h1:=Qg c9 h1
 refine Qcj Z Z Z (Q5 Jj Z)<|Qcj Z Z Z (Q7 QO Z Z Z)<|Qcj Z Z Z (Q4 Z Z Z)<|Qcj Z Z Z (Qb Z Z)<|Q2 ?_
 have e:=Qch h1;subst e
 exact Qa (decide (a0.kind < 13)) (Qcg (Nat.le_trans hv0 (Qcr Z)) Z Z Z Z Z) h0
 replace h1:=Qh c9 h1
 refine Q6 Z Z<|Q6 Z Z<|Q6 Z Z<|Qcj Z Z Z (Qd Z Z)<|Q2 ?_
 have e:=Qch h1;subst e
 exact Qa false (Qcg (Nat.le_trans hv0 (Qcr Z)) Z Z Z Z Z) h0
 intro v8 h0
 unfold Ke at h0
 refine Q1 ?_
 refine QK (fun (v10:Int)=>⟨[(1,.v (.one (Qcz a1))),(4,.v (.one (.ptr 9 0))),(5,.v (.one (.ptr 10 0))),(8,.v (.one (Qcz v10)))],[(0,.cells 153 [.yld 1]),(1,QQ),(2,.obj (.deferred (some []))),(3,.cells 25 (Qd1 a2)),(4,.cells 28 [Qcz a3]),(5,.cells 107 (Qd1 a4)),(6,.cells 3 [Qcz (QE (a5+1))]),(7,.cells 25 (Qd1 a6)),(8,Qq),(9,.cells 26 [.fn 108 [(0,0),(8,0),(9,0)]]),(10,.cells 25 (Qd1 a0))],[],12,50,[]⟩) (fun (v10:Int)=>(Option.bind (Qj (Zb a0 v10 a1 rc a2 a3 a4 a6) Qk (0,(QE (a5+1)))) (Sum.elim (fun (o11:Int)=>some (.inr (true,o11))) (fun o=>some o)))=some r) ?_ ?_
 refine Qv h0 (fun w1_ h1 h0=>?_)
 refine Qi (b:=v8) Z (fun c11=>?_) (fun c11=>?_)
 replace h1:=Qg c11 h1
 refine Q0<|Qcj Z Z Z (Q5 Jj Z)<|Qcj Z Z Z (Q7 QO Z Z Z) ?_
 refine guardK h1 (fun g12 h1=>?_)
 refine Qcj Z Z Z (RO.indexA arr_156 Z Z g12)<|Qcj Z Z Z (Q5 fo_155_4 Z) ?_
 refine Qv h1 (fun x13 hx13 h1=>?_)
 refine Qcj Z Z Z (RO.loadCol (m:=a0.kind) (sz:=5) (f:=4) (col:=([(-1),(-1),(-1),(-1),(-1),1,1,1,(-1),(-1),(-1),2,(-1)]:List Int)) QO Z Z Z hx13)<|Qcl Z Z Z<|Q2 ?_
 have e:=Qch h1;subst e
 exact Qa x13 (Qcg (Nat.le_trans hv0 (Qcr Z)) Z Z Z Z Z) h0
 replace h1:=Qh c11 h1
 refine Ql ?_
 have e:=Qch h1;subst e
 exact Qa (-1) (Qcg (Nat.le_trans hv0 (Qcr Z)) Z Z Z Z Z) h0
 intro v10 h0
 refine Q1<|Q3<|Q3<|Q0<|Qcj Z Z Z (Q5 Y2 Z)<|Qcj Z Z Z (Q7 ZW Z Z Z)<|Qcj Z Z Z (QS (α:=Tm) Zl Z (.d _))<|Qck Z Z Z<|Q2<|Q1<|Qx ?_
 refine JE 0 (fun (o14:Int)=>⟨[],[(0,.cells 153 [.yld 1]),(1,QQ),(2,.obj (.deferred (some []))),(3,.cells 25 (Qd1 a2)),(4,.cells 28 [Qcz a3]),(5,.cells 107 (Qd1 a4)),(6,.cells 3 [Qcz o14]),(7,.cells 25 (Qd1 a6)),(8,Qq),(9,.cells 26 [.fn 108 [(0,0),(8,0),(9,0)]]),(10,.cells 25 (Qd1 a0))],[],12,50,[]⟩) (fun (o14:Int)=>(some (.inr (true,o14)))=some r) ?_ ?_
 refine Qv h0 (fun o15 hl1 h0=>?_)
 refine JD (Zb a0 v10 a1 rc a2 a3 a4 a6) (fun s1=>⟨[(1,.v (.one (Qcz a1))),(4,.v (.one (.ptr 9 0))),(8,.v (.one (Qcz v10))),(31,.v (.one (Qcy a0.kids))),(32,.v (.one (Qcz (a0.kids.length:Int)))),(33,.v (.one (Qcz s1.1)))],[(0,.cells 153 [.yld 1]),(1,QQ),(2,.obj (.deferred (some []))),(3,.cells 25 (Qd1 a2)),(4,.cells 28 [Qcz a3]),(5,.cells 107 (Qd1 a4)),(6,.cells 3 [Qcz s1.2]),(7,.cells 25 (Qd1 a6)),(8,Qq),(9,.cells 26 [.fn 108 [(0,0),(8,0),(9,0)]]),(10,.cells 25 (Qd1 a0))],[],12,50,[]⟩) (0,(QE (a5+1))) o15 (Qcg (Nat.le_trans hv0 (Qcr Z)) Z Z Z Z Z) hl1 (fun s1 n1 oo1 h1 ho1=>?_)
 unfold Zb at h1
 refine Q3<|Q0<|Qcj Z Z Z (Q4 Z Z Z)<|Q2<|Q1<|Q3 ?_
 refine Qi (b:=(decide (s1.1 < (a0.kids.length:Int)))) Z (fun c16=>?_) (fun c16=>?_)
 replace h1:=Qg c16 h1
 refine Ql<|Q1<|Q3<|Qx<|Q3<|Q0<|Qck Z Z Z ?_
 refine Qv h1 (fun x17 hx17 h1=>?_)
 refine Qcj Z Z Z (J7 (α:=Tm) Zl Z (.d _) Z hx17)<|Qcj Z Z Z (Jc (x17:Tm) Zg Z)<|Qz Z Z (Qcr Z) (QZ Q9q Z)<|Qcl Z Z Z<|Ye Z Z (Jx (x17:Tm) Zg Z Z Z Z Z)<|Q2<|Q1<|Q3<|Q0<|Qck Z Z Z<|Qcl Z Z Z<|Q2<|Q1<|Q3 ?_
 refine Q3<|Q0<|Qck Z Z Z<|Qck Z Z Z<|Qcj Z Z Z (Q4 Z Z Z)<|Q2<|Q1 ?_
 refine QK (fun (v18:Int)=>⟨[(1,.v (.one (Qcz a1))),(4,.v (.one (.ptr 9 0))),(8,.v (.one (Qcz v10))),(10,.v (.one (.ptr 12 0))),(11,.v (.one (Qcz v18))),(31,.v (.one (Qcy a0.kids))),(32,.v (.one (Qcz (a0.kids.length:Int)))),(33,.v (.one (Qcz s1.1)))],m108f3_h7 a2 a3 a4 s1 a6 a0 x17,[],13,50,[]⟩) (fun (v18:Int)=>(XW rc x17 v18 a2 a3 a4 s1 a6)=some oo1) ?_ ?_
 refine Qv h1 (fun w2_ h2 h1=>?_)
 refine Qi (b:=(s1.1==v10)) Z (fun c19=>?_) (fun c19=>?_)
 replace h2:=Qg c19 h2
 refine Q0<|Qck Z Z Z<|Qcj Z Z Z (Q4 Z Z Z)<|Qcl Z Z Z<|Q2 ?_
 have e:=Qch h2;subst e
 exact Qa (QE (a1+1)) (Qcg (Nat.le_trans hv0 (Qcr Z)) Z Z Z Z Z) h1
 replace h2:=Qh c19 h2
 refine Ql ?_
 have e:=Qch h2;subst e
 exact Qa a1 (Qcg (Nat.le_trans hv0 (Qcr Z)) Z Z Z Z Z) h1
 intro v18 h1
 unfold XW at h1
 refine Q1<|Q3<|Q0<|Qcj Z Z Z (Q7 Q8v Z Z Z)<|Qcj Z Z Z (J6 (x17:Tm) Zg Z Z)<|Qck Z Z Z ?_
 refine Qv h1 (fun x20 hx20 h1=>?_)
 refine sumE id hx20 h1 (fun x21 hx21 h1=>?_) (fun x22 hx22 h1=>?_)
 refine Qz Z Z (Qcr Z) (Z8 (hp1':=[(0,.cells 153 [.yld 1]),(1,.loop .done (some .ret) [(5,.v (.one (.ptr 3 0))),(10,.v (.one (.ptr 4 0))),(11,.v (.one (.ptr 5 0))),(12,.v (.one (.ptr 6 0))),(26,.v (.one (.fn 106 [(7,0)])))] 45 #[27,28] Zt Yz 2),(2,.obj (.deferred (some []))),(3,.cells 25 (Qd1 a2)),(4,.cells 28 [Qcz x21.1]),(5,.cells 107 (Qd1 a4)),(6,.cells 3 [Qcz x21.2]),(7,.cells 25 (Qd1 a6)),(8,.cells 156 [Qd0 true,Qd0 false,Qcz 0,Qcz 0,Qcz (-1),Qd0 false,Qd0 false,Qcz 0,Qcz 0,Qcz (-1),Qd0 false,Qd0 false,Qcz 1,Qcz 0,Qcz (-1),Qd0 false,Qd0 true,Qcz (-1),Qcz 0,Qcz (-1),Qd0 false,Qd0 false,Qcz 0,Qcz 2,Qcz (-1),Qd0 false,Qd0 false,Qcz 0,Qcz 2,Qcz 1,Qd0 false,Qd0 false,Qcz 0,Qcz 2,Qcz 1,Qd0 false,Qd0 false,Qcz 0,Qcz 2,Qcz 1,Qd0 false,Qd0 false,Qcz 0,Qcz 3,Qcz (-1),Qd0 false,Qd0 false,Qcz 0,Qcz 1,Qcz (-1),Qd0 false,Qd0 false,Qcz 0,Qcz 1,Qcz (-1),Qd0 false,Qd0 false,Qcz 0,Qcz 3,Qcz 2,Qd0 true,Qd0 false,Qcz 0,Qcz 0,Qcz (-1)]),(9,.cells 26 [.fn 108 [(0,0),(8,0),(9,0)]])]) (tk1':=[]) (hpF:=[(10,.cells 25 (Qd1 a0)),(12,.cells 25 (Qd1 x17))]) (tkF:=[]) (res2:=Qw [.one (Qd0 false)]) (nx2:=15) [0,1,2,3,4,5,6,7,8,9] Z Z (CallE.m (H x17 v18 a2 a3 a4 s1.2 a6 (.inl x21) hx21)) Z Z (Qcn Z Z (Qcn Z Z (Qcn Z Z (Qcn Z Z (Qcn Z Z (Qcn Z Z (Qcn Z Z (Qcn Z Z (Qcn Z Z (Qcn Z Z Qcm)))))))))) Z Z (Qcx Z (Qcx Z (Qcx Z (Qcx Z (Qcx Z (Qcx Z (Qcx Z (Qcx Z (Qcx Z (Qcx Z Qcw)))))))))) Qcu (hA Z) Qcs Z Z Z Z Z (Qd5 Z) Z Z Z Z)<|Qcj Z Z Z (Z6 Z)<|Q2<|Q1 ?_
 refine Qi Z (fun _=>?_) (fun h=>nomatch h)
 refine Q3<|Q0<|Qcl Z Z Z<|Q2<|Q1<|Qu ?_
 have e:=Qch h1;subst e
 have e_:_=_:=ho1
 subst e_
 try dsimp only [Sum.elim_inl,Sum.elim_inr] at h0
 have e:=Qch h0;subst e
 exact hQ0 _ _ Qbt Z (show StLe _ _ ⟨[(7,.v (.one (Qd0 false)))],m108f3_h9 a2 x21 a4 a6,[],12,50,[]⟩ from (Qcg (Nat.le_trans hv0 (Qcr Z)) Z Z Z Z Z))
 refine Qz Z Z (Qcr Z) (Z8 (hp1':=[(0,.cells 153 [.yld 1]),(1,.loop .ready none [(5,.v (.one (.ptr 3 0))),(10,.v (.one (.ptr 4 0))),(11,.v (.one (.ptr 5 0))),(12,.v (.one (.ptr 6 0))),(26,.v (.one (.fn 106 [(7,0)])))] 45 #[27,28] Zt Yz 2),(2,.obj (.deferred (some []))),(3,.cells 25 (Qd1 a2)),(4,.cells 28 [Qcz a3]),(5,.cells 107 (Qd1 a4)),(6,.cells 3 [Qcz x22.2]),(7,.cells 25 (Qd1 a6)),(8,.cells 156 [Qd0 true,Qd0 false,Qcz 0,Qcz 0,Qcz (-1),Qd0 false,Qd0 false,Qcz 0,Qcz 0,Qcz (-1),Qd0 false,Qd0 false,Qcz 1,Qcz 0,Qcz (-1),Qd0 false,Qd0 true,Qcz (-1),Qcz 0,Qcz (-1),Qd0 false,Qd0 false,Qcz 0,Qcz 2,Qcz (-1),Qd0 false,Qd0 false,Qcz 0,Qcz 2,Qcz 1,Qd0 false,Qd0 false,Qcz 0,Qcz 2,Qcz 1,Qd0 false,Qd0 false,Qcz 0,Qcz 2,Qcz 1,Qd0 false,Qd0 false,Qcz 0,Qcz 3,Qcz (-1),Qd0 false,Qd0 false,Qcz 0,Qcz 1,Qcz (-1),Qd0 false,Qd0 false,Qcz 0,Qcz 1,Qcz (-1),Qd0 false,Qd0 false,Qcz 0,Qcz 3,Qcz 2,Qd0 true,Qd0 false,Qcz 0,Qcz 0,Qcz (-1)]),(9,.cells 26 [.fn 108 [(0,0),(8,0),(9,0)]])]) (tk1':=[]) (hpF:=[(10,.cells 25 (Qd1 a0)),(12,.cells 25 (Qd1 x17))]) (tkF:=[]) (res2:=Qw [.one (Qd0 x22.1)]) (nx2:=15) [0,1,2,3,4,5,6,7,8,9] Z Z (CallE.m (H x17 v18 a2 a3 a4 s1.2 a6 (.inr x22) hx22)) Z Z (Qcn Z Z (Qcn Z Z (Qcn Z Z (Qcn Z Z (Qcn Z Z (Qcn Z Z (Qcn Z Z (Qcn Z Z (Qcn Z Z (Qcn Z Z Qcm)))))))))) Z Z (Qcx Z (Qcx Z (Qcx Z (Qcx Z (Qcx Z (Qcx Z (Qcx Z (Qcx Z (Qcx Z (Qcx Z Qcw)))))))))) Qcu (hA Z) Qcs Z Z Z Z Z (Qd5 Z) Z Z Z Z)<|Qcj Z Z Z (Z6 Z)<|Q2<|Q1 ?_
 refine Qi (b:=(!x22.1)) Z (fun c23=>?_) (fun c23=>?_)
 replace h1:=Qg c23 h1
 refine Q3<|Q0<|Qcl Z Z Z<|Q2<|Q1<|Qu ?_
 have e:=Qch h1;subst e
 have e_:_=_:=ho1
 subst e_
 try dsimp only [Sum.elim_inl,Sum.elim_inr] at h0
 have e:=Qch h0;subst e
 exact hQ0 _ _ Qbt Z (show StLe _ _ ⟨[(7,.v (.one (Qd0 false)))],m108f3_h10 a2 a3 a4 x22 a6,[],12,50,[]⟩ from (Qcg (Nat.le_trans hv0 (Qcr Z)) Z Z Z Z Z))
 replace h1:=Qh c23 h1
 refine Ql<|QB<|Q1<|Q0<|Qcj Z Z Z (Q4 Z Z Z)<|Qck Z Z Z<|Q2 ?_
 have e:=Qch h1;subst e
 refine Jd ((QE (s1.1+1)),x22.2) (Qcg (Nat.le_trans hv0 (Qcr Z)) Z Z Z Z Z) ho1
 replace h1:=Qh c16 h1
 refine JK<|QI<|QI ?_
 have e:=Qch h1;subst e
 have e_:_=_:=ho1
 subst e_
 exact JC s1.2 (Qcg (Nat.le_trans hv0 (Qcr Z)) Z Z Z Z Z) h0
 intro o14 h0
 refine J5<|Q1<|Q3<|Q0<|Qcl Z Z Z<|Q2<|Q1<|Qu ?_
 have e:=Qch h0;subst e
 exact hQ0 _ _ Qbt Z (show StLe _ _ ⟨[(7,.v (.one (Qd0 true)))],ZI a2 a3 a4 o14 a6,[],12,50,[]⟩ from (Qcg (Nat.le_trans hv0 (Qcr Z)) Z Z Z Z Z))
 replace hb5:ExecOK Tryz.prog (some 1) Yz ⟨[(10,.v (.one (.ptr 4 0))),(11,.v (.one (.ptr 5 0))),(12,.v (.one (.ptr 6 0))),(13,.v (.one (Qcz a1))),(14,.v (.one (.ptr 11 0)))],XY a2 a3 a4 a5 a6 a0,[],12,45,[]⟩ .ret ⟨[],XX a2 y2 a4 a5 a6 a0,[],12,45,[]⟩:=hb5
 refine Qz Z Z (Qcr Z) (OpOK.yield (jump:=(some .ret)) Z Z Z Z Z (KX ha4 (fun E hv=>(Qcg (Nat.le_trans hv (Qcr Z)) Z Z Z Z Z))) Z (KX hb5 (fun E hv=>(Qcg (Nat.le_trans hv (Qcr Z)) Z Z Z Z Z))) Z Z) ?_
 refine Qcj Z Z Z (Z6 Z)<|Q2<|Q1 ?_
 refine Qi Z (fun _=>?_) (fun h=>nomatch h)
 refine Q3<|Q0<|Qcl Z Z Z<|Q2<|Q1<|Qu ?_
 have e:=Qch h0;subst e
 exact hQ0 _ _ Qbt Z (show StLe _ _ ⟨[(7,.v (.one (Qd0 false)))],m108f3_h12 a2 y2 a4 a5 a6,[],12,50,[]⟩ from (Qcg (Nat.le_trans hv0 (Qcr Z)) Z Z Z Z Z))
theorem m108f3_all (n:Nat) (u:Tm×Int×Tm×Int×Scp×Int×Tm) (r:(Int×Int)⊕(Bool×Int)) (h0:QX Zu n u=some r):CallE Tryz.prog 108 [.agg (Qd1 u.1),.one (Qcz u.2.1),.one (.ptr 0 0),.one (.ptr 8 0),.one (.ptr 9 0)] ⟨ZI u.2.2.1 u.2.2.2.1 u.2.2.2.2.1 u.2.2.2.2.2.1 u.2.2.2.2.2.2,[],10⟩ ((Sum.elim (fun (r0:Int×Int)=>((.ret [.one (Qd0 false)]):EK)) (fun (r1:Bool×Int)=>((.ret [.one (Qd0 r1.1)]):EK))) r) ⟨((Sum.elim (fun (r0:Int×Int)=>(⟨[(7,.v (.one (Qd0 false)))],[(0,.cells 153 [.yld 1]),(1,Jf),(2,.obj (.deferred (some []))),(3,.cells 25 (Qd1 u.2.2.1)),(4,.cells 28 [Qcz r0.1]),(5,.cells 107 (Qd1 u.2.2.2.2.1)),(6,.cells 3 [Qcz r0.2]),(7,.cells 25 (Qd1 u.2.2.2.2.2.2)),(8,Qq),(9,.cells 26 [.fn 108 [(0,0),(8,0),(9,0)]])],[],12,50,[]⟩:St)) (fun (r1:Bool×Int)=>(⟨[(7,.v (.one (Qd0 r1.1)))],[(0,.cells 153 [.yld 1]),(1,QQ),(2,.obj (.deferred (some []))),(3,.cells 25 (Qd1 u.2.2.1)),(4,.cells 28 [Qcz u.2.2.2.1]),(5,.cells 107 (Qd1 u.2.2.2.2.1)),(6,.cells 3 [Qcz r1.2]),(7,.cells 25 (Qd1 u.2.2.2.2.2.2)),(8,Qq),(9,.cells 26 [.fn 108 [(0,0),(8,0),(9,0)]])],[],12,50,[]⟩:St))) r).hp,((Sum.elim (fun (r0:Int×Int)=>(⟨[(7,.v (.one (Qd0 false)))],[(0,.cells 153 [.yld 1]),(1,Jf),(2,.obj (.deferred (some []))),(3,.cells 25 (Qd1 u.2.2.1)),(4,.cells 28 [Qcz r0.1]),(5,.cells 107 (Qd1 u.2.2.2.2.1)),(6,.cells 3 [Qcz r0.2]),(7,.cells 25 (Qd1 u.2.2.2.2.2.2)),(8,Qq),(9,.cells 26 [.fn 108 [(0,0),(8,0),(9,0)]])],[],12,50,[]⟩:St)) (fun (r1:Bool×Int)=>(⟨[(7,.v (.one (Qd0 r1.1)))],[(0,.cells 153 [.yld 1]),(1,QQ),(2,.obj (.deferred (some []))),(3,.cells 25 (Qd1 u.2.2.1)),(4,.cells 28 [Qcz u.2.2.2.1]),(5,.cells 107 (Qd1 u.2.2.2.2.1)),(6,.cells 3 [Qcz r1.2]),(7,.cells 25 (Qd1 u.2.2.2.2.2.2)),(8,Qq),(9,.cells 26 [.fn 108 [(0,0),(8,0),(9,0)]])],[],12,50,[]⟩:St))) r).tk,((Sum.elim (fun (r0:Int×Int)=>(⟨[(7,.v (.one (Qd0 false)))],[(0,.cells 153 [.yld 1]),(1,Jf),(2,.obj (.deferred (some []))),(3,.cells 25 (Qd1 u.2.2.1)),(4,.cells 28 [Qcz r0.1]),(5,.cells 107 (Qd1 u.2.2.2.2.1)),(6,.cells 3 [Qcz r0.2]),(7,.cells 25 (Qd1 u.2.2.2.2.2.2)),(8,Qq),(9,.cells 26 [.fn 108 [(0,0),(8,0),(9,0)]])],[],12,50,[]⟩:St)) (fun (r1:Bool×Int)=>(⟨[(7,.v (.one (Qd0 r1.1)))],[(0,.cells 153 [.yld 1]),(1,QQ),(2,.obj (.deferred (some []))),(3,.cells 25 (Qd1 u.2.2.1)),(4,.cells 28 [Qcz u.2.2.2.1]),(5,.cells 107 (Qd1 u.2.2.2.2.1)),(6,.cells 3 [Qcz r1.2]),(7,.cells 25 (Qd1 u.2.2.2.2.2.2)),(8,Qq),(9,.cells 26 [.fn 108 [(0,0),(8,0),(9,0)]])],[],12,50,[]⟩:St))) r).nx⟩ :=
 Jy (C:=fun u r=>CallE Tryz.prog 108 [.agg (Qd1 u.1),.one (Qcz u.2.1),.one (.ptr 0 0),.one (.ptr 8 0),.one (.ptr 9 0)] ⟨ZI u.2.2.1 u.2.2.2.1 u.2.2.2.2.1 u.2.2.2.2.2.1 u.2.2.2.2.2.2,[],10⟩ ((Sum.elim (fun (r0:Int×Int)=>((.ret [.one (Qd0 false)]):EK)) (fun (r1:Bool×Int)=>((.ret [.one (Qd0 r1.1)]):EK))) r) ⟨((Sum.elim (fun (r0:Int×Int)=>(⟨[(7,.v (.one (Qd0 false)))],[(0,.cells 153 [.yld 1]),(1,Jf),(2,.obj (.deferred (some []))),(3,.cells 25 (Qd1 u.2.2.1)),(4,.cells 28 [Qcz r0.1]),(5,.cells 107 (Qd1 u.2.2.2.2.1)),(6,.cells 3 [Qcz r0.2]),(7,.cells 25 (Qd1 u.2.2.2.2.2.2)),(8,Qq),(9,.cells 26 [.fn 108 [(0,0),(8,0),(9,0)]])],[],12,50,[]⟩:St)) (fun (r1:Bool×Int)=>(⟨[(7,.v (.one (Qd0 r1.1)))],[(0,.cells 153 [.yld 1]),(1,QQ),(2,.obj (.deferred (some []))),(3,.cells 25 (Qd1 u.2.2.1)),(4,.cells 28 [Qcz u.2.2.2.1]),(5,.cells 107 (Qd1 u.2.2.2.2.1)),(6,.cells 3 [Qcz r1.2]),(7,.cells 25 (Qd1 u.2.2.2.2.2.2)),(8,Qq),(9,.cells 26 [.fn 108 [(0,0),(8,0),(9,0)]])],[],12,50,[]⟩:St))) r).hp,((Sum.elim (fun (r0:Int×Int)=>(⟨[(7,.v (.one (Qd0 false)))],[(0,.cells 153 [.yld 1]),(1,Jf),(2,.obj (.deferred (some []))),(3,.cells 25 (Qd1 u.2.2.1)),(4,.cells 28 [Qcz r0.1]),(5,.cells 107 (Qd1 u.2.2.2.2.1)),(6,.cells 3 [Qcz r0.2]),(7,.cells 25 (Qd1 u.2.2.2.2.2.2)),(8,Qq),(9,.cells 26 [.fn 108 [(0,0),(8,0),(9,0)]])],[],12,50,[]⟩:St)) (fun (r1:Bool×Int)=>(⟨[(7,.v (.one (Qd0 r1.1)))],[(0,.cells 153 [.yld 1]),(1,QQ),(2,.obj (.deferred (some []))),(3,.cells 25 (Qd1 u.2.2.1)),(4,.cells 28 [Qcz u.2.2.2.1]),(5,.cells 107 (Qd1 u.2.2.2.2.1)),(6,.cells 3 [Qcz r1.2]),(7,.cells 25 (Qd1 u.2.2.2.2.2.2)),(8,Qq),(9,.cells 26 [.fn 108 [(0,0),(8,0),(9,0)]])],[],12,50,[]⟩:St))) r).tk,((Sum.elim (fun (r0:Int×Int)=>(⟨[(7,.v (.one (Qd0 false)))],[(0,.cells 153 [.yld 1]),(1,Jf),(2,.obj (.deferred (some []))),(3,.cells 25 (Qd1 u.2.2.1)),(4,.cells 28 [Qcz r0.1]),(5,.cells 107 (Qd1 u.2.2.2.2.1)),(6,.cells 3 [Qcz r0.2]),(7,.cells 25 (Qd1 u.2.2.2.2.2.2)),(8,Qq),(9,.cells 26 [.fn 108 [(0,0),(8,0),(9,0)]])],[],12,50,[]⟩:St)) (fun (r1:Bool×Int)=>(⟨[(7,.v (.one (Qd0 r1.1)))],[(0,.cells 153 [.yld 1]),(1,QQ),(2,.obj (.deferred (some []))),(3,.cells 25 (Qd1 u.2.2.1)),(4,.cells 28 [Qcz u.2.2.2.1]),(5,.cells 107 (Qd1 u.2.2.2.2.1)),(6,.cells 3 [Qcz r1.2]),(7,.cells 25 (Qd1 u.2.2.2.2.2.2)),(8,Qq),(9,.cells 26 [.fn 108 [(0,0),(8,0),(9,0)]])],[],12,50,[]⟩:St))) r).nx⟩) (fun rc H u r h=>m108f3s_ok rc (fun a0 a1 a2 a3 a4 a5 a6 r h=>H (a0,a1,a2,a3,a4,a5,a6) r h) u.1 u.2.1 u.2.2.1 u.2.2.2.1 u.2.2.2.2.1 u.2.2.2.2.2.1 u.2.2.2.2.2.2 r h) n u r h0
theorem m108f3_ok (a0:Tm) (a1:Int) (a2:Tm) (a3:Int) (a4:Scp) (a5:Int) (a6:Tm) (r:(Int×Int)⊕(Bool×Int)) (h0:Q5o a0 a1 a2 a3 a4 a5 a6=some r):CallE Tryz.prog 108 [.agg (Qd1 a0),.one (Qcz a1),.one (.ptr 0 0),.one (.ptr 8 0),.one (.ptr 9 0)] ⟨ZI a2 a3 a4 a5 a6,[],10⟩ ((Sum.elim (fun (r0:Int×Int)=>((.ret [.one (Qd0 false)]):EK)) (fun (r1:Bool×Int)=>((.ret [.one (Qd0 r1.1)]):EK))) r) ⟨((Sum.elim (fun (r0:Int×Int)=>(⟨[(7,.v (.one (Qd0 false)))],[(0,.cells 153 [.yld 1]),(1,Jf),(2,.obj (.deferred (some []))),(3,.cells 25 (Qd1 a2)),(4,.cells 28 [Qcz r0.1]),(5,.cells 107 (Qd1 a4)),(6,.cells 3 [Qcz r0.2]),(7,.cells 25 (Qd1 a6)),(8,Qq),(9,.cells 26 [.fn 108 [(0,0),(8,0),(9,0)]])],[],12,50,[]⟩:St)) (fun (r1:Bool×Int)=>(⟨[(7,.v (.one (Qd0 r1.1)))],[(0,.cells 153 [.yld 1]),(1,QQ),(2,.obj (.deferred (some []))),(3,.cells 25 (Qd1 a2)),(4,.cells 28 [Qcz a3]),(5,.cells 107 (Qd1 a4)),(6,.cells 3 [Qcz r1.2]),(7,.cells 25 (Qd1 a6)),(8,Qq),(9,.cells 26 [.fn 108 [(0,0),(8,0),(9,0)]])],[],12,50,[]⟩:St))) r).hp,((Sum.elim (fun (r0:Int×Int)=>(⟨[(7,.v (.one (Qd0 false)))],[(0,.cells 153 [.yld 1]),(1,Jf),(2,.obj (.deferred (some []))),(3,.cells 25 (Qd1 a2)),(4,.cells 28 [Qcz r0.1]),(5,.cells 107 (Qd1 a4)),(6,.cells 3 [Qcz r0.2]),(7,.cells 25 (Qd1 a6)),(8,Qq),(9,.cells 26 [.fn 108 [(0,0),(8,0),(9,0)]])],[],12,50,[]⟩:St)) (fun (r1:Bool×Int)=>(⟨[(7,.v (.one (Qd0 r1.1)))],[(0,.cells 153 [.yld 1]),(1,QQ),(2,.obj (.deferred (some []))),(3,.cells 25 (Qd1 a2)),(4,.cells 28 [Qcz a3]),(5,.cells 107 (Qd1 a4)),(6,.cells 3 [Qcz r1.2]),(7,.cells 25 (Qd1 a6)),(8,Qq),(9,.cells 26 [.fn 108 [(0,0),(8,0),(9,0)]])],[],12,50,[]⟩:St))) r).tk,((Sum.elim (fun (r0:Int×Int)=>(⟨[(7,.v (.one (Qd0 false)))],[(0,.cells 153 [.yld 1]),(1,Jf),(2,.obj (.deferred (some []))),(3,.cells 25 (Qd1 a2)),(4,.cells 28 [Qcz r0.1]),(5,.cells 107 (Qd1 a4)),(6,.cells 3 [Qcz r0.2]),(7,.cells 25 (Qd1 a6)),(8,Qq),(9,.cells 26 [.fn 108 [(0,0),(8,0),(9,0)]])],[],12,50,[]⟩:St)) (fun (r1:Bool×Int)=>(⟨[(7,.v (.one (Qd0 r1.1)))],[(0,.cells 153 [.yld 1]),(1,QQ),(2,.obj (.deferred (some []))),(3,.cells 25 (Qd1 a2)),(4,.cells 28 [Qcz a3]),(5,.cells 107 (Qd1 a4)),(6,.cells 3 [Qcz r1.2]),(7,.cells 25 (Qd1 a6)),(8,Qq),(9,.cells 26 [.fn 108 [(0,0),(8,0),(9,0)]])],[],12,50,[]⟩:St))) r).nx⟩:=m108f3_all Qk (a0,a1,a2,a3,a4,a5,a6) r h0
noncomputable abbrev Q2c (p0_:Int) (p1_:Int) (p2_:Int) (p3_:Int):HB :=
 .cells 107 [Qcz (max p0_ 0),Qcz (max p1_ 0),Qcz (max p2_ 0),Qcz (max p3_ 0)]
noncomputable abbrev m27_h1 (p0_:Tm) (p1_:Int) (p2_:Int) (p3_:Int) (p4_:Int):List (Nat×HB) :=
 [(0,.cells 25 (Qd1 p0_)),(1,.cells 28 [Qcz 0]),(2,Q2c p1_ p2_ p3_ p4_),(3,.cells 3 [Qcz 0])]
noncomputable abbrev Q5j (p0_:Tm) (p1_:Int) (p2_:Int) (p3_:Int) (p4_:Int):List (Nat×HB) :=
 [(0,.cells 25 (Qd1 p0_)),(1,.cells 28 [Qcz 0]),(2,Q2c p1_ p2_ p3_ p4_),(3,.cells 3 [Qcz 0]),(4,.cells 25 (Qd1 p0_))]
noncomputable abbrev Q5i (p0_:Int) (p1_:Int) (p2_:Int) (p3_:Int):HB :=
 .cells 107 [Qcz ((⟨(max p0_ 0),(max p1_ 0),(max p2_ 0),(max p3_ 0)⟩:Scp).vars),Qcz ((⟨(max p0_ 0),(max p1_ 0),(max p2_ 0),(max p3_ 0)⟩:Scp).params),Qcz ((⟨(max p0_ 0),(max p1_ 0),(max p2_ 0),(max p3_ 0)⟩:Scp).metas),Qcz ((⟨(max p0_ 0),(max p1_ 0),(max p2_ 0),(max p3_ 0)⟩:Scp).levels)]
noncomputable abbrev Q2b :HB :=
 .loop .ready none [(5,.v (.one (.ptr 0 0))),(10,.v (.one (.ptr 1 0))),(11,.v (.one (.ptr 2 0))),(12,.v (.one (.ptr 3 0))),(26,.v (.one (.fn 106 [(4,0)])))] 45 #[27,28] Zt Yz 5
noncomputable abbrev Xp (p0_:Tm) (p1_:Int) (p2_:Int) (p3_:Int) (p4_:Int) (p5_:Int):List (Nat×HB) :=
 [(0,.cells 25 (Qd1 p0_)),(1,.cells 28 [Qcz 0]),(2,Q5i p1_ p2_ p3_ p4_),(3,.cells 3 [Qcz p5_]),(4,.cells 25 (Qd1 p0_)),(5,.obj (.deferred (some []))),(6,Q2b)]
noncomputable abbrev m27_h6 :HB :=
 .loop .done (some .ret) [(5,.v (.one (.ptr 0 0))),(10,.v (.one (.ptr 1 0))),(11,.v (.one (.ptr 2 0))),(12,.v (.one (.ptr 3 0))),(26,.v (.one (.fn 106 [(4,0)])))] 45 #[27,28] Zt Yz 5
noncomputable abbrev GF (p0_:Tm) (p1_:Int×Int) (p2_:Int) (p3_:Int) (p4_:Int) (p5_:Int):List (Nat×HB) :=
 [(0,.cells 25 (Qd1 p0_)),(1,.cells 28 [Qcz p1_.1]),(2,Q5i p2_ p3_ p4_ p5_),(3,.cells 3 [Qcz p1_.2]),(4,.cells 25 (Qd1 p0_)),(5,.obj (.deferred (some []))),(6,m27_h6)]
noncomputable abbrev m27_h8 (p0_:Tm) (p1_:Int) (p2_:Int) (p3_:Int) (p4_:Int):List (Nat×HB) :=
 [(0,.cells 25 (Qd1 p0_)),(1,.cells 28 [Qcz 0]),(2,Q2c p1_ p2_ p3_ p4_),(3,.cells 3 [Qcz 0]),(4,.cells 25 (Qd1 p0_)),(5,.obj (.deferred (some []))),(6,Q2b),(7,.cells 153 [.yld 6])]
noncomputable abbrev Q5h :HB :=
 .cells 156 [Qd0 true,Qd0 false,Qcz 0,Qcz 0,Qcz (-1),Qd0 false,Qd0 false,Qcz 0,Qcz 0,Qcz (-1),Qd0 false,Qd0 false,Qcz 1,Qcz 0,Qcz (-1),Qd0 false,Qd0 true,Qcz (-1),Qcz 0,Qcz (-1),Qd0 false,Qd0 false,Qcz 0,Qcz 2,Qcz (-1),Qd0 false,Qd0 false,Qcz 0,Qcz 2,Qcz 1,Qd0 false,Qd0 false,Qcz 0,Qcz 2,Qcz 1,Qd0 false,Qd0 false,Qcz 0,Qcz 2,Qcz 1,Qd0 false,Qd0 false,Qcz 0,Qcz 3,Qcz (-1),Qd0 false,Qd0 false,Qcz 0,Qcz 1,Qcz (-1),Qd0 false,Qd0 false,Qcz 0,Qcz 1,Qcz (-1),Qd0 false,Qd0 false,Qcz 0,Qcz 3,Qcz 2,Qd0 true,Qd0 false,Qcz 0,Qcz 0,Qcz (-1)]
noncomputable abbrev m27_h10 (p0_:Tm) (p1_:Int) (p2_:Int) (p3_:Int) (p4_:Int):List (Nat×HB) :=
 [(0,.cells 25 (Qd1 p0_)),(1,.cells 28 [Qcz 0]),(2,Q2c p1_ p2_ p3_ p4_),(3,.cells 3 [Qcz 0]),(4,.cells 25 (Qd1 p0_)),(5,.obj (.deferred (some []))),(6,Q2b),(7,.cells 153 [.yld 6]),(8,Q5h)]
noncomputable abbrev m27_h11 (p0_:Tm) (p1_:Int) (p2_:Int) (p3_:Int) (p4_:Int) (p5_:Bool×Int):List (Nat×HB) :=
 [(0,.cells 25 (Qd1 p0_)),(1,.cells 28 [Qcz 0]),(2,Q5i p1_ p2_ p3_ p4_),(3,.cells 3 [Qcz p5_.2]),(4,.cells 25 (Qd1 p0_)),(5,.obj (.deferred (some []))),(6,Q2b)]
def Q9z (a0:Tm) (a1:Int) (a2:Int) (a3:Int) (a4:Int):Option Int :=
 Option.bind (some ()) (fun (y1:Unit)=>Option.bind (Option.bind (some ()) (fun (y7:Unit)=>Option.bind (Q5o a0 0 a0 0 (⟨(max a1 0),(max a2 0),(max a3 0),(max a4 0)⟩:Scp) 0 a0) (Sum.elim (fun (x10:Int×Int)=>some (.inr (x10.1,x10.2))) (fun (x11:Bool×Int)=>some (.inl x11.2))))) (Sum.elim (fun (y3:Int)=>cond (decide (4096 < y3))
   (some 5)
   (Option.bind (Qc5 a0) fun (x13:Int) =>
 cond (decide (200 < x13))
   (some 7)
   (some 0))) (fun (y4:Int×Int)=>some y4.1)))
theorem m27_ok (a0:Tm) (a1:Int) (a2:Int) (a3:Int) (a4:Int) (r:Int) (h0:Q9z a0 a1 a2 a3 a4=some r):Fun Tryz.prog 27 [.agg (Qd1 a0),.one (Qcz a1),.one (Qcz a2),.one (Qcz a3),.one (Qcz a4)] (Qw [.one (Qcz r)]):=by
 unfold Q9z at h0
 refine QL 9 45 Tryz.func27 Z en_27 Z (Qcr Z) (fun S w=>?_)
 simp only [J4]
 refine Q3<|Q0<|Qz Z Z (Qcr Z) (Jh Z)<|Qz Z Z (Qcr Z) (QZ z_28 Z)<|Q2<|Q1<|Q3<|Q0<|Qck Z Z Z<|Qcj Z Z Z (KW Z Z)<|Qck Z Z Z<|Qcj Z Z Z (KW Z Z)<|Qck Z Z Z<|Qcj Z Z Z (KW Z Z) ?_
 refine Qck Z Z Z<|Qcj Z Z Z (KW Z Z)<|Qcj Z Z Z (UO bd_107 Z (.cons Z (.cons Z (.cons Z (.cons Z .nil)))) Z)<|Qz Z Z (Qcr Z) (QZ z_107 Z)<|Ye Z Z (JS Q3f Z Z Z Z (Qcr Z) Z)<|Q2<|Q1<|Q3<|Q0<|Qz Z Z (Qcr Z) (QZ z_3 Z)<|Ye Z Z (JS QO Z Z Z Z (Qcr Z) Z)<|Q2<|Q1<|Q3 ?_
 refine Q3<|Q0<|Qcj Z Z Z (J6 (a0:Tm) Zg Z Z) ?_
 refine Qv h0 (fun y1 h1 h0=>?_)
 have hc2:CallM Tryz.prog 58 [.agg (Qd1 a0)] ⟨m27_h1 a0 a1 a2 a3 a4,[],4⟩ (Qw [.one (.fn 106 [(4,0)])]) ⟨Q5j a0 a1 a2 a3 a4,[],5⟩:=by
  refine JG ⟨[(2,.v (.one (.fn 106 [(4,0)])))],Q5j a0 a1 a2 a3 a4,[],5,4,[]⟩ Z Z en_58 (Qcr Z) Z (Qm Z .nil) (fun w0 M V0 Q hv1 hQ1=>?_)
  simp only [J4]
  refine Q3<|Q0<|Qz Z Z (Qcr Z) (Jh Z)<|Qcl Z Z Z<|Q2<|Q1<|Q3<|Q0<|Qcj Z Z Z (RO.makeFunc1 Z)<|Qcl Z Z Z<|Q2<|Q1<|Qu ?_
  have e:=Qch h1;subst e
  exact hQ1 _ _ _ (.inr Z) Z (Qcg (Nat.le_trans hv1 (Qcr Z)) Z Z Z Z Z)
 refine Qz Z Z (Qcr Z) (WN Z Z Z hc2 Z (hA Z) Qcs)<|Q2<|Q1<|Qx<|XC.less (st':=⟨[(5,.v (.one (.ptr 0 0))),(10,.v (.one (.ptr 1 0))),(11,.v (.one (.ptr 2 0))),(12,.v (.one (.ptr 3 0))),(26,.v (.one (.fn 106 [(4,0)])))],Q5j a0 a1 a2 a3 a4,[],5,45,[]⟩) (Qcg (Nat.zero_le _) Z Z Z Z Z) ?_
 refine Qv h0 (fun y6 h1 h0=>?_)
 have hc5:CallM Tryz.prog 106 [.one (.yld 6),.one (.ptr 4 0)] ⟨[(6,.loop .ready none [(5,.v (.one (.ptr 0 0))),(10,.v (.one (.ptr 1 0))),(11,.v (.one (.ptr 2 0))),(12,.v (.one (.ptr 3 0))),(26,.v (.one (.fn 106 [(4,0)])))] 45 #[27,28] Zt Yz 5),(5,.obj (.deferred (some []))),(0,.cells 25 (Qd1 a0)),(1,.cells 28 [Qcz 0]),(2,.cells 107 [Qcz (max a1 0),Qcz (max a2 0),Qcz (max a3 0),Qcz (max a4 0)]),(3,.cells 3 [Qcz 0]),(4,.cells 25 (Qd1 a0))],[],7⟩ (Qw []) ⟨(((Sum.elim (fun (y3:Int)=>(⟨[],Xp a0 a1 a2 a3 a4 y3,[],13,10,[]⟩:St)) (fun (y4:Int×Int)=>(⟨[],GF a0 y4 a1 a2 a3 a4,[],13,10,[]⟩:St)))) y6).hp,(((Sum.elim (fun (y3:Int)=>(⟨[],Xp a0 a1 a2 a3 a4 y3,[],13,10,[]⟩:St)) (fun (y4:Int×Int)=>(⟨[],GF a0 y4 a1 a2 a3 a4,[],13,10,[]⟩:St)))) y6).tk,(((Sum.elim (fun (y3:Int)=>(⟨[],Xp a0 a1 a2 a3 a4 y3,[],13,10,[]⟩:St)) (fun (y4:Int×Int)=>(⟨[],GF a0 y4 a1 a2 a3 a4,[],13,10,[]⟩:St)))) y6).nx⟩:=by
  refine CallM.of_bodyS y6 ((Sum.elim (fun (y3:Int)=>(⟨[],Xp a0 a1 a2 a3 a4 y3,[],13,10,[]⟩:St)) (fun (y4:Int×Int)=>(⟨[],GF a0 y4 a1 a2 a3 a4,[],13,10,[]⟩:St)))) rfl rfl en_106 (Qcr rfl) (fun z_=>by cases z_ <;> rfl) (fun z_=>.nil) (fun w0 M V0 Q hv1 hQ1=>?_)
  simp only [J4]
  refine Q3<|Q0<|Qz Z Z (Qcr Z) (Jh Z)<|Q2<|Q1<|Q3<|Q0 ?_
  refine Qv h1 (fun y7 h2 h1=>?_)
  have hc8:CallM Tryz.prog 107 [] ⟨m27_h8 a0 a1 a2 a3 a4,[],8⟩ (Qw [.agg [Qd0 true,Qd0 false,Qcz 0,Qcz 0,Qcz (-1),Qd0 false,Qd0 false,Qcz 0,Qcz 0,Qcz (-1),Qd0 false,Qd0 false,Qcz 1,Qcz 0,Qcz (-1),Qd0 false,Qd0 true,Qcz (-1),Qcz 0,Qcz (-1),Qd0 false,Qd0 false,Qcz 0,Qcz 2,Qcz (-1),Qd0 false,Qd0 false,Qcz 0,Qcz 2,Qcz 1,Qd0 false,Qd0 false,Qcz 0,Qcz 2,Qcz 1,Qd0 false,Qd0 false,Qcz 0,Qcz 2,Qcz 1,Qd0 false,Qd0 false,Qcz 0,Qcz 3,Qcz (-1),Qd0 false,Qd0 false,Qcz 0,Qcz 1,Qcz (-1),Qd0 false,Qd0 false,Qcz 0,Qcz 1,Qcz (-1),Qd0 false,Qd0 false,Qcz 0,Qcz 3,Qcz 2,Qd0 true,Qd0 false,Qcz 0,Qcz 0,Qcz (-1)]]) ⟨m27_h10 a0 a1 a2 a3 a4,[],9⟩:=by
   refine JG ⟨[(0,.v (.one (.ptr 8 0)))],m27_h10 a0 a1 a2 a3 a4,[],9,15,[]⟩ Z Z en_107 (Qcr Z) Z (Q3l Q0v Z Z Z Z .nil) (fun w0 M V0 Q hv2 hQ2=>?_)
   simp only [J4]
   refine Q3<|Q0<|Qz Z Z (Qcr Z) (QZ Q7n Z)<|Q2<|Q1<|Q3<|Q0<|Qcj Z Z Z (QT JB Z Z Z Z)<|Qcj Z Z Z (RO.build1 JB Z Z Z)<|Qcj Z Z Z (QT JB Z Z Z Z)<|Qcj Z Z Z (RO.build3 JB Z Z Z Z Z)<|Qcj Z Z Z (QT JB Z Z Z Z)<|Qcj Z Z Z (QT JB Z Z Z Z)<|Qcj Z Z Z (QT JB Z Z Z Z) ?_
   refine Qcj Z Z Z (QT JB Z Z Z Z)<|Qcj Z Z Z (QT JB Z Z Z Z)<|Qcj Z Z Z (QT JB Z Z Z Z)<|Qcj Z Z Z (QT JB Z Z Z Z)<|Qcj Z Z Z (QT JB Z Z Z Z)<|Qcj Z Z Z (QT JB Z Z Z Z)<|Qcj Z Z Z (UO bd_156 Z (.cons Z (.cons Z (.cons Z (.cons Z (.cons Z (.cons Z (.cons Z (.cons Z (.cons Z (.cons Z (.cons Z (.cons Z (.cons Z .nil))))))))))))) Z)<|Ye Z Z (G7 Q0v Z Z Z Z Z Z)<|Q2<|Q1<|Qu ?_
   have e:=Qch h2;subst e
   exact hQ2 _ _ _ (.inr Z) Z (Qcg (Nat.le_trans hv2 (Qcr Z)) Z Z Z Z Z)
  refine Qz Z Z (Qcr Z) (WN Z Z Z hc8 Z (hA Z) Qcs)<|Qz Z Z (Qcr Z) (QZ Q7n Z)<|Ye Z Z (G7 Q0v Z Z Z Z Z Z)<|Q2<|Q1<|Q3<|Q0<|Qz Z Z (Qcr Z) (QZ z_26 Z)<|Q2<|Q1<|Q3<|Q0<|Qcj Z Z Z (RO.makeFunc3 Z Z Z)<|Ye Z Z (JS Q8v Z Z Z Z (Qcr Z) Z) ?_
  refine Q2<|Q1<|Q0<|Qcj Z Z Z (Q7 Q8v Z Z Z)<|Qcj Z Z Z (J6 (a0:Tm) Zg Z Z) ?_
  refine Qv h1 (fun x9 hx9 h1=>?_)
  refine sumE id hx9 h1 (fun x10 hx10 h1=>?_) (fun x11 hx11 h1=>?_)
  refine Qz Z Z (Qcr Z) (Z8 (hp1':=[(7,.cells 153 [.yld 6]),(6,.loop .done (some .ret) [(5,.v (.one (.ptr 0 0))),(10,.v (.one (.ptr 1 0))),(11,.v (.one (.ptr 2 0))),(12,.v (.one (.ptr 3 0))),(26,.v (.one (.fn 106 [(4,0)])))] 45 #[27,28] Zt Yz 5),(5,.obj (.deferred (some []))),(0,.cells 25 (Qd1 a0)),(1,.cells 28 [Qcz x10.1]),(2,.cells 107 [Qcz ((⟨(max a1 0),(max a2 0),(max a3 0),(max a4 0)⟩:Scp).vars),Qcz ((⟨(max a1 0),(max a2 0),(max a3 0),(max a4 0)⟩:Scp).params),Qcz ((⟨(max a1 0),(max a2 0),(max a3 0),(max a4 0)⟩:Scp).metas),Qcz ((⟨(max a1 0),(max a2 0),(max a3 0),(max a4 0)⟩:Scp).levels)]),(3,.cells 3 [Qcz x10.2]),(4,.cells 25 (Qd1 a0)),(9,.cells 156 [Qd0 true,Qd0 false,Qcz 0,Qcz 0,Qcz (-1),Qd0 false,Qd0 false,Qcz 0,Qcz 0,Qcz (-1),Qd0 false,Qd0 false,Qcz 1,Qcz 0,Qcz (-1),Qd0 false,Qd0 true,Qcz (-1),Qcz 0,Qcz (-1),Qd0 false,Qd0 false,Qcz 0,Qcz 2,Qcz (-1),Qd0 false,Qd0 false,Qcz 0,Qcz 2,Qcz 1,Qd0 false,Qd0 false,Qcz 0,Qcz 2,Qcz 1,Qd0 false,Qd0 false,Qcz 0,Qcz 2,Qcz 1,Qd0 false,Qd0 false,Qcz 0,Qcz 3,Qcz (-1),Qd0 false,Qd0 false,Qcz 0,Qcz 1,Qcz (-1),Qd0 false,Qd0 false,Qcz 0,Qcz 1,Qcz (-1),Qd0 false,Qd0 false,Qcz 0,Qcz 3,Qcz 2,Qd0 true,Qd0 false,Qcz 0,Qcz 0,Qcz (-1)]),(10,.cells 26 [.fn 108 [(7,0),(9,0),(10,0)]])]) (tk1':=[]) (hpF:=[(8,Q5h)]) (tkF:=[]) (res2:=Qw [.one (Qd0 false)]) (nx2:=13) [7,6,5,0,1,2,3,4,9,10] Z Z (CallE.m (m108f3_ok a0 0 a0 0 (⟨(max a1 0),(max a2 0),(max a3 0),(max a4 0)⟩:Scp) 0 a0 (.inl x10) hx10)) Z Z (Qcn Z Z (Qcn Z Z (Qcn Z Z (Qcn Z Z (Qcn Z Z (Qcn Z Z (Qcn Z Z (Qcn Z Z (Qcn Z Z (Qcn Z Z Qcm)))))))))) Z Z (Qcx Z (Qcx Z (Qcx Z (Qcx Z (Qcx Z (Qcx Z (Qcx Z (Qcx Z (Qcx Z (Qcx Z Qcw)))))))))) Qcu (hA Z) Qcs Z Z Z Z Z (Qd5 Z) Z Z Z Z)<|Q2 ?_
  have e:=Qch h1;subst e
  exact hQ1 _ _ _ (.inl Z) Z (show StLe _ _ ⟨[],GF a0 x10 a1 a2 a3 a4,[],13,10,[]⟩ from (Qcg (Nat.le_trans hv1 (Qcr Z)) Z Z Z Z Z))
  refine Qz Z Z (Qcr Z) (Z8 (hp1':=[(7,.cells 153 [.yld 6]),(6,.loop .ready none [(5,.v (.one (.ptr 0 0))),(10,.v (.one (.ptr 1 0))),(11,.v (.one (.ptr 2 0))),(12,.v (.one (.ptr 3 0))),(26,.v (.one (.fn 106 [(4,0)])))] 45 #[27,28] Zt Yz 5),(5,.obj (.deferred (some []))),(0,.cells 25 (Qd1 a0)),(1,.cells 28 [Qcz 0]),(2,.cells 107 [Qcz ((⟨(max a1 0),(max a2 0),(max a3 0),(max a4 0)⟩:Scp).vars),Qcz ((⟨(max a1 0),(max a2 0),(max a3 0),(max a4 0)⟩:Scp).params),Qcz ((⟨(max a1 0),(max a2 0),(max a3 0),(max a4 0)⟩:Scp).metas),Qcz ((⟨(max a1 0),(max a2 0),(max a3 0),(max a4 0)⟩:Scp).levels)]),(3,.cells 3 [Qcz x11.2]),(4,.cells 25 (Qd1 a0)),(9,.cells 156 [Qd0 true,Qd0 false,Qcz 0,Qcz 0,Qcz (-1),Qd0 false,Qd0 false,Qcz 0,Qcz 0,Qcz (-1),Qd0 false,Qd0 false,Qcz 1,Qcz 0,Qcz (-1),Qd0 false,Qd0 true,Qcz (-1),Qcz 0,Qcz (-1),Qd0 false,Qd0 false,Qcz 0,Qcz 2,Qcz (-1),Qd0 false,Qd0 false,Qcz 0,Qcz 2,Qcz 1,Qd0 false,Qd0 false,Qcz 0,Qcz 2,Qcz 1,Qd0 false,Qd0 false,Qcz 0,Qcz 2,Qcz 1,Qd0 false,Qd0 false,Qcz 0,Qcz 3,Qcz (-1),Qd0 false,Qd0 false,Qcz 0,Qcz 1,Qcz (-1),Qd0 false,Qd0 false,Qcz 0,Qcz 1,Qcz (-1),Qd0 false,Qd0 false,Qcz 0,Qcz 3,Qcz 2,Qd0 true,Qd0 false,Qcz 0,Qcz 0,Qcz (-1)]),(10,.cells 26 [.fn 108 [(7,0),(9,0),(10,0)]])]) (tk1':=[]) (hpF:=[(8,Q5h)]) (tkF:=[]) (res2:=Qw [.one (Qd0 x11.1)]) (nx2:=13) [7,6,5,0,1,2,3,4,9,10] Z Z (CallE.m (m108f3_ok a0 0 a0 0 (⟨(max a1 0),(max a2 0),(max a3 0),(max a4 0)⟩:Scp) 0 a0 (.inr x11) hx11)) Z Z (Qcn Z Z (Qcn Z Z (Qcn Z Z (Qcn Z Z (Qcn Z Z (Qcn Z Z (Qcn Z Z (Qcn Z Z (Qcn Z Z (Qcn Z Z Qcm)))))))))) Z Z (Qcx Z (Qcx Z (Qcx Z (Qcx Z (Qcx Z (Qcx Z (Qcx Z (Qcx Z (Qcx Z (Qcx Z Qcw)))))))))) Qcu (hA Z) Qcs Z Z Z Z Z (Qd5 Z) Z Z Z Z)<|Q2 ?_
  have e:=Qch h1;subst e
  exact hQ1 _ _ _ (.inl Z) Z (show StLe _ _ ⟨[],m27_h11 a0 a1 a2 a3 a4 x11,[],13,10,[]⟩ from (Qcg (Nat.le_trans hv1 (Qcr Z)) Z Z Z Z Z))
 refine sumK (C:=fun q_=>CallM Tryz.prog 106 [.one (.yld 6),.one (.ptr 4 0)] ⟨[(6,.loop .ready none [(5,.v (.one (.ptr 0 0))),(10,.v (.one (.ptr 1 0))),(11,.v (.one (.ptr 2 0))),(12,.v (.one (.ptr 3 0))),(26,.v (.one (.fn 106 [(4,0)])))] 45 #[27,28] Zt Yz 5),(5,.obj (.deferred (some []))),(0,.cells 25 (Qd1 a0)),(1,.cells 28 [Qcz 0]),(2,.cells 107 [Qcz (max a1 0),Qcz (max a2 0),Qcz (max a3 0),Qcz (max a4 0)]),(3,.cells 3 [Qcz 0]),(4,.cells 25 (Qd1 a0))],[],7⟩ (Qw []) ⟨(((Sum.elim (fun (y3:Int)=>(⟨[],Xp a0 a1 a2 a3 a4 y3,[],13,10,[]⟩:St)) (fun (y4:Int×Int)=>(⟨[],GF a0 y4 a1 a2 a3 a4,[],13,10,[]⟩:St)))) q_).hp,(((Sum.elim (fun (y3:Int)=>(⟨[],Xp a0 a1 a2 a3 a4 y3,[],13,10,[]⟩:St)) (fun (y4:Int×Int)=>(⟨[],GF a0 y4 a1 a2 a3 a4,[],13,10,[]⟩:St)))) q_).tk,(((Sum.elim (fun (y3:Int)=>(⟨[],Xp a0 a1 a2 a3 a4 y3,[],13,10,[]⟩:St)) (fun (y4:Int×Int)=>(⟨[],GF a0 y4 a1 a2 a3 a4,[],13,10,[]⟩:St)))) q_).nx⟩) hc5 h0 (fun y3 hc5 h0=>?_) (fun y4 hc5 h0=>?_)
 replace hc5:CallM Tryz.prog 106 [.one (.yld 6),.one (.ptr 4 0)] ⟨[(6,.loop .ready none [(5,.v (.one (.ptr 0 0))),(10,.v (.one (.ptr 1 0))),(11,.v (.one (.ptr 2 0))),(12,.v (.one (.ptr 3 0))),(26,.v (.one (.fn 106 [(4,0)])))] 45 #[27,28] Zt Yz 5),(5,.obj (.deferred (some []))),(0,.cells 25 (Qd1 a0)),(1,.cells 28 [Qcz 0]),(2,.cells 107 [Qcz (max a1 0),Qcz (max a2 0),Qcz (max a3 0),Qcz (max a4 0)]),(3,.cells 3 [Qcz 0]),(4,.cells 25 (Qd1 a0))],[],7⟩ (Qw []) ⟨Xp a0 a1 a2 a3 a4 y3,[],13⟩:=hc5
 refine XC.exec (rangeFunc_out (e:=.normal) rfl hc5 rfl rfl (by intro h;cases h) rfl) rfl ?_
 refine QB<|Q1<|Q3<|Qx<|Q3<|Q0<|Qcj Z Z Z (Q7 QO Z Z Z)<|Qcj Z Z Z (Q4 Z Z Z)<|Qcl Z Z Z<|Q2<|Q1 ?_
 refine Qi (b:=(decide (4096 < y3))) Z (fun c12=>?_) (fun c12=>?_)
 replace h0:=Qg c12 h0
 refine Q3<|Q0<|Ye Z Z (JS Da Z Z Z Z (Qcr Z) Z)<|Q2<|Q1<|Qu ?_
 have e:=Qch h0;subst e
 exact Qn (fun _ _ h=>h) Z (XM Da Z Z Z .nil) (.cons (.one (.d _)) .nil)
 replace h0:=Qh c12 h0
 refine Q3<|Q0<|Qcj Z Z Z (J6 (a0:Tm) Zg Z Z) ?_
 refine Qv h0 (fun x13 hx13 h0=>?_)
 refine Qz Z Z (Qcr Z) (QC (m60_ok a0 x13 hx13) Z (.cons (.agg (.cons (.d _) (.cons (.d _) (.cons (.d _) (.cons (.d _) (.cons (.d _) .nil)))))) .nil))<|Qcj Z Z Z (Q4 Z Z Z)<|Qcl Z Z Z<|Q2<|Q1 ?_
 refine Qi (b:=(decide (200 < x13))) Z (fun c14=>?_) (fun c14=>?_)
 replace h0:=Qg c14 h0
 refine Q3<|Q0<|Ye Z Z (JS Da Z Z Z Z (Qcr Z) Z)<|Q2<|Q1<|Qu ?_
 have e:=Qch h0;subst e
 exact Qn (fun _ _ h=>h) Z (XM Da Z Z Z .nil) (.cons (.one (.d _)) .nil)
 replace h0:=Qh c14 h0
 refine Ql<|QB<|Q1<|Q3<|Q0<|Ye Z Z (JS Da Z Z Z Z (Qcr Z) Z)<|Q2<|Q1<|Qu ?_
 have e:=Qch h0;subst e
 exact Qn (fun _ _ h=>h) Z (XM Da Z Z Z .nil) (.cons (.one (.d _)) .nil)
 replace hc5:CallM Tryz.prog 106 [.one (.yld 6),.one (.ptr 4 0)] ⟨[(6,.loop .ready none [(5,.v (.one (.ptr 0 0))),(10,.v (.one (.ptr 1 0))),(11,.v (.one (.ptr 2 0))),(12,.v (.one (.ptr 3 0))),(26,.v (.one (.fn 106 [(4,0)])))] 45 #[27,28] Zt Yz 5),(5,.obj (.deferred (some []))),(0,.cells 25 (Qd1 a0)),(1,.cells 28 [Qcz 0]),(2,.cells 107 [Qcz (max a1 0),Qcz (max a2 0),Qcz (max a3 0),Qcz (max a4 0)]),(3,.cells 3 [Qcz 0]),(4,.cells 25 (Qd1 a0))],[],7⟩ (Qw []) ⟨GF a0 y4 a1 a2 a3 a4,[],13⟩:=hc5
 refine XC.exec (rangeFunc_out (e:=.ret) rfl hc5 rfl rfl (by intro h;cases h) rfl) rfl ?_
 have e:=Qch h0;subst e
 exact Qn (fun _ _ h=>h) Z (XM Da Z Z Z .nil) (.cons (.one (.d _)) .nil)
noncomputable def k136:KF UV:=⟨[.stc .t82],[.bool],fun v=>Q49 v⟩
theorem k136_ok:Jo DV W0 Tryz.prog 136 k136:=⟨rfl,fun v r h=>W9 (Eq.mp (show _=Fun Tryz.prog 136 (QG DV k136.args v) (Qw (QG DV k136.res r)) from by kernel_rfl) (m136_ok v r h))⟩
noncomputable def k110:KF UV:=⟨[.str],[.bool],fun v=>Q2i v⟩
theorem Q2z:Jo DV W0 Tryz.prog 110 k110:=⟨rfl,fun v r h=>W9 (Eq.mp (show _=Fun Tryz.prog 110 (QG DV k110.args v) (Qw (QG DV k110.res r)) from by kernel_rfl) (m110_ok v r h))⟩
noncomputable def k27:KF UV:=⟨[.stc .t25,.int .i64,.int .i64,.int .i64,.int .i64],[.int .i64],fun v=>Q9z (v.1) (v.2.1) (v.2.2.1) (v.2.2.2.1) (v.2.2.2.2)⟩
theorem k27_ok:Jo DV W0 Tryz.prog 27 k27:=⟨rfl,fun v r h=>W9 (Eq.mp (show _=Fun Tryz.prog 27 (QG DV k27.args v) (Qw (QG DV k27.res r)) from by kernel_rfl) (m27_ok (v.1) (v.2.1) (v.2.2.1) (v.2.2.2.1) (v.2.2.2.2) r h))⟩
end
section
open Go.RowKit Go.Shelf
theorem en_31:Qe Tryz.prog 31:=enters_of Tryz.func31 (by kernel_rfl) rfl
theorem en_65:Qe Tryz.prog 65:=enters_of Tryz.func65 (by kernel_rfl) rfl
theorem en_66:Qe Tryz.prog 66:=enters_of Tryz.func66 (by kernel_rfl) rfl
theorem en_67:Qe Tryz.prog 67:=enters_of Tryz.func67 (by kernel_rfl) rfl
theorem en_98:Qe Tryz.prog 98:=enters_of Tryz.func98 (by kernel_rfl) rfl
theorem en_115:Qe Tryz.prog 115:=enters_of Tryz.func115 (by kernel_rfl) rfl
theorem en_116:Qe Tryz.prog 116:=enters_of Tryz.func116 (by kernel_rfl) rfl
theorem en_117:Qe Tryz.prog 117:=enters_of Tryz.func117 (by kernel_rfl) rfl
theorem en_118:Qe Tryz.prog 118:=enters_of Tryz.func118 (by kernel_rfl) rfl
theorem en_133:Qe Tryz.prog 133:=enters_of Tryz.func133 (by kernel_rfl) rfl
theorem en_142:Qe Tryz.prog 142:=enters_of Tryz.func142 (by kernel_rfl) rfl
def Q8f (a0:Byt):Option Bool :=
 Option.bind (cond (decide (97≤a0.n))
   (cond (decide (a0.n≤122))
   (some true)
   (cond (decide (65≤a0.n))
   (cond (decide (a0.n≤90))
   (some true)
   (some (a0.n==95)))
   (some (a0.n==95))))
   (cond (decide (65≤a0.n))
   (cond (decide (a0.n≤90))
   (some true)
   (some (a0.n==95)))
   (some (a0.n==95)))) (fun (v1:Bool)=>some v1)
theorem m133_ok (a0:Byt) (r:Bool) (h0:Q8f a0=some r):Fun Tryz.prog 133 [.one (.d (.v (.int .u8 a0.n)))] (Qw [.one (Qd0 r)]):=by
 unfold Q8f at h0
 refine QL 9 21 Tryz.func133 Z en_133 Z (Qcr Z) (fun S w=>?_)
 simp only [J4]
 refine Q3<|Q0<|Qcl Z Z Z<|Q2<|Q1<|Q3 ?_
 refine QK (fun (v1:Bool)=>⟨[(2,.v (.one (Qd0 v1)))],[],[],0,21,[]⟩) (fun (v1:Bool)=>(some v1)=some r) ?_ ?_
 refine Qv h0 (fun w1_ h1 h0=>?_)
 refine Q0<|Qck Z Z Z<|Qcj Z Z Z (Q4 Z Z Z)<|Qck Z Z Z ?_
 refine Qt (d:=5) (c:=(decide (97≤a0.n))) Z (fun c2=>?_) (fun c2=>?_)
 replace h1:=Qg c2 h1
 refine Qck Z Z Z<|Qcj Z Z Z (Q4 Z Z Z)<|Qcj Z Z Z (Qb Z Z)<|Qck Z Z Z ?_
 refine Qt (d:=9) (c:=(decide (a0.n≤122))) Z (fun c3=>?_) (fun c3=>?_)
 replace h1:=Qg c3 h1
 refine Q6 Z Z<|Q6 Z Z<|Q6 Z Z<|Q6 Z Z<|Q6 Z Z<|Q6 Z Z<|Qcj Z Z Z (Qb Z Z)<|Qck Z Z Z<|Q6 Z Z<|Q6 Z Z<|Qcj Z Z Z (Qb Z Z)<|Qcl Z Z Z<|Q2 ?_
 have e:=Qch h1;subst e
 exact Qa true (Qcg (Nat.zero_le _) Z Z Z Z Z) h0
 replace h1:=Qh c3 h1
 refine Qck Z Z Z<|Qcj Z Z Z (Q4 Z Z Z)<|Qck Z Z Z ?_
 refine Qt (d:=12) (c:=(decide (65≤a0.n))) Z (fun c4=>?_) (fun c4=>?_)
 replace h1:=Qg c4 h1
 refine Qck Z Z Z<|Qcj Z Z Z (Q4 Z Z Z)<|Qcj Z Z Z (Qb Z Z)<|Qcj Z Z Z (Qd Z Z)<|Qck Z Z Z ?_
 refine Qt (d:=17) (c:=(decide (a0.n≤90))) Z (fun c5=>?_) (fun c5=>?_)
 replace h1:=Qg c5 h1
 refine Q6 Z Z<|Q6 Z Z<|Qcj Z Z Z (Qb Z Z)<|Qcl Z Z Z<|Q2 ?_
 have e:=Qch h1;subst e
 exact Qa true (Qcg (Nat.zero_le _) Z Z Z Z Z) h0
 replace h1:=Qh c5 h1
 refine Qck Z Z Z<|Qcj Z Z Z (Q4 Z Z Z)<|Qcj Z Z Z (Qd Z Z)<|Qcl Z Z Z<|Q2 ?_
 have e:=Qch h1;subst e
 exact Qa (a0.n==95) (Qcg (Nat.zero_le _) Z Z Z Z Z) h0
 replace h1:=Qh c4 h1
 refine Q6 Z Z<|Q6 Z Z<|Qcj Z Z Z (Qd Z Z)<|Qcj Z Z Z (Qd Z Z)<|Qck Z Z Z<|Qck Z Z Z<|Qcj Z Z Z (Q4 Z Z Z)<|Qcj Z Z Z (Qd Z Z)<|Qcl Z Z Z<|Q2 ?_
 have e:=Qch h1;subst e
 exact Qa (a0.n==95) (Qcg (Nat.zero_le _) Z Z Z Z Z) h0
 replace h1:=Qh c2 h1
 refine Q6 Z Z<|Q6 Z Z<|Qcj Z Z Z (Qd Z Z)<|Qck Z Z Z<|Qck Z Z Z<|Qcj Z Z Z (Q4 Z Z Z)<|Qck Z Z Z ?_
 refine Qt (d:=12) (c:=(decide (65≤a0.n))) Z (fun c6=>?_) (fun c6=>?_)
 replace h1:=Qg c6 h1
 refine Qck Z Z Z<|Qcj Z Z Z (Q4 Z Z Z)<|Qcj Z Z Z (Qb Z Z)<|Qcj Z Z Z (Qd Z Z)<|Qck Z Z Z ?_
 refine Qt (d:=17) (c:=(decide (a0.n≤90))) Z (fun c7=>?_) (fun c7=>?_)
 replace h1:=Qg c7 h1
 refine Q6 Z Z<|Q6 Z Z<|Qcj Z Z Z (Qb Z Z)<|Qcl Z Z Z<|Q2 ?_
 have e:=Qch h1;subst e
 exact Qa true (Qcg (Nat.zero_le _) Z Z Z Z Z) h0
 replace h1:=Qh c7 h1
 refine Qck Z Z Z<|Qcj Z Z Z (Q4 Z Z Z)<|Qcj Z Z Z (Qd Z Z)<|Qcl Z Z Z<|Q2 ?_
 have e:=Qch h1;subst e
 exact Qa (a0.n==95) (Qcg (Nat.zero_le _) Z Z Z Z Z) h0
 replace h1:=Qh c6 h1
 refine Q6 Z Z<|Q6 Z Z<|Qcj Z Z Z (Qd Z Z)<|Qcj Z Z Z (Qd Z Z)<|Qck Z Z Z<|Qck Z Z Z<|Qcj Z Z Z (Q4 Z Z Z)<|Qcj Z Z Z (Qd Z Z)<|Qcl Z Z Z<|Q2 ?_
 have e:=Qch h1;subst e
 exact Qa (a0.n==95) (Qcg (Nat.zero_le _) Z Z Z Z Z) h0
 intro v1 h0
 refine Q1<|Qu ?_
 have e:=Qch h0;subst e
 exact Qn (fun _ _ h=>h) Z (Qm Z .nil) (.cons (.one (.d _)) .nil)
def Xo (a0:Qdk) (s1:Bool×Int):Option (LO (Bool×Int) (Bool⊕Bool)) :=
 cond (decide (s1.2 < (a0.length:Int)))
   (Option.bind (J3 a0 s1.2) fun (x5:UInt8) =>
 cond s1.1
   (Option.bind (Q8f (⟨(x5.toNat:Int)⟩:Byt)) fun (x7:Bool) =>
 cond (!x7)
   (some (.done (.inr false)))
   (some (.next (false,(QE (s1.2+1))))))
   (cond ((x5.toNat:Int)==46)
   (some (.next (true,(QE (s1.2+1)))))
   (Option.bind (Option.bind (Q8f (⟨(x5.toNat:Int)⟩:Byt)) fun (x11:Bool) =>
 cond (!x11)
   (cond ((x5.toNat:Int) != 39)
   (cond (decide ((x5.toNat:Int) < 48))
   (some true)
   (some (decide (57 < (x5.toNat:Int)))))
   (some false))
   (some false)) (fun (v10:Bool)=>cond v10
   (some (.done (.inr false)))
   (some (.next (s1.1,(QE (s1.2+1)))))))))
   (some (.done (.inl s1.1)))
def Q92 (a0:Qdk):Option Bool :=
 Option.bind (cond (a0==([]:List UInt8))
   (some true)
   (some (decide (64 < (a0.length:Int))))) (fun (v1:Bool)=>cond v1
   (some false)
   (Option.bind (Qj (Xo a0) Qk (true,0)) (Sum.elim (fun (o3:Bool)=>some (!o3)) (fun o=>some o))))
theorem m98_ok (a0:Qdk) (r:Bool) (h0:Q92 a0=some r):Fun Tryz.prog 98 [.one (Q9i a0)] (Qw [.one (Qd0 r)]):=by
 unfold Q92 at h0
 refine QL 9 45 Tryz.func98 Z en_98 Z (Qcr Z) (fun S w=>?_)
 simp only [J4]
 refine Q3<|Q0<|Qcl Z Z Z<|Q2<|Q1<|Q3<|Q3 ?_
 refine QK (fun (v1:Bool)=>⟨[(0,.v (.one (Q9i a0))),(12,.v (.one (Qd0 v1)))],[],[],0,45,[]⟩) (fun (v1:Bool)=>(cond v1
     (some false)
     (Option.bind (Qj (Xo a0) Qk (true,0)) (Sum.elim (fun (o3:Bool)=>some (!o3)) (fun o=>some o))))=some r) ?_ ?_
 refine Qv h0 (fun w1_ h1 h0=>?_)
 refine Q0<|Qck Z Z Z<|Qcj Z Z Z (Q3k Z Z)<|Qck Z Z Z ?_
 refine Qt (d:=8) (c:=(a0==([]:List UInt8))) Z (fun c2=>?_) (fun c2=>?_)
 replace h1:=Qg c2 h1
 refine Q6 Z Z<|Q6 Z Z<|Q6 Z Z<|Qcj Z Z Z (Qb Z Z)<|Q2 ?_
 have e:=Qch h1;subst e
 exact Qa true (Qcg (Nat.zero_le _) Z Z Z Z Z) h0
 replace h1:=Qh c2 h1
 refine Qck Z Z Z<|Qcj Z Z Z (Ue Q73 Z)<|Qcj Z Z Z (Q4 Z Z Z)<|Qcj Z Z Z (Qd Z Z)<|Q2 ?_
 have e:=Qch h1;subst e
 exact Qa (decide (64 < (a0.length:Int))) (Qcg (Nat.zero_le _) Z Z Z Z Z) h0
 intro v1 h0
 refine Q1 ?_
 refine Qi (b:=v1) Z (fun c3=>?_) (fun c3=>?_)
 replace h0:=Qg c3 h0
 refine Q3<|Q0<|Qcl Z Z Z<|Q2<|Q1<|Qu ?_
 have e:=Qch h0;subst e
 exact Qn (fun _ _ h=>h) Z (Qm Z .nil) (.cons (.one (.d _)) .nil)
 replace h0:=Qh c3 h0
 refine Ql<|Q1<|Q3<|Q0<|Qcl Z Z Z<|Q2<|Q1<|Q3<|Q3<|Q0<|Qcl Z Z Z<|Q2<|Q1<|Qx ?_
 refine JE 0 (fun (o4:Bool)=>⟨[(3,.v (.one (Qd0 o4)))],[],[],0,45,[]⟩) (fun (o4:Bool)=>(some (!o4))=some r) ?_ ?_
 refine Qv h0 (fun o5 hl1 h0=>?_)
 refine JD (Xo a0) (fun s1=>⟨[(0,.v (.one (Q9i a0))),(3,.v (.one (Qd0 s1.1))),(4,.v (.one (Qcz s1.2)))],[],[],0,45,[]⟩) (true,0) o5 (Qcg (Nat.zero_le _) Z Z Z Z Z) hl1 (fun s1 n1 oo1 h1 ho1=>?_)
 unfold Xo at h1
 refine Q3<|Q3<|Q0<|Qck Z Z Z<|Qck Z Z Z<|Qcj Z Z Z (Ue Q73 Z)<|Qcj Z Z Z (Q4 Z Z Z)<|Q2<|Q1 ?_
 refine Qi (b:=(decide (s1.2 < (a0.length:Int)))) Z (fun c6=>?_) (fun c6=>?_)
 replace h1:=Qg c6 h1
 refine Ql<|Q1<|Q3<|Qx<|Q3<|Q0<|Qck Z Z Z<|Qck Z Z Z ?_
 refine Qv h1 (fun x7 hx7 h1=>?_)
 refine Qcj Z Z Z (Q6f Q73 Z Z hx7)<|Qcl Z Z Z<|Q2<|Q1<|Q3<|Q3<|Q0<|Qck Z Z Z<|Q2<|Q1 ?_
 refine Qi (b:=s1.1) Z (fun c8=>?_) (fun c8=>?_)
 replace h1:=Qg c8 h1
 refine Q3<|Q3<|Q0<|Qck Z Z Z ?_
 refine Qv h1 (fun x9 hx9 h1=>?_)
 refine Qz Z Z (Qcr Z) (QC (m133_ok (⟨(x7.toNat:Int)⟩:Byt) x9 hx9) Z (.cons (.one (.d _)) .nil))<|Qcj Z Z Z (Z6 Z)<|Q2<|Q1 ?_
 refine Qi (b:=(!x9)) Z (fun c10=>?_) (fun c10=>?_)
 replace h1:=Qg c10 h1
 refine Q3<|Q0<|Qcl Z Z Z<|Q2<|Q1<|Qu ?_
 have e:=Qch h1;subst e
 have e_:_=_:=ho1
 subst e_
 try dsimp only [Sum.elim_inl,Sum.elim_inr] at h0
 have e:=Qch h0;subst e
 exact Qn (fun _ _ h=>h) Z (Qm Z .nil) (.cons (.one (.d _)) .nil)
 replace h1:=Qh c10 h1
 refine Ql<|Q1<|Q3<|Q0<|Qcl Z Z Z<|Q2<|Q1<|JK<|QI<|J5<|Q1<|Q0<|Qck Z Z Z<|Qcj Z Z Z (Q4 Z Z Z) ?_
 refine Qcl Z Z Z<|Q2 ?_
 have e:=Qch h1;subst e
 refine Jd (false,(QE (s1.2+1))) (Qcg (Nat.zero_le _) Z Z Z Z Z) ho1
 replace h1:=Qh c8 h1
 refine Ql<|Q1<|Q3<|Q3<|Q0<|Qck Z Z Z<|Qcj Z Z Z (Q4 Z Z Z)<|Q2<|Q1 ?_
 refine Qi (b:=((x7.toNat:Int)==46)) Z (fun c11=>?_) (fun c11=>?_)
 replace h1:=Qg c11 h1
 refine Q3<|Q0<|Qcl Z Z Z<|Q2<|Q1<|JK<|QI<|J5<|Q1<|Q0<|Qck Z Z Z<|Qcj Z Z Z (Q4 Z Z Z)<|Qcl Z Z Z<|Q2 ?_
 have e:=Qch h1;subst e
 refine Jd (true,(QE (s1.2+1))) (Qcg (Nat.zero_le _) Z Z Z Z Z) ho1
 replace h1:=Qh c11 h1
 refine Ql<|Q1<|Q3 ?_
 refine QK (fun (v12:Bool)=>⟨[(0,.v (.one (Q9i a0))),(3,.v (.one (Qd0 s1.1))),(4,.v (.one (Qcz s1.2))),(42,.v (.one (Qd0 v12)))],[],[],0,45,[]⟩) (fun (v12:Bool)=>(cond v12
     (some (.done (.inr false)))
     (some (.next (s1.1,(QE (s1.2+1))))))=some oo1) ?_ ?_
 refine Qv h1 (fun w2_ h2 h1=>?_)
 refine Q0<|Qck Z Z Z ?_
 refine Qv h2 (fun x13 hx13 h2=>?_)
 refine Qz Z Z (Qcr Z) (QC (m133_ok (⟨(x7.toNat:Int)⟩:Byt) x13 hx13) Z (.cons (.one (.d _)) .nil))<|Qcj Z Z Z (Z6 Z)<|Qck Z Z Z ?_
 refine Qt (d:=31) (c:=(!x13)) Z (fun c14=>?_) (fun c14=>?_)
 replace h2:=Qg c14 h2
 refine Qck Z Z Z<|Qcj Z Z Z (Q4 Z Z Z)<|Qcj Z Z Z (Qb Z Z)<|Qck Z Z Z ?_
 refine Qt (d:=35) (c:=((x7.toNat:Int) != 39)) Z (fun c15=>?_) (fun c15=>?_)
 replace h2:=Qg c15 h2
 refine Qck Z Z Z<|Qcj Z Z Z (Q4 Z Z Z)<|Qck Z Z Z ?_
 refine Qt (d:=38) (c:=(decide ((x7.toNat:Int) < 48))) Z (fun c16=>?_) (fun c16=>?_)
 replace h2:=Qg c16 h2
 refine Q6 Z Z<|Q6 Z Z<|Qcj Z Z Z (Qb Z Z)<|Qcj Z Z Z (Qb Z Z)<|Q2 ?_
 have e:=Qch h2;subst e
 exact Qa true (Qcg (Nat.zero_le _) Z Z Z Z Z) h1
 replace h2:=Qh c16 h2
 refine Qck Z Z Z<|Qcj Z Z Z (Q4 Z Z Z)<|Qcj Z Z Z (Qd Z Z)<|Qcj Z Z Z (Qb Z Z)<|Q2 ?_
 have e:=Qch h2;subst e
 exact Qa (decide (57 < (x7.toNat:Int))) (Qcg (Nat.zero_le _) Z Z Z Z Z) h1
 replace h2:=Qh c15 h2
 refine Q6 Z Z<|Q6 Z Z<|Q6 Z Z<|Q6 Z Z<|Q6 Z Z<|Q6 Z Z<|Qcj Z Z Z (Qd Z Z)<|Q2 ?_
 have e:=Qch h2;subst e
 exact Qa false (Qcg (Nat.zero_le _) Z Z Z Z Z) h1
 replace h2:=Qh c14 h2
 refine Q6 Z Z<|Q6 Z Z<|Qcj Z Z Z (Qd Z Z)<|Qck Z Z Z<|Q6 Z Z<|Q6 Z Z<|Q6 Z Z<|Q6 Z Z<|Q6 Z Z<|Q6 Z Z<|Qcj Z Z Z (Qd Z Z)<|Q2 ?_
 have e:=Qch h2;subst e
 exact Qa false (Qcg (Nat.zero_le _) Z Z Z Z Z) h1
 intro v12 h1
 refine Q1 ?_
 refine Qi (b:=v12) Z (fun c17=>?_) (fun c17=>?_)
 replace h1:=Qg c17 h1
 refine Q3<|Q0<|Qcl Z Z Z<|Q2<|Q1<|Qu ?_
 have e:=Qch h1;subst e
 have e_:_=_:=ho1
 subst e_
 try dsimp only [Sum.elim_inl,Sum.elim_inr] at h0
 have e:=Qch h0;subst e
 exact Qn (fun _ _ h=>h) Z (Qm Z .nil) (.cons (.one (.d _)) .nil)
 replace h1:=Qh c17 h1
 refine Ql<|QB<|Q1<|Q0<|Qck Z Z Z<|Qcj Z Z Z (Q4 Z Z Z)<|Qcl Z Z Z<|Q2 ?_
 have e:=Qch h1;subst e
 refine Jd (s1.1,(QE (s1.2+1))) (Qcg (Nat.zero_le _) Z Z Z Z Z) ho1
 replace h1:=Qh c6 h1
 refine JK<|QI<|QI ?_
 have e:=Qch h1;subst e
 have e_:_=_:=ho1
 subst e_
 exact JC s1.1 (Qcg (Nat.zero_le _) Z Z Z Z Z) h0
 intro o4 h0
 refine J5<|Q1<|Q3<|Q0<|Qck Z Z Z<|Qcj Z Z Z (Z6 Z)<|Qcl Z Z Z<|Q2<|Q1<|Qu ?_
 have e:=Qch h0;subst e
 exact Qn (fun _ _ h=>h) Z (Qm Z .nil) (.cons (.one (.d _)) .nil)
def Q2e (p0_:Bool) (p1_:Int):Option Int :=
 cond p0_
   (some 2)
   (Option.bind (cond (p1_==8)
   (some (p1_==8))
   (some (p1_==11))) (fun (b0_:Bool)=>cond b0_
   (some 3)
   (cond (p1_==9)
   (cond (p1_==9)
   (some 1)
   (some 0))
   (cond (p1_==10)
   (some 1)
   (some 0)))))
def Qa2 (a0:Int):Option Int :=
 Option.bind (cond (a0==4)
   (some (a0==4))
   (cond (a0==5)
   (some (a0==5))
   (cond (a0==6)
   (some (a0==6))
   (some (a0==7))))) (fun (v1:Bool)=>Q2e v1 a0)
theorem m142_ok (a0:Int) (r:Int) (h0:Qa2 a0=some r):Fun Tryz.prog 142 [.one (Qcz a0)] (Qw [.one (Qcz r)]):=by
 unfold Qa2 at h0
 refine QL 9 15 Tryz.func142 Z en_142 Z (Qcr Z) (fun S w=>?_)
 simp only [J4]
 refine Q3<|Q0<|Qcl Z Z Z<|Q2<|Q1<|Q3<|Q3<|Q0<|Qck Z Z Z<|Q2<|Q1<|Qx<|Q3<|Q3 ?_
 refine Q0<|Qcj Z Z Z (Q4 Z Z Z)<|Qcl Z Z Z<|Q2<|Q1 ?_
 refine QK (fun (v1:Bool)=>⟨[(3,.v (.one (Qcz a0))),(4,.v (.one (Qd0 v1)))],[],[],0,15,[]⟩) (fun (v1:Bool)=>(Q2e v1 a0)=some r) ?_ ?_
 refine Qv h0 (fun w1_ h1 h0=>?_)
 refine Qi (b:=(a0==4)) Z (fun c2=>?_) (fun c2=>?_)
 replace h1:=Qg c2 h1
 refine Ql ?_
 have e:=Qch h1;subst e
 exact Qa (a0==4) (Qcg (Nat.zero_le _) Z Z Z Z Z) h0
 replace h1:=Qh c2 h1
 refine Q3<|Q0<|Qcj Z Z Z (Q4 Z Z Z)<|Qcl Z Z Z<|Q2<|Q1 ?_
 refine Qi (b:=(a0==5)) Z (fun c3=>?_) (fun c3=>?_)
 replace h1:=Qg c3 h1
 refine Ql ?_
 have e:=Qch h1;subst e
 exact Qa (a0==5) (Qcg (Nat.zero_le _) Z Z Z Z Z) h0
 replace h1:=Qh c3 h1
 refine Q3<|Q0<|Qcj Z Z Z (Q4 Z Z Z)<|Qcl Z Z Z<|Q2<|Q1 ?_
 refine Qi (b:=(a0==6)) Z (fun c4=>?_) (fun c4=>?_)
 replace h1:=Qg c4 h1
 refine Ql ?_
 have e:=Qch h1;subst e
 exact Qa (a0==6) (Qcg (Nat.zero_le _) Z Z Z Z Z) h0
 replace h1:=Qh c4 h1
 refine Q0<|Qcj Z Z Z (Q4 Z Z Z)<|Qcl Z Z Z<|Q2 ?_
 have e:=Qch h1;subst e
 exact Qa (a0==7) (Qcg (Nat.zero_le _) Z Z Z Z Z) h0
 intro v1 h0
 unfold Q2e at h0
 refine Q1 ?_
 refine Qi (b:=v1) Z (fun c5=>?_) (fun c5=>?_)
 replace h0:=Qg c5 h0
 refine Q3<|Q0<|Qcl Z Z Z<|Q2<|Q1<|Qu ?_
 have e:=Qch h0;subst e
 exact Qn (fun _ _ h=>h) Z (Qm Z .nil) (.cons (.one (.d _)) .nil)
 replace h0:=Qh c5 h0
 refine Q3<|Q3<|Q0<|Qcj Z Z Z (Q4 Z Z Z)<|Qcl Z Z Z<|Q2<|Q1 ?_
 refine QK (fun (v6:Bool)=>⟨[(3,.v (.one (Qcz a0))),(9,.v (.one (Qd0 v6)))],[],[],0,15,[]⟩) (fun (v6:Bool)=>(cond v6
     (some 3)
     (cond (a0==9)
     (cond (a0==9)
     (some 1)
     (some 0))
     (cond (a0==10)
     (some 1)
     (some 0))))=some r) ?_ ?_
 refine Qv h0 (fun w1_ h1 h0=>?_)
 refine Qi (b:=(a0==8)) Z (fun c7=>?_) (fun c7=>?_)
 replace h1:=Qg c7 h1
 refine Ql ?_
 have e:=Qch h1;subst e
 exact Qa (a0==8) (Qcg (Nat.zero_le _) Z Z Z Z Z) h0
 replace h1:=Qh c7 h1
 refine Q0<|Qcj Z Z Z (Q4 Z Z Z)<|Qcl Z Z Z<|Q2 ?_
 have e:=Qch h1;subst e
 exact Qa (a0==11) (Qcg (Nat.zero_le _) Z Z Z Z Z) h0
 intro v6 h0
 refine Q1 ?_
 refine Qi (b:=v6) Z (fun c8=>?_) (fun c8=>?_)
 replace h0:=Qg c8 h0
 refine Q3<|Q0<|Qcl Z Z Z<|Q2<|Q1<|Qu ?_
 have e:=Qch h0;subst e
 exact Qn (fun _ _ h=>h) Z (Qm Z .nil) (.cons (.one (.d _)) .nil)
 replace h0:=Qh c8 h0
 refine Q3<|Q3<|Q0<|Qcj Z Z Z (Q4 Z Z Z)<|Qcl Z Z Z<|Q2<|Q1 ?_
 refine Qi (b:=(a0==9)) Z (fun c9=>?_) (fun c9=>?_)
 replace h0:=Qg c9 h0
 refine Ql<|Q1 ?_
 refine Qi (b:=(a0==9)) Z (fun c10=>?_) (fun c10=>?_)
 replace h0:=Qg c10 h0
 refine Q3<|Q0<|Qcl Z Z Z<|Q2<|Q1<|Qu ?_
 have e:=Qch h0;subst e
 exact Qn (fun _ _ h=>h) Z (Qm Z .nil) (.cons (.one (.d _)) .nil)
 replace h0:=Qh c10 h0
 refine Ql<|QB<|Q1<|Q3<|Q0<|Qcl Z Z Z<|Q2<|Q1<|Qu ?_
 have e:=Qch h0;subst e
 exact Qn (fun _ _ h=>h) Z (Qm Z .nil) (.cons (.one (.d _)) .nil)
 replace h0:=Qh c9 h0
 refine Q0<|Qcj Z Z Z (Q4 Z Z Z)<|Qcl Z Z Z<|Q2<|Q1 ?_
 refine Qi (b:=(a0==10)) Z (fun c11=>?_) (fun c11=>?_)
 replace h0:=Qg c11 h0
 refine Q3<|Q0<|Qcl Z Z Z<|Q2<|Q1<|Qu ?_
 have e:=Qch h0;subst e
 exact Qn (fun _ _ h=>h) Z (Qm Z .nil) (.cons (.one (.d _)) .nil)
 replace h0:=Qh c11 h0
 refine Ql<|QB<|Q1<|Q3<|Q0<|Qcl Z Z Z<|Q2<|Q1<|Qu ?_
 have e:=Qch h0;subst e
 exact Qn (fun _ _ h=>h) Z (Qm Z .nil) (.cons (.one (.d _)) .nil)
def Dr (p0_:Bool) (p1_:Tm):Option Bool :=
 cond p0_
   (some false)
   (Option.bind (cond (!(p1_.name==([]:List UInt8)))
   (some (p1_.kind != 3))
   (some false)) (fun (b0_:Bool)=>cond b0_
   (some false)
   (cond (p1_.kind==2)
   (some ((p1_.levels.length:Int)==1))
   (Option.bind (cond ((p1_.levels.length:Int)==0)
   (some true)
   (some (p1_.kind==3))) (fun (b1_:Bool)=>some b1_)))))
def Q4c (a0:Tm):Option Bool :=
 Option.bind (cond (decide (a0.kind < 0))
   (some true)
   (cond (decide (13≤a0.kind))
   (some true)
   (Option.bind (Qa2 a0.kind) fun (x4:Int) =>
 some ((a0.kids.length:Int) != x4)))) (fun (v1:Bool)=>cond v1
   (some false)
   (Option.bind (cond (a0.index != 0)
   (cond (a0.kind != 0)
   (some (a0.kind != 12))
   (some false))
   (some false)) (fun (v3:Bool)=>Dr v3 a0)))
theorem m115_ok (a0:Tm) (r:Bool) (h0:Q4c a0=some r):Fun Tryz.prog 115 [.agg (Qd1 a0)] (Qw [.one (Qd0 r)]):=by
 unfold Q4c at h0
 refine QL 9 57 Tryz.func115 Z en_115 Z (Qcr Z) (fun S w=>?_)
 simp only [J4]
 refine Q3<|Q0<|Qz Z Z (Qcr Z) (Jh Z)<|Qcl Z Z Z<|Q2<|Q1<|Q3<|Q3 ?_
 refine QK (fun (v1:Bool)=>⟨[(1,.v (.one (.ptr 0 0))),(19,.v (.one (Qd0 v1)))],[(0,.cells 25 (Qd1 a0))],[],1,57,[]⟩) (fun (v1:Bool)=>(cond v1
     (some false)
     (Option.bind (cond (a0.index != 0)
     (cond (a0.kind != 0)
     (some (a0.kind != 12))
     (some false))
     (some false)) (fun (v3:Bool)=>Dr v3 a0)))=some r) ?_ ?_
 refine Qv h0 (fun w1_ h1 h0=>?_)
 refine Zh [] [] mixed (by kernel_rfl) (by kernel_rfl) (by kernel_rfl) ?_
 refine RunA.rd Z Z Z (Q9 (Q5 Jj Z)) Z<|RunA.rd Z Z Z (Q9 (Q7 QO Z Z Z)) Z<|RunA.rd Z Z Z (Q9 (Q4 Z Z Z)) Z ?_
 refine Zi (c:=(decide (a0.kind < 0))) Z Z Z (Q9 (J8 Z)) Z (fun c2=>?_) (fun c2=>?_)
 replace h1:=Qg c2 h1
 refine RunA.no Z Z Z Z<|RunA.no Z Z Z Z<|RunA.no Z Z Z Z<|RunA.rd Z Z Z (Q9 (Qb Z Z)) Z<|RunA.rd Z Z Z (Q9 (J8 Z)) Z<|RunA.no Z Z Z Z<|RunA.no Z Z Z Z<|RunA.no Z Z Z Z<|RunA.no Z Z Z Z<|RunA.no Z Z Z Z<|RunA.no Z Z Z Z<|RunA.no Z Z Z Z<|RunA.rd Z Z Z (Q9 (Qb Z Z)) Z ?_
 refine RunA.nil ⟨?ex,_,_,Z,?_⟩
 case ex=>exact trivial
 have e:=Qch h1;subst e
 exact Qa true (Qcg (Nat.zero_le _) Z Z Z Z Z) h0
 replace h1:=Qh c2 h1
 refine RunA.rd Z Z Z (Q9 (Q5 Jj Z)) Z<|RunA.rd Z Z Z (Q9 (Q7 QO Z Z Z)) Z<|RunA.rd Z Z Z (Q9 (Q4 Z Z Z)) Z<|RunA.rd Z Z Z (Q9 (Qd Z Z)) Z ?_
 refine Zi (c:=(decide (13≤a0.kind))) Z Z Z (Q9 (J8 Z)) Z (fun c3=>?_) (fun c3=>?_)
 replace h1:=Qg c3 h1
 refine RunA.no Z Z Z Z<|RunA.no Z Z Z Z<|RunA.no Z Z Z Z<|RunA.no Z Z Z Z<|RunA.no Z Z Z Z<|RunA.no Z Z Z Z<|RunA.no Z Z Z Z<|RunA.rd Z Z Z (Q9 (Qb Z Z)) Z ?_
 refine RunA.nil ⟨?ex,_,_,Z,?_⟩
 case ex=>exact trivial
 have e:=Qch h1;subst e
 exact Qa true (Qcg (Nat.zero_le _) Z Z Z Z Z) h0
 replace h1:=Qh c3 h1
 refine RunA.rd Z Z Z (Q9 (Q5 Y2 Z)) Z<|RunA.rd Z Z Z (Q9 (Q7 ZW Z Z Z)) Z<|RunA.rd Z Z Z (Q9 (QS (α:=Tm) Zl Z (.d _))) Z<|RunA.rd Z Z Z (Q9 (Q5 Jj Z)) Z<|RunA.rd Z Z Z (Q9 (Q7 QO Z Z Z)) Z ?_
 refine Qv h1 (fun x4 hx4 h1=>?_)
 refine RunA.rd Z Z Z (QC (m142_ok a0.kind x4 hx4) Z (.cons (.one (.d _)) .nil)) Z<|RunA.rd Z Z Z (Q9 (Q4 Z Z Z)) Z<|RunA.rd Z Z Z (Q9 (Qd Z Z)) Z ?_
 refine RunA.nil ⟨?ex,_,_,Z,?_⟩
 case ex=>exact trivial
 have e:=Qch h1;subst e
 exact Qa ((a0.kids.length:Int) != x4) (Qcg (Nat.zero_le _) Z Z Z Z Z) h0
 intro v1 h0
 refine Q1 ?_
 refine Qi (b:=v1) Z (fun c5=>?_) (fun c5=>?_)
 replace h0:=Qg c5 h0
 refine Q3<|Q0<|Qcl Z Z Z<|Q2<|Q1<|Qu ?_
 have e:=Qch h0;subst e
 exact Qn (fun _ _ h=>h) Z (Qm Z .nil) (.cons (.one (.d _)) .nil)
 replace h0:=Qh c5 h0
 refine Ql<|Q1<|Q3<|Q3 ?_
 refine QK (fun (v6:Bool)=>⟨[(1,.v (.one (.ptr 0 0))),(32,.v (.one (Qd0 v6)))],[(0,.cells 25 (Qd1 a0))],[],1,57,[]⟩) (fun (v6:Bool)=>(Dr v6 a0)=some r) ?_ ?_
 refine Qv h0 (fun w1_ h1 h0=>?_)
 refine Q0<|Qcj Z Z Z (Q5 Yw Z)<|Qcj Z Z Z (Q7 QO Z Z Z)<|Qcj Z Z Z (Q4 Z Z Z)<|Qck Z Z Z ?_
 refine Qt (d:=23) (c:=(a0.index != 0)) Z (fun c7=>?_) (fun c7=>?_)
 replace h1:=Qg c7 h1
 refine Qcj Z Z Z (Q5 Jj Z)<|Qcj Z Z Z (Q7 QO Z Z Z)<|Qcj Z Z Z (Q4 Z Z Z)<|Qcj Z Z Z (Qb Z Z)<|Qck Z Z Z ?_
 refine Qt (d:=28) (c:=(a0.kind != 0)) Z (fun c8=>?_) (fun c8=>?_)
 replace h1:=Qg c8 h1
 refine Qcj Z Z Z (Q5 Jj Z)<|Qcj Z Z Z (Q7 QO Z Z Z)<|Qcj Z Z Z (Q4 Z Z Z)<|Qcj Z Z Z (Qb Z Z)<|Q2 ?_
 have e:=Qch h1;subst e
 exact Qa (a0.kind != 12) (Qcg (Nat.zero_le _) Z Z Z Z Z) h0
 replace h1:=Qh c8 h1
 refine Q6 Z Z<|Q6 Z Z<|Q6 Z Z<|Qcj Z Z Z (Qd Z Z)<|Q2 ?_
 have e:=Qch h1;subst e
 exact Qa false (Qcg (Nat.zero_le _) Z Z Z Z Z) h0
 replace h1:=Qh c7 h1
 refine Q6 Z Z<|Q6 Z Z<|Q6 Z Z<|Qcj Z Z Z (Qd Z Z)<|Qck Z Z Z<|Q6 Z Z<|Q6 Z Z<|Q6 Z Z<|Qcj Z Z Z (Qd Z Z)<|Q2 ?_
 have e:=Qch h1;subst e
 exact Qa false (Qcg (Nat.zero_le _) Z Z Z Z Z) h0
 intro v6 h0
 unfold Dr at h0
 refine Q1 ?_
 refine Qi (b:=v6) Z (fun c9=>?_) (fun c9=>?_)
 replace h0:=Qg c9 h0
 refine Q3<|Q0<|Qcl Z Z Z<|Q2<|Q1<|Qu ?_
 have e:=Qch h0;subst e
 exact Qn (fun _ _ h=>h) Z (Qm Z .nil) (.cons (.one (.d _)) .nil)
 replace h0:=Qh c9 h0
 refine Ql<|Q1<|Q3<|Q3 ?_
 refine QK (fun (v10:Bool)=>⟨[(1,.v (.one (.ptr 0 0))),(40,.v (.one (Qd0 v10)))],[(0,.cells 25 (Qd1 a0))],[],1,57,[]⟩) (fun (v10:Bool)=>(cond v10
     (some false)
     (cond (a0.kind==2)
     (some ((a0.levels.length:Int)==1))
     (Option.bind (cond ((a0.levels.length:Int)==0)
     (some true)
     (some (a0.kind==3))) (fun (v13:Bool)=>some v13))))=some r) ?_ ?_
 refine Qv h0 (fun w1_ h1 h0=>?_)
 refine Q0<|Qcj Z Z Z (Q5 U2 Z)<|Qcj Z Z Z (Q7 Q8u Z Z Z)<|Qcj Z Z Z (RO.neS Z Z)<|Qck Z Z Z ?_
 refine Qt (d:=36) (c:=(!(a0.name==([]:List UInt8)))) Z (fun c11=>?_) (fun c11=>?_)
 replace h1:=Qg c11 h1
 refine Qcj Z Z Z (Q5 Jj Z)<|Qcj Z Z Z (Q7 QO Z Z Z)<|Qcj Z Z Z (Q4 Z Z Z)<|Qcj Z Z Z (Qb Z Z)<|Q2 ?_
 have e:=Qch h1;subst e
 exact Qa (a0.kind != 3) (Qcg (Nat.zero_le _) Z Z Z Z Z) h0
 replace h1:=Qh c11 h1
 refine Q6 Z Z<|Q6 Z Z<|Q6 Z Z<|Qcj Z Z Z (Qd Z Z)<|Q2 ?_
 have e:=Qch h1;subst e
 exact Qa false (Qcg (Nat.zero_le _) Z Z Z Z Z) h0
 intro v10 h0
 refine Q1 ?_
 refine Qi (b:=v10) Z (fun c12=>?_) (fun c12=>?_)
 replace h0:=Qg c12 h0
 refine Q3<|Q0<|Qcl Z Z Z<|Q2<|Q1<|Qu ?_
 have e:=Qch h0;subst e
 exact Qn (fun _ _ h=>h) Z (Qm Z .nil) (.cons (.one (.d _)) .nil)
 replace h0:=Qh c12 h0
 refine Ql<|Q1<|Q3<|Q3<|Q0<|Qcj Z Z Z (Q5 Jj Z)<|Qcj Z Z Z (Q7 QO Z Z Z)<|Qcj Z Z Z (Q4 Z Z Z)<|Q2<|Q1 ?_
 refine Qi (b:=(a0.kind==2)) Z (fun c13=>?_) (fun c13=>?_)
 replace h0:=Qg c13 h0
 refine Q3<|Q0<|Qcj Z Z Z (Q5 YZ Z)<|Qcj Z Z Z (Q7 X4 Z Z Z)<|Qcj Z Z Z (QS (α:=Lvl) KD Z (.d _))<|Qcj Z Z Z (Q4 Z Z Z)<|Qcl Z Z Z<|Q2<|Q1<|Qu ?_
 have e:=Qch h0;subst e
 exact Qn (fun _ _ h=>h) Z (Qm Z .nil) (.cons (.one (.d _)) .nil)
 replace h0:=Qh c13 h0
 refine Ql<|Q1<|Q3 ?_
 refine QK (fun (v14:Bool)=>⟨[(2,.v (.one (Qd0 v14)))],[(0,.cells 25 (Qd1 a0))],[],1,57,[]⟩) (fun (v14:Bool)=>(some v14)=some r) ?_ ?_
 refine Qv h0 (fun w1_ h1 h0=>?_)
 refine Q0<|Qcj Z Z Z (Q5 YZ Z)<|Qcj Z Z Z (Q7 X4 Z Z Z)<|Qcj Z Z Z (QS (α:=Lvl) KD Z (.d _))<|Qcj Z Z Z (Q4 Z Z Z)<|Qck Z Z Z ?_
 refine Qt (d:=52) (c:=((a0.levels.length:Int)==0)) Z (fun c15=>?_) (fun c15=>?_)
 replace h1:=Qg c15 h1
 refine Q6 Z Z<|Q6 Z Z<|Q6 Z Z<|Qcj Z Z Z (Qb Z Z)<|Qcl Z Z Z<|Q2 ?_
 have e:=Qch h1;subst e
 exact Qa true (Qcg (Nat.zero_le _) Z Z Z Z Z) h0
 replace h1:=Qh c15 h1
 refine Qcj Z Z Z (Q5 Jj Z)<|Qcj Z Z Z (Q7 QO Z Z Z)<|Qcj Z Z Z (Q4 Z Z Z)<|Qcj Z Z Z (Qd Z Z)<|Qcl Z Z Z<|Q2 ?_
 have e:=Qch h1;subst e
 exact Qa (a0.kind==3) (Qcg (Nat.zero_le _) Z Z Z Z Z) h0
 intro v14 h0
 refine Q1<|Qu ?_
 have e:=Qch h0;subst e
 exact Qn (fun _ _ h=>h) Z (Qm Z .nil) (.cons (.one (.d _)) .nil)
def DU (a0:Int) (a1:Int):Option Int :=
 Option.bind (cond (a1==1)
   (cond (a0==5)
   (some true)
   (cond (a0==6)
   (some true)
   (cond (a0==7)
   (some true)
   (cond (a1==2)
   (some (a0==11))
   (some false)))))
   (cond (a1==2)
   (some (a0==11))
   (some false))) (fun (v1:Bool)=>cond v1
   (some 1)
   (some 0))
theorem m117_ok (a0:Int) (a1:Int) (r:Int) (h0:DU a0 a1=some r):Fun Tryz.prog 117 [.one (Qcz a0),.one (Qcz a1)] (Qw [.one (Qcz r)]):=by
 unfold DU at h0
 refine QL 9 27 Tryz.func117 Z en_117 Z (Qcr Z) (fun S w=>?_)
 simp only [J4]
 refine Q3<|Q0<|Qcl Z Z Z<|Q2<|Q1<|Q3<|Q3 ?_
 refine QK (fun (v1:Bool)=>⟨[(26,.v (.one (Qd0 v1)))],[],[],0,27,[]⟩) (fun (v1:Bool)=>(cond v1
     (some 1)
     (some 0))=some r) ?_ ?_
 refine Qv h0 (fun w1_ h1 h0=>?_)
 refine Q0<|Qck Z Z Z<|Qcj Z Z Z (Q4 Z Z Z)<|Qck Z Z Z ?_
 refine Qt (d:=7) (c:=(a1==1)) Z (fun c2=>?_) (fun c2=>?_)
 replace h1:=Qg c2 h1
 refine Qck Z Z Z<|Qcj Z Z Z (Q4 Z Z Z)<|Qck Z Z Z ?_
 refine Qt (d:=10) (c:=(a0==5)) Z (fun c3=>?_) (fun c3=>?_)
 replace h1:=Qg c3 h1
 refine Q6 Z Z<|Q6 Z Z<|Qcj Z Z Z (Qb Z Z)<|Qck Z Z Z<|Q6 Z Z<|Q6 Z Z<|Qcj Z Z Z (Qb Z Z)<|Qcj Z Z Z (Qb Z Z)<|Qck Z Z Z<|Q6 Z Z<|Q6 Z Z<|Q6 Z Z<|Q6 Z Z<|Q6 Z Z ?_
 refine Q6 Z Z<|Qcj Z Z Z (Qb Z Z)<|Q2 ?_
 have e:=Qch h1;subst e
 exact Qa true (Qcg (Nat.zero_le _) Z Z Z Z Z) h0
 replace h1:=Qh c3 h1
 refine Qck Z Z Z<|Qcj Z Z Z (Q4 Z Z Z)<|Qcj Z Z Z (Qd Z Z)<|Qck Z Z Z ?_
 refine Qt (d:=14) (c:=(a0==6)) Z (fun c4=>?_) (fun c4=>?_)
 replace h1:=Qg c4 h1
 refine Q6 Z Z<|Q6 Z Z<|Qcj Z Z Z (Qb Z Z)<|Qcj Z Z Z (Qb Z Z)<|Qck Z Z Z<|Q6 Z Z<|Q6 Z Z<|Q6 Z Z<|Q6 Z Z<|Q6 Z Z<|Q6 Z Z<|Qcj Z Z Z (Qb Z Z)<|Q2 ?_
 have e:=Qch h1;subst e
 exact Qa true (Qcg (Nat.zero_le _) Z Z Z Z Z) h0
 replace h1:=Qh c4 h1
 refine Qck Z Z Z<|Qcj Z Z Z (Q4 Z Z Z)<|Qcj Z Z Z (Qd Z Z)<|Qcj Z Z Z (Qb Z Z)<|Qck Z Z Z ?_
 refine Qt (d:=19) (c:=(a0==7)) Z (fun c5=>?_) (fun c5=>?_)
 replace h1:=Qg c5 h1
 refine Q6 Z Z<|Q6 Z Z<|Q6 Z Z<|Q6 Z Z<|Q6 Z Z<|Q6 Z Z<|Qcj Z Z Z (Qb Z Z)<|Q2 ?_
 have e:=Qch h1;subst e
 exact Qa true (Qcg (Nat.zero_le _) Z Z Z Z Z) h0
 replace h1:=Qh c5 h1
 refine Qck Z Z Z<|Qcj Z Z Z (Q4 Z Z Z)<|Qck Z Z Z ?_
 refine Qt (d:=22) (c:=(a1==2)) Z (fun c6=>?_) (fun c6=>?_)
 replace h1:=Qg c6 h1
 refine Qck Z Z Z<|Qcj Z Z Z (Q4 Z Z Z)<|Qcj Z Z Z (Qb Z Z)<|Qcj Z Z Z (Qd Z Z)<|Q2 ?_
 have e:=Qch h1;subst e
 exact Qa (a0==11) (Qcg (Nat.zero_le _) Z Z Z Z Z) h0
 replace h1:=Qh c6 h1
 refine Q6 Z Z<|Q6 Z Z<|Qcj Z Z Z (Qd Z Z)<|Qcj Z Z Z (Qd Z Z)<|Q2 ?_
 have e:=Qch h1;subst e
 exact Qa false (Qcg (Nat.zero_le _) Z Z Z Z Z) h0
 replace h1:=Qh c2 h1
 refine Q6 Z Z<|Q6 Z Z<|Q6 Z Z<|Q6 Z Z<|Q6 Z Z<|Q6 Z Z<|Q6 Z Z<|Q6 Z Z<|Q6 Z Z<|Q6 Z Z<|Qcj Z Z Z (Qd Z Z)<|Qck Z Z Z<|Qck Z Z Z<|Qcj Z Z Z (Q4 Z Z Z) ?_
 refine Qck Z Z Z ?_
 refine Qt (d:=22) (c:=(a1==2)) Z (fun c7=>?_) (fun c7=>?_)
 replace h1:=Qg c7 h1
 refine Qck Z Z Z<|Qcj Z Z Z (Q4 Z Z Z)<|Qcj Z Z Z (Qb Z Z)<|Qcj Z Z Z (Qd Z Z)<|Q2 ?_
 have e:=Qch h1;subst e
 exact Qa (a0==11) (Qcg (Nat.zero_le _) Z Z Z Z Z) h0
 replace h1:=Qh c7 h1
 refine Q6 Z Z<|Q6 Z Z<|Qcj Z Z Z (Qd Z Z)<|Qcj Z Z Z (Qd Z Z)<|Q2 ?_
 have e:=Qch h1;subst e
 exact Qa false (Qcg (Nat.zero_le _) Z Z Z Z Z) h0
 intro v1 h0
 refine Q1 ?_
 refine Qi (b:=v1) Z (fun c8=>?_) (fun c8=>?_)
 replace h0:=Qg c8 h0
 refine Q3<|Q0<|Qcl Z Z Z<|Q2<|Q1<|Qu ?_
 have e:=Qch h0;subst e
 exact Qn (fun _ _ h=>h) Z (Qm Z .nil) (.cons (.one (.d _)) .nil)
 replace h0:=Qh c8 h0
 refine Ql<|Q1<|Q3<|Q0<|Qcl Z Z Z<|Q2<|Q1<|Qu ?_
 have e:=Qch h0;subst e
 exact Qn (fun _ _ h=>h) Z (Qm Z .nil) (.cons (.one (.d _)) .nil)
def Dq (p0_:Bool) (p1_:Int) (p2_:Lvl) (p3_:Qde):Option (LO Int (Unit⊕Bool)) :=
 cond p0_
   (some (.done (.inr false)))
   (Option.bind (cond (decide (0 < p1_))
   (Option.bind (J3 p2_.vs (QE (p1_ - 1))) fun (b0_:Qde) =>
 some (decide (p3_.1≤b0_.1)))
   (some false)) (fun (b1_:Bool)=>cond b1_
   (some (.done (.inr false)))
   (Option.bind (cond (decide (0 < p2_.c))
   (some (decide (p2_.c≤p3_.2)))
   (some false)) (fun (b2_:Bool)=>cond b2_
   (some (.done (.inr false)))
   (some (.next (QE (p1_+1))))))))
def KI (a0:Lvl) (s1:Int):Option (LO Int (Unit⊕Bool)) :=
 cond (decide (s1 < (a0.vs.length:Int)))
   (Option.bind (J3 a0.vs s1) fun (x5:Qde) =>
 Option.bind (cond (decide (x5.1 < (-65536)))
   (some true)
   (cond (decide (8≤x5.1))
   (some true)
   (cond (decide (x5.2 < 0))
   (some true)
   (some (decide (100 < x5.2)))))) (fun (v6:Bool)=>Dq v6 s1 a0 x5))
   (some (.done (.inl ())))
def Q4b (a0:Lvl):Option Bool :=
 Option.bind (cond (decide (a0.c < 0))
   (some true)
   (some (decide (100 < a0.c)))) (fun (v1:Bool)=>cond v1
   (some false)
   (Option.bind (Qj (KI a0) Qk 0) (Sum.elim (fun (o3:Unit)=>some true) (fun o=>some o))))
theorem m118_ok (a0:Lvl) (r:Bool) (h0:Q4b a0=some r):Fun Tryz.prog 118 [.agg (Qd1 a0)] (Qw [.one (Qd0 r)]):=by
 unfold Q4b at h0
 refine QL 9 67 Tryz.func118 Z en_118 Z (Qcr Z) (fun S w=>?_)
 simp only [J4]
 refine Q3<|Q0<|Qz Z Z (Qcr Z) (Jh Z)<|Qcl Z Z Z<|Q2<|Q1<|Q3<|Q3 ?_
 refine QK (fun (v1:Bool)=>⟨[(1,.v (.one (.ptr 0 0))),(12,.v (.one (Qd0 v1)))],[(0,.cells 82 (Qd1 a0))],[],1,67,[]⟩) (fun (v1:Bool)=>(cond v1
     (some false)
     (Option.bind (Qj (KI a0) Qk 0) (Sum.elim (fun (o3:Unit)=>some true) (fun o=>some o))))=some r) ?_ ?_
 refine Qv h0 (fun w1_ h1 h0=>?_)
 refine Q0<|Qcj Z Z Z (Q5 KM Z)<|Qcj Z Z Z (Q7 QO Z Z Z)<|Qcj Z Z Z (Q4 Z Z Z)<|Qck Z Z Z ?_
 refine Qt (d:=8) (c:=(decide (a0.c < 0))) Z (fun c2=>?_) (fun c2=>?_)
 replace h1:=Qg c2 h1
 refine Q6 Z Z<|Q6 Z Z<|Q6 Z Z<|Qcj Z Z Z (Qb Z Z)<|Q2 ?_
 have e:=Qch h1;subst e
 exact Qa true (Qcg (Nat.zero_le _) Z Z Z Z Z) h0
 replace h1:=Qh c2 h1
 refine Qcj Z Z Z (Q5 KM Z)<|Qcj Z Z Z (Q7 QO Z Z Z)<|Qcj Z Z Z (Q4 Z Z Z)<|Qcj Z Z Z (Qd Z Z)<|Q2 ?_
 have e:=Qch h1;subst e
 exact Qa (decide (100 < a0.c)) (Qcg (Nat.zero_le _) Z Z Z Z Z) h0
 intro v1 h0
 refine Q1 ?_
 refine Qi (b:=v1) Z (fun c3=>?_) (fun c3=>?_)
 replace h0:=Qg c3 h0
 refine Q3<|Q0<|Qcl Z Z Z<|Q2<|Q1<|Qu ?_
 have e:=Qch h0;subst e
 exact Qn (fun _ _ h=>h) Z (Qm Z .nil) (.cons (.one (.d _)) .nil)
 replace h0:=Qh c3 h0
 refine Ql<|Q1<|Q3<|Q3<|Q0<|Qcl Z Z Z<|Q2<|Q1<|Qx ?_
 refine JE 0 (fun (o4:Unit)=>⟨[],[(0,.cells 82 (Qd1 a0))],[],1,67,[]⟩) (fun (o4:Unit)=>(some true)=some r) ?_ ?_
 refine Qv h0 (fun o5 hl1 h0=>?_)
 refine JD (KI a0) (fun s1=>⟨[(1,.v (.one (.ptr 0 0))),(3,.v (.one (Qcz s1)))],[(0,.cells 82 (Qd1 a0))],[],1,67,[]⟩) 0 o5 (Qcg (Nat.zero_le _) Z Z Z Z Z) hl1 (fun s1 n1 oo1 h1 ho1=>?_)
 unfold KI at h1
 refine Q3<|Q3<|Q0<|Qck Z Z Z<|Qcj Z Z Z (Q5 Yv Z)<|Qcj Z Z Z (Q7 KT Z Z Z)<|Qcj Z Z Z (QS (α:=Qde) ZE Z (.d _))<|Qcj Z Z Z (Q4 Z Z Z)<|Q2<|Q1 ?_
 refine Qi (b:=(decide (s1 < (a0.vs.length:Int)))) Z (fun c6=>?_) (fun c6=>?_)
 replace h1:=Qg c6 h1
 refine Ql<|Q1<|Q3<|Qx<|Q3<|Q0<|Qcj Z Z Z (Q5 Yv Z)<|Qcj Z Z Z (Q7 KT Z Z Z)<|Qck Z Z Z ?_
 refine Qv h1 (fun x7 hx7 h1=>?_)
 refine Qcj Z Z Z (J7 (α:=Qde) ZE Z (.d _) Z hx7)<|Qcj Z Z Z (Jc (x7:Qde) GU Z)<|Qz Z Z (Qcr Z) (QZ Q6h Z)<|Ye Z Z (Jx (x7:Qde) GU Z Z Z Z Z)<|Q2<|Q1<|Q3<|Q3 ?_
 refine QK (fun (v8:Bool)=>⟨[(1,.v (.one (.ptr 0 0))),(3,.v (.one (Qcz s1))),(4,.v (.one (.ptr 1 0))),(42,.v (.one (Qd0 v8)))],[(0,.cells 82 (Qd1 a0)),(1,.cells 142 (Qd1 x7))],[],2,67,[]⟩) (fun (v8:Bool)=>(Dq v8 s1 a0 x7)=some oo1) ?_ ?_
 refine Qv h1 (fun w2_ h2 h1=>?_)
 refine Q0<|Qcj Z Z Z (Q5 JQ Z)<|Qcj Z Z Z (Q7 QO Z Z Z)<|Qcj Z Z Z (Q4 Z Z Z)<|Qck Z Z Z ?_
 refine Qt (d:=28) (c:=(decide (x7.1 < (-65536)))) Z (fun c9=>?_) (fun c9=>?_)
 replace h2:=Qg c9 h2
 refine Q6 Z Z<|Q6 Z Z<|Q6 Z Z<|Qcj Z Z Z (Qb Z Z)<|Qck Z Z Z<|Q6 Z Z<|Q6 Z Z<|Q6 Z Z<|Qcj Z Z Z (Qb Z Z)<|Qck Z Z Z<|Q6 Z Z<|Q6 Z Z<|Q6 Z Z<|Qcj Z Z Z (Qb Z Z) ?_
 refine Q2 ?_
 have e:=Qch h2;subst e
 exact Qa true (Qcg (Nat.zero_le _) Z Z Z Z Z) h1
 replace h2:=Qh c9 h2
 refine Qcj Z Z Z (Q5 JQ Z)<|Qcj Z Z Z (Q7 QO Z Z Z)<|Qcj Z Z Z (Q4 Z Z Z)<|Qcj Z Z Z (Qd Z Z)<|Qck Z Z Z ?_
 refine Qt (d:=33) (c:=(decide (8≤x7.1))) Z (fun c10=>?_) (fun c10=>?_)
 replace h2:=Qg c10 h2
 refine Q6 Z Z<|Q6 Z Z<|Q6 Z Z<|Qcj Z Z Z (Qb Z Z)<|Qck Z Z Z<|Q6 Z Z<|Q6 Z Z<|Q6 Z Z<|Qcj Z Z Z (Qb Z Z)<|Q2 ?_
 have e:=Qch h2;subst e
 exact Qa true (Qcg (Nat.zero_le _) Z Z Z Z Z) h1
 replace h2:=Qh c10 h2
 refine Qcj Z Z Z (Q5 Gh Z)<|Qcj Z Z Z (Q7 QO Z Z Z)<|Qcj Z Z Z (Q4 Z Z Z)<|Qcj Z Z Z (Qd Z Z)<|Qck Z Z Z ?_
 refine Qt (d:=38) (c:=(decide (x7.2 < 0))) Z (fun c11=>?_) (fun c11=>?_)
 replace h2:=Qg c11 h2
 refine Q6 Z Z<|Q6 Z Z<|Q6 Z Z<|Qcj Z Z Z (Qb Z Z)<|Q2 ?_
 have e:=Qch h2;subst e
 exact Qa true (Qcg (Nat.zero_le _) Z Z Z Z Z) h1
 replace h2:=Qh c11 h2
 refine Qcj Z Z Z (Q5 Gh Z)<|Qcj Z Z Z (Q7 QO Z Z Z)<|Qcj Z Z Z (Q4 Z Z Z)<|Qcj Z Z Z (Qd Z Z)<|Q2 ?_
 have e:=Qch h2;subst e
 exact Qa (decide (100 < x7.2)) (Qcg (Nat.zero_le _) Z Z Z Z Z) h1
 intro v8 h1
 unfold Dq at h1
 refine Q1 ?_
 refine Qi (b:=v8) Z (fun c12=>?_) (fun c12=>?_)
 replace h1:=Qg c12 h1
 refine Q3<|Q0<|Qcl Z Z Z<|Q2<|Q1<|Qu ?_
 have e:=Qch h1;subst e
 have e_:_=_:=ho1
 subst e_
 try dsimp only [Sum.elim_inl,Sum.elim_inr] at h0
 have e:=Qch h0;subst e
 exact Qn (fun _ _ h=>h) Z (Qm Z .nil) (.cons (.one (.d _)) .nil)
 replace h1:=Qh c12 h1
 refine Ql<|Q1<|Q3<|Q3 ?_
 refine QK (fun (v13:Bool)=>⟨[(1,.v (.one (.ptr 0 0))),(3,.v (.one (Qcz s1))),(4,.v (.one (.ptr 1 0))),(56,.v (.one (Qd0 v13)))],[(0,.cells 82 (Qd1 a0)),(1,.cells 142 (Qd1 x7))],[],2,67,[]⟩) (fun (v13:Bool)=>(cond v13
     (some (.done (.inr false)))
     (Option.bind (cond (decide (0 < a0.c))
     (some (decide (a0.c≤x7.2)))
     (some false)) (fun (v15:Bool)=>cond v15
     (some (.done (.inr false)))
     (some (.next (QE (s1+1)))))))=some oo1) ?_ ?_
 refine Qv h1 (fun w2_ h2 h1=>?_)
 refine Zh [] [] mixed (by kernel_rfl) (by kernel_rfl) (by kernel_rfl) ?_
 refine RunA.rd Z Z Z (Q9 (J8 Z)) Z<|RunA.rd Z Z Z (Q9 (Q4 Z Z Z)) Z ?_
 refine Zi (c:=(decide (0 < s1))) Z Z Z (Q9 (J8 Z)) Z (fun c14=>?_) (fun c14=>?_)
 replace h2:=Qg c14 h2
 refine RunA.rd Z Z Z (Q9 (Q5 Yv Z)) Z<|RunA.rd Z Z Z (Q9 (Q7 KT Z Z Z)) Z<|RunA.rd Z Z Z (Q9 (J8 Z)) Z<|RunA.rd Z Z Z (Q9 (Q4 Z Z Z)) Z ?_
 refine Qv h2 (fun x15 hx15 h2=>?_)
 refine RunA.rd Z Z Z (Q9 (J7 (α:=Qde) ZE Z (.d _) Z hx15)) Z<|RunA.rd Z Z Z (Q9 (YC JQ Z)) Z<|RunA.rd Z Z Z (Q9 (Z7 QO Z Z)) Z<|RunA.rd Z Z Z (Q9 (Q5 JQ Z)) Z<|RunA.rd Z Z Z (Q9 (Q7 QO Z Z Z)) Z<|RunA.rd Z Z Z (Q9 (Q4 Z Z Z)) Z<|RunA.rd Z Z Z (Q9 (Qb Z Z)) Z ?_
 refine RunA.nil ⟨?ex,_,_,Z,?_⟩
 case ex=>exact trivial
 have e:=Qch h2;subst e
 exact Qa (decide (x7.1≤x15.1)) (Qcg (Nat.zero_le _) Z Z Z Z Z) h1
 replace h2:=Qh c14 h2
 refine RunA.no Z Z Z Z<|RunA.no Z Z Z Z<|RunA.no Z Z Z Z<|RunA.no Z Z Z Z<|RunA.no Z Z Z Z<|RunA.no Z Z Z Z<|RunA.no Z Z Z Z<|RunA.no Z Z Z Z<|RunA.no Z Z Z Z<|RunA.no Z Z Z Z<|RunA.rd Z Z Z (Q9 (Qd Z Z)) Z ?_
 refine RunA.nil ⟨?ex,_,_,Z,?_⟩
 case ex=>exact trivial
 have e:=Qch h2;subst e
 exact Qa false (Qcg (Nat.zero_le _) Z Z Z Z Z) h1
 intro v13 h1
 refine Q1 ?_
 refine Qi (b:=v13) Z (fun c16=>?_) (fun c16=>?_)
 replace h1:=Qg c16 h1
 refine Q3<|Q0<|Qcl Z Z Z<|Q2<|Q1<|Qu ?_
 have e:=Qch h1;subst e
 have e_:_=_:=ho1
 subst e_
 try dsimp only [Sum.elim_inl,Sum.elim_inr] at h0
 have e:=Qch h0;subst e
 exact Qn (fun _ _ h=>h) Z (Qm Z .nil) (.cons (.one (.d _)) .nil)
 replace h1:=Qh c16 h1
 refine Ql<|Q1<|Q3 ?_
 refine QK (fun (v17:Bool)=>⟨[(1,.v (.one (.ptr 0 0))),(3,.v (.one (Qcz s1))),(66,.v (.one (Qd0 v17)))],[(0,.cells 82 (Qd1 a0)),(1,.cells 142 (Qd1 x7))],[],2,67,[]⟩) (fun (v17:Bool)=>(cond v17
     (some (.done (.inr false)))
     (some (.next (QE (s1+1)))))=some oo1) ?_ ?_
 refine Qv h1 (fun w2_ h2 h1=>?_)
 refine Q0<|Qcj Z Z Z (Q5 KM Z)<|Qcj Z Z Z (Q7 QO Z Z Z)<|Qcj Z Z Z (Q4 Z Z Z)<|Qck Z Z Z ?_
 refine Qt (d:=60) (c:=(decide (0 < a0.c))) Z (fun c18=>?_) (fun c18=>?_)
 replace h2:=Qg c18 h2
 refine Qcj Z Z Z (Q5 Gh Z)<|Qcj Z Z Z (Q7 QO Z Z Z)<|Qcj Z Z Z (Q5 KM Z)<|Qcj Z Z Z (Q7 QO Z Z Z)<|Qcj Z Z Z (Q4 Z Z Z)<|Qcj Z Z Z (Qb Z Z)<|Q2 ?_
 have e:=Qch h2;subst e
 exact Qa (decide (a0.c≤x7.2)) (Qcg (Nat.zero_le _) Z Z Z Z Z) h1
 replace h2:=Qh c18 h2
 refine Q6 Z Z<|Q6 Z Z<|Q6 Z Z<|Q6 Z Z<|Q6 Z Z<|Qcj Z Z Z (Qd Z Z)<|Q2 ?_
 have e:=Qch h2;subst e
 exact Qa false (Qcg (Nat.zero_le _) Z Z Z Z Z) h1
 intro v17 h1
 refine Q1 ?_
 refine Qi (b:=v17) Z (fun c19=>?_) (fun c19=>?_)
 replace h1:=Qg c19 h1
 refine Q3<|Q0<|Qcl Z Z Z<|Q2<|Q1<|Qu ?_
 have e:=Qch h1;subst e
 have e_:_=_:=ho1
 subst e_
 try dsimp only [Sum.elim_inl,Sum.elim_inr] at h0
 have e:=Qch h0;subst e
 exact Qn (fun _ _ h=>h) Z (Qm Z .nil) (.cons (.one (.d _)) .nil)
 replace h1:=Qh c19 h1
 refine Ql<|QB<|Q1<|Q0<|Qck Z Z Z<|Qcj Z Z Z (Q4 Z Z Z)<|Qcl Z Z Z<|Q2 ?_
 have e:=Qch h1;subst e
 refine Jd (QE (s1+1)) (Qcg (Nat.zero_le _) Z Z Z Z Z) ho1
 replace h1:=Qh c6 h1
 refine JK<|QI<|QI ?_
 have e:=Qch h1;subst e
 have e_:_=_:=ho1
 subst e_
 exact JC () (Qcg (Nat.zero_le _) Z Z Z Z Z) h0
 intro o4 h0
 refine J5<|Q1<|Q3<|Q0<|Qcl Z Z Z<|Q2<|Q1<|Qu ?_
 have e:=Qch h0;subst e
 exact Qn (fun _ _ h=>h) Z (Qm Z .nil) (.cons (.one (.d _)) .nil)
def GG (a0:Lvl) (a1:Int) (s1:Int):Option (LO Int (Unit⊕Int)) :=
 cond (decide (s1 < (a0.vs.length:Int)))
   (Option.bind (Option.bind (J3 a0.vs s1) fun (x6:Qde) =>
 cond (decide (0≤x6.1))
   (Option.bind (J3 a0.vs s1) fun (x8:Qde) =>
 some (decide (a1≤x8.1)))
   (some false)) (fun (v5:Bool)=>cond v5
   (some (.done (.inr 15)))
   (some (.next (QE (s1+1))))))
   (some (.done (.inl ())))
def KJ (a0:Lvl) (a2:Int) (s1:Int):Option (LO Int (Unit⊕Int)) :=
 cond (decide (s1 < (a0.vs.length:Int)))
   (Option.bind (Option.bind (J3 a0.vs s1) fun (x7:Qde) =>
 cond (decide (x7.1 < 0))
   (Option.bind (J3 a0.vs s1) fun (x9:Qde) =>
 some (decide (a2≤(QE ((-1) - x9.1)))))
   (some false)) (fun (v6:Bool)=>cond v6
   (some (.done (.inr 23)))
   (some (.next (QE (s1+1))))))
   (some (.done (.inl ())))
def Q5n (a0:Lvl) (a1:Int) (a2:Int):Option Int :=
 Option.bind (Q4b a0) fun (x1:Bool) =>
 cond (!x1)
   (some 3)
   (Option.bind (Qj (GG a0 a1) Qk 0) (Sum.elim (fun (o3:Unit)=>Option.bind (Qj (KJ a0 a2) Qk 0) (Sum.elim (fun (o4:Unit)=>some 0) (fun o=>some o))) (fun o=>some o)))
theorem m116_ok (a0:Lvl) (a1:Int) (a2:Int) (r:Int) (h0:Q5n a0 a1 a2=some r):Fun Tryz.prog 116 [.agg (Qd1 a0),.one (Qcz a1),.one (Qcz a2)] (Qw [.one (Qcz r)]):=by
 unfold Q5n at h0
 refine QL 9 61 Tryz.func116 Z en_116 Z (Qcr Z) (fun S w=>?_)
 simp only [J4]
 refine Q3<|Q0<|Qz Z Z (Qcr Z) (Jh Z)<|Qcl Z Z Z<|Q2<|Q1<|Q3<|Q3<|Q0<|Qcj Z Z Z (J6 (a0:Lvl) Wj Z Z) ?_
 refine Qv h0 (fun x1 hx1 h0=>?_)
 refine Qz Z Z (Qcr Z) (QC (m118_ok a0 x1 hx1) Z (.cons (.agg (.cons (.d _) (.cons (.d _) .nil))) .nil))<|Qcj Z Z Z (Z6 Z)<|Q2<|Q1 ?_
 refine Qi (b:=(!x1)) Z (fun c2=>?_) (fun c2=>?_)
 replace h0:=Qg c2 h0
 refine Q3<|Q0<|Qcl Z Z Z<|Q2<|Q1<|Qu ?_
 have e:=Qch h0;subst e
 exact Qn (fun _ _ h=>h) Z (Qm Z .nil) (.cons (.one (.d _)) .nil)
 replace h0:=Qh c2 h0
 refine Ql<|Q1<|Q3<|Q3<|Q0<|Qcl Z Z Z<|Q2<|Q1<|Qx ?_
 refine JE 0 (fun (o3:Unit)=>⟨[(2,.v (.one (Qcz a2))),(3,.v (.one (.ptr 0 0)))],[(0,.cells 82 (Qd1 a0))],[],1,61,[]⟩) (fun (o3:Unit)=>(Option.bind (Qj (KJ a0 a2) Qk 0) (Sum.elim (fun (o4:Unit)=>some 0) (fun o=>some o)))=some r) ?_ ?_
 refine Qv h0 (fun o4 hl1 h0=>?_)
 refine JD (GG a0 a1) (fun s1=>⟨[(1,.v (.one (Qcz a1))),(2,.v (.one (Qcz a2))),(3,.v (.one (.ptr 0 0))),(7,.v (.one (Qcz s1)))],[(0,.cells 82 (Qd1 a0))],[],1,61,[]⟩) 0 o4 (Qcg (Nat.zero_le _) Z Z Z Z Z) hl1 (fun s1 n1 oo1 h1 ho1=>?_)
 unfold GG at h1
 refine Q3<|Q3<|Q0<|Qck Z Z Z<|Qcj Z Z Z (Q5 Yv Z)<|Qcj Z Z Z (Q7 KT Z Z Z)<|Qcj Z Z Z (QS (α:=Qde) ZE Z (.d _))<|Qcj Z Z Z (Q4 Z Z Z)<|Q2<|Q1 ?_
 refine Qi (b:=(decide (s1 < (a0.vs.length:Int)))) Z (fun c5=>?_) (fun c5=>?_)
 replace h1:=Qg c5 h1
 refine Ql<|Q1<|Q3<|Qx<|Q3 ?_
 refine QK (fun (v6:Bool)=>⟨[(1,.v (.one (Qcz a1))),(2,.v (.one (Qcz a2))),(3,.v (.one (.ptr 0 0))),(7,.v (.one (Qcz s1))),(35,.v (.one (Qd0 v6)))],[(0,.cells 82 (Qd1 a0))],[],1,61,[]⟩) (fun (v6:Bool)=>(cond v6
     (some (.done (.inr 15)))
     (some (.next (QE (s1+1)))))=some oo1) ?_ ?_
 refine Qv h1 (fun w2_ h2 h1=>?_)
 refine Q0<|Qcj Z Z Z (Q5 Yv Z)<|Qcj Z Z Z (Q7 KT Z Z Z)<|Qck Z Z Z ?_
 refine Qv h2 (fun x7 hx7 h2=>?_)
 refine Qcj Z Z Z (J7 (α:=Qde) ZE Z (.d _) Z hx7)<|Qcj Z Z Z (YC JQ Z)<|Qcj Z Z Z (Z7 QO Z Z)<|Qcj Z Z Z (Q4 Z Z Z)<|Qck Z Z Z ?_
 refine Qt (d:=26) (c:=(decide (0≤x7.1))) Z (fun c8=>?_) (fun c8=>?_)
 replace h2:=Qg c8 h2
 refine Qcj Z Z Z (Q5 Yv Z)<|Qcj Z Z Z (Q7 KT Z Z Z)<|Qck Z Z Z ?_
 refine Qv h2 (fun x9 hx9 h2=>?_)
 refine Qcj Z Z Z (J7 (α:=Qde) ZE Z (.d _) Z hx9)<|Qcj Z Z Z (YC JQ Z)<|Qcj Z Z Z (Z7 QO Z Z)<|Qck Z Z Z<|Qcj Z Z Z (Q4 Z Z Z)<|Qcj Z Z Z (Qb Z Z)<|Q2 ?_
 have e:=Qch h2;subst e
 exact Qa (decide (a1≤x9.1)) (Qcg (Nat.zero_le _) Z Z Z Z Z) h1
 replace h2:=Qh c8 h2
 refine Q6 Z Z<|Q6 Z Z<|Q6 Z Z<|Q6 Z Z<|Q6 Z Z<|Q6 Z Z<|Q6 Z Z<|Q6 Z Z<|Qcj Z Z Z (Qd Z Z)<|Q2 ?_
 have e:=Qch h2;subst e
 exact Qa false (Qcg (Nat.zero_le _) Z Z Z Z Z) h1
 intro v6 h1
 refine Q1 ?_
 refine Qi (b:=v6) Z (fun c10=>?_) (fun c10=>?_)
 replace h1:=Qg c10 h1
 refine Q3<|Q0<|Qcl Z Z Z<|Q2<|Q1<|Qu ?_
 have e:=Qch h1;subst e
 have e_:_=_:=ho1
 subst e_
 try dsimp only [Sum.elim_inl,Sum.elim_inr] at h0
 have e:=Qch h0;subst e
 exact Qn (fun _ _ h=>h) Z (Qm Z .nil) (.cons (.one (.d _)) .nil)
 replace h1:=Qh c10 h1
 refine Ql<|QB<|Q1<|Q0<|Qck Z Z Z<|Qcj Z Z Z (Q4 Z Z Z)<|Qcl Z Z Z<|Q2 ?_
 have e:=Qch h1;subst e
 refine Jd (QE (s1+1)) (Qcg (Nat.zero_le _) Z Z Z Z Z) ho1
 replace h1:=Qh c5 h1
 refine JK<|QI<|QI ?_
 have e:=Qch h1;subst e
 have e_:_=_:=ho1
 subst e_
 exact JC () (Qcg (Nat.zero_le _) Z Z Z Z Z) h0
 intro o3 h0
 refine J5<|Q1<|Q3<|Q3<|Q0<|Qcl Z Z Z<|Q2<|Q1<|Qx ?_
 refine JE 2 (fun (o11:Unit)=>⟨[],[(0,.cells 82 (Qd1 a0))],[],1,61,[]⟩) (fun (o11:Unit)=>(some 0)=some r) ?_ ?_
 refine Qv h0 (fun o12 hl1 h0=>?_)
 refine JD (KJ a0 a2) (fun s1=>⟨[(2,.v (.one (Qcz a2))),(3,.v (.one (.ptr 0 0))),(8,.v (.one (Qcz s1)))],[(0,.cells 82 (Qd1 a0))],[],1,61,[]⟩) 0 o12 (Qcg (Nat.zero_le _) Z Z Z Z Z) hl1 (fun s1 n1 oo1 h1 ho1=>?_)
 unfold KJ at h1
 refine Q3<|Q3<|Q0<|Qck Z Z Z<|Qcj Z Z Z (Q5 Yv Z)<|Qcj Z Z Z (Q7 KT Z Z Z)<|Qcj Z Z Z (QS (α:=Qde) ZE Z (.d _))<|Qcj Z Z Z (Q4 Z Z Z)<|Q2<|Q1 ?_
 refine Qi (b:=(decide (s1 < (a0.vs.length:Int)))) Z (fun c13=>?_) (fun c13=>?_)
 replace h1:=Qg c13 h1
 refine Ql<|Q1<|Q3<|Qx<|Q3 ?_
 refine QK (fun (v14:Bool)=>⟨[(2,.v (.one (Qcz a2))),(3,.v (.one (.ptr 0 0))),(8,.v (.one (Qcz s1))),(60,.v (.one (Qd0 v14)))],[(0,.cells 82 (Qd1 a0))],[],1,61,[]⟩) (fun (v14:Bool)=>(cond v14
     (some (.done (.inr 23)))
     (some (.next (QE (s1+1)))))=some oo1) ?_ ?_
 refine Qv h1 (fun w2_ h2 h1=>?_)
 refine Q0<|Qcj Z Z Z (Q5 Yv Z)<|Qcj Z Z Z (Q7 KT Z Z Z)<|Qck Z Z Z ?_
 refine Qv h2 (fun x15 hx15 h2=>?_)
 refine Qcj Z Z Z (J7 (α:=Qde) ZE Z (.d _) Z hx15)<|Qcj Z Z Z (YC JQ Z)<|Qcj Z Z Z (Z7 QO Z Z)<|Qcj Z Z Z (Q4 Z Z Z)<|Qck Z Z Z ?_
 refine Qt (d:=50) (c:=(decide (x15.1 < 0))) Z (fun c16=>?_) (fun c16=>?_)
 replace h2:=Qg c16 h2
 refine Qcj Z Z Z (Q5 Yv Z)<|Qcj Z Z Z (Q7 KT Z Z Z)<|Qck Z Z Z ?_
 refine Qv h2 (fun x17 hx17 h2=>?_)
 refine Qcj Z Z Z (J7 (α:=Qde) ZE Z (.d _) Z hx17)<|Qcj Z Z Z (YC JQ Z)<|Qcj Z Z Z (Z7 QO Z Z)<|Qcj Z Z Z (Q4 Z Z Z)<|Qck Z Z Z<|Qcj Z Z Z (Q4 Z Z Z)<|Qcj Z Z Z (Qb Z Z)<|Q2 ?_
 have e:=Qch h2;subst e
 exact Qa (decide (a2≤(QE ((-1) - x17.1)))) (Qcg (Nat.zero_le _) Z Z Z Z Z) h1
 replace h2:=Qh c16 h2
 refine Q6 Z Z<|Q6 Z Z<|Q6 Z Z<|Q6 Z Z<|Q6 Z Z<|Q6 Z Z<|Q6 Z Z<|Q6 Z Z<|Q6 Z Z<|Qcj Z Z Z (Qd Z Z)<|Q2 ?_
 have e:=Qch h2;subst e
 exact Qa false (Qcg (Nat.zero_le _) Z Z Z Z Z) h1
 intro v14 h1
 refine Q1 ?_
 refine Qi (b:=v14) Z (fun c18=>?_) (fun c18=>?_)
 replace h1:=Qg c18 h1
 refine Q3<|Q0<|Qcl Z Z Z<|Q2<|Q1<|Qu ?_
 have e:=Qch h1;subst e
 have e_:_=_:=ho1
 subst e_
 try dsimp only [Sum.elim_inl,Sum.elim_inr] at h0
 have e:=Qch h0;subst e
 exact Qn (fun _ _ h=>h) Z (Qm Z .nil) (.cons (.one (.d _)) .nil)
 replace h1:=Qh c18 h1
 refine Ql<|QB<|Q1<|Q0<|Qck Z Z Z<|Qcj Z Z Z (Q4 Z Z Z)<|Qcl Z Z Z<|Q2 ?_
 have e:=Qch h1;subst e
 refine Jd (QE (s1+1)) (Qcg (Nat.zero_le _) Z Z Z Z Z) ho1
 replace h1:=Qh c13 h1
 refine JK<|QI<|QI ?_
 have e:=Qch h1;subst e
 have e_:_=_:=ho1
 subst e_
 exact JC () (Qcg (Nat.zero_le _) Z Z Z Z Z) h0
 intro o11 h0
 refine J5<|Q1<|Q3<|Q0<|Qcl Z Z Z<|Q2<|Q1<|Qu ?_
 have e:=Qch h0;subst e
 exact Qn (fun _ _ h=>h) Z (Qm Z .nil) (.cons (.one (.d _)) .nil)
def GE (a0:Tm) (a3:Int) (a5:Int) (s1:Int):Option (LO Int (Unit⊕Int)) :=
 cond (decide (s1 < (a0.levels.length:Int)))
   (Option.bind (J3 a0.levels s1) fun (x8:Lvl) =>
 Option.bind (Q5n x8 a3 a5) fun (x9:Int) =>
 cond (x9 != 0)
   (some (.done (.inr x9)))
   (some (.next (QE (s1+1)))))
   (some (.done (.inl ())))
def Zr (a0:Tm) (rc:Tm×Int×Int×Int×Int×Int→Option Int) (a1:Int) (a2:Int) (a3:Int) (a4:Int) (a5:Int) (s1:Int):Option (LO Int (Unit⊕Int)) :=
 cond (decide (s1 < (a0.kids.length:Int)))
   (Option.bind (J3 a0.kids s1) fun (x13:Tm) =>
 Option.bind (DU a0.kind s1) fun (x14:Int) =>
 Option.bind (rc (x13,(QE (a1+x14)),a2,a3,a4,a5)) fun (x15:Int) =>
 cond (x15 != 0)
   (some (.done (.inr x15)))
   (some (.next (QE (s1+1)))))
   (some (.done (.inl ())))
def G0 (p0_:Bool) (p1_:Tm) (p2_:Int) (p3_:Tm×Int×Int×Int×Int×Int→Option Int) (p4_:Int) (p5_:Int) (p6_:Int) (p7_:Int):Option Int :=
 cond p0_
   (some 24)
   (Option.bind (cond (p1_.kind==12)
   (cond (decide (p1_.index < 0))
   (some true)
   (some (decide (p2_≤p1_.index))))
   (some false)) (fun (b0_:Bool)=>cond b0_
   (some 23)
   (Option.bind (Qj (Zr p1_ p3_ p4_ p5_ p6_ p2_ p7_) Qk 0) (Sum.elim (fun (b1_:Unit)=>some 0) (fun o=>some o)))))
def Q5c (p0_:Bool) (p1_:Tm) (p2_:Int) (p3_:Int) (p4_:Int) (p5_:Int) (p6_:Int) (p7_:Tm×Int×Int×Int×Int×Int→Option Int):Option Int :=
 cond p0_
   (some 29)
   (cond (decide (8 < (p1_.levels.length:Int)))
   (some 6)
   (Option.bind (Qj (GE p1_ p2_ p3_) Qk 0) (Sum.elim (fun (b0_:Unit)=>Option.bind (cond (p1_.kind==0)
   (cond (decide (p1_.index < 0))
   (some true)
   (some (decide (p4_≤(QE (p1_.index - p5_))))))
   (some false)) (fun (b1_:Bool)=>G0 b1_ p1_ p6_ p7_ p5_ p4_ p2_ p3_)) (fun o=>some o))))
def Q5b (rc:Tm×Int×Int×Int×Int×Int→Option Int) (a0:Tm) (a1:Int) (a2:Int) (a3:Int) (a4:Int) (a5:Int):Option Int :=
 Option.bind (Q4c a0) fun (x1:Bool) =>
 cond (!x1)
   (some 3)
   (Option.bind (cond (a0.kind==3)
   (Option.bind (Q92 a0.name) fun (x5:Bool) =>
 some (!x5))
   (some false)) (fun (v3:Bool)=>Q5c v3 a0 a3 a5 a2 a1 a4 rc))
def Dg (rc:Tm×Int×Int×Int×Int×Int→Option Int) (u:Tm×Int×Int×Int×Int×Int):Option Int:=Q5b rc u.1 u.2.1 u.2.2.1 u.2.2.2.1 u.2.2.2.2.1 u.2.2.2.2.2
def Qbk (a0:Tm) (a1:Int) (a2:Int) (a3:Int) (a4:Int) (a5:Int):Option Int:=QX Dg Qk (a0,a1,a2,a3,a4,a5)
theorem m65s_ok (rc:Tm×Int×Int×Int×Int×Int→Option Int) (H:∀ (a0:Tm) (a1:Int) (a2:Int) (a3:Int) (a4:Int) (a5:Int) (r:Int),rc (a0,a1,a2,a3,a4,a5)=some r→Fun Tryz.prog 65 [.agg (Qd1 a0),.one (Qcz a1),.one (Qcz a2),.one (Qcz a3),.one (Qcz a4),.one (Qcz a5)] (Qw [.one (Qcz r)])) (a0:Tm) (a1:Int) (a2:Int) (a3:Int) (a4:Int) (a5:Int) (r:Int) (h0:Q5b rc a0 a1 a2 a3 a4 a5=some r):Fun Tryz.prog 65 [.agg (Qd1 a0),.one (Qcz a1),.one (Qcz a2),.one (Qcz a3),.one (Qcz a4),.one (Qcz a5)] (Qw [.one (Qcz r)]):=by
 unfold Q5b at h0
 refine QL 9 107 Tryz.func65 Z en_65 Z (Qcr Z) (fun S w=>?_)
 simp only [J4]
 refine Q3<|Q0<|Qz Z Z (Qcr Z) (Jh Z)<|Qcl Z Z Z<|Q2<|Q1<|Q3<|Q3<|Q0<|Qcj Z Z Z (J6 (a0:Tm) Zg Z Z) ?_
 refine Qv h0 (fun x1 hx1 h0=>?_)
 refine Qz Z Z (Qcr Z) (QC (m115_ok a0 x1 hx1) Z (.cons (.agg (.cons (.d _) (.cons (.d _) (.cons (.d _) (.cons (.d _) (.cons (.d _) .nil)))))) .nil))<|Qcj Z Z Z (Z6 Z)<|Q2<|Q1 ?_
 refine Qi (b:=(!x1)) Z (fun c2=>?_) (fun c2=>?_)
 replace h0:=Qg c2 h0
 refine Q3<|Q0<|Qcl Z Z Z<|Q2<|Q1<|Qu ?_
 have e:=Qch h0;subst e
 exact Qn (fun _ _ h=>h) Z (Qm Z .nil) (.cons (.one (.d _)) .nil)
 replace h0:=Qh c2 h0
 refine Ql<|Q1<|Q3<|Q3 ?_
 refine QK (fun (v3:Bool)=>⟨[(1,.v (.one (Qcz a1))),(2,.v (.one (Qcz a2))),(3,.v (.one (Qcz a3))),(4,.v (.one (Qcz a4))),(5,.v (.one (Qcz a5))),(6,.v (.one (.ptr 0 0))),(28,.v (.one (Qd0 v3)))],[(0,.cells 25 (Qd1 a0))],[],1,107,[]⟩) (fun (v3:Bool)=>(Q5c v3 a0 a3 a5 a2 a1 a4 rc)=some r) ?_ ?_
 refine Qv h0 (fun w1_ h1 h0=>?_)
 refine Q0<|Qcj Z Z Z (Q5 Jj Z)<|Qcj Z Z Z (Q7 QO Z Z Z)<|Qcj Z Z Z (Q4 Z Z Z)<|Qck Z Z Z ?_
 refine Qt (d:=23) (c:=(a0.kind==3)) Z (fun c4=>?_) (fun c4=>?_)
 replace h1:=Qg c4 h1
 refine Qcj Z Z Z (Q5 U2 Z)<|Qcj Z Z Z (Q7 Q8u Z Z Z) ?_
 refine Qv h1 (fun x5 hx5 h1=>?_)
 refine Qz Z Z (Qcr Z) (QC (m98_ok a0.name x5 hx5) Z (.cons (.one (.d _)) .nil))<|Qcj Z Z Z (Z6 Z)<|Qcj Z Z Z (Qb Z Z)<|Q2 ?_
 have e:=Qch h1;subst e
 exact Qa (!x5) (Qcg (Nat.zero_le _) Z Z Z Z Z) h0
 replace h1:=Qh c4 h1
 refine Q6 Z Z<|Q6 Z Z<|Q6 Z Z<|Q6 Z Z<|Qcj Z Z Z (Qd Z Z)<|Q2 ?_
 have e:=Qch h1;subst e
 exact Qa false (Qcg (Nat.zero_le _) Z Z Z Z Z) h0
 intro v3 h0
 unfold Q5c at h0
 refine Q1 ?_
 refine Qi (b:=v3) Z (fun c6=>?_) (fun c6=>?_)
 replace h0:=Qg c6 h0
 refine Q3<|Q0<|Qcl Z Z Z<|Q2<|Q1<|Qu ?_
 have e:=Qch h0;subst e
 exact Qn (fun _ _ h=>h) Z (Qm Z .nil) (.cons (.one (.d _)) .nil)
 replace h0:=Qh c6 h0
 refine Ql<|Q1<|Q3<|Q3<|Q0<|Qcj Z Z Z (Q5 YZ Z)<|Qcj Z Z Z (Q7 X4 Z Z Z)<|Qcj Z Z Z (QS (α:=Lvl) KD Z (.d _))<|Qcj Z Z Z (Q4 Z Z Z)<|Q2<|Q1 ?_
 refine Qi (b:=(decide (8 < (a0.levels.length:Int)))) Z (fun c7=>?_) (fun c7=>?_)
 replace h0:=Qg c7 h0
 refine Q3<|Q0<|Qcl Z Z Z<|Q2<|Q1<|Qu ?_
 have e:=Qch h0;subst e
 exact Qn (fun _ _ h=>h) Z (Qm Z .nil) (.cons (.one (.d _)) .nil)
 replace h0:=Qh c7 h0
 refine Ql<|Q1<|Q3<|Q3<|Q0<|Qcl Z Z Z<|Q2<|Q1<|Qx ?_
 refine JE 0 (fun (o8:Unit)=>⟨[(1,.v (.one (Qcz a1))),(2,.v (.one (Qcz a2))),(3,.v (.one (Qcz a3))),(4,.v (.one (Qcz a4))),(5,.v (.one (Qcz a5))),(6,.v (.one (.ptr 0 0)))],[(0,.cells 25 (Qd1 a0))],[],1,107,[]⟩) (fun (o8:Unit)=>(Option.bind (cond (a0.kind==0)
     (cond (decide (a0.index < 0))
     (some true)
     (some (decide (a2≤(QE (a0.index - a1))))))
     (some false)) (fun (v9:Bool)=>G0 v9 a0 a4 rc a1 a2 a3 a5))=some r) ?_ ?_
 refine Qv h0 (fun o9 hl1 h0=>?_)
 refine JD (GE a0 a3 a5) (fun s1=>⟨[(1,.v (.one (Qcz a1))),(2,.v (.one (Qcz a2))),(3,.v (.one (Qcz a3))),(4,.v (.one (Qcz a4))),(5,.v (.one (Qcz a5))),(6,.v (.one (.ptr 0 0))),(13,.v (.one (Qcz s1)))],[(0,.cells 25 (Qd1 a0))],[],1,107,[]⟩) 0 o9 (Qcg (Nat.zero_le _) Z Z Z Z Z) hl1 (fun s1 n1 oo1 h1 ho1=>?_)
 unfold GE at h1
 refine Q3<|Q3<|Q0<|Qck Z Z Z<|Qcj Z Z Z (Q5 YZ Z)<|Qcj Z Z Z (Q7 X4 Z Z Z)<|Qcj Z Z Z (QS (α:=Lvl) KD Z (.d _))<|Qcj Z Z Z (Q4 Z Z Z)<|Q2<|Q1 ?_
 refine Qi (b:=(decide (s1 < (a0.levels.length:Int)))) Z (fun c10=>?_) (fun c10=>?_)
 replace h1:=Qg c10 h1
 refine Ql<|Q1<|Q3<|Qx<|Q3<|Q0<|Qcj Z Z Z (Q5 YZ Z)<|Qcj Z Z Z (Q7 X4 Z Z Z)<|Qck Z Z Z ?_
 refine Qv h1 (fun x11 hx11 h1=>?_)
 refine Qcj Z Z Z (J7 (α:=Lvl) KD Z (.d _) Z hx11)<|Qcj Z Z Z (Jc (x11:Lvl) Wj Z)<|Qck Z Z Z<|Qck Z Z Z ?_
 refine Qv h1 (fun x12 hx12 h1=>?_)
 refine Qz Z Z (Qcr Z) (QC (m116_ok x11 a3 a5 x12 hx12) Z (.cons (.agg (.cons (.d _) (.cons (.d _) .nil))) (.cons (.one (.d _)) (.cons (.one (.d _)) .nil))))<|Qcl Z Z Z<|Q2<|Q1<|Q3<|Q0<|Qck Z Z Z<|Qcj Z Z Z (Q4 Z Z Z)<|Q2<|Q1 ?_
 refine Qi (b:=(x12 != 0)) Z (fun c13=>?_) (fun c13=>?_)
 replace h1:=Qg c13 h1
 refine Q3<|Q0<|Qck Z Z Z<|Qcl Z Z Z<|Q2<|Q1<|Qu ?_
 have e:=Qch h1;subst e
 have e_:_=_:=ho1
 subst e_
 try dsimp only [Sum.elim_inl,Sum.elim_inr] at h0
 have e:=Qch h0;subst e
 exact Qn (fun _ _ h=>h) Z (Qm Z .nil) (.cons (.one (.d _)) .nil)
 replace h1:=Qh c13 h1
 refine Ql<|QB<|Q1<|Q0<|Qck Z Z Z<|Qcj Z Z Z (Q4 Z Z Z)<|Qcl Z Z Z<|Q2 ?_
 have e:=Qch h1;subst e
 refine Jd (QE (s1+1)) (Qcg (Nat.zero_le _) Z Z Z Z Z) ho1
 replace h1:=Qh c10 h1
 refine JK<|QI<|QI ?_
 have e:=Qch h1;subst e
 have e_:_=_:=ho1
 subst e_
 exact JC () (Qcg (Nat.zero_le _) Z Z Z Z Z) h0
 intro o8 h0
 refine J5<|Q1<|Q3<|Q3 ?_
 refine QK (fun (v14:Bool)=>⟨[(1,.v (.one (Qcz a1))),(2,.v (.one (Qcz a2))),(3,.v (.one (Qcz a3))),(4,.v (.one (Qcz a4))),(5,.v (.one (Qcz a5))),(6,.v (.one (.ptr 0 0))),(66,.v (.one (Qd0 v14)))],[(0,.cells 25 (Qd1 a0))],[],1,107,[]⟩) (fun (v14:Bool)=>(G0 v14 a0 a4 rc a1 a2 a3 a5)=some r) ?_ ?_
 refine Qv h0 (fun w1_ h1 h0=>?_)
 refine Q0<|Qcj Z Z Z (Q5 Jj Z)<|Qcj Z Z Z (Q7 QO Z Z Z)<|Qcj Z Z Z (Q4 Z Z Z)<|Qck Z Z Z ?_
 refine Qt (d:=54) (c:=(a0.kind==0)) Z (fun c15=>?_) (fun c15=>?_)
 replace h1:=Qg c15 h1
 refine Qcj Z Z Z (Q5 Yw Z)<|Qcj Z Z Z (Q7 QO Z Z Z)<|Qcj Z Z Z (Q4 Z Z Z)<|Qck Z Z Z ?_
 refine Qt (d:=58) (c:=(decide (a0.index < 0))) Z (fun c16=>?_) (fun c16=>?_)
 replace h1:=Qg c16 h1
 refine Q6 Z Z<|Q6 Z Z<|Q6 Z Z<|Q6 Z Z<|Q6 Z Z<|Q6 Z Z<|Qcj Z Z Z (Qb Z Z)<|Qcj Z Z Z (Qb Z Z)<|Q2 ?_
 have e:=Qch h1;subst e
 exact Qa true (Qcg (Nat.zero_le _) Z Z Z Z Z) h0
 replace h1:=Qh c16 h1
 refine Qcj Z Z Z (Q5 Yw Z)<|Qcj Z Z Z (Q7 QO Z Z Z)<|Qck Z Z Z<|Qcj Z Z Z (Q4 Z Z Z)<|Qck Z Z Z<|Qcj Z Z Z (Q4 Z Z Z)<|Qcj Z Z Z (Qd Z Z)<|Qcj Z Z Z (Qb Z Z)<|Q2 ?_
 have e:=Qch h1;subst e
 exact Qa (decide (a2≤(QE (a0.index - a1)))) (Qcg (Nat.zero_le _) Z Z Z Z Z) h0
 replace h1:=Qh c15 h1
 refine Q6 Z Z<|Q6 Z Z<|Q6 Z Z<|Q6 Z Z<|Q6 Z Z<|Q6 Z Z<|Q6 Z Z<|Q6 Z Z<|Q6 Z Z<|Q6 Z Z<|Q6 Z Z<|Qcj Z Z Z (Qd Z Z)<|Q2 ?_
 have e:=Qch h1;subst e
 exact Qa false (Qcg (Nat.zero_le _) Z Z Z Z Z) h0
 intro v14 h0
 unfold G0 at h0
 refine Q1 ?_
 refine Qi (b:=v14) Z (fun c17=>?_) (fun c17=>?_)
 replace h0:=Qg c17 h0
 refine Q3<|Q0<|Qcl Z Z Z<|Q2<|Q1<|Qu ?_
 have e:=Qch h0;subst e
 exact Qn (fun _ _ h=>h) Z (Qm Z .nil) (.cons (.one (.d _)) .nil)
 replace h0:=Qh c17 h0
 refine Ql<|Q1<|Q3<|Q3 ?_
 refine QK (fun (v18:Bool)=>⟨[(1,.v (.one (Qcz a1))),(2,.v (.one (Qcz a2))),(3,.v (.one (Qcz a3))),(4,.v (.one (Qcz a4))),(5,.v (.one (Qcz a5))),(6,.v (.one (.ptr 0 0))),(80,.v (.one (Qd0 v18)))],[(0,.cells 25 (Qd1 a0))],[],1,107,[]⟩) (fun (v18:Bool)=>(cond v18
     (some 23)
     (Option.bind (Qj (Zr a0 rc a1 a2 a3 a4 a5) Qk 0) (Sum.elim (fun (o20:Unit)=>some 0) (fun o=>some o))))=some r) ?_ ?_
 refine Qv h0 (fun w1_ h1 h0=>?_)
 refine Q0<|Qcj Z Z Z (Q5 Jj Z)<|Qcj Z Z Z (Q7 QO Z Z Z)<|Qcj Z Z Z (Q4 Z Z Z)<|Qck Z Z Z ?_
 refine Qt (d:=70) (c:=(a0.kind==12)) Z (fun c19=>?_) (fun c19=>?_)
 replace h1:=Qg c19 h1
 refine Qcj Z Z Z (Q5 Yw Z)<|Qcj Z Z Z (Q7 QO Z Z Z)<|Qcj Z Z Z (Q4 Z Z Z)<|Qck Z Z Z ?_
 refine Qt (d:=74) (c:=(decide (a0.index < 0))) Z (fun c20=>?_) (fun c20=>?_)
 replace h1:=Qg c20 h1
 refine Q6 Z Z<|Q6 Z Z<|Q6 Z Z<|Q6 Z Z<|Qcj Z Z Z (Qb Z Z)<|Qcj Z Z Z (Qb Z Z)<|Q2 ?_
 have e:=Qch h1;subst e
 exact Qa true (Qcg (Nat.zero_le _) Z Z Z Z Z) h0
 replace h1:=Qh c20 h1
 refine Qcj Z Z Z (Q5 Yw Z)<|Qcj Z Z Z (Q7 QO Z Z Z)<|Qck Z Z Z<|Qcj Z Z Z (Q4 Z Z Z)<|Qcj Z Z Z (Qd Z Z)<|Qcj Z Z Z (Qb Z Z)<|Q2 ?_
 have e:=Qch h1;subst e
 exact Qa (decide (a4≤a0.index)) (Qcg (Nat.zero_le _) Z Z Z Z Z) h0
 replace h1:=Qh c19 h1
 refine Q6 Z Z<|Q6 Z Z<|Q6 Z Z<|Q6 Z Z<|Q6 Z Z<|Q6 Z Z<|Q6 Z Z<|Q6 Z Z<|Q6 Z Z<|Qcj Z Z Z (Qd Z Z)<|Q2 ?_
 have e:=Qch h1;subst e
 exact Qa false (Qcg (Nat.zero_le _) Z Z Z Z Z) h0
 intro v18 h0
 refine Q1 ?_
 refine Qi (b:=v18) Z (fun c21=>?_) (fun c21=>?_)
 replace h0:=Qg c21 h0
 refine Q3<|Q0<|Qcl Z Z Z<|Q2<|Q1<|Qu ?_
 have e:=Qch h0;subst e
 exact Qn (fun _ _ h=>h) Z (Qm Z .nil) (.cons (.one (.d _)) .nil)
 replace h0:=Qh c21 h0
 refine Ql<|Q1<|Q3<|Q3<|Q0<|Qcl Z Z Z<|Q2<|Q1<|Qx ?_
 refine JE 2 (fun (o22:Unit)=>⟨[],[(0,.cells 25 (Qd1 a0))],[],1,107,[]⟩) (fun (o22:Unit)=>(some 0)=some r) ?_ ?_
 refine Qv h0 (fun o23 hl1 h0=>?_)
 refine JD (Zr a0 rc a1 a2 a3 a4 a5) (fun s1=>⟨[(1,.v (.one (Qcz a1))),(2,.v (.one (Qcz a2))),(3,.v (.one (Qcz a3))),(4,.v (.one (Qcz a4))),(5,.v (.one (Qcz a5))),(6,.v (.one (.ptr 0 0))),(15,.v (.one (Qcz s1)))],[(0,.cells 25 (Qd1 a0))],[],1,107,[]⟩) 0 o23 (Qcg (Nat.zero_le _) Z Z Z Z Z) hl1 (fun s1 n1 oo1 h1 ho1=>?_)
 unfold Zr at h1
 refine Q3<|Q3<|Q0<|Qck Z Z Z<|Qcj Z Z Z (Q5 Y2 Z)<|Qcj Z Z Z (Q7 ZW Z Z Z)<|Qcj Z Z Z (QS (α:=Tm) Zl Z (.d _))<|Qcj Z Z Z (Q4 Z Z Z)<|Q2<|Q1 ?_
 refine Qi (b:=(decide (s1 < (a0.kids.length:Int)))) Z (fun c24=>?_) (fun c24=>?_)
 replace h1:=Qg c24 h1
 refine Ql<|Q1<|Q3<|Qx<|Q3 ?_
 refine Zh [] [] mixed (by kernel_rfl) (by kernel_rfl) (by kernel_rfl) ?_
 refine RunA.rd Z Z Z (Q9 (Q5 Y2 Z)) Z<|RunA.rd Z Z Z (Q9 (Q7 ZW Z Z Z)) Z<|RunA.rd Z Z Z (Q9 (J8 Z)) Z ?_
 refine Qv h1 (fun x25 hx25 h1=>?_)
 refine RunA.rd Z Z Z (Q9 (J7 (α:=Tm) Zl Z (.d _) Z hx25)) Z<|RunA.rd Z Z Z (Q9 (Jc (x25:Tm) Zg Z)) Z<|RunA.rd Z Z Z (Q9 (J8 Z)) Z<|RunA.rd Z Z Z (Q9 (Q5 Jj Z)) Z<|RunA.rd Z Z Z (Q9 (Q7 QO Z Z Z)) Z<|RunA.rd Z Z Z (Q9 (J8 Z)) Z ?_
 refine Qv h1 (fun x26 hx26 h1=>?_)
 refine RunA.rd Z Z Z (QC (m117_ok a0.kind s1 x26 hx26) Z (.cons (.one (.d _)) (.cons (.one (.d _)) .nil))) Z<|RunA.rd Z Z Z (Q9 (Q4 Z Z Z)) Z<|RunA.rd Z Z Z (Q9 (J8 Z)) Z<|RunA.rd Z Z Z (Q9 (J8 Z)) Z<|RunA.rd Z Z Z (Q9 (J8 Z)) Z<|RunA.rd Z Z Z (Q9 (J8 Z)) Z ?_
 refine Qv h1 (fun x27 hx27 h1=>?_)
 refine RunA.rd Z Z Z (QC (H x25 (QE (a1+x26)) a2 a3 a4 a5 x27 hx27) Z (.cons (.agg (.cons (.d _) (.cons (.d _) (.cons (.d _) (.cons (.d _) (.cons (.d _) .nil)))))) (.cons (.one (.d _)) (.cons (.one (.d _)) (.cons (.one (.d _)) (.cons (.one (.d _)) (.cons (.one (.d _)) .nil))))))) Z<|RunA.rd Z Z Z (Q9 (UQ Z)) Z ?_
 refine RunA.nil ⟨?ex,_,_,Z,?_⟩
 case ex=>exact trivial
 refine Q3h (st':=⟨[(1,.v (.one (Qcz a1))),(2,.v (.one (Qcz a2))),(3,.v (.one (Qcz a3))),(4,.v (.one (Qcz a4))),(5,.v (.one (Qcz a5))),(6,.v (.one (.ptr 0 0))),(15,.v (.one (Qcz s1))),(16,.v (.one (Qcz x27)))],[(0,.cells 25 (Qd1 a0))],[],1,107,[]⟩) (Qcg (Nat.zero_le _) Z Z Z Z Z)<|Q1<|Q3<|Q0<|Qck Z Z Z<|Qcj Z Z Z (Q4 Z Z Z)<|Q2<|Q1 ?_
 refine Qi (b:=(x27 != 0)) Z (fun c28=>?_) (fun c28=>?_)
 replace h1:=Qg c28 h1
 refine Q3<|Q0<|Qck Z Z Z<|Qcl Z Z Z<|Q2<|Q1<|Qu ?_
 have e:=Qch h1;subst e
 have e_:_=_:=ho1
 subst e_
 try dsimp only [Sum.elim_inl,Sum.elim_inr] at h0
 have e:=Qch h0;subst e
 exact Qn (fun _ _ h=>h) Z (Qm Z .nil) (.cons (.one (.d _)) .nil)
 replace h1:=Qh c28 h1
 refine Ql<|QB<|Q1<|Q0<|Qck Z Z Z<|Qcj Z Z Z (Q4 Z Z Z)<|Qcl Z Z Z<|Q2 ?_
 have e:=Qch h1;subst e
 refine Jd (QE (s1+1)) (Qcg (Nat.zero_le _) Z Z Z Z Z) ho1
 replace h1:=Qh c24 h1
 refine JK<|QI<|QI ?_
 have e:=Qch h1;subst e
 have e_:_=_:=ho1
 subst e_
 exact JC () (Qcg (Nat.zero_le _) Z Z Z Z Z) h0
 intro o22 h0
 refine J5<|Q1<|Q3<|Q0<|Qcl Z Z Z<|Q2<|Q1<|Qu ?_
 have e:=Qch h0;subst e
 exact Qn (fun _ _ h=>h) Z (Qm Z .nil) (.cons (.one (.d _)) .nil)
theorem m65_all (n:Nat) (u:Tm×Int×Int×Int×Int×Int) (r:Int) (h0:QX Dg n u=some r):Fun Tryz.prog 65 [.agg (Qd1 u.1),.one (Qcz u.2.1),.one (Qcz u.2.2.1),.one (Qcz u.2.2.2.1),.one (Qcz u.2.2.2.2.1),.one (Qcz u.2.2.2.2.2)] (Qw [.one (Qcz r)]) :=
 Jy (C:=fun u r=>Fun Tryz.prog 65 [.agg (Qd1 u.1),.one (Qcz u.2.1),.one (Qcz u.2.2.1),.one (Qcz u.2.2.2.1),.one (Qcz u.2.2.2.2.1),.one (Qcz u.2.2.2.2.2)] (Qw [.one (Qcz r)])) (fun rc H u r h=>m65s_ok rc (fun a0 a1 a2 a3 a4 a5 r h=>H (a0,a1,a2,a3,a4,a5) r h) u.1 u.2.1 u.2.2.1 u.2.2.2.1 u.2.2.2.2.1 u.2.2.2.2.2 r h) n u r h0
theorem m65_ok (a0:Tm) (a1:Int) (a2:Int) (a3:Int) (a4:Int) (a5:Int) (r:Int) (h0:Qbk a0 a1 a2 a3 a4 a5=some r):Fun Tryz.prog 65 [.agg (Qd1 a0),.one (Qcz a1),.one (Qcz a2),.one (Qcz a3),.one (Qcz a4),.one (Qcz a5)] (Qw [.one (Qcz r)]):=m65_all Qk (a0,a1,a2,a3,a4,a5) r h0
def Wv (a0:Tm) (rc:Tm→Option Int) (s1:Int×Int):Option (LO (Int×Int) Int) :=
 cond (decide (s1.2 < (a0.kids.length:Int)))
   (Option.bind (J3 a0.kids s1.2) fun (x3:Tm) =>
 Option.bind (rc x3) fun (x4:Int) =>
 some (.next ((QE (s1.1+x4)),(QE (s1.2+1)))))
   (some (.done s1.1))
def Q8c (rc:Tm→Option Int) (a0:Tm):Option Int :=
 Option.bind (Qj (Wv a0 rc) Qk (1,0)) (fun (o1:Int)=>some o1)
def Q78 (rc:Tm→Option Int) (u:Tm):Option Int:=Q8c rc u
def Qc4 (a0:Tm):Option Int:=QX Q78 Qk a0
theorem m66s_ok (rc:Tm→Option Int) (H:∀ (a0:Tm) (r:Int),rc a0=some r→Fun Tryz.prog 66 [.agg (Qd1 a0)] (Qw [.one (Qcz r)])) (a0:Tm) (r:Int) (h0:Q8c rc a0=some r):Fun Tryz.prog 66 [.agg (Qd1 a0)] (Qw [.one (Qcz r)]):=by
 unfold Q8c at h0
 refine QL 9 21 Tryz.func66 Z en_66 Z (Qcr Z) (fun S w=>?_)
 simp only [J4]
 refine Q3<|Q0<|Qz Z Z (Qcr Z) (Jh Z)<|Qcl Z Z Z<|Q2<|Q1<|Q3<|Q0<|Qcl Z Z Z<|Q2<|Q1<|Q3<|Q3<|Q0 ?_
 refine Qcl Z Z Z<|Q2<|Q1<|Qx ?_
 refine JE 0 (fun (o1:Int)=>⟨[(3,.v (.one (Qcz o1)))],[(0,.cells 25 (Qd1 a0))],[],1,21,[]⟩) (fun (o1:Int)=>(some o1)=some r) ?_ ?_
 refine Qv h0 (fun o2 hl1 h0=>?_)
 refine JD (Wv a0 rc) (fun s1=>⟨[(1,.v (.one (.ptr 0 0))),(3,.v (.one (Qcz s1.1))),(4,.v (.one (Qcz s1.2)))],[(0,.cells 25 (Qd1 a0))],[],1,21,[]⟩) (1,0) o2 (Qcg (Nat.zero_le _) Z Z Z Z Z) hl1 (fun s1 n1 oo1 h1 ho1=>?_)
 unfold Wv at h1
 refine Q3<|Q3<|Q0<|Qck Z Z Z<|Qcj Z Z Z (Q5 Y2 Z)<|Qcj Z Z Z (Q7 ZW Z Z Z)<|Qcj Z Z Z (QS (α:=Tm) Zl Z (.d _))<|Qcj Z Z Z (Q4 Z Z Z)<|Q2<|Q1 ?_
 refine Qi (b:=(decide (s1.2 < (a0.kids.length:Int)))) Z (fun c3=>?_) (fun c3=>?_)
 replace h1:=Qg c3 h1
 refine Ql<|Q1<|Q3<|Qx<|Q0<|Qck Z Z Z<|Qcj Z Z Z (Q5 Y2 Z)<|Qcj Z Z Z (Q7 ZW Z Z Z)<|Qck Z Z Z ?_
 refine Qv h1 (fun x4 hx4 h1=>?_)
 refine Qcj Z Z Z (J7 (α:=Tm) Zl Z (.d _) Z hx4)<|Qcj Z Z Z (Jc (x4:Tm) Zg Z) ?_
 refine Qv h1 (fun x5 hx5 h1=>?_)
 refine Qz Z Z (Qcr Z) (QC (H x4 x5 hx5) Z (.cons (.agg (.cons (.d _) (.cons (.d _) (.cons (.d _) (.cons (.d _) (.cons (.d _) .nil)))))) .nil))<|Qcj Z Z Z (Q4 Z Z Z)<|Qcl Z Z Z<|Q2<|QB<|Q1<|Q0<|Qck Z Z Z<|Qcj Z Z Z (Q4 Z Z Z)<|Qcl Z Z Z<|Q2 ?_
 have e:=Qch h1;subst e
 refine Jd ((QE (s1.1+x5)),(QE (s1.2+1))) (Qcg (Nat.zero_le _) Z Z Z Z Z) ho1
 replace h1:=Qh c3 h1
 refine JK<|QI<|QI ?_
 have e:=Qch h1;subst e
 have e_:_=_:=ho1
 subst e_
 exact JC s1.1 (Qcg (Nat.zero_le _) Z Z Z Z Z) h0
 intro o1 h0
 refine J5<|Q1<|Q3<|Q0<|Qck Z Z Z<|Qcl Z Z Z<|Q2<|Q1<|Qu ?_
 have e:=Qch h0;subst e
 exact Qn (fun _ _ h=>h) Z (Qm Z .nil) (.cons (.one (.d _)) .nil)
theorem m66_all (n:Nat) (u:Tm) (r:Int) (h0:QX Q78 n u=some r):Fun Tryz.prog 66 [.agg (Qd1 u)] (Qw [.one (Qcz r)]) :=
 Jy (C:=fun u r=>Fun Tryz.prog 66 [.agg (Qd1 u)] (Qw [.one (Qcz r)])) (fun rc H u r h=>m66s_ok rc (fun a0 r h=>H a0 r h) u r h) n u r h0
theorem m66_ok (a0:Tm) (r:Int) (h0:Qc4 a0=some r):Fun Tryz.prog 66 [.agg (Qd1 a0)] (Qw [.one (Qcz r)]):=m66_all Qk a0 r h0
def Ut (a0:Tm) (rc:Tm→Option Int) (s1:Int×Int):Option (LO (Int×Int) Int) :=
 cond (decide (s1.2 < (a0.kids.length:Int)))
   (Option.bind (J3 a0.kids s1.2) fun (x3:Tm) =>
 Option.bind (rc x3) fun (x4:Int) =>
 some (.next ((max s1.1 x4),(QE (s1.2+1)))))
   (some (.done s1.1))
def Q8a (rc:Tm→Option Int) (a0:Tm):Option Int :=
 Option.bind (Qj (Ut a0 rc) Qk (0,0)) (fun (o1:Int)=>some (QE (o1+1)))
def Q8b (rc:Tm→Option Int) (u:Tm):Option Int:=Q8a rc u
def m67 (a0:Tm):Option Int:=QX Q8b Qk a0
theorem m67s_ok (rc:Tm→Option Int) (H:∀ (a0:Tm) (r:Int),rc a0=some r→Fun Tryz.prog 67 [.agg (Qd1 a0)] (Qw [.one (Qcz r)])) (a0:Tm) (r:Int) (h0:Q8a rc a0=some r):Fun Tryz.prog 67 [.agg (Qd1 a0)] (Qw [.one (Qcz r)]):=by
 unfold Q8a at h0
 refine QL 9 22 Tryz.func67 Z en_67 Z (Qcr Z) (fun S w=>?_)
 simp only [J4]
 refine Q3<|Q0<|Qz Z Z (Qcr Z) (Jh Z)<|Qcl Z Z Z<|Q2<|Q1<|Q3<|Q0<|Qcl Z Z Z<|Q2<|Q1<|Q3<|Q3<|Q0 ?_
 refine Qcl Z Z Z<|Q2<|Q1<|Qx ?_
 refine JE 0 (fun (o1:Int)=>⟨[(3,.v (.one (Qcz o1)))],[(0,.cells 25 (Qd1 a0))],[],1,22,[]⟩) (fun (o1:Int)=>(some (QE (o1+1)))=some r) ?_ ?_
 refine Qv h0 (fun o2 hl1 h0=>?_)
 refine JD (Ut a0 rc) (fun s1=>⟨[(1,.v (.one (.ptr 0 0))),(3,.v (.one (Qcz s1.1))),(4,.v (.one (Qcz s1.2)))],[(0,.cells 25 (Qd1 a0))],[],1,22,[]⟩) (0,0) o2 (Qcg (Nat.zero_le _) Z Z Z Z Z) hl1 (fun s1 n1 oo1 h1 ho1=>?_)
 unfold Ut at h1
 refine Q3<|Q3<|Q0<|Qck Z Z Z<|Qcj Z Z Z (Q5 Y2 Z)<|Qcj Z Z Z (Q7 ZW Z Z Z)<|Qcj Z Z Z (QS (α:=Tm) Zl Z (.d _))<|Qcj Z Z Z (Q4 Z Z Z)<|Q2<|Q1 ?_
 refine Qi (b:=(decide (s1.2 < (a0.kids.length:Int)))) Z (fun c3=>?_) (fun c3=>?_)
 replace h1:=Qg c3 h1
 refine Ql<|Q1<|Q3<|Qx<|Q0<|Qck Z Z Z<|Qcj Z Z Z (Q5 Y2 Z)<|Qcj Z Z Z (Q7 ZW Z Z Z)<|Qck Z Z Z ?_
 refine Qv h1 (fun x4 hx4 h1=>?_)
 refine Qcj Z Z Z (J7 (α:=Tm) Zl Z (.d _) Z hx4)<|Qcj Z Z Z (Jc (x4:Tm) Zg Z) ?_
 refine Qv h1 (fun x5 hx5 h1=>?_)
 refine Qz Z Z (Qcr Z) (QC (H x4 x5 hx5) Z (.cons (.agg (.cons (.d _) (.cons (.d _) (.cons (.d _) (.cons (.d _) (.cons (.d _) .nil)))))) .nil))<|Qcj Z Z Z (KW Z Z)<|Qcl Z Z Z<|Q2<|QB<|Q1<|Q0<|Qck Z Z Z<|Qcj Z Z Z (Q4 Z Z Z)<|Qcl Z Z Z<|Q2 ?_
 have e:=Qch h1;subst e
 refine Jd ((max s1.1 x5),(QE (s1.2+1))) (Qcg (Nat.zero_le _) Z Z Z Z Z) ho1
 replace h1:=Qh c3 h1
 refine JK<|QI<|QI ?_
 have e:=Qch h1;subst e
 have e_:_=_:=ho1
 subst e_
 exact JC s1.1 (Qcg (Nat.zero_le _) Z Z Z Z Z) h0
 intro o1 h0
 refine J5<|Q1<|Q3<|Q0<|Qck Z Z Z<|Qcj Z Z Z (Q4 Z Z Z)<|Qcl Z Z Z<|Q2<|Q1<|Qu ?_
 have e:=Qch h0;subst e
 exact Qn (fun _ _ h=>h) Z (Qm Z .nil) (.cons (.one (.d _)) .nil)
theorem m67_all (n:Nat) (u:Tm) (r:Int) (h0:QX Q8b n u=some r):Fun Tryz.prog 67 [.agg (Qd1 u)] (Qw [.one (Qcz r)]) :=
 Jy (C:=fun u r=>Fun Tryz.prog 67 [.agg (Qd1 u)] (Qw [.one (Qcz r)])) (fun rc H u r h=>m67s_ok rc (fun a0 r h=>H a0 r h) u r h) n u r h0
theorem m67_ok (a0:Tm) (r:Int) (h0:m67 a0=some r):Fun Tryz.prog 67 [.agg (Qd1 a0)] (Qw [.one (Qcz r)]):=m67_all Qk a0 r h0
def Q9d (a0:Tm) (a1:Int) (a2:Int) (a3:Int) (a4:Int):Option Int :=
 Option.bind (Qbk a0 0 (max a1 0) a2 a3 a4) fun (x1:Int) =>
 cond (x1 != 0)
   (some x1)
   (Option.bind (Qc4 a0) fun (x3:Int) =>
 cond (decide (4096 < x3))
   (some 5)
   (Option.bind (m67 a0) fun (x5:Int) =>
 cond (decide (200 < x5))
   (some 7)
   (some 0)))
theorem m31_ok (a0:Tm) (a1:Int) (a2:Int) (a3:Int) (a4:Int) (r:Int) (h0:Q9d a0 a1 a2 a3 a4=some r):Fun Tryz.prog 31 [.agg (Qd1 a0),.one (Qcz a1),.one (Qcz a2),.one (Qcz a3),.one (Qcz a4)] (Qw [.one (Qcz r)]):=by
 unfold Q9d at h0
 refine QL 9 28 Tryz.func31 Z en_31 Z (Qcr Z) (fun S w=>?_)
 simp only [J4]
 refine Q3<|Q0<|Qz Z Z (Qcr Z) (Jh Z)<|Qcl Z Z Z<|Q2<|Q1<|Q3<|Q3<|Q0<|Qcj Z Z Z (J6 (a0:Tm) Zg Z Z)<|Qck Z Z Z<|Qcj Z Z Z (KW Z Z)<|Qck Z Z Z<|Qck Z Z Z ?_
 refine Qck Z Z Z ?_
 refine Qv h0 (fun x1 hx1 h0=>?_)
 refine Qz Z Z (Qcr Z) (QC (m65_ok a0 0 (max a1 0) a2 a3 a4 x1 hx1) Z (.cons (.agg (.cons (.d _) (.cons (.d _) (.cons (.d _) (.cons (.d _) (.cons (.d _) .nil)))))) (.cons (.one (.d _)) (.cons (.one (.d _)) (.cons (.one (.d _)) (.cons (.one (.d _)) (.cons (.one (.d _)) .nil)))))))<|Qcl Z Z Z<|Q2<|Q1<|Q3<|Q0<|Qck Z Z Z<|Qcj Z Z Z (Q4 Z Z Z)<|Q2<|Q1 ?_
 refine Qi (b:=(x1 != 0)) Z (fun c2=>?_) (fun c2=>?_)
 replace h0:=Qg c2 h0
 refine Q3<|Q0<|Qck Z Z Z<|Qcl Z Z Z<|Q2<|Q1<|Qu ?_
 have e:=Qch h0;subst e
 exact Qn (fun _ _ h=>h) Z (Qm Z .nil) (.cons (.one (.d _)) .nil)
 replace h0:=Qh c2 h0
 refine Ql<|Q1<|Q3<|Q3<|Q0<|Qcj Z Z Z (J6 (a0:Tm) Zg Z Z) ?_
 refine Qv h0 (fun x3 hx3 h0=>?_)
 refine Qz Z Z (Qcr Z) (QC (m66_ok a0 x3 hx3) Z (.cons (.agg (.cons (.d _) (.cons (.d _) (.cons (.d _) (.cons (.d _) (.cons (.d _) .nil)))))) .nil))<|Qcj Z Z Z (Q4 Z Z Z)<|Q2<|Q1 ?_
 refine Qi (b:=(decide (4096 < x3))) Z (fun c4=>?_) (fun c4=>?_)
 replace h0:=Qg c4 h0
 refine Q3<|Q0<|Qcl Z Z Z<|Q2<|Q1<|Qu ?_
 have e:=Qch h0;subst e
 exact Qn (fun _ _ h=>h) Z (Qm Z .nil) (.cons (.one (.d _)) .nil)
 replace h0:=Qh c4 h0
 refine Ql<|Q1<|Q3<|Q3<|Q0<|Qcj Z Z Z (J6 (a0:Tm) Zg Z Z) ?_
 refine Qv h0 (fun x5 hx5 h0=>?_)
 refine Qz Z Z (Qcr Z) (QC (m67_ok a0 x5 hx5) Z (.cons (.agg (.cons (.d _) (.cons (.d _) (.cons (.d _) (.cons (.d _) (.cons (.d _) .nil)))))) .nil))<|Qcj Z Z Z (Q4 Z Z Z)<|Q2<|Q1 ?_
 refine Qi (b:=(decide (200 < x5))) Z (fun c6=>?_) (fun c6=>?_)
 replace h0:=Qg c6 h0
 refine Q3<|Q0<|Qcl Z Z Z<|Q2<|Q1<|Qu ?_
 have e:=Qch h0;subst e
 exact Qn (fun _ _ h=>h) Z (Qm Z .nil) (.cons (.one (.d _)) .nil)
 replace h0:=Qh c6 h0
 refine Ql<|Q1<|Q3<|Q0<|Qcl Z Z Z<|Q2<|Q1<|Qu ?_
 have e:=Qch h0;subst e
 exact Qn (fun _ _ h=>h) Z (Qm Z .nil) (.cons (.one (.d _)) .nil)
noncomputable def k98:KF UV:=⟨[.str],[.bool],fun v=>Q92 v⟩
theorem k98_ok:Jo DV W0 Tryz.prog 98 k98:=⟨rfl,fun v r h=>W9 (Eq.mp (show _=Fun Tryz.prog 98 (QG DV k98.args v) (Qw (QG DV k98.res r)) from by kernel_rfl) (m98_ok v r h))⟩
noncomputable def k118:KF UV:=⟨[.stc .t82],[.bool],fun v=>Q4b v⟩
theorem k118_ok:Jo DV W0 Tryz.prog 118 k118:=⟨rfl,fun v r h=>W9 (Eq.mp (show _=Fun Tryz.prog 118 (QG DV k118.args v) (Qw (QG DV k118.res r)) from by kernel_rfl) (m118_ok v r h))⟩
noncomputable def k31:KF UV:=⟨[.stc .t25,.int .i64,.int .i64,.int .i64,.int .i64],[.int .i64],fun v=>Q9d (v.1) (v.2.1) (v.2.2.1) (v.2.2.2.1) (v.2.2.2.2)⟩
theorem k31_ok:Jo DV W0 Tryz.prog 31 k31:=⟨rfl,fun v r h=>W9 (Eq.mp (show _=Fun Tryz.prog 31 (QG DV k31.args v) (Qw (QG DV k31.res r)) from by kernel_rfl) (m31_ok (v.1) (v.2.1) (v.2.2.1) (v.2.2.2.1) (v.2.2.2.2) r h))⟩
end
section
open Go.RowKit Go.Shelf
theorem YK {n:Int} (h1:-9223372036854775808≤n) (h2:n≤9223372036854775807):QE n=n:=IntWalk.i64_in n ⟨h1,h2⟩
theorem Wl {k:Nat} (h:k≤1000000000):QE ((k:Int)+1)=((k+1:Nat):Int):=by rw [YK (by omega) (by omega)];rfl
theorem JI {α:Type} (a:List α) (x:α) (b:List α):J3 (a++x::b) (a.length:Int)=some x:=by
 show (a++x::b)[a.length]?=some x
 simp
theorem Y9 {α:Type} (a:List α) (x:α) (b:List α):decide ((a.length:Int) < ((a++x::b).length:Int))=true:=by
 rw [decide_eq_true_eq,List.length_append,List.length_cons];omega
theorem mid_lt {α:Type} {l a b:List α} {x:α} (h:l=a++x::b):a.length < l.length:=by rw [h,List.length_append,List.length_cons];omega
theorem Yf (a b:Int):(a==b)=decide (a=b):=by
 by_cases h:a=b
 ·rw [decide_eq_true h];exact beq_iff_eq.2 h
 ·rw [decide_eq_false h,Bool.eq_false_iff];exact fun h'=>h (beq_iff_eq.1 h')
theorem J9 {α:Type} (a:List α):decide ((a.length:Int) < (a.length:Int))=false:=by simp
theorem Jz {α:Type} {a b:Nat} {x:Option α} (h:a≤b):Qc (Nat.ble a b) x=x:=by
 rw [Nat.ble_eq_true_of_le h];rfl
theorem YA {α σ τ β:Type} {step:τ→Option (LO τ β)} (l:List α) (mk:Int→σ→τ) (I:List α→σ→Prop) (Q:β→Prop) (hlen:l.length≤900000000)
  (hin:∀ (a:List α) (x:α) (b:List α) (s:σ),l=a++x::b→I a s →
   (∃ r,step (mk (a.length:Int) s)=some (.done r)∧Q r)∨∃ s',step (mk (a.length:Int) s)=some (.next (mk (QE ((a.length:Int)+1)) s'))∧I (a++[x]) s')
  (hout:∀ s,I l s→∃ r,step (mk (l.length:Int) s)=some (.done r)∧Q r) (s0:σ) (h0:I [] s0):∃ r,Qj step Qk (mk 0 s0)=some r∧Q r:=by
 have key:∀ (b a:List α) (s:σ) (n:Nat),l=a++b→b.length < n→I a s→∃ r,Qj step n (mk (a.length:Int) s)=some r∧Q r:=by
  intro b
  induction b with
  | nil =>
   intro a s n hl hn hI
   rw [List.append_nil] at hl
   subst hl
   obtain ⟨r,h1,h2⟩:=hout s hI
   cases n with
   | zero=>omega
   | succ n=>exact ⟨r,by simp only [Qj,h1],h2⟩
  | cons x b ih =>
   intro a s n hl hn hI
   cases n with
   | zero=>omega
   | succ n =>
    rcases hin a x b s hl hI with ⟨r,h1,h2⟩ | ⟨s',h1,h2⟩
    ·exact ⟨r,by simp only [Qj,h1],h2⟩
    ·have hal:a.length≤900000000:=by rw [hl,List.length_append] at hlen;omega
     rw [Wl (by omega)] at h1
     obtain ⟨r,h3,h4⟩:=ih (a++[x]) s' n (by rw [hl,List.append_assoc];rfl) (by simp only [List.length_cons] at hn;omega) h2
     refine ⟨r,?_,h4⟩
     simp only [Qj,h1]
     rw [List.length_append] at h3
     exact h3
 exact key l [] s0 Qk rfl (by unfold Qk;omega) h0
theorem YW {α:Type} (f:α→Nat) {x:α}:∀ {l:List α},x∈l→f x≤(l.map f).sum
 | y::l,h=>by
  rw [List.map_cons,List.sum_cons]
  rcases List.mem_cons.1 h with rfl | h
  ·omega
  ·have:=YW f h;omega
def lvz (l:Lvl):Nat:=1+(l.vs.map fun _=>1).sum
def Qcv (n:Int):Nat:=if -9223372036854775808≤n∧n≤9223372036854775807 then 0 else 10000000000
theorem ir_in {n:Int} (h:Qcv n≤1000000000):-9223372036854775808≤n∧n≤9223372036854775807:=by
 unfold Qcv at h
 split at h
 ·assumption
 ·omega
def Tm.size:Tm→Nat
 | .mk _ i n ls ks=>1+Qcv i+n.length+(ls.map lvz).sum+(ks.attach.map fun k=>Tm.size k.1).sum
termination_by t=>SizeOf.sizeOf t
decreasing_by
 have:=List.sizeOf_lt_of_mem k.2
 simp only [Tm.mk.sizeOf_spec];omega
theorem Tm.size_eq (t:Tm):t.size=1+Qcv t.index+t.name.length+(t.levels.map lvz).sum+(t.kids.map Tm.size).sum:=by
 cases t
 rw [Tm.size,List.attach_map_val];rfl
theorem JF {t k:Tm} (h:k∈t.kids):k.size < t.size:=by
 have:=YW Tm.size h
 rw [t.size_eq];omega
theorem Tm.ind {C:Tm→Prop} (h:∀ t:Tm,(∀ k∈t.kids,C k)→C t) (t:Tm):C t:=by
 have:∀ n (t:Tm),t.size≤n→C t:=by
  intro n
  induction n with
  | zero=>intro t ht;rw [t.size_eq] at ht;omega
  | succ n ih=>exact fun t ht=>h t fun k hk=>ih k (by have:=JF hk;omega)
 exact this _ t (Nat.le_refl _)
theorem Kt (t:Tm):t.kids.length < t.size:=by
 rw [t.size_eq]
 have:∀ l:List Tm,l.length≤(l.map Tm.size).sum:=by
  intro l
  induction l with
  | nil=>exact Nat.le_refl _
  | cons x l ih =>
   rw [List.map_cons,List.sum_cons,List.length_cons]
   have:=x.size_eq
   omega
 have:=this t.kids
 omega
theorem sum_split {α:Type} (f:α→Nat) (a:List α) (x:α) (b:List α):((a++x::b).map f).sum=(a.map f).sum+f x+(b.map f).sum:=by simp;omega
theorem Q7h (a b:Qdk):(a==b)=decide (a=b):=by
 by_cases h:a=b
 ·rw [decide_eq_true h];exact beq_iff_eq.2 h
 ·rw [decide_eq_false h,Bool.eq_false_iff];exact fun h'=>h (beq_iff_eq.1 h')
def Tr.size:Tr→Nat
 | .mk _ b _ brs=>1+b.size+(brs.attach.map fun x=>1+x.1.ctor.length+Tr.size x.1.tree).sum
termination_by t=>SizeOf.sizeOf t
decreasing_by
 have h1:=List.sizeOf_lt_of_mem x.2
 have h2:=BrF.tree_lt x.1
 simp only [Tr.mk.sizeOf_spec];omega
def bsz (b:Qdl):Nat:=1+b.ctor.length+b.tree.size
theorem Tr.size_eq (t:Tr):t.size=1+t.body.size+(t.branches.map bsz).sum:=by
 cases t with
 | mk k b v brs =>
  rw [Tr.size]
  show _=1+b.size+(brs.map bsz).sum
  rw [← List.attach_map_val (l:=brs) (f:=bsz)];rfl
theorem ZY {t:Tr} {b:Qdl} (h:b∈t.branches):b.tree.size < t.size:=by
 have:=YW bsz h
 have e:bsz b=1+b.ctor.length+b.tree.size:=rfl
 rw [t.size_eq];omega
theorem Ka {α:Type} (g:α→Nat) (hg:∀ x,1≤g x):∀ l:List α,l.length≤(l.map g).sum
 | []=>Nat.le_refl _
 | x::l=>by
  rw [List.map_cons,List.sum_cons,List.length_cons]
  have:=hg x
  have:=Ka g hg l
  omega
theorem GR (t:Tr):t.branches.length < t.size:=by
 have:=Ka bsz (fun b=>by unfold bsz;omega) t.branches
 rw [t.size_eq];omega
def csz (c:Ctr):Nat:=1+c.name.length+c.ty.size
def fsz (f:Fn):Nat:=1+f.name.length+f.ty.size+f.tree.size
def Dcl.size (d:Dcl):Nat:=1+d.name.length+d.ty.size+d.value.size+(d.ctors.map csz).sum+d.rcr.ty.size+(d.rcr.rules.map Tm.size).sum+(d.funs.map fsz).sum
theorem Xs {α σ τ β:Type} {step:τ→Option (LO τ β)} (l:List α) (mk:Int→σ→τ) (hlen:l.length≤900000000)
  (hin:∀ (a:List α) (x:α) (b:List α) (s:σ),l=a++x::b→(∃ r,step (mk (a.length:Int) s)=some (.done r))∨∃ s',step (mk (a.length:Int) s)=some (.next (mk (QE ((a.length:Int)+1)) s')))
  (hout:∀ s,∃ r,step (mk (l.length:Int) s)=some (.done r)) (s0:σ):∃ r,Qj step Qk (mk 0 s0)=some r:=by
 obtain ⟨r,h,-⟩:=YA l mk (fun _ _=>True) (fun _=>True) hlen (fun a x b s e _=>(hin a x b s e).elim (fun ⟨r,h⟩=>.inl ⟨r,h,trivial⟩) (fun ⟨s',h⟩=>.inr ⟨s',h,trivial⟩)) (fun s _=>let ⟨r,h⟩:=hout s;⟨r,h,trivial⟩) s0 trivial
 exact ⟨r,h⟩
theorem depth_some:∀ (n:Nat) (t:Tm),t.size≤n→t.size≤900000000→∃ r,QX Q8b n t=some r
 | 0,t,h,_=>by rw [t.size_eq] at h;omega
 | n+1,t,h,h2=>by
  show ∃ r,Q8a (QX Q8b n) t=some r
  unfold Q8a
  have hl:=Kt t
  obtain ⟨r,e⟩:=Xs (step:=Ut t (QX Q8b n)) t.kids (fun i (s:Int)=>(s,i)) (by omega)
   (fun a x b s e=>by
    have hx:=JF (t:=t) (k:=x) (by rw [e];simp)
    obtain ⟨r,hr⟩:=depth_some n x (by omega) (by omega)
    refine .inr ⟨max s r,?_⟩
    unfold Ut
    dsimp only
    rw [e,Y9,JI]
    simp only [cond_true,Option.bind_some]
    rw [hr];rfl) (fun s=>⟨s,by unfold Ut;dsimp only;rw [J9];rfl⟩) 0
  rw [e];exact ⟨_,rfl⟩
end
section
open Go.RowKit Go.Shelf
def Q90 {α σ β:Type} (f:σ→α→σ⊕β) (e:σ→β):List α→σ→β
 | [],s=>e s
 | x::l,s=>Sum.elim (fun s'=>Q90 f e l s') (fun r=>r) (f s x)
theorem loop_sm {α σ τ β:Type} {step:τ→Option (LO τ β)} (l:List α) (mk:Int→σ→τ) (f:σ→α→σ⊕β) (e:σ→β) (I:List α→σ→Prop) (hlen:l.length≤900000000)
  (hin:∀ (a:List α) (x:α) (b:List α) (s:σ),l=a++x::b→I a s→step (mk (a.length:Int) s)=some (Sum.elim (fun s'=>.next (mk (QE ((a.length:Int)+1)) s')) .done (f s x))∧∀ s',f s x=.inl s'→I (a++[x]) s')
  (hout:∀ s,I l s→step (mk (l.length:Int) s)=some (.done (e s))) (s0:σ) (h0:I [] s0):Qj step Qk (mk 0 s0)=some (Q90 f e l s0):=by
 obtain ⟨r,h1,h2⟩:=YA (step:=step) l mk (fun a s=>I a s∧∀ b,l=a++b→Q90 f e l s0=Q90 f e b s) (fun r=>r=Q90 f e l s0) hlen
  (fun a x b s hl hI=>by
   obtain ⟨h3,h4⟩:=hin a x b s hl hI.1
   have h5:=hI.2 (x::b) hl
   cases hf:f s x with
   | inl s' =>
    refine .inr ⟨s',by rw [h3,hf];rfl,h4 s' hf,fun b' hb=>?_⟩
    have:b'=b:=by
     rw [hl,List.append_assoc] at hb
     exact (List.cons.inj (List.append_cancel_left hb)).2.symm
    rw [this,h5,Q90,hf];rfl
   | inr r=>exact .inl ⟨r,by rw [h3,hf];rfl,by rw [h5,Q90,hf];rfl⟩)
  (fun s hI=>⟨e s,hout s hI.1,by rw [hI.2 [] (by simp)];rfl⟩) s0 ⟨h0,fun b hb=>by rw [List.nil_append] at hb;rw [hb]⟩
 rw [h1,h2]
theorem loop_bad {α β:Type} {step:Int→Option (LO Int β)} (l:List α) (bad:List α→α→Prop) (r0 r1:β) (hlen:l.length≤900000000)
  (hin:∀ (a:List α) (x:α) (b:List α),l=a++x::b→(bad a x→step (a.length:Int)=some (.done r0))∧(¬ bad a x→step (a.length:Int)=some (.next (QE ((a.length:Int)+1)))))
  (hout:step (l.length:Int)=some (.done r1)):∃ r,Qj step Qk 0=some r∧((r=r1∧∀ a x b,l=a++x::b→¬ bad a x)∨(r=r0∧∃ a x b,l=a++x::b∧bad a x)):=by
 refine YA (step:=step) l (fun i (_:Unit)=>i) (fun a _=>∀ a' x b',a=a'++x::b'→¬ bad a' x) (fun r=>(r=r1∧∀ a x b,l=a++x::b→¬ bad a x)∨(r=r0∧∃ a x b,l=a++x::b∧bad a x)) hlen
  (fun a x b s hl hI=>?_) (fun s hI=>⟨r1,hout,.inl ⟨rfl,hI⟩⟩) () (fun a' x b' h=>by cases a' <;> cases h)
 by_cases hb:bad a x
 ·exact .inl ⟨r0,(hin a x b hl).1 hb,.inr ⟨rfl,a,x,b,hl,hb⟩⟩
 ·refine .inr ⟨(),(hin a x b hl).2 hb,fun a' y b' h=>?_⟩
  rcases List.append_eq_append_iff.1 h with ⟨c,h1,h2⟩ | ⟨c,h1,h2⟩
  ·cases c with
   | nil =>
    rw [List.nil_append] at h2
    cases h2
    rw [List.append_nil] at h1
    rw [h1];exact hb
   | cons z c =>
    exfalso
    have:=congrArg List.length h2
    simp at this
  ·cases c with
   | nil =>
    rw [List.nil_append] at h2
    cases h2
    rw [List.append_nil] at h1
    rw [← h1];exact hb
   | cons z c =>
    rw [List.cons_append] at h2
    cases h2
    exact hI a' y c h1
def Wy (c:Int):Bool:=(decide (97≤c)&&decide (c≤122))||(decide (65≤c)&&decide (c≤90))||(c==95)
theorem m135_eq (c:Int):Q8e ⟨c⟩=some (Wy c):=by
 unfold Q8e Wy
 cases decide (97≤c) <;> cases decide (c≤122) <;> cases decide (65≤c) <;> cases decide (c≤90) <;> rfl
theorem m133_eq (c:Int):Q8f ⟨c⟩=some (Wy c):=m135_eq c
def Q9k (st:Bool) (b:UInt8):Bool⊕(Bool⊕Bool) :=
 if Wy (b.toNat:Int)=true then .inl false else if st=true then .inr (.inr false) else if (b.toNat:Int)=46 then .inl true else
  if (b.toNat:Int) < 48∨57 < (b.toNat:Int) then (if (b.toNat:Int)=39 then .inl st else .inr (.inr false)) else .inl st
def Qan (s:Qdk):Bool⊕Bool:=Q90 Q9k .inl s true
theorem m110_l0_eq (s:Qdk) (h:s.length≤900000000):Qj (GI s) Qk (true,0)=some (Qan s):=by
 refine loop_sm (step:=GI s) s (fun i (st:Bool)=>(st,i)) Q9k .inl (fun _ _=>True) h (fun a x b st e _=>⟨?_,fun _ _=>trivial⟩) (fun st _=>by unfold GI;dsimp only;rw [J9];rfl) true trivial
 unfold GI Q9k
 dsimp only
 rw [e,Y9,JI]
 simp only [cond_true,Option.bind_some]
 rw [m135_eq,Option.bind_some]
 cases Wy (x.toNat:Int) with
 | true=>rfl
 | false =>
  cases st with
  | true=>rfl
  | false =>
   simp only [cond_false,Yf,Bool.false_eq_true,if_false]
   by_cases h1:(x.toNat:Int)=46
   ·rw [decide_eq_true h1,if_pos h1];rfl
   ·rw [decide_eq_false h1,if_neg h1,cond_false]
    by_cases h2:(x.toNat:Int) < 48
    ·rw [decide_eq_true h2,if_pos (Or.inl h2)]
     by_cases h4:(x.toNat:Int)=39
     ·rw [if_pos h4,h4];rfl
     ·rw [if_neg h4]
      have:((x.toNat:Int) != 39)=true:=bne_iff_ne.2 h4
      simp only [cond_true,Option.bind_some,this];rfl
    ·rw [decide_eq_false h2]
     by_cases h3:57 < (x.toNat:Int)
     ·rw [decide_eq_true h3,if_pos (Or.inr h3)]
      by_cases h4:(x.toNat:Int)=39
      ·omega
      ·rw [if_neg h4]
       have:((x.toNat:Int) != 39)=true:=bne_iff_ne.2 h4
       simp only [cond_true,cond_false,Option.bind_some,this];rfl
     ·rw [decide_eq_false h3,if_neg (by omega)];rfl
theorem m98_l0_eq (s:Qdk) (h:s.length≤900000000):Qj (Xo s) Qk (true,0)=some (Qan s):=by
 refine loop_sm (step:=Xo s) s (fun i (st:Bool)=>(st,i)) Q9k .inl (fun _ _=>True) h (fun a x b st e _=>⟨?_,fun _ _=>trivial⟩) (fun st _=>by unfold Xo;dsimp only;rw [J9];rfl) true trivial
 unfold Xo Q9k
 dsimp only
 rw [e,Y9,JI]
 simp only [cond_true,Option.bind_some]
 rw [m133_eq,Option.bind_some]
 cases st with
 | true=>cases Wy (x.toNat:Int) <;> rfl
 | false =>
  simp only [cond_false,Yf,Bool.false_eq_true,if_false]
  by_cases h1:(x.toNat:Int)=46
  ·rw [decide_eq_true h1,if_pos h1,if_neg (by rw [h1];decide)];rfl
  ·rw [decide_eq_false h1,if_neg h1,cond_false]
   cases Wy (x.toNat:Int) with
   | true=>rfl
   | false =>
    rw [Option.bind_some,if_neg (by decide)]
    simp only [Bool.not_false,cond_true]
    by_cases h4:(x.toNat:Int)=39
    ·have:((x.toNat:Int) != 39)=false:=by rw [h4];rfl
     simp only [cond_false,Option.bind_some,this,if_pos h4]
     split <;> rfl
    ·have:((x.toNat:Int) != 39)=true:=bne_iff_ne.2 h4
     simp only [cond_true,this,if_neg h4]
     by_cases h2:(x.toNat:Int) < 48
     ·rw [decide_eq_true h2,if_pos (Or.inl h2)];rfl
     ·rw [decide_eq_false h2]
      by_cases h3:57 < (x.toNat:Int)
      ·rw [decide_eq_true h3,if_pos (Or.inr h3)];rfl
      ·rw [decide_eq_false h3,if_neg (by omega)];rfl
theorem nm_false:∀ (s:Qdk) (st b:Bool),Q90 Q9k .inl s st=.inr b→b=false
 | [],st,b,h=>by cases h
 | x::s,st,b,h=>by
  rw [Q90] at h
  cases hf:Q9k st x with
  | inl st'=>rw [hf] at h;exact nm_false s st' b h
  | inr r =>
   rw [hf] at h
   unfold Q9k at hf
   have:r=.inr false:=by
    revert hf
    repeat' split
    all_goals intro hf;cases hf;try rfl
   rw [this] at h
   cases h;rfl
def Z4 (s:Qdk):Bool:=Sum.elim (fun st=>!st&&decide ((s.length:Int)≤64)) (fun b=>b) (Qan s)
theorem Q2h (s:Qdk) (h:s.length≤900000000):Q2i s=some (Z4 s):=by
 unfold Q2i Z4
 rw [m110_l0_eq s h,Option.bind_some]
 cases Qan s with
 | inl st=>cases st <;> rfl
 | inr b=>rfl
theorem Q58 (s:Qdk) (h:s.length≤900000000):Q92 s=some (Z4 s):=by
 unfold Q92 Z4
 rw [Q7h,m98_l0_eq s h]
 by_cases h0:s=[]
 ·subst h0;rfl
 ·rw [decide_eq_false h0,cond_false]
  by_cases h1:64 < (s.length:Int)
  ·rw [decide_eq_true h1,decide_eq_false (by omega)]
   cases hn:Qan s with
   | inl st=>cases st <;> rfl
   | inr b=>have:=nm_false s true b hn;subst this;rfl
  ·rw [decide_eq_false h1,decide_eq_true (by omega)]
   cases hn:Qan s with
   | inl st=>cases st <;> rfl
   | inr b=>rfl
end
end Go.Proofs.YtjcfppnjamjjhaaGreatDoor
