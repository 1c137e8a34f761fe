/- Part 3 of the proof: rules, mirrors and plain laws. The card of TextDecls (second form) is proved here: for every declaration the law returns true, and the arguments read behind the call as they did before; conditions: what is read is of bulk at most 1048576, and the listed package-level variables hold what the text of the program lays (tied). -/
import Derived.Test.YtjcfppnjamjjhaaGreatDoorK82
import Derived.Test.YtjcfppnjamjjhaaGreatDoorProg
set_option maxHeartbeats 2000000
set_option maxRecDepth 100000
set_option linter.unusedSimpArgs false
set_option linter.unusedVariables false
set_option linter.unusedSectionVars false
namespace Go.Proofs.YtjcfppnjamjjhaaGreatDoor
section
open Go.RowKit
section
variable (U:Univ)
inductive AK where
 | int (k:IntKind)
 | bool
 | str
 | sl (t:U.T)
 | app (i:Nat) (e:TypeId) (t:U.T)
 | stc (t:U.T)
 | ptr (i off:Nat)
 | any
inductive Loc where
 | reg (r:Nat)
 | cell (i off:Nat)
structure Lab where
 sl:List (List Loc×AK U)
 dead:List Nat
end
section
variable {U:Univ} (D:Codec U)
def AK.Ty:AK U→Type
 | .int _=>Int
 | .bool=>Bool
 | .str=>Qdk
 | .sl t=>List (U.R t)
 | .app _ _ t=>List (U.R t)
 | .stc t=>U.R t
 | .ptr _ _=>Unit
 | .any=>Unit
def AK.sz:AK U→Nat
 | .stc t=>(U.E t).sz
 | _=>1
def tup:List (AK U)→Type
 | []=>Unit
 | [k]=>k.Ty
 | k::k2::r=>k.Ty×tup (k2::r)
def Q0f (k:IntKind):TAV U→Option Int
 | .one (.c (.v (.int k' a)))=>cond (decide (k'=k)) (some a) none
 | _=>none
def U6:TAV U→Option Bool
 | .one (.c (.v (.bool b)))=>some b
 | _=>none
def Q0e:TAV U→Option Qdk
 | .one (.c (.str s))=>some s
 | _=>none
def XE (tk:List (Nat×TTok U)) (i:Nat) (e:TypeId) (t:U.T):TAV U→Option (List (U.R t))
 | .one (.app j ver)=>match cur tk j ver with
  | some T=>cond (Nat.beq j i&&Nat.beq T.E e) (KO T.t t T.l) none
  | none=>none
 | _=>none
def Q64 (i off:Nat):TAV U→Option Unit
 | .one (.ptr j o)=>cond (Nat.beq j i&&Nat.beq o off) (some ()) none
 | _=>none
def decAny:TAV U→Option Unit
 | .one _=>some ()
 | .agg _=>none
def Q66 (tk:List (Nat×TTok U)):(k:AK U)→TAV U→Option k.Ty
 | .int k,x=>Q0f k x
 | .bool,x=>U6 x
 | .str,x=>Q0e x
 | .sl t,x=>KB tk t (.v x)
 | .app i e t,x=>XE tk i e t x
 | .stc t,x=>Q0p D tk t x.items
 | .ptr i off,x=>Q64 i off x
 | .any,x=>decAny x
def Gj:(k:AK U)→k.Ty→Nat→TAV U
 | .int k,a,_=>.one (.c (.v (.int k a)))
 | .bool,b,_=>.one (.c (.v (.bool b)))
 | .str,s,_=>.one (.c (.str s))
 | .sl t,l,_=>.one (.c (.sl t l))
 | .app i _ _,_,ver=>.one (.app i ver)
 | .stc t,x,_=>.agg [.grp t x]
 | .ptr i off,_,_=>.one (.ptr i off)
 | .any,_,_=>.one (.raw .any)
def Q95:(k:AK U)→k.Ty→Nat→List (Nat×TTok U)
 | .app i e t,l,ver=>[(i,⟨e,t,l,ver⟩)]
 | _,_,_=>[]
def J0 (tk:List (Nat×TTok U)) (i:Nat):Nat:=match Qcq tk i with
 | some T=>T.ver+1
 | none=>0
def Wb (tk:List (Nat×TTok U)):AK U→Nat
 | .app i _ _=>J0 tk i
 | _=>0
abbrev Qdc (U:Univ):=(k:AK U)×k.Ty
def vals:(sl:List (List Loc×AK U))→tup (sl.map (·.2))→List (List Loc×Qdc U)
  | [],_=>[]
  | [(ls,k)],v=>[(ls,⟨k,v⟩)]
  | (ls,k)::s2::r,v=>(ls,⟨k,v.1⟩)::vals (s2::r) v.2
def Wt (x:TTV U):List Loc→List (Nat×TTV U)
 | []=>[]
 | .reg r::ls=>(r,x)::Wt x ls
 | .cell _ _::ls=>Wt x ls
def Uo (xs:List (It U)):List Loc→List (Nat×Nat×List (It U))
 | []=>[]
 | .reg _::ls=>Uo xs ls
 | .cell i off::ls=>(i,off,xs)::Uo xs ls
def Q6q (tk:List (Nat×TTok U)) (vs:List (List Loc×Qdc U)):List (Nat×TTV U):=vs.flatMap fun p=>Wt (.v (Gj p.2.1 p.2.2 (Wb tk p.2.1))) p.1
def GL (tk:List (Nat×TTok U)) (vs:List (List Loc×Qdc U)):List (Nat×Nat×List (It U)):=vs.flatMap fun p=>Uo (Gj p.2.1 p.2.2 (Wb tk p.2.1)).items p.1
def Q4f (tk:List (Nat×TTok U)) (vs:List (List Loc×Qdc U)):List (Nat×TTok U):=vs.flatMap fun p=>Q95 p.2.1 p.2.2 (Wb tk p.2.1)
def We (p:Nat×Nat×List (It U)):Ev U:=.set p.1 p.2.1 p.2.2
def lab (h:Lab U) (st:TSt U) (t:tup (h.sl.map (·.2))):TSt U :=
 ⟨Q6q st.m.tk (vals h.sl t)++(h.dead.map fun r=>(r,.unk))++st.tm,⟨(GL st.m.tk (vals h.sl t)).map We++st.m.es,Q4f st.m.tk (vals h.sl t)++st.m.tk,st.m.nx⟩,st.nt,st.df⟩
def Q5u:TAV U→Bool
 | .one _=>false
 | .agg _=>true
def X1 (s:TSt U):Loc→Nat→Option (TAV U)
 | .reg r,_=>match Qcq s.tm r with
  | some (.v x)=>some x
  | _=>none
 | .cell i off,n=>match Wc D s.m.es i off n with
  | some [.one x]=>some (.one x)
  | some xs=>some (.agg xs)
  | none=>none
def Q1x (s:TSt U) (i:Nat) (l:Loc):Bool:=match X1 D s l 1 with
 | some (.one (.app j ver))=>Nat.beq j i&&(cur s.m.tk j ver).isSome
 | _=>false
def restOK (s:TSt U) (x:TAV U) (r:List Loc):AK U→Bool
 | .app i _ _=>r.all (Q1x D s i)
 | .stc _=>Q5u x&&r.isEmpty
 | _=>r.isEmpty
def Qal (s:TSt U) (ls:List Loc) (k:AK U):Option k.Ty:=match ls with
 | []=>none
 | l::r=>match X1 D s l k.sz with
  | some x=>cond (restOK D s x r k) (Q66 D s.m.tk k x) none
  | none=>none
def Qau (s:TSt U):(sl:List (List Loc×AK U))→Option (tup (sl.map (·.2)))
  | []=>some ()
  | [(ls,k)]=>Qal D s ls k
  | (ls,k)::s2::r=>match Qal D s ls k,Qau s (s2::r) with
    | some a,some b=>some (a,b)
    | _,_=>none
def DJ:List Loc→List Nat
 | []=>[]
 | .reg r::ls=>r::DJ ls
 | .cell _ _::ls=>DJ ls
def UL (n:Nat):List Loc→List (Nat×Nat×Nat)
 | []=>[]
 | .reg _::ls=>UL n ls
 | .cell i off::ls=>(i,off,n)::UL n ls
def Un (sl:List (List Loc×AK U)):List Nat:=sl.flatMap fun p=>DJ p.1
def Yu (sl:List (List Loc×AK U)):List (Nat×Nat×Nat):=sl.flatMap fun p=>UL p.2.sz p.1
def Q0s:AK U→List Nat
 | .app i _ _=>[i]
 | _=>[]
def Q3v:AK U→List Nat
 | .ptr i _=>[i]
 | _=>[]
def DF (sl:List (List Loc×AK U)):List Nat:=sl.flatMap fun p=>Q3v p.2
def Yi (sl:List (List Loc×AK U)):List Nat:=sl.flatMap fun p=>Q0s p.2
def Q29 (cs:List (Nat×Nat×Nat)) (i k:Nat):Bool:=cs.any fun p=>Nat.beq p.1 i&&(Nat.ble p.2.1 k&&Nat.blt k (p.2.1+p.2.2))
def Q9g (nx:Nat) (cs:List (Nat×Nat×Nat)):Ev U→Bool
 | .box i _ _=>Nat.ble nx i
 | .raw i _=>Nat.ble nx i
 | .lp i _ _ _ _ _ _ _ _=>Nat.ble nx i
 | .ls i _=>Nat.ble nx i
 | .set i off xs=>Nat.ble nx i||(List.range (QW xs)).all fun j=>Q29 cs i (off+j)
def Q16:List Nat→List Nat→Bool
 | [],[]=>true
 | a::x,b::y=>Nat.beq a b&&Q16 x y
 | _,_=>false
theorem G4:∀ {x y:List Nat},Q16 x y=true→x=y
 | [],[],_=>rfl
 | [],b::y,h=>by cases h
 | a::x,[],h=>by cases h
 | a::x,b::y,h=>by
  obtain ⟨h1,h2⟩:=Bool.and_eq_true_iff.1 (show (Nat.beq a b&&Q16 x y)=true from h)
  rw [Nat.eq_of_beq_eq_true h1,G4 h2]
def Q83 (h:Lab U) (st s:TSt U):Bool :=
 Q16 st.df s.df&&((Q13 st.tm s.tm).all (fun p=>(Un h.sl).contains p.1||h.dead.contains p.1)&&((Q13 st.m.es s.m.es).all (Q9g st.m.nx (Yu h.sl))&&(Q13 st.m.tk s.m.tk).all fun p=>Nat.ble st.m.nx p.1||(Yi h.sl).contains p.1))
def Gc (h:Lab U) (st s:TSt U):Option (tup (h.sl.map (·.2))):=cond (Q83 h st s) (Qau D s h.sl) none
def TA.belowB (m:Nat):TA U→Bool
 | .c _=>true
 | .ptr i _=>Nat.blt i m
 | .pel _ _ _=>true
 | .fn _ caps=>caps.all fun p=>Nat.blt p.1 m
 | .app i _=>Nat.blt i m
 | .raw x=>match x with
  | .yld L=>Nat.blt L m
  | .any=>true
  | _=>false
def It.belowB (m:Nat):It U→Bool
 | .one x=>x.belowB m
 | .grp _ _=>true
def TAV.belowB (m:Nat):TAV U→Bool
 | .one x=>x.belowB m
 | .agg xs=>xs.all (It.belowB m)
def TTV.belowB (m:Nat):TTV U→Bool
 | .v x=>x.belowB m
 | .tup xs=>xs.all (TAV.belowB m)
 | .unk=>true
def Ev.belowB (m:Nat):Ev U→Bool
 | .box i _ xs=>Nat.blt i m&&xs.all (It.belowB m)
 | .set i _ xs=>xs.all (It.belowB m)
 | .raw i B=>match B with
  | .obj _=>Nat.blt i m
  | _=>false
 | .lp i _ _ tm _ _ _ _ d=>Nat.blt i m&&(Nat.blt d m&&tm.all fun p=>p.2.belowB m)
 | .ls _ xs=>xs.all fun p=>p.2.belowB m
def disj:List (Nat×Nat×Nat)→Bool
 | []=>true
 | p::r=>r.all (fun q=>!(Nat.beq p.1 q.1)||(Nat.ble (p.2.1+p.2.2) q.2.1||Nat.ble (q.2.1+q.2.2) p.2.1))&&disj r
def Qaw:List Nat→Bool
 | []=>true
 | a::r=>!(r.contains a)&&Qaw r
def cellOK (es:List (Ev U)) (p:Nat×Nat×Nat):Bool:=match Zd es p.1 with
 | some (_,N)=>Nat.ble (p.2.1+p.2.2) N
 | none=>false
def appOK (st:TSt U) (i:Nat):Bool:=Nat.blt i st.m.nx&&Q42 i (J0 st.m.tk i) st.tm st.m.es
def Q7o (h:Lab U) (st:TSt U):Bool :=
 st.tm.all (fun p=>p.2.belowB st.m.nx)&&(st.m.es.all (Ev.belowB st.m.nx)&&(st.m.tk.all (fun p=>Nat.blt p.1 st.m.nx)&&(st.df.tail.all (fun i=>Nat.blt i st.m.nx)&&((Yu h.sl).all (cellOK st.m.es)&&(disj (Yu h.sl)&&(Qaw (Yi h.sl)&&((Yi h.sl).all (appOK st)&&(DF h.sl).all (fun i=>Nat.blt i st.m.nx))))))))
variable {D}
theorem Wf {α:Type}:∀ (a b:List (Nat×α)) (i:Nat),Qcq (a++b) i=match Qcq a i with
    | some x=>some x
    | none=>Qcq b i
  | [],b,i=>rfl
  | (k,x)::a,b,i=>by
    rw [List.cons_append,Q8,Q8,Wf a b i]
    by_cases h:k=i
    · rw [if_pos h,if_pos h]
    · rw [if_neg h,if_neg h]
theorem Q2m {α:Type} {l:List (Nat×α)} {i:Nat} (h:∀ p∈l,p.1 ≠ i):Qcq l i=none:=by
 cases e:Qcq l i with
 | none=>rfl
 | some x=>exact (h _ (Y3 e) rfl).elim
theorem lk_nd {α:Type}:∀ {l:List (Nat×α)} {i:Nat} {x:α},Qaw (l.map (·.1))=true→(i,x)∈l→Qcq l i=some x
  | (k,y)::l,i,x,h,hm=>by
    obtain ⟨h1,h2⟩:=Bool.and_eq_true_iff.1 (show (!((l.map (·.1)).contains k)&&Qaw (l.map (·.1)))=true from h)
    rw [Q8]
    rcases List.mem_cons.1 hm with e | hm
    · cases e;rw [if_pos rfl]
    · have hne:k ≠ i:=fun e=>by
        subst e
        have:(l.map (·.1)).contains k=true:=List.contains_iff_mem.2 (List.mem_map.2 ⟨_,hm,rfl⟩)
        rw [this] at h1;cases h1
      rw [if_neg hne];exact lk_nd h2 hm
theorem YY {α:Type} (p a:List α):Q13 a (p++a)=p:=by
 unfold Q13
 rw [List.length_append,show p.length+a.length - a.length=p.length by omega,List.take_left]
theorem Dl:∀ {sl:List (List Loc×AK U)} {s:TSt U} {t:tup (sl.map (·.2))},Qau D s sl=some t→∀ p∈vals sl t,Qal D s p.1 p.2.1=some p.2.2
  | [],s,t,h,p,hp=>by cases hp
  | [(ls,k)],s,t,h,p,hp=>by
    rw [List.mem_singleton.1 hp];exact h
  | (ls,k)::s2::r,s,t,h,p,hp=>by
    unfold Qau at h
    split at h
    · rename_i a b ha hb
      cases h
      rcases List.mem_cons.1 hp with e | hp
      · rw [e];exact ha
      · exact Dl hb p hp
    · cases h
theorem XO:∀ {sl:List (List Loc×AK U)} {t:tup (sl.map (·.2))},(vals sl t).map (fun p=>(p.1,p.2.1))=sl
  | [],t=>rfl
  | [(ls,k)],t=>rfl
  | (ls,k)::s2::r,t=>by
    show (ls,k)::(vals (s2::r) t.2).map _=_
    rw [XO]
theorem encK_size (hD:D.OK) (k:AK U) (v:k.Ty) (ver:Nat):QW (Gj k v ver).items=k.sz:=by
 cases k with
 | stc t=>show (U.E t).sz+0=_;rfl
 | _=>rfl
theorem Gz {x:TTV U}:∀ {ls:List Loc} {q:Nat×TTV U},q∈Wt x ls→q.2=x∧Loc.reg q.1∈ls∧q.1∈DJ ls
 | .reg r::ls,q,h=>by
  rcases List.mem_cons.1 h with e | h
  ·rw [e];exact ⟨rfl,List.mem_cons_self ..,List.mem_cons_self ..⟩
  ·obtain ⟨h1,h2,h3⟩:=Gz h
   exact ⟨h1,List.mem_cons_of_mem _ h2,List.mem_cons_of_mem _ h3⟩
 | .cell i off::ls,q,h=>by
  obtain ⟨h1,h2,h3⟩:=Gz (show q∈Wt x ls from h)
  exact ⟨h1,List.mem_cons_of_mem _ h2,h3⟩
theorem Gx {xs:List (It U)}:∀ {ls:List Loc} {q:Nat×Nat×List (It U)},q∈Uo xs ls→q.2.2=xs∧Loc.cell q.1 q.2.1∈ls
 | .reg r::ls,q,h=>by
  obtain ⟨h1,h2⟩:=Gx (show q∈Uo xs ls from h)
  exact ⟨h1,List.mem_cons_of_mem _ h2⟩
 | .cell i off::ls,q,h=>by
  rcases List.mem_cons.1 h with e | h
  ·rw [e];exact ⟨rfl,List.mem_cons_self ..⟩
  ·obtain ⟨h1,h2⟩:=Gx h
   exact ⟨h1,List.mem_cons_of_mem _ h2⟩
theorem Wq (hD:D.OK) (xs:List (It U)) (n:Nat) (hn:QW xs=n):∀ ls:List Loc,(Uo xs ls).map (fun q=>(q.1,q.2.1,QW q.2.2))=UL n ls
 | []=>rfl
 | .reg r::ls=>Wq hD xs n hn ls
 | .cell i off::ls=>by
  show (i,off,QW xs)::_=(i,off,n)::_
  rw [Wq hD xs n hn ls,hn]
theorem G1 (hD:D.OK) (tk:List (Nat×TTok U)) {sl:List (List Loc×AK U)} {t:tup (sl.map (·.2))}:(GL tk (vals sl t)).map (fun q=>(q.1,q.2.1,QW q.2.2))=Yu sl:=by
 have e:Yu sl=(vals sl t).flatMap fun p=>UL p.2.1.sz p.1:=by
  have:=congrArg (fun l:List (List Loc×AK U)=>l.flatMap fun p=>UL p.2.sz p.1) (XO (sl:=sl) (t:=t))
  rw [← show _=Yu sl from this,List.flatMap_map]
 rw [e]
 unfold GL
 rw [List.map_flatMap]
 congr 1
 funext p
 exact Wq hD _ _ (encK_size hD p.2.1 p.2.2 _) p.1
theorem WB (tk:List (Nat×TTok U)) {sl:List (List Loc×AK U)} {t:tup (sl.map (·.2))}:(Q4f tk (vals sl t)).map (·.1)=Yi sl:=by
 have e:Yi sl=(vals sl t).flatMap fun p=>Q0s p.2.1:=by
  have:=congrArg (fun l:List (List Loc×AK U)=>l.flatMap fun p=>Q0s p.2) (XO (sl:=sl) (t:=t))
  rw [← show _=Yi sl from this,List.flatMap_map]
 rw [e]
 unfold Q4f
 rw [List.map_flatMap]
 congr 1
 funext p
 obtain ⟨ls,k,v⟩:=p
 cases k <;> rfl
theorem csubs_LW {xs:List CA} {cs:List C} (h:CSubs xs cs):LW xs (cs.map .d):=by
 refine ⟨by rw [List.length_map];exact h.len,fun k x y hx hy=>?_⟩
 rw [List.getElem?_map] at hy
 cases hc:cs[k]? with
 | none=>rw [hc] at hy;cases hy
 | some c =>
  rw [hc] at hy;cases hy
  obtain ⟨x',hx',hs⟩:=h.get k c hc
  rw [hx] at hx';cases hx'
  exact fun V w v hv=>(show Reads V.S w c v from hs.reads hv)
theorem SlE.sub {α:Type} [Enc α] {y:CA} {l:List α} (h:SlE y l):CW y (.d (.sl (Enc.sz α) (Enc.encL l))):=fun V w v hv=>(show Reads V.S w _ v from h.sl.reads hv)
theorem LW.single {x y:CA} (h:CW x y):LW [x] [y]:=by
 refine ⟨Z,fun k a b ha hb=>?_⟩
 cases k with
 | zero=>cases ha;cases hb;exact h
 | succ k=>simp at ha
theorem grp_LW (hD:D.OK) {tk tk':List (Nat×TTok U)} {t:U.T} {xs:List (It U)} {v:U.R t} (h:Q0p D tk t xs=some v):LW (Jm D tk xs) (Jm D tk' [.grp t v]):=by
 have e:Jm D tk' [It.grp t v]=((U.E t).enc v).map .d:=by
  unfold Jm
  rw [Kw,Q1i hD]
 rw [e]
 exact csubs_LW (Du hD h)
theorem int_LW {tk tk':List (Nat×TTok U)} {k:IntKind} {x:TAV U} {v:Int} (h:Q0f k x=some v):LW (Jm D tk x.items) (Jm D tk' [.one (.c (.v (.int k v)))]):=by
 unfold Q0f at h
 split at h
 ·rename_i k0 a
  cases hk:decide (k0=k) with
  | false=>rw [hk] at h;cases h
  | true =>
   rw [hk] at h;cases h
   have e:=of_decide_eq_true hk
   subst e
   exact LW.refl _
 ·cases h
theorem bool_LW {tk tk':List (Nat×TTok U)} {x:TAV U} {v:Bool} (h:U6 x=some v):LW (Jm D tk x.items) (Jm D tk' [.one (.c (.v (.bool v)))]):=by
 unfold U6 at h
 split at h
 ·cases h;exact LW.refl _
 ·cases h
theorem str_LW {tk tk':List (Nat×TTok U)} {x:TAV U} {v:Qdk} (h:Q0e x=some v):LW (Jm D tk x.items) (Jm D tk' [.one (.c (.str v))]):=by
 unfold Q0e at h
 split at h
 ·cases h;exact LW.refl _
 ·cases h
theorem ptr_LW {tk tk':List (Nat×TTok U)} {i off:Nat} {x:TAV U} {v:Unit} (h:Q64 i off x=some v):LW (Jm D tk x.items) (Jm D tk' [.one (.ptr i off)]):=by
 unfold Q64 at h
 split at h
 ·rename_i j o
  cases hb:(Nat.beq j i&&Nat.beq o off) with
  | false=>rw [hb] at h;cases h
  | true =>
   obtain ⟨b1,b2⟩:=Bool.and_eq_true_iff.1 hb
   have e1:=Nat.eq_of_beq_eq_true b1
   have e2:=Nat.eq_of_beq_eq_true b2
   subst e1;subst e2
   exact LW.refl _
 ·cases h
theorem any_LW {tk tk':List (Nat×TTok U)} {x:TAV U} {v:Unit} (h:decAny x=some v):LW (Jm D tk x.items) (Jm D tk' [.one (.raw .any)]):=by
 cases x with
 | one x=>exact LW.single fun V w v hv=>CA.rel.one hv
 | agg xs=>cases h
theorem sl_LW {tk tk':List (Nat×TTok U)} {t:U.T} {x:TAV U} {l:List (U.R t)} (h:KB tk t (.v x)=some l):LW (Jm D tk x.items) (Jm D tk' [.one (.c (.sl t l))]):=by
 obtain ⟨y,hy,hs⟩:=GT (D:=D) h
 cases x with
 | one z =>
  have e:z.er tk=y:=by
   have:TV.v (.one (z.er tk))=.v (.one y):=hy
   cases this;rfl
  show LW [z.er tk] [_]
  rw [e]
  exact LW.single hs.sub
 | agg xs =>
  have:TV.v (.agg (Jm D tk xs))=.v (.one y):=hy
  cases this
theorem app_LW {tk tk':List (Nat×TTok U)} {i ver:Nat} {e:TypeId} {t:U.T} {x:TAV U} {l:List (U.R t)} (h:XE tk i e t x=some l) (hc:cur tk' i ver=some ⟨e,t,l,ver⟩):LW (Jm D tk x.items) (Jm D tk' [.one (.app i ver)]):=by
 unfold XE at h
 split at h
 ·rename_i j u
  split at h
  ·rename_i T hT
   cases hb:(Nat.beq j i&&Nat.beq T.E e) with
   | false=>rw [hb] at h;cases h
   | true =>
    rw [hb,cond_true] at h
    obtain ⟨b1,b2⟩:=Bool.and_eq_true_iff.1 hb
    have e1:=Nat.eq_of_beq_eq_true b1
    obtain ⟨et,e2⟩:=YS h
    subst et;subst e1
    have e3:(TA.app j u:TA U).er tk=(TA.app j ver:TA U).er tk':=by
     show (match cur tk j u with
      | some T=>CA.app j (U.E T.t).sz ((U.E T.t).encL T.l)
      | none=>CA.any)=(match cur tk' j ver with
      | some T=>CA.app j (U.E T.t).sz ((U.E T.t).encL T.l)
      | none=>CA.any)
     rw [hT,hc,e2]
    show LW [(TA.app j u:TA U).er tk] [(TA.app j ver:TA U).er tk']
    rw [e3];exact LW.refl _
  ·cases h
 ·cases h
theorem dec_LW (hD:D.OK) {tk tk':List (Nat×TTok U)} {k:AK U} {x:TAV U} {v:k.Ty} {ver:Nat} (h:Q66 D tk k x=some v) (ht:∀ p∈Q95 k v ver,cur tk' p.1 ver=some p.2):LW (Jm D tk x.items) (Jm D tk' (Gj k v ver).items):=by
 cases k with
 | int k=>exact int_LW h
 | bool=>exact bool_LW h
 | str=>exact str_LW h
 | sl t=>exact sl_LW h
 | app i e t=>exact app_LW h (ht _ (List.mem_singleton.2 rfl))
 | stc t=>exact grp_LW hD h
 | ptr i off=>exact ptr_LW h
 | any=>exact any_LW h
theorem dec_rel (hD:D.OK) {tk tk':List (Nat×TTok U)} {k:AK U} {x:TAV U} {v:k.Ty} {ver:Nat} (h:Q66 D tk k x=some v) (ht:∀ p∈Q95 k v ver,cur tk' p.1 ver=some p.2) (hs:(∃ t y,k=.stc t∧x=.one y)→False) {V:Vu} {w:World} {u:Value} (hr:(x.er D tk).rel V w u):((Gj k v ver).er D tk').rel V w u:=by
 have hl:=dec_LW (tk':=tk') hD h ht
 cases x with
 | one y =>
  have key:∀ z:TA U,LW (Jm D tk [.one y]) (Jm D tk' [.one z])→((TAV.one z).er D tk').rel V w u:=fun z hz=>hz.2 0 _ _ rfl rfl V w u hr
  cases k with
  | stc t=>exact (hs ⟨t,y,rfl,rfl⟩).elim
  | int k=>exact key _ hl
  | bool=>exact key _ hl
  | str=>exact key _ hl
  | sl t=>exact key _ hl
  | app i e t=>exact key _ hl
  | ptr i off=>exact key _ hl
  | any=>exact key _ hl
 | agg xs =>
  cases k with
  | stc t =>
   obtain ⟨vs,h1,h2⟩:=hr
   exact ⟨vs,h1,hl.rels h2⟩
  | int k=>cases h
  | bool=>cases h
  | str=>cases h
  | sl t=>cases h
  | app i e t=>cases h
  | ptr i off=>cases h
  | any=>cases h
end
end
section
open Go.RowKit
section
variable {U:Univ} {D:Codec U}
theorem decApp_other {tk:List (Nat×TTok U)} {j u:Nat} {e:TypeId} {t:U.T} {x:TAV U} {l:List (U.R t)} (h:XE tk j e t x=some l) (b2:(cur tk j u).isSome=true):XE tk j e t (.one (.app j u))=some l:=by
 unfold XE at h
 split at h
 ·rename_i j' u'
  split at h
  ·rename_i T hT
   cases hb:(Nat.beq j' j&&Nat.beq T.E e) with
   | false=>rw [hb] at h;cases h
   | true =>
    have e2:=Nat.eq_of_beq_eq_true (Bool.and_eq_true_iff.1 hb).1
    subst e2
    have hc:cur tk j' u=some T:=by
     unfold cur at hT b2 ⊢
     cases hlk:Qcq tk j' with
     | none=>rw [hlk] at hT;cases hT
     | some T1 =>
      rw [hlk] at hT b2
      dsimp only at hT b2 ⊢
      cases q1:Nat.beq T1.ver u' with
      | false=>rw [q1] at hT;cases hT
      | true =>
       rw [q1] at hT;cases hT
       cases q2:Nat.beq T.ver u with
       | false=>rw [q2] at b2;cases b2
       | true=>rfl
    show (match cur tk j' u with
     | some T=>cond (Nat.beq j' j'&&Nat.beq T.E e) (KO T.t t T.l) none
     | none=>none)=some l
    rw [hc]
    exact h
  ·cases h
 ·cases h
theorem Q21 {s:TSt U} {ls:List Loc} {k:AK U} {v:k.Ty} (h:Qal D s ls k=some v):∀ l∈ls,∃ x,X1 D s l k.sz=some x∧Q66 D s.m.tk k x=some v∧((∃ t y,k=.stc t∧x=.one y)→False):=by
 unfold Qal at h
 split at h
 ·cases h
 ·rename_i l0 r
  split at h
  ·rename_i x hx
   cases hr:restOK D s x r k with
   | false=>rw [hr] at h;cases h
   | true =>
    rw [hr,cond_true] at h
    have hst:(∃ t y,k=.stc t∧x=.one y)→False:=by
     rintro ⟨t,y,rfl,rfl⟩
     cases hr
    intro l hl
    rcases List.mem_cons.1 hl with rfl | hl
    ·exact ⟨x,hx,h,hst⟩
    ·cases k with
     | app i e t =>
      have h1:=List.all_eq_true.1 (show r.all (Q1x D s i)=true from hr) l hl
      unfold Q1x at h1
      split at h1
      ·rename_i j u hj
       obtain ⟨b1,b2⟩:=Bool.and_eq_true_iff.1 h1
       have e1:=Nat.eq_of_beq_eq_true b1
       subst e1
       refine ⟨_,hj,?_,fun ⟨_,_,e,_⟩=>by cases e⟩
       exact decApp_other h b2
      ·cases h1
     | int k=>rw [List.isEmpty_iff.1 (show r.isEmpty=true from hr)] at hl;cases hl
     | bool=>rw [List.isEmpty_iff.1 (show r.isEmpty=true from hr)] at hl;cases hl
     | str=>rw [List.isEmpty_iff.1 (show r.isEmpty=true from hr)] at hl;cases hl
     | sl t=>rw [List.isEmpty_iff.1 (show r.isEmpty=true from hr)] at hl;cases hl
     | ptr i off=>rw [List.isEmpty_iff.1 (show r.isEmpty=true from hr)] at hl;cases hl
     | any=>rw [List.isEmpty_iff.1 (show r.isEmpty=true from hr)] at hl;cases hl
     | stc t=>rw [List.isEmpty_iff.1 (Bool.and_eq_true_iff.1 (show (Q5u x&&r.isEmpty)=true from hr)).2] at hl;cases hl
  ·cases h
theorem rd1_ne {s:TSt U} {ls:List Loc} {k:AK U} {v:k.Ty} (h:Qal D s ls k=some v):∃ l r,ls=l::r:=by
 cases ls with
 | nil=>cases h
 | cons l r=>exact ⟨l,r,rfl⟩
structure AtLab (D:Codec U) (h:Lab U) (st s:TSt U) (t:tup (h.sl.map (·.2))):Prop where
 sfx:Sfx st s
 wf:Q7o h st=true
 pk:Gc D h st s=some t
theorem AtLab.parts {h:Lab U} {st s:TSt U} {t:tup (h.sl.map (·.2))} (a:AtLab D h st s t) :
  (∃ p,s.tm=p++st.tm∧∀ q∈p,q.1∈Un h.sl∨q.1∈h.dead)∧(∃ p,s.m.es=p++st.m.es∧∀ q∈p,Q9g st.m.nx (Yu h.sl) q=true)∧(∃ p,s.m.tk=p++st.m.tk∧∀ q∈p,st.m.nx≤q.1∨q.1∈Yi h.sl)∧Qau D s h.sl=some t∧st.df=s.df:=by
 obtain ⟨⟨p1,e1⟩,⟨p2,e2⟩,⟨p3,e3⟩,_,_,_⟩:=a.sfx
 have hp:=a.pk
 unfold Gc at hp
 cases hc:Q83 h st s with
 | false=>rw [hc] at hp;cases hp
 | true =>
  rw [hc,cond_true] at hp
  unfold Q83 at hc
  rw [e1,e2,e3,YY,YY,YY] at hc
  obtain ⟨c0,hc⟩:=Bool.and_eq_true_iff.1 hc
  obtain ⟨c1,c23⟩:=Bool.and_eq_true_iff.1 hc
  obtain ⟨c2,c3⟩:=Bool.and_eq_true_iff.1 c23
  refine ⟨⟨p1,e1,fun q hq=>?_⟩,⟨p2,e2,fun q hq=>List.all_eq_true.1 c2 q hq⟩,⟨p3,e3,fun q hq=>?_⟩,hp,G4 c0⟩
  ·rcases Bool.or_eq_true_iff.1 (List.all_eq_true.1 c1 q hq) with h | h
   ·exact .inl (List.contains_iff_mem.1 h)
   ·exact .inr (List.contains_iff_mem.1 h)
  ·rcases Bool.or_eq_true_iff.1 (List.all_eq_true.1 c3 q hq) with h | h
   ·exact .inl (Nat.le_of_ble_eq_true h)
   ·exact .inr (List.contains_iff_mem.1 h)
structure WfL (h:Lab U) (st:TSt U):Prop where
 tm:∀ p∈st.tm,p.2.belowB st.m.nx=true
 es:∀ e∈st.m.es,e.belowB st.m.nx=true
 tk:∀ p∈st.m.tk,p.1 < st.m.nx
 df:∀ i∈st.df.tail,i < st.m.nx
 cells:∀ p∈Yu h.sl,cellOK st.m.es p=true
 disj:disj (Yu h.sl)=true
 nd:Qaw (Yi h.sl)=true
 app:∀ i∈Yi h.sl,appOK st i=true
 pt:∀ i∈DF h.sl,i < st.m.nx
theorem Dz {h:Lab U} {st:TSt U} (hw:Q7o h st=true):WfL h st:=by
 unfold Q7o at hw
 obtain ⟨a1,hw⟩:=Bool.and_eq_true_iff.1 hw
 obtain ⟨a2,hw⟩:=Bool.and_eq_true_iff.1 hw
 obtain ⟨a3,hw⟩:=Bool.and_eq_true_iff.1 hw
 obtain ⟨a4,hw⟩:=Bool.and_eq_true_iff.1 hw
 obtain ⟨a5,hw⟩:=Bool.and_eq_true_iff.1 hw
 obtain ⟨a6,hw⟩:=Bool.and_eq_true_iff.1 hw
 obtain ⟨a7,hw⟩:=Bool.and_eq_true_iff.1 hw
 obtain ⟨a8,a9⟩:=Bool.and_eq_true_iff.1 hw
 exact ⟨List.all_eq_true.1 a1,List.all_eq_true.1 a2,fun p hp=>Nat.le_of_ble_eq_true (List.all_eq_true.1 a3 p hp),fun i hi=>Nat.le_of_ble_eq_true (List.all_eq_true.1 a4 i hi),List.all_eq_true.1 a5,a6,a7,List.all_eq_true.1 a8,fun i hi=>Nat.le_of_ble_eq_true (List.all_eq_true.1 a9 i hi)⟩
theorem TA.app_lt {x:TA U} {j u m:Nat} (h:x.hasApp j u=true) (hb:x.belowB m=true):j < m:=by
 cases x with
 | app i v =>
  have:=Nat.eq_of_beq_eq_true (Bool.and_eq_true_iff.1 (show (Nat.beq i j&&Nat.beq v u)=true from h)).1
  subst this
  exact Nat.le_of_ble_eq_true hb
 | c x=>cases h
 | ptr i off=>cases h
 | pel t x off=>cases h
 | fn f caps=>cases h
 | raw x=>cases h
theorem It.app_lt {x:It U} {j u m:Nat} (h:x.hasApp j u=true) (hb:x.belowB m=true):j < m:=by
 cases x with
 | one x=>exact TA.app_lt h hb
 | grp t x=>cases h
theorem WD {xs:List (It U)} {j u m:Nat} (h:xs.any (It.hasApp j u)=true) (hb:xs.all (It.belowB m)=true):j < m:=by
 obtain ⟨x,h1,h2⟩:=List.any_eq_true.1 h
 exact It.app_lt h2 (List.all_eq_true.1 hb x h1)
theorem TAV.app_lt {x:TAV U} {j u m:Nat} (h:x.hasApp j u=true) (hb:x.belowB m=true):j < m:=by
 cases x with
 | one x=>exact TA.app_lt h hb
 | agg xs=>exact WD h hb
theorem WM {x:TTV U} {j u m:Nat} (h:x.hasApp j u=true) (hb:x.belowB m=true):j < m:=by
 cases x with
 | v x=>exact TAV.app_lt h hb
 | tup xs =>
  obtain ⟨x,h1,h2⟩:=List.any_eq_true.1 (show xs.any (TAV.hasApp j u)=true from h)
  exact TAV.app_lt h2 (List.all_eq_true.1 (show xs.all (TAV.belowB m)=true from hb) x h1)
 | unk=>cases h
theorem Ev.app_lt {x:Ev U} {j u m:Nat} (h:x.hasApp j u=true) (hb:x.belowB m=true):j < m:=by
 cases x with
 | box i T xs=>exact WD h (Bool.and_eq_true_iff.1 hb).2
 | set i off xs=>exact WD h hb
 | raw i B=>cases h
 | lp i s p tm nt ps a b d =>
  obtain ⟨q,h1,h2⟩:=List.any_eq_true.1 (show tm.any (fun p=>p.2.hasApp j u)=true from h)
  exact WM h2 (List.all_eq_true.1 (Bool.and_eq_true_iff.1 (Bool.and_eq_true_iff.1 hb).2).2 q h1)
 | ls i xs =>
  obtain ⟨q,h1,h2⟩:=List.any_eq_true.1 (show xs.any (fun p=>p.2.hasApp j u)=true from h)
  exact WM h2 (List.all_eq_true.1 (show xs.all (fun p=>p.2.belowB m)=true from hb) q h1)
theorem TA.er_below {x:TA U} {m:Nat} (tk:List (Nat×TTok U)) (hb:x.belowB m=true):(x.er tk).below m:=by
 cases x with
 | c x=>trivial
 | ptr i off=>exact Nat.le_of_ble_eq_true hb
 | pel t x off=>trivial
 | fn f caps=>exact fun p hp=>Nat.le_of_ble_eq_true (List.all_eq_true.1 (show caps.all _=true from hb) p hp)
 | app i ver =>
  show (match cur tk i ver with
   | some T=>CA.app i (U.E T.t).sz ((U.E T.t).encL T.l)
   | none=>CA.any).below m
  cases cur tk i ver with
  | none=>trivial
  | some T=>exact Nat.le_of_ble_eq_true hb
 | raw x =>
  cases x with
  | yld L=>exact Nat.le_of_ble_eq_true hb
  | any=>trivial
  | _=>cases hb
theorem UF {xs:List (It U)} {m:Nat} (tk:List (Nat×TTok U)) (hb:xs.all (It.belowB m)=true):∀ x∈Jm D tk xs,x.below m:=by
 intro x hx
 obtain ⟨y,hy,rfl⟩:=List.mem_map.1 hx
 obtain ⟨it,h1,h2⟩:=List.mem_flatMap.1 hy
 have h3:=List.all_eq_true.1 hb it h1
 cases it with
 | one z=>rw [List.mem_singleton.1 h2];exact TA.er_below tk h3
 | grp t z=>obtain ⟨c,_,rfl⟩:=List.mem_map.1 h2;trivial
theorem GZ {x:TAV U} {m:Nat} (tk:List (Nat×TTok U)) (hb:x.belowB m=true):(x.er D tk).below m:=by
 cases x with
 | one x=>exact TA.er_below tk hb
 | agg xs=>exact UF tk hb
theorem GY {x:TTV U} {m:Nat} (tk:List (Nat×TTok U)) (hb:x.belowB m=true):(x.er D tk).below m:=by
 cases x with
 | v x=>exact GZ tk hb
 | tup xs =>
  intro y hy
  obtain ⟨z,hz,rfl⟩:=List.mem_map.1 hy
  exact GZ tk (List.all_eq_true.1 (show xs.all (TAV.belowB m)=true from hb) z hz)
 | unk=>trivial
theorem setL_mem:∀ (ys xs:List CA) (off:Nat) (z:CA),z∈setL xs off ys→z∈xs∨z∈ys
 | [],xs,off,z,h=>.inl h
 | y::ys,xs,off,z,h=>by
  rcases setL_mem ys _ _ z h with h | h
  ·rcases List.mem_or_eq_of_mem_set h with h | h
   ·exact .inl h
   ·exact .inr (by rw [h];exact List.mem_cons_self ..)
  ·exact .inr (List.mem_cons_of_mem _ h)
theorem Kx {tk:List (Nat×TTok U)} {m:Nat}:∀ {es:List (Ev U)},(∀ e∈es,e.belowB m=true)→∀ i B,Qcq (Qr D tk es) i=some B→i < m∧B.below m
 | [],_,i,B,h=>by cases h
 | .box j T xs::es,hb,i,B,h=>by
  have h1:=hb _ (List.mem_cons_self ..)
  unfold Qr at h
  rw [Q8] at h
  split at h
  ·rename_i e;subst e;cases h
   obtain ⟨b1,b2⟩:=Bool.and_eq_true_iff.1 h1
   exact ⟨Nat.le_of_ble_eq_true b1,UF tk b2⟩
  ·exact Kx (fun e he=>hb e (List.mem_cons_of_mem _ he)) i B h
 | .raw j B'::es,hb,i,B,h=>by
  have h1:=hb _ (List.mem_cons_self ..)
  unfold Qr at h
  rw [Q8] at h
  split at h
  ·rename_i e;subst e;cases h
   cases B' with
   | obj o=>exact ⟨Nat.le_of_ble_eq_true h1,trivial⟩
   | cells T xs=>cases h1
   | loop s p tm nt ps a b d=>cases h1
   | mp es clock=>cases h1
  ·exact Kx (fun e he=>hb e (List.mem_cons_of_mem _ he)) i B h
 | .lp j s p tm nt ps a b d::es,hb,i,B,h=>by
  have h1:=hb _ (List.mem_cons_self ..)
  unfold Qr at h
  rw [Q8] at h
  split at h
  ·rename_i e;subst e;cases h
   obtain ⟨b1,b23⟩:=Bool.and_eq_true_iff.1 h1
   obtain ⟨b2,b3⟩:=Bool.and_eq_true_iff.1 b23
   refine ⟨Nat.le_of_ble_eq_true b1,Nat.le_of_ble_eq_true b2,fun t x hx=>?_⟩
   rw [QR] at hx
   cases hz:Qcq tm t with
   | none=>rw [hz] at hx;cases hx
   | some z=>rw [hz] at hx;cases hx;exact GY tk (List.all_eq_true.1 b3 _ (Y3 hz))
  ·exact Kx (fun e he=>hb e (List.mem_cons_of_mem _ he)) i B h
 | .ls j xs::es,hb,i,B,h=>by
  have h1:=hb _ (List.mem_cons_self ..)
  have ih:=Kx (tk:=tk) (fun e he=>hb e (List.mem_cons_of_mem _ he))
  unfold Qr at h
  split at h
  ·rename_i s p tm nt ps a b d hy
   rw [Q8] at h
   split at h
   ·rename_i e;subst e;cases h
    obtain ⟨c1,c2,c3⟩:=ih j _ hy
    refine ⟨c1,c2,fun t x hx=>?_⟩
    rw [JH] at hx
    cases hz:Qcq xs t with
    | none =>
     rw [QR,hz] at hx
     exact c3 t x hx
    | some z =>
     rw [QR,hz] at hx;cases hx
     exact GY tk (List.all_eq_true.1 (show xs.all (fun p=>p.2.belowB _)=true from h1) _ (Y3 hz))
   ·exact ih i B h
  ·exact ih i B h
 | .set j off xs::es,hb,i,B,h=>by
  have h1:=hb _ (List.mem_cons_self ..)
  have ih:=Kx (tk:=tk) (fun e he=>hb e (List.mem_cons_of_mem _ he))
  unfold Qr at h
  split at h
  ·rename_i T ys hy
   rw [Q8] at h
   split at h
   ·rename_i e;subst e;cases h
    obtain ⟨c1,c2⟩:=ih j _ hy
    refine ⟨c1,fun z hz=>?_⟩
    rcases setL_mem _ _ _ z hz with hz | hz
    ·exact c2 z hz
    ·exact UF tk h1 z hz
   ·exact ih i B h
  ·exact ih i B h
def BR (cs:List (Nat×Nat×Nat)) (i:Nat):Option HB→Option HB→Prop
 | none,none=>True
 | some A,some B=>(A=B)∨∃ T xs ys,A=.cells T xs∧B=.cells T ys∧xs.length=ys.length∧∀ k,Q29 cs i k=false→ys[k]?=xs[k]?
 | _,_=>False
theorem BR.refl (cs:List (Nat×Nat×Nat)) (i:Nat) (o:Option HB):BR cs i o o:=by
 cases o with
 | none=>trivial
 | some A=>exact .inl rfl
theorem ZJ (hD:D.OK) {tk:List (Nat×TTok U)} {nx:Nat} {cs:List (Nat×Nat×Nat)} {es:List (Ev U)}:∀ (q:List (Ev U)),(∀ e∈q,Q9g nx cs e=true)→∀ i,i < nx→BR cs i (Qcq (Qr D tk es) i) (Qcq (Qr D tk (q++es)) i)
 | [],_,i,_=>BR.refl ..
 | .box j T xs::q,h,i,hi=>by
  have hj:=Nat.le_of_ble_eq_true (h _ (List.mem_cons_self ..))
  have ih:=ZJ hD (tk:=tk) (es:=es) q (fun e he=>h e (List.mem_cons_of_mem _ he)) i hi
  show BR cs i (Qcq (Qr D tk es) i) (Qcq ((j,.cells T (Jm D tk xs))::Qr D tk (q++es)) i)
  rw [Q8,if_neg (by omega)]
  exact ih
 | .raw j B::q,h,i,hi=>by
  have hj:=Nat.le_of_ble_eq_true (h _ (List.mem_cons_self ..))
  have ih:=ZJ hD (tk:=tk) (es:=es) q (fun e he=>h e (List.mem_cons_of_mem _ he)) i hi
  show BR cs i (Qcq (Qr D tk es) i) (Qcq ((j,B)::Qr D tk (q++es)) i)
  rw [Q8,if_neg (by omega)]
  exact ih
 | .lp j s p tm nt ps a b d::q,h,i,hi=>by
  have hj:=Nat.le_of_ble_eq_true (h _ (List.mem_cons_self ..))
  have ih:=ZJ hD (tk:=tk) (es:=es) q (fun e he=>h e (List.mem_cons_of_mem _ he)) i hi
  show BR cs i (Qcq (Qr D tk es) i) (Qcq ((j,.loop s p (QP (TTV.er D tk) tm) nt ps a b d)::Qr D tk (q++es)) i)
  rw [Q8,if_neg (by omega)]
  exact ih
 | .ls j xs::q,h,i,hi=>by
  have hj:=Nat.le_of_ble_eq_true (h _ (List.mem_cons_self ..))
  have ih:=ZJ hD (tk:=tk) (es:=es) q (fun e he=>h e (List.mem_cons_of_mem _ he)) i hi
  show BR cs i (Qcq (Qr D tk es) i) (Qcq (match Qcq (Qr D tk (q++es)) j with
   | some (.loop s p tm nt ps a b d)=>(j,.loop s p (QP (TTV.er D tk) xs++tm) nt ps a b d)::Qr D tk (q++es)
   | _=>Qr D tk (q++es)) i)
  split
  ·rw [Q8,if_neg (by omega)];exact ih
  ·exact ih
 | .set j off xs::q,h,i,hi=>by
  have hev:=h _ (List.mem_cons_self ..)
  have ih:=ZJ hD (tk:=tk) (es:=es) q (fun e he=>h e (List.mem_cons_of_mem _ he)) i hi
  show BR cs i (Qcq (Qr D tk es) i) (Qcq (match Qcq (Qr D tk (q++es)) j with
   | some (.cells T ys)=>(j,.cells T (setL ys off (Jm D tk xs)))::Qr D tk (q++es)
   | _=>Qr D tk (q++es)) i)
  split
  ·rename_i T ys hy
   rw [Q8]
   by_cases e:j=i
   ·subst e
    rw [if_pos rfl]
    have hin:∀ k,Q29 cs j k=false→(setL ys off (Jm D tk xs))[k]?=ys[k]?:=by
     intro k hk
     rw [Xe,Zx hD]
     by_cases c:off≤k∧k < off+QW xs∧k < ys.length
     ·exfalso
      rcases Bool.or_eq_true_iff.1 (show (Nat.ble nx j||(List.range (QW xs)).all fun p=>Q29 cs j (off+p))=true from hev) with h1 | h1
      ·have:=Nat.le_of_ble_eq_true h1;omega
      ·have:=List.all_eq_true.1 h1 (k - off) (List.mem_range.2 (by omega))
       rw [show off+(k - off)=k by omega,hk] at this
       cases this
     ·rw [if_neg c]
    rw [hy] at ih
    cases hA:Qcq (Qr D tk es) j with
    | none=>rw [hA] at ih;exact ih.elim
    | some A =>
     rw [hA] at ih
     rcases ih with e1 | ⟨T',x1,y1,e1,e2,e3,e4⟩
     ·exact .inr ⟨T,ys,_,e1,rfl,(Jq ..).symm,hin⟩
     ·cases e2
      exact .inr ⟨T,x1,_,e1,rfl,by rw [Jq];exact e3,fun k hk=>(hin k hk).trans (e4 k hk)⟩
   ·rw [if_neg e];exact ih
  ·exact ih
theorem sets_get (hD:D.OK) {tk:List (Nat×TTok U)} {es:List (Ev U)}:∀ (L:List (Nat×Nat×List (It U))),disj (L.map fun q=>(q.1,q.2.1,QW q.2.2))=true→∀ p∈L,∀ (T:TypeId) (ys:List CA),Qcq (Qr D tk (L.map We++es)) p.1=some (.cells T ys) →
  ∀ k,p.2.1≤k→k < p.2.1+QW p.2.2→k < ys.length→ys[k]?=(Jm D tk p.2.2)[k - p.2.1]?
 | [],_,p,hp,_,_,_=>by cases hp
 | q::L,hd,p,hp,T,ys,hy=>by
  intro k k1 k2 Qct
  obtain ⟨d1,d2⟩:=Bool.and_eq_true_iff.1 (show ((L.map fun q=>(q.1,q.2.1,QW q.2.2)).all _&&disj (L.map fun q=>(q.1,q.2.1,QW q.2.2)))=true from hd)
  have hq:Qr D tk ((q::L).map We++es)=match Qcq (Qr D tk (L.map We++es)) q.1 with
   | some (.cells T ys)=>(q.1,.cells T (setL ys q.2.1 (Jm D tk q.2.2)))::Qr D tk (L.map We++es)
   | _=>Qr D tk (L.map We++es):=by
   show Qr D tk (.set q.1 q.2.1 q.2.2::(L.map We++es))=_
   rfl
  rw [hq] at hy
  rcases List.mem_cons.1 hp with rfl | hp
  ·split at hy
   ·rename_i T0 y0 h0
    rw [Q8,if_pos rfl] at hy
    cases hy
    rw [Jq] at Qct
    rw [Xe,Zx hD,if_pos ⟨k1,k2,Qct⟩]
   ·rename_i h0
    exact (h0 T ys hy).elim
  ·have ih:=sets_get hD (tk:=tk) (es:=es) L d2 p hp
   split at hy
   ·rename_i T0 y0 h0
    rw [Q8] at hy
    by_cases e:q.1=p.1
    ·rw [if_pos e] at hy
     cases hy
     rw [e] at h0
     rw [Jq] at Qct
     have h1:=List.all_eq_true.1 d1 (p.1,p.2.1,QW p.2.2) (List.mem_map.2 ⟨p,hp,rfl⟩)
     dsimp only at h1
     rw [e] at h1
     have h2:(Nat.ble (q.2.1+QW q.2.2) p.2.1||Nat.ble (p.2.1+QW p.2.2) q.2.1)=true:=by simpa using h1
     rw [Xe,Zx hD,if_neg]
     ·exact ih _ y0 h0 k k1 k2 Qct
     ·rcases Bool.or_eq_true_iff.1 h2 with h3 | h3 <;> have:=Nat.le_of_ble_eq_true h3 <;> omega
    ·rw [if_neg e] at hy
     exact ih T ys hy k k1 k2 Qct
   ·exact ih T ys hy k k1 k2 Qct
end
end
section
open Go.RowKit
section
variable {U:Univ} {D:Codec U}
theorem Xt {α:Type}:∀ {l:List (Nat×α)} {i:Nat},Qcq l i=none→∀ p∈l,p.1 ≠ i
  | (k,x)::l,i,h,p,hp=>by
    rw [Q8] at h
    split at h
    · cases h
    · rename_i hne
      rcases List.mem_cons.1 hp with rfl | hp
      · exact hne
      · exact Xt h p hp
theorem Xg (x:TTV U):∀ ls:List Loc,(Wt x ls).map (·.1)=DJ ls
 | []=>rfl
 | .reg r::ls=>by show r::(Wt x ls).map _=r::_;rw [Xg x ls]
 | .cell i off::ls=>Xg x ls
theorem labTm_keys (tk:List (Nat×TTok U)) {sl:List (List Loc×AK U)} {t:tup (sl.map (·.2))}:(Q6q tk (vals sl t)).map (·.1)=Un sl:=by
 have e:Un sl=(vals sl t).flatMap fun p=>DJ p.1:=by
  have:=congrArg (fun l:List (List Loc×AK U)=>l.flatMap fun p=>DJ p.1) (XO (sl:=sl) (t:=t))
  rw [← show _=Un sl from this,List.flatMap_map]
 rw [e]
 unfold Q6q
 rw [List.map_flatMap]
 congr 1
 funext p
 exact Xg _ p.1
variable {h:Lab U} {st s:TSt U} {t:tup (h.sl.map (·.2))}
abbrev Qdf (h:Lab U) (st:TSt U) (t:tup (h.sl.map (·.2))):List (Nat×TTok U):=Q4f st.m.tk (vals h.sl t)++st.m.tk
theorem DZ (wf:WfL h st):∀ p∈vals h.sl t,∀ w∈Q95 p.2.1 p.2.2 (Wb st.m.tk p.2.1),Qcq (Qdf h st t) w.1=some w.2∧cur (Qdf h st t) w.1 (Wb st.m.tk p.2.1)=some w.2:=by
 intro p hp w hw
 have hm:(w.1,w.2)∈Q4f st.m.tk (vals h.sl t):=List.mem_flatMap.2 ⟨p,hp,hw⟩
 have h1:=lk_nd (by rw [WB];exact wf.nd) hm
 have h2:Qcq (Qdf h st t) w.1=some w.2:=by
  unfold Qdf
  rw [Wf,h1]
 refine ⟨h2,?_⟩
 have hv:w.2.ver=Wb st.m.tk p.2.1:=by
  obtain ⟨ls,k,v⟩:=p
  cases k with
  | app i e tt=>rw [List.mem_singleton.1 hw]
  | int k=>cases hw
  | bool=>cases hw
  | str=>cases hw
  | sl t=>cases hw
  | stc t=>cases hw
  | ptr i o=>cases hw
  | any=>cases hw
 unfold cur
 rw [h2]
 dsimp only
 rw [hv]
 simp
theorem Q2s {i:Nat} (hi:i∉Yi h.sl):Qcq (Qdf h st t) i=Qcq st.m.tk i:=by
 unfold Qdf
 rw [Wf,Q2m (fun p hp e=>hi (by
  rw [← WB st.m.tk (t:=t)]
  exact List.mem_map.2 ⟨p,hp,e⟩))]
theorem lab_in (wf:WfL h st) {i:Nat} (hi:i∈Yi h.sl):∃ p∈vals h.sl t,∃ (e:TypeId) (tt:U.T) (l:List (U.R tt)),p.2=⟨.app i e tt,l⟩∧Qcq (Qdf h st t) i=some ⟨e,tt,l,Wb st.m.tk (.app i e tt)⟩:=by
 rw [← WB st.m.tk (t:=t)] at hi
 obtain ⟨w,hw,rfl⟩:=List.mem_map.1 hi
 obtain ⟨p,hp,hwp⟩:=List.mem_flatMap.1 hw
 have h1:=(DZ (t:=t) wf p hp w hwp).1
 obtain ⟨ls,k,v⟩:=p
 cases k with
 | app i e tt =>
  rw [List.mem_singleton.1 hwp] at h1 ⊢
  exact ⟨_,hp,e,tt,v,Z,h1⟩
 | int k=>cases hwp
 | bool=>cases hwp
 | str=>cases hwp
 | sl t=>cases hwp
 | stc t=>cases hwp
 | ptr i o=>cases hwp
 | any=>cases hwp
theorem lab_sOut (a:AtLab D h st s t) {i:Nat} (hi:i∉Yi h.sl) (hn:i < st.m.nx):Qcq s.m.tk i=Qcq st.m.tk i:=by
 obtain ⟨-,-,⟨p3,e3,Qct⟩,-⟩:=a.parts
 rw [e3,Wf,Q2m (fun p hp e=>by
  rcases Qct p hp with q | q
  ·omega
  ·exact hi (by rw [← e];exact q))]
theorem lab_tokB (a:AtLab D h st s t) {P:Nat→Nat→Prop} (h1:∀ j u,P j u→j < st.m.nx) (h2:∀ i∈Yi h.sl,¬ P i (J0 st.m.tk i)):TkW s.m.tk (Qdf h st t) P:=by
 have wf:=Dz a.wf
 intro j u hp
 by_cases hj:j∈Yi h.sl
 ·left
  obtain ⟨p,_,e,tt,l,_,hl⟩:=lab_in (t:=t) wf hj
  unfold cur
  rw [hl]
  dsimp only
  cases hb:Nat.beq (Wb st.m.tk (AK.app j e tt)) u with
  | false=>rfl
  | true =>
   have e1:=Nat.eq_of_beq_eq_true hb
   exact (h2 j hj (by
    have:P j (Wb st.m.tk (AK.app j e tt)):=by rw [e1];exact hp
    exact this)).elim
 ·right
  unfold cur
  rw [Q2s hj,lab_sOut a hj (h1 j u hp)]
theorem memC_of {cs:List (Nat×Nat×Nat)} {i k:Nat} (h:Q29 cs i k=true):∃ c∈cs,c.1=i∧c.2.1≤k∧k < c.2.1+c.2.2:=by
 obtain ⟨c,hc,hb⟩:=List.any_eq_true.1 h
 obtain ⟨b1,b23⟩:=Bool.and_eq_true_iff.1 hb
 obtain ⟨b2,b3⟩:=Bool.and_eq_true_iff.1 b23
 exact ⟨c,hc,Nat.eq_of_beq_eq_true b1,Nat.le_of_ble_eq_true b2,Nat.le_of_ble_eq_true b3⟩
theorem of_memC {cs:List (Nat×Nat×Nat)} {i k:Nat} {c:Nat×Nat×Nat} (hc:c∈cs) (h1:c.1=i) (h2:c.2.1≤k) (h3:k < c.2.1+c.2.2):Q29 cs i k=true :=
 List.any_eq_true.2 ⟨c,hc,Bool.and_eq_true_iff.2 ⟨by rw [h1];simp,Bool.and_eq_true_iff.2 ⟨Nat.ble_eq_true_of_le h2,Nat.ble_eq_true_of_le h3⟩⟩⟩
theorem lab_sets_ok (hD:D.OK) (st:TSt U) (t:tup (h.sl.map (·.2))):∀ e∈(GL st.m.tk (vals h.sl t)).map We,Q9g st.m.nx (Yu h.sl) e=true:=by
 intro e he
 obtain ⟨q,hq,rfl⟩:=List.mem_map.1 he
 have hc:(q.1,q.2.1,QW q.2.2)∈Yu h.sl:=by
  rw [← G1 hD st.m.tk (t:=t)]
  exact List.mem_map.2 ⟨q,hq,Z⟩
 refine Bool.or_eq_true_iff.2 (.inr (List.all_eq_true.2 fun k hk=>?_))
 have:=List.mem_range.1 hk
 exact of_memC hc rfl (by dsimp only;omega) (by dsimp only;omega)
theorem WI {m:Nat} (k:AK U) (v:k.Ty) (ver:Nat) (h:∀ i∈Q0s k,i < m) (h2:∀ i∈Q3v k,i < m):(Gj k v ver).belowB m=true:=by
 cases k with
 | app i e tt=>exact Nat.ble_eq_true_of_le (h i (List.mem_singleton.2 rfl))
 | int k=>rfl
 | bool=>rfl
 | str=>rfl
 | sl t=>rfl
 | stc t=>rfl
 | ptr i o=>exact Nat.ble_eq_true_of_le (h2 i (List.mem_singleton.2 rfl))
 | any=>rfl
theorem TAV.items_below {m:Nat} {x:TAV U} (h:x.belowB m=true):x.items.all (It.belowB m)=true:=by
 cases x with
 | one x=>show (It.belowB m (.one x)&&true)=true;rw [Bool.and_true];exact h
 | agg xs=>exact h
theorem lab_below (wf:WfL h st):(∀ p∈(lab h st t).tm,p.2.belowB st.m.nx=true)∧∀ e∈(lab h st t).m.es,e.belowB st.m.nx=true:=by
 have happ:∀ p∈vals h.sl t,∀ i∈Q0s p.2.1,i < st.m.nx:=fun p hp i hi=>by
  have:i∈Yi h.sl:=by
   have e:Yi h.sl=(vals h.sl t).flatMap fun p=>Q0s p.2.1:=by
    have:=congrArg (fun l:List (List Loc×AK U)=>l.flatMap fun p=>Q0s p.2) (XO (sl:=h.sl) (t:=t))
    rw [← show _=Yi h.sl from this,List.flatMap_map]
   rw [e]
   exact List.mem_flatMap.2 ⟨p,hp,hi⟩
  exact Nat.le_of_ble_eq_true (Bool.and_eq_true_iff.1 (wf.app i this)).1
 have hptr:∀ p∈vals h.sl t,∀ i∈Q3v p.2.1,i < st.m.nx:=fun p hp i hi=>by
  have:i∈DF h.sl:=by
   have e:DF h.sl=(vals h.sl t).flatMap fun p=>Q3v p.2.1:=by
    have:=congrArg (fun l:List (List Loc×AK U)=>l.flatMap fun p=>Q3v p.2) (XO (sl:=h.sl) (t:=t))
    rw [← show _=DF h.sl from this,List.flatMap_map]
   rw [e]
   exact List.mem_flatMap.2 ⟨p,hp,hi⟩
  exact wf.pt i this
 refine ⟨fun p hp=>?_,fun e he=>?_⟩
 ·rcases List.mem_append.1 hp with hp | hp
  ·rcases List.mem_append.1 hp with hp | hp
   ·obtain ⟨q,hq,hm⟩:=List.mem_flatMap.1 hp
    rw [(Gz hm).1]
    exact WI _ _ _ (happ q hq) (hptr q hq)
   ·obtain ⟨r,_,rfl⟩:=List.mem_map.1 hp
    rfl
  ·exact wf.tm p hp
 ·rcases List.mem_append.1 he with he | he
  ·obtain ⟨q,hq,rfl⟩:=List.mem_map.1 he
   obtain ⟨p,hp,hm⟩:=List.mem_flatMap.1 hq
   have h1:=(Gx hm).1
   show q.2.2.all (It.belowB st.m.nx)=true
   rw [h1]
   exact TAV.items_below (WI _ _ _ (happ p hp) (hptr p hp))
  ·exact wf.es e he
theorem rdLoc_cell {i off n:Nat} {x:TAV U} (hx:X1 D s (.cell i off) n=some x):Wc D s.m.es i off n=some x.items:=by
 unfold X1 at hx
 dsimp only at hx
 split at hx
 ·rename_i y hy;cases hx;exact hy
 ·rename_i xs hne hxs;cases hx;exact hxs
 ·cases hx
theorem rdLoc_reg {r n:Nat} {x:TAV U} (hx:X1 D s (.reg r) n=some x):Qcq s.tm r=some (.v x):=by
 unfold X1 at hx
 dsimp only at hx
 split at hx
 ·rename_i y hy;cases hx;exact hy
 ·cases hx
theorem lab_hp (hD:D.OK) (a:AtLab D h st s t):∀ i B,Qcq (Qr D (Qdf h st t) ((GL st.m.tk (vals h.sl t)).map We++st.m.es)) i=some B→∃ A,Qcq (Qr D s.m.tk s.m.es) i=some A∧∀ V w o,A.rel V w o→B.rel V w o:=by
 have wf:=Dz a.wf
 obtain ⟨-,⟨p2,e2,k2⟩,-,hrd,-⟩:=a.parts
 have hv:=Dl hrd
 intro i B hB
 have hi:i < st.m.nx:=(Kx (lab_below (t:=t) wf).2 i B hB).1
 have brL:=ZJ hD (tk:=Qdf h st t) (es:=st.m.es) _ (lab_sets_ok hD st t) i hi
 have brS:=ZJ hD (tk:=s.m.tk) (es:=st.m.es) p2 k2 i hi
 rw [← e2] at brS
 have ow:=YR (D:=D) (es:=st.m.es) (tk:=s.m.tk) (tk':=Qdf h st t) (lab_tokB a (fun j u hp=>by
   obtain ⟨e,he,hp⟩:=List.any_eq_true.1 hp
   exact Ev.app_lt hp (wf.es e he)) (fun i hi hp=>by
   have h1:=(Bool.and_eq_true_iff.1 (wf.app i hi)).2
   have h2:=(Bool.and_eq_true_iff.1 h1).2
   rw [hp] at h2
   cases h2)) i
 rw [hB] at brL
 cases hX:Qcq (Qr D (Qdf h st t) st.m.es) i with
 | none=>rw [hX] at brL;exact brL.elim
 | some X =>
  rw [hX] at brL ow
  cases hY:Qcq (Qr D s.m.tk st.m.es) i with
  | none=>rw [hY] at ow;exact ow.elim
  | some Y =>
   rw [hY] at brS ow
   cases hA:Qcq (Qr D s.m.tk s.m.es) i with
   | none=>rw [hA] at brS;exact brS.elim
   | some A =>
    rw [hA] at brS
    refine ⟨A,Z,?_⟩
    have cellsX:(∃ T xs0,X=.cells T xs0)∨BW A B:=by
     cases X with
     | cells T xs0=>exact .inl ⟨T,xs0,rfl⟩
     | obj o =>
      right
      rcases brL with e | ⟨T,x1,y1,e,_⟩
      ·rcases brS with e3 | ⟨T,x1,y1,e3,_⟩
       ·have ow2:BW Y _:=ow
        rw [← e3,← e];exact ow2
       ·subst e3;cases ow
      ·cases e
     | loop st1 pp tm nt ps asg body DD =>
      right
      rcases brL with e | ⟨T,x1,y1,e,_⟩
      ·rcases brS with e3 | ⟨T,x1,y1,e3,_⟩
       ·have ow2:BW Y _:=ow
        rw [← e3,← e];exact ow2
       ·subst e3;cases ow
      ·cases e
     | mp es clock =>
      right
      rcases brL with e | ⟨T,x1,y1,e,_⟩
      ·rcases brS with e3 | ⟨T,x1,y1,e3,_⟩
       ·have ow2:BW Y _:=ow
        rw [← e3,← e];exact ow2
       ·subst e3;cases ow
      ·cases e
    rcases cellsX with ⟨T,xs0,rfl⟩ | e
    ·obtain ⟨xs,rfl,l1,g1⟩:∃ xs,B=.cells T xs∧xs.length=xs0.length∧∀ k,Q29 (Yu h.sl) i k=false→xs[k]?=xs0[k]?:=by
      rcases brL with e | ⟨T',x1,y1,e,e',l,g⟩
      ·exact ⟨xs0,e.symm,rfl,fun _ _=>rfl⟩
      ·cases e;exact ⟨y1,e',l.symm,g⟩
     obtain ⟨ys0,rfl,hl0⟩:∃ ys0,Y=.cells T ys0∧LW ys0 xs0:=by
      have ow':BW Y (.cells T xs0):=ow
      cases ow' with
      | refl=>exact ⟨xs0,rfl,LW.refl _⟩
      | cells hl=>exact ⟨_,rfl,hl⟩
     obtain ⟨ys,rfl,l2,g2⟩:∃ ys,A=.cells T ys∧ys.length=ys0.length∧∀ k,Q29 (Yu h.sl) i k=false→ys[k]?=ys0[k]?:=by
      rcases brS with e | ⟨T',x1,y1,e,e',l,g⟩
      ·exact ⟨ys0,e.symm,rfl,fun _ _=>rfl⟩
      ·cases e;exact ⟨y1,e',l.symm,g⟩
     intro V w o hr
     refine BW.rel (.cells ⟨by rw [l2,hl0.1,l1],fun k x y hx hy=>?_⟩) hr
     cases hm:Q29 (Yu h.sl) i k with
     | false =>
      rw [g2 k hm] at hx
      rw [g1 k hm] at hy
      exact hl0.2 k x y hx hy
     | true =>
      obtain ⟨c,hc,c1,c2,c3⟩:=memC_of hm
      have hc':=hc
      rw [← G1 hD st.m.tk (t:=t)] at hc'
      obtain ⟨q,hq,rfl⟩:=List.mem_map.1 hc'
      dsimp only at c1 c2 c3
      have hyl:k < xs.length:=(List.getElem?_eq_some_iff.1 hy).1
      have hset:=sets_get hD (tk:=Qdf h st t) (es:=st.m.es) (GL st.m.tk (vals h.sl t)) (by rw [G1 hD];exact wf.disj) q hq T xs (by rw [c1];exact hB) k c2 c3 hyl
      rw [hset] at hy
      obtain ⟨p,hp,hm⟩:=List.mem_flatMap.1 hq
      obtain ⟨q1,q2⟩:=Gx hm
      obtain ⟨z,hz,hdec,-⟩:=Q21 (hv p hp) _ q2
      obtain ⟨T1,zs,r1,r2,r3⟩:=Yr hD (tk:=s.m.tk) (rdLoc_cell hz)
      have hlw:=dec_LW (tk':=Qdf h st t) (ver:=Wb st.m.tk p.2.1) hD hdec (fun w hw=>(DZ (t:=t) wf p hp w hw).2)
      rw [← q1,← r3] at hlw
      rw [c1,hA] at r1
      cases r1
      have hsz:QW q.2.2=p.2.1.sz:=by rw [q1];exact encK_size hD _ _ _
      refine hlw.2 (k - q.2.1) x y ?_ hy
      rw [List.getElem?_take,if_pos (by omega),List.getElem?_drop,show q.2.1+(k - q.2.1)=k by omega]
      exact hx
    ·intro V w o hr
     exact BW.rel e hr
theorem lab_tm (hD:D.OK) (a:AtLab D h st s t):∀ r y,Qcq (QP (TTV.er D (Qdf h st t)) (lab h st t).tm) r=some y→y=.unk∨∃ x,Qcq (QP (TTV.er D s.m.tk) s.tm) r=some x∧∀ V w v,x.rel V w v→y.rel V w v:=by
 have wf:=Dz a.wf
 obtain ⟨⟨p1,e1,k1⟩,-,-,hrd,-⟩:=a.parts
 have hv:=Dl hrd
 intro r y hy
 rw [QR] at hy
 unfold lab at hy
 dsimp only at hy
 rw [Wf,Wf] at hy
 cases h1:Qcq (Q6q st.m.tk (vals h.sl t)) r with
 | some y0 =>
  rw [h1] at hy
  cases hy
  right
  obtain ⟨p,hp,hm⟩:=List.mem_flatMap.1 (Y3 h1)
  obtain ⟨m1,m2,-⟩:=Gz hm
  dsimp only at m1 m2
  obtain ⟨x,hx,hdec,hns⟩:=Q21 (hv p hp) _ m2
  refine ⟨TV.v (x.er D s.m.tk),by rw [QR,rdLoc_reg hx];rfl,fun V w v hr=>?_⟩
  rw [m1]
  exact dec_rel hD hdec (fun w hw=>(DZ (t:=t) wf p hp w hw).2) hns hr
 | none =>
  rw [h1] at hy
  cases h2:Qcq (h.dead.map fun r=>(r,(TTV.unk:TTV U))) r with
  | some y0 =>
   rw [h2] at hy
   cases hy
   obtain ⟨q,_,hq⟩:=List.mem_map.1 (Y3 h2)
   cases hq
   exact .inl Z
  | none =>
   rw [h2] at hy
   have hr1:r∉Un h.sl:=fun hm=>by
    rw [← labTm_keys st.m.tk (t:=t)] at hm
    obtain ⟨q,hq,e⟩:=List.mem_map.1 hm
    exact Xt h1 q hq e
   have hr2:r∉h.dead:=fun hm=>Xt h2 (r,.unk) (List.mem_map.2 ⟨r,hm,rfl⟩) rfl
   have hs:Qcq s.tm r=Qcq st.tm r:=by
    rw [e1,Wf,Q2m (fun p hp e=>by
     rcases k1 p hp with q | q
     ·exact hr1 (by rw [← e];exact q)
     ·exact hr2 (by rw [← e];exact q))]
   cases h3:Qcq st.tm r with
   | none=>rw [h3] at hy;cases hy
   | some y0 =>
    rw [h3] at hy
    cases hy
    right
    refine ⟨y0.er D s.m.tk,by rw [QR,hs,h3];rfl,fun V w v hr=>?_⟩
    have hmem:=Y3 h3
    exact ZM (lab_tokB a (fun j u hp=>WM hp (wf.tm _ hmem)) (fun i hi hp=>by
     have q1:=(Bool.and_eq_true_iff.1 (wf.app i hi)).2
     have q2:=(Bool.and_eq_true_iff.1 q1).1
     have q3:st.tm.any (fun p=>p.2.hasApp i (J0 st.m.tk i))=true:=List.any_eq_true.2 ⟨_,hmem,hp⟩
     rw [q3] at q2
     cases q2)) hr
theorem lab_tk (a:AtLab D h st s t):∀ i T,Qcq (X5 (Qdf h st t)) i=some (some T)→Qcq (X5 s.m.tk) i=some (some T):=by
 have wf:=Dz a.wf
 obtain ⟨-,-,-,hrd,-⟩:=a.parts
 have hv:=Dl hrd
 intro i T hT
 have hT':Qcq (QP TTok.erO (Qdf h st t)) i=some (some T):=hT
 show Qcq (QP TTok.erO s.m.tk) i=some (some T)
 rw [QR] at hT' ⊢
 by_cases hi:i∈Yi h.sl
 ·obtain ⟨p,hp,e,tt,l,hpe,hl⟩:=lab_in (t:=t) wf hi
  rw [hl] at hT'
  have hr:=hv p hp
  obtain ⟨ls,kv⟩:=p
  dsimp only at hpe hr
  subst hpe
  obtain ⟨l0,r0,hls⟩:=rd1_ne hr
  obtain ⟨x,hx,hdec,-⟩:=Q21 hr l0 (by rw [hls];exact List.mem_cons_self ..)
  have hdec':XE s.m.tk i e tt x=some l:=hdec
  unfold XE at hdec'
  split at hdec'
  ·rename_i j u
   split at hdec'
   ·rename_i T1 hc
    cases hb:(Nat.beq j i&&Nat.beq T1.E e) with
    | false=>rw [hb] at hdec';cases hdec'
    | true =>
     rw [hb,cond_true] at hdec'
     obtain ⟨b1,b2⟩:=Bool.and_eq_true_iff.1 hb
     have ej:=Nat.eq_of_beq_eq_true b1
     have eE:=Nat.eq_of_beq_eq_true b2
     obtain ⟨et,el⟩:=YS hdec'
     subst et;subst ej
     have hlk:Qcq s.m.tk j=some T1:=by
      unfold cur at hc
      split at hc
      ·rename_i T0 h0
       cases hq:Nat.beq T0.ver u with
       | false=>rw [hq] at hc;cases hc
       | true=>rw [hq] at hc;cases hc;exact h0
      ·cases hc
     rw [hlk]
     have h':=Option.some.inj hT'
     show some T1.erO=some (some T)
     rw [← h']
     unfold TTok.erO TTok.er
     rw [eE,el]
   ·cases hdec'
  ·cases hdec'
 ·rw [Q2s hi] at hT'
  have hn:i < st.m.nx:=by
   cases hq:Qcq st.m.tk i with
   | none=>rw [hq] at hT';cases hT'
   | some T0=>exact wf.tk _ (Y3 hq)
  rw [lab_sOut a hi hn];exact hT'
theorem Xv (hD:D.OK) (a:AtLab D h st s t) {E:Env} (h0:E.V0.nx≤st.m.nx):To E (s.er D) ((lab h st t).er D):=by
 have wf:=Dz a.wf
 have hsf:=a.sfx
 intro V ac w hr
 have hdf:st.df=s.df:=a.parts.2.2.2.2
 have hW:StW (s.er D) ⟨QP (TTV.er D (Qdf h st t)) (lab h st t).tm,Qr D (Qdf h st t) ((GL st.m.tk (vals h.sl t)).map We++st.m.es),X5 (Qdf h st t),s.m.nx,st.nt,st.df⟩ :=
  ⟨lab_tm hD a,lab_hp hD a,lab_tk a,rfl,hsf.nt.symm,hdf⟩
 have hb:=lab_below (t:=t) wf
 refine Rel.trimTo (m:=st.m.nx) (hr.weak hW) ⟨fun r x hx=>?_,fun i B hB=>Kx hb.2 i B hB,fun i T hT=>?_,fun i hi=>?_⟩ h0
 ·have hx':Qcq (QP (TTV.er D (Qdf h st t)) (lab h st t).tm) r=some x:=hx
  rw [QR] at hx'
  cases hy:Qcq (lab h st t).tm r with
  | none=>rw [hy] at hx';cases hx'
  | some y=>rw [hy] at hx';cases hx';exact GY _ (hb.1 _ (Y3 hy))
 ·have hT':Qcq (QP TTok.erO (Qdf h st t)) i=some (some T):=hT
  rw [QR] at hT'
  by_cases hi:i∈Yi h.sl
  ·exact Nat.le_of_ble_eq_true (Bool.and_eq_true_iff.1 (wf.app i hi)).1
  ·rw [Q2s hi] at hT'
   cases hq:Qcq st.m.tk i with
   | none=>rw [hq] at hT';cases hT'
   | some T0=>exact wf.tk _ (Y3 hq)
 ·exact wf.df i hi
theorem Yk (st:TSt U) (t:tup (h.sl.map (·.2))):Sfx st (lab h st t):=⟨⟨_,rfl⟩,⟨_,rfl⟩,⟨_,rfl⟩,Nat.le_refl _,rfl,.inr rfl⟩
end
end
section
open Go.RowKit
theorem XN {E:Env} {o:Oper} {a b:St} {x:TV} {m:Mem} (h:StW a b) (k:OpOK E o b x m):OpOK E o a x m:=fun V ac w hr=>k V ac w (hr.weak h)
theorem UR {E:Env} {o:Oper} {a:St} {x:TV} {m m':Mem} (hh:∀ i B,Qcq m'.hp i=some B→∃ A,Qcq m.hp i=some A∧∀ V w o,A.rel V w o→B.rel V w o) (ht:∀ i T,Qcq m'.tk i=some (some T)→Qcq m.tk i=some (some T)) (hn:m'.nx=m.nx) (k:OpOK E o a x m):OpOK E o a x m' :=
 fun V ac w hr ro n K Q hK=>k V ac w hr ro n K Q fun V' w' v H e L hv=>hK V' w' v (H.weak hh ht) (e.trans hn.symm) L hv
def Q0o (ops:Array Oper) (i:Nat):List Nat:=(List.range ops.size).filterMap fun j=>match Jn ops j with
 | some d=>cond ((QH ops i).contains j||(QH ops j).contains i) none (some d)
 | none=>none
section
variable {U:Univ} (D:Codec U) (C:TCfg U) (K:FuncId→List (TAV U)→Option (KR U)) (X:Qd7 U) (Y:Qd6 U)
def Ky (ops:Array Oper) (i:Nat) (st:TSt U):TSt U:=⟨st.tm.filter fun p=>!((Q0o ops i).contains p.1),st.m,st.nt,st.df⟩
def isCallV (o:Oper):Bool:=match o.op with
 | .call c=>match c.callee with
  | .value _=>true
  | _=>false
 | _=>false
def XD {β:Type} (ops:Array Oper) (effs:List Nat) (i:Nat) (o:Oper) (st:TSt U) (p:Value→TMe U→Option β) (k:TSt U→(Bool→TMe U→Bool)→Option β):Option β :=
 match Q94 D C (Ky ops i st) o with
 | some r=>cond (Y0 st o.dst&&!(effs.contains i)) (r.run fun x=>k ⟨Wa o.dst x st.tm,st.m,st.nt,st.df⟩ (Q6o D (Ky ops i st).tm st.m o x)) none
 | none=>match Qat D C K (Ky ops i st) o with
  | some e=>e.run fun q=>cond (DQ st (q.es++st.m.es) q.tk&&Y0 st o.dst&&Nat.ble st.m.nx q.nx) (cond (effs.contains i) (k (Q1c st o.dst q) fun _ _=>false) (match q.es,q.tk with
   | [],none=>cond (Nat.beq q.nx st.m.nx) (k ⟨Wa o.dst q.x st.tm,st.m,st.nt,st.df⟩ fun up m'=>isCallV o&&Q6o D (Ky ops i st).tm st.m o q.x up m') none
   | _,_=>none)) none
  | none=>match Q6y X Y (Ky ops i st) o with
   | some xo=>cond (Y0 st o.dst&&effs.contains i) (xo.run (fun x m=>cond (Z5 (XG m.tk st.m.tk) st.tm) (k ⟨Wa o.dst x st.tm,m,st.nt,st.df⟩ fun _ _=>false) none) fun v m=>cond (Z5 (XG m.tk st.m.tk) st.tm) (p v m) none) none
   | none=>none
def Q1h (ops:Array Oper) (effs:List Nat) (acc:List (Nat×(Bool→TMe U→Bool))) (ms:List (TMe U)):Bool :=
 (List.range ops.size).all fun i=>(List.range (effs.length+1)).all fun j=>!(UZ ops effs i j)||(Nat.beq j (Ku effs i)||(match Qcq acc i,ms[j]? with
  | some c,some m=>c (Nat.blt (Ku effs i) j) m
  | _,_=>false))
def Q60 (ops:Array Oper) (effs:List Nat):List (Nat×Nat):=(List.range ops.size).flatMap fun i=>((List.range (effs.length+1)).filter fun j=>UZ ops effs i j&&!(Nat.beq j (Ku effs i))).map fun j=>(i,j)
def Q4g (m:TMe U):TMe U:=⟨.raw m.nx (.obj (.deferred none))::m.es,m.tk,m.nx⟩
def D5 (m:TMe U):Bool:=match m.es with
 | .raw n (.obj (.deferred none))::_=>Nat.ble m.nx n
 | _=>false
def Q4k (effs:List Nat):Nat→List Oper→TMe U→List (TMe U)→List (TMe U)
 | _,[],_,ms=>ms
 | i,_::os,m,ms=>Q4k effs (i+1) os m (cond (effs.contains i) (m::ms) ms)
def Q6v (effs:List Nat):Nat→List Oper→List (Nat×(Bool→TMe U→Bool))→List (Nat×(Bool→TMe U→Bool))
 | _,[],acc=>acc
 | i,_::os,acc=>Q6v effs (i+1) os ((i,fun _ m=>!(effs.contains i)&&D5 m)::acc)
def Q1k {β:Type} (ops:Array Oper) (effs:List Nat) (i:Nat) (os:List Oper) (st:TSt U) (ms:List (TMe U)) (acc:List (Nat×(Bool→TMe U→Bool))) (p:Value→TSt U→Option β) (v:Value) (m:TMe U):Option β :=
 cond (os.all (fun o=>o.guard.isNone&&Y0 st o.dst)&&Q1h ops effs (Q6v effs (i+1) os ((i,fun _ _=>false)::acc)) (Q4g st.m::Q4k effs (i+1) os (Q4g st.m) (st.m::ms)).reverse)
  (p v ⟨((Jt ops).map fun d=>(d,TTV.unk))++st.tm,m,st.nt,st.df⟩) none
def K3 {β:Type} (ops:Array Oper) (effs:List Nat) (p:Value→TSt U→Option β):Nat→List Oper→TSt U→List (TMe U)→List (Nat×(Bool→TMe U→Bool))→(TSt U→Option β)→Option β
 | _,[],st,ms,acc,k=>cond (Q1h ops effs acc (st.m::ms).reverse) (k st) none
 | i,o::os,st,ms,acc,k=>match o.guard with
  | none=>XD D C K X Y ops effs i o st (Q1k ops effs i os st ms acc p) fun s c=>K3 ops effs p (i+1) os s (cond (effs.contains i) (st.m::ms) ms) ((i,c)::acc) k
  | some (j,b)=>match (ops[j]?).bind (·.dst) with
   | none=>none
   | some d=>cond ((Q0o ops i).contains d) none (match Qcq st.tm d with
    | some (.v (.one (.c (.v (.bool c)))))=>cond c
     (cond b (XD D C K X Y ops effs i o (setB st d true) (Q1k ops effs i os (setB st d true) ms acc p) fun s c=>K3 ops effs p (i+1) os s (cond (effs.contains i) (st.m::ms) ms) ((i,c)::acc) k) (cond (Y0 st o.dst) (K3 ops effs p (i+1) os (K2 o (setB st d true)) (cond (effs.contains i) (st.m::ms) ms) ((i,fun _ _=>!(effs.contains i))::acc) k) none))
     (cond b (cond (Y0 st o.dst) (K3 ops effs p (i+1) os (K2 o (setB st d false)) (cond (effs.contains i) (st.m::ms) ms) ((i,fun _ _=>!(effs.contains i))::acc) k) none) (XD D C K X Y ops effs i o (setB st d false) (Q1k ops effs i os (setB st d false) ms acc p) fun s c=>K3 ops effs p (i+1) os s (cond (effs.contains i) (st.m::ms) ms) ((i,c)::acc) k))
    | some (.tup [])=>cond (Y0 st o.dst) (K3 ops effs p (i+1) os (K2 o st) (cond (effs.contains i) (st.m::ms) ms) ((i,fun _ _=>!(effs.contains i))::acc) k) none
    | _=>none)
def Q4t (st:TSt U):TSt U:=⟨(st.tm.map fun p=>(p.1,TTV.unk))++st.tm,st.m,st.nt,st.df⟩
def Q7f {β:Type} (ops:Array Oper) (effs:List Nat) (st0:TSt U) (p:Value→TSt U→Option β):Nat→List Oper→TSt U→Option β
 | _,[],_=>none
 | i,o::os,st=>match o.guard with
  | some _=>none
  | none=>match os with
   | []=>cond (effs.contains i&&Y0 st o.dst) (match Q9a (Ky ops i st) o with
    | some v=>p v (Q4t st0)
    | none=>none) none
   | _::_=>cond (effs.contains i) none (XD D C K X Y ops effs i o st (fun _ _=>none) fun s _=>Q7f ops effs st0 p (i+1) os s)
def Uz (ops:Array Oper):Bool:=match ops.toList.getLast? with
 | some o=>match o.op with
  | .panic _=>true
  | _=>false
 | none=>false
def Q4j (ops:Array Oper) (effs:List Nat):Bool:=Q0u ops effs&&exOK ops effs (Q60 ops effs)&&Nat.beq ((List.range' 0 ops.size).filter effs.contains).length effs.length
variable {D C K X Y}
def Qdg (y z:TV):Prop:=(∀ V w v,y.rel V w v→z.rel V w v)∧(((∃ c,z=Qdb c)∨z=.tup [])→y=z)
theorem er_G {tk tk':List (Nat×TTok U)} {z:TTV U} (h:(∃ c,z.er D tk'=Qdb c)∨z.er D tk'=.tup []):z.er D tk=z.er D tk':=by
 cases z with
 | unk=>rfl
 | tup xs =>
  cases xs with
  | nil=>rfl
  | cons x xs =>
   rcases h with ⟨c,h⟩ | h
   ·cases h
   ·cases h
 | v x =>
  rcases h with ⟨c,h⟩ | h
  ·cases x with
   | agg xs=>cases h
   | one x =>
    cases x with
    | app i u =>
     have h':(match cur tk' i u with
      | some T=>CA.app i (U.E T.t).sz ((U.E T.t).encL T.l)
      | none=>CA.any)=.d (.v (.bool c)):=AV.one.inj (TV.v.inj h)
     split at h' <;> cases h'
    | c x=>rfl
    | ptr i off=>rfl
    | pel t x off=>rfl
    | fn f caps=>rfl
    | raw x=>rfl
  ·cases h
structure DI (D:Codec U) (ops:Array Oper) (st0:St) (fx:List (Nat×TV)) (i:Nat) (st:TSt U):Prop where
 dn:∀ j,j < i→∃ y,Qcq fx j=some y
 nd:∀ j,i≤j→Qcq fx j=none
 tm:∀ t x,Qcq st.tm t=some x→(∃ j y,j < i∧Jn ops j=some t∧Qcq fx j=some y∧Qdg y (x.er D st.m.tk))∨((∀ j,j < i→Jn ops j ≠ some t)∧∃ y,Qcq st0.tm t=some y∧Qdg y (x.er D st.m.tk))
 nt:st.nt=st0.nt
 df:st.df=st0.df
theorem nodup_dst {ops:Array Oper} (h:(Jt ops).Nodup) {j k d:Nat} (hj:Jn ops j=some d) (hk:Jn ops k=some d):j=k:=by
 have lt:∀ {j},Jn ops j=some d→j < ops.size:=fun {j} hj=>by
  rcases Nat.lt_or_ge j ops.size with h3 | h3
  ·exact h3
  ·simp [Jn,Array.getElem?_eq_none h3] at hj
 have hp:∀ (l:List Nat),l.Nodup→(l.filterMap (Jn ops)).Nodup→j∈l→k∈l→j=k:=by
  intro l
  induction l with
  | nil=>intro _ _ h;cases h
  | cons p l ih =>
   intro hl hf hi hk'
   rw [List.nodup_cons] at hl
   rw [List.filterMap_cons] at hf
   rcases List.mem_cons.1 hi with rfl | hi2
   ·rcases List.mem_cons.1 hk' with rfl | hk2
    ·rfl
    ·rw [hj] at hf
     simp only [List.nodup_cons] at hf
     exact absurd (List.mem_filterMap (l:=l).2 ⟨k,hk2,hk⟩) hf.1
   ·rcases List.mem_cons.1 hk' with rfl | hk2
    ·rw [hk] at hf
     simp only [List.nodup_cons] at hf
     exact absurd (List.mem_filterMap (l:=l).2 ⟨j,hi2,hj⟩) hf.1
    ·refine ih hl.2 ?_ hi2 hk2
     split at hf
     ·exact hf
     ·exact (List.nodup_cons.1 hf).2
 exact hp (List.range ops.size) List.nodup_range h (by simpa using lt hj) (by simpa using lt hk)
theorem facts_some {ops:Array Oper} {fx:List (Nat×TV)}:∀ (js:List Nat) {j t:Nat} {y:TV},j∈js→Jn ops j=some t→Qcq fx j=some y→∃ z,Qcq (JJ ops fx js) t=some z
 | [],j,t,y,h,_,_=>by cases h
 | a::js,j,t,y,h,hd,hf=>by
  simp only [JJ,List.filterMap_cons]
  rcases List.mem_cons.1 h with rfl | h2
  ·rw [hd,hf]
   dsimp only
   rw [Q8,if_pos rfl]
   exact ⟨_,Z⟩
  ·obtain ⟨z,hz⟩:=facts_some js h2 hd hf
   split
   ·exact ⟨z,hz⟩
   ·rename_i p hp
    obtain ⟨d,q⟩:=p
    rw [Q8]
    split
    ·exact ⟨_,rfl⟩
    ·exact ⟨z,hz⟩
theorem facts_at {ops:Array Oper} {fx:List (Nat×TV)} (h:(Jt ops).Nodup) {js:List Nat} {j t:Nat} {y:TV} (hj:j∈js) (hd:Jn ops j=some t) (hf:Qcq fx j=some y):Qcq (JJ ops fx js) t=some y:=by
 obtain ⟨z,hz⟩:=facts_some js hj hd hf
 obtain ⟨k,h1,h2,h3⟩:=Ge js t z hz
 have:=nodup_dst h hd h2
 subst this
 rw [hf] at h3;cases h3;exact hz
theorem facts_none {ops:Array Oper} {fx:List (Nat×TV)} {js:List Nat} {t:Nat} (h:∀ j y,Jn ops j=some t→Qcq fx j=some y→False):Qcq (JJ ops fx js) t=none:=by
 cases hc:Qcq (JJ ops fx js) t with
 | none=>rfl
 | some z=>obtain ⟨k,h1,h2,h3⟩:=Ge js t z hc;exact (h k z h2 h3).elim
theorem Q2q {α:Type} {p:Nat→Bool}:∀ {l:List (Nat×α)} {t:Nat} {x:α},Qcq (l.filter fun q=>p q.1) t=some x→p t=true∧Qcq l t=some x
  | [],t,x,h=>by cases h
  | (k,v)::r,t,x,h=>by
    rw [List.filter_cons] at h
    cases hp:p k with
    | true =>
      rw [if_pos hp,Q8] at h
      rw [Q8]
      split at h
      · rename_i e;subst e;rw [if_pos rfl];exact ⟨hp,h⟩
      · rename_i e;rw [if_neg e];exact Q2q h
    | false =>
      rw [if_neg (by rw [hp];exact Bool.false_ne_true)] at h
      obtain ⟨h1,h2⟩:=Q2q h
      refine ⟨h1,?_⟩
      rw [Q8,if_neg]
      · exact h2
      · intro e;subst e;rw [hp] at h1;cases h1
theorem Q33 {α:Type} {p:Nat→Bool}:∀ {l:List (Nat×α)} {t:Nat} {x:α},p t=true→Qcq l t=some x→Qcq (l.filter fun q=>p q.1) t=some x
  | [],t,x,_,h=>by cases h
  | (k,v)::r,t,x,hp,h=>by
    rw [List.filter_cons]
    rw [Q8] at h
    split at h
    · rename_i e;subst e;rw [if_pos hp,Q8,if_pos rfl];exact h
    · rename_i e
      have ih:=Q33 hp h
      split
      · rw [Q8,if_neg e];exact ih
      · exact ih
theorem blk_no {ops:Array Oper} {i t j:Nat} (h:(Q0o ops i).contains t=false) (hd:Jn ops j=some t) (hj:j < ops.size):j∈QH ops i∨i∈QH ops j:=by
 rw [List.contains_eq_mem,decide_eq_false_iff_not] at h
 cases hc:((QH ops i).contains j||(QH ops j).contains i) with
 | true =>
  rcases Bool.or_eq_true_iff.1 hc with h1 | h1
  ·exact .inl (by simpa using h1)
  ·exact .inr (by simpa using h1)
 | false =>
  refine (h (List.mem_filterMap.2 ⟨j,by simpa using hj,?_⟩)).elim
  rw [hd]
  dsimp only
  rw [hc];rfl
section
variable {ops:Array Oper} {st0:St} {fx:List (Nat×TV)} {i:Nat} {st:TSt U}
theorem keep_lk {t:Nat} {x:TV}:∀ {tm:List (Nat×TV)},Q1g ops i t=false→Qcq tm t=some x→Qcq (Q00 ops i tm) t=some x:=fun {tm} hh h=>Q33 (p:=fun t=>!(Q1g ops i t)) (by rw [hh];rfl) h
theorem DI.look (h:DI D ops st0 fx i st) (hdag:∀ i,i < ops.size→∀ k∈QH ops i,k < i) (hnd:(Jt ops).Nodup) (hi:i < ops.size) {t:Nat} {x:TTV U} (hb':(Q0o ops i).contains t=false) (hx:Qcq st.tm t=some x):∃ y,Qcq (QF ops st0 fx i (st.er D).mem).tm t=some y∧Qdg y (x.er D st.m.tk):=by
 have ltS:∀ {j},Jn ops j=some t→j < ops.size:=fun {j} hj=>by
  rcases Nat.lt_or_ge j ops.size with h3 | h3
  ·exact h3
  ·simp [Jn,Array.getElem?_eq_none h3] at hj
 show ∃ z,Qcq (JJ ops fx (QH ops i)++Q00 ops i st0.tm) t=some z∧_
 rcases h.tm t x hx with ⟨j,z,h1,h2,h3,h4⟩ | ⟨h1,z,h2,h3⟩
 ·refine ⟨z,?_,h4⟩
  have hj:j∈QH ops i:=by
   rcases blk_no hb' h2 (ltS h2) with h5 | h5
   ·exact h5
   ·have:=hdag j (ltS h2) i h5
    omega
  rw [JH,facts_at hnd hj h2 h3]
 ·refine ⟨z,?_,h3⟩
  have hn:Qcq (JJ ops fx (QH ops i)) t=none:=facts_none fun j y hd hf=>by
   rcases Nat.lt_or_ge j i with h5 | h5
   ·exact h1 j h5 hd
   ·rw [h.nd j h5] at hf;cases hf
  rw [JH,hn]
  refine keep_lk ?_ h2
  unfold Q1g
  rw [List.any_eq_false]
  intro j hj
  cases hd:Jn ops j with
  | none=>simp
  | some d =>
   dsimp only
   cases hbq:Nat.beq d t with
   | false=>simp
   | true =>
    have e:=Nat.eq_of_beq_eq_true hbq
    subst e
    rw [cond_true]
    have hj':j < ops.size:=by simpa using hj
    rcases blk_no hb' hd hj' with h5 | h5
    ·exact (h1 j (hdag i hi j h5) hd).elim
    ·simpa using h5
theorem DI.deps (h:DI D ops st0 fx i st) (hdag:∀ i,i < ops.size→∀ k∈QH ops i,k < i) (hnd:(Jt ops).Nodup) (hi:i < ops.size):StW (QF ops st0 fx i (st.er D).mem) ((Ky ops i st).er D):=by
 refine ⟨fun t y hy=>?_,fun j B hB=>⟨B,hB,fun _ _ _ h=>h⟩,fun j T hT=>hT,Z,h.nt,h.df⟩
 have hy':Qcq (QP (TTV.er D st.m.tk) (st.tm.filter fun p=>!((Q0o ops i).contains p.1))) t=some y:=hy
 rw [QR] at hy'
 cases hz:Qcq (st.tm.filter fun p=>!((Q0o ops i).contains p.1)) t with
 | none=>rw [hz] at hy';cases hy'
 | some x =>
  rw [hz] at hy';cases hy'
  obtain ⟨hb,hx⟩:=Q2q (p:=fun t=>!((Q0o ops i).contains t)) hz
  obtain ⟨z,h1,h2⟩:=h.look hdag hnd hi (by simpa using hb) hx
  exact .inr ⟨z,h1,h2.1⟩
theorem DI.end (h:DI D ops st0 fx ops.size st) (hnd:(Jt ops).Nodup):StW (D7 ops st0 fx (st.er D).mem) (st.er D):=by
 refine ⟨fun t y hy=>?_,fun j B hB=>⟨B,hB,fun _ _ _ h=>h⟩,fun j T hT=>hT,Z,h.nt,h.df⟩
 have hy':Qcq (QP (TTV.er D st.m.tk) st.tm) t=some y:=hy
 rw [QR] at hy'
 cases hz:Qcq st.tm t with
 | none=>rw [hz] at hy';cases hy'
 | some x =>
  rw [hz] at hy';cases hy'
  refine .inr ?_
  show ∃ z,Qcq (JJ ops fx (List.range ops.size)++XB (Jt ops) st0.tm) t=some z∧_
  rcases h.tm t x hz with ⟨j,z,h1,h2,h3,h4⟩ | ⟨h1,z,h2,h3⟩
  ·refine ⟨z,?_,h4.1⟩
   rw [JH,facts_at hnd (by simpa using h1) h2 h3]
  ·refine ⟨z,?_,h3.1⟩
   have hn:Qcq (JJ ops fx (List.range ops.size)) t=none:=facts_none fun j y hd hf=>by
    rcases Nat.lt_or_ge j ops.size with h5 | h5
    ·exact h1 j h5 hd
    ·rw [h.nd j h5] at hf;cases hf
   rw [JH,hn]
   refine Q33 (p:=fun t=>!((Jt ops).contains t)) ?_ h2
   show (!((Jt ops).contains t))=true
   cases hc:(Jt ops).contains t with
   | false=>rfl
   | true =>
    have:t∈Jt ops:=by simpa using hc
    obtain ⟨j,hj,hd⟩:=List.mem_filterMap.1 this
    exact (h1 j (by simpa using hj) hd).elim
theorem DI.step (h:DI D ops st0 fx i st) {o:Oper} (ho:ops[i]?=some o) {x:TTV U} {m':TMe U} {y:TV} (hy:y=x.er D m'.tk) (hst:∀ t z,Qcq st.tm t=some z→∀ V w v,(z.er D st.m.tk).rel V w v→(z.er D m'.tk).rel V w v):DI D ops st0 ((i,y)::fx) (i+1) ⟨Wa o.dst x st.tm,m',st.nt,st.df⟩:=by
 have hfx:∀ {j z},j < i→Qcq fx j=some z→Qcq ((i,y)::fx) j=some z:=fun {j z} hj hz=>by
  rw [Q8,if_neg (by omega)];exact hz
 refine ⟨fun j hj=>?_,fun j hj=>?_,fun t z hz=>?_,h.nt,h.df⟩
 ·by_cases e:i=j
  ·subst e;exact ⟨y,by rw [Q8,if_pos rfl]⟩
  ·obtain ⟨z,hz⟩:=h.dn j (by omega)
   exact ⟨z,hfx (by omega) hz⟩
 ·rw [Q8,if_neg (by omega)];exact h.nd j (by omega)
 ·have hdo:Jn ops i=o.dst:=by simp [Jn,ho]
  have hz':Qcq (Wa o.dst x st.tm) t=some z:=hz
  have old:Jn ops i ≠ some t→Qcq st.tm t=some z→(∃ j y',j < i+1∧Jn ops j=some t∧Qcq ((i,y)::fx) j=some y'∧Qdg y' (z.er D m'.tk))∨((∀ j,j < i+1→Jn ops j ≠ some t)∧∃ y',Qcq st0.tm t=some y'∧Qdg y' (z.er D m'.tk)):=fun hne hz=>by
   have comp:∀ {y'},Qdg y' (z.er D st.m.tk)→Qdg y' (z.er D m'.tk):=fun {y'} h4=>⟨fun V w v hv=>hst t z hz V w v (h4.1 V w v hv),fun hg=>by
    have e:=er_G (tk:=st.m.tk) hg
    rw [← e] at hg ⊢
    exact h4.2 hg⟩
   rcases h.tm t z hz with ⟨j,y',h1,h2,h3,h4⟩ | ⟨h1,y',h2,h3⟩
   ·exact .inl ⟨j,y',by omega,h2,hfx h1 h3,comp h4⟩
   ·refine .inr ⟨fun j hj e=>?_,y',h2,comp h3⟩
    by_cases e2:j=i
    ·subst e2;exact hne e
    ·exact h1 j (by omega) e
  cases hd:o.dst with
  | none =>
   rw [hd] at hz'
   exact old (by rw [hdo,hd];intro e;cases e) hz'
  | some d =>
   rw [hd] at hz'
   have hz2:Qcq ((d,x)::st.tm) t=some z:=hz'
   rw [Q8] at hz2
   split at hz2
   ·rename_i e
    cases hz2
    subst e
    exact .inl ⟨i,y,by omega,by rw [hdo,hd],by rw [Q8,if_pos rfl],by rw [hy];exact ⟨fun _ _ _ h=>h,fun _=>rfl⟩⟩
   ·rename_i e
    exact old (by rw [hdo,hd];intro e';cases e';exact e rfl) hz2
theorem DI.setB (h:DI D ops st0 fx i st) {d:Nat} {c b:Bool} (hc:Qcq st.tm d=some (.v (.one (.c (.v (.bool c)))))) (e:c=b):DI D ops st0 fx i (setB st d b):=by
 subst e
 refine ⟨h.dn,h.nd,fun t x hx=>?_,h.nt,h.df⟩
 have hx':Qcq ((d,Qcf c)::st.tm) t=some x:=hx
 rw [Q8] at hx'
 split at hx'
 ·rename_i e;subst e;cases hx'
  exact h.tm _ _ hc
 ·exact h.tm t x hx'
end
section
def RdR.has:RdR U→TTV U→Prop
 | .val x,y=>y=x
 | .grd g x,y=>g=true∧y=x
 | .ix oo f,y=>∃ a,oo=some a∧y=f a
def EfR.has:EfR U→OR U→Prop
 | .val x,y=>y=x
 | .grd g x,y=>g=true∧y=x
 | .ix oo f,y=>∃ a,oo=some a∧y=f a
theorem RdR.run_has {r:RdR U} {β:Type} {k:TTV U→Option β} {v:β} (hk:r.run k=some v):∃ x,k x=some v∧r.has x:=by
 cases r with
 | val x=>exact ⟨x,hk,rfl⟩
 | grd g x=>obtain ⟨h1,h2⟩:=G2 hk;exact ⟨x,h2,h1,rfl⟩
 | ix oo f=>obtain ⟨a,h1,h2⟩:=Ze hk;exact ⟨f a,h2,a,h1,rfl⟩
theorem EfR.run_has {r:EfR U} {β:Type} {k:OR U→Option β} {v:β} (hk:r.run k=some v):∃ x,k x=some v∧r.has x:=by
 cases r with
 | val x=>exact ⟨x,hk,rfl⟩
 | grd g x=>obtain ⟨h1,h2⟩:=G2 hk;exact ⟨x,h2,h1,rfl⟩
 | ix oo f=>obtain ⟨a,h1,h2⟩:=Ze hk;exact ⟨f a,h2,a,h1,rfl⟩
theorem RdOK.has {E:Env} {o:Oper} {st:TSt U} {r:RdR U} (h:RdOK D E o st r) {x:TTV U} (hx:r.has x):RO E o (st.er D) (x.er D st.m.tk):=by
 cases r with
 | val y=>cases hx;exact h
 | grd g y=>obtain ⟨h1,rfl⟩:=hx;exact h h1
 | ix oo f=>obtain ⟨a,h1,rfl⟩:=hx;exact h a h1
theorem EfOK.has {E:Env} {o:Oper} {st:TSt U} {r:EfR U} (h:EfOK D E o st r) {x:OR U} (hx:r.has x):OROK D E o st x:=by
 cases r with
 | val y=>cases hx;exact h
 | grd g y=>obtain ⟨h1,rfl⟩:=hx;exact h h1
 | ix oo f=>obtain ⟨a,h1,rfl⟩:=hx;exact h a h1
def AnyB (E:Env) (ops:Array Oper) (st0:St) (effs:List Nat) (fx:List (Nat×TV)) (i:Nat) (M:Mem):Prop :=
 ∃ o x,ops[i]?=some o∧Qcq fx i=some x∧Zc st0 o.dst=true∧effs.contains i=false∧((QJ ops (QF ops st0 fx i M).tm o=some true∧OpOK E o (QF ops st0 fx i M) x M)∨(QJ ops (QF ops st0 fx i M).tm o=some false∧x=.tup []))
theorem ZT {ops:Array Oper} {fx fx':List (Nat×TV)} {js:List Nat} (h:∀ j∈js,Qcq fx' j=Qcq fx j):JJ ops fx' js=JJ ops fx js:=by
 induction js with
 | nil=>rfl
 | cons a js ih =>
  have h1:=h a (List.mem_cons_self ..)
  have h2:=ih fun j hj=>h j (List.mem_cons_of_mem _ hj)
  simp only [JJ,List.filterMap_cons] at h2 ⊢
  rw [h1,h2]
theorem AnyB.ext {E:Env} {ops:Array Oper} {st0:St} {effs:List Nat} {fx fx':List (Nat×TV)} {i:Nat} {M:Mem} (hdag:∀ k∈QH ops i,k < i) (h:AnyB E ops st0 effs fx i M) (hf:∀ j,j≤i→Qcq fx' j=Qcq fx j):AnyB E ops st0 effs fx' i M:=by
 obtain ⟨o,x,h1,h2,h3,h4,h5⟩:=h
 have e:QF ops st0 fx' i M=QF ops st0 fx i M:=by
  unfold QF
  rw [ZT fun j hj=>hf j (Nat.le_of_lt (hdag j hj))]
 exact ⟨o,x,h1,(hf i (Nat.le_refl _)).trans h2,h3,h4,by rw [e];exact h5⟩
def Q70 (D:Codec U) (W:Wd) (P:Program) (ops:Array Oper) (effs:List Nat) (st0:St) (i:Nat) (m:TMe U) (c:Bool→TMe U→Bool) (fx:List (Nat×TV)):Prop :=
 ∀ E,E.P=P→W.p E.V0.S E.w0→∀ up m',(up=true→SfM m m')→(up=false→SfM m' m)→c up m'=true→AnyB E ops st0 effs fx i (m'.er D)
theorem mkChk_ok {tm:List (Nat×TTV U)} {m m':TMe U} {o:Oper} {x:TTV U} {up:Bool} (h1:up=true→SfM m m') (h2:up=false→SfM m' m) (h:Q6o D tm m o x up m'=true) :
  (∀ nt df,Q94 D C ⟨tm,m',nt,df⟩ o=Q94 D C ⟨tm,m,nt,df⟩ o)∧x.er D m'.tk=x.er D m.tk∧(∀ p∈tm,p.2.er D m'.tk=p.2.er D m.tk)∧Qav tm (cond up (Q13 m.es m'.es) (Q13 m'.es m.es)) o=true:=by
 unfold Q6o at h
 cases up with
 | true =>
  rw [cond_true] at h
  obtain ⟨⟨p,hp⟩,⟨q,hq⟩,-⟩:=h1 rfl
  rw [hp,hq,YY,YY] at h
  obtain ⟨g1,g23⟩:=Bool.and_eq_true_iff.1 h
  obtain ⟨g2,g3⟩:=Bool.and_eq_true_iff.1 g23
  refine ⟨fun nt df=>trd_q hp g1,by rw [hq];exact W7 g2,fun z hz=>by rw [hq];exact W7 (List.all_eq_true.1 g3 z hz),?_⟩
  rw [cond_true,hp,YY];exact g1
 | false =>
  rw [cond_false] at h
  obtain ⟨⟨p,hp⟩,⟨q,hq⟩,-⟩:=h2 rfl
  rw [hp,hq,YY,YY] at h
  obtain ⟨g1,g23⟩:=Bool.and_eq_true_iff.1 h
  obtain ⟨g2,g3⟩:=Bool.and_eq_true_iff.1 g23
  refine ⟨fun nt df=>(trd_q hp g1).symm,by rw [hq];exact (W7 g2).symm,fun z hz=>by rw [hq];exact (W7 (List.all_eq_true.1 g3 z hz)).symm,?_⟩
  rw [cond_false,hp,YY];exact g1
theorem StW.move {ops:Array Oper} {st0:St} {fx:List (Nat×TV)} {i:Nat} {st:TSt U} {m':TMe U} (h:StW (QF ops st0 fx i (st.er D).mem) ((Ky ops i st).er D)) (ht:∀ p∈(Ky ops i st).tm,p.2.er D m'.tk=p.2.er D st.m.tk) :
  StW (QF ops st0 fx i (m'.er D)) ((⟨(Ky ops i st).tm,m',st.nt,st.df⟩:TSt U).er D):=by
 refine ⟨fun t y hy=>?_,fun j B hB=>⟨B,hB,fun _ _ _ h=>h⟩,fun j T hT=>hT,Z,h.nt,h.df⟩
 have hy':Qcq (QP (TTV.er D m'.tk) (Ky ops i st).tm) t=some y:=hy
 rw [QR] at hy'
 cases hz:Qcq (Ky ops i st).tm t with
 | none=>rw [hz] at hy';cases hy'
 | some x =>
  rw [hz] at hy';cases hy'
  have e:=ht (t,x) (Y3 hz)
  dsimp only at e
  rw [e]
  exact h.tm t _ (by show Qcq (QP (TTV.er D st.m.tk) (Ky ops i st).tm) t=_;rw [QR,hz];rfl)
theorem call_any {E:Env} {W:Wd} (hW:W.p E.V0.S E.w0) (hK:US W D E.P K) {st:TSt U} {m':TMe U} {o:Oper} {e:EfR U} {q:OR U} (hc:isCallV o=true) (h:Qat D C K st o=some e) (hq:e.has q) {p:List (Ev U)} (hQ:Qav st.tm p o=true):OpOK E o ((⟨st.tm,m',st.nt,st.df⟩:TSt U).er D) (q.x.er D m'.tk) (m'.er D):=by
 obtain ⟨dd,op,ty,pos,af,g⟩:=o
 cases op with
 | call c =>
  obtain ⟨callee,os,ts⟩:=c
  cases callee with
  | value x =>
   have h':Q4m K st x os.toList=some e:=h
   have hQ':(match D9 st.tm os.toList with
    | some vs=>vs.all Q28
    | none=>false)=true:=hQ
   unfold Q4m at h'
   split at h'
   ·rename_i f args hx ha
    rw [ha] at hQ'
    split at h'
    ·rename_i args' hs
     split at h'
     ·rename_i kr hk;cases h'
      obtain ⟨a,hoa,rfl⟩:=hq
      obtain ⟨ys,h1,h2⟩:=hK f args' kr a hk hoa
      have hs':YP m'.tk args=some args':=(settleVs_na hQ').trans hs
      exact OpOK.callFunW (st:=(⟨st.tm,m',st.nt,st.df⟩:TSt U).er D) hW (YB (D:=D) (st:=⟨st.tm,m',st.nt,st.df⟩) hx) (h2 m'.tk) (Gr (D:=D) (st:=⟨st.tm,m',st.nt,st.df⟩) ha) (KE hs' (h1 m'.tk))
     ·cases h'
    ·cases h'
   ·cases h'
  | _=>cases hc
 | _=>cases hc
end
section
variable {ops:Array Oper} {effs:List Nat} {st0:St} {β:Type} {r:β}
theorem drawOp_ok {P:Program} (hT:C.T.OK P) (hD:D.OK) {W:Wd} (hK:US W D P K) (hX:X7 W D P X) (hdag:∀ i,i < ops.size→∀ k∈QH ops i,k < i) (hnd:(Jt ops).Nodup) {i:Nat} {fx:List (Nat×TV)} {o:Oper} {st:TSt U} {pn:Value→TMe U→Option β} {k:TSt U→(Bool→TMe U→Bool)→Option β} (hY:YOK W D P Y st.m) (h:DI D ops st0 fx i st) (ho:ops[i]?=some o)
  (hw:QJ ops (QF ops st0 fx i (st.er D).mem).tm o=some true) (hr:XD D C K X Y ops effs i o st pn k=some r)
  : (∃ s c,Sfx st s∧k s c=some r∧(effs.contains i=false→s.m=st.m)∧∃ y,DI D ops st0 ((i,y)::fx) (i+1) s∧Q70 D W P ops effs st0 i st.m c ((i,y)::fx)∧∀ E,E.P=P→W.p E.V0.S E.w0→∀ ms rest Dd F,RunA E ops st0 effs Dd F rest ((i,y)::fx) (cond (effs.contains i) ((s.er D).mem::(st.er D).mem::ms) ((s.er D).mem::ms))→RunA E ops st0 effs Dd F (i::rest) fx ((st.er D).mem::ms)) ∨
   (∃ v m,effs.contains i=true∧Y0 st o.dst=true∧Z5 (XG m.tk st.m.tk) st.tm=true∧SfM st.m m∧pn v m=some r∧∀ E,E.P=P→W.p E.V0.S E.w0→OpD E o ((Ky ops i st).er D) v (m.er D)):=by
 have hi:i < ops.size:=(Array.getElem?_eq_some_iff.1 ho).1
 have hdep:=h.deps hdag hnd hi
 have dst0:Y0 st o.dst=true→Zc st0 o.dst=true:=fun hd=>by
  cases hdst:o.dst with
  | none=>rfl
  | some d=>rw [hdst] at hd;show Nat.blt d st0.nt=true;rw [← h.nt];exact hd
 have eqd:∀ (y:TV) (M:Mem),QF ops st0 ((i,y)::fx) i M=QF ops st0 fx i M:=fun y M=>by
  have e:=ZT (ops:=ops) (fx:=fx) (fx':=(i,y)::fx) (js:=QH ops i) (fun j hj=>by
   have:=hdag i hi j hj
   rw [Q8,if_neg (by omega)])
  unfold QF
  rw [e]
 have noG:∀ fx',Q70 D W P ops effs st0 i st.m (fun _ _=>false) fx':=fun fx' E hP hW up m' u1 u2 hc=>by cases hc
 have good:∀ (x:TTV U) (m':TMe U) (E:Env),Y0 st o.dst=true→effs.contains i=false→x.er D m'.tk=x.er D st.m.tk→OpOK E o (QF ops st0 fx i (m'.er D)) (x.er D m'.tk) (m'.er D)→AnyB E ops st0 effs ((i,x.er D st.m.tk)::fx) i (m'.er D):=fun x m' E hd he g2 hop=>by
  refine ⟨o,x.er D st.m.tk,ho,by rw [Q8,if_pos rfl],dst0 hd,he,.inl ⟨?_,?_⟩⟩
  ·rw [eqd];exact hw
  ·rw [eqd,← g2];exact hop
 unfold XD at hr
 split at hr
 ·rename_i rd hrd
  cases hd:(Y0 st o.dst&&!(effs.contains i)) with
  | false=>rw [hd] at hr;cases hr
  | true =>
   rw [hd,cond_true] at hr
   obtain ⟨hd1,hd2⟩:=Bool.and_eq_true_iff.1 hd
   have he:effs.contains i=false:=by simpa using hd2
   obtain ⟨x,h1,h2⟩:=RdR.run_has hr
   have hop:∀ E:Env,E.P=P→OpOK E o (QF ops st0 fx i (st.er D).mem) (x.er D st.m.tk) (st.er D).mem:=fun E hP=>XN hdep (Q9 ((Q4v (E:=E) (D:=D) (hP.symm▸hT) hD hrd).has h2))
   refine .inl ⟨⟨Wa o.dst x st.tm,st.m,st.nt,st.df⟩,_,Sfx.put st o.dst x,h1,fun _=>rfl,_,h.step ho (m':=st.m) rfl (fun t z hz V w v hv=>hv),fun E hP hW up m' u1 u2 hc=>?_,fun E hP hW ms rest Dd F hk=>RunA.rd ho he hw (hop E hP) (dst0 hd1) (by first | exact hk | (rw [he] at hk;exact hk))⟩
   obtain ⟨g1,g2,g3,-⟩:=mkChk_ok u1 u2 hc
   have hrd':Q94 D C ⟨(Ky ops i st).tm,m',st.nt,st.df⟩ o=some rd:=(g1 _ _).trans hrd
   exact good x m' E hd1 he g2 (XN (StW.move hdep g3) (Q9 ((Q4v (E:=E) (D:=D) (hP.symm▸hT) hD hrd').has h2)))
 ·split at hr
  ·rename_i e he0
   obtain ⟨q,h1,hhas⟩:=EfR.run_has hr
   have h2':∀ E,EfOK D E o (Ky ops i st) e→OROK D E o (Ky ops i st) q:=fun E he=>he.has hhas
   cases hc:(DQ st (q.es++st.m.es) q.tk&&Y0 st o.dst&&Nat.ble st.m.nx q.nx) with
   | false=>rw [hc] at h1;cases h1
   | true =>
    rw [hc,cond_true] at h1
    obtain ⟨b12,b3⟩:=Bool.and_eq_true_iff.1 hc
    obtain ⟨b1,b2⟩:=Bool.and_eq_true_iff.1 b12
    have hst:∀ t z,Qcq st.tm t=some z→∀ V w v,(z.er D st.m.tk).rel V w v→(z.er D (YU q.tk st.m.tk)).rel V w v:=fun t z hz V w v hv=>by
     cases htk:q.tk with
     | none=>exact hv
     | some p =>
      obtain ⟨j,T⟩:=p
      rw [htk] at b1
      have h1:=(Bool.and_eq_true_iff.1 b1).1
      have h2:st.tm.any (fun p=>p.2.hasApp j T.ver)=false:=by simpa using h1
      exact ZM (WL fun hp=>List.any_eq_false.1 h2 (t,z) (Y3 hz) hp) hv
    have b1':DQ (Ky ops i st) (q.es++(Ky ops i st).m.es) q.tk=true:=by
     cases htk:q.tk with
     | none=>rfl
     | some p =>
      obtain ⟨j,T⟩:=p
      rw [htk] at b1
      obtain ⟨h1,h3⟩:=Bool.and_eq_true_iff.1 b1
      refine Bool.and_eq_true_iff.2 ⟨?_,h3⟩
      have h2:st.tm.any (fun p=>p.2.hasApp j T.ver)=false:=by simpa using h1
      have:(Ky ops i st).tm.any (fun p=>p.2.hasApp j T.ver)=false:=List.any_eq_false.2 fun p hp=>List.any_eq_false.1 h2 p (List.mem_filter.1 hp).1
      rw [this];rfl
    have hop0:∀ E:Env,E.P=P→W.p E.V0.S E.w0→OpOK E o (QF ops st0 fx i (st.er D).mem) (q.x.er D (YU q.tk st.m.tk)) ⟨Qr D (YU q.tk st.m.tk) (q.es++st.m.es),X5 (YU q.tk st.m.tk),q.nx⟩:=fun E hP hW=>by
     obtain ⟨hp,tkx,h4,h5,h6⟩:=h2' E (tef_ok (D:=D) (hP.symm▸hT) hD hW (hP.symm▸hK) he0)
     have hWk:=next_weak (D:=D) (st:=Ky ops i st) (dst:=none) (r:=q) h5 h6 b1'
     exact XN hdep (UR (m:=⟨hp,tkx,q.nx⟩) hWk.hp hWk.tk Z h4)
    cases he:effs.contains i with
    | true =>
     rw [he,cond_true] at h1
     have hsf:Sfx st (Q1c st o.dst q):=Sfx.next st o.dst q (Nat.le_of_ble_eq_true b3)
     exact .inl ⟨_,_,hsf,h1,(fun h0=>by first | cases h0 | (rw [he] at h0;cases h0)),_,h.step ho (m':=⟨q.es++st.m.es,YU q.tk st.m.tk,q.nx⟩) rfl hst,noG _,fun E hP hW ms rest Dd F hk=>RunA.eff ho he hw (hop0 E hP hW) (dst0 b2) (by first | exact hk | (rw [he] at hk;exact hk))⟩
    | false =>
     rw [he,cond_false] at h1
     split at h1
     ·rename_i e1 e2
      cases hn:Nat.beq q.nx st.m.nx with
      | false=>rw [hn] at h1;cases h1
      | true =>
       rw [hn,cond_true] at h1
       have e3:=Nat.eq_of_beq_eq_true hn
       have hop:=hop0
       rw [e1,e2,e3] at hop
       refine .inl ⟨⟨Wa o.dst q.x st.tm,st.m,st.nt,st.df⟩,_,Sfx.put st o.dst q.x,h1,fun _=>rfl,_,h.step ho (m':=st.m) rfl (fun t z hz V w v hv=>hv),fun E hP hW up m' u1 u2 hc=>?_,fun E hP hW ms rest Dd F hk=>RunA.rd ho he hw (hop E hP hW) (dst0 b2) (by first | exact hk | (rw [he] at hk;exact hk))⟩
       obtain ⟨c1,c2⟩:=Bool.and_eq_true_iff.1 hc
       obtain ⟨-,g2,g3,g4⟩:=mkChk_ok (C:=C) u1 u2 c2
       exact good q.x m' E b2 he g2 (XN (StW.move hdep g3) (call_any (st:=Ky ops i st) hW (hP.symm▸hK) c1 he0 hhas g4))
     ·cases h1
  ·split at hr
   ·rename_i xo hxo
    cases hc:(Y0 st o.dst&&effs.contains i) with
    | false=>rw [hc] at hr;cases hr
    | true =>
     rw [hc,cond_true] at hr
     obtain ⟨b1,he⟩:=Bool.and_eq_true_iff.1 hc
     obtain ⟨q,q1,q2,h2⟩:=callX_ok (st:=Ky ops i st) hX hY hxo _ _ _ hr
     cases q with
     | die v m =>
      dsimp only [OutT.to] at h2
      cases b2:Z5 (XG m.tk st.m.tk) st.tm with
      | false=>rw [b2] at h2;cases h2
      | true =>
       rw [b2,cond_true] at h2
       exact .inr ⟨v,m,he,b1,b2,q2,h2,fun E hP hW=>q1 E hP hW⟩
     | val x m =>
     dsimp only [OutT.to] at h2
     cases b2:Z5 (XG m.tk st.m.tk) st.tm with
     | false=>rw [b2] at h2;cases h2
     | true =>
     rw [b2,cond_true] at h2
     refine .inl ⟨⟨Wa o.dst x st.tm,m,st.nt,st.df⟩,_,⟨?_,q2.es,q2.tk,q2.nx,rfl,.inr rfl⟩,h2,(fun h0=>by first | cases h0 | (rw [he] at h0;cases h0)),_,h.step ho (m':=m) rfl (fun t z hz V w v hv=>Gs b2 q2.tk hz V w v hv),noG _,fun E hP hW ms rest Dd F hk=>RunA.eff ho he hw (XN hdep (q1 E hP hW)) (dst0 b1) (by first | exact hk | (rw [he] at hk;exact hk))⟩
     cases o.dst with
     | none=>exact ⟨[],rfl⟩
     | some d=>exact ⟨[(d,x)],rfl⟩
   ·cases hr
theorem homeK_succ (effs:List Nat) (i:Nat):Ku effs (i+1)=Ku effs i+cond (effs.contains i) 1 0:=by
 unfold Ku
 rw [show List.range' 0 (i+1)=List.range' 0 i++[i] by
  rw [List.range'_1_concat,Nat.zero_add]]
 rw [List.filter_append,List.length_append]
 cases hc:effs.contains i with
 | true=>rw [List.filter_cons_of_pos hc];rfl
 | false=>rw [List.filter_cons_of_neg (by rw [hc];exact Bool.false_ne_true)];rfl
structure SI (D:Codec U) (W:Wd) (P:Program) (ops:Array Oper) (effs:List Nat) (st0:St) (fx:List (Nat×TV)) (i:Nat) (m:TMe U) (ms:List (TMe U)) (acc:List (Nat×(Bool→TMe U→Bool))):Prop where
 ac:∀ j c,Qcq acc j=some c→j < i∧∃ m',(m::ms).reverse[Ku effs j]?=some m'∧Q70 D W P ops effs st0 j m' c fx
 ch:∀ (a b:Nat) (ma mb:TMe U),a≤b→(m::ms).reverse[a]?=some ma→(m::ms).reverse[b]?=some mb→SfM ma mb
 ln:ms.length=Ku effs i
theorem SI.step {W:Wd} {P:Program} {fx:List (Nat×TV)} {i:Nat} {m m':TMe U} {ms:List (TMe U)} {acc:List (Nat×(Bool→TMe U→Bool))} (h:SI D W P ops effs st0 fx i m ms acc) (hdag:∀ i,i < ops.size→∀ k∈QH ops i,k < i) (hi:i < ops.size) {y:TV} {c:Bool→TMe U→Bool} (hm:effs.contains i=false→m'=m) (hs:SfM m m') (hc:Q70 D W P ops effs st0 i m c ((i,y)::fx)) :
  SI D W P ops effs st0 ((i,y)::fx) (i+1) m' (cond (effs.contains i) (m::ms) ms) ((i,c)::acc):=by
 have get:∀ (k:Nat) (z:TMe U),(m::ms).reverse[k]?=some z→(m'::cond (effs.contains i) (m::ms) ms).reverse[k]?=some z:=fun k z hz=>by
  cases he:effs.contains i with
  | true =>
   rw [cond_true,List.reverse_cons,List.getElem?_append_left (List.getElem?_eq_some_iff.1 hz).1]
   exact hz
  | false=>rw [cond_false,hm he];exact hz
 have len:∀ (k:Nat) (z:TMe U),(m'::cond (effs.contains i) (m::ms) ms).reverse[k]?=some z→(m::ms).reverse[k]?=some z∨(z=m'∧ms.length≤k):=fun k z hz=>by
  cases he:effs.contains i with
  | true =>
   rw [he,cond_true,List.reverse_cons] at hz
   by_cases hk:k < (m::ms).reverse.length
   ·rw [List.getElem?_append_left hk] at hz;exact .inl hz
   ·rw [List.getElem?_append_right (by omega)] at hz
    have h1:=(List.getElem?_eq_some_iff.1 hz).1
    have h2:k - (m::ms).reverse.length < 1:=h1
    have:k - (m::ms).reverse.length=0:=by omega
    rw [this] at hz
    cases hz
    refine .inr ⟨Z,?_⟩
    rw [List.length_reverse,List.length_cons] at hk;omega
  | false=>rw [he,cond_false,hm he] at hz;exact .inl hz
 have last:(m::ms).reverse[ms.length]?=some m:=by
  rw [List.reverse_cons,List.getElem?_append_right (by rw [List.length_reverse];exact Nat.le_refl _),List.length_reverse,Nat.sub_self];rfl
 have all_m:∀ (k:Nat) (z:TMe U),(m::ms).reverse[k]?=some z→SfM z m:=fun k z hz=>by
  have hk:k < (m::ms).reverse.length:=(List.getElem?_eq_some_iff.1 hz).1
  rw [List.length_reverse,List.length_cons] at hk
  exact h.ch k ms.length z m (by omega) hz last
 refine ⟨fun j d hj=>?_,fun a b ma mb hab ha hb=>?_,?_⟩
 ·rw [Q8] at hj
  split at hj
  ·rename_i e;subst e;cases hj
   exact ⟨Nat.lt_succ_self _,m,get _ _ (by rw [← h.ln];exact last),hc⟩
  ·obtain ⟨h1,z,h2,h3⟩:=h.ac j d hj
   refine ⟨by omega,z,get _ _ h2,fun E hP hW up m2 u1 u2 hq=>(h3 E hP hW up m2 u1 u2 hq).ext (hdag j (by omega)) fun k hk=>?_⟩
   rw [Q8,if_neg (by omega)]
 ·rcases len a ma ha with ha' | ⟨ea,la⟩
  ·rcases len b mb hb with hb' | ⟨eb,-⟩
   ·exact h.ch a b ma mb hab ha' hb'
   ·rw [eb];exact (all_m a ma ha').trans hs
  ·rcases len b mb hb with hb' | ⟨eb,-⟩
   ·have hk:b < (m::ms).reverse.length:=(List.getElem?_eq_some_iff.1 hb').1
    rw [List.length_reverse,List.length_cons] at hk
    have:b=ms.length:=by omega
    subst this
    rw [last] at hb';cases hb'
    have:a=ms.length:=by omega
    subst this
    rcases hE:effs.contains i with _ | _
    ·rw [ea,hm hE];exact SfM.refl _
    ·rw [hE,cond_true,List.reverse_cons,List.getElem?_append_left (by rw [List.length_reverse,List.length_cons];omega),last] at ha
     cases ha;exact SfM.refl _
   ·rw [ea,eb];exact SfM.refl _
 ·rw [homeK_succ]
  cases he:effs.contains i with
  | true=>rw [cond_true,cond_true,List.length_cons,h.ln]
  | false=>rw [cond_false,cond_false,h.ln];rfl
theorem AllEx.of {E:Env} {st:St} {fx:List (Nat×TV)} {ms:List Mem}:∀ {l:List (Nat×Nat)},(∀ p∈l,∃ m,ms[p.2]?=some m∧Q71 E ops st fx effs ms p.1 p.2 m)→AllEx E ops st effs fx ms l
  | [],_=>trivial
  | (i,j)::l,h=>⟨h (i,j) (List.mem_cons_self ..),AllEx.of fun p hp=>h p (List.mem_cons_of_mem _ hp)⟩
theorem SI.all {W:Wd} {P:Program} {fx:List (Nat×TV)} {n:Nat} {m:TMe U} {ms:List (TMe U)} {acc:List (Nat×(Bool→TMe U→Bool))} (h:SI D W P ops effs st0 fx n m ms acc) (hx:Q1h ops effs acc (m::ms).reverse=true) {E:Env} (hP:E.P=P) (hW:W.p E.V0.S E.w0):AllEx E ops st0 effs fx ((m::ms).map (TMe.er D)).reverse (Q60 ops effs):=by
 refine AllEx.of fun p hp=>?_
 obtain ⟨i,hi,h1⟩:=List.mem_flatMap.1 hp
 obtain ⟨j,hj,rfl⟩:=List.mem_map.1 h1
 obtain ⟨hj1,hj2⟩:=List.mem_filter.1 hj
 obtain ⟨hm,hn⟩:=Bool.and_eq_true_iff.1 hj2
 have hq:=List.all_eq_true.1 (List.all_eq_true.1 hx i hi) j hj1
 rw [hm] at hq
 have hn':Nat.beq j (Ku effs i)=false:=by simpa using hn
 rw [hn'] at hq
 have hq':(match Qcq acc i,(m::ms).reverse[j]? with
  | some c,some m=>c (Nat.blt (Ku effs i) j) m
  | _,_=>false)=true:=by simpa using hq
 split at hq'
 ·rename_i c m' hc hm'
  obtain ⟨-,mh,g1,g2⟩:=h.ac i c hc
  have key:=g2 E hP hW (Nat.blt (Ku effs i) j) m' (fun hb=>h.ch _ _ _ _ (by have:=Nat.le_of_ble_eq_true hb;omega) g1 hm') (fun hb=>h.ch _ _ _ _ (by
   rcases Nat.lt_or_ge (Ku effs i) j with h5 | h5
   ·have:Nat.blt (Ku effs i) j=true:=Nat.ble_eq_true_of_le h5
    rw [this] at hb;cases hb
   ·exact h5) hm' g1) hq'
  refine ⟨m'.er D,by rw [← List.map_reverse,List.getElem?_map,hm'];rfl,?_⟩
  obtain ⟨o,x,k1,k2,Qct,k4,k5⟩:=key
  refine ⟨o,x,k1,k2,Qct,?_⟩
  rcases k5 with ⟨k6,k7⟩ | ⟨k6,k7⟩
  ·exact .inl ⟨k6,_,k7,by rw [k4];exact if_neg Bool.false_ne_true▸rfl⟩
  ·exact .inr ⟨k6,k7,fun h=>by rw [k4] at h;cases h⟩
 ·cases hq'
theorem imp_no {m:TMe U} (h:D5 m=true) {E:Env} {V:Vu} {st:St} {a:Act} {w:World} (hm:st.mem=m.er D) (hr:Rel E V st a w):False:=by
 obtain ⟨es,tk,nx⟩:=m
 unfold D5 at h
 split at h
 ·rename_i n es' he
  dsimp only at he h
  subst he
  have e1:st.hp=(n,.obj (.deferred none))::Qr D tk es':=congrArg Mem.hp hm
  have e2:st.nx=nx:=congrArg Mem.nx hm
  have h1:=(hr.h.own n (.obj (.deferred none)) (by rw [e1,Q8,if_pos rfl])).1
  have h2:V.nx=st.nx:=hr.nx
  have h3:=Nat.le_of_ble_eq_true h
  omega
 ·cases h
theorem impM_imp (m:TMe U):D5 (Q4g m)=true:=Nat.ble_eq_true_of_le (Nat.le_refl _)
theorem impM_sf (m:TMe U):SfM m (Q4g m):=⟨⟨[_],rfl⟩,⟨[],rfl⟩,Nat.le_refl _⟩
theorem dead_ok {P:Program} {W:Wd} (hdag:∀ i,i < ops.size→∀ k∈QH ops i,k < i) {m:TMe U} (hm:D5 m=true):∀ (rest:List Oper) {i:Nat} {fx:List (Nat×TV)} {ms:List (TMe U)} {acc:List (Nat×(Bool→TMe U→Bool))},(∀ j o,rest[j]?=some o→ops[i+j]?=some o∧o.guard=none∧Zc st0 o.dst=true)→i+rest.length=ops.size→SI D W P ops effs st0 fx i m ms acc →
  ∃ fx',SI D W P ops effs st0 fx' ops.size m (Q4k effs i rest m ms) (Q6v effs i rest acc)∧∀ E,E.P=P→W.p E.V0.S E.w0→∀ Dd F,F fx' ((m::Q4k effs i rest m ms).map (TMe.er D))→RunA E ops st0 effs Dd F (List.range' i rest.length) fx ((m::ms).map (TMe.er D))
 | [],i,fx,ms,acc,hl,hs,hS=>⟨fx,by rw [← hs];exact hS,fun E hP hW Dd F hk=>RunA.nil hk⟩
 | o::os,i,fx,ms,acc,hl,hs,hS=>by
  obtain ⟨ho,hg,hd⟩:=hl 0 o rfl
  have hi:i < ops.size:=(Array.getElem?_eq_some_iff.1 ho).1
  have hl':∀ j o',os[j]?=some o'→ops[i+1+j]?=some o'∧o'.guard=none∧Zc st0 o'.dst=true:=fun j o' hj=>by
   have:=hl (j+1) o' (by simpa using hj)
   rw [show i+1+j=i+(j+1) by omega];exact this
  have hs':i+1+os.length=ops.size:=by rw [← hs,List.length_cons];omega
  have hw:∀ tm:List (Nat×TV),QJ ops tm o=some true:=fun tm=>by unfold QJ;rw [hg]
  have hv:∀ (E:Env) (fx':List (Nat×TV)) (m':TMe U),D5 m'=true→OpOK E o (QF ops st0 fx' i (m'.er D)) .unk (m'.er D):=fun E fx' m' hm' V a w hr=>(imp_no (D:=D) hm' rfl hr).elim
  have hS':=hS.step (m':=m) (y:=.unk) (c:=fun _ m'=>!(effs.contains i)&&D5 m') hdag hi (fun _=>rfl) (SfM.refl m) (fun E hP hW up m' u1 u2 hc=>by
   obtain ⟨c1,c2⟩:=Bool.and_eq_true_iff.1 hc
   exact ⟨o,.unk,ho,by rw [Q8,if_pos rfl],hd,by simpa using c1,.inl ⟨hw _,hv E _ m' c2⟩⟩)
  obtain ⟨fx',h1,h2⟩:=dead_ok hdag hm os hl' hs' hS'
  refine ⟨fx',h1,fun E hP hW Dd F hk=>?_⟩
  have key:=h2 E hP hW Dd F hk
  cases he:effs.contains i with
  | true=>rw [he] at key;exact RunA.eff ho he (hw _) (hv E _ m hm) hd key
  | false=>rw [he] at key;exact RunA.rd ho he (hw _) (hv E _ m hm) hd key
def DrawR (D:Codec U) (W:Wd) (P:Program) (ops:Array Oper) (effs:List Nat) (st0:St) (i n:Nat) (fx:List (Nat×TV)) (st:TSt U) (ms:List (TMe U)) (p:Value→TSt U→Option β) (k:TSt U→Option β) (r:β):Prop :=
 (∃ s,Sfx st s∧k s=some r∧∃ fx' msF,DI D ops st0 fx' ops.size s∧(∀ E,E.P=P→W.p E.V0.S E.w0→AllEx E ops st0 effs fx' ((s.m::msF).map (TMe.er D)).reverse (Q60 ops effs))∧∀ E,E.P=P→W.p E.V0.S E.w0→∀ Q F,F fx' ((s.m::msF).map (TMe.er D))→RunA E ops st0 effs (DieOp E Q ops st0) F (List.range' i n) fx ((st.m::ms).map (TMe.er D))) ∨
 (∃ v s,Sfx st s∧p v s=some r∧∃ fx' mF msF,D5 mF=true∧(∀ E,E.P=P→W.p E.V0.S E.w0→AllEx E ops st0 effs fx' ((mF::msF).map (TMe.er D)).reverse (Q60 ops effs))∧∀ E,E.P=P→W.p E.V0.S E.w0→∀ Q F,XQ E Q (.panic (ZP v)) (s.er D)→F fx' ((mF::msF).map (TMe.er D))→RunA E ops st0 effs (DieOp E Q ops st0) F (List.range' i n) fx ((st.m::ms).map (TMe.er D)))
theorem DrawR.step {P:Program} {W:Wd} {i n:Nat} {y:TV} {fx:List (Nat×TV)} {st s1:TSt U} {ms ms1:List (TMe U)} {p:Value→TSt U→Option β} {k:TSt U→Option β} (hsf:Sfx st s1) (h:DrawR D W P ops effs st0 (i+1) n ((i,y)::fx) s1 ms1 p k r)
  (hrun:∀ E,E.P=P→W.p E.V0.S E.w0→∀ Dd F,RunA E ops st0 effs Dd F (List.range' (i+1) n) ((i,y)::fx) ((s1.m::ms1).map (TMe.er D))→RunA E ops st0 effs Dd F (i::List.range' (i+1) n) fx ((st.m::ms).map (TMe.er D))):DrawR D W P ops effs st0 i (n+1) fx st ms p k r:=by
 rcases h with ⟨s,q1,q2,fx',msF,q3,qx,q4⟩ | ⟨v,s,q1,q2,fx',mF,msF,q3,qx,q4⟩
 ·exact .inl ⟨s,hsf.trans q1,q2,fx',msF,q3,qx,fun E hP hW Q F hk=>hrun E hP hW _ F (q4 E hP hW Q F hk)⟩
 ·exact .inr ⟨v,s,hsf.trans q1,q2,fx',mF,msF,q3,qx,fun E hP hW Q F hq hk=>hrun E hP hW _ F (q4 E hP hW Q F hq hk)⟩
theorem dieW {fx:List (Nat×TV)} {i:Nat} {st:TSt U} {m:TMe U} (hap:Z5 (XG m.tk st.m.tk) st.tm=true) (htk:∃ p,m.tk=p++st.m.tk) (h:DI D ops st0 fx i st) (hdag:∀ i,i < ops.size→∀ k∈QH ops i,k < i) (hnd:(Jt ops).Nodup) (hi:i < ops.size) {M:Mem} :
  StW ⟨(QF ops st0 fx i M).tm,(m.er D).hp,(m.er D).tk,(m.er D).nx,st0.nt,st0.df⟩ ((⟨((Jt ops).map fun d=>(d,TTV.unk))++st.tm,m,st.nt,st.df⟩:TSt U).er D):=by
 refine ⟨fun t y hy=>?_,fun j B hB=>⟨B,hB,fun _ _ _ h=>h⟩,fun j T hT=>hT,Z,h.nt.symm▸Z,h.df.symm▸Z⟩
 have hy':Qcq (QP (TTV.er D m.tk) (((Jt ops).map fun d=>(d,TTV.unk))++st.tm)) t=some y:=hy
 rw [QR,JH] at hy'
 by_cases hd:t∈Jt ops
 ·obtain hq:Qcq ((Jt ops).map fun d=>(d,(TTV.unk:TTV U))) t=some .unk:=by
   generalize Jt ops=l at hd
   induction l with
   | nil=>cases hd
   | cons a l ih =>
    rw [List.map_cons,Q8]
    by_cases e:a=t
    ·rw [if_pos e]
    ·rw [if_neg e]
     rcases List.mem_cons.1 hd with h1 | h1
     ·exact absurd h1.symm e
     ·exact ih h1
  rw [hq] at hy'
  cases hy'
  exact .inl Z
 ·have hq:Qcq ((Jt ops).map fun d=>(d,(TTV.unk:TTV U))) t=none:=by
   cases hc:Qcq ((Jt ops).map fun d=>(d,(TTV.unk:TTV U))) t with
   | none=>rfl
   | some z =>
    obtain ⟨d,hd1,hd2⟩:=List.mem_map.1 (Y3 hc)
    cases hd2
    exact absurd hd1 hd
  rw [hq] at hy'
  cases hz:Qcq st.tm t with
  | none=>rw [hz] at hy';cases hy'
  | some x =>
   rw [hz] at hy';cases hy'
   have hb:(Q0o ops i).contains t=false:=by
    cases hc:(Q0o ops i).contains t with
    | false=>rfl
    | true =>
     have h1:t∈Q0o ops i:=by simpa using hc
     obtain ⟨j,hj,hjd⟩:=List.mem_filterMap.1 h1
     refine absurd ?_ hd
     refine List.mem_filterMap.2 ⟨j,hj,?_⟩
     split at hjd
     ·rename_i d hd1
      rw [hd1]
      cases hcc:((QH ops i).contains j||(QH ops j).contains i) with
      | true=>rw [hcc] at hjd;cases hjd
      | false=>rw [hcc,cond_false] at hjd;exact hjd
     ·cases hjd
   obtain ⟨z,h1,h2⟩:=h.look hdag hnd hi hb hz
   exact .inr ⟨z,h1,fun V w v hv=>Gs hap htk hz V w v (h2.1 V w v hv)⟩
theorem drawT_ok {P:Program} (hT:C.T.OK P) (hD:D.OK) {W:Wd} (hK:US W D P K) (hX:X7 W D P X) (hdag:∀ i,i < ops.size→∀ k∈QH ops i,k < i) (hnd:(Jt ops).Nodup):∀ (rest:List Oper) {i:Nat} {fx:List (Nat×TV)} {st:TSt U} {ms:List (TMe U)} {acc:List (Nat×(Bool→TMe U→Bool))} {pn:Value→TSt U→Option β} {k:TSt U→Option β},(∀ j o,rest[j]?=some o→ops[i+j]?=some o)→i+rest.length=ops.size→DI D ops st0 fx i st→SI D W P ops effs st0 fx i st.m ms acc→YOK W D P Y st.m→K3 D C K X Y ops effs pn i rest st ms acc k=some r →
  DrawR D W P ops effs st0 i rest.length fx st ms pn k r
 | [],i,fx,st,ms,acc,pn,k,hl,hs,h,hS,hY,hr=>by
  have hr':cond (Q1h ops effs acc (st.m::ms).reverse) (k st) none=some r:=hr
  cases hx:Q1h ops effs acc (st.m::ms).reverse with
  | false=>rw [hx] at hr';cases hr'
  | true =>
   rw [hx,cond_true] at hr'
   exact .inl ⟨st,Sfx.refl st,hr',fx,ms,(by rw [← hs];exact h),fun E hP hW=>hS.all hx hP hW,fun E hP hW Q F hk=>RunA.nil hk⟩
 | o::os,i,fx,st,ms,acc,pn,k,hl,hs,h,hS,hY,hr=>by
  have ho:ops[i]?=some o:=hl 0 o rfl
  have hi:i < ops.size:=(Array.getElem?_eq_some_iff.1 ho).1
  have hl':∀ j o',os[j]?=some o'→ops[i+1+j]?=some o':=fun j o' hj=>by
   have:=hl (j+1) o' (by simpa using hj)
   rw [← this];congr 1;omega
  have hs':i+1+os.length=ops.size:=by rw [← hs,List.length_cons];omega
  have GO:∀ (s1:TSt U) (y:TV) (ms1:List (TMe U)) (acc1:List (Nat×(Bool→TMe U→Bool))),Sfx st s1→DI D ops st0 ((i,y)::fx) (i+1) s1→SI D W P ops effs st0 ((i,y)::fx) (i+1) s1.m ms1 acc1→K3 D C K X Y ops effs pn (i+1) os s1 ms1 acc1 k=some r→(∀ E,E.P=P→W.p E.V0.S E.w0→∀ Dd F,RunA E ops st0 effs Dd F (List.range' (i+1) os.length) ((i,y)::fx) ((s1.m::ms1).map (TMe.er D))→RunA E ops st0 effs Dd F (i::List.range' (i+1) os.length) fx ((st.m::ms).map (TMe.er D)))→DrawR D W P ops effs st0 i (os.length+1) fx st ms pn k r:=fun s1 y ms1 acc1 hsf hdi hsi h' hrun=>by
   exact DrawR.step hsf (drawT_ok hT hD hK hX hdag hnd os hl' hs' hdi hsi (hY.mono hsf.sfm) h') hrun
  have dst0:Y0 st o.dst=true→Zc st0 o.dst=true:=fun hd=>by
   cases hdst:o.dst with
   | none=>rfl
   | some d=>rw [hdst] at hd;show Nat.blt d st0.nt=true;rw [← h.nt];exact hd
  have eqd:∀ M:Mem,QF ops st0 ((i,.unk)::fx) i M=QF ops st0 fx i M:=fun M=>by
   have e:=ZT (ops:=ops) (fx:=fx) (fx':=(i,TV.unk)::fx) (js:=QH ops i) (fun j hj=>by
    have:=hdag i hi j hj
    rw [Q8,if_neg (by omega)])
   unfold QF
   rw [e]
  have RUN:∀ (st1:TSt U),st1.m=st.m→Sfx st st1→DI D ops st0 fx i st1→QJ ops (QF ops st0 fx i (st1.er D).mem).tm o=some true→XD D C K X Y ops effs i o st1 (Q1k ops effs i os st1 ms acc pn) (fun s c=>K3 D C K X Y ops effs pn (i+1) os s (cond (effs.contains i) (st.m::ms) ms) ((i,c)::acc) k)=some r→DrawR D W P ops effs st0 i (os.length+1) fx st ms pn k r:=fun st1 hm hsf1 hdi1 hw1 hr1=>by
   rcases drawOp_ok (st:=st1) hT hD hK hX hdag hnd (by rw [hm];exact hY) hdi1 ho hw1 hr1 with ⟨s1,c,q1,q2,qm,y,q3,qg,q4⟩ | ⟨v,m,he,hd,hap,hsf,hpn,hop⟩
   ·skip
    have em:(st1.er D).mem=st.m.er D:=by
     show TMe.er D st1.m=_
     rw [hm]
    refine GO s1 y _ _ (hsf1.trans q1) q3 (hS.step hdag hi (fun he=>(qm he).trans hm) (by rw [← hm];exact q1.sfm) (by rw [← hm];exact qg)) q2 (fun E hP hW Dd F hk=>?_)
    have key:=q4 E hP hW (ms.map (TMe.er D)) (List.range' (i+1) os.length) Dd F
    rw [em] at key
    refine key ?_
    cases he:effs.contains i with
    | true=>rw [he] at hk;exact hk
    | false=>rw [he] at hk;exact hk
   ·unfold Q1k at hpn
    cases hc:(os.all (fun o=>o.guard.isNone&&Y0 st1 o.dst)&&Q1h ops effs (Q6v effs (i+1) os ((i,fun _ _=>false)::acc)) (Q4g st1.m::Q4k effs (i+1) os (Q4g st1.m) (st1.m::ms)).reverse) with
    | false=>rw [hc] at hpn;cases hpn
    | true =>
     rw [hc,cond_true] at hpn
     obtain ⟨c1,c2⟩:=Bool.and_eq_true_iff.1 hc
     rw [hm] at c2 hsf hap
     have dst1:∀ {d:Option Nat},Y0 st1 d=true→Zc st0 d=true:=fun {d} hd=>by
      cases d with
      | none=>rfl
      | some d=>show Nat.blt d st0.nt=true;rw [← hdi1.nt];exact hd
     have hS1:=hS.step (m':=Q4g st.m) (y:=.unk) (c:=fun _ _=>false) hdag hi (fun h0=>by rw [he] at h0;cases h0) (impM_sf st.m) (fun E hP hW up m' u1 u2 hc=>by cases hc)
     rw [he,cond_true] at hS1
     have hl2:∀ j o',os[j]?=some o'→ops[i+1+j]?=some o'∧o'.guard=none∧Zc st0 o'.dst=true:=fun j o' hj=>by
      have h5:=List.all_eq_true.1 c1 o' (List.mem_of_getElem? hj)
      obtain ⟨h6,h7⟩:=Bool.and_eq_true_iff.1 h5
      exact ⟨hl' j o' hj,Option.isNone_iff_eq_none.1 h6,dst1 h7⟩
     obtain ⟨fx',g1,g2⟩:=dead_ok (m:=Q4g st.m) hdag (impM_imp st.m) os hl2 hs' hS1
     refine .inr ⟨v,_,⟨?_,hsf.es,hsf.tk,hsf.nx,?_,?_⟩,hpn,fx',_,_,impM_imp st.m,fun E hP hW=>g1.all c2 hP hW,fun E hP hW Q F hq hk=>?_⟩
     ·obtain ⟨z,hz⟩:=hsf1.tm
      exact ⟨_++z,by rw [List.append_assoc,← hz]⟩
     ·exact hsf1.nt
     ·exact hsf1.df
     ·refine RunA.die ho he (dst1 hd) (DieOp.mk (m':=m.er D) (pv:=v) ho (by rw [eqd];rw [show (st1.er D).mem=st.m.er D from congrArg (TMe.er D) hm] at hw1;exact hw1) (fun V a w hr2=>?_) (KU ?_ hq)) (g2 E hP hW _ F hk)
      ·rw [eqd,← hm] at hr2
       exact hop E hP hW V a w (hr2.weak (hdi1.deps hdag hnd hi))
      ·rw [eqd]
       exact dieW (by rw [hm] at *;exact hap) (by rw [hm];exact hsf.tk) hdi1 hdag hnd hi
  unfold K3 at hr
  split at hr
  ·rename_i hgd
   exact RUN st rfl (Sfx.refl st) h (by unfold QJ;rw [hgd]) hr
  ·rename_i j b hgd
   split at hr
   ·cases hr
   ·rename_i d hj
    cases hbk:(Q0o ops i).contains d with
    | true=>rw [hbk] at hr;cases hr
    | false =>
     rw [hbk,cond_false] at hr
     have skip:∀ {st':TSt U},DI D ops st0 fx i st'→st'.m=st.m→Sfx st st'→QJ ops (QF ops st0 fx i (st.er D).mem).tm o=some false→cond (Y0 st o.dst) (K3 D C K X Y ops effs pn (i+1) os (K2 o st') (cond (effs.contains i) (st.m::ms) ms) ((i,fun _ _=>!(effs.contains i))::acc) k) none=some r→DrawR D W P ops effs st0 i (os.length+1) fx st ms pn k r:=by
      intro st' hdi hm hsf hw hr'
      cases hd1:Y0 st o.dst with
      | false=>rw [hd1] at hr';cases hr'
      | true =>
       rw [hd1,cond_true] at hr'
       have hsi:=hS.step (m':=(K2 o st').m) (y:=.tup []) (c:=fun _ _=>!(effs.contains i)) hdag hi (fun _=>hm) (by show SfM st.m st'.m;rw [hm];exact SfM.refl _) (fun E hP hW up m' u1 u2 hc=>by
        have he:effs.contains i=false:=by simpa using hc
        have e:=ZT (ops:=ops) (fx:=fx) (fx':=(i,TV.tup [])::fx) (js:=QH ops i) (fun j hj=>by
         have:=hdag i hi j hj
         rw [Q8,if_neg (by omega)])
        have eqd:∀ M:Mem,QF ops st0 ((i,.tup [])::fx) i M=QF ops st0 fx i M:=fun M=>by
         unfold QF
         rw [e]
        exact ⟨o,.tup [],ho,by rw [Q8,if_pos rfl],dst0 hd1,he,.inr ⟨by rw [eqd];exact hw,rfl⟩⟩)
       refine GO (K2 o st') (.tup []) _ _ (hsf.trans (Sfx.put st' o.dst _)) (hdi.step ho (x:=.tup []) (m':=st'.m) (y:=.tup []) Z (fun t z hz V w v hv=>hv)) hsi hr' (fun E hP hW Dd F hk=>?_)
       have e:(K2 o st').m=st.m:=hm
       rw [e] at hk
       cases he:effs.contains i with
       | true=>rw [he] at hk;exact RunA.noE ho he hw (dst0 hd1) hk
       | false=>rw [he] at hk;exact RunA.no ho he hw (dst0 hd1) hk
     split at hr
     ·rename_i c hc
      have want:∀ b',c=b'→QJ ops (QF ops st0 fx i (st.er D).mem).tm o=some (b'==b):=fun b' e=>by
       subst e
       obtain ⟨y,hy,hyz⟩:=h.look hdag hnd hi hbk hc
       have ey:=hyz.2 (.inl ⟨c,rfl⟩)
       unfold QJ
       rw [hgd]
       dsimp only
       rw [hj]
       dsimp only
       rw [hy,ey];rfl
      have run:∀ b',c=b'→XD D C K X Y ops effs i o (setB st d b') (Q1k ops effs i os (setB st d b') ms acc pn) (fun s c=>K3 D C K X Y ops effs pn (i+1) os s (cond (effs.contains i) (st.m::ms) ms) ((i,c)::acc) k)=some r→(b'==b)=true→_:=fun b' e h' e2=>RUN (setB st d b') rfl (WW st d b') (h.setB hc e) (by rw [← e2];exact want b' e) h'
      have skp:∀ b',c=b'→cond (Y0 st o.dst) (K3 D C K X Y ops effs pn (i+1) os (K2 o (setB st d b')) (cond (effs.contains i) (st.m::ms) ms) ((i,fun _ _=>!(effs.contains i))::acc) k) none=some r→(b'==b)=false→_:=fun b' e h' e2 =>
       skip (h.setB hc e) rfl (WW st d b') (by rw [← e2];exact want b' e) h'
      cases hcv:c with
      | true =>
       rw [hcv,cond_true] at hr
       cases b with
       | true=>exact run true hcv hr rfl
       | false=>exact skp true hcv hr rfl
      | false =>
       rw [hcv,cond_false] at hr
       cases b with
       | true=>exact skp false hcv hr rfl
       | false=>exact run false hcv hr rfl
     ·rename_i hc
      refine skip h Z (Sfx.refl st) ?_ hr
      obtain ⟨y,hy,hyz⟩:=h.look hdag hnd hi hbk hc
      have ey:=hyz.2 (.inr rfl)
      unfold QJ
      rw [hgd]
      dsimp only
      rw [hj]
      dsimp only
      rw [hy,ey];rfl
     ·cases hr
theorem draw_ok {id:Nat} {st:TSt U} {pn:Value→TSt U→Option β} {k:TSt U→Option β} {P:Program} (hm:P.follows .mixedOrders=true) (hT:C.T.OK P) (hD:D.OK) {W:Wd} (hK:US W D P K) (hX:X7 W D P X) (hY:YOK W D P Y st.m) (hB:Q4j ops effs=true) (hr:K3 D C K X Y ops effs pn 0 ops.toList st [] [] k=some r):(∃ s,Sfx st s∧k s=some r∧∀ (E:Env) (ro:Option Nat) (n:Nat) Q,E.P=P→W.p E.V0.S E.w0→XQ E Q .normal (s.er D)→XC E ro n Q (.region id ops true) (st.er D)) ∨
  (∃ v s,Sfx st s∧pn v s=some r∧∀ (E:Env) (ro:Option Nat) (n:Nat) Q,E.P=P→W.p E.V0.S E.w0→XQ E Q (.panic (ZP v)) (s.er D)→XC E ro n Q (.region id ops true) (st.er D)):=by
 obtain ⟨hB12,hB3⟩:=Bool.and_eq_true_iff.1 hB
 obtain ⟨hB1,hB2⟩:=Bool.and_eq_true_iff.1 hB12
 have hB':=hB1
 simp only [Q0u,Bool.and_eq_true,decide_eq_true_eq] at hB'
 obtain ⟨⟨⟨⟨hdag,hnd⟩,-⟩,-⟩,-⟩:=hB'
 have hdag':∀ i,i < ops.size→∀ k∈QH ops i,k < i:=fun i hi k hk=>by
  have:=List.all_eq_true.1 (List.all_eq_true.1 hdag i (by simpa using hi)) k hk
  simpa using this
 have e:ops.toList.length=ops.size:=by simp
 have R:=drawT_ok (effs:=effs) (st0:=st.er D) (fx:=[]) hT hD hK hX hdag' hnd ops.toList (i:=0) (st:=st) (ms:=[]) (acc:=[]) (pn:=pn) (k:=k) (r:=r)
  (fun j o hj=>by rw [Nat.zero_add];simpa using hj) (by rw [Nat.zero_add];simp) ⟨fun j hj=>by omega,fun j hj=>rfl,fun t x hx=>.inr ⟨fun j hj=>by omega,x.er D st.m.tk,by show Qcq (QP _ st.tm) t=_;rw [QR,hx];rfl,fun _ _ _ h=>h,fun _=>rfl⟩,rfl,rfl⟩
  ⟨(fun j c hj=>by cases hj),(fun a b ma mb hab ha hb=>by
   have ha1:=(List.getElem?_eq_some_iff.1 ha).1
   have hb1:=(List.getElem?_eq_some_iff.1 hb).1
   have e1:a=0:=by simpa using ha1
   have e2:b=0:=by simpa using hb1
   subst e1;subst e2
   rw [ha] at hb;cases hb;exact SfM.refl _),rfl⟩ hY hr
 rcases R with ⟨s,q1,q2,fx',msF,q3,qx,q4⟩ | ⟨v,s,q1,q2,fx',mF,msF,q3,qx,q4⟩
 ·refine .inl ⟨s,q1,q2,fun E ro n Q hP hW hq=>Zh effs (Q60 ops effs) (hP.symm▸hm) hB1 hB2 (Nat.eq_of_beq_eq_true hB3) ?_⟩
  have key:=q4 E hP hW Q (fun fx ms=>AllEx E ops (st.er D) effs fx ms.reverse (Q60 ops effs)∧∃ mE r,ms=mE::r∧XQ E Q .normal (D7 ops (st.er D) fx mE)) ⟨qx E hP hW,_,_,rfl,KU (q3.end hnd) hq⟩
  rw [e] at key
  exact key
 ·refine .inr ⟨v,s,q1,q2,fun E ro n Q hP hW hq=>Zh effs (Q60 ops effs) (hP.symm▸hm) hB1 hB2 (Nat.eq_of_beq_eq_true hB3) ?_⟩
  have key:=q4 E hP hW Q (fun fx ms=>AllEx E ops (st.er D) effs fx ms.reverse (Q60 ops effs)∧∃ mE r,ms=mE::r∧XQ E Q .normal (D7 ops (st.er D) fx mE)) hq ⟨qx E hP hW,_,_,rfl,fun V a w hr=>(imp_no (D:=D) q3 rfl hr).elim⟩
  rw [e] at key
  exact key
theorem unkT_weak {st0:TSt U} {tm:List (Nat×TV)}:StW ⟨tm,(st0.m.er D).hp,(st0.m.er D).tk,(st0.m.er D).nx,st0.nt,st0.df⟩ ((Q4t st0).er D):=by
 refine ⟨fun t y hy=>.inl ?_,fun i B h=>⟨B,h,fun _ _ _ h=>h⟩,fun i T h=>h,Z,Z,Z⟩
 have hy':Qcq (QP (TTV.er D st0.m.tk) ((st0.tm.map fun p=>(p.1,TTV.unk))++st0.tm)) t=some y:=hy
 rw [QR] at hy'
 have key:∀ (a b:List (Nat×TTV U)),(∀ k z,Qcq b k=some z→∃ z',Qcq a k=some z')→Qcq ((a.map fun p=>(p.1,(TTV.unk:TTV U)))++b) t=none∨Qcq ((a.map fun p=>(p.1,(TTV.unk:TTV U)))++b) t=some .unk:=by
  intro a b hab
  rw [JH]
  cases hq:Qcq (a.map fun p=>(p.1,(TTV.unk:TTV U))) t with
  | some z =>
   have:Qcq (QP (fun _:TTV U=>(TTV.unk:TTV U)) a) t=some z:=hq
   rw [QR] at this
   cases hz:Qcq a t with
   | none=>rw [hz] at this;cases this
   | some u=>rw [hz] at this;cases this;exact .inr rfl
  | none =>
   have h0:Qcq (QP (fun _:TTV U=>(TTV.unk:TTV U)) a) t=none:=hq
   rw [QR] at h0
   cases hb:Qcq b t with
   | none=>exact .inl rfl
   | some z =>
    obtain ⟨z',hz'⟩:=hab t z hb
    rw [hz'] at h0;cases h0
 rcases key st0.tm st0.tm (fun k z h=>⟨z,h⟩) with h | h
 ·rw [h] at hy';cases hy'
 ·rw [h] at hy';cases hy';rfl
theorem dieT_ok {P:Program} (hT:C.T.OK P) (hD:D.OK) {W:Wd} (hK:US W D P K) (hX:X7 W D P X) (hdag:∀ i,i < ops.size→∀ k∈QH ops i,k < i) (hnd:(Jt ops).Nodup) {st0:TSt U} (hY:YOK W D P Y st0.m) {p:Value→TSt U→Option β} :
  ∀ (rest:List Oper) {i:Nat} {fx:List (Nat×TV)} {st:TSt U},(∀ j o,rest[j]?=some o→ops[i+j]?=some o)→i+rest.length=ops.size→DI D ops (st0.er D) fx i st→st.m=st0.m→Q7f D C K X Y ops effs st0 p i rest st=some r →
  ∃ v,p v (Q4t st0)=some r∧∀ E,E.P=P→W.p E.V0.S E.w0→∀ Q F,XQ E Q (.panic (ZP v)) ((Q4t st0).er D)→(∀ fx m ms,F fx ((⟨[(0,.obj (.deferred none))],[],0⟩:Mem)::m::ms))→∀ ms,RunA E ops (st0.er D) effs (DieOp E Q ops (st0.er D)) F (List.range' i rest.length) fx ((st.er D).mem::ms)
 | [],i,fx,st,hl,hs,h,hm,hr=>by cases hr
 | o::os,i,fx,st,hl,hs,h,hm,hr=>by
  have ho:ops[i]?=some o:=hl 0 o rfl
  have hi:i < ops.size:=(Array.getElem?_eq_some_iff.1 ho).1
  have hl':∀ j o',os[j]?=some o'→ops[i+1+j]?=some o':=fun j o' hj=>by
   have:=hl (j+1) o' (by simpa using hj)
   rw [← this];congr 1;omega
  have hs':i+1+os.length=ops.size:=by rw [← hs,List.length_cons];omega
  unfold Q7f at hr
  split at hr
  ·cases hr
  ·rename_i hgd
   have hw:∀ tm:List (Nat×TV),QJ ops tm o=some true:=fun tm=>by unfold QJ;rw [hgd]
   split at hr
   ·cases hc:(effs.contains i&&Y0 st o.dst) with
    | false=>rw [hc] at hr;cases hr
    | true =>
     rw [hc,cond_true] at hr
     obtain ⟨he,hd⟩:=Bool.and_eq_true_iff.1 hc
     split at hr
     ·rename_i v hv
      refine ⟨v,hr,fun E hP hW Q F hq hF ms=>?_⟩
      have hdd:Zc (st0.er D) o.dst=true:=by
       cases hdst:o.dst with
       | none=>rfl
       | some d=>rw [hdst] at hd;show Nat.blt d st0.nt=true;have:=h.nt;rw [show st0.nt=st.nt from this.symm];exact hd
      refine RunA.die ho he hdd (DieOp.mk (m':=(st.er D).mem) (pv:=v) ho (hw _) (fun V a w hr2=>?_) ?_) (RunA.nil (hF _ _ _))
      ·have e2:QF ops (st0.er D) ((i,.unk)::fx) i (st.er D).mem=QF ops (st0.er D) fx i (st.er D).mem:=by
        have e:=ZT (ops:=ops) (fx:=fx) (fx':=(i,TV.unk)::fx) (js:=QH ops i) (fun j hj=>by
         have:=hdag i hi j hj
         rw [Q8,if_neg (by omega)])
        unfold QF
        rw [e]
       rw [e2] at hr2
       exact panV_ok hv V a w (hr2.weak (h.deps hdag hnd hi))
      ·refine KU ?_ hq
       have em:(st.er D).mem=st0.m.er D:=by show TMe.er D st.m=_;rw [hm]
       rw [em]
       exact unkT_weak
     ·cases hr
   ·rename_i h1 t1
    cases he:effs.contains i with
    | true=>rw [he] at hr;cases hr
    | false =>
     rw [he,cond_false] at hr
     have hY':YOK W D P Y st.m:=by rw [hm];exact hY
     obtain ⟨s1,c,q1,q2,qm,y,q3,qg,q4⟩:=(drawOp_ok (st:=st) hT hD hK hX hdag hnd hY' h ho (hw _) hr).resolve_right (fun ⟨v,m,he',_⟩=>by rw [he] at he';cases he')
     have hm1:=qm he
     obtain ⟨v,k1,k2⟩:=dieT_ok hT hD hK hX hdag hnd hY _ hl' hs' q3 (hm1.trans hm) q2
     refine ⟨v,k1,fun E hP hW Q F hq hF ms=>?_⟩
     have key:=q4 E hP hW ms (List.range' (i+1) (h1::t1).length) (DieOp E Q ops (st0.er D)) F
     rw [he,cond_false] at key
     exact key (k2 E hP hW Q F hq hF ms)
theorem die_ok {id:Nat} {st:TSt U} {p:Value→TSt U→Option β} {P:Program} (hm:P.follows .mixedOrders=true) (hT:C.T.OK P) (hD:D.OK) {W:Wd} (hK:US W D P K) (hX:X7 W D P X) (hY:YOK W D P Y st.m) (hB:Q4j ops effs=true) (hx:(Q60 ops effs).isEmpty=true) (hr:Q7f D C K X Y ops effs st p 0 ops.toList st=some r) :
  ∃ v,p v (Q4t st)=some r∧∀ E ro n Q,E.P=P→W.p E.V0.S E.w0→XQ E Q (.panic (ZP v)) ((Q4t st).er D)→XC E ro n Q (.region id ops true) (st.er D):=by
 obtain ⟨hB12,hB3⟩:=Bool.and_eq_true_iff.1 hB
 obtain ⟨hB1,hB2⟩:=Bool.and_eq_true_iff.1 hB12
 have hB':=hB1
 simp only [Q0u,Bool.and_eq_true,decide_eq_true_eq] at hB'
 obtain ⟨⟨⟨⟨hdag,hnd⟩,-⟩,-⟩,-⟩:=hB'
 have hdag':∀ i,i < ops.size→∀ k∈QH ops i,k < i:=fun i hi k hk=>by
  have:=List.all_eq_true.1 (List.all_eq_true.1 hdag i (by simpa using hi)) k hk
  simpa using this
 obtain ⟨v,q1,q2⟩:=dieT_ok (effs:=effs) (fx:=[]) hT hD hK hX hdag' hnd hY ops.toList (i:=0) (st:=st)
  (fun j o hj=>by rw [Nat.zero_add];simpa using hj) (by rw [Nat.zero_add];simp) ⟨fun j hj=>by omega,fun j hj=>rfl,fun t x hx=>.inr ⟨fun j hj=>by omega,x.er D st.m.tk,by show Qcq (QP _ st.tm) t=_;rw [QR,hx];rfl,fun _ _ _ h=>h,fun _=>rfl⟩,rfl,rfl⟩ rfl hr
 have hex:Q60 ops effs=[]:=List.isEmpty_iff.1 hx
 refine ⟨v,q1,fun E ro n Q hP hW hq=>Zh effs (Q60 ops effs) (hP.symm▸hm) hB1 hB2 (Nat.eq_of_beq_eq_true hB3) ?_⟩
 have key:=q2 E hP hW Q (fun fx ms=>AllEx E ops (st.er D) effs fx ms.reverse (Q60 ops effs)∧∃ mE r,ms=mE::r∧XQ E Q .normal (D7 ops (st.er D) fx mE)) hq (fun fx m ms=>⟨by rw [hex];trivial,_,_,rfl,XQ.bad⟩) []
 have e:ops.toList.length=ops.size:=by simp
 rw [e] at key
 exact key
end
end
end
section
open Go.RowKit
section
variable {U:Univ}
variable (U) in
structure LpT where
 s:LoopState
 p:Option Code
 tm:List (Nat×TTV U)
 nt:Nat
 ps:Array Nat
 a:Code
 b:Code
 d:Nat
def LpT.er (D:Codec U) (tk:List (Nat×TTok U)) (L:LpT U):HB:=.loop L.s L.p (QP (TTV.er D tk) L.tm) L.nt L.ps L.a L.b L.d
def Ww:List (Ev U)→Nat→Option (LpT U)
 | [],_=>none
 | .lp j s p tm nt ps a b d::es,i=>cond (Nat.beq j i) (some ⟨s,p,tm,nt,ps,a,b,d⟩) (Ww es i)
 | .ls j xs::es,i=>match Ww es i with
  | some L=>some (cond (Nat.beq j i) ⟨L.s,L.p,xs++L.tm,L.nt,L.ps,L.a,L.b,L.d⟩ L)
  | none=>none
 | .box j _ _::es,i=>cond (Nat.beq j i) none (Ww es i)
 | .raw j _::es,i=>cond (Nat.beq j i) none (Ww es i)
 | .set _ _ _::es,i=>Ww es i
theorem mapV_append {α β:Type} (f:α→β) (xs ys:List (Nat×α)):QP f (xs++ys)=QP f xs++QP f ys:=List.map_append
theorem K9 {D:Codec U} {tk:List (Nat×TTok U)}:∀ {es:List (Ev U)} {i:Nat} {L:LpT U},Ww es i=some L→Qcq (Qr D tk es) i=some (L.er D tk)
 | [],i,L,h=>by cases h
 | .lp j s p tm nt ps a b d::es,i,L,h=>by
  unfold Ww at h
  unfold Qr
  rw [Q8]
  cases hb:Nat.beq j i with
  | true=>rw [hb] at h;cases h;rw [if_pos (Nat.eq_of_beq_eq_true hb)];rfl
  | false=>rw [hb] at h;rw [if_neg (K5 hb)];exact K9 h
 | .ls j xs::es,i,L,h=>by
  unfold Ww at h
  split at h
  ·rename_i L0 h0
   have ih:=K9 (D:=D) (tk:=tk) h0
   unfold Qr
   cases hb:Nat.beq j i with
   | true =>
    rw [hb] at h;cases h
    have e:=Nat.eq_of_beq_eq_true hb
    subst e
    rw [ih]
    show Qcq ((j,HB.loop L0.s L0.p (QP (TTV.er D tk) xs++QP (TTV.er D tk) L0.tm) L0.nt L0.ps L0.a L0.b L0.d)::Qr D tk es) j=_
    rw [Q8,if_pos rfl,← mapV_append];rfl
   | false =>
    rw [hb] at h;cases h
    split
    ·rw [Q8,if_neg (K5 hb)];exact ih
    ·exact ih
  ·cases h
 | .box j T xs::es,i,L,h=>by
  unfold Ww at h
  unfold Qr
  rw [Q8]
  cases hb:Nat.beq j i with
  | true=>rw [hb] at h;cases h
  | false=>rw [hb] at h;rw [if_neg (K5 hb)];exact K9 h
 | .raw j B::es,i,L,h=>by
  unfold Ww at h
  unfold Qr
  rw [Q8]
  cases hb:Nat.beq j i with
  | true=>rw [hb] at h;cases h
  | false=>rw [hb] at h;rw [if_neg (K5 hb)];exact K9 h
 | .set j off xs::es,i,L,h=>by
  unfold Ww at h
  have ih:=K9 (D:=D) (tk:=tk) h
  unfold Qr
  split
  ·rename_i T ys hy
   rw [Q8]
   by_cases e:j=i
   ·subst e
    rw [hy] at ih;cases ih
   ·rw [if_neg e];exact ih
  ·exact ih
end
end
section
open Go.RowKit
section
variable {U:Univ} (D:Codec U)
def Q3g (st:TSt U) (l:Loc) (i:Nat) (e:TypeId) (t:U.T):TSt U:=match l with
 | .reg r=>⟨(r,.v (.one (.app i 0)))::st.tm,⟨st.m.es,(i,⟨e,t,[],0⟩)::st.m.tk,i+1⟩,st.nt,st.df⟩
 | .cell j off=>⟨st.tm,⟨.set j off [.one (.app i 0)]::st.m.es,(i,⟨e,t,[],0⟩)::st.m.tk,i+1⟩,st.nt,st.df⟩
def Q30:Option (TAV U)→Bool
 | some (.one (.c (.v (.slice none 0 0))))=>true
 | _=>false
variable (U) in
inductive HK where
 | int (k:IntKind)
 | bool
 | str
 | sl (t:U.T)
 | app (e:TypeId) (t:U.T)
 | stc (t:U.T)
 | ptr (r off:Nat)
 | any
inductive HL where
 | reg (r:Nat)
 | at (r off:Nat)
 | fat (rL r off:Nat)
variable (U) in
structure HLab where
 sl:List (List HL×HK U)
 dead:List Nat
def locOf (st:TSt U):HL→Option Loc
 | .reg r=>some (.reg r)
 | .at r off=>match Qcq st.tm r with
  | some (.v (.one (.ptr i o)))=>some (.cell i (o+off))
  | _=>none
 | .fat rL r off=>match Qcq st.tm rL with
  | some (.v (.one (.raw (.yld L))))=>match Ww st.m.es L with
   | some F=>match Qcq F.tm r with
    | some (.v (.one (.ptr i o)))=>some (.cell i (o+off))
    | _=>none
   | none=>none
  | _=>none
def Q5p (st:TSt U):List HL→Option (List Loc)
 | []=>some []
 | l::ls=>match locOf st l with
  | some x=>match Q5p st ls with
   | some xs=>some (x::xs)
   | none=>none
  | none=>none
def Q2u (st:TSt U) (ls:List Loc):HK U→Option (AK U×TSt U)
 | .int k=>some (.int k,st)
 | .bool=>some (.bool,st)
 | .str=>some (.str,st)
 | .sl t=>some (.sl t,st)
 | .stc t=>some (.stc t,st)
 | .ptr r off=>match Qcq st.tm r with
  | some (.v (.one (.ptr i o)))=>some (.ptr i (o+off),st)
  | _=>none
 | .any=>some (.any,st)
 | .app e t=>match ls with
  | []=>none
  | l::_=>cond (Q30 (X1 D st l 1)) (cond (Q42 st.m.nx 0 st.tm st.m.es) (some (.app st.m.nx e t,Q3g st l st.m.nx e t)) none) (match X1 D st l 1 with
   | some (.one (.app j _))=>some (.app j e t,st)
   | _=>none)
def WY:List (List HL×HK U)→TSt U→Option (List (List Loc×AK U)×TSt U)
  | [],st=>some ([],st)
  | (hl,k)::r,st=>match Q5p st hl with
    | none=>none
    | some ls=>match Q2u D st ls k with
      | none=>none
      | some (k',s1)=>match WY r s1 with
        | none=>none
        | some (sl,s)=>some ((ls,k')::sl,s)
def Wg (h:HLab U) (st:TSt U):Option (Lab U×TSt U):=match WY D h.sl st with
 | some (sl,s)=>cond (Q7o ⟨sl,h.dead⟩ s) (some (⟨sl,h.dead⟩,s)) none
 | none=>none
def kindOut (st:TSt U) (ls:List Loc):HK U→Option (AK U)
 | .int k=>some (.int k)
 | .bool=>some .bool
 | .str=>some .str
 | .sl t=>some (.sl t)
 | .stc t=>some (.stc t)
 | .ptr r off=>match Qcq st.tm r with
  | some (.v (.one (.ptr i o)))=>some (.ptr i (o+off))
  | _=>none
 | .any=>some .any
 | .app e t=>match ls with
  | []=>none
  | l::_=>match X1 D st l 1 with
   | some (.one (.app j _))=>some (.app j e t)
   | _=>none
def resOut (st:TSt U):List (List HL×HK U)→Option (List (List Loc×AK U))
  | []=>some []
  | (hl,k)::r=>match Q5p st hl with
    | none=>none
    | some ls=>match kindOut D st ls k with
      | none=>none
      | some k'=>match resOut st r with
        | none=>none
        | some sl=>some ((ls,k')::sl)
def UB (h:HLab U) (st:TSt U):Option (Lab U):=match resOut D st h.sl with
 | some sl=>cond (Q7o ⟨sl,h.dead⟩ st) (some ⟨sl,h.dead⟩) none
 | none=>none
variable {D}
theorem isNilA_ok {x:Option (TAV U)} (h:Q30 x=true):x=some (.one (.c (.v (.slice none 0 0)))):=by
 unfold Q30 at h
 split at h
 ·rfl
 ·cases h
theorem To.refl (E:Env) (x:St):To E x x:=fun V a w hr=>⟨V,hr⟩
theorem To.trans {E:Env} {x y z:St} (h:To E x y) (k:To E y z):To E x z:=fun V a w hr=>let ⟨V',h'⟩:=h V a w hr;k V' a w h'
theorem To.weak {E:Env} {x y:St} (h:StW x y):To E x y:=fun V a w hr=>⟨V,hr.weak h⟩
theorem Q8y {E:Env} {x y:St} (h:XQ E (fun _ a w=>∃ V,Rel E V y a w) .normal x):To E x y:=h
theorem adoptAt_ok (hD:D.OK) {E:Env} {st:TSt U} {l:Loc} {i:Nat} {e:TypeId} {t:U.T} (h:X1 D st l 1=some (.one (.c (.v (.slice none 0 0))))) (hn:st.m.nx≤i) (ha:Q42 i 0 st.tm st.m.es=true):To E (st.er D) ((Q3g st l i e t).er D):=by
 have hs:To E (st.er D) ⟨(st.er D).tm,(st.er D).hp,(st.er D).tk,i,st.nt,st.df⟩:=Q8y (XQ.skipTo i hn (fun V a w hr=>⟨V,hr⟩))
 refine hs.trans ?_
 have e0:(U.E t).encL []=[]:=(U.E t).nil
 have eapp:(TA.app i 0:TA U).er ((i,(⟨e,t,[],0⟩:TTok U))::st.m.tk)=.app i (U.E t).sz []:=by
  show (match cur ((i,(⟨e,t,[],0⟩:TTok U))::st.m.tk) i 0 with
   | some T=>CA.app i (U.E T.t).sz ((U.E T.t).encL T.l)
   | none=>CA.any)=_
  rw [Zy,if_pos rfl,if_pos rfl]
  show CA.app i (U.E t).sz ((U.E t).encL [])=_
  rw [e0]
 have etok:∀ j x,Qcq (X5 ((i,(⟨e,t,[],0⟩:TTok U))::st.m.tk)) j=some (some x)→Qcq ((i,some ⟨e,(U.E t).sz,0,[]⟩)::X5 st.m.tk) j=some (some x):=fun j x h =>
  G9 (T0:=(⟨e,t,[],0⟩:TTok U)) (by
   unfold TTok.er
   dsimp only
   rw [e0];rfl) (fun _=>rfl) h
 have htm:∀ r y,Qcq (QP (TTV.er D ((i,(⟨e,t,[],0⟩:TTok U))::st.m.tk)) st.tm) r=some y→y=.unk∨∃ x,Qcq (st.er D).tm r=some x∧∀ V w v,x.rel V w v→y.rel V w v:=by
  intro r y hy
  rw [QR] at hy
  cases hz:Qcq st.tm r with
  | none=>rw [hz] at hy;cases hy
  | some z =>
   rw [hz] at hy;cases hy
   refine .inr ⟨z.er D st.m.tk,by show Qcq (QP _ st.tm) r=_;rw [QR,hz];rfl,fun V w v hv=>?_⟩
   exact ZM (WL fun hp=>by
    have h1:=(Bool.and_eq_true_iff.1 ha).1
    have h2:st.tm.any (fun p=>p.2.hasApp i 0)=true:=List.any_eq_true.2 ⟨_,Y3 hz,hp⟩
    rw [h2] at h1;cases h1) hv
 have hes:∀ j,OW (Qcq (Qr D st.m.tk st.m.es) j) (Qcq (Qr D ((i,(⟨e,t,[],0⟩:TTok U))::st.m.tk) st.m.es) j):=YR (WL fun hp=>by
  have h1:=(Bool.and_eq_true_iff.1 ha).2
  rw [hp] at h1;cases h1)
 cases l with
 | reg r =>
  have hr:Qcq (st.er D).tm r=some (KV (.slice none 0 0)):=by
   show Qcq (QP (TTV.er D st.m.tk) st.tm) r=_
   rw [QR,rdLoc_reg h];rfl
  refine (Q8y (XQ.adoptT (st:=⟨(st.er D).tm,(st.er D).hp,(st.er D).tk,i,st.nt,st.df⟩) e (U.E t).sz hr (fun V a w hr=>⟨V,hr⟩))).trans (To.weak ⟨fun q y hy=>?_,fun j B hB=>?_,fun j T hT=>?_,Z,Z,Z⟩)
  ·have hy':Qcq ((r,TV.v (.one ((TA.app i 0:TA U).er ((i,(⟨e,t,[],0⟩:TTok U))::st.m.tk))))::QP (TTV.er D ((i,(⟨e,t,[],0⟩:TTok U))::st.m.tk)) st.tm) q=some y:=hy
   rw [eapp] at hy'
   show y=.unk∨∃ x,Qcq ((r,TV.v (.one (.app i (U.E t).sz [])))::(st.er D).tm) q=some x∧_
   rw [Q8] at hy' ⊢
   by_cases c:r=q
   ·rw [if_pos c] at hy' ⊢;cases hy';exact .inr ⟨_,rfl,fun _ _ _ h=>h⟩
   ·rw [if_neg c] at hy' ⊢;exact htm q y hy'
  ·have hB':Qcq (Qr D ((i,(⟨e,t,[],0⟩:TTok U))::st.m.tk) st.m.es) j=some B:=hB
   have h3:=hes j
   rw [hB'] at h3
   show ∃ A,Qcq (Qr D st.m.tk st.m.es) j=some A∧_
   cases hA:Qcq (Qr D st.m.tk st.m.es) j with
   | none=>rw [hA] at h3;exact h3.elim
   | some A=>rw [hA] at h3;exact ⟨A,rfl,fun V w o h=>BW.rel h3 h⟩
  ·have hT':Qcq (X5 ((i,(⟨e,t,[],0⟩:TTok U))::st.m.tk)) j=some (some T):=hT
   exact etok _ _ hT'
 | cell j0 off =>
  obtain ⟨T0,ys,r1,r2,r3⟩:=Yr hD (tk:=st.m.tk) (rdLoc_cell h)
  have hy0:ys[off]?=some (.d (.v (.slice none 0 0))):=WU r3
  refine (Q8y (XQ.adoptC (st:=⟨(st.er D).tm,(st.er D).hp,(st.er D).tk,i,st.nt,st.df⟩) e (U.E t).sz r1 hy0 (fun V a w hr=>⟨V,hr⟩))).trans (To.weak ⟨htm,fun j B hB=>?_,fun j T hT=>?_,Z,Z,Z⟩)
  ·have hB':Qcq (match Qcq (Qr D ((i,(⟨e,t,[],0⟩:TTok U))::st.m.tk) st.m.es) j0 with
    | some (.cells T zs)=>(j0,.cells T (setL zs off [(TA.app i 0:TA U).er ((i,(⟨e,t,[],0⟩:TTok U))::st.m.tk)]))::Qr D ((i,(⟨e,t,[],0⟩:TTok U))::st.m.tk) st.m.es
    | _=>Qr D ((i,(⟨e,t,[],0⟩:TTok U))::st.m.tk) st.m.es) j=some B:=hB
   rw [eapp] at hB'
   show ∃ A,Qcq ((j0,HB.cells T0 (ys.set off (.app i (U.E t).sz [])))::Qr D st.m.tk st.m.es) j=some A∧_
   have h0:=hes j0
   rw [r1] at h0
   have h3:=hes j
   rw [Q8]
   cases hX:Qcq (Qr D ((i,(⟨e,t,[],0⟩:TTok U))::st.m.tk) st.m.es) j0 with
   | none=>rw [hX] at h0;exact h0.elim
   | some X =>
    rw [hX] at h0 hB'
    obtain ⟨zs,rfl,hl⟩:∃ zs,X=.cells T0 zs∧LW ys zs:=by
     have h0':BW (.cells T0 ys) X:=h0
     cases h0' with
     | refl=>exact ⟨ys,rfl,LW.refl _⟩
     | cells hl=>exact ⟨_,rfl,hl⟩
    dsimp only at hB'
    rw [Q8] at hB'
    by_cases c:j0=j
    ·rw [if_pos c] at hB' ⊢
     cases hB'
     refine ⟨_,Z,fun V w o hr=>BW.rel (.cells ?_) hr⟩
     exact LW.set hl (LW.refl [CA.app i (U.E t).sz []]) off
    ·rw [if_neg c] at hB' ⊢
     rw [hB'] at h3
     cases hA:Qcq (Qr D st.m.tk st.m.es) j with
     | none=>rw [hA] at h3;exact h3.elim
     | some A=>rw [hA] at h3;exact ⟨A,rfl,fun V w o h=>BW.rel h3 h⟩
  ·have hT':Qcq (X5 ((i,(⟨e,t,[],0⟩:TTok U))::st.m.tk)) j=some (some T):=hT
   exact etok _ _ hT'
theorem adoptAt_sfx {st:TSt U} {l:Loc} {i:Nat} {e:TypeId} {t:U.T} (hn:st.m.nx≤i):Sfx st (Q3g st l i e t):=by
 cases l with
 | reg r=>exact ⟨⟨[_],rfl⟩,⟨[],rfl⟩,⟨[_],rfl⟩,Nat.le_succ_of_le hn,rfl,.inr rfl⟩
 | cell j off=>exact ⟨⟨[],rfl⟩,⟨[_],rfl⟩,⟨[_],rfl⟩,Nat.le_succ_of_le hn,rfl,.inr rfl⟩
theorem kindAt_ok (hD:D.OK) {E:Env} {st s:TSt U} {ls:List Loc} {k:HK U} {k':AK U} (h:Q2u D st ls k=some (k',s)):To E (st.er D) (s.er D)∧Sfx st s:=by
 cases k with
 | app e t =>
  cases ls with
  | nil=>cases h
  | cons l ls =>
   unfold Q2u at h
   dsimp only at h
   cases hn:Q30 (X1 D st l 1) with
   | true =>
    rw [hn,cond_true] at h
    cases hc:Q42 st.m.nx 0 st.tm st.m.es with
    | false=>rw [hc] at h;cases h
    | true =>
     rw [hc] at h;cases h
     exact ⟨adoptAt_ok hD (isNilA_ok hn) (Nat.le_refl _) hc,adoptAt_sfx (Nat.le_refl _)⟩
   | false =>
    rw [hn,cond_false] at h
    split at h
    ·cases h;exact ⟨To.refl _ _,Sfx.refl _⟩
    ·cases h
 | int k=>cases h;exact ⟨To.refl _ _,Sfx.refl _⟩
 | bool=>cases h;exact ⟨To.refl _ _,Sfx.refl _⟩
 | str=>cases h;exact ⟨To.refl _ _,Sfx.refl _⟩
 | sl t=>cases h;exact ⟨To.refl _ _,Sfx.refl _⟩
 | stc t=>cases h;exact ⟨To.refl _ _,Sfx.refl _⟩
 | any=>cases h;exact ⟨To.refl _ _,Sfx.refl _⟩
 | ptr r off =>
  unfold Q2u at h
  dsimp only at h
  split at h
  ·cases h;exact ⟨To.refl _ _,Sfx.refl _⟩
  ·cases h
theorem resolve_ok (hD:D.OK) {E:Env}:∀ {hl:List (List HL×HK U)} {st s:TSt U} {sl:List (List Loc×AK U)},WY D hl st=some (sl,s)→To E (st.er D) (s.er D)∧Sfx st s
  | [],st,s,sl,h=>by cases h;exact ⟨To.refl _ _,Sfx.refl _⟩
  | (ls,k)::r,st,s,sl,h=>by
    unfold WY at h
    split at h
    · cases h
    · split at h
      · cases h
      · rename_i k' s1 h1
        split at h
        · cases h
        · rename_i sl' s' h2;cases h
          obtain ⟨a1,a2⟩:=kindAt_ok (E:=E) hD h1
          obtain ⟨b1,b2⟩:=resolve_ok (E:=E) hD h2
          exact ⟨a1.trans b1,a2.trans b2⟩
theorem Ym (hD:D.OK) {E:Env} {h:HLab U} {L:Lab U} {st s:TSt U} (hi:Wg D h st=some (L,s)):To E (st.er D) (s.er D)∧Sfx st s∧Q7o L s=true:=by
 unfold Wg at hi
 split at hi
 ·rename_i sl s1 h1
  cases hw:Q7o ⟨sl,h.dead⟩ s1 with
  | false=>rw [hw] at hi;cases hi
  | true =>
   rw [hw] at hi;cases hi
   obtain ⟨a1,a2⟩:=resolve_ok (E:=E) hD h1
   exact ⟨a1,a2,hw⟩
 ·cases hi
theorem UA {h:HLab U} {L:Lab U} {st:TSt U} (hi:UB D h st=some L):Q7o L st=true:=by
 unfold UB at hi
 split at hi
 ·rename_i sl h1
  cases hw:Q7o ⟨sl,h.dead⟩ st with
  | false=>rw [hw] at hi;cases hi
  | true=>rw [hw] at hi;cases hi;exact hw
 ·cases hi
variable (U) in
inductive Tc where
 | skip
 | reg (id:Nat) (ops:Array Oper)
 | draw (id:Nat) (effs:List Nat) (ops:Array Oper)
 | seq (a b:Tc)
 | cond (c:Operand) (a b:Tc)
 | block (id:Nat) (b:Tc)
 | bloop (id:Nat) (h ho:HLab U) (b:Tc)
 | bloopE (id:Nat) (h ho:HLab U) (b:Tc)
 | join (h:HLab U) (b:Tc)
 | joinE (h:HLab U) (b:Tc)
 | exit (id:Nat)
 | scope (b:Tc)
 | range (g:Operand) (ps:Array Nat) (a b:Tc)
 | ret
def Tc.code:Tc U→Code
 | .skip=>.skip
 | .reg id ops=>.region id ops false
 | .draw id _ ops=>.region id ops true
 | .seq a b=>.seq a.code b.code
 | .cond c a b=>.cond c a.code b.code
 | .block id b=>.block id b.code
 | .bloop id _ _ b=>.block id (.loop b.code)
 | .bloopE id _ _ b=>.block id (.loop b.code)
 | .join _ b=>b.code
 | .joinE _ b=>b.code
 | .exit id=>.exit id
 | .scope b=>.scope b.code
 | .range g ps a b=>.rangeFunc g ps a.code b.code
 | .ret=>.ret
variable (D) (C:TCfg U) (K:FuncId→List (TAV U)→Option (KR U)) (X:Qd7 U)
def UX {α:Type} (h:Lab U) (st s:TSt U) (f:tup (h.sl.map (·.2))→α):Option α:=match Gc D h st s with
 | some t=>some (f t)
 | none=>none
def Ko:List Nat→List (TAV U)→List (Nat×TTV U)→List (Nat×TTV U)
 | t::ts,x::xs,tm=>Ko ts xs ((t,.v x)::tm)
 | _,_,tm=>tm
abbrev Q4o (U:Univ):=List (Ev U)×List (Nat×TTok U)×Nat
def Q34 (m:TMe U) (s:TSt U):Option (Q4o U):=cond (Q16 s.df []) (some (s.m.es.take (s.m.es.length - m.es.length),s.m.tk.take (s.m.tk.length - m.tk.length),s.m.nx - m.nx)) none
def Us (m:TMe U) (a:Q4o U):TMe U:=⟨a.1++m.es,a.2.1++m.tk,m.nx+a.2.2⟩
def LpT.ev (L:Nat) (F:LpT U) (s:LoopState) (p:Option Code):Ev U:=.lp L s p F.tm F.nt F.ps F.a F.b F.d
def K1 (L:Nat):Ev U→Bool
 | .box i _ _=>!(Nat.beq i L)
 | .raw i _=>!(Nat.beq i L)
 | .lp i _ _ _ _ _ _ _ _=>!(Nat.beq i L)
 | .ls i _=>!(Nat.beq i L)
 | .set i _ _=>!(Nat.beq i L)
def Q15 (L:Nat):Ev U→Bool
 | .lp i _ _ _ _ _ _ _ _=>Nat.beq i L
 | _=>false
def doneR (L:Nat) (F:LpT U) (m:TMe U) (j:Option Code) (a:Q4o U):Option (TMe U):=cond (a.1.all (K1 L)) (match j with
 | none=>some (Us m a)
 | some c=>some ⟨F.ev L .done (some c)::(Us m a).es,(Us m a).tk,(Us m a).nx⟩) none
def Gy {β:Type} (L:Nat) (F:LpT U) (m:TMe U) (k:TTV U→TMe U→Option β) (j:Option Code) (a:Q4o U):Option β:=match doneR L F m j a with
 | some m'=>k (Qcf j.isNone) m'
 | none=>none
def Qbx (st:TSt U):Option Nat→Option (Nat×Nat×List (Ev U)×Nat)
 | none=>some (st.m.nx+1,st.m.nx,[.raw st.m.nx (.obj (.deferred (some [])))],st.m.nx+2)
 | some L0=>match Ww st.m.es L0 with
  | some F0=>some (st.m.nx,F0.d,[],st.m.nx+1)
  | none=>none
def Do (st:TSt U) (L:Nat) (F:LpT U) (xs:List (Ev U)) (nx:Nat):TMe U:=⟨F.ev L .ready none::(xs++st.m.es),st.m.tk,nx⟩
def Q98 (L:Nat) (m1 m2:TMe U):List (Ev U):=(Q13 m1.es m2.es).filter fun e=>!(Q15 L e)
def Q9s (st:TSt U) (L:Nat) (m1 m2:TMe U):TSt U:=⟨st.tm,⟨Q98 L m1 m2++st.m.es,m2.tk,m2.nx⟩,st.nt,st.df⟩
def Q7y (rn:Option Nat) (st:TSt U) (L:Nat) (m1 m2:TMe U):Bool:=Z5 (XG m2.tk st.m.tk) st.tm&&((Q98 L m1 m2).all (K1 L)&&(st.m.es.all (K1 L)&&(match rn with
 | none=>(Q98 L m1 m2).all (K1 st.m.nx)&&st.m.es.all (K1 st.m.nx)
 | some _=>true)))
def Qb5 (m2:TMe U) (L:Nat):Option Exit:=match Ww m2.es L with
 | some F=>match F.s,F.p with
  | .ready,none=>some .normal
  | .done,some .ret=>some .ret
  | .done,some (.exit id)=>some (.exit id)
  | _,_=>none
 | none=>none
def JY:Tc U→(Y:Qd6 U)→(rn:Option Nat)→{R:Type}→(ret:TSt U→Option R)→(pan:Value→TSt U→Option R)→{β:Type}→TSt U→(R→Option β)→(Exit→TSt U→Option β)→Option β
 | .skip,_,_,_,_,_,_,st,_,k=>k .normal st
 | .reg _ ops,Y,rn,_,_,pan,_,st,p,k=>De D C K X Y rn ops (fun v s=>Option.bind (pan v s) p) ops.toList st (k .normal)
 | .draw _ effs ops,Y,_,_,_,pan,_,st,p,k=>_root_.cond (Q4j ops effs) (_root_.cond (Uz ops) (_root_.cond (Q60 ops effs).isEmpty (Q7f D C K X Y ops effs st (fun v s=>Option.bind (pan v s) p) 0 ops.toList st) none) (K3 D C K X Y ops effs (fun v s=>Option.bind (pan v s) p) 0 ops.toList st [] [] (k .normal))) none
 | .seq a b,Y,rn,_,ret,pan,_,st,p,k=>JY a Y rn ret pan st p fun e s=>match e with
  | .normal=>JY b Y rn ret pan s p k
  | e=>k e s
 | .cond c a b,Y,rn,_,ret,pan,_,st,p,k=>match YG st.tm c with
  | some (.v (.one (.c (.v (.bool v)))))=>cond v (JY a Y rn ret pan st p k) (JY b Y rn ret pan st p k)
  | _=>none
 | .block id b,Y,rn,_,ret,pan,_,st,p,k=>JY b Y rn ret pan st p fun e s=>match e with
  | .exit j=>cond (Nat.beq j id) (k .normal s) (k (.exit j) s)
  | e=>k e s
 | .bloop id h ho b,Y,rn,R,_,_,_,st,_,k=>match Wg D h st with
  | none=>none
  | some (L,s0)=>match Gc D L s0 s0,UB D ho s0 with
   | some t0,some Lo=>Option.bind (Qj (fun t=>JY b Y rn (R:=R) (fun _=>none) (fun _ _=>none) (lab L s0 t) (fun _=>none) fun e s=>match e with
     | .normal=>UX D L s0 s .next
     | .exit j=>cond (Nat.beq j id) (UX D Lo s0 s .done) none
     | _=>none) Qk t0) fun o=>k .normal (lab Lo s0 o)
   | _,_=>none
 | .bloopE id h ho b,Y,rn,R,ret,pan,_,st,p,k=>match Wg D h st with
  | none=>none
  | some (L,s0)=>match Gc D L s0 s0,UB D ho s0 with
   | some t0,some Lo=>Option.bind (Qj (β:=tup (Lo.sl.map (·.2))⊕R) (fun t=>JY b Y rn ret pan (lab L s0 t) (fun o=>some (.done (.inr o))) fun e s=>match e with
     | .normal=>UX D L s0 s .next
     | .exit j=>cond (Nat.beq j id) (UX D Lo s0 s fun o=>.done (.inl o)) none
     | _=>none) Qk t0) (Sum.elim (fun o=>k .normal (lab Lo s0 o)) p)
   | _,_=>none
 | .join h b,Y,rn,R,_,_,_,st,_,k=>match Wg D h st with
  | none=>none
  | some (L,s0)=>Option.bind (JY b Y rn (R:=R) (fun _=>none) (fun _ _=>none) s0 (fun _=>none) fun e s=>match e with
   | .normal=>UX D L s0 s id
   | _=>none) fun t=>k .normal (lab L s0 t)
 | .joinE h b,Y,rn,R,ret,pan,_,st,p,k=>match Wg D h st with
  | none=>none
  | some (L,s0)=>Option.bind (JY b Y rn ret pan (β:=tup (L.sl.map (·.2))⊕R) s0 (fun o=>some (.inr o)) fun e s=>match e with
   | .normal=>UX D L s0 s .inl
   | _=>none) (Sum.elim (fun t=>k .normal (lab L s0 t)) p)
 | .exit id,_,_,_,_,_,_,st,_,k=>k (.exit id) st
 | .scope b,Y,rn,_,ret,pan,_,st,p,k=>JY b Y rn ret pan st p fun e s=>match e with
  | .goto _=>none
  | e=>k e s
 | .range g ps a b,Y,rn,_,ret,pan,_,st,p,k=>match YG st.tm g,Qbx st rn with
  | some (.v (.one (.fn gf caps))),some (L,d,xs,nx)=>match X (fun L' args m=>cond (Nat.beq L' L)
    (cond ((Q13 (Do st L ⟨.ready,none,st.tm,st.nt,ps,a.code,b.code,d⟩ xs nx).es m.es).all (K1 L)&&(Nat.beq args.length ps.size&&ps.toList.all fun t=>Nat.blt t st.nt))
     (some ⟨fun k _=>JY a Y (some L) (R:=Q4o U) (fun _=>none) (fun _ _=>none) ⟨Ko ps.toList args st.tm,m,st.nt,[]⟩ (fun _=>none) fun e s=>match e with
      | .normal=>cond ((Q13 m.es s.m.es).all (K1 L)&&Q16 s.df []) (JY b Y (some L) (Q34 ⟨.lp L .busy none st.tm st.nt ps a.code b.code d::s.m.es,s.m.tk,s.m.nx⟩) (fun _ _=>none) ⟨s.tm,⟨.lp L .busy none st.tm st.nt ps a.code b.code d::s.m.es,s.m.tk,s.m.nx⟩,s.nt,s.df⟩ (Gy L ⟨.ready,none,st.tm,st.nt,ps,a.code,b.code,d⟩ s.m k (some .ret)) fun e s2=>match e with
        | .normal=>Option.bind (Q34 ⟨.lp L .busy none st.tm st.nt ps a.code b.code d::s.m.es,s.m.tk,s.m.nx⟩ s2) (Gy L ⟨.ready,none,st.tm,st.nt,ps,a.code,b.code,d⟩ s.m k none)
        | .exit id=>Option.bind (Q34 ⟨.lp L .busy none st.tm st.nt ps a.code b.code d::s.m.es,s.m.tk,s.m.nx⟩ s2) (Gy L ⟨.ready,none,st.tm,st.nt,ps,a.code,b.code,d⟩ s.m k (some (.exit id)))
        | _=>none) none
      | _=>none⟩) none) (Y L' args m)) (.fn gf) (.one (.raw (.yld L))::Q1m caps) (Do st L ⟨.ready,none,st.tm,st.nt,ps,a.code,b.code,d⟩ xs nx) with
   | some xo=>xo.run (fun _ m2=>cond (Q7y rn st L (Do st L ⟨.ready,none,st.tm,st.nt,ps,a.code,b.code,d⟩ xs nx) m2) (match Qb5 m2 L with
    | some .ret=>Option.bind (ret (Q9s st L (Do st L ⟨.ready,none,st.tm,st.nt,ps,a.code,b.code,d⟩ xs nx) m2)) p
    | some e=>k e (Q9s st L (Do st L ⟨.ready,none,st.tm,st.nt,ps,a.code,b.code,d⟩ xs nx) m2)
    | none=>none) none) fun v m2=>cond (Q7y rn st L (Do st L ⟨.ready,none,st.tm,st.nt,ps,a.code,b.code,d⟩ xs nx) m2) (Option.bind (pan v (Q9s st L (Do st L ⟨.ready,none,st.tm,st.nt,ps,a.code,b.code,d⟩ xs nx) m2)) p) none
   | none=>none
  | _,_=>none
 | .ret,_,_,_,ret,_,_,st,p,_=>Option.bind (ret st) p
end
section
variable {U:Univ} {D:Codec U} {C:TCfg U} {K:FuncId→List (TAV U)→Option (KR U)} {X:Qd7 U}
variable {E:Env} {ro:Option Nat} {n:Nat} {Q:Exit→Act→World→Prop}
theorem ZO {c:Code} {x y:St} (h:To E x y) (k:XC E ro n Q c y):XC E ro n Q c x:=fun V a w hr=>let ⟨V',hr'⟩:=h V a w hr;k V' a w hr'
theorem W8 {e:Exit} {x y:St} (h:To E x y) (k:XQ E Q e y):XQ E Q e x:=fun V a w hr=>let ⟨V',hr'⟩:=h V a w hr;k V' a w hr'
theorem XC.loopT {σ β:Type} {st:St} {c:Code} (step:σ→Option (LO σ β)) (inv:σ→St) (s0:σ) (b:β) (h0:To E st (inv s0)) (hok:Qj step Qk s0=some b)
  (round:∀ (s:σ) (m:Nat) (o:LO σ β),step s=some o→Gt step m b o→XC E ro n (Exit.then (Q0w E inv step m b) Q) c (inv s)):XC E ro n Q (.loop c) st:=by
 intro V a w hr
 obtain ⟨V',hr'⟩:=h0 V a w hr
 refine wpV_loop_ghost (fun k a w=>∃ (x:σ×Nat) (V:Vu),x.2=k∧Qj step x.2 x.1=some b∧Rel E V (inv x.1) a w) Qk ⟨(s0,Qk),V',Z,hok,hr'⟩ ?_
 rintro k a w ⟨⟨s,j⟩,V,rfl,hx,hr⟩
 obtain ⟨m,o,hm,h1,h2⟩:=Q8i hx
 dsimp only at hm hr
 refine Xa (round s m o h1 (by
  cases o with
  | next s'=>exact h2
  | done b'=>exact Option.some.inj h2) V a w hr) ?_
 intro e a' w' hq
 cases e with
 | normal =>
  obtain ⟨x',V',q1,q2,q3⟩:=hq
  exact ⟨x'.2,by dsimp only at q1 ⊢;omega,x',V',rfl,q2,q3⟩
 | exit id=>exact hq
 | goto l=>exact hq
 | ret=>exact hq
 | panic ch=>exact hq
 | outgrown=>exact hq
theorem XQ.nextT {σ β:Type} {st:St} {step:σ→Option (LO σ β)} {inv:σ→St} {m:Nat} {b:β} (s':σ) (hl:To E st (inv s')) (ho:Gt step m b (.next s')):XQ E (Exit.then (Q0w E inv step m b) Q) .normal st:=fun V a w hr=>by
 obtain ⟨V',hr'⟩:=hl V a w hr
 exact ⟨(s',m),V',Nat.lt_succ_self _,ho,hr'⟩
theorem ZQ {α:Type} {h:Lab U} {st s:TSt U} {f:tup (h.sl.map (·.2))→α} {v:α} (hp:UX D h st s f=some v):∃ t,Gc D h st s=some t∧f t=v:=by
 unfold UX at hp
 split at hp
 ·rename_i t ht;cases hp;exact ⟨t,ht,rfl⟩
 ·cases hp
theorem loop_body (hD:D.OK) {id:Nat} {h:Lab U} {s0:TSt U} {β:Type} {step:tup (h.sl.map (·.2))→Option (LO (tup (h.sl.map (·.2))) β)} {m:Nat} {b:β} {s:TSt U} {t:tup (h.sl.map (·.2))} (hw:Q7o h s0=true) (h0:E.V0.nx≤s0.m.nx)
  (hs:Sfx s0 s) (hp:Gc D h s0 s=some t) (hr:Gt step m b (.next t)):XQ E (Exit.then (Q0w E (fun t=>(lab h s0 t).er D) step m b) (Exit.inBlock id Q)) .normal (s.er D) :=
 XQ.nextT t (Xv hD ⟨hs,hw,hp⟩ h0) hr
theorem exit_out {σ β:Type} {step:σ→Option (LO σ β)} {inv:σ→St} {m:Nat} {b:β} {id:Nat} {st:St} (k:XQ E Q .normal st):XQ E (Exit.then (Q0w E inv step m b) (Exit.inBlock id Q)) (.exit id) st:=fun V a w hr=>by
 show (if id=id then Q .normal a w else Q (.exit id) a w)
 rw [if_pos rfl];exact k V a w hr
theorem exit_else {σ β:Type} {step:σ→Option (LO σ β)} {inv:σ→St} {m:Nat} {b:β} {id:Nat} {st:St} {e:Exit} (h1:e ≠ .normal) (h2:e ≠ .exit id) (k:XQ E Q e st):XQ E (Exit.then (Q0w E inv step m b) (Exit.inBlock id Q)) e st:=fun V a w hr=>by
 have hk:=k V a w hr
 cases e with
 | normal=>exact (h1 rfl).elim
 | exit j =>
  show (if j=id then Q .normal a w else Q (.exit j) a w)
  rw [if_neg (fun e=>h2 (by rw [e]))];exact hk
 | goto l=>exact hk
 | ret=>exact hk
 | panic c=>exact hk
 | outgrown=>exact hk
theorem es_box {tk:List (Nat×TTok U)} {i:Nat} {T:TypeId} {xs:List (It U)} {es:List (Ev U)}:Qr D tk (.box i T xs::es)=(i,.cells T (Jm D tk xs))::Qr D tk es:=rfl
theorem es_raw {tk:List (Nat×TTok U)} {i:Nat} {B:HB} {es:List (Ev U)}:Qr D tk (.raw i B::es)=(i,B)::Qr D tk es:=rfl
theorem Q8o {tk:List (Nat×TTok U)} {i:Nat} {s:LoopState} {p:Option Code} {tm:List (Nat×TTV U)} {nt:Nat} {ps:Array Nat} {a b:Code} {d:Nat} {es:List (Ev U)}:Qr D tk (.lp i s p tm nt ps a b d::es)=(i,.loop s p (QP (TTV.er D tk) tm) nt ps a b d)::Qr D tk es:=rfl
theorem Q8n {tk:List (Nat×TTok U)} {i:Nat} {xs:List (Nat×TTV U)} {es:List (Ev U)}:Qr D tk (.ls i xs::es)=match Qcq (Qr D tk es) i with
  | some (.loop s p tm nt ps a b d)=>(i,.loop s p (QP (TTV.er D tk) xs++tm) nt ps a b d)::Qr D tk es
  | _=>Qr D tk es:=rfl
theorem Q61 {tk:List (Nat×TTok U)} {i off:Nat} {xs:List (It U)} {es:List (Ev U)}:Qr D tk (.set i off xs::es)=match Qcq (Qr D tk es) i with
  | some (.cells T ys)=>(i,.cells T (setL ys off (Jm D tk xs)))::Qr D tk es
  | _=>Qr D tk es:=rfl
theorem GC {tk:List (Nat×TTok U)} {L:Nat}:∀ (q es:List (Ev U)),q.all (K1 L)=true→Qcq (Qr D tk (q++es)) L=Qcq (Qr D tk es) L
 | [],es,h=>rfl
 | e::q,es,h=>by
  obtain ⟨h1,h2⟩:=Bool.and_eq_true_iff.1 h
  have ih:=GC (tk:=tk) q es h2
  have hne:∀ i,(!(Nat.beq i L))=true→i ≠ L:=fun i hi=>K5 (by simpa using hi)
  rw [List.cons_append]
  cases e with
  | box i T xs=>simp only [es_box];rw [Q8,if_neg (hne i h1)];exact ih
  | raw i B=>simp only [es_raw];rw [Q8,if_neg (hne i h1)];exact ih
  | lp i s p tm nt ps a b d=>simp only [Q8o];rw [Q8,if_neg (hne i h1)];exact ih
  | ls i xs =>
   rw [Q8n]
   split
   ·rw [Q8,if_neg (hne i h1)];exact ih
   ·exact ih
  | set i off xs =>
   rw [Q61]
   split
   ·rw [Q8,if_neg (hne i h1)];exact ih
   ·exact ih
theorem lk_step {tk:List (Nat×TTok U)} {N:Nat→Prop} {A B:List (Ev U)} {e:Ev U} (h:∀ j,¬ N j→Qcq (Qr D tk A) j=Qcq (Qr D tk B) j) (he:∀ j,N j→K1 j e=true):∀ j,¬ N j→Qcq (Qr D tk (e::A)) j=Qcq (Qr D tk (e::B)) j:=by
 intro j hj
 have hi:∀ i,(∀ j,N j→(!(Nat.beq i j))=true)→¬ N i:=fun i hh hn=>by
  have:=hh i hn
  simp at this
 cases e with
 | box i T xs=>simp only [es_box];rw [Q8,Q8,h j hj]
 | raw i C=>simp only [es_raw];rw [Q8,Q8,h j hj]
 | lp i s p tm nt ps a b d=>simp only [Q8o];rw [Q8,Q8,h j hj]
 | ls i xs =>
  rw [Q8n,Q8n]
  rw [h i (hi i he)]
  cases Qcq (Qr D tk B) i with
  | none=>exact h j hj
  | some X =>
   cases X with
   | loop s p tm nt ps a b d=>dsimp only;rw [Q8,Q8,h j hj]
   | cells T ys=>exact h j hj
   | obj o=>exact h j hj
   | mp es c=>exact h j hj
 | set i off xs =>
  rw [Q61,Q61]
  rw [h i (hi i he)]
  cases Qcq (Qr D tk B) i with
  | none=>exact h j hj
  | some X =>
   cases X with
   | cells T ys=>dsimp only;rw [Q8,Q8,h j hj]
   | loop s p tm nt ps a b d=>exact h j hj
   | obj o=>exact h j hj
   | mp es c=>exact h j hj
theorem lk_steps {tk:List (Nat×TTok U)} {N:Nat→Prop} {A B:List (Ev U)} (h:∀ j,¬ N j→Qcq (Qr D tk A) j=Qcq (Qr D tk B) j):∀ (q:List (Ev U)),(∀ e∈q,∀ j,N j→K1 j e=true)→∀ j,¬ N j→Qcq (Qr D tk (q++A)) j=Qcq (Qr D tk (q++B)) j
 | [],hq=>h
 | e::q,hq=>lk_step (lk_steps h q fun e he=>hq e (List.mem_cons_of_mem _ he)) (hq e (List.mem_cons_self ..))
theorem Q5q {tk:List (Nat×TTok U)} {N:Nat→Prop} {L:Nat} (hL:N L) {A B:List (Ev U)} (h:∀ j,¬ N j→Qcq (Qr D tk A) j=Qcq (Qr D tk B) j):∀ (q:List (Ev U)),(∀ e∈q.filter (fun e=>!(Q15 L e)),∀ j,N j→K1 j e=true)→∀ j,¬ N j→Qcq (Qr D tk (q++A)) j=Qcq (Qr D tk (q.filter (fun e=>!(Q15 L e))++B)) j
 | [],hq=>h
 | e::q,hq=>by
  cases hb:Q15 L e with
  | true =>
   have e1:(e::q).filter (fun e=>!(Q15 L e))=q.filter (fun e=>!(Q15 L e)):=by rw [List.filter_cons,hb];rfl
   rw [e1] at hq ⊢
   intro j hj
   rw [← Q5q hL h q hq j hj,List.cons_append]
   cases e with
   | lp i s p tm nt ps a b d =>
    have ei:i=L:=Nat.eq_of_beq_eq_true hb
    rw [Q8o,Q8,if_neg (fun e'=>hj (by rw [← e',ei];exact hL))]
   | box i T xs=>cases hb
   | raw i C=>cases hb
   | ls i xs=>cases hb
   | set i off xs=>cases hb
  | false =>
   have e1:(e::q).filter (fun e=>!(Q15 L e))=e::q.filter (fun e=>!(Q15 L e)):=by rw [List.filter_cons,hb];rfl
   rw [e1] at hq ⊢
   exact lk_step (Q5q hL h q fun e he=>hq e (List.mem_cons_of_mem _ he)) (hq e (List.mem_cons_self ..))
theorem noLp_none {tk:List (Nat×TTok U)} {L:Nat} {es:List (Ev U)} (h:es.all (K1 L)=true):Qcq (Qr D tk es) L=none:=by
 have:=GC (D:=D) (tk:=tk) es [] h
 rw [List.append_nil] at this
 rw [this];rfl
theorem putArgsT_er (tk:List (Nat×TTok U)):∀ (ts:List Nat) (xs:List (TAV U)) (tm:List (Nat×TTV U)) (tm':List (Nat×TV)),(∀ t,Qcq (QP (TTV.er D tk) tm) t=Qcq tm' t)→∀ t,Qcq (QP (TTV.er D tk) (Ko ts xs tm)) t=Qcq (Zn ts (xs.map (TAV.er D tk)) tm') t
 | [],[],tm,tm',h=>h
 | [],x::xs,tm,tm',h=>h
 | t::ts,[],tm,tm',h=>h
 | t::ts,x::xs,tm,tm',h=>putArgsT_er tk ts xs ((t,.v x)::tm) ((t,.v (x.er D tk))::QN t tm') fun u=>by
  rw [JM]
  show Qcq ((t,TV.v (x.er D tk))::QP (TTV.er D tk) tm) u=_
  rw [Q8,Q8,h u]
def Q93 (D:Codec U) (W:Wd) (P:Program) (rn:Option Nat) (c:Code) {R β:Type} (st:TSt U) (ret:TSt U→Option R) (pan:Value→TSt U→Option R) (p:R→Option β) (k:Exit→TSt U→Option β) (r:β):Prop :=
 (∃ e s,Sfx st s∧k e s=some r∧∀ E ro n Q,Fit W P rn E ro→E.V0.nx≤st.m.nx→XQ E Q e (s.er D)→XC E ro n Q c (st.er D)) ∨
 (∃ a,p a=some r∧(∃ s,Sfx st s∧(ret s=some a∨∃ v,pan v s=some a))∧∀ E ro n Q,Fit W P rn E ro→E.V0.nx≤st.m.nx→(∀ s,Sfx st s→ret s=some a→XQ E Q .ret (s.er D))→(∀ v s,Sfx st s→pan v s=some a→XQ E Q (.panic (ZP v)) (s.er D))→XC E ro n Q c (st.er D))
def Qas (D:Codec U) (C:TCfg U) (K:FuncId→List (TAV U)→Option (KR U)) (X:Qd7 U) (W:Wd) (P:Program) (c:Tc U):Prop:=∀ ⦃Y:Qd6 U⦄ ⦃rn:Option Nat⦄ ⦃R:Type⦄ ⦃ret:TSt U→Option R⦄ ⦃pan:Value→TSt U→Option R⦄ ⦃β:Type⦄ ⦃st:TSt U⦄ ⦃p:R→Option β⦄ ⦃k:Exit→TSt U→Option β⦄ ⦃r:β⦄,YOK W D P Y st.m→JY D C K X c Y rn ret pan st p k=some r→Q93 D W P rn c.code st ret pan p k r
theorem take_pre {α:Type} {p l m:List α} (h:m=p++l):m.take (m.length - l.length)++l=m:=by
 subst h
 rw [List.length_append,Nat.add_sub_cancel,List.take_left]
theorem pfx_all {α:Type} {f:α→Bool} {a b:List α} (h:∃ p,b=p++a) (k:(Q13 a b).all f=true):∃ p,b=p++a∧p.all f=true:=by
 obtain ⟨p,rfl⟩:=h
 rw [YY] at k
 exact ⟨p,Z,k⟩
theorem endR_ok {m:TMe U} {s:TSt U} {a:Q4o U} (h:Q34 m s=some a) (hs:SfM m s.m):Us m a=s.m∧s.df=[]:=by
 unfold Q34 at h
 cases hd:Q16 s.df [] with
 | false=>rw [hd] at h;cases h
 | true =>
  rw [hd] at h;cases h
  have e1:s.m.es.take (s.m.es.length - m.es.length)++m.es=s.m.es:=by
   obtain ⟨p,hp⟩:=hs.es
   exact take_pre hp
  have e2:s.m.tk.take (s.m.tk.length - m.tk.length)++m.tk=s.m.tk:=by
   obtain ⟨p,hp⟩:=hs.tk
   exact take_pre hp
  have e3:m.nx+(s.m.nx - m.nx)=s.m.nx:=Nat.add_sub_cancel' hs.nx
  refine ⟨?_,G4 hd⟩
  unfold Us
  dsimp only
  rw [e1,e2,e3]
theorem forget_tm {s:TSt U} (hd:s.df=[]) {nt:Nat} (hn:s.nt=nt):StW (s.er D) ⟨[],(s.m.er D).hp,(s.m.er D).tk,(s.m.er D).nx,nt,[]⟩ :=
 ⟨(fun t y hy=>by cases hy),fun i B h=>⟨B,h,fun _ _ _ h=>h⟩,fun i T h=>h,rfl,hn.symm,hd.symm⟩
theorem round_fin {W:Wd} {P:Program} (hP0:P=Tryz.prog) {L d:Nat} {tm:List (Nat×TTV U)} {nt:Nat} {ps:Array Nat} {a b:Tc U} {m:TMe U} {args:List (TAV U)} {s:TSt U} {β:Type} {k:TTV U→TMe U→Option β} {r:β} {e2:Exit} {jump:Option Code} {a3:Q4o U}
    (hm:∀ tk,Qcq (Qr D tk m.es) L=some (.loop .ready none (QP (TTV.er D tk) tm) nt ps a.code b.code d)) (hlen:args.length=ps.size) (hps:ps.toList.all (fun t=>Nat.blt t nt)=true) (hs:Sfx ⟨Ko ps.toList args tm,m,nt,[]⟩ s) (hs1:∃ q,s.m.es=q++m.es∧q.all (K1 L)=true) (hsd:s.df=[])
    (hx1:∀ E ro n Q,Fit W P (some L) E ro→E.V0.nx≤m.nx→XQ E Q .normal (s.er D)→XC E ro n Q a.code ((⟨Ko ps.toList args tm,m,nt,[]⟩:TSt U).er D))
    (hx2:∀ E ro n Q,Fit W P (some L) E ro→E.V0.nx≤s.m.nx→XQ E Q e2 ⟨[],((Us ⟨.lp L .busy none tm nt ps a.code b.code d::s.m.es,s.m.tk,s.m.nx⟩ a3).er D).hp,((Us ⟨.lp L .busy none tm nt ps a.code b.code d::s.m.es,s.m.tk,s.m.nx⟩ a3).er D).tk,((Us ⟨.lp L .busy none tm nt ps a.code b.code d::s.m.es,s.m.tk,s.m.nx⟩ a3).er D).nx,nt,[]⟩→XC E ro n Q b.code ((⟨s.tm,⟨.lp L .busy none tm nt ps a.code b.code d::s.m.es,s.m.tk,s.m.nx⟩,s.nt,s.df⟩:TSt U).er D))
    (he:Xx e2=some jump) (hr:Gy L ⟨.ready,none,tm,nt,ps,a.code,b.code,d⟩ s.m k jump a3=some r):∃ o,Q6z W D P L args m o∧SfM m o.m∧∀ dd:Value→TMe U→Option β,o.to k dd=some r:=by
  obtain ⟨q,hq1,hq2⟩:=hs1
  unfold Gy at hr
  split at hr
  · rename_i m' hm'
    unfold doneR at hm'
    cases hall:a3.1.all (K1 L) with
    | false=>rw [hall] at hm';cases hm'
    | true =>
      rw [hall,cond_true] at hm'
      have hsL:∀ tk,Qcq (Qr D tk s.m.es) L=some (.loop .ready none (QP (TTV.er D tk) tm) nt ps a.code b.code d):=fun tk=>by
        rw [hq1,GC q m.es hq2];exact hm tk
      have sfR:SfM m (Us s.m a3):=hs.sfm.trans ⟨⟨_,rfl⟩,⟨_,rfl⟩,Nat.le_add_right _ _⟩
      have sfm':SfM m m':=by
        cases jump with
        | none=>cases hm';exact sfR
        | some c =>
          cases hm'
          obtain ⟨p,hp⟩:=sfR.es
          exact ⟨⟨_::p,by dsimp only;rw [hp];rfl⟩,sfR.tk,sfR.nx⟩
      refine ⟨.val (Qcf jump.isNone) m',?_,sfm',fun dd=>hr⟩
      intro E st' dd ty pos af g x ars ats hP hW hx ha hmem
      have e_hp:st'.hp=Qr D m.tk m.es:=congrArg Mem.hp hmem
      have e_tk:st'.tk=X5 m.tk:=congrArg Mem.tk hmem
      have e_nx:st'.nx=m.nx:=congrArg Mem.nx hmem
      have hal:=(ZU ha).1
      have hars:ars.size=ps.size:=by
        rw [← hlen]
        have:ars.toList.length=args.length:=by rw [hal,List.length_map]
        simpa using this
      have hst:StW (⟨Zn ps.toList (args.map (TAV.er D m.tk)) (QP (TTV.er D m.tk) tm),st'.hp,st'.tk,st'.nx,nt,[]⟩:St) ((⟨Ko ps.toList args tm,m,nt,[]⟩:TSt U).er D) :=
        ⟨fun t y hy=>.inr ⟨y,by rw [← putArgsT_er m.tk ps.toList args tm _ (fun _=>rfl)];exact hy,fun _ _ _ h=>h⟩,fun i B hB=>⟨B,by show Qcq st'.hp i=_;rw [e_hp];exact hB,fun _ _ _ h=>h⟩,fun i T hT=>by show Qcq st'.tk i=_;rw [e_tk];exact hT,e_nx.symm,rfl,rfl⟩
      have hst2:StW (⟨(s.er D).tm,(L,HB.loop .busy none (QP (TTV.er D s.m.tk) tm) nt ps a.code b.code d)::QN L (s.er D).hp,(s.er D).tk,(s.er D).nx,(s.er D).nt,(s.er D).df⟩:St) ((⟨s.tm,⟨.lp L .busy none tm nt ps a.code b.code d::s.m.es,s.m.tk,s.m.nx⟩,s.nt,s.df⟩:TSt U).er D) :=
        ⟨fun t y hy=>.inr ⟨y,hy,fun _ _ _ h=>h⟩,fun i B hB=>⟨B,by show Qcq ((L,_)::QN L _) i=_;rw [JM];exact hB,fun _ _ _ h=>h⟩,fun i T h=>h,rfl,rfl,rfl⟩
      have y:=OpOK.yieldW (E:=E) (st:=st') (dd:=dd) (ty:=ty) (pos:=pos) (af:=af) (g:=g) (x:=x) (L:=L) (ars:=ars) (ats:=ats) (p0:=none) (tm0:=QP (TTV.er D m.tk) tm) (nt0:=nt) (ps0:=ps) (as0:=a.code) (bd0:=b.code) (D0:=d) (sa:=s.er D) (sb:=⟨[],((Us ⟨.lp L .busy none tm nt ps a.code b.code d::s.m.es,s.m.tk,s.m.nx⟩ a3).er D).hp,((Us ⟨.lp L .busy none tm nt ps a.code b.code d::s.m.es,s.m.tk,s.m.nx⟩ a3).er D).tk,((Us ⟨.lp L .busy none tm nt ps a.code b.code d::s.m.es,s.m.tk,s.m.nx⟩ a3).er D).nx,nt,[]⟩) (e:=e2) (jump:=jump)
        hW hx ha (by rw [e_hp];exact hm m.tk) hars hps
        (by
          intro E' ro' n' Q' hP' hW' hv hro' hq
          exact ZO (To.weak hst) (hx1 E' ro' n' Q' ⟨hP'.trans hP,hW',hro'⟩ (by rw [← e_nx];exact hv) hq))
        (by rw [e_nx];exact hs.nx) (hsL s.m.tk)
        (by
          intro E' ro' n' Q' hP' hW' hv hro' hq
          exact ZO (To.weak hst2) (hx2 E' ro' n' Q' ⟨hP'.trans hP,hW',hro'⟩ hv hq))
        (by
          show Qcq (Qr D (a3.2.1++s.m.tk) (a3.1++(.lp L .busy none tm nt ps a.code b.code d::s.m.es))) L=_
          rw [GC _ _ hall]
          show Qcq ((L,HB.loop .busy none (QP (TTV.er D (a3.2.1++s.m.tk)) tm) nt ps a.code b.code d)::_) L=_
          rw [Q8,if_pos rfl])
        he
      have hN:∀ j,j ≠ L→Qcq (Qr D (a3.2.1++s.m.tk) (a3.1++(.lp L .busy none tm nt ps a.code b.code d::s.m.es))) j=Qcq (Qr D (a3.2.1++s.m.tk) (a3.1++s.m.es)) j:=fun j hj =>
        lk_steps (N:=fun j=>j=L) (fun j hj=>by
          show Qcq ((L,HB.loop .busy none (QP (TTV.er D (a3.2.1++s.m.tk)) tm) nt ps a.code b.code d)::_) j=_
          rw [Q8,if_neg (fun e=>hj e.symm)]) a3.1 (fun e he j hj=>by rw [hj];exact List.all_eq_true.1 hall e he) j hj
      have hLL:Qcq (Qr D (a3.2.1++s.m.tk) (a3.1++s.m.es)) L=some (.loop .ready none (QP (TTV.er D (a3.2.1++s.m.tk)) tm) nt ps a.code b.code d):=by
        rw [GC _ _ hall];exact hsL _
      cases jump with
      | none =>
        cases hm'
        have post:=fun m' h1 h2 h3=>UR (m':=m') h1 h2 h3 y
        refine post (TMe.er D _) (fun i B hB=>⟨B,?_,fun _ _ _ h=>h⟩) (fun i T h=>h) Z
        have hB':Qcq (Qr D (a3.2.1++s.m.tk) (a3.1++s.m.es)) i=some B:=hB
        show Qcq ((L,HB.loop (if (none:Option Code).isNone then .ready else .done) none (QP (TTV.er D (a3.2.1++s.m.tk)) tm) nt ps a.code b.code d)::QN L (Qr D (a3.2.1++s.m.tk) (a3.1++(.lp L .busy none tm nt ps a.code b.code d::s.m.es)))) i=some B
        rw [JM,Q8]
        by_cases c:L=i
        · subst c;rw [if_pos rfl,← hB',hLL];rfl
        · rw [if_neg c,hN i (fun e=>c e.symm)];exact hB'
      | some c =>
        cases hm'
        have post:=fun m' h1 h2 h3=>UR (m':=m') h1 h2 h3 y
        refine post (TMe.er D _) (fun i B hB=>⟨B,?_,fun _ _ _ h=>h⟩) (fun i T h=>h) Z
        have hB':Qcq ((L,HB.loop .done (some c) (QP (TTV.er D (a3.2.1++s.m.tk)) tm) nt ps a.code b.code d)::Qr D (a3.2.1++s.m.tk) (a3.1++s.m.es)) i=some B:=hB
        show Qcq ((L,HB.loop (if (some c:Option Code).isNone then .ready else .done) (some c) (QP (TTV.er D (a3.2.1++s.m.tk)) tm) nt ps a.code b.code d)::QN L (Qr D (a3.2.1++s.m.tk) (a3.1++(.lp L .busy none tm nt ps a.code b.code d::s.m.es)))) i=some B
        rw [JM]
        rw [Q8] at hB' ⊢
        by_cases e:L=i
        · rw [if_pos e] at hB' ⊢;exact hB'
        · rw [if_neg e] at hB' ⊢;rw [hN i (fun e'=>e e'.symm)];exact hB'
  · cases hr
abbrev Q3m (st:TSt U) (ps:Array Nat) (a b:Tc U) (d:Nat):LpT U:=⟨.ready,none,st.tm,st.nt,ps,a.code,b.code,d⟩
theorem yld_ok {W:Wd} {P:Program} (hP0:P=Tryz.prog) {Y:Qd6 U} {st:TSt U} {ps:Array Nat} {a b:Tc U} {L d nx:Nat} {xs:List (Ev U)} (iha:Qas D C K X W P a) (ihb:Qas D C K X W P b) (hY:YOK W D P Y st.m) (h1:SfM st.m (Do st L (Q3m st ps a b d) xs nx)) :
  YOK W D P (fun L' args m=>cond (Nat.beq L' L)
    (cond ((Q13 (Do st L (Q3m st ps a b d) xs nx).es m.es).all (K1 L)&&(Nat.beq args.length ps.size&&ps.toList.all fun t=>Nat.blt t st.nt))
     (some ⟨fun k _=>JY D C K X a Y (some L) (R:=Q4o U) (fun _=>none) (fun _ _=>none) ⟨Ko ps.toList args st.tm,m,st.nt,[]⟩ (fun _=>none) fun e s=>match e with
      | .normal=>cond ((Q13 m.es s.m.es).all (K1 L)&&Q16 s.df []) (JY D C K X b Y (some L) (Q34 ⟨.lp L .busy none st.tm st.nt ps a.code b.code d::s.m.es,s.m.tk,s.m.nx⟩) (fun _ _=>none) ⟨s.tm,⟨.lp L .busy none st.tm st.nt ps a.code b.code d::s.m.es,s.m.tk,s.m.nx⟩,s.nt,s.df⟩ (Gy L ⟨.ready,none,st.tm,st.nt,ps,a.code,b.code,d⟩ s.m k (some .ret)) fun e s2=>match e with
        | .normal=>Option.bind (Q34 ⟨.lp L .busy none st.tm st.nt ps a.code b.code d::s.m.es,s.m.tk,s.m.nx⟩ s2) (Gy L ⟨.ready,none,st.tm,st.nt,ps,a.code,b.code,d⟩ s.m k none)
        | .exit id=>Option.bind (Q34 ⟨.lp L .busy none st.tm st.nt ps a.code b.code d::s.m.es,s.m.tk,s.m.nx⟩ s2) (Gy L ⟨.ready,none,st.tm,st.nt,ps,a.code,b.code,d⟩ s.m k (some (.exit id)))
        | _=>none) none
      | _=>none⟩) none) (Y L' args m)) (Do st L (Q3m st ps a b d) xs nx):=by
 intro L' args m xo hm hy
 dsimp only at hy
 cases hb:Nat.beq L' L with
 | false=>rw [hb,cond_false] at hy;exact hY L' args m xo (h1.trans hm) hy
 | true =>
  have eL:=Nat.eq_of_beq_eq_true hb
  subst eL
  rw [hb,cond_true] at hy
  cases hc:((Q13 (Do st L' (Q3m st ps a b d) xs nx).es m.es).all (K1 L')&&(Nat.beq args.length ps.size&&ps.toList.all fun t=>Nat.blt t st.nt)) with
  | false=>rw [hc] at hy;cases hy
  | true =>
   rw [hc,cond_true] at hy
   cases hy
   obtain ⟨c1,c23⟩:=Bool.and_eq_true_iff.1 hc
   obtain ⟨c2,c3⟩:=Bool.and_eq_true_iff.1 c23
   obtain ⟨q,hq1,hq2⟩:=pfx_all hm.es c1
   have hmL:∀ tk,Qcq (Qr D tk m.es) L'=some (.loop .ready none (QP (TTV.er D tk) st.tm) st.nt ps a.code b.code d):=fun tk=>by
    rw [hq1,GC q _ hq2]
    show Qcq ((L',HB.loop .ready none (QP (TTV.er D tk) st.tm) st.nt ps a.code b.code d)::_) L'=_
    rw [Q8,if_pos rfl]
   intro β k dd r hr
   rcases iha (hY.mono (h1.trans hm)) hr with ⟨e,s,hs,hk,hx⟩ | ⟨a',hp,-⟩
   ·cases e with
    | normal =>
     dsimp only at hk
     cases hd:((Q13 m.es s.m.es).all (K1 L')&&Q16 s.df []) with
     | false=>rw [hd] at hk;cases hk
     | true =>
      rw [hd,cond_true] at hk
      obtain ⟨d1,d2⟩:=Bool.and_eq_true_iff.1 hd
      have hs1:=pfx_all hs.es d1
      have hsd:=G4 d2
      have hYb:YOK W D P Y (⟨.lp L' .busy none st.tm st.nt ps a.code b.code d::s.m.es,s.m.tk,s.m.nx⟩:TMe U):=(hY.mono ((h1.trans hm).trans hs.sfm)).mono ⟨⟨[_],rfl⟩,⟨[],rfl⟩,Nat.le_refl _⟩
      have fin:∀ (e2:Exit) (jump:Option Code) (s2:TSt U),Xx e2=some jump→Sfx ⟨s.tm,⟨.lp L' .busy none st.tm st.nt ps a.code b.code d::s.m.es,s.m.tk,s.m.nx⟩,s.nt,s.df⟩ s2→Option.bind (Q34 ⟨.lp L' .busy none st.tm st.nt ps a.code b.code d::s.m.es,s.m.tk,s.m.nx⟩ s2) (Gy L' ⟨.ready,none,st.tm,st.nt,ps,a.code,b.code,d⟩ s.m k jump)=some r →
        (∀ E ro n Q,Fit W P (some L') E ro→E.V0.nx≤s.m.nx→XQ E Q e2 (s2.er D)→XC E ro n Q b.code ((⟨s.tm,⟨.lp L' .busy none st.tm st.nt ps a.code b.code d::s.m.es,s.m.tk,s.m.nx⟩,s.nt,s.df⟩:TSt U).er D)) →
        ∃ o,Q6z W D P L' args m o∧SfM m o.m∧o.to k dd=some r:=by
       intro e2 jump s2 he hs2 hbind hx2
       obtain ⟨a3,ha3,hr3⟩:=Ze hbind
       obtain ⟨em,ed⟩:=endR_ok ha3 hs2.sfm
       obtain ⟨o,o1,o2,o3⟩:=round_fin (D:=D) (W:=W) hP0 hmL (Nat.eq_of_beq_eq_true c2) c3 hs hs1 hsd (fun E ro n Q f h0 hq=>hx E ro n Q f h0 hq) (fun E ro n Q f h0 hq=>hx2 E ro n Q f h0 (W8 (To.weak (by rw [em];exact forget_tm ed (hs2.nt.trans hs.nt))) hq)) he hr3
       exact ⟨o,o1,o2,o3 dd⟩
      rcases ihb hYb hk with ⟨e2,s2,hs2,hk2,hx2⟩ | ⟨a2,hp2,-,hx2⟩
      ·cases e2 with
       | normal=>exact fin .normal none s2 rfl hs2 hk2 hx2
       | exit id=>exact fin (.exit id) (some (.exit id)) s2 rfl hs2 hk2 hx2
       | ret=>cases hk2
       | goto l=>cases hk2
       | panic c=>cases hk2
       | outgrown=>cases hk2
      ·obtain ⟨o,o1,o2,o3⟩:=round_fin (D:=D) (W:=W) hP0 (e2:=.ret) (jump:=some .ret) hmL (Nat.eq_of_beq_eq_true c2) c3 hs hs1 hsd (fun E ro n Q f h0 hq=>hx E ro n Q f h0 hq) (fun E ro n Q f h0 hq=>hx2 E ro n Q f h0 (fun s2 hs2 hr2=>by
        obtain ⟨em,ed⟩:=endR_ok hr2 hs2.sfm
        exact W8 (To.weak (by rw [em];exact forget_tm ed (hs2.nt.trans hs.nt))) hq) (fun v s2 _ h=>by cases h)) rfl hp2
       exact ⟨o,o1,o2,o3 dd⟩
    | exit id=>cases hk
    | ret=>cases hk
    | goto l=>cases hk
    | panic c=>cases hk
    | outgrown=>cases hk
   ·cases hp
theorem rnX_ok {m2:TMe U} {L:Nat} {e:Exit} (h:Qb5 m2 L=some e):∃ F:LpT U,Ww m2.es L=some F∧F.s ≠ .busy∧Xx e=some F.p:=by
 unfold Qb5 at h
 split at h
 ·rename_i F hF
  refine ⟨F,hF,?_⟩
  split at h
  ·rename_i h1 h2;cases h;rw [h1,h2];exact ⟨by simp,rfl⟩
  ·rename_i h1 h2;cases h;rw [h1,h2];exact ⟨by simp,rfl⟩
  ·rename_i id h1 h2;cases h;rw [h1,h2];exact ⟨by simp,rfl⟩
  ·cases h
 ·cases h
theorem rn_hp {N:Nat→Prop} {L:Nat} (hNL:N L) {st:TSt U} {m1 m2:TMe U} (hsf:SfM m1 m2) (hbase:∀ tk j,¬ N j→Qcq (Qr D tk m1.es) j=Qcq (Qr D tk st.m.es) j) (hq:∀ e∈Q98 L m1 m2,∀ j,N j→K1 j e=true) (hst:∀ j,N j→st.m.es.all (K1 j)=true) :
  ∀ i B,Qcq (Qr D m2.tk (Q98 L m1 m2++st.m.es)) i=some B→¬ N i∧Qcq (Qr D m2.tk m2.es) i=some B:=by
 intro i B hB
 obtain ⟨q,hqe⟩:=hsf.es
 have eq:Q98 L m1 m2=q.filter fun e=>!(Q15 L e):=by
  unfold Q98
  rw [hqe,YY]
 by_cases hn:N i
 ·rw [noLp_none (L:=i) (by rw [List.all_append];exact Bool.and_eq_true_iff.2 ⟨List.all_eq_true.2 fun e he=>hq e he i hn,hst i hn⟩)] at hB
  cases hB
 ·refine ⟨hn,?_⟩
  rw [eq] at hB hq
  rw [hqe,Q5q hNL (hbase m2.tk) q hq i hn]
  exact hB
theorem rn_weak {st:TSt U} {L:Nat} {m1 m2:TMe U} {hp:List (Nat×HB)} (ha:Z5 (XG m2.tk st.m.tk) st.tm=true) (hk:∃ p,m2.tk=p++st.m.tk) (hh:∀ i B,Qcq (Qr D m2.tk (Q98 L m1 m2++st.m.es)) i=some B→Qcq hp i=some B) :
  StW (⟨(st.er D).tm,hp,(m2.er D).tk,(m2.er D).nx,(st.er D).nt,(st.er D).df⟩:St) ((Q9s st L m1 m2).er D) :=
 ⟨fun t y hy=>by
  have hy':Qcq (QP (TTV.er D m2.tk) st.tm) t=some y:=hy
  rw [QR] at hy'
  cases hz:Qcq st.tm t with
  | none=>rw [hz] at hy';cases hy'
  | some z =>
   rw [hz] at hy';cases hy'
   exact .inr ⟨z.er D st.m.tk,by show Qcq (QP _ st.tm) t=_;rw [QR,hz];rfl,fun V w v hv=>Gs ha hk hz V w v hv⟩,fun i B hB=>⟨B,hh i B hB,fun _ _ _ h=>h⟩,fun i T h=>h,rfl,rfl,rfl⟩
theorem DH {st:TSt U} {L:Nat} {m1 m2:TMe U} (h:SfM st.m m2):Sfx st (Q9s st L m1 m2):=⟨⟨[],rfl⟩,⟨_,rfl⟩,h.tk,h.nx,rfl,.inr rfl⟩
theorem range_ok {W:Wd} {P:Program} (hP0:P=Tryz.prog) (hX:X7 W D P X) {g:Operand} {ps:Array Nat} {a b:Tc U} (iha:Qas D C K X W P a) (ihb:Qas D C K X W P b):Qas D C K X W P (.range g ps a b):=by
 intro Y rn R ret pan β st p k r hY h
 show Q93 D W P rn (.rangeFunc g ps a.code b.code) st ret pan p k r
 unfold JY at h
 split at h
 ·rename_i gf caps L d xs nx hx hB
  split at h
  ·rename_i xo hxo
   have hBx:SfM st.m (Do st L (Q3m st ps a b d) xs nx):=by
    refine ⟨⟨(Q3m st ps a b d).ev L .ready none::xs,Z⟩,⟨[],Z⟩,?_⟩
    unfold Qbx at hB
    split at hB
    ·cases hB;exact Nat.le_add_right _ _
    ·split at hB
     ·cases hB;exact Nat.le_add_right _ _
     ·cases hB
   have hY':=yld_ok (xs:=xs) (nx:=nx) hP0 iha ihb hY hBx
   obtain ⟨q,q1,q2,q3⟩:=hX _ _ _ _ _ hY' hxo _ _ _ h
   have q1':CallO W P gf (.one (.yld L)::ZC caps) ((Do st L (Q3m st ps a b d) xs nx).er D) (q.er D):=by
    have:CallO W P gf (List.map (TAV.er D st.m.tk) (.one (.raw (.yld L))::Q1m caps)) ((Do st L (Q3m st ps a b d) xs nx).er D) (q.er D):=q1
    rw [List.map_cons,capsT_er] at this
    exact this
   have lay:∀ m2:TMe U,SfM (Do st L (Q3m st ps a b d) xs nx) m2→Q7y rn st L (Do st L (Q3m st ps a b d) xs nx) m2=true →
     (∀ x,Q0y W P gf (.one (.yld L)::ZC caps) ((Do st L (Q3m st ps a b d) xs nx).er D) x (m2.er D)→∀ e,Qb5 m2 L=some e→∀ E ro n Q,Fit W P rn E ro→E.V0.nx≤st.m.nx→XQ E Q e ((Q9s st L (Do st L (Q3m st ps a b d) xs nx) m2).er D)→XC E ro n Q (.rangeFunc g ps a.code b.code) (st.er D)) ∧
     (∀ v,Q0z W P gf (.one (.yld L)::ZC caps) ((Do st L (Q3m st ps a b d) xs nx).er D) v (m2.er D)→∀ E ro n Q,Fit W P rn E ro→E.V0.nx≤st.m.nx→XQ E Q (.panic (ZP v)) ((Q9s st L (Do st L (Q3m st ps a b d) xs nx) m2).er D)→XC E ro n Q (.rangeFunc g ps a.code b.code) (st.er D)):=by
    intro m2 hsf hok
    obtain ⟨o1,w2⟩:=Bool.and_eq_true_iff.1 hok
    obtain ⟨o2,w3⟩:=Bool.and_eq_true_iff.1 w2
    obtain ⟨o3,w4⟩:=Bool.and_eq_true_iff.1 w3
    have htk:∃ p,m2.tk=p++st.m.tk:=(hBx.trans hsf).tk
    have hg:=YB (D:=D) hx
    unfold Qbx at hB
    split at hB
    ·
     cases hB
     obtain ⟨o4,o5⟩:=Bool.and_eq_true_iff.1 w4
     have hN:=rn_hp (D:=D) (N:=fun j=>j=st.m.nx+1∨j=st.m.nx) (L:=st.m.nx+1) (st:=st) (.inl rfl) hsf (fun tk j hj=>by
       show Qcq ((st.m.nx+1,HB.loop .ready none (QP (TTV.er D tk) st.tm) st.nt ps a.code b.code st.m.nx)::(st.m.nx,HB.obj (.deferred (some [])))::Qr D tk st.m.es) j=_
       rw [Q8,if_neg (fun e=>hj (.inl e.symm)),Q8,if_neg (fun e=>hj (.inr e.symm))])
      (fun e he j hj=>by
       rcases hj with rfl | rfl
       ·exact List.all_eq_true.1 o2 e he
       ·exact List.all_eq_true.1 o4 e he)
      (fun j hj=>by
       rcases hj with rfl | rfl
       ·exact o3
       ·exact o5)
     have hw:=rn_weak (D:=D) (st:=st) (L:=st.m.nx+1) (m1:=Do st (st.m.nx+1) (Q3m st ps a b st.m.nx) [.raw st.m.nx (.obj (.deferred (some [])))] (st.m.nx+2)) (m2:=m2) (hp:=QN (st.er D).nx (QN ((st.er D).nx+1) (m2.er D).hp)) o1 htk (fun i B hB=>by
      obtain ⟨h1,h2⟩:=hN i B hB
      show Qcq (QN st.m.nx (QN (st.m.nx+1) (Qr D m2.tk m2.es))) i=some B
      rw [JP,if_neg (fun e=>h1 (.inr e)),JP,if_neg (fun e=>h1 (.inl e))]
      exact h2)
     have hD:Qcq (m2.er D).hp (st.er D).nx=some (.obj (.deferred (some []))):=by
      obtain ⟨q,hq⟩:=hsf.es
      have hqa:q.all (K1 st.m.nx)=true:=by
       refine List.all_eq_true.2 fun e he=>?_
       cases hl:Q15 (st.m.nx+1) e with
       | false =>
        refine List.all_eq_true.1 o4 e ?_
        unfold Q98
        rw [hq,YY]
        exact List.mem_filter.2 ⟨he,by rw [hl];rfl⟩
       | true =>
        cases e with
        | lp i s p tm nt ps a b d =>
         have ei:i=st.m.nx+1:=Nat.eq_of_beq_eq_true hl
         show (!(Nat.beq i st.m.nx))=true
         cases hbq:Nat.beq i st.m.nx with
         | false=>rfl
         | true=>have:=Nat.eq_of_beq_eq_true hbq;omega
        | box i T xs=>cases hl
        | raw i C=>cases hl
        | ls i xs=>cases hl
        | set i off xs=>cases hl
      show Qcq (Qr D m2.tk m2.es) st.m.nx=_
      rw [hq,GC q _ hqa]
      show Qcq ((st.m.nx+1,HB.loop .ready none (QP (TTV.er D m2.tk) st.tm) st.nt ps a.code b.code st.m.nx)::(st.m.nx,HB.obj (.deferred (some [])))::Qr D m2.tk st.m.es) st.m.nx=_
      rw [Q8,if_neg (by omega),Q8,if_pos rfl]
     refine ⟨fun x hc e he E ro n Q f h0 hq=>?_,fun v hc E ro n Q f h0 hq=>?_⟩
     ·obtain ⟨F,hF,hs,hj⟩:=rnX_ok he
      exact rangeFunc_outW (W:=W) (st:=st.er D) hg hc (K9 hF) hD hs hj E ro n Q f.P f.W h0 f.rn (KU hw hq)
     ·exact rangeFunc_outDW (W:=W) (st:=st.er D) hg hc hD E ro n Q f.P f.W h0 f.rn (KU hw hq)
    ·
     rename_i L0
     split at hB
     ·rename_i F0 hF0
      cases hB
      have hN:=rn_hp (D:=D) (N:=fun j=>j=st.m.nx) (L:=st.m.nx) (st:=st) rfl hsf (fun tk j hj=>by
        show Qcq ((st.m.nx,HB.loop .ready none (QP (TTV.er D tk) st.tm) st.nt ps a.code b.code F0.d)::Qr D tk st.m.es) j=_
        rw [Q8,if_neg (fun e=>hj e.symm)])
       (fun e he j hj=>by rw [hj];exact List.all_eq_true.1 o2 e he)
       (fun j hj=>by rw [hj];exact o3)
      have hw:=rn_weak (D:=D) (st:=st) (L:=st.m.nx) (m1:=Do st st.m.nx (Q3m st ps a b F0.d) [] (st.m.nx+1)) (m2:=m2) (hp:=QN (st.er D).nx (m2.er D).hp) o1 htk (fun i B hB=>by
       obtain ⟨h1,h2⟩:=hN i B hB
       show Qcq (QN st.m.nx (Qr D m2.tk m2.es)) i=some B
       rw [JP,if_neg h1]
       exact h2)
      refine ⟨fun x hc e he E ro n Q f h0 hq=>?_,fun v hc E ro n Q f h0 hq=>?_⟩
      ·obtain ⟨F,hF,hs,hj⟩:=rnX_ok he
       exact rangeFunc_inW (W:=W) (st:=st.er D) hg (K9 hF0) hc (K9 hF) hs hj E ro n Q f.P f.W h0 f.rn (KU hw hq)
      ·exact rangeFunc_inDW (W:=W) (st:=st.er D) hg (K9 hF0) hc E ro n Q f.P f.W h0 f.rn (KU hw hq)
     ·cases hB
   cases q with
   | val x m2 =>
    dsimp only [OutT.to] at q3
    cases hok:Q7y rn st L (Do st L (Q3m st ps a b d) xs nx) m2 with
    | false=>rw [hok] at q3;cases q3
    | true =>
     rw [hok,cond_true] at q3
     have l1:=(lay m2 q2 hok).1 _ q1'
     split at q3
     ·rename_i he
      obtain ⟨y,y1,y2⟩:=Ze q3
      exact .inr ⟨y,y2,⟨_,DH (hBx.trans q2),.inl y1⟩,fun E ro n Q f h0 hr hp=>l1 _ he E ro n Q f h0 (hr _ (DH (hBx.trans q2)) y1)⟩
     ·rename_i e hne he
      exact .inl ⟨e,_,DH (hBx.trans q2),q3,fun E ro n Q f h0 hq=>l1 _ he E ro n Q f h0 hq⟩
     ·cases q3
   | die v m2 =>
    dsimp only [OutT.to] at q3
    cases hok:Q7y rn st L (Do st L (Q3m st ps a b d) xs nx) m2 with
    | false=>rw [hok] at q3;cases q3
    | true =>
     rw [hok,cond_true] at q3
     obtain ⟨y,y1,y2⟩:=Ze q3
     exact .inr ⟨y,y2,⟨_,DH (hBx.trans q2),.inr ⟨v,y1⟩⟩,fun E ro n Q f h0 hr hp=>(lay m2 q2 hok).2 v q1' E ro n Q f h0 (hp v _ (DH (hBx.trans q2)) y1)⟩
  ·cases h
 ·cases h
theorem loop_last {σ β:Type} {step:σ→Option (LO σ β)} {b:β}:∀ {k:Nat} {t:σ},Qj step k t=some b→∃ t',step t'=some (.done b)
 | 0,t,h=>by cases h
 | k+1,t,h=>by
  obtain ⟨m,o,hm,h1,h2⟩:=Q8i h
  cases o with
  | next s' =>
   have:m=k:=by omega
   subst this
   exact loop_last h2
  | done b'=>cases h2;exact ⟨t,h1⟩
theorem JL {W:Wd} {P:Program} (hP0:P=Tryz.prog) (hm:P.follows .mixedOrders=true) (hT:C.T.OK P) (hD:D.OK) (hK:US W D P K) (hX:X7 W D P X):∀ c:Tc U,Qas D C K X W P c
 | .skip=>by
  intro Y rn R ret pan β st p k r hY h
  exact .inl ⟨.normal,st,Sfx.refl st,h,fun E ro n Q f h0 hq=>Ql hq⟩
 | .reg id ops=>by
  intro Y rn R ret pan β st p k r hY h
  have h1:De D C K X Y rn ops (fun v s=>Option.bind (pan v s) p) ops.toList st (k .normal)=some r:=h
  have e:ops.toList.toArray=ops:=by simp
  have h2:=U0 hT hD hK hX (ops:=ops.toList.toArray) ops.toList hY (by rw [e];exact h1)
  have hc:(Tc.reg id ops:Tc U).code=.region id ops.toList.toArray false:=by rw [e];rfl
  rw [hc]
  rcases h2 with ⟨s,q1,q2,q3⟩ | ⟨v,s,q1,q2,q3⟩
  ·exact .inl ⟨.normal,s,q1,q2,fun E ro n Q f h0 hq=>Q0 (q3 E ro n Q f (Q2 hq))⟩
  ·obtain ⟨a,a1,a2⟩:=Ze q2
   exact .inr ⟨a,a2,⟨s,q1,.inr ⟨v,a1⟩⟩,fun E ro n Q f h0 hr hp=>Q0 (q3 E ro n Q f (hp v s q1 a1))⟩
 | .draw id effs ops=>by
  intro Y rn R ret pan β st p k r hY h
  have h1:_root_.cond (Q4j ops effs) (_root_.cond (Uz ops) (_root_.cond (Q60 ops effs).isEmpty (Q7f D C K X Y ops effs st (fun v s=>Option.bind (pan v s) p) 0 ops.toList st) none) (K3 D C K X Y ops effs (fun v s=>Option.bind (pan v s) p) 0 ops.toList st [] [] (k .normal))) none=some r:=h
  cases hB:Q4j ops effs with
  | false=>rw [hB] at h1;cases h1
  | true =>
   rw [hB,cond_true] at h1
   cases hL:Uz ops with
   | true =>
    rw [hL,cond_true] at h1
    cases hE:(Q60 ops effs).isEmpty with
    | false=>rw [hE] at h1;cases h1
    | true =>
     rw [hE,cond_true] at h1
     obtain ⟨v,q1,q2⟩:=die_ok (id:=id) hm hT hD hK hX hY hB hE h1
     obtain ⟨a,a1,a2⟩:=Ze q1
     have hsf:Sfx st (Q4t st):=⟨⟨_,rfl⟩,⟨[],rfl⟩,⟨[],rfl⟩,Nat.le_refl _,rfl,.inr rfl⟩
     exact .inr ⟨a,a2,⟨_,hsf,.inr ⟨v,a1⟩⟩,fun E ro n Q f h0 hr hp=>q2 E ro n Q f.P f.W (hp v _ hsf a1)⟩
   | false =>
   rw [hL,cond_false] at h1
   rcases draw_ok (id:=id) hm hT hD hK hX hY hB h1 with ⟨s,q1,q2,q3⟩ | ⟨v,s,q1,q2,q3⟩
   ·exact .inl ⟨.normal,s,q1,q2,fun E ro n Q f h0 hq=>q3 E ro n Q f.P f.W hq⟩
   ·obtain ⟨a,a1,a2⟩:=Ze q2
    exact .inr ⟨a,a2,⟨s,q1,.inr ⟨v,a1⟩⟩,fun E ro n Q f h0 hr hp=>q3 E ro n Q f.P f.W (hp v s q1 a1)⟩
 | .seq a b=>by
  intro Y rn R ret pan β st p k r hY h
  show Q93 D W P rn (.seq a.code b.code) st ret pan p k r
  rcases JL hP0 hm hT hD hK hX a hY h with ⟨e,s,hs,hk,hx⟩ | ⟨y,hp,hex,hx⟩
  ·cases e with
   | normal =>
    rcases JL hP0 hm hT hD hK hX b (hY.mono hs.sfm) hk with ⟨e2,s2,hs2,hk2,hx2⟩ | ⟨y,hp2,⟨s2,hs2,ha2⟩,hx2⟩
    ·exact .inl ⟨e2,s2,hs.trans hs2,hk2,fun E ro n Q f h0 hq=>Q3 (hx E ro n _ f h0 (Q1 (hx2 E ro n Q f (Nat.le_trans h0 hs.nx) hq)))⟩
    ·exact .inr ⟨y,hp2,⟨s2,hs.trans hs2,ha2⟩,fun E ro n Q f h0 hr hpn=>Q3 (hx E ro n _ f h0 (Q1 (hx2 E ro n Q f (Nat.le_trans h0 hs.nx) (fun s2 h2=>hr s2 (hs.trans h2)) (fun v s2 h2=>hpn v s2 (hs.trans h2)))))⟩
   | exit j=>exact .inl ⟨_,s,hs,hk,fun E ro n Q f h0 hq=>Q3 (hx E ro n _ f h0 hq)⟩
   | goto l=>exact .inl ⟨_,s,hs,hk,fun E ro n Q f h0 hq=>Q3 (hx E ro n _ f h0 hq)⟩
   | ret=>exact .inl ⟨_,s,hs,hk,fun E ro n Q f h0 hq=>Q3 (hx E ro n _ f h0 hq)⟩
   | panic c=>exact .inl ⟨_,s,hs,hk,fun E ro n Q f h0 hq=>Q3 (hx E ro n _ f h0 hq)⟩
   | outgrown=>exact .inl ⟨_,s,hs,hk,fun E ro n Q f h0 hq=>Q3 (hx E ro n _ f h0 hq)⟩
  ·exact .inr ⟨y,hp,hex,fun E ro n Q f h0 hr hpn=>Q3 (hx E ro n _ f h0 (fun s2 h2 e=>hr s2 h2 e) (fun v s2 h2 e=>hpn v s2 h2 e))⟩
 | .cond c a b=>by
  intro Y rn R ret pan β st p k r hY h
  show Q93 D W P rn (.cond c a.code b.code) st ret pan p k r
  unfold JY at h
  split at h
  ·rename_i v hv
   have ec:=YB (D:=D) hv
   cases hvv:v with
   | true =>
    rw [hvv] at h ec
    rcases JL hP0 hm hT hD hK hX a hY h with ⟨e,s,hs,hk,hx⟩ | ⟨y,hp,hex,hx⟩
    ·exact .inl ⟨e,s,hs,hk,fun E ro n Q f h0 hq=>Qi ec (fun _=>hx E ro n Q f h0 hq) (fun e=>by cases e)⟩
    ·exact .inr ⟨y,hp,hex,fun E ro n Q f h0 hr hpn=>Qi ec (fun _=>hx E ro n Q f h0 hr hpn) (fun e=>by cases e)⟩
   | false =>
    rw [hvv] at h ec
    rcases JL hP0 hm hT hD hK hX b hY h with ⟨e,s,hs,hk,hx⟩ | ⟨y,hp,hex,hx⟩
    ·exact .inl ⟨e,s,hs,hk,fun E ro n Q f h0 hq=>Qi ec (fun e=>by cases e) (fun _=>hx E ro n Q f h0 hq)⟩
    ·exact .inr ⟨y,hp,hex,fun E ro n Q f h0 hr hpn=>Qi ec (fun e=>by cases e) (fun _=>hx E ro n Q f h0 hr hpn)⟩
  ·cases h
 | .block id b=>by
  intro Y rn R ret pan β st p k r hY h
  show Q93 D W P rn (.block id b.code) st ret pan p k r
  rcases JL hP0 hm hT hD hK hX b hY h with ⟨e,s,hs,hk,hx⟩ | ⟨y,hp,hex,hx⟩
  ·cases e with
   | normal=>exact .inl ⟨.normal,s,hs,hk,fun E ro n Q f h0 hq=>Qx (hx E ro n _ f h0 (QB hq))⟩
   | exit j =>
    dsimp only at hk
    cases hb:Nat.beq j id with
    | true =>
     rw [hb] at hk
     have e:=Nat.eq_of_beq_eq_true hb
     subst e
     exact .inl ⟨.normal,s,hs,hk,fun E ro n Q f h0 hq=>Qx (hx E ro n _ f h0 (J5 hq))⟩
    | false =>
     rw [hb] at hk
     exact .inl ⟨.exit j,s,hs,hk,fun E ro n Q f h0 hq=>Qx (hx E ro n _ f h0 (XQ.blockE (K5 hb) hq))⟩
   | goto l=>exact .inl ⟨_,s,hs,hk,fun E ro n Q f h0 hq=>Qx (hx E ro n _ f h0 hq)⟩
   | ret=>exact .inl ⟨_,s,hs,hk,fun E ro n Q f h0 hq=>Qx (hx E ro n _ f h0 hq)⟩
   | panic c=>exact .inl ⟨_,s,hs,hk,fun E ro n Q f h0 hq=>Qx (hx E ro n _ f h0 hq)⟩
   | outgrown=>exact .inl ⟨_,s,hs,hk,fun E ro n Q f h0 hq=>Qx (hx E ro n _ f h0 hq)⟩
  ·exact .inr ⟨y,hp,hex,fun E ro n Q f h0 hr hpn=>Qx (hx E ro n _ f h0 (fun s2 h2 e=>hr s2 h2 e) (fun v s2 h2 e=>hpn v s2 h2 e))⟩
 | .bloop id h ho b=>by
  intro Y rn R ret pan β st p k r hY hx
  show Q93 D W P rn (.block id (.loop b.code)) st ret pan p k r
  unfold JY at hx
  split at hx
  ·cases hx
  ·rename_i L s0 hl
   have hto:=fun E=>(Ym (E:=E) hD hl).1
   obtain ⟨-,hsf,hw⟩:=Ym (E:=⟨P,default,fun _=>False,⟨0,fun _=>0,fun _ _=>undef,fun _=>0,fun _ _=>False⟩⟩) hD hl
   split at hx
   ·rename_i t0 Lo ht0 hLo
    have hwo:=UA hLo
    obtain ⟨o,hloop,hcont⟩:=Ze hx
    refine .inl ⟨.normal,lab Lo s0 o,hsf.trans (Yk s0 o),hcont,fun E ro n Q f h0 hq=>?_⟩
    have h00:E.V0.nx≤s0.m.nx:=Nat.le_trans h0 hsf.nx
    refine ZO (hto E) (Qx (XC.loopT _ (fun t=>(lab L s0 t).er D) t0 o (Xv hD ⟨Sfx.refl _,hw,ht0⟩ h00) hloop (fun t m lo hstep hsays=>?_)))
    rcases JL hP0 hm hT hD hK hX b (hY.mono (hsf.trans (Yk s0 t)).sfm) hstep with ⟨e,s,hs,hk,hb⟩ | ⟨y,hp,-⟩
    ·refine hb E ro n _ f h00 ?_
     have hs0:Sfx s0 s:=(Yk s0 t).trans hs
     cases e with
     | normal =>
      obtain ⟨t',hp,rfl⟩:=ZQ hk
      exact loop_body hD hw h00 hs0 hp hsays
     | exit j =>
      dsimp only at hk
      cases hbq:Nat.beq j id with
      | false=>rw [hbq] at hk;cases hk
      | true =>
       rw [hbq,cond_true] at hk
       have e:=Nat.eq_of_beq_eq_true hbq
       subst e
       obtain ⟨o',hp,rfl⟩:=ZQ hk
       have eo:o'=o:=hsays
       subst eo
       exact exit_out (W8 (Xv hD ⟨hs0,hwo,hp⟩ h00) hq)
     | goto l=>cases hk
     | ret=>cases hk
     | panic c=>cases hk
     | outgrown=>cases hk
    ·cases hp
   ·cases hx
 | .bloopE id h ho b=>by
  intro Y rn R ret pan β st p k r hY hx
  show Q93 D W P rn (.block id (.loop b.code)) st ret pan p k r
  unfold JY at hx
  split at hx
  ·cases hx
  ·rename_i L s0 hl
   have hto:=fun E=>(Ym (E:=E) hD hl).1
   obtain ⟨-,hsf,hw⟩:=Ym (E:=⟨P,default,fun _=>False,⟨0,fun _=>0,fun _ _=>undef,fun _=>0,fun _ _=>False⟩⟩) hD hl
   split at hx
   ·rename_i t0 Lo ht0 hLo
    have hwo:=UA hLo
    obtain ⟨o,hloop,hcont⟩:=Ze hx
    have key:∀ E ro n Q,Fit W P rn E ro→E.V0.nx≤st.m.nx→(∀ o',o=.inl o'→XQ E Q .normal ((lab Lo s0 o').er D))→(∀ y,o=.inr y→(∀ s,Sfx st s→ret s=some y→XQ E Q .ret (s.er D))∧∀ v s,Sfx st s→pan v s=some y→XQ E Q (.panic (ZP v)) (s.er D))→XC E ro n Q (.block id (.loop b.code)) (st.er D):=by
     intro E ro n Q f h0 hl1 hl2
     have h00:E.V0.nx≤s0.m.nx:=Nat.le_trans h0 hsf.nx
     refine ZO (hto E) (Qx (XC.loopT _ (fun t=>(lab L s0 t).er D) t0 o (Xv hD ⟨Sfx.refl _,hw,ht0⟩ h00) hloop (fun t m lo hstep hsays=>?_)))
     rcases JL hP0 hm hT hD hK hX b (hY.mono (hsf.trans (Yk s0 t)).sfm) hstep with ⟨e,s,hs,hk,hb⟩ | ⟨y,hp,-,hb⟩
     ·refine hb E ro n _ f h00 ?_
      have hs0:Sfx s0 s:=(Yk s0 t).trans hs
      cases e with
      | normal =>
       obtain ⟨t',hp,rfl⟩:=ZQ hk
       exact loop_body hD hw h00 hs0 hp hsays
      | exit j =>
       dsimp only at hk
       cases hbq:Nat.beq j id with
       | false=>rw [hbq] at hk;cases hk
       | true =>
        rw [hbq,cond_true] at hk
        have e:=Nat.eq_of_beq_eq_true hbq
        subst e
        obtain ⟨o',hp,rfl⟩:=ZQ hk
        have eo:Sum.inl o'=o:=hsays
        exact exit_out (W8 (Xv hD ⟨hs0,hwo,hp⟩ h00) (hl1 o' eo.symm))
      | goto l=>cases hk
      | ret=>cases hk
      | panic c=>cases hk
      | outgrown=>cases hk
     ·cases hp
      have eo:Sum.inr y=o:=hsays
      obtain ⟨g1,g2⟩:=hl2 y eo.symm
      refine hb E ro n _ f h00 (fun s hs hr=>exit_else (fun e=>by cases e) (fun e=>by cases e) (g1 s (hsf.trans ((Yk s0 t).trans hs)) hr)) (fun v s hs hr=>exit_else (fun e=>by cases e) (fun e=>by cases e) (g2 v s (hsf.trans ((Yk s0 t).trans hs)) hr))
    cases o with
    | inl o'=>exact .inl ⟨.normal,lab Lo s0 o',hsf.trans (Yk s0 o'),hcont,fun E ro n Q f h0 hq=>key E ro n Q f h0 (fun o2 e=>by cases e;exact hq) (fun y e=>by cases e)⟩
    | inr y =>
     obtain ⟨t,hst⟩:=loop_last hloop
     have hex:∃ s,Sfx st s∧(ret s=some y∨∃ v,pan v s=some y):=by
      rcases JL hP0 hm hT hD hK hX b (hY.mono (hsf.trans (Yk s0 t)).sfm) hst with ⟨e,s,hs,hk,hb⟩ | ⟨y',hp,⟨s,hs,ha⟩,-⟩
      ·cases e with
       | normal=>obtain ⟨t',-,e⟩:=ZQ hk;cases e
       | exit j =>
        dsimp only at hk
        cases hbq:Nat.beq j id with
        | false=>rw [hbq] at hk;cases hk
        | true=>rw [hbq,cond_true] at hk;obtain ⟨t',-,e⟩:=ZQ hk;cases e
       | goto l=>cases hk
       | ret=>cases hk
       | panic c=>cases hk
       | outgrown=>cases hk
      ·cases hp;exact ⟨s,hsf.trans ((Yk s0 t).trans hs),ha⟩
     exact .inr ⟨y,hcont,hex,fun E ro n Q f h0 hr hp=>key E ro n Q f h0 (fun o2 e=>by cases e) (fun y2 e=>by cases e;exact ⟨hr,hp⟩)⟩
   ·cases hx
 | .join h b=>by
  intro Y rn R ret pan β st p k r hY hx
  show Q93 D W P rn b.code st ret pan p k r
  unfold JY at hx
  split at hx
  ·cases hx
  ·rename_i L s0 hl
   have hto:=fun E=>(Ym (E:=E) hD hl).1
   obtain ⟨-,hsf,hw⟩:=Ym (E:=⟨P,default,fun _=>False,⟨0,fun _=>0,fun _ _=>undef,fun _=>0,fun _ _=>False⟩⟩) hD hl
   obtain ⟨t0,hb,hcont⟩:=Ze hx
   refine .inl ⟨.normal,lab L s0 t0,hsf.trans (Yk s0 t0),hcont,fun E ro n Q f h0 hq=>ZO (hto E) ?_⟩
   have h00:E.V0.nx≤s0.m.nx:=Nat.le_trans h0 hsf.nx
   rcases JL hP0 hm hT hD hK hX b (hY.mono hsf.sfm) hb with ⟨e,s,hs,hk,hb2⟩ | ⟨y,hp,-⟩
   ·refine hb2 E ro n Q f h00 ?_
    cases e with
    | normal =>
     obtain ⟨t',hp,e⟩:=ZQ hk
     have e':t'=t0:=e
     subst e'
     exact W8 (Xv hD ⟨hs,hw,hp⟩ h00) hq
    | exit j=>cases hk
    | goto l=>cases hk
    | ret=>cases hk
    | panic c=>cases hk
    | outgrown=>cases hk
   ·cases hp
 | .joinE h b=>by
  intro Y rn R ret pan β st p k r hY hx
  show Q93 D W P rn b.code st ret pan p k r
  unfold JY at hx
  split at hx
  ·cases hx
  ·rename_i L s0 hl
   have hto:=fun E=>(Ym (E:=E) hD hl).1
   obtain ⟨-,hsf,hw⟩:=Ym (E:=⟨P,default,fun _=>False,⟨0,fun _=>0,fun _ _=>undef,fun _=>0,fun _ _=>False⟩⟩) hD hl
   obtain ⟨t0,hb,hcont⟩:=Ze hx
   rcases JL hP0 hm hT hD hK hX b (hY.mono hsf.sfm) hb with ⟨e,s,hs,hk,hb2⟩ | ⟨y,hp,⟨s1,hs1,ha1⟩,hb2⟩
   ·cases e with
    | normal =>
     obtain ⟨t',hp,rfl⟩:=ZQ hk
     refine .inl ⟨.normal,lab L s0 t',hsf.trans (Yk s0 t'),hcont,fun E ro n Q f h0 hq=>ZO (hto E) ?_⟩
     have h00:E.V0.nx≤s0.m.nx:=Nat.le_trans h0 hsf.nx
     exact hb2 E ro n Q f h00 (W8 (Xv hD ⟨hs,hw,hp⟩ h00) hq)
    | exit j=>cases hk
    | goto l=>cases hk
    | ret=>cases hk
    | panic c=>cases hk
    | outgrown=>cases hk
   ·cases hp
    exact .inr ⟨y,hcont,⟨s1,hsf.trans hs1,ha1⟩,fun E ro n Q f h0 hr hp=>ZO (hto E) (hb2 E ro n Q f (Nat.le_trans h0 hsf.nx) (fun s hs e=>hr s (hsf.trans hs) e) (fun v s hs e=>hp v s (hsf.trans hs) e))⟩
 | .exit id=>by
  intro Y rn R ret pan β st p k r hY h
  exact .inl ⟨.exit id,st,Sfx.refl st,h,fun E ro n Q f h0 hq=>JK hq⟩
 | .scope b=>by
  intro Y rn R ret pan β st p k r hY h
  show Q93 D W P rn (.scope b.code) st ret pan p k r
  have scp:∀ {E:Env} {ro:Option Nat} {n:Nat} {Q:Exit→Act→World→Prop} {c:Code} {x:St},XC E ro n (fun e a w=>match e with
    | .goto _=>False
    | e=>Q e a w) c x→XC E ro n Q (.scope c) x:=fun h V a w hr=>wpV_scope (h V a w hr)
  rcases JL hP0 hm hT hD hK hX b hY h with ⟨e,s,hs,hk,hx⟩ | ⟨y,hp,hex,hx⟩
  ·cases e with
   | normal=>exact .inl ⟨_,s,hs,hk,fun E ro n Q f h0 hq=>scp (hx E ro n _ f h0 hq)⟩
   | exit j=>exact .inl ⟨_,s,hs,hk,fun E ro n Q f h0 hq=>scp (hx E ro n _ f h0 hq)⟩
   | goto l=>cases hk
   | ret=>exact .inl ⟨_,s,hs,hk,fun E ro n Q f h0 hq=>scp (hx E ro n _ f h0 hq)⟩
   | panic c=>exact .inl ⟨_,s,hs,hk,fun E ro n Q f h0 hq=>scp (hx E ro n _ f h0 hq)⟩
   | outgrown=>exact .inl ⟨_,s,hs,hk,fun E ro n Q f h0 hq=>scp (hx E ro n _ f h0 hq)⟩
  ·exact .inr ⟨y,hp,hex,fun E ro n Q f h0 hr hpn=>scp (hx E ro n _ f h0 (fun s2 h2 e=>hr s2 h2 e) (fun v s2 h2 e=>hpn v s2 h2 e))⟩
 | .range g ps a b=>range_ok hP0 hX (JL hP0 hm hT hD hK hX a) (JL hP0 hm hT hD hK hX b)
 | .ret=>by
  intro Y rn R ret pan β st p k r hY h
  obtain ⟨v,h1,h2⟩:=Ze (show Option.bind (ret st) p=some r from h)
  exact .inr ⟨v,h2,⟨st,Sfx.refl st,.inl h1⟩,fun E ro n Q f h0 hr hp=>Qu (hr st (Sfx.refl st) h1)⟩
end
end
section
open Go.RowKit
theorem Q56:Tryz.prog.follows .mixedOrders=true:=by kernel_rfl
section
variable {U:Univ}
variable (U) in
structure Hint where
 sl:List (List HL×HK U)
 so:List (List HL×HK U)
 esc:Bool
variable (U) in
structure Hints where
 h:List (Nat×Hint U)
 e:List (Nat×List Nat)
def effsAt (e:List (Nat×List Nat)) (n:Nat):List Nat:=match Qcq e n with
 | some l=>l
 | none=>[]
def dstsO (ops:List Oper):List Nat:=ops.filterMap (·.dst)
def Wi:Code→List Nat
 | .region _ ops _=>dstsO ops.toList
 | .seq a b=>Wi a++Wi b
 | .cond _ a b=>Wi a++Wi b
 | .block _ b=>Wi b
 | .loop b=>Wi b
 | .scope b=>Wi b
 | .rangeFunc _ _ a b=>Wi a++Wi b
 | _=>[]
def Q8q:List Nat→List Nat
 | []=>[]
 | a::r=>cond (r.contains a) (Q8q r) (a::Q8q r)
def Q31:List HL→List Nat
 | []=>[]
 | .reg r::ls=>r::Q31 ls
 | .at _ _::ls=>Q31 ls
 | .fat _ _ _::ls=>Q31 ls
def Xw (sl:List (List HL×HK U)) (c:Code):HLab U:=⟨sl,Q8q ((Wi c).filter fun r=>!(sl.flatMap fun p=>Q31 p.1).contains r)⟩
def Q3p (h:Option (Hint U)) (c:Code) (t:Tc U):Tc U:=match h with
 | none=>t
 | some h=>cond h.esc (.joinE (Xw h.sl c) t) (.join (Xw h.sl c) t)
def K4 (H:Hints U):Nat→Code→Option (Nat×Tc U)
 | n,.skip=>some (n,.skip)
 | n,.region id ops false=>some (n+1,Q3p (Qcq H.h n) (.region id ops false) (.reg id ops))
 | n,.region id ops true=>some (n+1,Q3p (Qcq H.h n) (.region id ops true) (.draw id (effsAt H.e n) ops))
 | n,.seq a b=>match K4 H n a with
  | some (n1,ta)=>match K4 H n1 b with
   | some (n2,tb)=>some (n2,.seq ta tb)
   | none=>none
  | none=>none
 | n,.cond c a b=>match K4 H (n+1) a with
  | some (n1,ta)=>match K4 H n1 b with
   | some (n2,tb)=>some (n2,Q3p (Qcq H.h n) (.cond c a b) (.cond c ta tb))
   | none=>none
  | none=>none
 | n,.block id (.loop b)=>match Qcq H.h n,K4 H (n+1) b with
  | some h,some (n1,tb)=>some (n1,cond h.esc (.bloopE id (Xw h.sl b) (Xw h.so b) tb) (.bloop id (Xw h.sl b) (Xw h.so b) tb))
  | _,_=>none
 | n,.block id b=>match K4 H (n+1) b with
  | some (n1,tb)=>some (n1,Q3p (Qcq H.h n) (.block id b) (.block id tb))
  | none=>none
 | n,.exit id=>some (n,.exit id)
 | n,.scope b=>match K4 H n b with
  | some (n1,tb)=>some (n1,.scope tb)
  | none=>none
 | n,.ret=>some (n,.ret)
 | n,.rangeFunc g ps a b=>match K4 H n a with
  | some (n1,ta)=>match K4 H n1 b with
   | some (n2,tb)=>some (n2,.range g ps ta tb)
   | none=>none
  | none=>none
 | _,_=>none
theorem Gv (h:Option (Hint U)) (c:Code) (t:Tc U):(Q3p h c t).code=t.code:=by
 cases h with
 | none=>rfl
 | some h =>
  show (_root_.cond h.esc (Tc.joinE (Xw h.sl c) t) (Tc.join (Xw h.sl c) t)).code=_
  cases h.esc <;> rfl
theorem Y4 {H:Hints U}:∀ (c:Code) {n n':Nat} {tc:Tc U},K4 H n c=some (n',tc)→tc.code=c
 | .skip,n,n',tc,h=>by cases h;rfl
 | .region id ops false,n,n',tc,h=>by cases h;exact Gv _ _ _
 | .region id ops true,n,n',tc,h=>by cases h;exact Gv _ _ _
 | .seq a b,n,n',tc,h=>by
  unfold K4 at h
  split at h
  ·rename_i n1 ta ha
   split at h
   ·rename_i n2 tb hb;cases h
    show Code.seq ta.code tb.code=_
    rw [Y4 a ha,Y4 b hb]
   ·cases h
  ·cases h
 | .cond c a b,n,n',tc,h=>by
  unfold K4 at h
  split at h
  ·rename_i n1 ta ha
   split at h
   ·rename_i n2 tb hb;cases h
    rw [Gv]
    show Code.cond c ta.code tb.code=_
    rw [Y4 a ha,Y4 b hb]
   ·cases h
  ·cases h
 | .block id b,n,n',tc,h=>by
  unfold K4 at h
  split at h
  all_goals first | (cases ‹_=Code.block id b›;done) | skip
  all_goals first | (rename_i heq;cases heq;done) | skip
  ·rename_i heq
   cases heq
   split at h
   ·rename_i hh n1 tb h1 h2;cases h
    cases hh.esc <;> (show Code.block _ (.loop tb.code)=_;rw [Y4 _ h2])
   ·cases h
  ·rename_i heq
   cases heq
   split at h
   ·rename_i n1 tb hb;cases h
    rw [Gv]
    show Code.block _ tb.code=_
    rw [Y4 _ hb]
   ·cases h
  all_goals cases h
 | .exit id,n,n',tc,h=>by cases h;rfl
 | .scope b,n,n',tc,h=>by
  unfold K4 at h
  split at h
  ·rename_i n1 tb hb;cases h
   show Code.scope tb.code=_
   rw [Y4 b hb]
  ·cases h
 | .ret,n,n',tc,h=>by cases h;rfl
 | .loop b,n,n',tc,h=>by cases h
 | .rangeFunc g ps a b,n,n',tc,h=>by
  unfold K4 at h
  split at h
  ·rename_i n1 ta ha
   split at h
   ·rename_i n2 tb hb;cases h
    show Code.rangeFunc g ps ta.code tb.code=_
    rw [Y4 a ha,Y4 b hb]
   ·cases h
  ·cases h
 | .label _,n,n',tc,h=>by cases h
 | .goto _,n,n',tc,h=>by cases h
 | .refuse _,n,n',tc,h=>by cases h
end
section
variable {U:Univ} (D:Codec U) (C:TCfg U) (K:FuncId→List (TAV U)→Option (KR U)) (X:Qd7 U)
def JR:Nat→List (TAV U)→List (Nat×TTV U)
 | _,[]=>[]
 | i,x::xs=>(i,.v x)::JR (i+1) xs
def Q3t (s:TSt U):ResultVar→Option (TAV U)
 | .tmp t=>match Qcq s.tm t with
  | some (.v x)=>some x
  | _=>none
 | .cell ad ty=>match Qcq C.T.agg ty,Qcq s.tm ad with
  | some (ag,n),some (.v (.one (.ptr i off)))=>match ag with
   | false=>match Wc D s.m.es i off 1 with
    | some [.one y]=>some (.one y)
    | _=>none
   | true=>match Wc D s.m.es i off n with
    | some xs=>some (.agg xs)
    | none=>none
  | _,_=>none
def Ya:AK U→Bool
 | .app _ _ _=>false
 | .ptr _ _=>false
 | .any=>false
 | _=>true
def Q40:AK U→TAV U→Bool
 | .stc _,x=>Q5u x
 | _,_=>true
def Q1j (s:TSt U) (k:AK U) (v:ResultVar):Option k.Ty:=match Q3t D C s v with
 | some x=>cond (Ya k&&Q40 k x) (Q66 D s.m.tk k x) none
 | none=>none
def Q36 (s:TSt U):(rk:List (AK U))→List ResultVar→Option (tup rk)
 | [],[]=>some ()
 | [k],[v]=>Q1j D C s k v
 | k::k2::r,v::vs=>match Q1j D C s k v with
  | some a=>match Q36 s (k2::r) vs with
   | some b=>some (a,b)
   | none=>none
  | none=>none
 | _,_=>none
def KN:(rk:List (AK U))→tup rk→List (TAV U)
 | [],_=>[]
 | [k],v=>[Gj k v 0]
 | k::k2::r,v=>Gj k v.1 0::KN (k2::r) v.2
def QG (rk:List (AK U)) (v:tup rk):List AV:=(KN rk v).map (TAV.er D [])
variable {D C K X}
theorem encK_data (hD:D.OK) {k:AK U} (hk:Ya k=true) (v:k.Ty) (tk tk':List (Nat×TTok U)):(Gj k v 0).er D tk=(Gj k v 0).er D tk':=by
 cases k with
 | app i e t=>cases hk
 | ptr i o=>cases hk
 | any=>cases hk
 | stc t =>
  show AV.agg (Jm D tk [It.grp t v])=AV.agg (Jm D tk' [It.grp t v])
  have e:∀ (tk:List (Nat×TTok U)) (x:U.R t),Jm D tk [It.grp t x]=((U.E t).enc x).map .d:=fun tk x=>by
   unfold Jm
   rw [Kw,Q1i hD]
  rw [e tk v,e tk' v]
 | int k=>rfl
 | bool=>rfl
 | str=>rfl
 | sl t=>rfl
theorem dec_data (hD:D.OK) {tk tk':List (Nat×TTok U)} {k:AK U} {x:TAV U} {v:k.Ty} (hk:Ya k=true) (hs:Q40 k x=true) (h:Q66 D tk k x=some v) {V:Vu} {w:World} {u:Value} (hr:(x.er D tk).rel V w u):((Gj k v 0).er D tk').rel (Yh V.S) w u:=by
 have h1:=dec_rel (tk':=tk') (ver:=0) hD h (fun p hp=>by cases k <;> first | (cases hp;done) | (cases hk)) (by
  rintro ⟨t,y,rfl,rfl⟩
  cases hs) hr
 cases k with
 | app i e t=>cases hk
 | ptr i o=>cases hk
 | any=>cases hk
 | stc t =>
  have e:∀ (x:U.R t),Jm D tk' [It.grp t x]=((U.E t).enc x).map .d:=fun x=>by
   unfold Jm
   rw [Kw,Q1i hD]
  have h2:(AV.agg (Jm D tk' [It.grp t v])).rel V w u:=h1
  show (AV.agg (Jm D tk' [It.grp t v])).rel (Yh V.S) w u
  rw [e v] at h2 ⊢
  obtain ⟨vs,q1,q2⟩:=h2
  refine ⟨vs,q1,q2.1,fun i y hy=>?_⟩
  obtain ⟨z,hz,hzr⟩:=q2.2 i y hy
  refine ⟨z,hz,?_⟩
  rw [List.getElem?_map] at hy
  cases hc:((U.E t).enc v)[i]? with
  | none=>rw [hc] at hy;cases hy
  | some c=>rw [hc] at hy;cases hy;exact hzr
 | int k=>exact h1
 | bool=>exact h1
 | str=>exact h1
 | sl t=>exact h1
theorem DK {P:Program} (hT:C.T.OK P) (hD:D.OK) {s:TSt U} {v:ResultVar} {x:TAV U} (h:Q3t D C s v=some x) {rs:List ResultVar} {xs:List AV} (k:RAs P (s.er D) rs xs):RAs P (s.er D) (v::rs) (x.er D s.m.tk::xs):=by
 cases v with
 | tmp t =>
  have h:(match Qcq s.tm t with
   | some (.v x)=>some x
   | _=>none)=some x:=h
  split at h
  ·rename_i y hy;cases h
   exact Qm (by show Qcq (QP _ s.tm) t=_;rw [QR,hy];rfl) k
  ·cases h
 | cell ad ty =>
  unfold Q3t at h
  dsimp only at h
  split at h
  ·rename_i ag n i off hag had
   have ea:Qcq (s.er D).tm ad=some (.v (.one (.ptr i off))):=by
    show Qcq (QP (TTV.er D s.m.tk) s.tm) ad=_
    rw [QR,had];rfl
   split at h
   ·split at h
    ·rename_i y hy;cases h
     obtain ⟨T,ys,h1,h2,h3⟩:=Yr hD (tk:=s.m.tk) hy
     exact XM (hT.agg.get hag) ea h1 (WU h3) k
    ·cases h
   ·split at h
    ·rename_i xs' hy;cases h
     obtain ⟨T,ys,h1,h2,h3⟩:=Yr hD (tk:=s.m.tk) hy
     refine Q3l (hT.agg.get hag) ea h1 h3 ?_ k
     rw [← h3,List.length_take,List.length_drop];omega
    ·cases h
  ·cases h
theorem decR_ok {P:Program} (hT:C.T.OK P) (hD:D.OK) {s:TSt U}:∀ {rk:List (AK U)} {vs:List ResultVar} {r:tup rk},Q36 D C s rk vs=some r→∃ xs,RAs P (s.er D) vs xs∧xs.length=(QG D rk r).length∧∀ (i:Nat) (y:AV),(QG D rk r)[i]?=some y→∃ x,xs[i]?=some x∧∀ V w v,x.rel V w v→y.rel (Yh V.S) w v:=by
 have one:∀ {k:AK U} {v:ResultVar} {a:k.Ty},Q1j D C s k v=some a→∃ x,Q3t D C s v=some x∧∀ V w u,(x.er D s.m.tk).rel V w u→((Gj k a 0).er D []).rel (Yh V.S) w u:=by
  intro k v a h
  unfold Q1j at h
  split at h
  ·rename_i x hx
   cases hc:(Ya k&&Q40 k x) with
   | false=>rw [hc] at h;cases h
   | true =>
    rw [hc,cond_true] at h
    obtain ⟨b1,b2⟩:=Bool.and_eq_true_iff.1 hc
    exact ⟨x,hx,fun V w u hr=>dec_data hD b1 b2 h hr⟩
  ·cases h
 intro rk
 induction rk with
 | nil =>
  intro vs r h
  cases vs with
  | nil=>exact ⟨[],.nil,rfl,fun i y hy=>by cases hy⟩
  | cons v vs=>cases h
 | cons k rk ih =>
  intro vs r h
  cases rk with
  | nil =>
   cases vs with
   | nil=>cases h
   | cons v vs =>
    cases vs with
    | nil =>
     obtain ⟨x,hx,hr⟩:=one h
     refine ⟨[x.er D s.m.tk],DK hT hD hx .nil,Z,fun i y hy=>?_⟩
     cases i with
     | zero=>cases hy;exact ⟨_,rfl,hr⟩
     | succ i=>cases hy
    | cons v2 vs=>cases h
  | cons k2 rk =>
   cases vs with
   | nil=>cases h
   | cons v vs =>
    have h2:(match Q1j D C s k v with
     | some a=>match Q36 D C s (k2::rk) vs with
      | some b=>(some (a,b):Option (k.Ty×tup (k2::rk)))
      | none=>none
     | none=>none)=some r:=h
    cases ha:Q1j D C s k v with
    | none=>rw [ha] at h2;cases h2
    | some a =>
     rw [ha] at h2
     dsimp only at h2
     cases hb:Q36 D C s (k2::rk) vs with
     | none=>rw [hb] at h2;cases h2
     | some b =>
      rw [hb] at h2;cases h2
      obtain ⟨x,hx,hr⟩:=one ha
      obtain ⟨xs,q1,q2,q3⟩:=ih hb
      refine ⟨x.er D s.m.tk::xs,DK hT hD hx q1,by show xs.length+1=(QG D (k2::rk) b).length+1;rw [q2],fun i y hy=>?_⟩
      cases i with
      | zero=>cases hy;exact ⟨_,rfl,hr⟩
      | succ i=>exact q3 i y hy
theorem res_weak {xs ys:List AV} (hl:xs.length=ys.length) (hs:∀ (i:Nat) (y:AV),ys[i]?=some y→∃ x,xs[i]?=some x∧∀ V w v,x.rel V w v→y.rel (Yh V.S) w v) {V:Vu} {w:World} {v:Value} (h2:(Qw xs).rel V w v):(Qw ys).rel (Yh V.S) w v:=by
 match xs,ys,hl with
 | [],[],_=>obtain ⟨vs,q1,q2,q3⟩:=h2;exact ⟨vs,q1,q2,fun i x hx=>by cases hx⟩
 | [x],[y],_ =>
  obtain ⟨x',hx,hxy⟩:=hs 0 y rfl
  cases hx
  exact hxy _ _ _ h2
 | x::x2::xs,y::y2::ys,hl =>
  obtain ⟨vs,q1,q2,q3⟩:=h2
  refine ⟨vs,q1,by rw [q2];exact hl,fun i z hz=>?_⟩
  obtain ⟨x',hx,hxy⟩:=hs i z hz
  obtain ⟨u,hu,hr⟩:=q3 i x' hx
  exact ⟨u,hu,hxy _ _ _ hr⟩
end
end
section
open Go.RowKit
section
variable {U:Univ}
abbrev X8 (U:Univ) (α:Type):=List (It U)→Option (α×List (It U))
def Zp:X8 U Int
 | .one (.c (.v (.int .i64 a)))::r=>some (a,r)
 | _=>none
def DO:X8 U Bool
 | .one (.c (.v (.bool a)))::r=>some (a,r)
 | _=>none
def Q9t:X8 U Byt
 | .one (.c (.v (.int .u8 a)))::r=>some (⟨a⟩,r)
 | _=>none
def Dc:X8 U Qdk
 | .one (.c (.str a))::r=>some (a,r)
 | _=>none
def Q91 (t:U.T):X8 U (List (U.R t))
 | .one (.c (.sl t' l))::r=>match KO t' t l with
  | some l'=>some (l',r)
  | none=>none
 | .one (.c (.v (.slice none 0 0)))::r=>some ([],r)
 | _=>none
def DN (t:U.T) (p:X8 U (U.R t)):X8 U (U.R t)
 | .grp t' x::r=>match Q6x t' t x with
  | some y=>some (y,r)
  | none=>none
 | xs=>p xs
def Kq {α:Type} (p:X8 U α) (xs:List (It U)):Option α:=match p xs with
 | some (a,[])=>some a
 | _=>none
def Y8 {α β:Type} (p:X8 U α) (q:X8 U β):X8 U (α×β):=fun xs=>match p xs with
 | some (a,r)=>match q r with
  | some (b,r')=>some ((a,b),r')
  | none=>none
 | none=>none
def GA {α β:Type} (f:α→β) (p:X8 U α):X8 U β:=fun xs=>match p xs with
 | some (a,r)=>some (f a,r)
 | none=>none
variable {D:Codec U}
def Jl (D:Codec U) {α:Type} (p:X8 U α) (cells:α→List C):Prop:=∀ tk xs a r,p xs=some (a,r)→∃ pre,Jm D tk xs=pre++Jm D tk r∧CSubs pre (cells a)
theorem Jb:Jl D Zp fun a=>[.v (.int .i64 a)]:=by
 intro tk xs a r h
 unfold Zp at h
 split at h
 ·cases h;exact ⟨[_],rfl,.cons (.d _) .nil⟩
 ·cases h
theorem Xk:Jl D DO fun a=>[.v (.bool a)]:=by
 intro tk xs a r h
 unfold DO at h
 split at h
 ·cases h;exact ⟨[_],rfl,.cons (.d _) .nil⟩
 ·cases h
theorem pByt_ok:Jl D Q9t bytC:=by
 intro tk xs a r h
 unfold Q9t at h
 split at h
 ·cases h;exact ⟨[_],rfl,.cons (.d _) .nil⟩
 ·cases h
theorem ZN:Jl D Dc fun a=>[.v (.string (Qci a))]:=by
 intro tk xs a r h
 unfold Dc at h
 split at h
 ·cases h;exact ⟨[_],rfl,.cons (.d _) .nil⟩
 ·cases h
theorem Xj (t:U.T):Jl D (Q91 t) fun l=>[.sl (U.E t).sz ((U.E t).encL l)]:=by
 intro tk xs a r h
 unfold Q91 at h
 split at h
 ·split at h
  ·rename_i l' hl;cases h
   obtain ⟨e,rfl⟩:=YS hl
   subst e
   exact ⟨[_],Z,.cons (.d _) .nil⟩
  ·cases h
 ·cases h
  refine ⟨[_],Z,.cons ?_ .nil⟩
  have e:(U.E t).encL []=[]:=(U.E t).nil
  rw [e]
  exact .nil _
 ·cases h
theorem csubs_d (l:List C):CSubs (l.map .d) l:=by
 induction l with
 | nil=>exact .nil
 | cons c l ih=>exact .cons (.d c) ih
theorem K8 (hf:∀ t x,(D.fl t x).map TC.er=(U.E t).enc x) (t:U.T) {p:X8 U (U.R t)} (hp:Jl D p (U.E t).enc):Jl D (DN t p) (U.E t).enc:=by
 intro tk xs a r h
 unfold DN at h
 split at h
 ·rename_i t' x r'
  split at h
  ·rename_i y hy;cases h
   unfold Q6x at hy
   split at hy
   ·rename_i e _;cases hy
    subst e
    refine ⟨((U.E t').enc x).map .d,?_,csubs_d _⟩
    unfold Jm
    rw [Yb,List.map_append]
    congr 1
    show ((D.fl t' x).map TA.c).map (TA.er tk)=_
    rw [← hf t' x,List.map_map,List.map_map];rfl
   ·cases hy
  ·cases h
 ·exact hp tk _ a r h
theorem QM {α β:Type} {p:X8 U α} {q:X8 U β} {f:α→List C} {g:β→List C} (hp:Jl D p f) (hq:Jl D q g):Jl D (Y8 p q) fun a=>f a.1++g a.2:=by
 intro tk xs a r h
 unfold Y8 at h
 split at h
 ·rename_i a1 r1 h1
  split at h
  ·rename_i b r2 h2;cases h
   obtain ⟨p1,e1,c1⟩:=hp tk _ _ _ h1
   obtain ⟨p2,e2,c2⟩:=hq tk _ _ _ h2
   exact ⟨p1++p2,by rw [e1,e2,List.append_assoc],c1.append c2⟩
  ·cases h
 ·cases h
theorem JZ {α β:Type} {f:α→β} {p:X8 U α} {g:α→List C} {g':β→List C} (hp:Jl D p g) (hg:∀ a,g' (f a)=g a):Jl D (GA f p) g':=by
 intro tk xs a r h
 unfold GA at h
 split at h
 ·rename_i a1 r1 h1;cases h
  obtain ⟨p1,e1,c1⟩:=hp tk _ _ _ h1
  exact ⟨p1,e1,by rw [hg];exact c1⟩
 ·cases h
theorem Jw {α:Type} {p:X8 U α} {g:α→List C} (hp:Jl D p g) (tk:List (Nat×TTok U)) (xs:List (It U)) (a:α) (h:Kq p xs=some a):CSubs (Jm D tk xs) (g a):=by
 unfold Kq at h
 split at h
 ·rename_i a1 h1;cases h
  obtain ⟨p1,e1,c1⟩:=hp tk _ _ _ h1
  rw [e1]
  show CSubs (p1++Jm D tk []) _
  have:Jm D tk []=[]:=rfl
  rw [this,List.append_nil];exact c1
 ·cases h
end
end
section
open Go.RowKit
noncomputable def tabs:Tables:={
  agg:=[(3,(false,1)),(4,(false,1)),(5,(false,1)),(9,(false,1)),(22,(false,1)),(23,(false,1)),(25,(true,5)),(26,(false,1)),(28,(false,1)),(41,(false,1)),(43,(false,1)),(45,(true,7)),(46,(false,1)),(48,(true,23)),(59,(false,1)),(60,(false,1)),(69,(true,2)),(71,(false,1)),(80,(false,1)),(82,(true,2)),(86,(true,6)),(87,(false,1)),(89,(true,8)),(91,(true,15)),(107,(true,4)),(114,(false,1)),(119,(true,8)),(125,(false,1)),(132,(true,2)),(137,(true,2)),(142,(true,2)),(144,(true,5)),(148,(true,10)),(153,(false,1)),(155,(true,5)),(156,(true,65)),(185,(false,1)),(195,(false,1)),(203,(true,256)),(210,(false,1)),(218,(false,1)),(264,(true,2)),(280,(false,1))]
  sl:=[(22,(82,2)),(23,(25,5)),(41,(9,1)),(43,(86,6)),(46,(91,15)),(60,(5,1)),(80,(142,2)),(87,(148,10)),(125,(132,2)),(218,(3,1))]
  zero:=[(3,[.int .i64 0]),(5,[.int .u8 0]),(9,[.string ByteArray.empty]),(25,[.int .i64 0,.int .i64 0,.string ByteArray.empty,.slice none 0 0,.slice none 0 0]),(26,[.nilFunc]),(28,[.int .i64 0]),(41,[.slice none 0 0]),(48,[.int .i64 0,.string ByteArray.empty,.int .i64 0,.int .i64 0,.int .i64 0,.string ByteArray.empty,.slice none 0 0,.slice none 0 0,.int .i64 0,.int .i64 0,.string ByteArray.empty,.slice none 0 0,.slice none 0 0,.int .i64 0,.slice none 0 0,.int .i64 0,.int .i64 0,.int .i64 0,.string ByteArray.empty,.slice none 0 0,.slice none 0 0,.slice none 0 0,.slice none 0 0]),(62,[.pointer none,.slice none 0 0]),(69,[.int .i64 0,.int .i64 0]),(71,[.pointer none]),(77,[.string ByteArray.empty,.int .i64 0,.bool false]),(82,[.int .i64 0,.slice none 0 0]),(86,[.string ByteArray.empty,.int .i64 0,.int .i64 0,.string ByteArray.empty,.slice none 0 0,.slice none 0 0]),(89,[.int .i64 0,.int .i64 0,.int .i64 0,.string ByteArray.empty,.slice none 0 0,.slice none 0 0,.int .i64 0,.slice none 0 0]),(91,[.string ByteArray.empty,.int .i64 0,.int .i64 0,.string ByteArray.empty,.slice none 0 0,.slice none 0 0,.int .i64 0,.int .i64 0,.int .i64 0,.int .i64 0,.string ByteArray.empty,.slice none 0 0,.slice none 0 0,.int .i64 0,.slice none 0 0]),(95,[.pointer none,.slice none 0 0]),(99,[.string ByteArray.empty,.int .i64 0]),(107,[.int .i64 0,.int .i64 0,.int .i64 0,.int .i64 0]),(119,[.string ByteArray.empty,.string ByteArray.empty,.string ByteArray.empty,.string ByteArray.empty,.string ByteArray.empty,.string ByteArray.empty,.string ByteArray.empty,.string ByteArray.empty]),(127,[.slice none 0 0,.int .i64 0]),(132,[.string ByteArray.empty,.int .i64 0]),(137,[.string ByteArray.empty,.int .i64 0]),(142,[.int .i64 0,.int .i64 0]),(144,[.string ByteArray.empty,.string ByteArray.empty,.string ByteArray.empty,.string ByteArray.empty,.string ByteArray.empty]),(148,[.string ByteArray.empty,.bool false,.int .i64 0,.int .i64 0,.int .i64 0,.string ByteArray.empty,.slice none 0 0,.slice none 0 0,.int .i64 0,.slice none 0 0]),(155,[.bool false,.bool false,.int .i64 0,.int .i64 0,.int .i64 0]),(156,[.bool false,.bool false,.int .i64 0,.int .i64 0,.int .i64 0,.bool false,.bool false,.int .i64 0,.int .i64 0,.int .i64 0,.bool false,.bool false,.int .i64 0,.int .i64 0,.int .i64 0,.bool false,.bool false,.int .i64 0,.int .i64 0,.int .i64 0,.bool false,.bool false,.int .i64 0,.int .i64 0,.int .i64 0,.bool false,.bool false,.int .i64 0,.int .i64 0,.int .i64 0,.bool false,.bool false,.int .i64 0,.int .i64 0,.int .i64 0,.bool false,.bool false,.int .i64 0,.int .i64 0,.int .i64 0,.bool false,.bool false,.int .i64 0,.int .i64 0,.int .i64 0,.bool false,.bool false,.int .i64 0,.int .i64 0,.int .i64 0,.bool false,.bool false,.int .i64 0,.int .i64 0,.int .i64 0,.bool false,.bool false,.int .i64 0,.int .i64 0,.int .i64 0,.bool false,.bool false,.int .i64 0,.int .i64 0,.int .i64 0]),(188,[.string ByteArray.empty,.bool false,.int .i64 0,.pointer none]),(192,[.string ByteArray.empty,.int .i64 0,.bool false,.int .i64 0]),(194,[.int .u8 0,.int .u8 0,.int .u8 0,.int .u8 0,.int .u8 0,.int .u8 0,.int .u8 0,.int .u8 0,.int .u8 0,.int .u8 0,.int .u8 0,.int .u8 0,.int .u8 0,.int .u8 0,.int .u8 0,.int .u8 0,.int .u8 0,.int .u8 0,.int .u8 0,.int .u8 0,.int .u8 0,.int .u8 0,.int .u8 0,.int .u8 0]),(203,[.bool false,.bool false,.bool false,.bool false,.bool false,.bool false,.bool false,.bool false,.bool false,.bool false,.bool false,.bool false,.bool false,.bool false,.bool false,.bool false,.bool false,.bool false,.bool false,.bool false,.bool false,.bool false,.bool false,.bool false,.bool false,.bool false,.bool false,.bool false,.bool false,.bool false,.bool false,.bool false,.bool false,.bool false,.bool false,.bool false,.bool false,.bool false,.bool false,.bool false,.bool false,.bool false,.bool false,.bool false,.bool false,.bool false,.bool false,.bool false,.bool false,.bool false,.bool false,.bool false,.bool false,.bool false,.bool false,.bool false,.bool false,.bool false,.bool false,.bool false,.bool false,.bool false,.bool false,.bool false,.bool false,.bool false,.bool false,.bool false,.bool false,.bool false,.bool false,.bool false,.bool false,.bool false,.bool false,.bool false,.bool false,.bool false,.bool false,.bool false,.bool false,.bool false,.bool false,.bool false,.bool false,.bool false,.bool false,.bool false,.bool false,.bool false,.bool false,.bool false,.bool false,.bool false,.bool false,.bool false,.bool false,.bool false,.bool false,.bool false,.bool false,.bool false,.bool false,.bool false,.bool false,.bool false,.bool false,.bool false,.bool false,.bool false,.bool false,.bool false,.bool false,.bool false,.bool false,.bool false,.bool false,.bool false,.bool false,.bool false,.bool false,.bool false,.bool false,.bool false,.bool false,.bool false,.bool false,.bool false,.bool false,.bool false,.bool false,.bool false,.bool false,.bool false,.bool false,.bool false,.bool false,.bool false,.bool false,.bool false,.bool false,.bool false,.bool false,.bool false,.bool false,.bool false,.bool false,.bool false,.bool false,.bool false,.bool false,.bool false,.bool false,.bool false,.bool false,.bool false,.bool false,.bool false,.bool false,.bool false,.bool false,.bool false,.bool false,.bool false,.bool false,.bool false,.bool false,.bool false,.bool false,.bool false,.bool false,.bool false,.bool false,.bool false,.bool false,.bool false,.bool false,.bool false,.bool false,.bool false,.bool false,.bool false,.bool false,.bool false,.bool false,.bool false,.bool false,.bool false,.bool false,.bool false,.bool false,.bool false,.bool false,.bool false,.bool false,.bool false,.bool false,.bool false,.bool false,.bool false,.bool false,.bool false,.bool false,.bool false,.bool false,.bool false,.bool false,.bool false,.bool false,.bool false,.bool false,.bool false,.bool false,.bool false,.bool false,.bool false,.bool false,.bool false,.bool false,.bool false,.bool false,.bool false,.bool false,.bool false,.bool false,.bool false,.bool false,.bool false,.bool false,.bool false,.bool false,.bool false,.bool false,.bool false,.bool false,.bool false,.bool false,.bool false,.bool false,.bool false,.bool false,.bool false,.bool false,.bool false,.bool false,.bool false,.bool false,.bool false,.bool false,.bool false,.bool false,.bool false,.bool false,.bool false,.bool false,.bool false]),(212,[.map none,.int .i64 0]),(232,[.int .u8 0,.int .u8 0,.int .u8 0,.int .u8 0,.int .u8 0,.int .u8 0,.int .u8 0,.int .u8 0,.int .u8 0,.int .u8 0,.int .u8 0,.int .u8 0,.int .u8 0,.int .u8 0,.int .u8 0,.int .u8 0,.int .u8 0,.int .u8 0,.int .u8 0,.int .u8 0,.int .u8 0,.int .u8 0,.int .u8 0,.int .u8 0,.int .u8 0,.int .u8 0,.int .u8 0,.int .u8 0,.int .u8 0,.int .u8 0,.int .u8 0,.int .u8 0,.int .u8 0,.int .u8 0,.int .u8 0,.int .u8 0,.int .u8 0,.int .u8 0,.int .u8 0,.int .u8 0,.int .u8 0,.int .u8 0,.int .u8 0,.int .u8 0,.int .u8 0,.int .u8 0,.int .u8 0,.int .u8 0,.int .u8 0,.int .u8 0,.int .u8 0,.int .u8 0,.int .u8 0,.int .u8 0,.int .u8 0,.int .u8 0,.int .u8 0,.int .u8 0,.int .u8 0,.int .u8 0,.int .u8 0,.int .u8 0,.int .u8 0,.int .u8 0,.int .u8 0]),(256,[.string ByteArray.empty,.string ByteArray.empty,.nilIface]),(264,[.int .u8 0,.int .u8 0]),(271,[.string ByteArray.empty]),(280,[.int .u64 0])]
  fld:=[(25,[(0,0),(1,1),(2,2),(3,3),(4,4)]),(45,[(0,0),(1,1),(2,6)]),(48,[(0,0),(1,1),(2,2),(3,3),(4,8),(5,13),(6,14),(7,15),(8,22)]),(62,[(0,0),(1,1)]),(69,[(0,0),(1,1)]),(77,[(0,0),(1,1),(2,2)]),(82,[(0,0),(1,1)]),(86,[(0,0),(1,1)]),(89,[(0,0),(1,1),(2,6),(3,7)]),(91,[(0,0),(1,1),(2,6),(3,7)]),(95,[(0,0)]),(99,[(0,0),(1,1)]),(107,[(0,0),(1,1),(2,2),(3,3)]),(127,[(0,0),(1,1)]),(132,[(0,0),(1,1)]),(137,[(0,0)]),(142,[(0,0),(1,1)]),(148,[(0,0),(1,1),(2,2)]),(155,[(0,0),(1,1),(2,2),(3,3),(4,4)]),(188,[(0,0),(1,1),(2,2),(3,3)]),(192,[(0,0),(1,1),(2,2),(3,3)]),(212,[(0,0),(1,1)]),(264,[(0,0),(1,1)])]
  places:=[(25,[(0,1),(1,1),(2,1),(3,1),(4,1)]),(48,[(0,1),(1,1),(2,1),(3,5),(8,5),(13,1),(14,1),(15,7),(22,1)]),(69,[(0,1),(1,1)]),(77,[(0,1),(1,1),(2,1)]),(82,[(0,1),(1,1)]),(86,[(0,1),(1,5)]),(89,[(0,1),(1,5),(6,1),(7,1)]),(91,[(0,1),(1,5),(6,1),(7,8)]),(95,[(0,2)]),(99,[(0,1),(1,1)]),(107,[(0,1),(1,1),(2,1),(3,1)]),(119,[(0,1),(1,1),(2,1),(3,1),(4,1),(5,1),(6,1),(7,1)]),(127,[(0,1),(1,1)]),(132,[(0,1),(1,1)]),(137,[(0,1),(1,1)]),(142,[(0,1),(1,1)]),(144,[(0,1),(1,1),(2,1),(3,1),(4,1)]),(148,[(0,1),(1,1),(2,8)]),(155,[(0,1),(1,1),(2,1),(3,1),(4,1)]),(156,[(0,5),(5,5),(10,5),(15,5),(20,5),(25,5),(30,5),(35,5),(40,5),(45,5),(50,5),(55,5),(60,5)]),(188,[(0,1),(1,1),(2,1),(3,1)]),(192,[(0,1),(1,1),(2,1),(3,1)]),(212,[(0,1),(1,1)]),(256,[(0,1),(1,1),(2,1)]),(271,[(0,1)])]
  elem:=[(3,(1,8)),(5,(1,1)),(9,(1,16)),(25,(5,80)),(82,(2,32)),(86,(6,96)),(91,(15,224)),(132,(2,24)),(142,(2,16)),(148,(10,144))]
  arr:=[(156,(13,5)),(194,(24,1)),(203,(256,1)),(230,(20,1)),(232,(65,1)),(260,(32,1)),(261,(64,1)),(262,(256,1)),(265,(16,2))]
  mp:=[(210,(true,.one (.d (.v (.int .i64 0)))))]
  ints:=[(2,.i64),(3,.i64),(5,.u8),(21,.i32),(195,.u64),(231,.u32),(234,.u64),(280,.u64)]
  strs:=[(9,())]
  bools:=[(4,())]
  pairs:=[(142,())]
  fns:=[]
  stc:=[(69,())]
  ifc:=[(20,()),(114,())]
  ars:=[(119,8),(144,5)]
  fdv:=[(69,[(0,0)]),(137,[(0,0)])]
  byt:=[(60,())]
 }
theorem Qp:tabs.OK Tryz.prog where
 agg:=⟨(show _=_ by kernel_rfl),(show _=_ by kernel_rfl),(show _=_ by kernel_rfl),(show _=_ by kernel_rfl),(show _=_ by kernel_rfl),(show _=_ by kernel_rfl),(show _=_ by kernel_rfl),(show _=_ by kernel_rfl),(show _=_ by kernel_rfl),(show _=_ by kernel_rfl),(show _=_ by kernel_rfl),(show _=_ by kernel_rfl),(show _=_ by kernel_rfl),(show _=_ by kernel_rfl),(show _=_ by kernel_rfl),(show _=_ by kernel_rfl),(show _=_ by kernel_rfl),(show _=_ by kernel_rfl),(show _=_ by kernel_rfl),(show _=_ by kernel_rfl),(show _=_ by kernel_rfl),(show _=_ by kernel_rfl),(show _=_ by kernel_rfl),(show _=_ by kernel_rfl),(show _=_ by kernel_rfl),(show _=_ by kernel_rfl),(show _=_ by kernel_rfl),(show _=_ by kernel_rfl),(show _=_ by kernel_rfl),(show _=_ by kernel_rfl),(show _=_ by kernel_rfl),(show _=_ by kernel_rfl),(show _=_ by kernel_rfl),(show _=_ by kernel_rfl),(show _=_ by kernel_rfl),(show _=_ by kernel_rfl),(show _=_ by kernel_rfl),(show _=_ by kernel_rfl),(show _=_ by kernel_rfl),(show _=_ by kernel_rfl),(show _=_ by kernel_rfl),(show _=_ by kernel_rfl),(show _=_ by kernel_rfl),trivial⟩
 sl:=⟨(show _=_ by kernel_rfl),(show _=_ by kernel_rfl),(show _=_ by kernel_rfl),(show _=_ by kernel_rfl),(show _=_ by kernel_rfl),(show _=_ by kernel_rfl),(show _=_ by kernel_rfl),(show _=_ by kernel_rfl),(show _=_ by kernel_rfl),(show _=_ by kernel_rfl),trivial⟩
 zero:=⟨⟨(show _=_ by kernel_rfl),(show _=_ by kernel_rfl)⟩,⟨(show _=_ by kernel_rfl),(show _=_ by kernel_rfl)⟩,⟨(show _=_ by kernel_rfl),(show _=_ by kernel_rfl)⟩,⟨(show _=_ by kernel_rfl),(show _=_ by kernel_rfl)⟩,⟨(show _=_ by kernel_rfl),(show _=_ by kernel_rfl)⟩,⟨(show _=_ by kernel_rfl),(show _=_ by kernel_rfl)⟩,⟨(show _=_ by kernel_rfl),(show _=_ by kernel_rfl)⟩,⟨(show _=_ by kernel_rfl),(show _=_ by kernel_rfl)⟩,⟨(show _=_ by kernel_rfl),(show _=_ by kernel_rfl)⟩,⟨(show _=_ by kernel_rfl),(show _=_ by kernel_rfl)⟩,⟨(show _=_ by kernel_rfl),(show _=_ by kernel_rfl)⟩,⟨(show _=_ by kernel_rfl),(show _=_ by kernel_rfl)⟩,⟨(show _=_ by kernel_rfl),(show _=_ by kernel_rfl)⟩,⟨(show _=_ by kernel_rfl),(show _=_ by kernel_rfl)⟩,⟨(show _=_ by kernel_rfl),(show _=_ by kernel_rfl)⟩,⟨(show _=_ by kernel_rfl),(show _=_ by kernel_rfl)⟩,⟨(show _=_ by kernel_rfl),(show _=_ by kernel_rfl)⟩,⟨(show _=_ by kernel_rfl),(show _=_ by kernel_rfl)⟩,⟨(show _=_ by kernel_rfl),(show _=_ by kernel_rfl)⟩,⟨(show _=_ by kernel_rfl),(show _=_ by kernel_rfl)⟩,⟨(show _=_ by kernel_rfl),(show _=_ by kernel_rfl)⟩,⟨(show _=_ by kernel_rfl),(show _=_ by kernel_rfl)⟩,⟨(show _=_ by kernel_rfl),(show _=_ by kernel_rfl)⟩,⟨(show _=_ by kernel_rfl),(show _=_ by kernel_rfl)⟩,⟨(show _=_ by kernel_rfl),(show _=_ by kernel_rfl)⟩,⟨(show _=_ by kernel_rfl),(show _=_ by kernel_rfl)⟩,⟨(show _=_ by kernel_rfl),(show _=_ by kernel_rfl)⟩,⟨(show _=_ by kernel_rfl),(show _=_ by kernel_rfl)⟩,⟨(show _=_ by kernel_rfl),(show _=_ by kernel_rfl)⟩,⟨(show _=_ by kernel_rfl),(show _=_ by kernel_rfl)⟩,⟨(show _=_ by kernel_rfl),(show _=_ by kernel_rfl)⟩,⟨(show _=_ by kernel_rfl),(show _=_ by kernel_rfl)⟩,⟨(show _=_ by kernel_rfl),(show _=_ by kernel_rfl)⟩,⟨(show _=_ by kernel_rfl),(show _=_ by kernel_rfl)⟩,⟨(show _=_ by kernel_rfl),(show _=_ by kernel_rfl)⟩,⟨(show _=_ by kernel_rfl),(show _=_ by kernel_rfl)⟩,⟨(show _=_ by kernel_rfl),(show _=_ by kernel_rfl)⟩,⟨(show _=_ by kernel_rfl),(show _=_ by kernel_rfl)⟩,trivial⟩
 fld:=⟨⟨(show _=_ by kernel_rfl),(show _=_ by kernel_rfl),(show _=_ by kernel_rfl),(show _=_ by kernel_rfl),(show _=_ by kernel_rfl),trivial⟩,⟨(show _=_ by kernel_rfl),(show _=_ by kernel_rfl),(show _=_ by kernel_rfl),trivial⟩,⟨(show _=_ by kernel_rfl),(show _=_ by kernel_rfl),(show _=_ by kernel_rfl),(show _=_ by kernel_rfl),(show _=_ by kernel_rfl),(show _=_ by kernel_rfl),(show _=_ by kernel_rfl),(show _=_ by kernel_rfl),(show _=_ by kernel_rfl),trivial⟩,⟨(show _=_ by kernel_rfl),(show _=_ by kernel_rfl),trivial⟩,⟨(show _=_ by kernel_rfl),(show _=_ by kernel_rfl),trivial⟩,⟨(show _=_ by kernel_rfl),(show _=_ by kernel_rfl),(show _=_ by kernel_rfl),trivial⟩,⟨(show _=_ by kernel_rfl),(show _=_ by kernel_rfl),trivial⟩,⟨(show _=_ by kernel_rfl),(show _=_ by kernel_rfl),trivial⟩,⟨(show _=_ by kernel_rfl),(show _=_ by kernel_rfl),(show _=_ by kernel_rfl),(show _=_ by kernel_rfl),trivial⟩,⟨(show _=_ by kernel_rfl),(show _=_ by kernel_rfl),(show _=_ by kernel_rfl),(show _=_ by kernel_rfl),trivial⟩,⟨(show _=_ by kernel_rfl),trivial⟩,⟨(show _=_ by kernel_rfl),(show _=_ by kernel_rfl),trivial⟩,⟨(show _=_ by kernel_rfl),(show _=_ by kernel_rfl),(show _=_ by kernel_rfl),(show _=_ by kernel_rfl),trivial⟩,⟨(show _=_ by kernel_rfl),(show _=_ by kernel_rfl),trivial⟩,⟨(show _=_ by kernel_rfl),(show _=_ by kernel_rfl),trivial⟩,⟨(show _=_ by kernel_rfl),trivial⟩,⟨(show _=_ by kernel_rfl),(show _=_ by kernel_rfl),trivial⟩,⟨(show _=_ by kernel_rfl),(show _=_ by kernel_rfl),(show _=_ by kernel_rfl),trivial⟩,⟨(show _=_ by kernel_rfl),(show _=_ by kernel_rfl),(show _=_ by kernel_rfl),(show _=_ by kernel_rfl),(show _=_ by kernel_rfl),trivial⟩,⟨(show _=_ by kernel_rfl),(show _=_ by kernel_rfl),(show _=_ by kernel_rfl),(show _=_ by kernel_rfl),trivial⟩,⟨(show _=_ by kernel_rfl),(show _=_ by kernel_rfl),(show _=_ by kernel_rfl),(show _=_ by kernel_rfl),trivial⟩,⟨(show _=_ by kernel_rfl),(show _=_ by kernel_rfl),trivial⟩,⟨(show _=_ by kernel_rfl),(show _=_ by kernel_rfl),trivial⟩,trivial⟩
 places:=⟨(show _=_ by kernel_rfl),(show _=_ by kernel_rfl),(show _=_ by kernel_rfl),(show _=_ by kernel_rfl),(show _=_ by kernel_rfl),(show _=_ by kernel_rfl),(show _=_ by kernel_rfl),(show _=_ by kernel_rfl),(show _=_ by kernel_rfl),(show _=_ by kernel_rfl),(show _=_ by kernel_rfl),(show _=_ by kernel_rfl),(show _=_ by kernel_rfl),(show _=_ by kernel_rfl),(show _=_ by kernel_rfl),(show _=_ by kernel_rfl),(show _=_ by kernel_rfl),(show _=_ by kernel_rfl),(show _=_ by kernel_rfl),(show _=_ by kernel_rfl),(show _=_ by kernel_rfl),(show _=_ by kernel_rfl),(show _=_ by kernel_rfl),(show _=_ by kernel_rfl),(show _=_ by kernel_rfl),trivial⟩
 elem:=⟨(show _=_ by kernel_rfl),(show _=_ by kernel_rfl),(show _=_ by kernel_rfl),(show _=_ by kernel_rfl),(show _=_ by kernel_rfl),(show _=_ by kernel_rfl),(show _=_ by kernel_rfl),(show _=_ by kernel_rfl),(show _=_ by kernel_rfl),(show _=_ by kernel_rfl),trivial⟩
 arr:=⟨(show _=_ by kernel_rfl),(show _=_ by kernel_rfl),(show _=_ by kernel_rfl),(show _=_ by kernel_rfl),(show _=_ by kernel_rfl),(show _=_ by kernel_rfl),(show _=_ by kernel_rfl),(show _=_ by kernel_rfl),(show _=_ by kernel_rfl),trivial⟩
 mp:=⟨(show _=_ by kernel_rfl),trivial⟩
 ints:=⟨(show _=_ by kernel_rfl),(show _=_ by kernel_rfl),(show _=_ by kernel_rfl),(show _=_ by kernel_rfl),(show _=_ by kernel_rfl),(show _=_ by kernel_rfl),(show _=_ by kernel_rfl),(show _=_ by kernel_rfl),trivial⟩
 strs:=⟨(show _=_ by kernel_rfl),trivial⟩
 bools:=⟨(show _=_ by kernel_rfl),trivial⟩
 pairs:=⟨(show _=_ by kernel_rfl),trivial⟩
 fns:=trivial
 stc:=⟨(show _=_ by kernel_rfl),trivial⟩
 ifc:=⟨(show _=_ by kernel_rfl),(show _=_ by kernel_rfl),trivial⟩
 ars:=⟨(show _=_ by kernel_rfl),(show _=_ by kernel_rfl),trivial⟩
 fdv:=⟨⟨(show _=_ by kernel_rfl),trivial⟩,⟨(show _=_ by kernel_rfl),trivial⟩,trivial⟩
 byt:=⟨(show _=_ by kernel_rfl),trivial⟩
 mixed:=by kernel_rfl
end
section
open Go.RowKit
inductive Tcd where
 | t3
 | t4
 | t5
 | t9
 | t82
 | t142
 | t132
 | t137
 | t127
 | t99
 | t69
 | t77
 | t107
 | t25
 | t155
 | t86
 | t45
 | t89
 | t148
 | t91
 | t48
def Qdd:Tcd→Type
 | .t3=>Int
 | .t4=>Bool
 | .t5=>Byt
 | .t9=>(List UInt8)
 | .t82=>Lvl
 | .t142=>Qde
 | .t132=>Tkn
 | .t137=>Tkn
 | .t127=>Rdr
 | .t99=>RWr
 | .t69=>Rfd
 | .t77=>RRd
 | .t107=>Scp
 | .t25=>Tm
 | .t155=>Use
 | .t86=>Ctr
 | .t45=>Rcr
 | .t89=>Tr
 | .t148=>Qdl
 | .t91=>Fn
 | .t48=>Dcl
def eqT:(a b:Tcd)→Option (PLift (a=b))
 | .t3,.t3=>some ⟨rfl⟩
 | .t4,.t4=>some ⟨rfl⟩
 | .t5,.t5=>some ⟨rfl⟩
 | .t9,.t9=>some ⟨rfl⟩
 | .t82,.t82=>some ⟨rfl⟩
 | .t142,.t142=>some ⟨rfl⟩
 | .t132,.t132=>some ⟨rfl⟩
 | .t137,.t137=>some ⟨rfl⟩
 | .t127,.t127=>some ⟨rfl⟩
 | .t99,.t99=>some ⟨rfl⟩
 | .t69,.t69=>some ⟨rfl⟩
 | .t77,.t77=>some ⟨rfl⟩
 | .t107,.t107=>some ⟨rfl⟩
 | .t25,.t25=>some ⟨rfl⟩
 | .t155,.t155=>some ⟨rfl⟩
 | .t86,.t86=>some ⟨rfl⟩
 | .t45,.t45=>some ⟨rfl⟩
 | .t89,.t89=>some ⟨rfl⟩
 | .t148,.t148=>some ⟨rfl⟩
 | .t91,.t91=>some ⟨rfl⟩
 | .t48,.t48=>some ⟨rfl⟩
 | _,_=>none
@[reducible] noncomputable def encT:(t:Tcd)→Enc (Qdd t)
 | .t3=>inferInstanceAs (Enc Int)
 | .t4=>inferInstanceAs (Enc Bool)
 | .t5=>inferInstanceAs (Enc Byt)
 | .t9=>inferInstanceAs (Enc ((List UInt8)))
 | .t82=>inferInstanceAs (Enc Lvl)
 | .t142=>inferInstanceAs (Enc Qde)
 | .t132=>inferInstanceAs (Enc Tkn)
 | .t137=>inferInstanceAs (Enc Tkn)
 | .t127=>inferInstanceAs (Enc Rdr)
 | .t99=>inferInstanceAs (Enc RWr)
 | .t69=>inferInstanceAs (Enc Rfd)
 | .t77=>inferInstanceAs (Enc RRd)
 | .t107=>inferInstanceAs (Enc Scp)
 | .t25=>inferInstanceAs (Enc Tm)
 | .t155=>inferInstanceAs (Enc Use)
 | .t86=>inferInstanceAs (Enc Ctr)
 | .t45=>inferInstanceAs (Enc Rcr)
 | .t89=>inferInstanceAs (Enc Tr)
 | .t148=>inferInstanceAs (Enc Qdl)
 | .t91=>inferInstanceAs (Enc Fn)
 | .t48=>inferInstanceAs (Enc Dcl)
noncomputable abbrev UV:Univ:=⟨Tcd,Qdd,eqT,encT⟩
def flT:(t:Tcd)→Qdd t→List (TC UV)
 | .t3,x=>[.v (.int .i64 (x))]
 | .t4,x=>[.v (.bool (x))]
 | .t5,x=>[.v (.int .u8 (x.n))]
 | .t9,x=>[.str (x)]
 | .t82,x=>[.v (.int .i64 (x.c)),.sl .t142 (x.vs)]
 | .t142,x=>[.v (.int .i64 (x.1)),.v (.int .i64 (x.2))]
 | .t132,x=>[.str (x.text),.v (.int .i64 (x.at_))]
 | .t137,x=>[.str (x.text),.v (.int .i64 (x.at_))]
 | .t127,x=>[.sl .t132 (x.l),.v (.int .i64 (x.n))]
 | .t99,x=>[.str (x.s),.v (.int .i64 (x.e))]
 | .t69,x=>[.v (.int .i64 (x.e)),.v (.int .i64 (x.at_))]
 | .t77,x=>[.str (x.s),.v (.int .i64 (x.at_)),.v (.bool (x.bad))]
 | .t107,x=>[.v (.int .i64 (x.vars)),.v (.int .i64 (x.params)),.v (.int .i64 (x.metas)),.v (.int .i64 (x.levels))]
 | .t25,x=>[.v (.int .i64 (x.kind)),.v (.int .i64 (x.index)),.str (x.name),.sl .t82 (x.levels),.sl .t25 (x.kids)]
 | .t155,x=>[.v (.bool (x.index)),.v (.bool (x.name)),.v (.int .i64 (x.levels)),.v (.int .i64 (x.kids)),.v (.int .i64 (x.below))]
 | .t86,x=>[.str (x.name),.v (.int .i64 (x.ty.kind)),.v (.int .i64 (x.ty.index)),.str (x.ty.name),.sl .t82 (x.ty.levels),.sl .t25 (x.ty.kids)]
 | .t45,x=>[.v (.int .i64 (x.params)),.v (.int .i64 (x.ty.kind)),.v (.int .i64 (x.ty.index)),.str (x.ty.name),.sl .t82 (x.ty.levels),.sl .t25 (x.ty.kids),.sl .t25 (x.rules)]
 | .t89,x=>[.v (.int .i64 (x.kind)),.v (.int .i64 (x.body.kind)),.v (.int .i64 (x.body.index)),.str (x.body.name),.sl .t82 (x.body.levels),.sl .t25 (x.body.kids),.v (.int .i64 (x.var)),.sl .t148 (x.branches)]
 | .t148,x=>[.str (x.ctor),.v (.bool (x.absurd)),.v (.int .i64 (x.tree.kind)),.v (.int .i64 (x.tree.body.kind)),.v (.int .i64 (x.tree.body.index)),.str (x.tree.body.name),.sl .t82 (x.tree.body.levels),.sl .t25 (x.tree.body.kids),.v (.int .i64 (x.tree.var)),.sl .t148 (x.tree.branches)]
 | .t91,x=>[.str (x.name),.v (.int .i64 (x.ty.kind)),.v (.int .i64 (x.ty.index)),.str (x.ty.name),.sl .t82 (x.ty.levels),.sl .t25 (x.ty.kids),.v (.int .i64 (x.arity)),.v (.int .i64 (x.tree.kind)),.v (.int .i64 (x.tree.body.kind)),.v (.int .i64 (x.tree.body.index)),.str (x.tree.body.name),.sl .t82 (x.tree.body.levels),.sl .t25 (x.tree.body.kids),.v (.int .i64 (x.tree.var)),.sl .t148 (x.tree.branches)]
 | .t48,x=>[.v (.int .i64 (x.kind)),.str (x.name),.v (.int .i64 (x.params)),.v (.int .i64 (x.ty.kind)),.v (.int .i64 (x.ty.index)),.str (x.ty.name),.sl .t82 (x.ty.levels),.sl .t25 (x.ty.kids),.v (.int .i64 (x.value.kind)),.v (.int .i64 (x.value.index)),.str (x.value.name),.sl .t82 (x.value.levels),.sl .t25 (x.value.kids),.v (.int .i64 (x.fixed)),.sl .t86 (x.ctors),.v (.int .i64 (x.rcr.params)),.v (.int .i64 (x.rcr.ty.kind)),.v (.int .i64 (x.rcr.ty.index)),.str (x.rcr.ty.name),.sl .t82 (x.rcr.ty.levels),.sl .t25 (x.rcr.ty.kids),.sl .t25 (x.rcr.rules),.sl .t91 (x.funs)]
def subT:(t:Tcd)→Qdd t→Nat→Nat→Option (Sigma Qdd)
 | .t86,x,1,5=>some ⟨.t25,x.ty⟩
 | .t45,x,1,5=>some ⟨.t25,x.ty⟩
 | .t89,x,1,5=>some ⟨.t25,x.body⟩
 | .t148,x,2,8=>some ⟨.t89,x.tree⟩
 | .t148,x,3,5=>some ⟨.t25,x.tree.body⟩
 | .t91,x,1,5=>some ⟨.t25,x.ty⟩
 | .t91,x,7,8=>some ⟨.t89,x.tree⟩
 | .t91,x,8,5=>some ⟨.t25,x.tree.body⟩
 | .t48,x,3,5=>some ⟨.t25,x.ty⟩
 | .t48,x,8,5=>some ⟨.t25,x.value⟩
 | .t48,x,15,7=>some ⟨.t45,x.rcr⟩
 | .t48,x,16,5=>some ⟨.t25,x.rcr.ty⟩
 | _,_,_,_=>none
noncomputable def par82:X8 UV Lvl:=GA (fun a=>(.mk a.1 a.2:Lvl)) (Y8 Zp (Q91 (U:=UV) .t142))
noncomputable def par142:X8 UV Qde:=GA (fun a=>((a.1,a.2):Qde)) (Y8 Zp Zp)
noncomputable def par132:X8 UV Tkn:=GA (fun a=>(.mk a.1 a.2:Tkn)) (Y8 Dc Zp)
noncomputable def par137:X8 UV Tkn:=GA (fun a=>(.mk a.1 a.2:Tkn)) (Y8 Dc Zp)
noncomputable def par127:X8 UV Rdr:=GA (fun a=>(.mk a.1 a.2:Rdr)) (Y8 (Q91 (U:=UV) .t132) Zp)
noncomputable def par99:X8 UV RWr:=GA (fun a=>(.mk a.1 a.2:RWr)) (Y8 Dc Zp)
noncomputable def par69:X8 UV Rfd:=GA (fun a=>(.mk a.1 a.2:Rfd)) (Y8 Zp Zp)
noncomputable def par77:X8 UV RRd:=GA (fun a=>(.mk a.1 a.2.1 a.2.2:RRd)) (Y8 Dc (Y8 Zp DO))
noncomputable def par107:X8 UV Scp:=GA (fun a=>(.mk a.1 a.2.1 a.2.2.1 a.2.2.2:Scp)) (Y8 Zp (Y8 Zp (Y8 Zp Zp)))
noncomputable def UW:X8 UV Tm:=GA (fun a=>(.mk a.1 a.2.1 a.2.2.1 a.2.2.2.1 a.2.2.2.2:Tm)) (Y8 Zp (Y8 Zp (Y8 Dc (Y8 (Q91 (U:=UV) .t82) (Q91 (U:=UV) .t25)))))
noncomputable def par155:X8 UV Use:=GA (fun a=>(.mk a.1 a.2.1 a.2.2.1 a.2.2.2.1 a.2.2.2.2:Use)) (Y8 DO (Y8 DO (Y8 Zp (Y8 Zp Zp))))
noncomputable def par86:X8 UV Ctr:=GA (fun a=>(.mk a.1 a.2:Ctr)) (Y8 Dc (DN (U:=UV) .t25 UW))
noncomputable def Q84:X8 UV Rcr:=GA (fun a=>(.mk a.1 a.2.1 a.2.2:Rcr)) (Y8 Zp (Y8 (DN (U:=UV) .t25 UW) (Q91 (U:=UV) .t25)))
noncomputable def Q6l:X8 UV Tr:=GA (fun a=>(.mk a.1 a.2.1 a.2.2.1 a.2.2.2:Tr)) (Y8 Zp (Y8 (DN (U:=UV) .t25 UW) (Y8 Zp (Q91 (U:=UV) .t148))))
noncomputable def par148:X8 UV Qdl:=GA (fun a=>(.mk a.1 a.2.1 a.2.2:Qdl)) (Y8 Dc (Y8 DO (DN (U:=UV) .t89 Q6l)))
noncomputable def par91:X8 UV Fn:=GA (fun a=>(.mk a.1 a.2.1 a.2.2.1 a.2.2.2:Fn)) (Y8 Dc (Y8 (DN (U:=UV) .t25 UW) (Y8 Zp (DN (U:=UV) .t89 Q6l))))
noncomputable def par48:X8 UV Dcl:=GA (fun a=>(.mk a.1 a.2.1 a.2.2.1 a.2.2.2.1 a.2.2.2.2.1 a.2.2.2.2.2.1 a.2.2.2.2.2.2.1 a.2.2.2.2.2.2.2.1 a.2.2.2.2.2.2.2.2:Dcl)) (Y8 Zp (Y8 Dc (Y8 Zp (Y8 (DN (U:=UV) .t25 UW) (Y8 (DN (U:=UV) .t25 UW) (Y8 Zp (Y8 (Q91 (U:=UV) .t86) (Y8 (DN (U:=UV) .t45 Q84) (Q91 (U:=UV) .t91)))))))))
noncomputable def bldS:(t:Tcd)→List (It UV)→Option (Qdd t)
 | .t3,xs=>Kq (α:=Int) Zp xs
 | .t4,xs=>Kq (α:=Bool) DO xs
 | .t5,xs=>Kq (α:=Byt) Q9t xs
 | .t9,xs=>Kq (α:=(List UInt8)) Dc xs
 | .t82,xs=>Kq (α:=Lvl) par82 xs
 | .t142,xs=>Kq (α:=Qde) par142 xs
 | .t132,xs=>Kq (α:=Tkn) par132 xs
 | .t137,xs=>Kq (α:=Tkn) par137 xs
 | .t127,xs=>Kq (α:=Rdr) par127 xs
 | .t99,xs=>Kq (α:=RWr) par99 xs
 | .t69,xs=>Kq (α:=Rfd) par69 xs
 | .t77,xs=>Kq (α:=RRd) par77 xs
 | .t107,xs=>Kq (α:=Scp) par107 xs
 | .t25,xs=>Kq (α:=Tm) UW xs
 | .t155,xs=>Kq (α:=Use) par155 xs
 | .t86,xs=>Kq (α:=Ctr) par86 xs
 | .t45,xs=>Kq (α:=Rcr) Q84 xs
 | .t89,xs=>Kq (α:=Tr) Q6l xs
 | .t148,xs=>Kq (α:=Qdl) par148 xs
 | .t91,xs=>Kq (α:=Fn) par91 xs
 | .t48,xs=>Kq (α:=Dcl) par48 xs
noncomputable abbrev DV:Codec UV:=⟨flT,subT,bldS⟩
theorem G3:∀ (t:Tcd) (x:Qdd t),(flT t x).map TC.er=(encT t).enc x
 | .t3,x=>by first | rfl | (cases x;rfl)
 | .t4,x=>by first | rfl | (cases x;rfl)
 | .t5,x=>by first | rfl | (cases x;rfl)
 | .t9,x=>by first | rfl | (cases x;rfl)
 | .t82,x=>by first | rfl | (cases x;rfl)
 | .t142,x=>by first | rfl | (cases x;rfl)
 | .t132,x=>by first | rfl | (cases x;rfl)
 | .t137,x=>by first | rfl | (cases x;rfl)
 | .t127,x=>by first | rfl | (cases x;rfl)
 | .t99,x=>by first | rfl | (cases x;rfl)
 | .t69,x=>by first | rfl | (cases x;rfl)
 | .t77,x=>by first | rfl | (cases x;rfl)
 | .t107,x=>by first | rfl | (cases x;rfl)
 | .t25,x=>by first | rfl | (cases x;rfl)
 | .t155,x=>by first | rfl | (cases x;rfl)
 | .t86,x=>by first | rfl | (cases x;rfl)
 | .t45,x=>by first | rfl | (cases x;rfl)
 | .t89,x=>by first | rfl | (cases x;rfl)
 | .t148,x=>by first | rfl | (cases x;rfl)
 | .t91,x=>by first | rfl | (cases x;rfl)
 | .t48,x=>by first | rfl | (cases x;rfl)
theorem hp82:Jl DV par82 (encT .t82).enc:=JZ (QM Jb (Xj (U:=UV) .t142)) fun a=>rfl
theorem hp142:Jl DV par142 (encT .t142).enc:=JZ (QM Jb Jb) fun a=>rfl
theorem hp132:Jl DV par132 (encT .t132).enc:=JZ (QM ZN Jb) fun a=>rfl
theorem hp137:Jl DV par137 (encT .t137).enc:=JZ (QM ZN Jb) fun a=>rfl
theorem hp127:Jl DV par127 (encT .t127).enc:=JZ (QM (Xj (U:=UV) .t132) Jb) fun a=>rfl
theorem hp99:Jl DV par99 (encT .t99).enc:=JZ (QM ZN Jb) fun a=>rfl
theorem hp69:Jl DV par69 (encT .t69).enc:=JZ (QM Jb Jb) fun a=>rfl
theorem hp77:Jl DV par77 (encT .t77).enc:=JZ (QM ZN (QM Jb Xk)) fun a=>rfl
theorem hp107:Jl DV par107 (encT .t107).enc:=JZ (QM Jb (QM Jb (QM Jb Jb))) fun a=>rfl
theorem Q5v:Jl DV UW (encT .t25).enc:=JZ (QM Jb (QM Jb (QM ZN (QM (Xj (U:=UV) .t82) (Xj (U:=UV) .t25))))) fun a=>rfl
theorem hp155:Jl DV par155 (encT .t155).enc:=JZ (QM Xk (QM Xk (QM Jb (QM Jb Jb)))) fun a=>rfl
theorem hp86:Jl DV par86 (encT .t86).enc:=JZ (QM ZN (K8 (U:=UV) (D:=DV) G3 Tcd.t25 (Q5v))) fun a=>rfl
theorem hp45:Jl DV Q84 (encT .t45).enc:=JZ (QM Jb (QM (K8 (U:=UV) (D:=DV) G3 Tcd.t25 (Q5v)) (Xj (U:=UV) .t25))) fun a=>rfl
theorem Qaa:Jl DV Q6l (encT .t89).enc:=JZ (QM Jb (QM (K8 (U:=UV) (D:=DV) G3 Tcd.t25 (Q5v)) (QM Jb (Xj (U:=UV) .t148)))) fun a=>rfl
theorem hp148:Jl DV par148 (encT .t148).enc:=JZ (QM ZN (QM Xk (K8 (U:=UV) (D:=DV) G3 Tcd.t89 (Qaa)))) fun a=>rfl
theorem hp91:Jl DV par91 (encT .t91).enc:=JZ (QM ZN (QM (K8 (U:=UV) (D:=DV) G3 Tcd.t25 (Q5v)) (QM Jb (K8 (U:=UV) (D:=DV) G3 Tcd.t89 (Qaa))))) fun a=>rfl
theorem hp48:Jl DV par48 (encT .t48).enc:=JZ (QM Jb (QM ZN (QM Jb (QM (K8 (U:=UV) (D:=DV) G3 Tcd.t25 (Q5v)) (QM (K8 (U:=UV) (D:=DV) G3 Tcd.t25 (Q5v)) (QM Jb (QM (Xj (U:=UV) .t86) (QM (K8 (U:=UV) (D:=DV) G3 Tcd.t45 (hp45)) (Xj (U:=UV) .t91))))))))) fun a=>rfl
theorem Qf:DV.OK where
 fl:=G3
 sz:=fun t x=>by cases t <;> first | rfl | (cases x;rfl)
 sub:=fun t x off n t' x' h=>by
  unfold Codec.sub at h
  dsimp only [DV] at h
  unfold subT at h
  split at h
  all_goals (cases h;try exact ⟨rfl,rfl⟩)
 bld:=fun tk t xs x h=>by
  cases t with
  | t3=>exact Jw (D:=DV) Jb tk xs x h
  | t4=>exact Jw (D:=DV) Xk tk xs x h
  | t5=>exact Jw (D:=DV) pByt_ok tk xs x h
  | t9=>exact Jw (D:=DV) ZN tk xs x h
  | t82=>exact Jw (D:=DV) hp82 tk xs x h
  | t142=>exact Jw (D:=DV) hp142 tk xs x h
  | t132=>exact Jw (D:=DV) hp132 tk xs x h
  | t137=>exact Jw (D:=DV) hp137 tk xs x h
  | t127=>exact Jw (D:=DV) hp127 tk xs x h
  | t99=>exact Jw (D:=DV) hp99 tk xs x h
  | t69=>exact Jw (D:=DV) hp69 tk xs x h
  | t77=>exact Jw (D:=DV) hp77 tk xs x h
  | t107=>exact Jw (D:=DV) hp107 tk xs x h
  | t25=>exact Jw (D:=DV) Q5v tk xs x h
  | t155=>exact Jw (D:=DV) hp155 tk xs x h
  | t86=>exact Jw (D:=DV) hp86 tk xs x h
  | t45=>exact Jw (D:=DV) hp45 tk xs x h
  | t89=>exact Jw (D:=DV) Qaa tk xs x h
  | t148=>exact Jw (D:=DV) hp148 tk xs x h
  | t91=>exact Jw (D:=DV) hp91 tk xs x h
  | t48=>exact Jw (D:=DV) hp48 tk xs x h
noncomputable def Qcb:BytOf UV where
 t:=.t5
 bs:=fun s=>(s.map fun b=>(⟨b.toNat⟩:Byt):List Byt)
 sz:=rfl
 ok:=fun l s=>by
  have h:∀ (l:List Byt),(l++s.map fun b=>(⟨b.toNat⟩:Byt)).map bytC=l.map bytC++Qd4 s:=fun l=>by rw [List.map_append,List.map_map];rfl
  exact h l
 sb:=fun l=>(l:List Byt).map Byt.u8
 back:=fun l=>⟨l,rfl,rfl⟩
noncomputable abbrev Qdj:TCfg UV:=⟨tabs,[(3,.t3),(4,.t4),(5,.t5),(9,.t9),(82,.t82),(142,.t142),(132,.t132),(137,.t137),(127,.t127),(99,.t99),(69,.t69),(77,.t77),(107,.t107),(25,.t25),(155,.t155),(86,.t86),(45,.t45),(89,.t89),(148,.t148),(91,.t91),(48,.t48)],some Qcb⟩
end
section
open Go.RowKit
inductive PK where
 | p0 (T:TypeId)
 | p1 (T:TypeId)
 | p2 (T:TypeId)
 | num (T:TypeId)
def PK.Ty:PK→Type
 | .p0 _=>Unit
 | .p1 _=>Int
 | .p2 _=>Int×Int
 | .num _=>Int
def Di:(k:PK)→k.Ty→Value
 | .p0 T,_=>.iface T (.agg #[])
 | .p1 T,a=>.iface T (.agg #[.int .i64 a])
 | .p2 T,a=>.iface T (.agg #[.int .i64 a.1,.int .i64 a.2])
 | .num T,a=>.iface T (.int .i64 a)
def Q6r:List Value→Option (List Int)
 | []=>some []
 | v::r=>match v with
  | .int .i64 a=>match Q6r r with
   | some l=>some (a::l)
   | none=>none
  | _=>none
def decPI (T:TypeId):(k:PK)→List Int→Option k.Ty
 | .p0 T',[]=>cond (Nat.beq T T') (some ()) none
 | .p1 T',[a]=>cond (Nat.beq T T') (some a) none
 | .p2 T',[a,b]=>cond (Nat.beq T T') (some (a,b)) none
 | _,_=>none
def Q8r (T:TypeId) (k:PK) (us:List Value):Option k.Ty:=match Q6r us with
 | some l=>decPI T k l
 | none=>none
def decPN (T:TypeId) (a:Int):(k:PK)→Option k.Ty
 | .num T'=>cond (Nat.beq T T') (some a) none
 | _=>none
def Q9h (k:PK):Value→Option k.Ty
 | .iface T (.agg us)=>Q8r T k us.toList
 | .iface T (.int .i64 a)=>decPN T a k
 | _=>none
theorem Q6w {α:Type} {T T':Nat} {x e:α} (h:cond (Nat.beq T T') (some x) none=some e):T=T'∧x=e:=by
 cases hb:Nat.beq T T' with
 | false=>rw [hb] at h;cases h
 | true=>rw [hb] at h;cases h;exact ⟨Nat.eq_of_beq_eq_true hb,rfl⟩
theorem intsV_ok:∀ {us:List Value} {l:List Int},Q6r us=some l→us=l.map fun a=>.int .i64 a
 | [],l,h=>by cases h;rfl
 | v::r,l,h=>by
  unfold Q6r at h
  split at h
  ·split at h
   ·rename_i l' hl;cases h;rw [intsV_ok hl];rfl
   ·cases h
  ·cases h
theorem decPI_ok {T:TypeId} {k:PK} {l:List Int} {e:k.Ty} (h:decPI T k l=some e):Value.iface T (.agg (l.map fun a=>.int .i64 a).toArray)=Di k e:=by
 cases k with
 | p0 T' =>
  cases l with
  | nil=>obtain ⟨h1,h2⟩:=Q6w (show cond (Nat.beq T T') (some ()) none=some e from h);subst h1;rfl
  | cons x us=>cases h
 | p1 T' =>
  cases l with
  | nil=>cases h
  | cons a l =>
   cases l with
   | nil=>obtain ⟨h1,h2⟩:=Q6w (show cond (Nat.beq T T') (some a) none=some e from h);subst h1;subst h2;rfl
   | cons b l=>cases h
 | p2 T' =>
  cases l with
  | nil=>cases h
  | cons a l =>
   cases l with
   | nil=>cases h
   | cons b l =>
    cases l with
    | nil=>obtain ⟨h1,h2⟩:=Q6w (show cond (Nat.beq T T') (some (a,b)) none=some e from h);subst h1;subst h2;rfl
    | cons c l=>cases h
 | num T'=>cases l <;> cases h
theorem decPL_ok {T:TypeId} {k:PK} {us:List Value} {e:k.Ty} (h:Q8r T k us=some e):Value.iface T (.agg us.toArray)=Di k e:=by
 unfold Q8r at h
 split at h
 ·rename_i l hl;rw [intsV_ok hl];exact decPI_ok h
 ·cases h
theorem decPN_ok {T:TypeId} {k:PK} {a:Int} {e:k.Ty} (h:decPN T a k=some e):Value.iface T (.int .i64 a)=Di k e:=by
 cases k with
 | num T'=>obtain ⟨h1,h2⟩:=Q6w (show cond (Nat.beq T T') (some a) none=some e from h);subst h1;subst h2;rfl
 | p0 T'=>cases h
 | p1 T'=>cases h
 | p2 T'=>cases h
theorem decP_ok {k:PK} {v:Value} {e:k.Ty} (h:Q9h k v=some e):v=Di k e:=by
 unfold Q9h at h
 split at h
 ·rename_i T us
  have:=decPL_ok h
  simpa using this
 ·exact decPN_ok h
 ·cases h
section
variable {U:Univ}
inductive IM (U:Univ) where
 | st
 | lab (sl:List (List HL×HK U))
 | labP (sl dl:List (List HL×HK U)) (pk:PK)
structure IH (U:Univ) where
 fn:Func
 h:Hints U
 md:IM U
def UJ (c:Option Code) (H:Hints U):Option (Code×Tc U):=match c with
 | none=>none
 | some c=>match K4 H 0 c with
  | some (_,tc)=>some (c,tc)
  | none=>none
theorem W6 {b:Option Code} {H:Hints U} {c:Code} {tc:Tc U} (h:UJ b H=some (c,tc)):tc.code=c∧b=some c:=by
 unfold UJ at h
 split at h
 ·cases h
 ·split at h
  ·rename_i n' tc' hcc;cases h
   exact ⟨Y4 _ hcc,Z⟩
  ·cases h
variable (D:Codec U) (C:TCfg U) (K:FuncId→List (TAV U)→Option (KR U))
def Q3s (s:TSt U):List ResultVar→Option (List (TAV U))
 | []=>some []
 | v::vs=>match Q3t D C s v with
  | some x=>match Q3s s vs with
   | some xs=>some (x::xs)
   | none=>none
  | none=>none
def Q50:List (TAV U)→TTV U
 | [x]=>.v x
 | xs=>.tup xs
def Q62 (h:Lab U) (s0 s:TSt U) (rs:List ResultVar):Option (tup (h.sl.map (·.2))):=match Gc D h s0 s with
 | some t=>match Q3s D C (lab h s0 t) rs with
  | some _=>some t
  | none=>none
 | none=>none
def Q72 (s:TSt U) (rs:List ResultVar):TTV U:=match Q3s D C s rs with
 | some xs=>Q50 xs
 | none=>.unk
def G5 (X:Qd7 U) (Y:Qd6 U) {β:Type} (s:TSt U) (u:Option Value) (kv:TSt U→Option β) (kd:Value→TSt U→Option β):Option β:=match s.df with
 | []=>match u with
  | none=>kv s
  | some v=>kd v s
 | f::is=>match X Y (.dfr f u) (Zv is) s.m with
  | some xo=>xo.run (fun x m2=>cond (Z5 (XG m2.tk s.m.tk) s.tm) (match u with
    | none=>kv ⟨s.tm,m2,s.nt,[]⟩
    | some v=>match x with
     | .v (.one (.c (.v (.bool true))))=>kv ⟨s.tm,m2,s.nt,[]⟩
     | .v (.one (.c (.v (.bool false))))=>kd v ⟨s.tm,m2,s.nt,[]⟩
     | _=>none) none) fun _ _=>none
  | none=>none
abbrev EndS (U:Univ):=Option Value×TSt U
def inlS (X:Qd7 U) (Y:Qd6 U) (fn:Func) (tc:Tc U) (args:List (TAV U)) (m:TMe U):CO U:=⟨fun k d=>JY D C K X tc Y none (R:=EndS U) (fun s=>some (none,s)) (fun v s=>some (some v,s)) ⟨JR 0 args,m,fn.ntmps,[]⟩
 (fun a=>G5 X Y a.2 a.1 (fun s=>match Q3s D C s fn.results.toList with
  | some xs=>k (Q50 xs) s.m
  | none=>none) fun v s=>d v s.m) fun e s=>match e with
 | .normal=>G5 X Y s none (fun s=>match Q3s D C s fn.results.toList with
  | some xs=>k (Q50 xs) s.m
  | none=>none) fun v s=>d v s.m
 | _=>none⟩
def inlL (X:Qd7 U) (Y:Qd6 U) (fn:Func) (tc:Tc U) (L:Lab U) (s0:TSt U):CO U:=⟨fun k _=>Option.bind (JY D C K X tc Y none (fun s=>G5 X Y s none (fun s=>Q62 D C L s0 s fn.results.toList) fun _ _=>none) (fun v s=>G5 X Y s (some v) (fun s=>Q62 D C L s0 s fn.results.toList) fun _ _=>none) s0 some fun e s=>match e with
 | .normal=>G5 X Y s none (fun s=>Q62 D C L s0 s fn.results.toList) fun _ _=>none
 | _=>none) fun t=>k (Q72 D C (lab L s0 t) fn.results.toList) (lab L s0 t).m⟩
def Q1b (pk:PK) (Ld:Lab U) (s0:TSt U) {α:Type} (v:Value) (s:TSt U):Option (α⊕(pk.Ty×tup (Ld.sl.map (·.2)))):=match Q9h pk v,Gc D Ld s0 s with
 | some e,some t=>some (.inr (e,t))
 | _,_=>none
def Q7e (L:Lab U) (s0:TSt U) (rs:List ResultVar) {α:Type} (s:TSt U):Option (tup (L.sl.map (·.2))⊕α):=match Q62 D C L s0 s rs with
 | some t=>some (.inl t)
 | none=>none
def inlP (X:Qd7 U) (Y:Qd6 U) (fn:Func) (tc:Tc U) (L Ld:Lab U) (pk:PK) (s0:TSt U):CO U:=⟨fun k d=>Option.bind (JY D C K X tc Y none (R:=tup (L.sl.map (·.2))⊕(pk.Ty×tup (Ld.sl.map (·.2)))) (fun s=>G5 X Y s none (Q7e D C L s0 fn.results.toList) (Q1b D pk Ld s0)) (fun v s=>G5 X Y s (some v) (Q7e D C L s0 fn.results.toList) (Q1b D pk Ld s0)) s0 some fun e s=>match e with
 | .normal=>G5 X Y s none (Q7e D C L s0 fn.results.toList) (Q1b D pk Ld s0)
 | _=>none) (Sum.elim (fun t=>k (Q72 D C (lab L s0 t) fn.results.toList) (lab L s0 t).m) fun a=>d (Di pk a.1) (lab Ld s0 a.2).m)⟩
def Q3u:List (TAV U)→Option (List Nat)
 | []=>some []
 | .one (.ptr i off)::r=>cond (Nat.beq off 0) (match Q3u r with
  | some l=>some (i::l)
  | none=>none) none
 | _=>none
def Q6j (ops:List Oper):Option (Nat×Option Nat):=match ops with
 | [⟨some d,.call { callee:=.builtin .recover,args:=xs,argTypes:=_ },_,_,_,none⟩]=>match xs.toList with
  | []=>some (d,none)
  | _=>none
 | [⟨some d,.call { callee:=.builtin .recover,args:=xs,argTypes:=_ },_,_,_,none⟩,⟨some d2,.assign (.tmp d1),_,_,_,none⟩]=>match xs.toList with
  | []=>cond (Nat.beq d1 d) (some (d,some d2)) none
  | _=>none
 | _=>none
def recC:Tc U→Option ((Nat×Option Nat)×Tc U)
 | .seq (.reg _ ops) b=>match Q6j ops.toList with
  | some d=>some (d,b)
  | none=>none
 | _=>none
def Q80 (d:Nat×Option Nat) (v:Value) (tm:List (Nat×TTV U)):List (Nat×TTV U):=match d.2 with
 | none=>(d.1,.v (.one (.c (.v v))))::tm
 | some d2=>(d2,.v (.one (.c (.v v))))::(d.1,.v (.one (.c (.v v))))::tm
def Q81 (d:Nat×Option Nat) (n:Nat):Bool:=Nat.blt d.1 n&&match d.2 with
 | none=>true
 | some d2=>Nat.blt d2 n
def Qa9 (X:Qd7 U) (Y:Qd6 U) (tc:Tc U) (rc:Bool) (tm:List (Nat×TTV U)) (nt:Nat) (m:TMe U):CO U:=⟨fun k _=>JY D C K X tc Y none (R:=TSt U) (fun s=>some s) (fun _ _=>none) ⟨tm,m,nt,[]⟩
 (fun s=>cond (Q16 s.df []) (k (Qcf rc) s.m) none) fun e s=>match e with
 | .normal=>cond (Q16 s.df []) (k (Qcf rc) s.m) none
 | _=>none⟩
def Q88 (fn:Func):Bool:=fn.results.toList.isEmpty
def Qa8 (X:Qd7 U) (I:List (Nat×IH U)):Qd7 U:=fun Y c args m=>match c with
 | .yld _=>none
 | .fn f=>match Qcq I f with
  | none=>none
  | some ih=>match UJ ih.fn.body ih.h with
   | none=>none
   | some (c,tc)=>cond (Nat.ble args.length ih.fn.ntmps) (match ih.md with
    | .st=>some (inlS D C K X Y ih.fn tc args m)
    | .lab sl=>match Wg D (Xw sl c) ⟨JR 0 args,m,ih.fn.ntmps,[]⟩ with
     | none=>none
     | some (L,s0)=>cond (Q16 s0.df []) (some (inlL D C K X Y ih.fn tc L s0)) none
    | .labP sl dl pk=>match Wg D (Xw sl c) ⟨JR 0 args,m,ih.fn.ntmps,[]⟩ with
     | none=>none
     | some (L,s0)=>match UB D (Xw dl c) s0 with
      | none=>none
      | some Ld=>cond (Q16 s0.df []) (some (inlP D C K X Y ih.fn tc L Ld pk s0)) none) none
 | .dfr f u=>match Qcq I f with
  | none=>none
  | some ih=>match UJ ih.fn.body ih.h,Q3u args with
   | some (_,tc),some is=>cond (Nat.ble args.length ih.fn.ntmps&&Q88 ih.fn) (match recC tc with
    | some (d,tb)=>cond (Q81 d ih.fn.ntmps&&(u.getD .nilIface).oneCell') (some (Qa9 D C K X Y tb true (Q80 d (u.getD .nilIface) (JR 0 args)) ih.fn.ntmps m)) none
    | none=>some (Qa9 D C K X Y tc false (JR 0 args) ih.fn.ntmps m)) none
   | _,_=>none
def Qbc (T X:Qd7 U):Qd7 U:=fun Y c args m=>match T Y c args m with
 | some xo=>some xo
 | none=>X Y c args m
def inlN (T:Qd7 U) (I:List (Nat×IH U)):Nat→Qd7 U
 | 0=>T
 | n+1=>Qbc T (Qa8 D C K (inlN T I n) I)
def IOK (P:Program):List (Nat×IH U)→Prop
  | []=>True
  | (f,ih)::r=>(P.funcs[f]?=some ih.fn∧Qe P f)∧IOK P r
variable {D C K}
theorem IOK.get {P:Program}:∀ {I:List (Nat×IH U)} {f:Nat} {ih:IH U},IOK P I→Qcq I f=some ih→P.funcs[f]?=some ih.fn∧Qe P f
  | [],f,ih,_,h=>by cases h
  | (g,x)::r,f,ih,hI,h=>by
    rw [Q8] at h
    split at h
    · rename_i e;subst e;cases h;exact hI.1
    · exact IOK.get hI.2 h
theorem Q1z {P:Program} (hT:C.T.OK P) (hD:D.OK) {s:TSt U}:∀ {rs:List ResultVar} {xs:List (TAV U)},Q3s D C s rs=some xs→RAs P (s.er D) rs (xs.map (TAV.er D s.m.tk))
 | [],xs,h=>by cases h;exact .nil
 | v::vs,xs,h=>by
  unfold Q3s at h
  split at h
  ·rename_i x hx
   split at h
   ·rename_i ys hy;cases h
    exact DK hT hD hx (Q1z hT hD hy)
   ·cases h
  ·cases h
theorem GQ (tk:List (Nat×TTok U)):∀ (args:List (TAV U)) (i:Nat),QP (TTV.er D tk) (JR i args)=J4 i (args.map (TAV.er D tk))
 | [],i=>rfl
 | x::xs,i=>by
  show (i,TV.v (x.er D tk))::QP (TTV.er D tk) (JR (i+1) xs)=(i,TV.v (x.er D tk))::J4 (i+1) _
  rw [GQ tk xs (i+1)]
theorem resV_er (tk:List (Nat×TTok U)) (xs:List (TAV U)):(Q50 xs).er D tk=Qw (xs.map (TAV.er D tk)):=by
 match xs with
 | []=>rfl
 | [x]=>rfl
 | x::y::xs=>rfl
theorem Q0b (fn:Func) (args:List (TAV U)) (m:TMe U):((⟨JR 0 args,m,fn.ntmps,[]⟩:TSt U).er D)=⟨J4 0 (args.map (TAV.er D m.tk)),(m.er D).hp,(m.er D).tk,(m.er D).nx,fn.ntmps,[]⟩:=by
 show (⟨QP (TTV.er D m.tk) (JR 0 args),Qr D m.tk m.es,X5 m.tk,m.nx,fn.ntmps,[]⟩:St)=_
 rw [GQ];rfl
theorem ToW.trans {W:Wd} {P:Program} {nx0:Nat} {x y z:St} (h:ToW W P nx0 x y) (k:ToW W P nx0 y z):ToW W P nx0 x z:=fun E a b c=>(h E a b c).trans (k E a b c)
theorem ToW.weak {W:Wd} {P:Program} {nx0:Nat} {x y:St} (h:StW x y):ToW W P nx0 x y:=fun E a b c=>To.weak h
def Qac:Option Value→Exit→Prop
 | none,e=>e=.normal∨e=.ret
 | some v,e=>e=.panic (ZP v)
theorem W4 {W:Wd} {P:Program} {X:Qd7 U} (hX:X7 W D P X) {Y:Qd6 U} (fn:Func) (nx0:Nat) {s:TSt U} {u:Option Value} {β:Type} {kv:TSt U→Option β} {kd:Value→TSt U→Option β} {r:β} (hY:YOK W D P Y s.m) (h:G5 X Y s u kv kd=some r) :
  ∃ s':TSt U,SfM s.m s'.m∧s'.df=[]∧s'.tm=s.tm∧s'.nt=s.nt ∧
   ((kv s'=some r∧∀ e st1 xs,Qac u e→st1.df=[]→ToW W P nx0 (s'.er D) st1→RAs P st1 fn.results.toList xs→EndO W P fn nx0 e (s.er D) (.val (Qw xs) st1.mem)) ∨
    (∃ v,u=some v∧kd v s'=some r∧∀ e st1,Qac u e→st1.df=[]→ToW W P nx0 (s'.er D) st1→EndO W P fn nx0 e (s.er D) (.die v st1.mem))):=by
 unfold G5 at h
 split at h
 ·rename_i hd
  cases u with
  | none=>exact ⟨s,SfM.refl _,hd,rfl,rfl,.inl ⟨h,fun e st1 xs he h1 h2 h3=>.ret he h1 h2 h3⟩⟩
  | some v=>exact ⟨s,SfM.refl _,hd,rfl,rfl,.inr ⟨v,rfl,h,fun e st1 he h1 h2=>by cases he;exact .die h1 h2⟩⟩
 ·rename_i f is hd
  split at h
  ·rename_i xo hxo
   obtain ⟨q,q1,q2,q3⟩:=hX _ _ _ _ _ hY hxo _ _ _ h
   obtain ⟨is',rc,m2,ha,rfl,hdm⟩:=q1
   have eis:is'=is:=by
    have key:∀ (a b:List Nat),Zv (U:=U) a=Zv b→a=b:=by
     intro a
     induction a with
     | nil=>intro b h;cases b with
      | nil=>rfl
      | cons y b=>cases h
     | cons x a ih=>intro b h;cases b with
      | nil=>cases h
      | cons y b =>
       have h':(TAV.one (.ptr x 0):TAV U)::Zv a=.one (.ptr y 0)::Zv b:=h
       injection h' with h1 h2
       cases h1
       rw [ih b h2]
    exact (key _ _ ha).symm
   subst eis
   dsimp only [OutT.to] at q3
   have q2':SfM s.m m2:=q2
   cases hf:Z5 (XG m2.tk s.m.tk) s.tm with
   | false=>rw [hf] at q3;cases q3
   | true =>
    rw [hf,cond_true] at q3
    have hw:ToW W P nx0 ⟨(s.er D).tm,(m2.er D).hp,(m2.er D).tk,(m2.er D).nx,(s.er D).nt,[]⟩ ((⟨s.tm,m2,s.nt,[]⟩:TSt U).er D):=by
     have hz:=die_weak (D:=D) (st:=⟨s.tm,s.m,s.nt,[]⟩) (m:=m2) (fun t z hz V w v hv=>Gs hf q2'.tk hz V w v hv)
     exact ToW.weak hz
    refine ⟨⟨s.tm,m2,s.nt,[]⟩,q2',Z,Z,Z,?_⟩
    cases u with
    | none=>exact .inl ⟨q3,fun e st1 xs he h1 h2 h3=>.dret he hd hdm h1 (hw.trans h2) h3⟩
    | some v =>
     cases rc with
     | true=>exact .inl ⟨q3,fun e st1 xs he h1 h2 h3=>by cases he;exact .drec hd hdm h1 (hw.trans h2) h3⟩
     | false=>exact .inr ⟨v,rfl,q3,fun e st1 he h1 h2=>by cases he;exact .ddie hd hdm h1 (hw.trans h2)⟩
  ·cases h
theorem call_ofP {W:Wd} {P:Program} (hP:P=Tryz.prog) {X:Qd7 U} {Y:Qd6 U} {f:FuncId} {fn:Func} {c:Code} {tc:Tc U} {args:List (TAV U)} {m:TMe U} {s0:TSt U} (hT:C.T.OK P) (hD:D.OK) (hK:US W D P K) (hX:X7 W D P X) (hY:YOK W D P Y m) (hf:P.funcs[f]?=some fn) (hen:Qe P f) (hc:tc.code=c) (hb:fn.body=some c) (hle:args.length≤fn.ntmps) (hto:∀ E,To E ((⟨JR 0 args,m,fn.ntmps,[]⟩:TSt U).er D) (s0.er D)) (hsf:Sfx ⟨JR 0 args,m,fn.ntmps,[]⟩ s0)
  {R β:Type} {ret:TSt U→Option R} {pan:Value→TSt U→Option R} {p:R→Option β} {k:Exit→TSt U→Option β} {r:β} (h:JY D C K X tc Y none ret pan s0 p k=some r) {S:OutM→Prop}
  (h1:∀ e s,Sfx s0 s→k e s=some r→∃ o,S o∧EndO W P fn m.nx e (s.er D) o)
  (h2:∀ a,p a=some r→(∃ s,Sfx s0 s∧(ret s=some a∨∃ v,pan v s=some a))→(∀ s,Sfx s0 s→ret s=some a→∃ o,S o∧EndO W P fn m.nx .ret (s.er D) o)∧∀ v s,Sfx s0 s→pan v s=some a→∃ o,S o∧EndO W P fn m.nx (.panic (ZP v)) (s.er D) o):CallP W P f (args.map (TAV.er D m.tk)) (m.er D) S:=by
 have hm:P.follows .mixedOrders=true:=by rw [hP];exact Q56
 have go:(∀ E ro n Q,Fit W P none E ro→E.V0.nx≤s0.m.nx→(∀ e st' o,S o→EndO W P fn m.nx e st' o→XQ E Q e st')→XC E ro n Q tc.code (s0.er D))→CallP W P f (args.map (TAV.er D m.tk)) (m.er D) S:=by
  intro hx
  refine G8 hf hb hen (by rw [List.length_map];exact hle) (fun w0 M V0 Q hW h0 hQ=>?_) hP
  have key:=hx ⟨P,w0,M,V0⟩ none 0 Q ⟨rfl,hW,rfl⟩ (Nat.le_trans h0 hsf.nx) hQ
  rw [hc] at key
  have:=ZO (hto _) key
  rw [Q0b] at this
  exact this
 rcases JL hP hm hT hD hK hX tc (hY.mono hsf.sfm) h with ⟨e,s,hs,hk,hx⟩ | ⟨a,hp,hex,hx⟩
 ·obtain ⟨o,o1,o2⟩:=h1 e s hs hk
  exact go (fun E ro n Q ft h0 hQ=>hx E ro n Q ft h0 (hQ e _ o o1 o2))
 ·obtain ⟨o2,o3⟩:=h2 a hp hex
  exact go (fun E ro n Q ft h0 hQ=>hx E ro n Q ft h0 (fun s hs e=>let ⟨o,q1,q2⟩:=o2 s hs e;hQ _ _ o q1 q2) (fun v s hs e=>let ⟨o,q1,q2⟩:=o3 v s hs e;hQ _ _ o q1 q2))
theorem Q38 {W:Wd} {P:Program} (hP:P=Tryz.prog) {X:Qd7 U} {Y:Qd6 U} {f:FuncId} {fn:Func} {c:Code} {tc:Tc U} {args:List (TAV U)} {m:TMe U} {s0:TSt U} (hT:C.T.OK P) (hD:D.OK) (hK:US W D P K) (hX:X7 W D P X) (hY:YOK W D P Y m) (hf:P.funcs[f]?=some fn) (hen:Qe P f) (hc:tc.code=c) (hb:fn.body=some c) (hle:args.length≤fn.ntmps) (hto:∀ E,To E ((⟨JR 0 args,m,fn.ntmps,[]⟩:TSt U).er D) (s0.er D)) (hsf:Sfx ⟨JR 0 args,m,fn.ntmps,[]⟩ s0)
  {R β:Type} {ret:TSt U→Option R} {pan:Value→TSt U→Option R} {p:R→Option β} {k:Exit→TSt U→Option β} {r:β} (h:JY D C K X tc Y none ret pan s0 p k=some r) {S:OutM→Prop}
  (h1:∀ e s,Sfx s0 s→k e s=some r→∃ o,S o∧EndO W P fn m.nx e (s.er D) o)
  (h2:∀ a,p a=some r→(∃ s,Sfx s0 s∧(ret s=some a∨∃ v,pan v s=some a))→∃ o,S o∧(∀ s,Sfx s0 s→ret s=some a→EndO W P fn m.nx .ret (s.er D) o)∧∀ v s,Sfx s0 s→pan v s=some a→EndO W P fn m.nx (.panic (ZP v)) (s.er D) o):∃ o,S o∧CallO W P f (args.map (TAV.er D m.tk)) (m.er D) o:=by
 have one:∀ o,S o→CallP W P f (args.map (TAV.er D m.tk)) (m.er D) (fun o'=>o'=o)→∃ o,S o∧CallO W P f (args.map (TAV.er D m.tk)) (m.er D) o:=fun o ho h=>⟨o,ho,CallO.of_p h⟩
 have hm:P.follows .mixedOrders=true:=by rw [hP];exact Q56
 rcases JL hP hm hT hD hK hX tc (hY.mono hsf.sfm) h with ⟨e,s,hs,hk,hx⟩ | ⟨a,hp,hex,hx⟩
 ·obtain ⟨o,o1,o2⟩:=h1 e s hs hk
  refine one o o1 (G8 hf hb hen (by rw [List.length_map];exact hle) (fun w0 M V0 Q hW h0 hQ=>?_) hP)
  have key:=hx ⟨P,w0,M,V0⟩ none 0 Q ⟨rfl,hW,rfl⟩ (Nat.le_trans h0 hsf.nx) (hQ _ _ o rfl o2)
  rw [hc] at key
  have:=ZO (hto _) key
  rw [Q0b] at this
  exact this
 ·obtain ⟨o,o1,o2,o3⟩:=h2 a hp hex
  refine one o o1 (G8 hf hb hen (by rw [List.length_map];exact hle) (fun w0 M V0 Q hW h0 hQ=>?_) hP)
  have key:=hx ⟨P,w0,M,V0⟩ none 0 Q ⟨rfl,hW,rfl⟩ (Nat.le_trans h0 hsf.nx) (fun s hs e=>hQ _ _ o rfl (o2 s hs e)) (fun v s hs e=>hQ _ _ o rfl (o3 v s hs e))
  rw [hc] at key
  have:=ZO (hto _) key
  rw [Q0b] at this
  exact this
theorem Q0l {W:Wd} {P:Program} {f:FuncId} {args:List (TAV U)} {m:TMe U} {β:Type} {k:TTV U→TMe U→Option β} {d:Value→TMe U→Option β} {r:β} (h:∃ o,(∃ q:OutT U,o=q.er D∧SfM m q.m∧q.to k d=some r)∧CallO W P f (args.map (TAV.er D m.tk)) (m.er D) o):∃ q:OutT U,Q4p W D P (.fn f) args m q∧SfM m q.m∧q.to k d=some r:=by
 obtain ⟨o,⟨q,rfl,q2,q3⟩,hc⟩:=h
 exact ⟨q,hc,q2,q3⟩
theorem inlS_ok {W:Wd} {P:Program} (hP:P=Tryz.prog) (hT:C.T.OK P) (hD:D.OK) (hK:US W D P K) {X:Qd7 U} (hX:X7 W D P X) {Y:Qd6 U} {f:FuncId} {fn:Func} {c:Code} {tc:Tc U} {args:List (TAV U)} {m:TMe U} (hY:YOK W D P Y m) (hf:P.funcs[f]?=some fn) (hen:Qe P f) (hc:tc.code=c) (hb:fn.body=some c) (hle:args.length≤fn.ntmps):Q6g m (inlS D C K X Y fn tc args m) (Q4p W D P (.fn f) args m):=by
 intro β k d r hr
 have ho:∀ (s:TSt U) (u:Option Value),Sfx ⟨JR 0 args,m,fn.ntmps,[]⟩ s→G5 X Y s u (fun s=>match Q3s D C s fn.results.toList with
   | some xs=>k (Q50 xs) s.m
   | none=>none) (fun v s=>d v s.m)=some r→∃ o,(∃ q:OutT U,o=q.er D∧SfM m q.m∧q.to k d=some r)∧∀ e,Qac u e→EndO W P fn m.nx e (s.er D) o:=by
  intro s u hs hend
  obtain ⟨s',a1,a2,a3,a4,a5⟩:=W4 hX fn m.nx (hY.mono hs.sfm) hend
  have sm:SfM m s'.m:=hs.sfm.trans a1
  rcases a5 with ⟨b1,b2⟩ | ⟨v,rfl,b1,b2⟩
  ·split at b1
   ·rename_i xs hxs
    refine ⟨_,⟨.val (Q50 xs) s'.m,Z,sm,b1⟩,fun e he=>?_⟩
    have:=b2 e (s'.er D) _ he a2 (ToW.refl _ _ _ _) (Q1z hT hD hxs)
    show EndO W P fn m.nx e (s.er D) (.val ((Q50 xs).er D s'.m.tk) (s'.m.er D))
    rw [resV_er]
    exact this
   ·cases b1
  ·exact ⟨_,⟨.die v s'.m,rfl,sm,b1⟩,fun e he=>b2 e (s'.er D) he a2 (ToW.refl _ _ _ _)⟩
 refine Q0l (Q38 hP hT hD hK hX hY hf hen hc hb hle (fun E=>To.refl _ _) (Sfx.refl _) hr (fun e s hs hk=>?_) (fun a hp hex=>?_))
 ·cases e with
  | normal=>obtain ⟨o,o1,o2⟩:=ho s none hs hk;exact ⟨o,o1,o2 _ (.inl rfl)⟩
  | ret=>cases hk
  | exit j=>cases hk
  | goto l=>cases hk
  | panic c=>cases hk
  | outgrown=>cases hk
 ·obtain ⟨u,s1⟩:=a
  have hs1:Sfx ⟨JR 0 args,m,fn.ntmps,[]⟩ s1:=by
   obtain ⟨s,hs,e | ⟨v,e⟩⟩:=hex
   ·cases e;exact hs
   ·cases e;exact hs
  obtain ⟨o,o1,o2⟩:=ho s1 u hs1 hp
  exact ⟨o,o1,fun s hs e=>by cases e;exact o2 _ (.inr rfl),fun v s hs e=>by cases e;exact o2 _ rfl⟩
theorem endI_ok {P:Program} (hT:C.T.OK P) (hD:D.OK) {L:Lab U} {s0 s:TSt U} {rs:List ResultVar} {t:tup (L.sl.map (·.2))} (h:Q62 D C L s0 s rs=some t):Gc D L s0 s=some t∧∃ xs,RAs P ((lab L s0 t).er D) rs xs∧Qw xs=(Q72 D C (lab L s0 t) rs).er D (lab L s0 t).m.tk:=by
 unfold Q62 at h
 split at h
 ·rename_i t' ht
  split at h
  ·rename_i xs hxs;cases h
   refine ⟨ht,_,Q1z hT hD hxs,?_⟩
   unfold Q72
   rw [hxs]
   exact (resV_er _ _).symm
  ·cases h
 ·cases h
theorem Q4z {a b c:TSt U} (h:Sfx a b) (k:SfM b.m c.m) (e1:c.tm=b.tm) (e2:c.nt=b.nt) (hd:a.df=[]):Sfx a c:=by
 obtain ⟨h1,h2,h3,h4,h5,-⟩:=h
 have hk:=(⟨h2,h3,h4⟩:SfM a.m b.m).trans k
 exact ⟨by rw [e1];exact h1,hk.es,hk.tk,hk.nx,e2.trans h5,.inl hd⟩
theorem Q2t {W:Wd} {P:Program} (hD:D.OK) {L:Lab U} {s0 s':TSt U} {t:tup (L.sl.map (·.2))} {nx0:Nat} (hw:Q7o L s0=true) (hs:Sfx s0 s') (hp:Gc D L s0 s'=some t) (h0:nx0≤s0.m.nx):ToW W P nx0 (s'.er D) ((lab L s0 t).er D):=fun E _ _ h=>Xv hD ⟨hs,hw,hp⟩ (Nat.le_trans h h0)
theorem inlL_ok {W:Wd} {P:Program} (hP:P=Tryz.prog) (hT:C.T.OK P) (hD:D.OK) (hK:US W D P K) {X:Qd7 U} (hX:X7 W D P X) {Y:Qd6 U} {f:FuncId} {fn:Func} {c:Code} {tc:Tc U} {args:List (TAV U)} {m:TMe U} {h:HLab U} {L:Lab U} {s0:TSt U} (hY:YOK W D P Y m) (hf:P.funcs[f]?=some fn) (hen:Qe P f) (hc:tc.code=c) (hb:fn.body=some c) (hle:args.length≤fn.ntmps)
  (hl:Wg D h ⟨JR 0 args,m,fn.ntmps,[]⟩=some (L,s0)) (hd0:s0.df=[]):Q6g m (inlL D C K X Y fn tc L s0) (Q4p W D P (.fn f) args m):=by
 intro β k d r hr
 have hto:=fun E=>(Ym (E:=E) hD hl).1
 obtain ⟨-,hsf,hw⟩:=Ym (E:=⟨P,default,fun _=>False,⟨0,fun _=>0,fun _ _=>undef,fun _=>0,fun _ _=>False⟩⟩) hD hl
 obtain ⟨t,ht,hk⟩:=Ze (show Option.bind _ _=some r from hr)
 have hls:=Yk s0 t
 have ho:∀ (s:TSt U) (u:Option Value),Sfx s0 s→G5 X Y s u (fun s=>Q62 D C L s0 s fn.results.toList) (fun _ _=>none)=some t→∀ e,Qac u e→EndO W P fn m.nx e (s.er D) (.val ((Q72 D C (lab L s0 t) fn.results.toList).er D (lab L s0 t).m.tk) ((lab L s0 t).m.er D)):=by
  intro s u hs hend e he
  obtain ⟨s',a1,a2,a3,a4,a5⟩:=W4 hX fn m.nx (hY.mono (hsf.trans hs).sfm) hend
  rcases a5 with ⟨b1,b2⟩ | ⟨v,rfl,b1,b2⟩
  ·obtain ⟨q1,xs,q2,q3⟩:=endI_ok hT hD b1
   have:=b2 e ((lab L s0 t).er D) xs he hd0 (Q2t hD hw (Q4z hs a1 a3 a4 hd0) q1 hsf.nx) q2
   rw [q3] at this
   exact this
  ·cases b1
 refine Q0l (Q38 hP hT hD hK hX hY hf hen hc hb hle hto hsf ht (S:=fun o=>∃ q:OutT U,o=q.er D∧SfM m q.m∧q.to k d=some r) (fun e s hs hk'=>?_) (fun a hp hex=>?_))
 ·cases e with
  | normal=>exact ⟨_,⟨.val _ (lab L s0 t).m,rfl,(hsf.trans hls).sfm,hk⟩,ho s none hs hk' _ (.inl rfl)⟩
  | ret=>cases hk'
  | exit j=>cases hk'
  | goto l=>cases hk'
  | panic c=>cases hk'
  | outgrown=>cases hk'
 ·cases hp
  exact ⟨_,⟨.val _ (lab L s0 t).m,Z,(hsf.trans hls).sfm,hk⟩,fun s hs e=>ho s none hs e _ (.inr Z),fun v s hs e=>ho s (some v) hs e _ Z⟩
theorem endL_ok {P:Program} (hT:C.T.OK P) (hD:D.OK) {L:Lab U} {s0 s:TSt U} {rs:List ResultVar} {α:Type} {y:tup (L.sl.map (·.2))⊕α} (h:Q7e D C L s0 rs s=some y):∃ t,y=.inl t∧Gc D L s0 s=some t∧∃ xs,RAs P ((lab L s0 t).er D) rs xs∧Qw xs=(Q72 D C (lab L s0 t) rs).er D (lab L s0 t).m.tk:=by
 unfold Q7e at h
 split at h
 ·rename_i t ht;cases h
  exact ⟨t,Z,endI_ok hT hD ht⟩
 ·cases h
theorem packP_ok {pk:PK} {Ld:Lab U} {s0 s:TSt U} {α:Type} {v:Value} {y:α⊕(pk.Ty×tup (Ld.sl.map (·.2)))} (h:Q1b D pk Ld s0 v s=some y):∃ e t,y=.inr (e,t)∧v=Di pk e∧Gc D Ld s0 s=some t:=by
 unfold Q1b at h
 split at h
 ·rename_i e t he ht;cases h
  exact ⟨e,t,Z,decP_ok he,ht⟩
 ·cases h
theorem inlP_ok {W:Wd} {P:Program} (hP:P=Tryz.prog) (hT:C.T.OK P) (hD:D.OK) (hK:US W D P K) {X:Qd7 U} (hX:X7 W D P X) {Y:Qd6 U} {f:FuncId} {fn:Func} {c:Code} {tc:Tc U} {args:List (TAV U)} {m:TMe U} {h hd:HLab U} {L Ld:Lab U} {pk:PK} {s0:TSt U} (hY:YOK W D P Y m) (hf:P.funcs[f]?=some fn) (hen:Qe P f) (hc:tc.code=c) (hb:fn.body=some c) (hle:args.length≤fn.ntmps)
  (hl:Wg D h ⟨JR 0 args,m,fn.ntmps,[]⟩=some (L,s0)) (hld:UB D hd s0=some Ld) (hd0:s0.df=[]):Q6g m (inlP D C K X Y fn tc L Ld pk s0) (Q4p W D P (.fn f) args m):=by
 intro β k d r hr
 have hto:=fun E=>(Ym (E:=E) hD hl).1
 obtain ⟨-,hsf,hw⟩:=Ym (E:=⟨P,default,fun _=>False,⟨0,fun _=>0,fun _ _=>undef,fun _=>0,fun _ _=>False⟩⟩) hD hl
 have hwd:=UA hld
 obtain ⟨y,ht,hk⟩:=Ze (show Option.bind _ _=some r from hr)
 have ho:∃ o,(∃ q:OutT U,o=q.er D∧SfM m q.m∧q.to k d=some r)∧∀ (s:TSt U) (u:Option Value),Sfx s0 s→G5 X Y s u (Q7e D C L s0 fn.results.toList) (Q1b D pk Ld s0)=some y→∀ e,Qac u e→EndO W P fn m.nx e (s.er D) o:=by
  cases y with
  | inl t =>
   refine ⟨_,⟨.val _ (lab L s0 t).m,Z,(hsf.trans (Yk s0 t)).sfm,hk⟩,fun s u hs hend e he=>?_⟩
   obtain ⟨s',a1,a2,a3,a4,a5⟩:=W4 hX fn m.nx (hY.mono (hsf.trans hs).sfm) hend
   rcases a5 with ⟨b1,b2⟩ | ⟨v,rfl,b1,b2⟩
   ·obtain ⟨t',e1,q1,xs,q2,q3⟩:=endL_ok hT hD b1
    cases e1
    have:=b2 e ((lab L s0 t).er D) xs he hd0 (Q2t hD hw (Q4z hs a1 a3 a4 hd0) q1 hsf.nx) q2
    rw [q3] at this
    exact this
   ·obtain ⟨e',t',e1,-,-⟩:=packP_ok b1
    cases e1
  | inr y =>
   obtain ⟨ev,t⟩:=y
   refine ⟨_,⟨.die (Di pk ev) (lab Ld s0 t).m,Z,(hsf.trans (Yk s0 t)).sfm,hk⟩,fun s u hs hend e he=>?_⟩
   obtain ⟨s',a1,a2,a3,a4,a5⟩:=W4 hX fn m.nx (hY.mono (hsf.trans hs).sfm) hend
   rcases a5 with ⟨b1,b2⟩ | ⟨v,rfl,b1,b2⟩
   ·obtain ⟨t',e1,-⟩:=endL_ok (P:=P) hT hD b1
    cases e1
   ·obtain ⟨e',t',e1,ev',q1⟩:=packP_ok b1
    cases e1
    have:=b2 e ((lab Ld s0 t).er D) he hd0 (Q2t hD hwd (Q4z hs a1 a3 a4 hd0) q1 hsf.nx)
    rw [ev'] at this
    exact this
 obtain ⟨o,o1,o2⟩:=ho
 refine Q0l (Q38 hP hT hD hK hX hY hf hen hc hb hle hto hsf ht (S:=fun o=>∃ q:OutT U,o=q.er D∧SfM m q.m∧q.to k d=some r) (fun e s hs hk'=>?_) (fun a hp hex=>?_))
 ·cases e with
  | normal=>exact ⟨o,o1,o2 s none hs hk' _ (.inl rfl)⟩
  | ret=>cases hk'
  | exit j=>cases hk'
  | goto l=>cases hk'
  | panic c=>cases hk'
  | outgrown=>cases hk'
 ·cases hp
  exact ⟨o,o1,fun s hs e=>o2 s none hs e _ (.inr Z),fun v s hs e=>o2 s (some v) hs e _ Z⟩
theorem ptrsZ_ok:∀ {args:List (TAV U)} {is:List Nat},Q3u args=some is→args=Zv is
 | [],is,h=>by cases h;rfl
 | .agg xs::r,is,h=>by cases h
 | .one x::r,is,h=>by
  cases x with
  | ptr i off =>
   have h':cond (Nat.beq off 0) (match Q3u r with
    | some l=>some (i::l)
    | none=>none) none=some is:=h
   cases hb:Nat.beq off 0 with
   | false=>rw [hb] at h';cases h'
   | true =>
    rw [hb,cond_true] at h'
    have e:=Nat.eq_of_beq_eq_true hb
    subst e
    cases hl:Q3u r with
    | none=>rw [hl] at h';cases h'
    | some l=>rw [hl] at h';cases h';rw [ptrsZ_ok hl];rfl
  | c x=>cases h
  | pel t x off=>cases h
  | fn f caps=>cases h
  | app i ver=>cases h
  | raw x=>cases h
theorem isPtrs_er (tk:List (Nat×TTok U)) (is:List Nat):(Zv is).map (TAV.er D tk)=is.map fun i=>.one (.ptr i 0):=by
 unfold Zv
 rw [List.map_map];rfl
theorem rest_of {W:Wd} {P:Program} (hP:P=Tryz.prog) (hT:C.T.OK P) (hD:D.OK) (hK:US W D P K) {X:Qd7 U} (hX:X7 W D P X) {Y:Qd6 U} {tc:Tc U} {rc:Bool} {tm:List (Nat×TTV U)} {nt:Nat} {m:TMe U} (hY:YOK W D P Y m) {S:TMe U→Prop} (hS:∀ m2,Dv W P tc.code (QP (TTV.er D m.tk) tm) nt (m.er D) (m2.er D)→S m2):Q6g m (Qa9 D C K X Y tc rc tm nt m) (fun o=>∃ m2,o=.val (Qcf rc) m2∧S m2):=by
 intro β k d r hr
 have hm:P.follows .mixedOrders=true:=by rw [hP];exact Q56
 have one:=JL hP hm hT hD hK hX tc (st:=⟨tm,m,nt,[]⟩) hY hr
 rcases one with ⟨e,s,hs,hk,hx⟩ | ⟨s,hp,⟨s',hs',ha⟩,hx⟩
 ·cases e with
  | normal =>
   dsimp only at hk
   cases hd:Q16 s.df [] with
   | false=>rw [hd] at hk;cases hk
   | true =>
    rw [hd,cond_true] at hk
    exact ⟨.val (Qcf rc) s.m,⟨s.m,Z,hS s.m (fun E Q n hP' hW h0 hq=>hx E none n Q ⟨hP',hW,Z⟩ h0 (hq _ _ (.inl Z) (G4 hd) Z))⟩,hs.sfm,hk⟩
  | ret=>cases hk
  | exit j=>cases hk
  | goto l=>cases hk
  | panic c=>cases hk
  | outgrown=>cases hk
 ·have es:s'=s:=by
   rcases ha with e | ⟨v,e⟩
   ·exact Option.some.inj e
   ·cases e
  subst es
  dsimp only at hp
  cases hd:Q16 s'.df [] with
  | false=>rw [hd] at hp;cases hp
  | true =>
   rw [hd,cond_true] at hp
   refine ⟨.val (Qcf rc) s'.m,⟨s'.m,rfl,hS s'.m (fun E Q n hP' hW h0 hq=>hx E none n Q ⟨hP',hW,rfl⟩ h0 (fun s2 hs2 e=>?_) (fun v s2 _ e=>by cases e))⟩,hs'.sfm,hp⟩
   have:=Option.some.inj e
   subst this
   exact hq _ _ (.inr Z) (G4 hd) Z
theorem recOp_ok {P:Program} {ops:Array Oper} {d:Nat×Option Nat} {nt id:Nat} (h:Q6j ops.toList=some d) (hd:Q81 d nt=true):∃ put,Q3j P nt id ops put∧∀ (u:Value),u.oneCell'=true→∀ (E:Env) (V:Vu) (a:Act) (w:World) (tm:List (Nat×TV)) (hp:List (Nat×HB)) (tk:List (Nat×Option Tok)) (nx:Nat) (tkT:List (Nat×TTok U)) (tmT:List (Nat×TTV U)),tm=QP (TTV.er D tkT) tmT→Rel E V ⟨tm,hp,tk,nx,nt,[]⟩ a w→Rel E V ⟨QP (TTV.er D tkT) (Q80 d u tmT),hp,tk,nx,nt,[]⟩ (put a u) w:=by
 obtain ⟨l⟩:=ops
 dsimp only at h
 unfold Q6j at h
 obtain ⟨hd1,hd2⟩:=Bool.and_eq_true_iff.1 hd
 split at h
 ·rename_i d' xs ts ty pos af
  split at h
  ·rename_i hx;cases h
   have ex:=Array.ext' (ys:=#[]) hx
   subst ex
   refine ⟨_,recReg1,fun u hu E V a w tm hp tk nx tkT tmT e hr=>?_⟩
   subst e
   exact hr.put (x:=.v (.one (.d (.v u)))) (Nat.le_of_ble_eq_true hd1) (Jk hu)
  ·cases h
 ·rename_i d' xs ts ty pos af d2 d1 ty2 pos2 af2
  split at h
  ·rename_i hx
   cases hq:Nat.beq d1 d' with
   | false=>rw [hq] at h;cases h
   | true =>
    rw [hq] at h;cases h
    have e:=Nat.eq_of_beq_eq_true hq
    subst e
    have ex:=Array.ext' (ys:=#[]) hx
    subst ex
    refine ⟨_,recReg2 (Nat.le_of_ble_eq_true hd1),fun u hu E V a w tm hp tk nx tkT tmT e hr=>?_⟩
    subst e
    have h1:=hr.put (d:=d1) (x:=.v (.one (.d (.v u)))) (Nat.le_of_ble_eq_true hd1) (Jk hu)
    exact Rel.put (d:=d2) h1 (x:=.v (.one (.d (.v u)))) (Nat.le_of_ble_eq_true hd2) (Jk hu)
  ·cases h
 ·cases h
theorem inlX_ok {W:Wd} {P:Program} (hP:P=Tryz.prog) (hT:C.T.OK P) (hD:D.OK) (hK:US W D P K) {X:Qd7 U} (hX:X7 W D P X) {I:List (Nat×IH U)} (hI:IOK P I):X7 W D P (Qa8 D C K X I):=by
 intro Y c args m xo hY hx
 unfold Qa8 at hx
 split at hx
 ·cases hx
 ·rename_i f
  split at hx
  ·cases hx
  ·rename_i ih hih
   obtain ⟨hf,hen⟩:=hI.get hih
   split at hx
   ·cases hx
   ·rename_i c' tc hc
    obtain ⟨hc1,hc2⟩:=W6 hc
    cases hle:Nat.ble args.length ih.fn.ntmps with
    | false=>rw [hle] at hx;cases hx
    | true =>
     rw [hle,cond_true] at hx
     have hle':=Nat.le_of_ble_eq_true hle
     split at hx
     ·cases hx
      intro β k d r
      exact inlS_ok hP hT hD hK hX hY hf hen hc1 hc2 hle' k d r
     ·split at hx
      ·cases hx
      ·rename_i L s0 hl
       cases hd:Q16 s0.df [] with
       | false=>rw [hd] at hx;cases hx
       | true =>
        rw [hd] at hx;cases hx
        intro β k d r
        exact inlL_ok hP hT hD hK hX hY hf hen hc1 hc2 hle' hl (G4 hd) k d r
     ·split at hx
      ·cases hx
      ·rename_i L s0 hl
       split at hx
       ·cases hx
       ·rename_i Ld hld
        cases hd:Q16 s0.df [] with
        | false=>rw [hd] at hx;cases hx
        | true =>
         rw [hd] at hx;cases hx
         intro β k d r
         exact inlP_ok hP hT hD hK hX hY hf hen hc1 hc2 hle' hl hld (G4 hd) k d r
 ·rename_i f u
  split at hx
  ·cases hx
  ·rename_i ih hih
   obtain ⟨hf,hen⟩:=hI.get hih
   split at hx
   ·rename_i c' tc is hc hz
    obtain ⟨hc1,hc2⟩:=W6 hc
    have ea:=ptrsZ_ok hz
    subst ea
    cases hle:(Nat.ble (Zv (U:=U) is).length ih.fn.ntmps&&Q88 ih.fn) with
    | false=>rw [hle] at hx;cases hx
    | true =>
     rw [hle,cond_true] at hx
     obtain ⟨l1,l2⟩:=Bool.and_eq_true_iff.1 hle
     have hle':is.length≤ih.fn.ntmps:=by
      have:=Nat.le_of_ble_eq_true l1
      unfold Zv at this
      simpa using this
     have hres:ih.fn.results.toList=[]:=by
      unfold Q88 at l2
      exact List.isEmpty_iff.1 l2
     split at hx
     ·rename_i d tb hrc
      cases hd:(Q81 d ih.fn.ntmps&&(u.getD .nilIface).oneCell') with
      | false=>rw [hd] at hx;cases hx
      | true =>
       rw [hd,cond_true] at hx
       cases hx
       obtain ⟨d1,d2⟩:=Bool.and_eq_true_iff.1 hd
       have hbody:∃ id ops,Q6j ops.toList=some d∧ih.fn.body=some (.seq (.region id ops false) tb.code):=by
        unfold recC at hrc
        split at hrc
        ·rename_i id ops b
         split at hrc
         ·rename_i d' hd';cases hrc
          exact ⟨id,ops,hd',by rw [hc2,← hc1];rfl⟩
         ·cases hrc
        ·cases hrc
       obtain ⟨id,ops,hro,hbody⟩:=hbody
       obtain ⟨put,hreg,hput⟩:=recOp_ok (U:=U) (D:=D) (P:=P) (id:=id) hro d1
       have:=rest_of (rc:=true) (tc:=tb) (tm:=Q80 d (u.getD .nilIface) (JR 0 (Zv is))) (nt:=ih.fn.ntmps) hP hT hD hK hX hY (S:=fun m2=>DefM W P f is u (m.er D) (m2.er D) true) (fun m2 h=>DefM.of_rec hf hbody hen hle' hres hreg (fun E V a w hr=>hput _ d2 E V a w _ _ _ _ m.tk (JR 0 (Zv is)) (by rw [GQ,isPtrs_er]) hr) h hP)
       intro β k dd r hr
       obtain ⟨q,⟨m2,rfl,q1⟩,q2,q3⟩:=this k dd r hr
       exact ⟨_,⟨is,true,m2,Z,Z,q1⟩,q2,q3⟩
     ·cases hx
      have:=rest_of (rc:=false) (tc:=tc) (tm:=JR 0 (Zv is)) (nt:=ih.fn.ntmps) hP hT hD hK hX hY (S:=fun m2=>DefM W P f is u (m.er D) (m2.er D) false) (fun m2 h=>DefM.of_rest hf hc2 hen hle' hres (by
        rw [GQ,isPtrs_er,hc1] at h
        exact h) hP)
      intro β k dd r hr
      obtain ⟨q,⟨m2,rfl,q1⟩,q2,q3⟩:=this k dd r hr
      exact ⟨_,⟨is,false,m2,Z,Z,q1⟩,q2,q3⟩
   ·cases hx
theorem Z3 {W:Wd} {P:Program} {T X:Qd7 U} (hT:X7 W D P T) (hX:X7 W D P X):X7 W D P (Qbc T X):=by
 intro Y c args m xo hY h
 unfold Qbc at h
 split at h
 ·rename_i h';cases h;exact hT Y c args m _ hY h'
 ·exact hX Y c args m xo hY h
theorem YE {W:Wd} {P:Program} (hP:P=Tryz.prog) (hT:C.T.OK P) (hD:D.OK) (hK:US W D P K) {T:Qd7 U} (hTb:X7 W D P T) {I:List (Nat×IH U)} (hI:IOK P I):∀ n,X7 W D P (inlN D C K T I n)
 | 0=>hTb
 | n+1=>Z3 hTb (inlX_ok hP hT hD hK (YE hP hT hD hK hTb hI n) hI)
end
end
section
open Go.RowKit
def OutM.ren (ρ:Nat→Nat) (hpF:List (Nat×HB)) (tkF:List (Nat×Option Tok)) (nx2:Nat):OutM→OutM
 | .val x m=>.val (x.ren ρ) ⟨JW ρ m.hp++hpF,Yl ρ m.tk++tkF,nx2⟩
 | .die v m=>.die v ⟨JW ρ m.hp++hpF,Yl ρ m.tk++tkF,nx2⟩
def OutM.m:OutM→Mem
 | .val _ m=>m
 | .die _ m=>m
theorem CallO.ren {W:Wd} {P:Program} {f:FuncId} {args0:List AV} {hp0 hpF hp:List (Nat×HB)} {tk0 tkF tk:List (Nat×Option Tok)} {nx0 nx2 n:Nat} {o:OutM} (rs:List Nat) (hc:CallO W P f args0 ⟨hp0,tk0,nx0⟩ o)
  (hh:hpLe hp (JW (K7 rs n) hp0)) (ht:tkLe tk (Yl (K7 rs n) tk0)) (hhF:hpLe hp hpF) (htF:tkLe tk tkF) (hl:rs.length=nx0) (hnd:rs.Nodup) (hlt:∀ j∈rs,j < n) (d1:∀ i B,Qcq hpF i=some B→i∉rs) (d2:∀ i T,Qcq tkF i=some (some T)→i∉rs)
  (b0:hpBelow nx0 hp0) (c0:tkBelow nx0 tk0) (ba:∀ y∈args0,y.below nx0) (hle:nx0≤o.m.nx) (hn:o.m.nx+n=nx2+nx0) :
  CallO W P f (args0.map (AV.ren (K7 rs n))) ⟨hp,tk,n⟩ (o.ren (K7 rs n) hpF tkF nx2):=by
 have hen:Qe P f:=by cases o <;> exact hc.1
 have inj:∀ i j,K7 rs n i=K7 rs n j→i=j:=fun i j h=>rho_inj hnd hlt h
 refine YI hen fun E V w vs hP hWp H hnx hargs=>?_
 dsimp only at H hnx
 have h0:=(H.forgetLe hh ht).part inj b0 c0
 have har:argsRel (pull (K7 rs n) V nx0) w args0 vs:=by
  obtain ⟨h1,h2⟩:=hargs
  refine ⟨by simpa using h1,fun i y hy=>?_⟩
  obtain ⟨u,hu,hyu⟩:=h2 i (y.ren _) (by rw [List.getElem?_map,hy];rfl)
  exact ⟨u,hu,hyu.pull (ba y (List.mem_of_getElem? hy))⟩
 have turn:∀ {V1:Vu} {hp1:List (Nat×HB)} {tk1:List (Nat×Option Tok)} {nx1:Nat} {w':World},nx0≤nx1→nx1+n=nx2+nx0→V1.nx=nx1→HRel ⟨E.P,w,X2 V (JW (K7 rs n) hp0) (Yl (K7 rs n) tk0),pull (K7 rs n) V nx0⟩ V1 hp1 tk1 w'→HRel E (ZF (K7 rs n) V V1 nx2) (JW (K7 rs n) hp1++hpF) (Yl (K7 rs n) tk1++tkF) w'∧V.Le (ZF (K7 rs n) V V1 nx2) w w'∧Via (K7 rs n) V1 (ZF (K7 rs n) V V1 nx2):=fun hle hn hn1 Hr =>
  H.turn (n:=nx2) inj hh ht hhF htF (fun i hi=>by rw [hnx];exact hlt _ (KG (by omega))) (fun i hi=>by rw [Ws (by omega),hnx,hl])
   (fun i B hi k hk e=>d1 i B hi (by rw [← e];exact KG (by omega))) (fun i T hi k hk e=>d2 i T hi (by rw [← e];exact KG (by omega))) b0 c0 (by rw [hn1,hnx];exact hn) (by rw [hn1];exact hle) Hr
 cases o with
 | val x m =>
  refine (hc.2 ⟨E.P,w,X2 V _ _,pull (K7 rs n) V nx0⟩ (pull (K7 rs n) V nx0) w vs hP hWp h0 Z har).mono ?_
  rintro e w' ⟨v,V1,rfl,H1,hn1,L,hres⟩
  obtain ⟨H2,L2,L3⟩:=turn hle hn hn1 H1
  exact ⟨v,_,Z,H2,Z,L2,hres.via L3⟩
 | die pv m =>
  refine (hc.2 ⟨E.P,w,X2 V _ _,pull (K7 rs n) V nx0⟩ (pull (K7 rs n) V nx0) w vs hP hWp h0 Z har).mono ?_
  rintro e w' ⟨V1,rfl,H1,hn1,L⟩
  obtain ⟨H2,L2,L3⟩:=turn hle hn hn1 H1
  exact ⟨_,Z,H2,Z,L2⟩
theorem CallO.pre {W:Wd} {P:Program} {f:FuncId} {args:List AV} {m m0:Mem} {o:OutM} (hh:∀ i B,Qcq m0.hp i=some B→∃ A,Qcq m.hp i=some A∧∀ V w o,A.rel V w o→B.rel V w o) (ht:∀ i T,Qcq m0.tk i=some (some T)→Qcq m.tk i=some (some T)) (hn:m.nx=m0.nx) (hc:CallO W P f args m0 o):CallO W P f args m o:=by
 have hen:Qe P f:=by cases o <;> exact hc.1
 refine YI hen fun E V w vs hP hWp H hnx hargs=>?_
 cases o with
 | val x m'=>exact hc.2 E V w vs hP hWp (H.weak hh ht) (hnx.trans hn) hargs
 | die v m'=>exact hc.2 E V w vs hP hWp (H.weak hh ht) (hnx.trans hn) hargs
def OutM.with (m':Mem):OutM→OutM
 | .val x _=>.val x m'
 | .die v _=>.die v m'
theorem CallO.post {W:Wd} {P:Program} {f:FuncId} {args:List AV} {m m':Mem} {o:OutM} (hh:∀ i B,Qcq m'.hp i=some B→∃ A,Qcq o.m.hp i=some A∧∀ V w o,A.rel V w o→B.rel V w o) (ht:∀ i T,Qcq m'.tk i=some (some T)→Qcq o.m.tk i=some (some T)) (hn:m'.nx=o.m.nx) (hc:CallO W P f args m o):CallO W P f args m (o.with m'):=by
 have hen:Qe P f:=by cases o <;> exact hc.1
 refine YI hen fun E V w vs hP hWp H hnx hargs=>?_
 cases o with
 | val x m1 =>
  refine (hc.2 E V w vs hP hWp H hnx hargs).mono ?_
  rintro e w' ⟨v,V1,rfl,H1,hn1,L,hres⟩
  exact ⟨v,V1,Z,H1.weak hh ht,hn1.trans hn.symm,L,hres⟩
 | die v m1 =>
  refine (hc.2 E V w vs hP hWp H hnx hargs).mono ?_
  rintro e w' ⟨V1,rfl,H1,hn1,L⟩
  exact ⟨V1,Z,H1.weak hh ht,hn1.trans hn.symm,L⟩
theorem CallO.args {W:Wd} {P:Program} {f:FuncId} {args args':List AV} {m:Mem} {o:OutM} (ha:∀ V w vs,argsRel V w args' vs→argsRel V w args vs) (hc:CallO W P f args m o):CallO W P f args' m o:=by
 have hen:Qe P f:=by cases o <;> exact hc.1
 refine YI hen fun E V w vs hP hWp H hnx hargs=>?_
 cases o with
 | val x m'=>exact hc.2 E V w vs hP hWp H hnx (ha V w vs hargs)
 | die v m'=>exact hc.2 E V w vs hP hWp H hnx (ha V w vs hargs)
end
section
open Go.RowKit
section
variable {U:Univ} (D:Codec U)
variable (U) in
structure KF where
 args:List (AK U)
 res:List (AK U)
 m:tup args→Option (tup res)
def Q7g (k:AK U) (x:TAV U):Option k.Ty:=cond (Ya k&&Q40 k x) (Q66 D [] k x) none
def Q65:(ks:List (AK U))→List (TAV U)→Option (tup ks)
 | [],[]=>some ()
 | [k],[x]=>Q7g D k x
 | k::k2::r,x::xs=>match Q7g D k x with
  | some a=>match Q65 (k2::r) xs with
   | some b=>some (a,b)
   | none=>none
  | none=>none
 | _,_=>none
def Q3y (rk:List (AK U)) (r:tup rk):TTV U:=match KN rk r with
 | [x]=>.v x
 | xs=>.tup xs
def tblK (tb:List (Nat×KF U)) (f:FuncId) (args:List (TAV U)):Option (KR U):=match Qcq tb f with
 | some kf=>match Q65 D kf.args args with
  | some v=>some ⟨tup kf.res,kf.m v,Q3y kf.res⟩
  | none=>none
 | none=>none
def Jo (W:Wd) (P:Program) (f:Nat) (kf:KF U):Prop:=kf.res.all Ya=true∧∀ v r,kf.m v=some r→FunW W P f (QG D kf.args v) (Qw (QG D kf.res r))
variable {D}
theorem Xd {tk:List (Nat×TTok U)}:∀ {xs ys:List (It U)},JT [] xs=some ys→JT tk xs=some ys
 | [],ys,h=>h
 | .grp t x::r,ys,h=>by
  unfold JT at h ⊢
  split at h
  ·rename_i zs hz;rw [Xd hz];exact h
  ·cases h
 | .one x::r,ys,h=>by
  unfold JT at h ⊢
  split at h
  ·rename_i y zs hy hz
   rw [Xd hz]
   have e:K6 tk x=some y:=by
    cases x with
    | c x=>exact hy
    | app i ver=>cases hy
    | ptr i off=>cases hy
    | pel t x off=>cases hy
    | fn f caps=>cases hy
    | raw x=>cases hy
   rw [e];exact h
  ·cases h
theorem bldT_nil {tk:List (Nat×TTok U)} {t:U.T} {xs:List (It U)} {x:U.R t} (h:Q0p D [] t xs=some x):Q0p D tk t xs=some x:=by
 have key:∀ L:List (It U),(match JT [] L with
   | some ys=>D.bld t ys
   | none=>none)=some x→(match JT tk L with
   | some ys=>D.bld t ys
   | none=>none)=some x:=by
  intro L hL
  split at hL
  ·rename_i ys hy;rw [Xd hy];exact hL
  ·cases hL
 cases xs with
 | nil=>exact key [] h
 | cons a r =>
  cases r with
  | nil =>
   cases a with
   | grp t' y=>exact h
   | one y=>exact key [.one y] h
  | cons b r=>cases a <;> exact key _ h
theorem lsub_of {xs:List CA} {cs:List C} (h:CSubs xs cs):LSub xs (cs.map .d):=by
 induction h with
 | nil=>exact .nil
 | cons h t ih=>exact .cons h ih
theorem Dt (hD:D.OK) (tk:List (Nat×TTok U)) (t:U.T) (x:U.R t):Jm D tk [It.grp t x]=((U.E t).enc x).map .d:=by
 unfold Jm
 rw [Kw,Q1i hD]
theorem U1 {tk:List (Nat×TTok U)} {x:TAV U} {c:C} (h:∃ y,x=.one y∧CSub (y.er tk) c):ASub (x.er D tk) (.one (.d c)):=by
 obtain ⟨y,rfl,h⟩:=h
 exact .one h
theorem sl_csub {tk:List (Nat×TTok U)} {t:U.T} {x:TAV U} {l:List (U.R t)} (h:KB [] t (.v x)=some l):∃ y,x=.one y∧CSub (y.er tk) (.sl (U.E t).sz ((U.E t).encL l)):=by
 cases x with
 | agg xs=>cases h
 | one y =>
  refine ⟨y,Z,?_⟩
  cases y with
  | c z =>
   cases z with
   | v w =>
    unfold KB at h
    split at h
    ·rename_i heq;cases heq
    ·rename_i heq
     cases heq
     cases h
     have e:(U.E t).encL []=[]:=(U.E t).nil
     rw [e]
     exact .nil _
    ·rename_i heq;cases heq
    ·cases h
   | str s=>cases h
   | sl t' l' =>
    have h':KO t' t l'=some l:=h
    obtain ⟨e,rfl⟩:=YS h'
    subst e
    exact .d _
  | ptr i off=>cases h
  | pel t x off=>cases h
  | fn f caps=>cases h
  | app i ver=>cases h
  | raw x=>cases h
theorem dec1_asub (hD:D.OK) {k:AK U} {x:TAV U} {v:k.Ty} (h:Q7g D k x=some v) (tk:List (Nat×TTok U)):ASub (x.er D tk) ((Gj k v 0).er D []):=by
 unfold Q7g at h
 cases hc:(Ya k&&Q40 k x) with
 | false=>rw [hc] at h;cases h
 | true =>
  rw [hc,cond_true] at h
  obtain ⟨b1,b2⟩:=Bool.and_eq_true_iff.1 hc
  cases k with
  | app i e t=>cases b1
  | ptr i o=>cases b1
  | any=>cases b1
  | int k =>
   refine U1 ?_
   replace h:Q0f k x=some v:=h
   unfold Q0f at h
   split at h
   ·rename_i k0 a
    cases hk:decide (k0=k) with
    | false=>rw [hk] at h;cases h
    | true =>
     rw [hk] at h;cases h
     have e:=of_decide_eq_true hk
     subst e
     exact ⟨_,Z,CSub.d _⟩
   ·cases h
  | bool =>
   refine U1 ?_
   replace h:U6 x=some v:=h
   unfold U6 at h
   split at h
   ·cases h;exact ⟨_,rfl,.d _⟩
   ·cases h
  | str =>
   refine U1 ?_
   replace h:Q0e x=some v:=h
   unfold Q0e at h
   split at h
   ·cases h;exact ⟨_,rfl,.d _⟩
   ·cases h
  | sl t =>
   exact U1 (sl_csub h)
  | stc t =>
   cases x with
   | one y=>cases b2
   | agg xs =>
    have key:∀ (w:U.R t),Q0p D [] t xs=some w→ASub (AV.agg (Jm D tk xs)) (AV.agg (Jm D [] [It.grp t w])):=by
     intro w hw
     rw [Dt hD]
     exact .agg (lsub_of (Du hD (bldT_nil (tk:=tk) hw)))
    exact key v h
theorem UH (hD:D.OK):∀ {ks:List (AK U)} {xs:List (TAV U)} {v:tup ks},Q65 D ks xs=some v→∀ tk,ASubL (xs.map (TAV.er D tk)) (QG D ks v)
 | [],[],v,h,tk=>.nil
 | [],x::xs,v,h,tk=>by cases h
 | [k],[],v,h,tk=>by cases h
 | [k],[x],v,h,tk=>.cons (dec1_asub hD h tk) .nil
 | [k],x::y::xs,v,h,tk=>by cases h
 | k::k2::r,[],v,h,tk=>by cases h
 | k::k2::r,x::xs,v,h,tk=>by
  have h2:(match Q7g D k x with
   | some a=>match Q65 D (k2::r) xs with
    | some b=>(some (a,b):Option (k.Ty×tup (k2::r)))
    | none=>none
   | none=>none)=some v:=h
  cases ha:Q7g D k x with
  | none=>rw [ha] at h2;cases h2
  | some a =>
   rw [ha] at h2
   dsimp only at h2
   cases hb:Q65 D (k2::r) xs with
   | none=>rw [hb] at h2;cases h2
   | some b =>
    rw [hb] at h2;cases h2
    exact .cons (dec1_asub hD ha tk) (UH hD hb tk)
theorem WH (hD:D.OK) (tk:List (Nat×TTok U)):∀ {rk:List (AK U)} (r:tup rk),rk.all Ya=true→(KN rk r).map (TAV.er D tk)=QG D rk r
 | [],r,h=>rfl
 | [k],r,h=>by
  have hk:=(Bool.and_eq_true_iff.1 (show (Ya k&&true)=true from h)).1
  show [(Gj k r 0).er D tk]=[(Gj k r 0).er D []]
  rw [encK_data hD hk r tk []]
 | k::k2::rk,r,h=>by
  obtain ⟨hk,hr⟩:=Bool.and_eq_true_iff.1 (show (Ya k&&(k2::rk).all Ya)=true from h)
  have ih:=WH hD tk (rk:=k2::rk) r.2 hr
  show (Gj k r.1 0).er D tk::(KN (k2::rk) r.2).map _=(Gj k r.1 0).er D []::QG D (k2::rk) r.2
  rw [encK_data hD hk r.1 tk [],ih]
theorem outT_er (hD:D.OK) (tk:List (Nat×TTok U)) {rk:List (AK U)} (r:tup rk) (h:rk.all Ya=true):(Q3y rk r).er D tk=Qw (QG D rk r):=by
 have e:=WH hD tk r h
 rw [← e]
 unfold Q3y
 split
 ·rename_i x hx;rw [hx];rfl
 ·rename_i xs hne
  show TV.tup ((KN rk r).map _)=_
  cases hl:KN rk r with
  | nil=>rfl
  | cons a l =>
   cases l with
   | nil=>exact (hne a hl).elim
   | cons b l=>rfl
theorem Qo (hD:D.OK) {P:Program} {tb:List (Nat×KF U)} {W:Wd} (h:AllT (Jo D W P) tb):US W D P (tblK D tb):=by
 intro f args kr a hk ho
 unfold tblK at hk
 split at hk
 ·rename_i kf hf
  split at hk
  ·rename_i v hv;cases hk
   obtain ⟨h1,h2⟩:=h.get hf
   refine ⟨QG D kf.args v,UH hD hv,fun tk=>?_⟩
   show FunW W P f _ ((Q3y kf.res a).er D tk)
   rw [outT_er hD tk a h1]
   exact h2 v a ho
  ·cases hk
 ·cases hk
def Q87:Qd6 U:=fun _ _ _=>none
theorem Q27 {W:Wd} {P:Program} (m:TMe U):YOK W D P (Q87 (U:=U)) m:=fun L args m xo _ h=>by cases h
def noX:Qd7 U:=fun _ _ _ _=>none
theorem J2 {W:Wd} {P:Program}:X7 W D P (noX (U:=U)):=fun Y c args m xo _ h=>by cases h
section
variable (D) (C:TCfg U) (K:FuncId→List (TAV U)→Option (KR U)) (X:Qd7 U)
def Q7x (fn:Func) (H:Hints U) (args:List (TAV U)) (rk:List (AK U)):Option (tup rk):=match UJ fn.body H with
 | none=>none
 | some (_,tc)=>cond (Nat.ble args.length fn.ntmps) (JY D C K X tc Q87 none (R:=tup rk) (fun s=>G5 X Q87 s none (fun s=>Q36 D C s rk fn.results.toList) fun _ _=>none) (fun v s=>G5 X Q87 s (some v) (fun s=>Q36 D C s rk fn.results.toList) fun _ _=>none) ⟨JR 0 args,⟨[],[],0⟩,fn.ntmps,[]⟩ some fun e s=>match e with
   | .normal=>G5 X Q87 s none (fun s=>Q36 D C s rk fn.results.toList) fun _ _=>none
   | _=>none) none
end
def Qai (D:Codec U) (rk:List (AK U)) (r:tup rk) (o:OutM):Prop:=∃ xs m',o=.val (Qw xs) m'∧xs.length=(QG D rk r).length∧∀ (i:Nat) (y:AV),(QG D rk r)[i]?=some y→∃ x,xs[i]?=some x∧∀ V w v,x.rel V w v→y.rel (Yh V.S) w v
theorem FunW.of_p {W:Wd} {P:Program} {f:FuncId} {args:List AV} {rk:List (AK U)} {r:tup rk} (h:CallP W P f args mem0 (Qai D rk r)):FunW W P f args (Qw (QG D rk r)):=by
 refine ⟨h.1,fun S w vs hS hWp ha=>(h.2 (Q8z P w S) (Yh S) w vs Z hWp (Q6s hS) Z ha).mono ?_⟩
 rintro e w' ⟨o,⟨xs,m',rfl,hl,hs⟩,v,V',rfl,H,hn,L,hv⟩
 refine ⟨v,V'.S,Z,H.ext,H.le0.S,fun b o h=>⟨?_,H.sz b o h⟩,res_weak hl hs hv⟩
 rcases H.sub b o h with h1 | h1 | h1
 ·exact .inl h1
 ·exact .inr h1
 ·exact h1.elim
theorem Q0c:∀ {rk:List (AK U)} {v:tup rk} {x:TAV U},x∈KN rk v→∃ k∈rk,∃ a:k.Ty,x=Gj k a 0
 | [],v,x,h=>by cases h
 | [k],v,x,h=>⟨k,List.mem_cons_self ..,v,List.mem_singleton.1 h⟩
 | k::k2::rk,v,x,h=>by
  have h':x∈Gj k v.1 0::KN (k2::rk) v.2:=h
  rcases List.mem_cons.1 h' with e | h2
  ·exact ⟨k,List.mem_cons_self ..,v.1,e⟩
  ·obtain ⟨k',h3,a,e⟩:=Q0c h2
   exact ⟨k',List.mem_cons_of_mem _ h3,a,e⟩
theorem tcall_ok {C:TCfg U} {K:FuncId→List (TAV U)→Option (KR U)} {X:Qd7 U} {P:Program} (hP:P=Tryz.prog) (hT:C.T.OK P) (hD:D.OK) {W:Wd} (hK:US W D P K) (hX:X7 W D P X) {f:FuncId} {fn:Func} (hf:P.funcs[f]?=some fn) (hen:Qe P f) {H:Hints U} {args:List (TAV U)} {rk:List (AK U)} {r:tup rk} (h:Q7x D C K X fn H args rk=some r) :
  FunW W P f (args.map (TAV.er D [])) (Qw (QG D rk r)):=by
 unfold Q7x at h
 split at h
 ·cases h
 ·rename_i c tc hc
  obtain ⟨hc1,hc2⟩:=W6 hc
  cases hl:Nat.ble args.length fn.ntmps with
  | false=>rw [hl] at h;cases h
  | true =>
   rw [hl,cond_true] at h
   have ho:∀ (s:TSt U) (u:Option Value),G5 X Q87 s u (fun s=>Q36 D C s rk fn.results.toList) (fun _ _=>none)=some r→∀ e,Qac u e→∃ o,Qai D rk r o∧EndO W P fn 0 e (s.er D) o:=by
    intro s u hend e he
    obtain ⟨s',a1,a2,a3,a4,a5⟩:=W4 hX fn 0 (Q27 s.m) hend
    rcases a5 with ⟨b1,b2⟩ | ⟨v,rfl,b1,b2⟩
    ·obtain ⟨xs,q1,q2,q3⟩:=decR_ok (P:=P) hT hD b1
     exact ⟨_,⟨xs,_,Z,q2,q3⟩,b2 e (s'.er D) xs he a2 (ToW.refl _ _ _ _) q1⟩
    ·cases b1
   refine FunW.of_p (call_ofP (m:=⟨[],[],0⟩) hP hT hD hK hX (Q27 _) hf hen hc1 hc2 (Nat.le_of_ble_eq_true hl) (fun E=>To.refl _ _) (Sfx.refl _) h (S:=Qai D rk r) (fun e s hs hk=>?_) (fun a hp hex=>?_))
   ·cases e with
    | normal=>exact ho s none hk _ (.inl rfl)
    | ret=>cases hk
    | exit j=>cases hk
    | goto l=>cases hk
    | panic c=>cases hk
    | outgrown=>cases hk
   ·cases hp
    exact ⟨fun s hs e=>ho s none e _ (.inr Z),fun v s hs e=>ho s (some v) e _ Z⟩
theorem Js {C:TCfg U} {K:FuncId→List (TAV U)→Option (KR U)} {X:Qd7 U} {P:Program} (hP:P=Tryz.prog) (hT:C.T.OK P) (hD:D.OK) {W:Wd} (hK:US W D P K) (hX:X7 W D P X) {f:FuncId} {fn:Func} (hf:P.funcs[f]?=some fn) (hen:Qe P f) (H:Hints U) (kf:KF U) (hd:kf.res.all Ya=true)
  (h:∀ v,Q7x D C K X fn H (KN kf.args v) kf.res=kf.m v):Jo D W P f kf:=⟨hd,fun v r hr=>tcall_ok hP hT hD hK hX hf hen ((h v).trans hr)⟩
variable (U) in
structure KP where
 args:List (AK U)
 res:List (AK U)
 pk:PK
 m:tup args→Option (tup res⊕pk.Ty)
end
end
end Go.Proofs.YtjcfppnjamjjhaaGreatDoor
