/- Part 2 of the proof: rules, mirrors and plain laws. The card of TextSpaces is proved here: for every string and every byte the law returns true, and the arguments read behind the call as they did before; condition: the listed package-level variables hold what the text of the program lays (tied). -/
import Derived.Test.YtjcfppnjamjjhaaGreatDoorK71
import Derived.Lib.Bytes
import Derived.Laws.Cover3
import Derived.Laws.BytesArg
import Derived.Shelf.Abstract
import Derived.Shelf.Strings.SlTrimAscii
import Derived.Shelf.Strings.Prefix
import Derived.Shelf.Small.Strs
import Derived.Shelf.Strings.OnBuilder
import Derived.Shelf.Strconv.Atoi
import Derived.Shelf.Strconv.Itoa3
import Derived.Ground.NamesProg
import Derived.Test.YtjcfppnjamjjhaaGreatDoorProg
import Derived.Lib.AppendStr
set_option maxHeartbeats 2000000
set_option maxRecDepth 100000
set_option linter.unusedSimpArgs false
set_option linter.unusedVariables false
set_option linter.unusedSectionVars false
namespace Go.Proofs.YtjcfppnjamjjhaaGreatDoor
noncomputable section
section
open Go.RowKit
abbrev Qt:=List (Int×Int×Nat)×Nat
def Jz (l:List (Int×Int×Nat)):List (Value×AV×Nat):=l.map fun e=>(.int .i64 e.1,.one (.d (.v (.int .i64 e.2.1))),e.2.2)
def Yl (k:Int):List (Int×Int×Nat)→Nat→Option (Nat×Int)
 | [],_=>none
 | e::l,i=>cond (k==e.1) (some (i,e.2.1)) (Yl k l (i+1))
def Kb (M:Qt) (k:Int):Option Int:=(Yl k M.1 0).map (·.2)
def YM (M:Qt) (k:Int):Int:=(Kb M k).getD 0
def Dn (M:Qt) (k:Int):Bool:=(Kb M k).isSome
def Wf (M:Qt) (k v:Int):Qt:=match Yl k M.1 0 with
 | some (j,_)=>(M.1.modify j fun e=>(k,v,e.2.2),M.2)
 | none=>(M.1++[(k,v,M.2)],M.2+1)
def imNil:Qt:=([],0)
theorem mpBelow_im {m:Nat} {l:List (Int×Int×Nat)}:Q8k m (Jz l)=True:=by
 refine eq_true fun e he=>?_
 obtain ⟨x,-,rfl⟩:=Cw.1 he
 trivial
theorem Dr (k:Int):∀ (l:List (Int×Int×Nat)) (i:Nat),Q49 (.int .i64 k) (Jz l) i=some ((Yl k l i).map fun p=>(p.1,.one (.d (.v (.int .i64 p.2)))))
 | [],i=>rfl
 | e::l,i=>by
  have ih:=Dr k l (i+1)
  simp only [Jz] at ih
  simp only [Jz,CF,Q49,W9,decide_true,C6,Yl]
  cases h:k==e.1 with
  | true=>rfl
  | false=>simp only [Ce];exact ih
theorem imE_modify (l:List (Int×Int×Nat)) (j:Nat) (k v:Int):Jz (l.modify j fun e=>(k,v,e.2.2))=(Jz l).modify j fun e=>(.int .i64 k,.one (.d (.v (.int .i64 v))),e.2.2):=by
 unfold Jz
 apply Sj
 intro i
 rw [Cl,Sr,Sr,Cl]
 cases l[i]? with
 | none=>by_cases h:j=i <;> simp [h]
 | some e=>by_cases h:j=i <;> simp [h]
section
variable {E:Env} {st:St} {dd:Option Tmp} {ty:TypeId} {pos:String} {af:Array Edge} {g:Option (Nat×Bool)}
theorem RO.lookupT {t:TypeId} {o1 o2:Operand} {i:Nat} {M:Qt} {k:Int} (ht:UM E.P t=some (true,.one (.d (.v (.int .i64 0))))) (h1:ev st.tm o1=some (.v (.one (.mp i)))) (h2:ev st.tm o2=some (Qr6 k)) (hi:Qq8 st.hp i=some (.mp (Jz M.1) M.2)) :
  RO E ⟨dd,.lookup t o1 o2 true,ty,pos,af,g⟩ st (.tup [.one (.d (.v (.int .i64 (YM M k)))),.one (.d (.v (.bool (Dn M k))))]):=by
 have hf:=Dr k M.1 0
 unfold YM Dn Kb
 cases h:Yl k M.1 0 with
 | none=>rw [h] at hf;exact WQ (E:=E) (dd:=dd) (ty:=ty) (pos:=pos) (af:=af) (g:=g) ht h1 h2 rfl hi hf true
 | some p=>rw [h] at hf;exact WQ (E:=E) (dd:=dd) (ty:=ty) (pos:=pos) (af:=af) (g:=g) ht h1 h2 rfl hi hf true
theorem RO.lookupF {t:TypeId} {o1 o2:Operand} {i:Nat} {M:Qt} {k:Int} (ht:UM E.P t=some (true,.one (.d (.v (.int .i64 0))))) (h1:ev st.tm o1=some (.v (.one (.mp i)))) (h2:ev st.tm o2=some (Qr6 k)) (hi:Qq8 st.hp i=some (.mp (Jz M.1) M.2)) :
  RO E ⟨dd,.lookup t o1 o2 false,ty,pos,af,g⟩ st (Qr6 (YM M k)):=by
 have hf:=Dr k M.1 0
 unfold YM Kb
 cases h:Yl k M.1 0 with
 | none=>rw [h] at hf;exact WQ (E:=E) (dd:=dd) (ty:=ty) (pos:=pos) (af:=af) (g:=g) ht h1 h2 rfl hi hf false
 | some p=>rw [h] at hf;exact WQ (E:=E) (dd:=dd) (ty:=ty) (pos:=pos) (af:=af) (g:=g) ht h1 h2 rfl hi hf false
theorem OpOK.mapSetI {t:TypeId} {o1 o2 o3:Operand} {i:Nat} {M:Qt} {k v:Int} (ht:UM E.P t=some (true,.one (.d (.v (.int .i64 0))))) (h1:ev st.tm o1=some (.v (.one (.mp i)))) (h2:ev st.tm o2=some (Qr6 k)) (h3:ev st.tm o3=some (Qr6 v)) (hi:Qq8 st.hp i=some (.mp (Jz M.1) M.2)) (hdd:dd=none) :
  OpOK E ⟨dd,.mapUpdate t o1 o2 o3,ty,pos,af,g⟩ st (.tup []) ⟨(i,.mp (Jz (Wf M k v).1) (Wf M k v).2)::QD i st.hp,st.tk,st.nx⟩:=by
 have hf:=Dr k M.1 0
 unfold Wf
 cases h:Yl k M.1 0 with
 | none =>
  rw [h] at hf
  have e:Jz (M.1++[(k,v,M.2)])=Jz M.1++[(.int .i64 k,.one (.d (.v (.int .i64 v))),M.2)]:=by simp [Jz]
  dsimp only
  rw [e];exact Ww (E:=E) (dd:=dd) (ty:=ty) (pos:=pos) (af:=af) (g:=g) ht h1 h2 h3 rfl hi hf hdd
 | some p =>
  rw [h] at hf
  dsimp only
  rw [imE_modify];exact Ww (E:=E) (dd:=dd) (ty:=ty) (pos:=pos) (af:=af) (g:=g) ht h1 h2 h3 rfl hi hf hdd
theorem OpOK.makeMapI {t:TypeId}:OpOK E ⟨dd,.makeMap t none,ty,pos,af,g⟩ st (.v (.one (.mp st.nx))) ⟨(st.nx,.mp (Jz imNil.1) imNil.2)::st.hp,st.tk,st.nx+1⟩:=OpOK.makeMap
end
end
section
open Go.RowKit
def Uj {α:Type} [BEq α]:List α→Bool
 | []=>true
 | x::l=>cond (l.any fun y=>x==y) false (Uj l)
theorem DX {α:Type} [BEq α] [LawfulBEq α]:∀ {l:List α},Uj l=true→l.Nodup
 | [],_=>Si
 | x::l,h=>by
  simp only [Uj] at h
  cases h1:l.any fun y=>x==y with
  | true=>rw [h1] at h;cases h
  | false =>
   rw [h1] at h
   refine CT.2 ⟨fun hx=>?_,DX h⟩
   have:(l.any fun y=>x==y)=true:=CS.2 ⟨x,hx,by simp⟩
   rw [h1] at this;cases this
def Qdq (x:Int):List Int→List Int
 | []=>[x]
 | y::l=>cond (decide (x≤y)) (x::y::l) (y::Qdq x l)
def Qer (l:List Int):List Int:=l.foldr Qdq []
theorem Q0e (x:Int):∀ l:List Int,(Qdq x l).Perm (x::l)
 | []=>.refl _
 | y::l=>by
  simp only [Qdq]
  cases decide (x≤y) with
  | true=>exact .refl _
  | false=>exact ((Q0e x l).cons y).trans (.swap x y l)
theorem ZB:∀ l:List Int,(Qer l).Perm l
 | []=>.refl _
 | x::l=>(Q0e x _).trans ((ZB l).cons x)
theorem Q1g (x:Int):∀ l:List Int,l.Pairwise (·≤·)→(Qdq x l).Pairwise (·≤·)
 | [],_=>by simp [Qdq]
 | y::l,h=>by
  obtain ⟨h1,h2⟩:=CL.1 h
  simp only [Qdq]
  cases hd:decide (x≤y) with
  | true =>
   have hxy:x≤y:=CH hd
   refine CL.2 ⟨fun z hz=>?_,h⟩
   rcases Cq.1 hz with rfl | hz
   ·exact hxy
   ·exact Int.le_trans hxy (h1 z hz)
  | false =>
   have hxy:¬ x≤y:=Sf hd
   refine CL.2 ⟨fun z hz=>?_,Q1g x l h2⟩
   rcases Cq.1 ((Q0e x l).mem_iff.1 hz) with rfl | hz
   ·omega
   ·exact h1 z hz
theorem X3:∀ l:List Int,(Qer l).Pairwise (·≤·)
 | []=>.nil
 | x::l=>Q1g x _ (X3 l)
theorem mergeSort_sortZ {l l':List Int} (h:l.Perm l'):(l.mergeSort fun x y=>decide (x≤y))=Qer l':=by
 have tr:∀ a b c:Int,(fun x y:Int=>decide (x≤y)) a b=true→(fun x y:Int=>decide (x≤y)) b c=true→(fun x y:Int=>decide (x≤y)) a c=true:=fun a b c h1 h2=>by simp only [CX] at *;exact Int.le_trans h1 h2
 have to:∀ a b:Int,((fun x y:Int=>decide (x≤y)) a b||(fun x y:Int=>decide (x≤y)) b a)=true:=fun a b=>by simp only [Py,CX];exact Int.le_total a b
 refine List.Perm.eq_of_pairwise (le:=fun a b:Int=>a≤b) (fun a b _ _ h1 h2=>Int.le_antisymm h1 h2) ?_ (X3 l') (((List.mergeSort_perm l _).trans h).trans (ZB l').symm)
 exact (List.pairwise_mergeSort tr to l).imp (fun h=>by simpa using h)
def JC (M:Qt):List Int:=Qer (M.1.map fun e=>e.1)
def Q5h (M:Qt):Bool:=cond (Nat.ble M.1.length 1000000) (cond (M.1.all fun e=>cond (Nat.ble (e.2.2+1) M.2) (cond (decide (-9223372036854775808≤e.1)) (decide (e.1≤9223372036854775807)) false) false) (cond (Uj (M.1.map fun e=>e.2.2)) (Uj (M.1.map fun e=>e.1)) false) false) false
end
end
noncomputable section
open Go.RowKit
abbrev Qqp (x:Int):CA:=.d (.v (.int .i64 x))
abbrev Qqq (b:Bool):CA:=.d (.v (.bool b))
abbrev Qqn {α:Type} [Enc α] (l:List α):CA:=.d (.sl (Enc.sz α) (Enc.encL l))
abbrev Qqr {α:Type} [Enc α] (n:Nat) (l:List α):CA:=.app n (Enc.sz α) (Enc.encL l)
abbrev Qqo:CA:=.d (.v (.slice none 0 0))
abbrev Qqt {α:Type} [Enc α] (x:α):List CA:=(Enc.enc x).map CA.d
def Q48 {α:Type} [Enc α] (l:List α):List CA:=(Enc.encL l).flatten.map CA.d
class EncLen (α:Type) [Enc α]:Prop where
 len:∀ x:α,(Enc.enc x).length=Enc.sz α
 pos:0 < Enc.sz α
instance:EncLen Lvl:=⟨fun _=>rfl,by decide⟩
instance:EncLen Qrf:=⟨fun _=>rfl,by decide⟩
instance:EncLen Int:=⟨fun _=>rfl,by decide⟩
instance:EncLen Bnd:=⟨fun _=>rfl,by decide⟩
section
variable {α:Type} [Enc α] [EncLen α]
theorem Q75 (l:List α):∀ e∈Enc.encL l,e.length=Enc.sz α:=by
 intro e he
 rw [Enc.map] at he
 obtain ⟨x,-,rfl⟩:=Cw.1 he
 exact EncLen.len x
theorem flatE_len (l:List α):(Q48 l).length=l.length * Enc.sz α:=by
 unfold Q48;rw [Cm,JY _ (Q75 l),Enc.len]
theorem flatE_get {l:List α} {k j:Nat} {x:α} (h:l[k]?=some x) (hj:j < Enc.sz α):(Q48 l)[k * Enc.sz α+j]?=((Enc.enc x)[j]?).map CA.d:=by
 unfold Q48;rw [Cl,Dp _ (Q75 l) k j _ (Enc.get h) hj]
end
theorem Qah:∀ (ys ars xs:List CA) (off:Nat),setL (ars++xs) (ars.length+off) ys=ars++setL xs off ys
 | [],ars,xs,off=>rfl
 | y::ys,ars,xs,off=>by
  simp only [setL]
  rw [List.set_append_right _ _ (by omega),PR,Pw,Qah ys]
theorem Q32:∀ (ys ars xs:List CA),ars.length=ys.length→setL (ars++xs) 0 ys=ys++xs
 | [],[],xs,_=>rfl
 | y::ys,a::ars,xs,h=>by
  have h2:=Qah ys [y] (ars++xs) 0
  simp only [List.length_singleton] at h2
  simp only [setL,P2,List.set_cons_zero]
  rw [show (y::(ars++xs))=[y]++(ars++xs) from rfl,show 0+1=1+0 from rfl,h2,Q32 ys ars xs (by simpa using h)];rfl
section
variable {E:Env} {st:St} {dd d:Option Tmp} {ty:TypeId} {pos:String} {af:Array Edge} {g:Option (Nat×Bool)}
theorem RO.sliceFrom {α:Type} [Enc α] {t e:Nat} {o lo:Operand} {y:CA} {l:List α} {m:Int} (ht:QW E.P t=some (e,Enc.sz α)) (hx:ev st.tm o=some (.v (.one y))) (hs:SlE y l) (hlo:ev st.tm lo=some (Qr6 m)) (hm:(cond (decide (0≤m)) (Nat.ble m.toNat l.length) false)=true) :
  RO E ⟨d,.slice t o (some lo) none none,ty,pos,af,g⟩ st (.v (.one (.d (.sl (Enc.sz α) (Enc.encL (l.drop m.toNat)))))):=by
 have h0:0≤m:=CH (QV hm)
 have hb:=QP hm
 obtain ⟨k,rfl⟩:∃ k:Nat,m=(k:Int):=⟨m.toNat,(Pf h0).symm⟩
 simp only [CN] at hb ⊢
 have:=Q7r (E:=E) (st:=st) (d:=d) (ty:=ty) (pos:=pos) (af:=af) (g:=g) (a:=k) (b:=l.length) ht hx hs (lo:=some lo) (hi:=none) (mx:=none) (by
  have:ev st.tm lo=some (.v (.one (.d (.v (.int .i64 (.ofNat k)))))):=hlo
  simp only [YV,Qdt,Qbg,this,hb,C6])
 rw [Pm (by rw [Cu];exact Ck _)] at this
 exact this
theorem RO.sliceTo {α:Type} [Enc α] {t e:Nat} {o hi:Operand} {y:CA} {l:List α} {m:Int} (ht:QW E.P t=some (e,Enc.sz α)) (hx:ev st.tm o=some (.v (.one y))) (hs:SlE y l) (hhi:ev st.tm hi=some (Qr6 m)) (hm:(cond (decide (0≤m)) (Nat.ble m.toNat l.length) false)=true) :
  RO E ⟨d,.slice t o none (some hi) none,ty,pos,af,g⟩ st (.v (.one (.d (.sl (Enc.sz α) (Enc.encL (l.take m.toNat)))))):=by
 have h0:0≤m:=CH (QV hm)
 have hb:=QP hm
 obtain ⟨k,rfl⟩:∃ k:Nat,m=(k:Int):=⟨m.toNat,(Pf h0).symm⟩
 simp only [CN] at hb ⊢
 have:=Q7r (E:=E) (st:=st) (d:=d) (ty:=ty) (pos:=pos) (af:=af) (g:=g) (a:=0) (b:=k) ht hx hs (lo:=none) (hi:=some hi) (mx:=none) (by
  have:ev st.tm hi=some (.v (.one (.d (.v (.int .i64 (.ofNat k)))))):=hhi
  simp only [YV,Qdt,Qbg,this,hb,C6])
 rw [PB,Sy] at this
 exact this
end
inductive ORen (b:Nat):List AV→List AV→Prop
 | nil:ORen b [] []
 | osl {off n c:Nat} {xs ys:List AV} (t:ORen b xs ys):ORen b (.one (.osl b off n c)::xs) (.one (.osl 0 off n c)::ys)
 | one {x:CA} {c:C} {xs ys:List AV} (h:CSub x c) (t:ORen b xs ys):ORen b (.one x::xs) (.one (.d c)::ys)
 | agg {x y:List CA} {xs ys:List AV} (h:LSub x y) (t:ORen b xs ys):ORen b (.agg x::xs) (.agg y::ys)
theorem Qps {tm:List (Nat×TV)}:tmLe tm []:=trivial
theorem Qqh {hp:List (Nat×HB)}:hpLe hp []:=trivial
theorem hR {hp r:List (Nat×HB)} {t:Nat} {y:HB} (h:Qq8 hp t=some y) (l:hpLe hp r):hpLe hp ((t,y)::r):=⟨⟨y,h,.refl y⟩,l⟩
theorem Qqi {hp r:List (Nat×HB)} {t:Nat} {T:TypeId} {xs ys:List CA} (h:Qq8 hp t=some (.cells T xs)) (k:CLs xs ys) (l:hpLe hp r):hpLe hp ((t,.cells T ys)::r):=⟨⟨_,h,.cells k⟩,l⟩
theorem Qqa {tk:List (Nat×Option Tok)}:tkLe tk []:=trivial
theorem Qqx {m:Nat}:hpBelow m []:=trivial
theorem Qqz {m i:Nat} {x:HB} {r:List (Nat×HB)} (h:Nat.blt i m=true) (k:x.belowB m=true) (l:hpBelow m r):hpBelow m ((i,x)::r):=⟨Wp h,DH k,l⟩
theorem Qqy {m i c:Nat} {xs:List (Int×Int×Nat)} {r:List (Nat×HB)} (h:Nat.blt i m=true) (l:hpBelow m r):hpBelow m ((i,.mp (Jz xs) c)::r):=⟨Wp h,(by show Q8k m (Jz xs);rw [mpBelow_im];trivial),l⟩
theorem J2 {E:Env} {st st':St} (h1:tmLe st.tm st'.tm) (h2:hpLe st.hp st'.hp) (h3:tkLe st.tk st'.tk) (h4:Nat.ble st'.nx st.nx=true) (h5:E.V0.nx≤st'.nx) (h6:st.nt=st'.nt) (h7:st.df=st'.df)
  (h8:(st'.tm.all fun p=>p.2.belowB st'.nx)=true) (h9:hpBelow st'.nx st'.hp) (h10:(st'.tk.all fun p=>Nat.blt p.1 st'.nx)=true) (h11:st'.df.tail.all (fun i=>Nat.blt i st'.nx)=true):StLe E st st':=by
 refine ⟨h1,h2,h3,Qq9 h4,h5,h6,h7,?_,h9,?_,fun i hi=>Wp (Cf.1 h11 i hi)⟩
 ·have:∀ l:List (Nat×TV),(l.all fun p=>p.2.belowB st'.nx)=true→tmBelow st'.nx l:=by
   intro l
   induction l with
   | nil=>intro _;trivial
   | cons p l ih=>intro h;simp only [List.all_cons,CD] at h;exact ⟨DE h.1,ih h.2⟩
  exact this _ h8
 ·have:∀ l:List (Nat×Option Tok),(l.all fun p=>Nat.blt p.1 st'.nx)=true→tkBelow st'.nx l:=by
   intro l
   induction l with
   | nil=>intro _;trivial
   | cons p l ih=>intro h;simp only [List.all_cons,CD] at h;exact ⟨Wp h.1,ih h.2⟩
  exact this _ h10
theorem Qnm {α β γ:Type} {y:α⊕β} {f:α→Option γ} {g:β→Option γ} {r:γ} {G:Prop} {C:α⊕β→Prop} (hc:C y) (h:Sum.elim f g y=some r) (k1:∀ a,C (.inl a)→f a=some r→G) (k2:∀ b,C (.inr b)→g b=some r→G):G:=by
 cases y with
 | inl a=>exact k1 a hc h
 | inr b=>exact k2 b hc h
theorem Qp {P:Program} {f:FuncId} {fn:Func} {c:Code} {args:List AV} {m:Mem} (stf:St) {xs:List AV} (hf:P.funcs[f]?=some fn) (hb:fn.body=some c) (hen:Qc P f) (hnt:args.length≤fn.ntmps)
  (hdf:stf.df=[]) (hres:RAs P stf fn.results.toList xs)
  (h:∀ (w0:World) (M:Nat→Prop) (V0:Vu) (Q:Exit→Act→World→Prop),V0.nx≤m.nx →
   (∀ (e:Exit) (st':St) (hp':List (Nat×HB)),(e=.normal∨e=.ret)→GA st'.df st'.hp=some hp'→StLe ⟨P,w0,M,V0⟩ ⟨st'.tm,hp',st'.tk,st'.nx,st'.nt,[]⟩ stf→XQ ⟨P,w0,M,V0⟩ Q e st')→XC ⟨P,w0,M,V0⟩ none 0 Q c ⟨J5 0 args,m.hp,m.tk,m.nx,fn.ntmps,[]⟩) (hP0:P=Tryz.prog:=by rfl) :
  CallM P f args m (Qh xs) ⟨stf.hp,stf.tk,stf.nx⟩:=by
 refine ⟨hen,fun E V w vs hP H hn hargs=>?_⟩
 refine (callsIn_wide (n:=0)).1 (Zo (F:=Fence.wide) (Q0x hP0 hf) hf hb trivial ?_)
 have hR0:Rel (E.at V w) V ⟨J5 0 args,m.hp,m.tk,m.nx,fn.ntmps,[]⟩ { tmps:=vs++Array.replicate (fn.ntmps - vs.size) undef,defers:=[]} w:=by
  refine ⟨H.rebase,hn,by simp [hargs.1];omega,dfRel.nil,fun t x hx=>?_⟩
  obtain ⟨k,y,h1,h2,rfl⟩:=GI args 0 t x hx
  obtain ⟨u,hu,hy⟩:=hargs.2 k y h2
  have hk:k < vs.size:=(CP.1 hu).1
  have:(vs++Array.replicate (fn.ntmps - vs.size) undef).getD t undef=u:=by
   rw [show t=k by omega,P6,P9 hk,hu];rfl
  rw [this];exact hy
 have key:∀ (st':St) (hp':List (Nat×HB)) (V1:Vu) (a1:Act) (w1:World),GA st'.df st'.hp=some hp'→StLe (E.at V w) ⟨st'.tm,hp',st'.tk,st'.nx,st'.nt,[]⟩ stf→Rel (E.at V w) V1 st' a1 w1 →
   LeavesInM Fence.wide 0 P fn a1.tmps (fun e w'=>∃ v V',e=.returned v∧HRel E V' stf.hp stf.tk w'∧V'.nx=stf.nx∧V.Le V' w w'∧(Qh xs).rel V' w' v) a1.defers .returning w1:=by
  intro st' hp' V1 a1 w1 htm hle hr1
  refine Dl st'.df a1.defers st'.hp hp' w1 hr1.h hr1.df htm (fun w' V1' H' hn' L'=>?_)
  have hr':Rel (E.at V w) V1' ⟨st'.tm,hp',st'.tk,st'.nx,st'.nt,[]⟩ { tmps:=a1.tmps,defers:=[]} w':=⟨H',hn'.trans hr1.nx,hr1.nt,dfRel.nil,fun t x hx=>(hr1.tm t x hx).keep L'⟩
  obtain ⟨V2,hr2⟩:=hr'.less hle
  obtain ⟨v,h1,h2⟩:=XO (E:=E.at V w) hres hP hr2
  obtain ⟨H5,L5⟩:=H.back hr2.h
  exact ⟨v,h1,v,V2,Z,H5,hr2.nx,L5,h2⟩
 have hgo:∀ E':Env,E'=E.at V w→E'.P=P→E'.V0=V→XC E' none 0 (bodyPostM Fence.wide 0 P fn (fun e w'=>∃ v V',e=.returned v∧HRel E V' stf.hp stf.tk w'∧V'.nx=stf.nx∧V.Le V' w w'∧(Qh xs).rel V' w' v)) c ⟨J5 0 args,m.hp,m.tk,m.nx,fn.ntmps,[]⟩:=by
  rintro ⟨P',w0,M,V0⟩ he hP' hV'
  dsimp only at hP' hV'
  subst hP'
  refine h w0 M V0 _ (by rw [hV',hn];exact Ck _) ?_
  rintro e st' hp' (rfl | rfl) htm hle
  ·intro V1 a1 w1 hr1;rw [he] at hr1 hle;exact key st' hp' V1 a1 w1 htm hle hr1
  ·intro V1 a1 w1 hr1;rw [he] at hr1 hle;exact key st' hp' V1 a1 w1 htm hle hr1
 have:=hgo (E.at V w) rfl hP rfl V _ w hR0
 rw [show (E.at V w).P=P from hP] at this
 exact this
theorem CallM.of_bodyS {P:Program} {f:FuncId} {fn:Func} {c:Code} {args:List AV} {m:Mem} {Y:Type} (y:Y) (stf:Y→St) {xs:List AV} (hf:P.funcs[f]?=some fn) (hb:fn.body=some c) (hen:Qc P f) (hnt:args.length≤fn.ntmps)
  (hdf:∀ y,(stf y).df=[]) (hres:∀ y,RAs P (stf y) fn.results.toList xs)
  (h:∀ (w0:World) (M:Nat→Prop) (V0:Vu) (Q:Exit→Act→World→Prop),V0.nx≤m.nx →
   (∀ (e:Exit) (st':St) (hp':List (Nat×HB)),(e=.normal∨e=.ret)→GA st'.df st'.hp=some hp'→StLe ⟨P,w0,M,V0⟩ ⟨st'.tm,hp',st'.tk,st'.nx,st'.nt,[]⟩ (stf y)→XQ ⟨P,w0,M,V0⟩ Q e st')→XC ⟨P,w0,M,V0⟩ none 0 Q c ⟨J5 0 args,m.hp,m.tk,m.nx,fn.ntmps,[]⟩) (hP0:P=Tryz.prog:=by rfl) :
  CallM P f args m (Qh xs) ⟨(stf y).hp,(stf y).tk,(stf y).nx⟩:=Qp (stf y) hf hb hen hnt (hdf y) (hres y) h hP0
end
noncomputable section
open Go.RowKit
def Qmw {β:Type} (l:List (Nat×β)):List (Nat×β)→List (Option β)
  | []=>[]
  | (t,_)::r=>Qq8 l t::Qmw l r
def Q2x {β:Type}:List (Nat×β)→List (Option β)
  | []=>[]
  | (_,y)::r=>some y::Q2x r
theorem Qpw {tm:List (Nat×TV)}:∀ {r:List (Nat×TV)},Qmw tm r=Q2x r→tmLe tm r
  | [],_=>trivial
  | (_,_)::_,h=>⟨⟨_,(Pj h).1,.refl _⟩,Qpw (Pj h).2⟩
theorem hA {hp:List (Nat×HB)}:∀ {r:List (Nat×HB)},Qmw hp r=Q2x r→hpLe hp r
  | [],_=>trivial
  | (_,_)::_,h=>⟨⟨_,(Pj h).1,.refl _⟩,hA (Pj h).2⟩
theorem Qqb {tk:List (Nat×Option Tok)}:∀ {r:List (Nat×Option Tok)},Qmw tk r=Q2x r→tkLe tk r
  | [],_=>trivial
  | (_,_)::_,h=>⟨fun T e=>by rw [(Pj h).1,e],Qqb (Pj h).2⟩
def Qn5 (m:Nat):List (Nat×HB)→Bool
  | []=>true
  | (i,x)::r=>Nat.blt i m&&(x.belowB m&&Qn5 m r)
theorem Qr0 {m:Nat}:∀ {r:List (Nat×HB)},Qn5 m r=true→hpBelow m r
  | [],_=>trivial
  | (_,_)::_,h=>by
    have a:=C0.1 h
    have b:=C0.1 a.2
    exact ⟨Wp a.1,DH b.1,Qr0 b.2⟩
theorem Qpx {E:Env} {st st':St} (h5:E.V0.nx≤st'.nx) (h1:Qmw st.tm st'.tm=Q2x st'.tm) (h2:Qmw st.hp st'.hp=Q2x st'.hp) (h3:Qmw st.tk st'.tk=Q2x st'.tk) (h6:(st.nt,st.df)=(st'.nt,st'.df))
  (h4:(Nat.ble st'.nx st.nx&&((st'.tm.all fun p=>p.2.belowB st'.nx)&&(Qn5 st'.nx st'.hp&&((st'.tk.all fun p=>Nat.blt p.1 st'.nx)&&st'.df.tail.all (fun i=>Nat.blt i st'.nx)))))=true):StLe E st st':=by
 have a:=C0.1 h4
 have b:=C0.1 a.2
 have c:=C0.1 b.2
 have d:=C0.1 c.2
 exact J2 (Qpw h1) (hA h2) (Qqb h3) a.1 h5 (Prod.mk.inj h6).1 (Prod.mk.inj h6).2 b.1 (Qr0 c.1) d.1 d.2
end
noncomputable section
open Go.RowKit
theorem D5 {w w':World} {b e s n:Nat} {v:Value} {xs:List Value} (h:w.ownsRow b e s v n xs) (hs:∀ g,v.ownBlock=some g→w'.heap[g]?=w.heap[g]?):w'.ownsRow b e s v n xs:=by
 obtain ⟨h1,h2⟩:=h
 refine ⟨h1,h2.imp id ?_⟩
 rintro ⟨g,cap,cur,rfl,h3,h4,h5⟩
 exact ⟨g,cap,cur,Z,h3,(hs g Z).trans h4,h5⟩
def Xz (V:Vu) (hp:List (Nat×HB)) (tk:List (Nat×Option Tok)) (k:Nat):Prop :=
 (∃ i B,Qq8 hp i=some B∧V.ι i=k)∨∃ i T,Qq8 tk i=some (some T)∧(V.κ i T.n).ownBlock=some k
theorem Qjg {α:Type}:∀ (a b:List (Nat×α)) (i:Nat),Qq8 (a++b) i=match Qq8 a i with
    | some x=>some x
    | none=>Qq8 b i
  | [],b,i=>rfl
  | (k,x)::a,b,i=>by
    rw [P2,Q1,Q1]
    split
    · rfl
    · exact Qjg a b i
theorem JO {α:Type} {a b:List (Nat×α)} {i:Nat} {x:α} (h:Qq8 (a++b) i=some x):Qq8 a i=some x∨Qq8 b i=some x:=by
 rw [Qjg] at h
 cases h1:Qq8 a i with
 | none=>rw [h1] at h;exact .inr h
 | some y=>rw [h1] at h;exact .inl h
theorem Q91 {α:Type}:∀ {a:List (Nat×α)} {i:Nat} {x:α},Qq8 a i=some x→(i,x)∈a
  | [],i,x,h=>by cases h
  | (k,y)::a,i,x,h=>by
    rw [Q1] at h
    split at h
    · rename_i e;subst e;cases h;exact Ci
    · exact Ch _ (Q91 h)
def Ki:List Nat→Nat→Nat→Nat
 | [],n,i=>n+i
 | j::_,_,0=>j
 | _::r,n,i+1=>Ki r n i
theorem Q85:∀ {rs:List Nat} {n i:Nat},i < rs.length→∃ j,rs[i]?=some j∧Ki rs n i=j
 | [],n,i,h=>by simp at h
 | j::r,n,0,h=>⟨j,rfl,rfl⟩
 | j::r,n,i+1,h=>Q85 (rs:=r) (n:=n) (i:=i) (by simpa using h)
theorem Ug:∀ {rs:List Nat} {n i:Nat},rs.length≤i→Ki rs n i=n+(i - rs.length)
 | [],n,i,h=>rfl
 | j::r,n,0,h=>by simp at h
 | j::r,n,i+1,h=>by
  have h1:r.length≤i:=by simpa using h
  have h2:=Ug (rs:=r) (n:=n) (i:=i) h1
  simp only [Ki,C2]
  omega
theorem Ga {rs:List Nat} {n i:Nat} (h:i < rs.length):Ki rs n i∈rs:=by
 obtain ⟨j,h1,h2⟩:=Q85 (n:=n) h
 rw [h2];exact Cs h1
theorem Q65 {α:Type}:∀ {l:List α} {i j:Nat} {a:α},l.Nodup→l[i]?=some a→l[j]?=some a→i=j
 | [],i,j,a,_,h,_=>by simp at h
 | x::l,0,0,a,_,_,_=>rfl
 | x::l,0,j+1,a,hn,h1,h2=>by
  simp at h1 h2
  subst h1
  exact absurd (Cs h2) (CT.1 hn).1
 | x::l,i+1,0,a,hn,h1,h2=>by
  simp at h1 h2
  subst h2
  exact absurd (Cs h1) (CT.1 hn).1
 | x::l,i+1,j+1,a,hn,h1,h2=>by
  simp at h1 h2
  rw [Q65 (CT.1 hn).2 h1 h2]
theorem Qex {rs:List Nat} {n:Nat} (hnd:rs.Nodup) (hlt:∀ j∈rs,j < n) {i j:Nat} (h:Ki rs n i=Ki rs n j):i=j:=by
 by_cases h1:i < rs.length <;> by_cases h2:j < rs.length
 ·obtain ⟨a,h3,h4⟩:=Q85 (n:=n) h1
  obtain ⟨b,h5,h6⟩:=Q85 (n:=n) h2
  rw [h4,h6] at h
  subst h
  exact Q65 hnd h3 h5
 ·have:=hlt _ (Ga (n:=n) h1)
  rw [h,Ug (S8 h2)] at this;omega
 ·have:=hlt _ (Ga (n:=n) h2)
  rw [← h,Ug (S8 h1)] at this;omega
 ·rw [Ug (S8 h1),Ug (S8 h2)] at h;omega
def CA.ren (ρ:Nat→Nat):CA→CA
 | .d c=>.d c
 | .ptr i off=>.ptr (ρ i) off
 | .pel e off=>.pel e off
 | .fn f caps=>.fn f (caps.map fun p=>(ρ p.1,p.2))
 | .app i sz es=>.app (ρ i) sz es
 | .apv i sz n es=>.apv (ρ i) sz n es
 | .tp i n off=>.tp (ρ i) n off
 | .osl i off len cap=>.osl (ρ i) off len cap
 | .mp i=>.mp (ρ i)
 | .yld i=>.yld (ρ i)
 | .clo f caps=>.clo f caps
 | .any=>.any
def AV.ren (ρ:Nat→Nat):AV→AV
 | .one x=>.one (x.ren ρ)
 | .agg xs=>.agg (xs.map (CA.ren ρ))
def TV.ren (ρ:Nat→Nat):TV→TV
 | .v x=>.v (x.ren ρ)
 | .tup xs=>.tup (xs.map (AV.ren ρ))
 | .unk=>.unk
def HB.ren (ρ:Nat→Nat):HB→HB
 | .cells T xs=>.cells T (xs.map (CA.ren ρ))
 | .obj o=>.obj o
 | .loop s p tm nt ps assign body D=>.loop s p (tm.map fun q=>(q.1,q.2.ren ρ)) nt ps assign body (ρ D)
 | .mp es c=>.mp (es.map fun e=>(e.1,e.2.1.ren ρ,e.2.2)) c
def Js (ρ:Nat→Nat) (l:List (Nat×HB)):List (Nat×HB):=l.map fun p=>(ρ p.1,p.2.ren ρ)
def JV (ρ:Nat→Nat) (l:List (Nat×Option Tok)):List (Nat×Option Tok):=l.map fun p=>(ρ p.1,p.2)
theorem Q92 {α β:Type} (f:α→β):∀ (l:List (Nat×α)) (t:Nat),Qq8 (l.map fun q=>(q.1,f q.2)) t=(Qq8 l t).map f
  | [],t=>rfl
  | (k,x)::l,t=>by
    rw [CF,Q1,Q1]
    split
    · rfl
    · exact Q92 f l t
theorem Q8z {α β:Type} {ρ:Nat→Nat} {f:α→β} (inj:∀ i j,ρ i=ρ j→i=j):∀ (l:List (Nat×α)) (i:Nat),Qq8 (l.map fun p=>(ρ p.1,f p.2)) (ρ i)=(Qq8 l i).map f
  | [],i=>rfl
  | (k,x)::l,i=>by
    rw [CF,Q1,Q1]
    by_cases h:k=i
    · subst h;rw [Cd rfl,Cd rfl];rfl
    · rw [C5 h,C5 (fun e=>h (inj _ _ e))];exact Q8z inj l i
theorem Q3r {α β:Type} {ρ:Nat→Nat} {f:α→β} (inj:∀ i j,ρ i=ρ j→i=j) {l:List (Nat×α)} {j:Nat} {y:β} (h:Qq8 (l.map fun p=>(ρ p.1,f p.2)) j=some y):∃ i x,ρ i=j∧Qq8 l i=some x∧y=f x:=by
 obtain ⟨p,h1,h2⟩:=Cw.1 (Q91 h)
 have h3:ρ p.1=j:=(Prod.mk.inj h2).1
 subst h3
 rw [Q8z inj] at h
 cases h4:Qq8 l p.1 with
 | none=>rw [h4] at h;cases h
 | some x=>rw [h4] at h;cases h;exact ⟨p.1,x,rfl,h4,rfl⟩
def pull (ρ:Nat→Nat) (V:Vu) (m:Nat):Vu:=⟨m,fun i=>V.ι (ρ i),fun i=>V.κ (ρ i),fun i=>V.cu (ρ i),V.S⟩
theorem CA.rel.pull {ρ:Nat→Nat} {V:Vu} {w:World} {m:Nat} {x:CA} {v:Value} (h:(x.ren ρ).rel V w v) (hb:x.below m):x.rel (pull ρ V m) w v:=by
 cases x with
 | ptr i off=>exact ⟨hb,h.2⟩
 | fn f caps =>
  have:=h.2
  rw [CI] at this
  exact ⟨hb,this⟩
 | app i sz es=>exact ⟨hb,h.2⟩
 | apv i sz n es=>exact ⟨hb,h.2⟩
 | tp i n off=>exact ⟨hb,h.2⟩
 | osl i off len cap=>exact ⟨hb,h.2⟩
 | mp i=>exact ⟨hb,h.2⟩
 | yld i=>exact ⟨hb,h.2⟩
 | d c=>exact h
 | pel e off=>exact h
 | clo f caps=>exact h
 | any=>exact h
theorem rels.pull {ρ:Nat→Nat} {V:Vu} {w:World} {m:Nat} {xs:List CA} {vs:Array Value} (h:rels V w (xs.map (CA.ren ρ)) vs) (hb:∀ x∈xs,x.below m):rels (pull ρ V m) w xs vs :=
 ⟨by simpa using h.1,fun i x hx=>let ⟨u,h1,h2⟩:=h.2 i (x.ren ρ) (by rw [Cl,hx];rfl);⟨u,h1,h2.pull (hb x (Cs hx))⟩⟩
theorem AV.rel.pull {ρ:Nat→Nat} {V:Vu} {w:World} {m:Nat} {x:AV} {v:Value} (h:(x.ren ρ).rel V w v) (hb:x.below m):x.rel (pull ρ V m) w v:=by
 cases x with
 | one x=>exact CA.rel.pull h hb
 | agg xs=>obtain ⟨vs,h1,h2⟩:=h;exact ⟨vs,h1,h2.pull hb⟩
theorem TV.rel.pull {ρ:Nat→Nat} {V:Vu} {w:World} {m:Nat} {x:TV} {v:Value} (h:(x.ren ρ).rel V w v) (hb:x.below m):x.rel (pull ρ V m) w v:=by
 cases x with
 | v x=>exact AV.rel.pull h hb
 | tup xs =>
  obtain ⟨vs,h1,h2,h3⟩:=h
  exact ⟨vs,h1,by simpa using h2,fun i x hx=>let ⟨u,h4,h5⟩:=h3 i (x.ren ρ) (by rw [Cl,hx];rfl);⟨u,h4,h5.pull (hb x (Cs hx))⟩⟩
 | unk=>trivial
theorem HB.rel.pull {ρ:Nat→Nat} {V:Vu} {w:World} {m:Nat} {x:HB} {o:Obj} (h:(x.ren ρ).rel V w o) (hb:x.below m):x.rel (pull ρ V m) w o:=by
 cases x with
 | cells T xs=>obtain ⟨vs,h3,h4⟩:=h;exact ⟨vs,h3,h4.pull hb⟩
 | obj o'=>exact h
 | loop s p tm nt ps assign body D =>
  obtain ⟨-,fn,tmps,h3,h4,h5⟩:=h
  exact ⟨hb.1,fn,tmps,h3,h4,fun t x hx=>(h5 t (x.ren ρ) (by rw [Q92,hx];rfl)).pull (hb.2 t x hx)⟩
 | mp es clock =>
  obtain ⟨ents,h3,h4,h5⟩:=h
  exact ⟨ents,h3,by simpa using h4,fun i k x b hi=>let ⟨v,h6,h7⟩:=h5 i k (x.ren ρ) b (by rw [Cl,hi];rfl);⟨v,h6,h7.pull (hb _ (Cs hi))⟩⟩
structure Via (ρ:Nat→Nat) (V1 V2:Vu):Prop where
 ι:∀ i,i < V1.nx→ρ i < V2.nx∧V2.ι (ρ i)=V1.ι i
 cu:∀ i,i < V1.nx→V2.cu (ρ i)=V1.cu i
 κ:∀ i,i < V1.nx→V2.κ (ρ i)=V1.κ i
 S:∀ b o,V1.S b o→V2.S b o
section
variable {ρ:Nat→Nat} {V1 V2:Vu} {w:World}
theorem CA.rel.via (hV:Via ρ V1 V2) {x:CA} {v:Value} (h:x.rel V1 w v):(x.ren ρ).rel V2 w v:=by
 cases x with
 | ptr i off=>exact ⟨(hV.ι i h.1).1,by rw [(hV.ι i h.1).2];exact h.2⟩
 | fn f caps =>
  refine ⟨fun p hp=>?_,?_⟩
  ·obtain ⟨q,hq,rfl⟩:=Cw.1 hp
   exact (hV.ι _ (h.1 q hq)).1
  ·rw [h.2,CI]
   congr 2
   exact Cx fun p hp=>by show _=Value.pointer (some ⟨V2.ι (ρ p.1),p.2,none⟩);rw [(hV.ι _ (h.1 p hp)).2]
 | app i sz es=>exact ⟨(hV.ι i h.1).1,by rw [hV.cu i h.1];exact h.2.1,by rw [hV.κ i h.1];exact h.2.2.1,Reads.mono hV.S (fun _ _ _=>rfl) h.2.2.2⟩
 | apv i sz n es =>
  obtain ⟨h1,h2,h3,a,cap,h4,h5,h6⟩:=h
  exact ⟨(hV.ι i h1).1,by rw [hV.cu i h1];exact h2,by rw [hV.κ i h1];exact h3,a,cap,h4,h5,Reads.mono hV.S (fun _ _ _=>rfl) h6⟩
 | tp i n off =>
  obtain ⟨h1,h2,g,cap,h3,h4⟩:=h
  exact ⟨(hV.ι i h1).1,by rw [hV.cu i h1];exact h2,g,cap,by rw [hV.κ i h1];exact h3,h4⟩
 | osl i off len cap=>exact ⟨(hV.ι i h.1).1,by rw [(hV.ι i h.1).2];exact h.2⟩
 | mp i=>exact ⟨(hV.ι i h.1).1,by rw [(hV.ι i h.1).2];exact h.2⟩
 | yld i=>exact ⟨(hV.ι i h.1).1,by rw [(hV.ι i h.1).2];exact h.2⟩
 | d c=>exact Reads.mono hV.S (fun _ _ _=>rfl) h
 | pel e off=>exact pelRel.mono hV.S (fun _ _ _=>rfl) h
 | clo f caps =>
  obtain ⟨ps,h1,h2,h3⟩:=h
  exact ⟨ps,h1,h2,fun i e off hi=>let ⟨p,h4,h5⟩:=h3 i e off hi;⟨p,h4,h5.mono hV.S (fun _ _ _=>rfl)⟩⟩
 | any=>exact h
theorem rels.via (hV:Via ρ V1 V2) {xs:List CA} {vs:Array Value} (h:rels V1 w xs vs):rels V2 w (xs.map (CA.ren ρ)) vs :=
 ⟨by simpa using h.1,fun i x hx=>by
  rw [Cl] at hx
  cases h1:xs[i]? with
  | none=>rw [h1] at hx;cases hx
  | some y=>rw [h1] at hx;cases hx;obtain ⟨u,h2,h3⟩:=h.2 i y h1;exact ⟨u,h2,h3.via hV⟩⟩
theorem AV.rel.via (hV:Via ρ V1 V2) {x:AV} {v:Value} (h:x.rel V1 w v):(x.ren ρ).rel V2 w v:=by
 cases x with
 | one x=>exact CA.rel.via hV h
 | agg xs=>obtain ⟨vs,h1,h2⟩:=h;exact ⟨vs,h1,h2.via hV⟩
theorem TV.rel.via (hV:Via ρ V1 V2) {x:TV} {v:Value} (h:x.rel V1 w v):(x.ren ρ).rel V2 w v:=by
 cases x with
 | v x=>exact AV.rel.via hV h
 | tup xs =>
  obtain ⟨vs,h1,h2,h3⟩:=h
  refine ⟨vs,h1,by simpa using h2,fun i x hx=>?_⟩
  rw [Cl] at hx
  cases h4:xs[i]? with
  | none=>rw [h4] at hx;cases hx
  | some y=>rw [h4] at hx;cases hx;obtain ⟨u,h5,h6⟩:=h3 i y h4;exact ⟨u,h5,h6.via hV⟩
 | unk=>trivial
theorem HB.rel.via (hV:Via ρ V1 V2) {x:HB} {o:Obj} (h:x.rel V1 w o):(x.ren ρ).rel V2 w o:=by
 cases x with
 | cells T xs=>obtain ⟨vs,h3,h4⟩:=h;exact ⟨vs,h3,h4.via hV⟩
 | obj o'=>exact h
 | loop s p tm nt ps assign body D =>
  obtain ⟨h1,fn,tmps,h3,h4,h5⟩:=h
  refine ⟨(hV.ι D h1).1,fn,tmps,by rw [(hV.ι D h1).2];exact h3,h4,fun t x hx=>?_⟩
  rw [Q92] at hx
  cases h6:Qq8 tm t with
  | none=>rw [h6] at hx;cases hx
  | some y=>rw [h6] at hx;cases hx;exact (h5 t y h6).via hV
 | mp es clock =>
  obtain ⟨ents,h3,h4,h5⟩:=h
  refine ⟨ents,h3,by simpa using h4,fun i k x b hi=>?_⟩
  rw [Cl] at hi
  cases h6:es[i]? with
  | none=>rw [h6] at hi;cases hi
  | some y =>
   obtain ⟨k',x',b'⟩:=y
   rw [h6] at hi;cases hi
   obtain ⟨v,h7,h8⟩:=h5 i _ _ _ h6
   exact ⟨v,h7,h8.via hV⟩
end
open Classical in
def Zx (ρ:Nat→Nat) (V V1:Vu) (n:Nat):Vu :=
 ⟨n,fun j=>if h:∃ i,ρ i=j then V1.ι h.choose else V.ι j,fun j=>if h:∃ i,ρ i=j then V1.κ h.choose else V.κ j,fun j=>if h:∃ i,ρ i=j then V1.cu h.choose else V.cu j,V1.S⟩
section
open Classical
variable {ρ:Nat→Nat} {V V1:Vu} {n:Nat}
theorem UF (inj:∀ i j,ρ i=ρ j→i=j) {i:Nat} (h:∃ k,ρ k=ρ i):h.choose=i:=inj _ _ h.choose_spec
theorem Zp (inj:∀ i j,ρ i=ρ j→i=j) (i:Nat):(Zx ρ V V1 n).ι (ρ i)=V1.ι i:=by
 have h:∃ k,ρ k=ρ i:=⟨i,rfl⟩
 show (if h:∃ k,ρ k=ρ i then V1.ι h.choose else V.ι (ρ i))=_
 rw [dif_pos h,UF inj h]
theorem GR (inj:∀ i j,ρ i=ρ j→i=j) (i:Nat):(Zx ρ V V1 n).κ (ρ i)=V1.κ i:=by
 have h:∃ k,ρ k=ρ i:=⟨i,rfl⟩
 show (if h:∃ k,ρ k=ρ i then V1.κ h.choose else V.κ (ρ i))=_
 rw [dif_pos h,UF inj h]
theorem Q4t (inj:∀ i j,ρ i=ρ j→i=j) (i:Nat):(Zx ρ V V1 n).cu (ρ i)=V1.cu i:=by
 have h:∃ k,ρ k=ρ i:=⟨i,rfl⟩
 show (if h:∃ k,ρ k=ρ i then V1.cu h.choose else V.cu (ρ i))=_
 rw [dif_pos h,UF inj h]
theorem Z5 {j:Nat} (h:¬ ∃ i,ρ i=j):(Zx ρ V V1 n).ι j=V.ι j:=dif_neg h
theorem KA {j:Nat} (h:¬ ∃ i,ρ i=j):(Zx ρ V V1 n).κ j=V.κ j:=dif_neg h
theorem Q7k {j:Nat} (h:¬ ∃ i,ρ i=j):(Zx ρ V V1 n).cu j=V.cu j:=dif_neg h
end
section
variable {E:Env} {V V1:Vu} {hp hp0 hp1 hpF:List (Nat×HB)} {tk tk0 tk1 tkF:List (Nat×Option Tok)} {w w':World} {ρ:Nat→Nat} {nx0 n:Nat}
theorem HRel.part (inj:∀ i j,ρ i=ρ j→i=j) (h:HRel E V (Js ρ hp0) (JV ρ tk0) w) (b0:hpBelow nx0 hp0) (c0:tkBelow nx0 tk0) :
  HRel ⟨E.P,w,Xz V (Js ρ hp0) (JV ρ tk0),pull ρ V nx0⟩ (pull ρ V nx0) hp0 tk0 w:=by
 have eH:∀ i B,Qq8 hp0 i=some B→Qq8 (Js ρ hp0) (ρ i)=some (B.ren ρ):=fun i B hi=>by
  have:=Q8z (f:=HB.ren ρ) inj hp0 i
  rw [hi] at this;exact this
 have eT:∀ i T,Qq8 tk0 i=some T→Qq8 (JV ρ tk0) (ρ i)=some T:=fun i T hi=>by
  have:=Q8z (f:=fun x:Option Tok=>x) inj tk0 i
  rw [hi] at this;exact this
 refine ⟨ExtM.refl _ _,Vu.Le.refl _ _,h.sz,fun b o hs=>.inl hs,fun i B hi=>?_,fun i j A B hi hj e=>?_,fun i B hi=>⟨.inr (.inl ⟨ρ i,_,eH i B hi,Z⟩),(h.new _ _ (eH i B hi)).2⟩,fun i T hi=>?_,fun i j T U g hi hj ei ej=>?_⟩
 ·obtain ⟨h1,h2⟩:=b0.get i B hi
  obtain ⟨-,o,h3,h4⟩:=h.own _ _ (eH i B hi)
  exact ⟨h1,o,h3,h4.pull h2⟩
 ·exact inj _ _ (h.inj _ _ _ _ (eH i A hi) (eH j B hj) e)
 ·obtain ⟨-,h2,xs,h3,h4⟩:=h.tok _ _ (eT i _ hi)
  exact ⟨c0.get i _ hi,h2,xs,h3,fun g hg=>⟨.inr (.inr ⟨ρ i,T,eT i _ hi,hg⟩),(h4 g hg).2.1,fun j B hj=>(h4 g hg).2.2 _ _ (eH j B hj)⟩⟩
 ·exact inj _ _ (h.tki _ _ T U g (eT i _ hi) (eT j _ hj) ei ej)
theorem HRel.turn (inj:∀ i j,ρ i=ρ j→i=j) (h:HRel E V hp tk w) (hh:hpLe hp (Js ρ hp0)) (ht:tkLe tk (JV ρ tk0)) (hhF:hpLe hp hpF) (htF:tkLe tk tkF)
  (old:∀ i,i < nx0→ρ i < V.nx) (new:∀ i,nx0≤i→ρ i=V.nx+(i - nx0)) (dF:∀ i B,Qq8 hpF i=some B→∀ k,k < nx0→ρ k ≠ i) (dT:∀ i T,Qq8 tkF i=some (some T)→∀ k,k < nx0→ρ k ≠ i)
  (b0:hpBelow nx0 hp0) (c0:tkBelow nx0 tk0) (hn:V1.nx+V.nx=n+nx0) (hle:nx0≤V1.nx)
  (H:HRel ⟨E.P,w,Xz V (Js ρ hp0) (JV ρ tk0),pull ρ V nx0⟩ V1 hp1 tk1 w') :
  HRel E (Zx ρ V V1 n) (Js ρ hp1++hpF) (JV ρ tk1++tkF) w'∧V.Le (Zx ρ V V1 n) w w'∧Via ρ V1 (Zx ρ V V1 n):=by
 have L:=H.le0
 have h0:=h.forgetLe hh ht
 have hF:=h.forgetLe hhF htF
 have eHi:∀ {l:List (Nat×HB)} {j B},Qq8 (Js ρ l) j=some B→∃ i x,ρ i=j∧Qq8 l i=some x∧B=x.ren ρ:=fun hj=>Q3r inj hj
 have eTi:∀ {l:List (Nat×Option Tok)} {j T},Qq8 (JV ρ l) j=some T→∃ i x,ρ i=j∧Qq8 l i=some x∧T=x:=fun hj=>Q3r (f:=fun x:Option Tok=>x) inj hj
 have pE:∀ k,Xz V (Js ρ hp0) (JV ρ tk0) k→E.w0.heap.size≤k∨E.M k:=by
  rintro k (⟨i,B,hi,rfl⟩ | ⟨i,T,hi,hg⟩)
  ·exact (h0.new i B hi).1
  ·obtain ⟨-,-,xs,-,h4⟩:=h0.tok i T hi
   exact (h4 k hg).1
 have Fl:∀ i B,Qq8 hpF i=some B→V.ι i < w.heap.size:=fun i B hi=>by
  obtain ⟨-,o,ho,-⟩:=hF.own i B hi
  exact Y9 ho
 have Tl:∀ i T g,Qq8 tkF i=some (some T)→(V.κ i T.n).ownBlock=some g→g < w.heap.size:=fun i T g hi hg=>by
  obtain ⟨-,-,xs,h3,-⟩:=hF.tok i T hi
  exact (h3.1.lt g hg).2
 have nF:∀ i,i < V.nx→(∀ k,k < nx0→ρ k ≠ i)→¬ ∃ k,ρ k=i:=by
  rintro i hi hk ⟨k,hk2⟩
  rcases P1 k nx0 with h1 | h1
  ·exact hk k h1 hk2
  ·rw [new k h1] at hk2;omega
 have Fn:∀ i B,Qq8 hpF i=some B→¬ ∃ k,ρ k=i:=fun i B hi=>nF i (hF.own i B hi).1 (dF i B hi)
 have Tn:∀ i T,Qq8 tkF i=some (some T)→¬ ∃ k,ρ k=i:=fun i T hi=>nF i (hF.tok i T hi).1 (dT i T hi)
 have Fp:∀ i B,Qq8 hpF i=some B→¬ Xz V (Js ρ hp0) (JV ρ tk0) (V.ι i):=by
  rintro i B hi (⟨j,C,hj,e⟩ | ⟨j,T,hj,hg⟩)
  ·obtain ⟨x,hx,-⟩:=hh.get j C hj
   obtain ⟨y,hy,-⟩:=hhF.get i B hi
   have:=h.inj j i x y hx hy e
   subst this
   obtain ⟨k,-,hk,-⟩:=eHi hj
   exact Fn _ B hi ⟨k,hk⟩
  ·obtain ⟨y,hy,-⟩:=hhF.get i B hi
   obtain ⟨-,-,xs,-,h4⟩:=h.tok j T (ht.get j T hj)
   exact (h4 _ hg).2.2 i y hy Z
 have Tp:∀ i T g,Qq8 tkF i=some (some T)→(V.κ i T.n).ownBlock=some g→¬ Xz V (Js ρ hp0) (JV ρ tk0) g:=by
  rintro i T g hi hg (⟨j,C,hj,e⟩ | ⟨j,U,hj,hg'⟩)
  ·obtain ⟨x,hx,-⟩:=hh.get j C hj
   obtain ⟨-,-,xs,-,h4⟩:=h.tok i T (htF.get i T hi)
   exact (h4 _ hg).2.2 j x hx e
  ·have:=h.tki i j T U g (htF.get i T hi) (ht.get j U hj) hg hg'
   subst this
   obtain ⟨k,-,hk,-⟩:=eTi hj
   exact Tn _ T hi ⟨k,hk⟩
 have S1:∀ b o,V1.S b o→V.S b o∨w.heap.size≤b∨Xz V (Js ρ hp0) (JV ρ tk0) b:=H.sub
 have nn:∀ i,i < V1.nx→ρ i < n:=fun i hi=>by
  rcases P1 i nx0 with h1 | h1
  ·have:=old i h1;omega
  ·rw [new i h1];omega
 have A2:Via ρ V1 (Zx ρ V V1 n):=⟨fun i hi=>⟨nn i hi,Zp inj i⟩,fun i hi=>Q4t inj i,fun i hi=>GR inj i,fun b o hs=>hs⟩
 have isNew:∀ k,ρ k < V.nx→k < nx0:=fun k hk=>by
  rcases P1 k nx0 with h1 | h1
  ·exact h1
  ·rw [new k h1] at hk;omega
 have A1:V.Le (Zx ρ V V1 n) w w':=by
  refine ⟨by show V.nx≤n;omega,fun i hi=>?_,fun i hi=>?_,fun i hi m hm=>?_,L.S,L.cell,L.dk⟩
  ·by_cases hq:∃ k,ρ k=i
   ·obtain ⟨k,rfl⟩:=hq
    rw [Zp inj];exact L.ι k (isNew k hi)
   ·exact Z5 hq
  ·by_cases hq:∃ k,ρ k=i
   ·obtain ⟨k,rfl⟩:=hq
    rw [Q4t inj];exact L.cu k (isNew k hi)
   ·rw [Q7k hq];exact Ck _
  ·by_cases hq:∃ k,ρ k=i
   ·obtain ⟨k,rfl⟩:=hq
    rw [GR inj];exact L.κ k (isNew k hi) m hm
   ·rw [KA hq]
 have hsize:w.heap.size≤w'.heap.size:=H.ext.size
 have keep:∀ k,k < w.heap.size→¬ Xz V (Js ρ hp0) (JV ρ tk0) k→w'.heap[k]?=w.heap[k]?:=H.ext.block
 have inE:∀ k,(w.heap.size≤k∨Xz V (Js ρ hp0) (JV ρ tk0) k)→E.w0.heap.size≤k∨E.M k:=fun k hk=>by
  rcases hk with h1 | h1
  ·exact .inl (Ca h.ext.size h1)
  ·exact pE k h1
 refine ⟨⟨?_,h.le0.trans A1,H.sz,?_,?_,?_,?_,?_,?_⟩,A1,A2⟩
 ·refine ⟨H.ext.os.trans h.ext.os,H.ext.tape.trans h.ext.tape,H.ext.output.trans h.ext.output,Ca h.ext.size hsize,fun k hk hM=>?_⟩
  refine (keep k (Cj hk h.ext.size) fun hp=>?_).trans (h.ext.block k hk hM)
  rcases pE k hp with h1 | h1
  ·omega
  ·exact hM h1
 ·intro b o hs
  rcases S1 b o hs with h1 | h1
  ·exact h.sub b o h1
  ·exact .inr (inE b h1)
 ·intro i B hi
  rcases JO hi with hi | hi
  ·obtain ⟨k,x,rfl,hk,rfl⟩:=eHi hi
   obtain ⟨h1,o,h3,h4⟩:=H.own k x hk
   exact ⟨nn k h1,o,by rw [Zp inj];exact h3,h4.via A2⟩
  ·obtain ⟨h1,o,h3,h4⟩:=hF.own i B hi
   exact ⟨by show i < n;omega,o,by rw [Z5 (Fn i B hi),keep _ (Fl i B hi) (Fp i B hi)];exact h3,h4.mono A1⟩
 ·have mix:∀ i j A B,Qq8 (Js ρ hp1) i=some A→Qq8 hpF j=some B→(Zx ρ V V1 n).ι i=(Zx ρ V V1 n).ι j→False:=fun i j A B hi hj e=>by
   obtain ⟨k,x,rfl,hk,-⟩:=eHi hi
   rw [Zp inj,Z5 (Fn j B hj)] at e
   rcases (H.new k x hk).1 with h2 | h2
   ·rw [e] at h2
    exact absurd h2 (SB.2 (Fl j B hj))
   ·rw [e] at h2
    exact Fp j B hj h2
  intro i j A B hi hj e
  rcases JO hi with hi | hi <;> rcases JO hj with hj | hj
  ·obtain ⟨k,x,rfl,hk,-⟩:=eHi hi
   obtain ⟨k',x',rfl,hk',-⟩:=eHi hj
   rw [Zp inj,Zp inj] at e
   rw [H.inj k k' x x' hk hk' e]
  ·exact (mix i j A B hi hj e).elim
  ·exact (mix j i B A hj hi e.symm).elim
  ·rw [Z5 (Fn i A hi),Z5 (Fn j B hj)] at e
   exact hF.inj i j A B hi hj e
 ·intro i B hi
  rcases JO hi with hi | hi
  ·obtain ⟨k,x,rfl,hk,-⟩:=eHi hi
   obtain ⟨h2,h3⟩:=H.new k x hk
   rw [Zp inj]
   exact ⟨inE _ h2,h3⟩
  ·obtain ⟨h2,h3⟩:=hF.new i B hi
   rw [Z5 (Fn i B hi)]
   refine ⟨h2,fun o hs=>?_⟩
   rcases S1 _ o hs with h4 | h4 | h4
   ·exact h3 o h4
   ·exact absurd h4 (SB.2 (Fl i B hi))
   ·exact Fp i B hi h4
 ·intro i T hi
  rcases JO hi with hi | hi
  ·obtain ⟨k,x,rfl,hk,e⟩:=eTi hi
   subst e
   obtain ⟨h1,h2,xs,h3,h4⟩:=H.tok k T hk
   refine ⟨nn k h1,by rw [Q4t inj];exact h2,xs,⟨by rw [GR inj];exact h3.1,h3.2⟩,fun g hg=>?_⟩
   rw [GR inj] at hg
   obtain ⟨h5,h6,h7⟩:=h4 g hg
   refine ⟨inE g h5,h6,fun j B hj=>?_⟩
   rcases JO hj with hj | hj
   ·obtain ⟨k',x',rfl,hk',-⟩:=eHi hj
    rw [Zp inj];exact h7 k' x' hk'
   ·intro e
    rw [Z5 (Fn j B hj)] at e
    rcases h5 with h5 | h5
    ·have:=Fl j B hj
     rw [e] at this
     exact absurd h5 (SB.2 this)
    ·exact Fp j B hj (by rw [e];exact h5)
  ·have hq:=Tn i T hi
   obtain ⟨h1,h2,xs,h3,h4⟩:=hF.tok i T hi
   refine ⟨by show i < n;omega,by rw [Q7k hq];exact h2,xs,?_,fun g hg=>?_⟩
   ·exact h3.keepW (congrFun (KA hq) T.n) (D5 h3.1 fun g hg=>keep g (Tl i T g hi hg) (Tp i T g hi hg)) A1.lx
   ·rw [KA hq] at hg
    obtain ⟨h5,h6,h7⟩:=h4 g hg
    refine ⟨h5,fun o hs=>?_,fun j B hj=>?_⟩
    ·rcases S1 _ o hs with h8 | h8 | h8
     ·exact h6 o h8
     ·exact absurd h8 (SB.2 (Tl i T g hi hg))
     ·exact absurd h8 (Tp i T g hi hg)
    ·rcases JO hj with hj | hj
     ·intro e
      obtain ⟨k',x',rfl,hk',-⟩:=eHi hj
      rw [Zp inj] at e
      rcases (H.new k' x' hk').1 with h9 | h9
      ·rw [e] at h9
       exact absurd h9 (SB.2 (Tl i T g hi hg))
      ·rw [e] at h9
       exact Tp i T g hi hg h9
     ·rw [Z5 (Fn j B hj)];exact h7 j B hj
 ·have mix:∀ i j T U g,Qq8 (JV ρ tk1) i=some (some T)→Qq8 tkF j=some (some U)→((Zx ρ V V1 n).κ i T.n).ownBlock=some g→((Zx ρ V V1 n).κ j U.n).ownBlock=some g→False:=fun i j T U g hi hj ei ej=>by
   obtain ⟨k,x,rfl,hk,e⟩:=eTi hi
   subst e
   rw [GR inj] at ei
   rw [KA (Tn j U hj)] at ej
   obtain ⟨-,-,xs,-,h4⟩:=H.tok k T hk
   rcases (h4 g ei).1 with h5 | h5
   ·exact absurd h5 (SB.2 (Tl j U g hj ej))
   ·exact Tp j U g hj ej h5
  intro i j T U g hi hj ei ej
  rcases JO hi with hi | hi <;> rcases JO hj with hj | hj
  ·obtain ⟨k,x,rfl,hk,e⟩:=eTi hi
   subst e
   obtain ⟨k',x',rfl,hk',e⟩:=eTi hj
   subst e
   rw [GR inj] at ei ej
   rw [H.tki k k' T U g hk hk' ei ej]
  ·exact (mix i j T U g hi hj ei ej).elim
  ·exact (mix j i U T g hj hi ej ei).elim
  ·rw [KA (Tn i T hi)] at ei
   rw [KA (Tn j U hj)] at ej
   exact hF.tki i j T U g hi hj ei ej
end
theorem Q10 {m:Nat}:∀ {l:List (Nat×Option Tok)},(l.all fun p=>Nat.blt p.1 m)=true→tkBelow m l
  | [],_=>trivial
  | (i,x)::l,h=>by
    rw [List.all_cons,CD] at h
    exact ⟨Wp h.1,Q10 h.2⟩
def KL:List Nat→Bool
 | []=>true
 | x::l=>cond (l.any fun y=>Nat.beq x y) false (KL l)
theorem WB:∀ {l:List Nat},KL l=true→l.Nodup
 | [],_=>Si
 | x::l,h=>by
  unfold KL at h
  cases h1:(l.any fun y=>Nat.beq x y) with
  | true=>rw [h1] at h;cases h
  | false =>
   rw [h1] at h
   refine CT.2 ⟨fun hm=>?_,WB h⟩
   have:=Pl.1 h1 x hm
   simp at this
def Qe9 {α:Type} (rs:List Nat) (l:List (Nat×α)):Bool:=l.all fun p=>rs.all fun q=>cond (Nat.beq q p.1) false true
theorem Q7o {α:Type} {rs:List Nat} {l:List (Nat×α)} (h:Qe9 rs l=true) {i:Nat} {x:α} (hi:Qq8 l i=some x):i∉rs:=fun hm=>by
 have h1:=Cf.1 (Cf.1 h _ (Q91 hi)) i hm
 have h2:Nat.beq i i=true:=by simp
 dsimp only at h1
 rw [h2] at h1;cases h1
theorem Qo {E:Env} {st:St} {dd:Option Tmp} {ty:TypeId} {pos:String} {af:Array Edge} {g:Option (Nat×Bool)} {x:Operand} {f:FuncId} {caps:List (Nat×Nat)} {ars:Array Operand} {args args0:List AV} {ats:Array TypeId} {res res2:TV} {hp0 hp1 hp1' hpF:List (Nat×HB)} {tk0 tk1 tk1' tkF:List (Nat×Option Tok)} {nx0 nx1 nx2 n:Nat}
  (rs:List Nat) (hx:ev st.tm x=some (.v (.one (.fn f caps)))) (ha:Yz st.tm ars.toList=some args)
  (hc:CallM E.P f args0 ⟨hp0,tk0,nx0⟩ res ⟨hp1,tk1,nx1⟩) (hst:st.nx=n) (he:args++Zv caps=args0.map (AV.ren (Ki rs n))) (e3:Js (Ki rs n) hp1=hp1') (e4:JV (Ki rs n) tk1=tk1') (e5:res.ren (Ki rs n)=res2)
  (hh:hpLe st.hp (Js (Ki rs n) hp0)) (ht:tkLe st.tk (JV (Ki rs n) tk0)) (hhF:hpLe st.hp hpF) (htF:tkLe st.tk tkF) (hl:Nat.beq rs.length nx0=true) (hnd:KL rs=true) (hlt:(rs.all fun j=>Nat.blt j n)=true) (d1:Qe9 rs hpF=true) (d2:Qe9 rs tkF=true)
  (b0:hpBelow nx0 hp0) (c0:(tk0.all fun p=>Nat.blt p.1 nx0)=true) (ba:(args0.all fun y=>y.belowB nx0)=true) (hle:Nat.ble nx0 nx1=true) (hn:Nat.beq (nx1+n) (nx2+nx0)=true) :
  OpOK E ⟨dd,.call { callee:=.value x,args:=ars,argTypes:=ats },ty,pos,af,g⟩ st res2 ⟨hp1'++hpF,tk1'++tkF,nx2⟩:=by
 subst hst e3 e4 e5
 have c0':=Q10 c0
 have hl':rs.length=nx0:=C4 hl
 have hlt':∀ j∈rs,j < st.nx:=fun j hj=>Wp (Cf.1 hlt j hj)
 have inj:∀ i j,Ki rs st.nx i=Ki rs st.nx j→i=j:=fun i j h=>Qex (WB hnd) hlt' h
 intro V a w hr ro n K Q hK
 refine ⟨fun _ _=>trivial,?_⟩
 rw [Oper.semAt_eq _ _ _ (by intro c h;cases h)]
 obtain ⟨hv1,hv2⟩:=hr.ev hx
 have hrun:(execOp a.eval ⟨dd,.call { callee:=.value x,args:=ars,argTypes:=ats },ty,pos,af,g⟩).run E.P w=.ok (.enter f (ars.map a.eval++(caps.map fun p=>Value.pointer (some ⟨V.ι p.1,p.2,none⟩)).toArray)) w:=by
  have:=hc.1 (ars.map a.eval++(caps.map fun p=>Value.pointer (some ⟨V.ι p.1,p.2,none⟩)).toArray) w
  simp [execOp,resolve,hv2,Deferred.ofValue,invoke]
  simpa using this
 rw [hrun]
 refine ⟨(by intro h;cases h),?_⟩
 have h0:=(hr.h.forgetLe hh ht).part inj b0 c0'
 have har:argsRel (pull (Ki rs st.nx) V nx0) w args0 (ars.map a.eval++(caps.map fun p=>Value.pointer (some ⟨V.ι p.1,p.2,none⟩)).toArray):=by
  obtain ⟨h1,h2⟩:=(K4 hr ha).append (Zd hv1)
  rw [he] at h1 h2
  refine ⟨by simpa using h1,fun i y hy=>?_⟩
  obtain ⟨u,hu,hyu⟩:=h2 i (y.ren _) (by rw [Cl,hy];rfl)
  exact ⟨u,hu,hyu.pull (Kp (Cf.1 ba y (Cs hy)))⟩
 have hc':CallsIn Fence.wide (n - 1) E.P f _ w _:=callsIn_wide.2 (hc.2 ⟨E.P,w,Xz V _ _,pull (Ki rs st.nx) V nx0⟩ _ w _ rfl h0 rfl har)
 refine CallsIn.mono (F:=Qrj ro) hc' ?_
 rintro e w' ⟨v,V1,rfl,H,hn1,L,hres⟩
 have hn2:=C4 hn
 have hnx:=hr.nx
 dsimp only at hn1
 obtain ⟨H2,L2,L3⟩:=hr.h.turn (n:=nx2) inj hh ht hhF htF (fun i hi=>by rw [hnx];exact hlt' _ (Ga (by omega))) (fun i hi=>by rw [Ug (by omega),hnx,hl'])
  (fun i B hi k hk e=>Q7o d1 hi (by rw [← e];exact Ga (by omega))) (fun i T hi k hk e=>Q7o d2 hi (by rw [← e];exact Ga (by omega))) b0 c0' (by rw [hn1,hnx];exact hn2) (by rw [hn1];exact C3 hle) H
 exact hK _ w' v H2 Z L2 (hres.via L3)
theorem Qq3 {ρ:Nat→Nat}:Js ρ []=[]:=rfl
theorem Qq5 {ρ:Nat→Nat} {i j:Nat} {x y:HB} {r r':List (Nat×HB)} (h1:ρ i=j) (h2:x.ren ρ=y) (h:Js ρ r=r'):Js ρ ((i,x)::r)=(j,y)::r':=by
 subst h1 h2 h;rfl
theorem Qq4 {ρ:Nat→Nat} {i j c:Nat} {xs:List (Int×Int×Nat)} {r r':List (Nat×HB)} (h1:ρ i=j) (h:Js ρ r=r'):Js ρ ((i,.mp (Jz xs) c)::r)=(j,.mp (Jz xs) c)::r' :=
 Qq5 h1 (by show HB.mp ((Jz xs).map _) c=_;unfold Jz;rw [CI];rfl) h
section
variable {ρ:Nat→Nat} {hp:List (Nat×HB)} {tk:List (Nat×Option Tok)}
theorem Qqj:hpLe hp (Js ρ []):=trivial
theorem Qqk {i:Nat} {x:HB} {r:List (Nat×HB)} (h:Qq8 hp (ρ i)=some (x.ren ρ)) (l:hpLe hp (Js ρ r)):hpLe hp (Js ρ ((i,x)::r)):=⟨⟨_,h,.refl _⟩,l⟩
theorem Qql {i c:Nat} {xs:List (Int×Int×Nat)} {r:List (Nat×HB)} (h:Qq8 hp (ρ i)=some (.mp (Jz xs) c)) (l:hpLe hp (Js ρ r)):hpLe hp (Js ρ ((i,.mp (Jz xs) c)::r)) :=
 Qqk (by show _=some (HB.mp ((Jz xs).map _) c);unfold Jz at h ⊢;rw [CI];exact h) l
theorem Qqe:tkLe tk (JV ρ []):=trivial
theorem Qqf {i:Nat} {T:Tok} {r:List (Nat×Option Tok)} (h:Qq8 tk (ρ i)=some (some T)) (l:tkLe tk (JV ρ r)):tkLe tk (JV ρ ((i,some T)::r)):=⟨fun T' e=>by cases e;exact h,l⟩
end
def Jv {σ β:Type} (F:(σ→Option β)→σ→Option β):Nat→σ→Option β
 | 0,_=>none
 | n+1,u=>F (Jv F n) u
theorem GB {σ β:Type} {F:(σ→Option β)→σ→Option β} {C:σ→β→Prop} (h:∀ rc:σ→Option β,(∀ u y,rc u=some y→C u y)→∀ u y,F rc u=some y→C u y):∀ (n:Nat) (u:σ) (y:β),Jv F n u=some y→C u y
 | 0,u,y,e=>by cases e
 | n+1,u,y,e=>h _ (GB h n) u y e
end
noncomputable section
open Go.RowKit
def Qpz (l:List UInt8):ByteArray:=⟨l.toArray⟩
theorem Qlq (s:ByteArray):Qpz s.data.toList=s:=by cases s;simp [Qpz]
theorem YC (l:List UInt8):(Qpz l).size=l.length:=by simp [Qpz,ByteArray.size]
theorem Q5s (l:List UInt8):(Qpz l).toList=l:=by rw [Go.Lib.toList_data];rfl
theorem sB_append (a b:List UInt8):Qpz a++Qpz b=Qpz (a++b):=by
 apply ByteArray.ext
 simp [Qpz,ByteArray.data_append]
theorem sB_get (l:List UInt8) (k:Nat):(Qpz l)[k]?=l[k]?:=by
 by_cases h:k < l.length
 ·rw [Cp h,getElem?_pos (Qpz l) k (by rw [YC];exact h)]
  simp [Qpz,ByteArray.get,ByteArray.getElem_eq_getElem_data]
 ·rw [Pg (by omega),getElem?_neg (Qpz l) k (by rw [YC];exact h)]
theorem Uf (l:List UInt8) (a b:Nat):(Qpz l).extract a b=Qpz ((l.take b).drop a):=by
 apply ByteArray.ext
 simp [Qpz,ByteArray.data_extract,List.extract_eq_take_drop,List.drop_take]
def Q5b (s:List UInt8):List C:=[.v (.string (Qpz s))]
instance:Enc (List UInt8):=⟨1,Q5b,fun l=>l.map Q5b,rfl,fun a b=>Cr,fun _=>rfl⟩
abbrev ZT (l:List UInt8):CA:=.d (.v (.string (Qpz l)))
abbrev Qr5 (l:List UInt8):TV:=KB (.string (Qpz l))
section
variable {E:Env} {st:St} {d:Option Tmp} {ty:TypeId} {pos:String} {af:Array Edge} {g:Option (Nat×Bool)}
theorem RO.addS {t t':TypeId} {x y:Operand} {a b:List UInt8} (hx:ev st.tm x=some (Qr5 a)) (hy:ev st.tm y=some (Qr5 b)) (hg:Nat.ble (a.length+b.length) 1000000000=true):RO E ⟨d,.binOp .add t x y t',ty,pos,af,g⟩ st (Qr5 (a++b)):=by
 have:=Q0s (E:=E) (d:=d) (ty:=ty) (pos:=pos) (af:=af) (g:=g) (t:=t) (t':=t') (op:=.add) hx hy (v:=.string (Qpz a++Qpz b)) (by
  have h1:=C3 hg
  have h2:decide ((((Qpz a).size+(Qpz b).size:Nat):Int) > IntKind.i64.max)=false:=by
   rw [YC,YC]
   refine C8 ?_
   have:IntKind.i64.max=9223372036854775807:=by decide
   omega
  simp only [DP,h2,Ce])
 rw [sB_append] at this
 exact this
theorem Qec {t t':TypeId} {x y:Operand} {a b:List UInt8} (hx:ev st.tm x=some (Qr5 a)) (hy:ev st.tm y=some (Qr5 b)):RO E ⟨d,.binOp .eql t x y t',ty,pos,af,g⟩ st (Qr7 (a==b)):=by
 have:=Q0s (E:=E) (d:=d) (ty:=ty) (pos:=pos) (af:=af) (g:=g) (t:=t) (t':=t') (op:=.eql) hx hy (v:=.bool (a==b)) (by simp only [DP,Q5s])
 exact this
theorem Qkv {t t':TypeId} {x y:Operand} {a b:List UInt8} (hx:ev st.tm x=some (Qr5 a)) (hy:ev st.tm y=some (Qr5 b)):RO E ⟨d,.binOp .neq t x y t',ty,pos,af,g⟩ st (Qr7 (!(a==b))):=by
 have:=Q0s (E:=E) (d:=d) (ty:=ty) (pos:=pos) (af:=af) (g:=g) (t:=t) (t':=t') (op:=.neq) hx hy (v:=.bool (!(a==b))) (by simp only [DP,Q5s])
 exact this
theorem Q9y {t:TypeId} {x:Operand} {a:List UInt8} (ht:Jy E.P t=true) (hx:ev st.tm x=some (Qr5 a)):RO E ⟨d,.call { callee:=.builtin .len,args:=#[x],argTypes:=#[t]},ty,pos,af,g⟩ st (Qr6 a.length):=by
 have:=RO.lenStr (E:=E) (d:=d) (ty:=ty) (pos:=pos) (af:=af) (g:=g) ht hx
 rw [YC] at this
 exact this
theorem Q9z {t:TypeId} {x y:Operand} {a:List UInt8} {k:IntKind} {m:Int} {b:UInt8} (ht:Jy E.P t=true) (hx:ev st.tm x=some (Qr5 a)) (hy:ev st.tm y=some (KB (.int k m))) (hv:J0 a m=some b):RO E ⟨d,.index t x y,ty,pos,af,g⟩ st (KB (.int .u8 b.toNat)):=by
 obtain ⟨j,hj,hl⟩:=Qhl hv
 exact RO.indexStr ht hx hy hj (by rw [sB_get];exact hl)
theorem Qcl {t:TypeId} {o lo:Operand} {a:List UInt8} {m:Int} (ht:Jy E.P t=true) (hx:ev st.tm o=some (Qr5 a)) (hlo:ev st.tm lo=some (Qr6 m)) (hm:(cond (decide (0≤m)) (Nat.ble m.toNat a.length) false)=true):RO E ⟨d,.slice t o (some lo) none none,ty,pos,af,g⟩ st (Qr5 (a.drop m.toNat)):=by
 have h0:0≤m:=CH (QV hm)
 have hb:=QP hm
 obtain ⟨k,rfl⟩:∃ k:Nat,m=(k:Int):=⟨m.toNat,(Pf h0).symm⟩
 simp only [CN] at hb ⊢
 have:=Ws (E:=E) (st:=st) (d:=d) (ty:=ty) (pos:=pos) (af:=af) (g:=g) (l:=k) (h:=a.length) ht hx (lo:=some lo) (hi:=none) (mx:=none) (by
  have:ev st.tm lo=some (.v (.one (.d (.v (.int .i64 (.ofNat k)))))):=hlo
  rw [YC]
  simp only [YV,Qdt,Qbg,this,hb,C6])
 rw [Uf,List.take_length] at this
 exact this
theorem Qku {t:TypeId} {o hi:Operand} {a:List UInt8} {m:Int} (ht:Jy E.P t=true) (hx:ev st.tm o=some (Qr5 a)) (hhi:ev st.tm hi=some (Qr6 m)) (hm:(cond (decide (0≤m)) (Nat.ble m.toNat a.length) false)=true):RO E ⟨d,.slice t o none (some hi) none,ty,pos,af,g⟩ st (Qr5 (a.take m.toNat)):=by
 have h0:0≤m:=CH (QV hm)
 have hb:=QP hm
 obtain ⟨k,rfl⟩:∃ k:Nat,m=(k:Int):=⟨m.toNat,(Pf h0).symm⟩
 simp only [CN] at hb ⊢
 have:=Ws (E:=E) (st:=st) (d:=d) (ty:=ty) (pos:=pos) (af:=af) (g:=g) (l:=0) (h:=k) ht hx (lo:=none) (hi:=some hi) (mx:=none) (by
  have:ev st.tm hi=some (.v (.one (.d (.v (.int .i64 (.ofNat k)))))):=hhi
  rw [YC]
  simp only [YV,Qdt,Qbg,this,hb,C6])
 rw [Uf,PB] at this
 exact this
theorem RO.midS {t:TypeId} {o lo hi:Operand} {a:List UInt8} {m n:Int} (ht:Jy E.P t=true) (hx:ev st.tm o=some (Qr5 a)) (hlo:ev st.tm lo=some (Qr6 m)) (hhi:ev st.tm hi=some (Qr6 n)) (hm:(cond (decide (0≤m)) (cond (Nat.ble m.toNat n.toNat) (cond (decide (0≤n)) (Nat.ble n.toNat a.length) false) false) false)=true):RO E ⟨d,.slice t o (some lo) (some hi) none,ty,pos,af,g⟩ st (Qr5 ((a.take n.toNat).drop m.toNat)):=by
 have h0:0≤m:=CH (QV hm)
 have h1:=QV (QP hm)
 have h2:0≤n:=CH (QV (QP (QP hm)))
 have h3:=QP (QP (QP hm))
 obtain ⟨k,rfl⟩:∃ k:Nat,m=(k:Int):=⟨m.toNat,(Pf h0).symm⟩
 obtain ⟨j,rfl⟩:∃ j:Nat,n=(j:Int):=⟨n.toNat,(Pf h2).symm⟩
 simp only [CN] at h1 h3 ⊢
 have:=Ws (E:=E) (st:=st) (d:=d) (ty:=ty) (pos:=pos) (af:=af) (g:=g) (l:=k) (h:=j) ht hx (lo:=some lo) (hi:=some hi) (mx:=none) (by
  have e1:ev st.tm lo=some (.v (.one (.d (.v (.int .i64 (.ofNat k)))))):=hlo
  have e2:ev st.tm hi=some (.v (.one (.d (.v (.int .i64 (.ofNat j)))))):=hhi
  rw [YC]
  simp only [YV,Qdt,Qbg,e1,e2,h3,h1,C6])
 rw [Uf] at this
 exact this
end
end
noncomputable section
open Go.RowKit
noncomputable section
abbrev Qrl:=List UInt8
inductive Tm where
 | mk (kind index:Int) (name:Qrl) (levels:List Lvl) (kids:List Tm)
def Tm.kind:Tm→Int | .mk k _ _ _ _=>k
def Tm.index:Tm→Int | .mk _ i _ _ _=>i
def Tm.name:Tm→Qrl | .mk _ _ n _ _=>n
def Tm.levels:Tm→List Lvl | .mk _ _ _ l _=>l
def Tm.kids:Tm→List Tm | .mk _ _ _ _ ks=>ks
theorem Tm.kids_lt (t:Tm):SizeOf.sizeOf t.kids < SizeOf.sizeOf t:=by
 cases t
 simp only [Tm.kids,Tm.mk.sizeOf_spec]
 omega
def Qna:Nat→List Tm→List (List C)
 | 0,_=>[]
 | n+1,l=>l.map fun t=>[.v (.int .i64 t.kind),.v (.int .i64 t.index),.v (.string (Qpz t.name)),.sl 2 (Enc.encL t.levels),.sl 5 (Qna n t.kids)]
theorem Qi5:∀ (n m:Nat) (l:List Tm),SizeOf.sizeOf l≤n→SizeOf.sizeOf l≤m→Qna n l=Qna m l
 | 0,_,l,h,_=>by cases l <;> simp at h
 | _,0,l,_,h=>by cases l <;> simp at h
 | n+1,m+1,l,h1,h2=>by
  unfold Qna
  refine Cx fun t ht=>?_
  have h3:=Ph ht
  have h4:=t.kids_lt
  rw [Qi5 n m t.kids (by omega) (by omega)]
def Qou (l:List Tm):List (List C):=Qna (SizeOf.sizeOf l) l
def tmC (t:Tm):List C:=[.v (.int .i64 t.kind),.v (.int .i64 t.index),.v (.string (Qpz t.name)),.sl 2 (Enc.encL t.levels),.sl 5 (Qou t.kids)]
theorem UO (l:List Tm):Qou l=l.map tmC:=by
 unfold Qou
 have hpos:0 < SizeOf.sizeOf l:=by cases l <;> simp <;> omega
 obtain ⟨k,hk⟩:∃ k,SizeOf.sizeOf l=k+1:=⟨SizeOf.sizeOf l - 1,by omega⟩
 rw [hk]
 unfold Qna tmC
 refine Cx fun t ht=>?_
 have h3:=Ph ht
 have h4:=t.kids_lt
 rw [Qi5 k (SizeOf.sizeOf t.kids) t.kids (by omega) (Ck _)]
 rfl
instance:Enc Tm:=⟨5,tmC,Qou,UO [],fun a b=>by rw [UO,UO,UO,Cr],fun x=>UO [x]⟩
structure BrF (α:Type) where
 ctor:Qrl
 absurd:Bool
 tree:α
inductive Tr where
 | mk (kind:Int) (body:Tm) (var:Int) (branches:List (BrF Tr))
abbrev Qrm:=BrF Tr
def Tr.kind:Tr→Int | .mk k _ _ _=>k
def Tr.body:Tr→Tm | .mk _ b _ _=>b
def Tr.var:Tr→Int | .mk _ _ v _=>v
def Tr.branches:Tr→List Qrm | .mk _ _ _ l=>l
theorem Tr.branches_lt (t:Tr):SizeOf.sizeOf t.branches < SizeOf.sizeOf t:=by
 cases t
 simp only [Tr.branches,Tr.mk.sizeOf_spec]
 omega
theorem BrF.tree_lt (b:Qrm):SizeOf.sizeOf b.tree < SizeOf.sizeOf b:=by
 cases b
 simp only [BrF.mk.sizeOf_spec]
 omega
def Qne:Nat→List Qrm→List (List C)
 | 0,_=>[]
 | n+1,l=>l.map fun b=>[.v (.string (Qpz b.ctor)),.v (.bool b.absurd),.v (.int .i64 b.tree.kind),.v (.int .i64 b.tree.body.kind),.v (.int .i64 b.tree.body.index),.v (.string (Qpz b.tree.body.name)),.sl 2 (Enc.encL b.tree.body.levels),.sl 5 (Enc.encL b.tree.body.kids),.v (.int .i64 b.tree.var),.sl 10 (Qne n b.tree.branches)]
theorem Qkd:∀ (n m:Nat) (l:List Qrm),SizeOf.sizeOf l≤n→SizeOf.sizeOf l≤m→Qne n l=Qne m l
 | 0,_,l,h,_=>by cases l <;> simp at h
 | _,0,l,_,h=>by cases l <;> simp at h
 | n+1,m+1,l,h1,h2=>by
  unfold Qne
  refine Cx fun t ht=>?_
  have h3:=Ph ht
  have h4:=t.tree_lt
  have h5:=t.tree.branches_lt
  rw [Qkd n m t.tree.branches (by omega) (by omega)]
def brL (l:List Qrm):List (List C):=Qne (SizeOf.sizeOf l) l
def brC (b:Qrm):List C:=[.v (.string (Qpz b.ctor)),.v (.bool b.absurd),.v (.int .i64 b.tree.kind),.v (.int .i64 b.tree.body.kind),.v (.int .i64 b.tree.body.index),.v (.string (Qpz b.tree.body.name)),.sl 2 (Enc.encL b.tree.body.levels),.sl 5 (Enc.encL b.tree.body.kids),.v (.int .i64 b.tree.var),.sl 10 (brL b.tree.branches)]
theorem Dw (l:List Qrm):brL l=l.map brC:=by
 unfold brL
 have hpos:0 < SizeOf.sizeOf l:=by cases l <;> simp <;> omega
 obtain ⟨k,hk⟩:∃ k,SizeOf.sizeOf l=k+1:=⟨SizeOf.sizeOf l - 1,by omega⟩
 rw [hk]
 unfold Qne brC
 refine Cx fun t ht=>?_
 have h3:=Ph ht
 have h4:=t.tree_lt
 have h5:=t.tree.branches_lt
 rw [Qkd k (SizeOf.sizeOf t.tree.branches) t.tree.branches (by omega) (Ck _)]
 rfl
instance:Enc Qrm:=⟨10,brC,brL,Dw [],fun a b=>by rw [Dw,Dw,Dw,Cr],fun x=>Dw [x]⟩
def Qpg (t:Tr):List C:=[.v (.int .i64 t.kind),.v (.int .i64 t.body.kind),.v (.int .i64 t.body.index),.v (.string (Qpz t.body.name)),.sl 2 (Enc.encL t.body.levels),.sl 5 (Enc.encL t.body.kids),.v (.int .i64 t.var),.sl 10 (Enc.encL t.branches)]
instance:Enc Tr:=⟨8,Qpg,fun l=>l.map Qpg,rfl,fun a b=>Cr,fun _=>rfl⟩
structure Ctr where
 name:Qrl
 ty:Tm
def Qoo (c:Ctr):List C:=[.v (.string (Qpz c.name)),.v (.int .i64 c.ty.kind),.v (.int .i64 c.ty.index),.v (.string (Qpz c.ty.name)),.sl 2 (Enc.encL c.ty.levels),.sl 5 (Enc.encL c.ty.kids)]
instance:Enc Ctr:=⟨6,Qoo,fun l=>l.map Qoo,rfl,fun a b=>Cr,fun _=>rfl⟩
structure Rcr where
 params:Int
 ty:Tm
 rules:List Tm
def Qny (r:Rcr):List C:=[.v (.int .i64 r.params),.v (.int .i64 r.ty.kind),.v (.int .i64 r.ty.index),.v (.string (Qpz r.ty.name)),.sl 2 (Enc.encL r.ty.levels),.sl 5 (Enc.encL r.ty.kids),.sl 5 (Enc.encL r.rules)]
instance:Enc Rcr:=⟨7,Qny,fun l=>l.map Qny,rfl,fun a b=>Cr,fun _=>rfl⟩
structure Fn where
 name:Qrl
 ty:Tm
 arity:Int
 tree:Tr
def Qpo (f:Fn):List C:=[.v (.string (Qpz f.name)),.v (.int .i64 f.ty.kind),.v (.int .i64 f.ty.index),.v (.string (Qpz f.ty.name)),.sl 2 (Enc.encL f.ty.levels),.sl 5 (Enc.encL f.ty.kids),.v (.int .i64 f.arity),
 .v (.int .i64 f.tree.kind),.v (.int .i64 f.tree.body.kind),.v (.int .i64 f.tree.body.index),.v (.string (Qpz f.tree.body.name)),.sl 2 (Enc.encL f.tree.body.levels),.sl 5 (Enc.encL f.tree.body.kids),.v (.int .i64 f.tree.var),.sl 10 (Enc.encL f.tree.branches)]
instance:Enc Fn:=⟨15,Qpo,fun l=>l.map Qpo,rfl,fun a b=>Cr,fun _=>rfl⟩
structure Dcl where
 kind:Int
 name:Qrl
 params:Int
 ty:Tm
 value:Tm
 fixed:Int
 ctors:List Ctr
 rcr:Rcr
 funs:List Fn
def Qn1 (d:Dcl):List C:=[.v (.int .i64 d.kind),.v (.string (Qpz d.name)),.v (.int .i64 d.params),
 .v (.int .i64 d.ty.kind),.v (.int .i64 d.ty.index),.v (.string (Qpz d.ty.name)),.sl 2 (Enc.encL d.ty.levels),.sl 5 (Enc.encL d.ty.kids),
 .v (.int .i64 d.value.kind),.v (.int .i64 d.value.index),.v (.string (Qpz d.value.name)),.sl 2 (Enc.encL d.value.levels),.sl 5 (Enc.encL d.value.kids),
 .v (.int .i64 d.fixed),.sl 6 (Enc.encL d.ctors),
 .v (.int .i64 d.rcr.params),.v (.int .i64 d.rcr.ty.kind),.v (.int .i64 d.rcr.ty.index),.v (.string (Qpz d.rcr.ty.name)),.sl 2 (Enc.encL d.rcr.ty.levels),.sl 5 (Enc.encL d.rcr.ty.kids),.sl 5 (Enc.encL d.rcr.rules),.sl 15 (Enc.encL d.funs)]
instance:Enc Dcl:=⟨23,Qn1,fun l=>l.map Qn1,rfl,fun a b=>Cr,fun _=>rfl⟩
structure Ent where
 kind:Int
 decl:Int
 item:Int
 params:Int
 ty:Tm
def Qol (e:Ent):List C:=[.v (.int .i64 e.kind),.v (.int .i64 e.decl),.v (.int .i64 e.item),.v (.int .i64 e.params),.v (.int .i64 e.ty.kind),.v (.int .i64 e.ty.index),.v (.string (Qpz e.ty.name)),.sl 2 (Enc.encL e.ty.levels),.sl 5 (Enc.encL e.ty.kids)]
instance:Enc Ent:=⟨9,Qol,fun l=>l.map Qol,rfl,fun a b=>Cr,fun _=>rfl⟩
def tm0:Tm:=.mk 0 0 [] [] []
def ent0:Ent:=⟨0,0,0,0,tm0⟩
end
end
noncomputable section
open Go.RowKit
class MK (κ:Type) extends BEq κ where
 ib:Bool
 val:κ→Value
 key:∀ a,keyOf ib (val a)=true
 eq:∀ a b,W9 (val a) (val b)=some (a==b)
class MV (β:Type) where
 av:β→AV
 z:β
 ren:∀ ρ x,(av x).ren ρ=av x
 below:∀ m x,(av x).below m
instance:MK Int:={ ib:=true,val:=fun n=>.int .i64 n,key:=fun _=>rfl,eq:=fun _ _=>rfl }
theorem sB_eq (a b:List UInt8):W9 (.string (Qpz a)) (.string (Qpz b))=some (a==b):=by
 show some (Qpz a==Qpz b)=some (a==b)
 congr 1
 show (a.toArray==b.toArray)=(a==b)
 rw [Bool.eq_iff_iff,CV,CV]
 exact ⟨fun h=>by have:=congrArg Array.toList h;simpa using this,fun h=>by rw [h]⟩
instance:MK (List UInt8):={ ib:=false,val:=fun s=>.string (Qpz s),key:=fun _=>rfl,eq:=sB_eq }
instance:MV Bool:=⟨fun b=>.one (Qqq b),false,fun _ _=>rfl,fun _ _=>trivial⟩
instance:MV Int:=⟨fun n=>.one (Qqp n),0,fun _ _=>rfl,fun _ _=>trivial⟩
instance:MV Ent:=⟨fun e=>.agg (Qqt e),ent0,fun _ _=>rfl,fun m x y hy=>by
 obtain ⟨c,-,rfl⟩:=Cw.1 hy
 trivial⟩
inductive Parts (st:St):List (Nat×Operand)→List (Nat×AV)→Prop
 | nil:Parts st [] []
 | cons {i:Nat} {o:Operand} {x:AV} {ps:List (Nat×Operand)} {xs:List (Nat×AV)} (h:ev st.tm o=some (.v x)) (t:Parts st ps xs):Parts st ((i,o)::ps) ((i,x)::xs)
theorem Parts.spec {st:St} {ps:List (Nat×Operand)} {xs:List (Nat×AV)} (h:Parts st ps xs):ps.length=xs.length∧∀ (j i:Nat) (x:AV),xs[j]?=some (i,x)→∃ o,ps[j]?=some (i,o)∧ev st.tm o=some (.v x):=by
 induction h with
 | nil=>exact ⟨rfl,fun j i x hx=>by simp at hx⟩
 | cons h t ih =>
  refine ⟨by simp [ih.1],fun j i x hx=>?_⟩
  cases j with
  | zero=>simp at hx;obtain ⟨rfl,rfl⟩:=hx;exact ⟨_,rfl,h⟩
  | succ j=>exact ih.2 j i x (by simpa using hx)
section
variable {E:Env} {st:St} {dd:Option Tmp} {ty:TypeId} {pos:String} {af:Array Edge} {g:Option (Nat×Bool)}
theorem Q0r {t:TypeId} {pl:List (Nat×Nat)} {zs:List Value} {parts:Array (Nat×Operand)} {avs:List (Nat×AV)} {ys:List CA} (ht:Y3 E.P t pl zs) (hz:zs.all (·.oneCell')=true) (hp:Parts st parts.toList avs) (hf:KU pl (zs.map fun z=>.d (.v z)) avs=some ys) :
  RO E ⟨dd,.build t parts,ty,pos,af,g⟩ st (.v (.agg ys)):=X0 ht hz hp.spec.1 hp.spec.2 hf
end
end
noncomputable section
open Go.RowKit
instance:EncLen Tm:=⟨fun t=>by cases t;rfl,Pn 4⟩
instance:EncLen Qrm:=⟨fun t=>by cases t;rfl,Pn 9⟩
instance:EncLen Tr:=⟨fun t=>rfl,Pn 7⟩
instance:EncLen Ctr:=⟨fun t=>rfl,Pn 5⟩
instance:EncLen Rcr:=⟨fun t=>rfl,Pn 6⟩
instance:EncLen Fn:=⟨fun t=>rfl,Pn 14⟩
instance:EncLen Dcl:=⟨fun t=>rfl,Pn 22⟩
instance:EncLen Ent:=⟨fun t=>rfl,Pn 8⟩
instance:EncLen (List UInt8):=⟨fun _=>rfl,Pn 0⟩
instance:EncLen Bool:=⟨fun _=>rfl,Pn 0⟩
instance {α:Type} [Enc α]:EncLen (List α):=⟨fun _=>rfl,Pn 0⟩
section
variable {E:Env} {st:St} {dd:Option Tmp} {ty:TypeId} {pos:String} {af:Array Edge} {g:Option (Nat×Bool)} {α:Type} [Enc α] [EncLen α]
theorem ZO {t i:Nat} {T:TypeId} {x:Operand} (v:α) (ht:Jd E.P t=some (true,Enc.sz α)) (hx:ev st.tm x=some (.v (.one (.ptr i 0)))) (hi:Qq8 st.hp i=some (.cells T (Qqt v))):RO E ⟨dd,.load t x,ty,pos,af,g⟩ st (.v (.agg (Qqt v))):=by
 have hl:(Qqt v).length=Enc.sz α:=by rw [Cm,EncLen.len]
 exact JA ht hx hi (by rw [PB,Pm (Pa hl)]) hl
theorem Kn {t:Nat} {x:Operand} (v:α) (ht:Jd E.P t=some (true,Enc.sz α)) (hx:ev st.tm x=some (.v (.one (.pel (Enc.enc v) 0)))):RO E ⟨dd,.load t x,ty,pos,af,g⟩ st (.v (.agg (Qqt v))) :=
 U8 ht hx (by rw [PB,Pm (Pa (EncLen.len v))]) (EncLen.len v)
theorem Zt {t i:Nat} {ag:Bool} {T:TypeId} {xs:List CA} {o1 o2:Operand} (v:α) (ht:Jd E.P t=some (ag,Enc.sz α)) (h1:ev st.tm o1=some (.v (.one (.ptr i 0)))) (h2:ev st.tm o2=some (.v (.agg (Qqt v)))) (hi:Qq8 st.hp i=some (.cells T xs)) (hl:xs.length=Enc.sz α) (hdd:dd=none) :
  OpOK E ⟨dd,.store t o1 o2,ty,pos,af,g⟩ st (.tup []) ⟨(i,.cells T (Qqt v))::QD i st.hp,st.tk,st.nx⟩:=by
 have hc:(AV.agg (Qqt v)).cells.length=Enc.sz α:=by show (Qqt v).length=_;rw [Cm,EncLen.len]
 have:=Qi (dd:=dd) (ty:=ty) (pos:=pos) (af:=af) (g:=g) ht h1 h2 hi hc (by omega) hdd
 have e1:setL xs 0 (AV.agg (Qqt v)).cells=Qqt v:=by
  have:=Q32 (AV.agg (Qqt v)).cells xs [] (by rw [hc,hl])
  rw [Cy,Cy] at this
  exact this
 rw [e1] at this
 exact this
end
end
noncomputable section
open Go.RowKit
structure SwInv (E:Env) (ops:Array Oper) (st:St) (fx:List (Nat×TV)) (effs:List Nat) (dns:List (List Nat)) (ms:List Mem) (listed:Array Bool) (a:Act) (w:World) (V:Vu) (j:Nat) (d:List Nat) (m:Mem):Prop where
 size:listed.size=ops.size
 closed:∀ i,listed.getD i false=true→∀ k∈Qu ops i,listed.getD k false=true
 stage:dns[j]?=some d
 done:∀ e∈d,listed.getD e false=true
 todo:∀ e∈effs,e∉d→listed.getD e false=false
 mem:ms[j]?=some m
 rel:Rel E V ⟨Wk (Jl ops) st.tm,m.hp,m.tk,m.nx,st.nt,st.df⟩ a w
 fact:∀ i,listed.getD i false=true→∀ d x,Jg ops i=some d→Qq8 fx i=some x→x.rel V w (a.tmps.getD d undef)
 old:∀ t x,Qq8 st.tm t=some x→(∀ k,Jg ops k=some t→listed.getD k false=false)→x.rel V w (a.tmps.getD t undef)
end
noncomputable section
open Go.RowKit
section
variable {E:Env} {st:St} {dd d:Option Tmp} {ty:TypeId} {pos:String} {af:Array Edge} {g:Option (Nat×Bool)}
theorem RO.indexA {t n sz i off:Nat} {x y:Operand} {m:Int} (ht:Q2s E.P t=some (n,sz)) (hx:ev st.tm x=some (.v (.one (.ptr i off)))) (hy:ev st.tm y=some (Qr6 m)) (hm:(cond (decide (0≤m)) (Nat.blt m.toNat n) false)=true) :
  RO E ⟨d,.indexAddr t x y,ty,pos,af,g⟩ st (.v (.one (.ptr i (off+m.toNat * sz)))) :=
 RO.indexArrOwn ht hx hy (Pf (CH (QV hm))).symm (Wp (QP hm))
theorem HRel.skip {V:Vu} {hp:List (Nat×HB)} {tk:List (Nat×Option Tok)} {w:World} (h:HRel E V hp tk w) (N:Nat) (hN:V.nx≤N):HRel E { V with nx:=N } hp tk w∧V.Le { V with nx:=N } w w:=by
 have hle:V.Le { V with nx:=N } w w:=⟨hN,fun _ _=>rfl,fun _ _=>Ck _,fun _ _ _ _=>rfl,fun _ _ h=>h,fun _ _ _=>rfl,fun _ _ _ _ h=>h⟩
 refine ⟨⟨h.ext,h.le0.trans hle,h.sz,h.sub,fun i B hi=>?_,h.inj,h.new,fun i T hi=>?_,h.tki⟩,hle⟩
 ·obtain ⟨h1,o,h2,h3⟩:=h.own i B hi
  exact ⟨Cj h1 hN,o,h2,h3.mono hle⟩
 ·obtain ⟨h1,h2⟩:=h.tok i T hi
  exact ⟨Cj h1 hN,h2⟩
theorem XQ.skipTo {e_:Exit} {Q:Exit→Act→World→Prop} (N:Nat) (hN:st.nx≤N) (k:XQ E Q e_ ⟨st.tm,st.hp,st.tk,N,st.nt,st.df⟩):XQ E Q e_ st:=fun V a w hr=>by
 obtain ⟨H,L⟩:=hr.h.skip N (by rw [hr.nx];exact hN)
 exact k _ a w ⟨H,Z,hr.nt,hr.df.le L,fun t x hx=>(hr.tm t x hx).mono L⟩
theorem XQ.adoptT {e_:Exit} {Q:Exit→Act→World→Prop} {t:Nat} (e sz:Nat) (h:Qq8 st.tm t=some (KB (.slice none 0 0))) (k:XQ E Q e_ ⟨(t,.v (.one (.app st.nx sz [])))::st.tm,st.hp,(st.nx,some ⟨e,sz,0,[]⟩)::st.tk,st.nx+1,st.nt,st.df⟩):XQ E Q e_ st:=by
 intro V a w hr
 obtain ⟨H,L⟩:=hr.h.tokNil e sz
 refine k (V.tok V.nx 0 (.slice none 0 0) 0 0) a w ⟨by dsimp only;rw [← hr.nx];exact H,?_,hr.nt,hr.df.le L,fun t' x hx=>?_⟩
 ·show max V.nx (V.nx+1)=st.nx+1;rw [hr.nx];omega
 ·dsimp only at hx;rw [Q1] at hx
  split at hx
  ·rename_i e1;subst e1;cases hx
   have:=QT (hr.tm _ _ h)
   rw [this,← hr.nx]
   exact K5 e sz
  ·exact (hr.tm t' x hx).mono L
theorem XQ.adoptC {e_:Exit} {Q:Exit→Act→World→Prop} {i off:Nat} {T:TypeId} {xs:List CA} (e sz:Nat) (hi:Qq8 st.hp i=some (.cells T xs)) (hx:xs[off]?=some (.d (.v (.slice none 0 0)))) (k:XQ E Q e_ ⟨st.tm,(i,.cells T (xs.set off (.app st.nx sz [])))::st.hp,(st.nx,some ⟨e,sz,0,[]⟩)::st.tk,st.nx+1,st.nt,st.df⟩):XQ E Q e_ st:=by
 intro V a w hr
 obtain ⟨H,L⟩:=hr.h.tokNil e sz
 have hnx:(V.tok V.nx 0 (.slice none 0 0) 0 0).nx=st.nx+1:=by show max V.nx (V.nx+1)=_;rw [hr.nx];omega
 have hl:∀ (A:HB) j,j ≠ i→Qq8 ((i,A)::st.hp) j=Qq8 st.hp j:=fun A j hj=>by rw [Q1,C5 (fun h=>hj h.symm)]
 obtain ⟨hb,o,ho,vs,hvo,hvs⟩:=H.own i _ hi
 have hcell:(xs[off]?).isSome:=by rw [hx];rfl
 obtain ⟨u,hu,hur⟩:=hvs.2 off _ hx
 have hu0:u=.slice none 0 0:=by cases hur;rfl
 refine k _ a w ⟨?_,hnx,hr.nt,hr.df.le L,fun t' x hx=>(hr.tm t' x hx).mono L⟩
 have H':=H
 rw [hr.nx] at H'
 refine ⟨H.ext,H.le0,H.sz,H.sub,?_,?_,?_,?_,?_⟩
 ·intro j B hj
  dsimp only at hj
  by_cases e1:j=i
  ·subst e1
   rw [Q1,Cd rfl] at hj;cases hj
   refine ⟨hb,o,ho,vs,hvo,by rw [PX];exact hvs.1,fun m y hy=>?_⟩
   rw [S3] at hy
   split at hy
   ·rename_i e2;subst e2
    split at hy
    ·cases hy;exact ⟨u,hu,by rw [hu0,← hr.nx];exact K5 e sz⟩
    ·cases hy
   ·exact hvs.2 m y hy
  ·rw [hl _ j e1] at hj;exact H.own j B hj
 ·intro j m A B hj hm e1
  dsimp only at hj hm
  rw [Q1] at hj hm
  split at hj <;> split at hm
  ·rename_i a1 a2;exact a1.symm.trans a2
  ·rename_i a1 a2;subst a1;exact H.inj _ _ _ _ hi hm e1
  ·rename_i a1 a2;subst a2;exact H.inj _ _ _ _ hj hi e1
  ·exact H.inj _ _ _ _ hj hm e1
 ·intro j B hj
  dsimp only at hj
  rw [Q1] at hj
  split at hj
  ·rename_i a1;subst a1;exact H.new _ _ hi
  ·exact H.new _ _ hj
 ·intro j T' hj
  rw [← hr.nx] at hj
  obtain ⟨b1,b2,ys,b3,b4⟩:=H.tok j T' hj
  refine ⟨b1,b2,ys,b3,fun g' hg'=>⟨(b4 g' hg').1,(b4 g' hg').2.1,fun m B hm=>?_⟩⟩
  dsimp only at hm
  rw [Q1] at hm
  split at hm
  ·rename_i a1;subst a1;exact (b4 g' hg').2.2 _ _ hi
  ·exact (b4 g' hg').2.2 _ _ hm
 ·intro j m T' U g' hj hm
  rw [← hr.nx] at hj hm
  exact H.tki j m T' U g' hj hm
end
end
noncomputable section
open Go.RowKit
structure Byt where
 n:Int
def Byt.u8 (b:Byt):UInt8:=UInt8.ofNat b.n.toNat
def bytC (b:Byt):List C:=[.v (.int .u8 b.n)]
instance:Enc Byt:=⟨1,bytC,fun l=>l.map bytC,rfl,fun a b=>Cr,fun _=>rfl⟩
instance:EncLen Byt:=⟨fun _=>rfl,by decide⟩
theorem tyBytes_spec {P:Program} {s:TypeId} (h:Q28 P s=true):∃ e,P.underlying s=some (.slice e)∧P.underlying e=some (.int .u8):=by
 unfold Q28 at h
 split at h
 ·rename_i e he
  split at h
  ·rename_i h2;exact ⟨e,he,h2⟩
  ·cases h
 ·cases h
section
variable {E:Env} {st:St} {d:Option Tmp} {ty:TypeId} {pos:String} {af:Array Edge} {g:Option (Nat×Bool)}
theorem RO.bytesO {s t:TypeId} {x:Operand} {y:CA} {l:List Byt} (hs:Q28 E.P s=true) (ht:Jy E.P t=true) (hx:ev st.tm x=some (.v (.one y))) (hl:SlOf y 1 (Enc.encL l)):RO E ⟨d,.convert s t x,ty,pos,af,g⟩ st (Qr5 (l.map Byt.u8)):=by
 refine ⟨(fun _ h=>nomatch h),fun V a w hr=>⟨.string (Qpz (l.map Byt.u8)),?_,J4 Z⟩⟩
 obtain ⟨e,h1,h2⟩:=tyBytes_spec hs
 have h3:E.P.underlying t=some .string:=by
  unfold Jy at ht
  split at ht
  ·rename_i h;exact h
  ·cases ht
 have hR:=hl.reads (hr.ev hx)
 have key:(convert s t (a.eval x)).run E.P w=.ok (.string (Qpz (l.map Byt.u8))) w:=by
  generalize hv:a.eval x=v at hR
  have hle:∀ es:List (List C),es=Enc.encL l→Reads V.S w (.sl 1 es) v→(convert s t v).run E.P w=.ok (.string (Qpz (l.map Byt.u8))) w:=by
   intro es hes hR
   cases hR with
   | sl _ _ ad cap b off f hcap ha hln hc _ hr' =>
    have hlen:es.length=l.length:=by rw [hes,Enc.len]
    have cells:∀ i,i < l.length→w.cell? ⟨b,off+i,none⟩=some (.int .u8 ((l.map Byt.n).getD i 0)):=fun i hi=>by
     have hg:es[i]?=some [.v (.int .u8 (l[i]).n)]:=by rw [hes];exact Enc.get (Cp hi)
     have c1:=hc i _ 0 _ hg rfl
     have c2:=hr' i _ 0 _ hg rfl
     generalize hf:f i 0=u at c1 c2
     cases c2
     rw [show off+i * 1+0=off+i by omega] at c1
     rw [c1]
     simp [List.getD,hi]
    by_cases h0:es=[]
    ·have hl0:l=[]:=CC (by rw [← hlen,h0];rfl)
     subst hl0
     rw [h0]
     rw [run_convert_bytes_string w s t e ad _ cap h1 h2 h3]
     cases ad with
     | none=>simp [Conv.bytesToString];rfl
     | some ad =>
      rw [run_bytesToString w ad _ cap [] (by
       have:=run_loadCells_list (P:=E.P) w ad [] (fun j v hj=>by simp at hj)
       simpa using this)]
      rfl
    ·rw [ha h0,hlen]
     rw [run_convert_bytes_arg w s e h1 h2 b off l.length cap (l.map Byt.n) (by simp) cells t h3]
     congr 2
     unfold strOfNums Qpz
     rw [CI];rfl
  exact hle _ Z hR
 simp only [execOp,Sem.run_bind,key,Result.andThen_ok]
 rfl
end
end
noncomputable section
open Go.RowKit
section
variable {E:Env} {st:St} {dd:Option Tmp} {ty:TypeId} {pos:String} {af:Array Edge} {g:Option (Nat×Bool)}
theorem RO.loadCol {t b m0 sz f:Nat} {T:TypeId} {xs:List CA} {x:Operand} {col:List Int} {m v:Int} (ht:Jd E.P t=some (false,m0)) (hx:ev st.tm x=some (.v (.one (.ptr b (0+m.toNat * sz+f))))) (hb:Qq8 st.hp b=some (.cells T xs))
  (hc:(List.range col.length).map (fun j=>xs[j * sz+f]?)=col.map fun n=>some (Qqp n)) (hv:J0 col m=some v):RO E ⟨dd,.load t x,ty,pos,af,g⟩ st (Qr6 v):=by
 obtain ⟨k,rfl,hk⟩:=Qhl hv
 have h1:=congrArg (fun l:List (Option CA)=>l[k]?) hc
 have hlt:=(Cg.1 hk).1
 rw [Cl,Cl,List.getElem?_range hlt,hk] at h1
 have h2:=Cv h1
 refine Q6 (y:=Qqp v) ht hx hb ?_
 rw [CN,P7]
 exact h2
end
section
variable {E:Env} {st:St} {dd:Option Tmp} {ty:TypeId} {pos:String} {af:Array Edge} {g:Option (Nat×Bool)}
theorem RO.makeFunc3 {f:FuncId} {o1 o2 o3:Operand} {i1 k1 i2 k2 i3 Qqd:Nat} {dd:Option Tmp} (h1:ev st.tm o1=some (.v (.one (.ptr i1 k1)))) (h2:ev st.tm o2=some (.v (.one (.ptr i2 k2)))) (h3:ev st.tm o3=some (.v (.one (.ptr i3 Qqd)))):RO E ⟨dd,.makeFunc (.func f) #[] #[o1,o2,o3],ty,pos,af,g⟩ st (.v (.one (.fn f [(i1,k1),(i2,k2),(i3,Qqd)]))) :=
 Wt rfl (fun k p hk=>by
  match k,hk with
  | 0,hk=>cases hk;exact ⟨o1,rfl,h1⟩
  | 1,hk=>cases hk;exact ⟨o2,rfl,h2⟩
  | 2,hk=>cases hk;exact ⟨o3,rfl,h3⟩)
end
end
noncomputable section
open Go.RowKit
def CallD (P:Program) (f:FuncId) (args:List AV) (m:Mem) (pv:Value) (m':Mem):Prop :=
 Qc P f∧∀ (E:Env) (V:Vu) (w:World) (vs:Array Value),E.P=P→HRel E V m.hp m.tk w→V.nx=m.nx→argsRel V w args vs →
  Calls P f vs w fun e w'=>∃ V',e=.panicked (ZW pv)∧HRel E V' m'.hp m'.tk w'∧V'.nx=m'.nx∧V.Le V' w w'
inductive EK where
 | ret (xs:List AV)
 | pan (v:Value)
def CallE (P:Program) (f:FuncId) (args:List AV) (m:Mem) (k:EK) (m':Mem):Prop:=match k with
 | .ret xs=>CallM P f args m (Qh xs) m'
 | .pan v=>CallD P f args m v m'
def EK.ok (P:Program) (st:St) (rs:List ResultVar):EK→Prop
 | .ret xs=>RAs P st rs xs
 | .pan _=>True
def EK.by:EK→Exit→Prop
 | .ret _,e=>e=.normal∨e=.ret
 | .pan v,e=>e=.panic (ZW v)
theorem Qp3 {xs:List AV}:EK.by (.ret xs) .ret:=.inr rfl
theorem Qpi {P:Program} {st:St} {rs:List ResultVar} {xs:List AV} (h:RAs P st rs xs):EK.ok P st rs (.ret xs):=h
theorem CallE.m {P:Program} {f:FuncId} {args:List AV} {m m':Mem} {xs:List AV} (h:CallE P f args m (.ret xs) m'):CallM P f args m (Qh xs) m':=h
theorem Qnn {α β γ δ:Type} (ι:α⊕β→δ) {o:Option δ} {y:α⊕β} {f:α→Option γ} {g:β→Option γ} {r:γ} {G:Prop} (ho:o=some (ι y)) (h:Sum.elim f g y=some r) (k1:∀ a,o=some (ι (.inl a))→f a=some r→G) (k2:∀ b,o=some (ι (.inr b))→g b=some r→G):G:=by
 cases y with
 | inl a=>exact k1 a ho h
 | inr b=>exact k2 b ho h
def OpD (E:Env) (o:Oper) (st:St) (pv:Value) (m:Mem):Prop:=∀ V a w,Rel E V st a w→∀ (ro:Option Nat) (n:Nat) (K:Act→World→Prop) (Q:Exit→Act→World→Prop),
 (∀ V' w',HRel E V' m.hp m.tk w'→V'.nx=m.nx→V.Le V' w w'→Q (.panic (ZW pv)) a w')→o.wpIn (Qrj ro) n E.P a w K Q
section
variable {E:Env} {ro:Option Nat} {n:Nat} {ops:Array Oper} {Q:Exit→Act→World→Prop} {rest:List Oper} {st:St} {o:Oper} {x:TV} {d dd:Option Tmp} {ty:TypeId} {pos:String} {af:Array Edge} {g:Option (Nat×Bool)}
theorem Qkr {pv:Value} {hp:List (Nat×HB)} {tk:List (Nat×Option Tok)} {nx:Nat} (hg:Qx ops st.tm o=some true) (ho:OpD E o st pv ⟨hp,tk,nx⟩) (k:XQ E Q (.panic (ZW pv)) ⟨st.tm,hp,tk,nx,st.nt,st.df⟩):XL E ro n ops Q (o::rest) st:=by
 intro V a w h
 unfold wpListIn
 rw [Cd (YB h hg)]
 exact ho V a w h ro n _ Q (fun V' w' H hn L=>k V' a w' (h.mem H hn L))
theorem DieOp.mk {fx:List (Nat×TV)} {i:Nat} {m m':Mem} {pv:Value} (ho:ops[i]?=some o) (hw:Qx ops (Qq ops st fx i m).tm o=some true) (h:OpD E o (Qq ops st fx i m) pv m') (k:XQ E Q (.panic (ZW pv)) ⟨(Qq ops st fx i m).tm,m'.hp,m'.tk,m'.nx,st.nt,st.df⟩):DieOp E Q ops st fx i m :=
 ⟨o,ho,hw,fun V a w hr ro n K=>h V a w hr ro n K Q (fun V' w' H hn L=>k V' a w' (hr.mem H hn L))⟩
theorem OpD.panic {x:Operand} {v:Value} {T:TypeId} (hx:ev st.tm x=some (KB (.iface T v))):OpD E ⟨dd,.panic x,ty,pos,af,g⟩ st (.iface T v) st.mem:=by
 intro V a w hr ro n K Q hK
 refine ⟨fun _ _=>trivial,?_⟩
 rw [Oper.semAt_eq _ _ _ (by intro c h;cases h)]
 have h1:=QT (hr.ev hx)
 have h2:(execOp a.eval ⟨dd,.panic x,ty,pos,af,g⟩).run E.P w=.halt (.panic (.iface T v)) w:=by
  simp [execOp,Instr.panic,h1,goPanic]
 rw [h2]
 exact hK V w hr.h hr.nx (Vu.Le.refl _ _)
end
theorem W6 {E:Env} {hp:List (Nat×HB)} {tk:List (Nat×Option Tok)} {F:Fence} {n:Nat} {P:Program} {fn:Func} {tmps:Array Value} {R:Ending→World→Prop} {u:FrameMode} (hu:u ≠ .run) {rest:List Deferred}:∀ (bs:List Nat) (w:World) (V:Vu),HRel E V hp tk w→bs.Nodup →
  (∀ b∈bs,V.S b 0∧w.heap[b]?=some (.deferred (some []))∧∀ o,¬ E.V0.S b o) →
  (∀ w' V',HRel E V' hp tk w'→V'.nx=V.nx→V'.ι=V.ι→V.Lx V' w w'→(∀ b o,b∉bs→V.S b o→V'.S b o)→(∀ b,b∉bs→w'.heap[b]?=w.heap[b]?)→LeavesInM F n P fn tmps R rest u w') →
  LeavesInM F n P fn tmps R (bs.map (fun b=>{ target:=.collected b,args:=#[]})++rest) u w
 | [],w,V,h,_,_,hK=>hK w V h rfl rfl (Vu.Lx.refl _ _) (fun _ _ _ h=>h) (fun _ _=>rfl)
 | b::bs,w,V,h,hn,hb,hK=>by
  obtain ⟨h1,h2,h3⟩:=hb b (by simp)
  obtain ⟨h4,h5⟩:=CT.1 hn
  obtain ⟨H,L⟩:=h.take h1 h2 h3
  refine ⟨hu,.inl ⟨b,_,Z,run_takeDeferred h2,?_⟩⟩
  refine W6 hu bs _ _ H h5 (fun b' hb'=>?_) (fun w' V' hw' hn' hι' L' hS' hh'=>hK w' V' hw' hn' hι' (L.trans L') (fun b' o hm hs=>hS' b' o (fun h=>hm (by simp [h])) ⟨hs,fun e=>hm (by simp [e])⟩) (fun b' hm=>(hh' b' (fun h=>hm (by simp [h]))).trans (World.putObj_heap_other (fun e=>hm (by simp [e])))))
  obtain ⟨h6,h7,h8⟩:=hb b' (by simp [hb'])
  have hne:b' ≠ b:=fun e=>h4 (by rw [← e];exact hb')
  exact ⟨⟨h6,hne⟩,(World.putObj_heap_other hne).trans h7,h8⟩
theorem Ut {E:Env} {V:Vu} {st:St} {a:Act} {w:World} (hr:Rel E V st a w) (hd:st.df=[]) {F:Fence} {n:Nat} {P:Program} {fn:Func} {tmps:Array Value} {R:Ending→World→Prop} {ch:List PanicEntry}
  (hK:∀ w' V',HRel E V' st.hp st.tk w'→V'.nx=V.nx→V.Lx V' w w'→R (.panicked ch) w'):LeavesInM F n P fn tmps R a.defers (.panicking ch) w:=by
 obtain ⟨bs,h1,h2,h3⟩:=hr.df.of_nil hd
 rw [h1,← Cy (List.map _ bs)]
 exact W6 (by simp) bs w V hr.h h2 h3 (fun w' V' H hn hι L _ _=>hK w' V' H hn L)
theorem CallE.of_body {P:Program} {f:FuncId} {fn:Func} {c:Code} {args:List AV} {m:Mem} {Y:Type} (y:Y) (stf:Y→St) (kf:Y→EK) (hf:P.funcs[f]?=some fn) (hb:fn.body=some c) (hen:Qc P f) (hnt:args.length≤fn.ntmps)
  (hdf:∀ y,(stf y).df=[]) (hres:∀ y,(kf y).ok P (stf y) fn.results.toList)
  (h:∀ (w0:World) (M:Nat→Prop) (V0:Vu) (Q:Exit→Act→World→Prop),V0.nx≤m.nx →
   (∀ (e:Exit) (st':St),(kf y).by e→st'.df=[]→StLe ⟨P,w0,M,V0⟩ st' (stf y)→XQ ⟨P,w0,M,V0⟩ Q e st')→XC ⟨P,w0,M,V0⟩ none 0 Q c ⟨J5 0 args,m.hp,m.tk,m.nx,fn.ntmps,[]⟩) (hP0:P=Tryz.prog:=by rfl) :
  CallE P f args m (kf y) ⟨(stf y).hp,(stf y).tk,(stf y).nx⟩:=by
 have hd:=hdf y
 have hr:=hres y
 generalize stf y=st1 at hd hr h ⊢
 cases hk:kf y with
 | ret xs =>
  rw [hk] at hr
  refine Qp st1 hf hb hen hnt hd hr (fun w0 M V0 Q hv hQ=>h w0 M V0 Q hv (fun e st' he hdf' hle=>?_)) hP0
  rw [hk] at he
  exact hQ e st' st'.hp he (by rw [hdf'];rfl) (by cases st';dsimp only at hdf';subst hdf';exact hle)
 | pan pv =>
  refine ⟨hen,fun E V w vs hP H hn hargs=>?_⟩
  refine (callsIn_wide (n:=0)).1 (Zo (F:=Fence.wide) (Q0x hP0 hf) hf hb trivial ?_)
  have hR0:Rel (E.at V w) V ⟨J5 0 args,m.hp,m.tk,m.nx,fn.ntmps,[]⟩ { tmps:=vs++Array.replicate (fn.ntmps - vs.size) undef,defers:=[]} w:=by
   refine ⟨H.rebase,hn,by simp [hargs.1];omega,dfRel.nil,fun t x hx=>?_⟩
   obtain ⟨k,y,h1,h2,rfl⟩:=GI args 0 t x hx
   obtain ⟨u,hu,hy⟩:=hargs.2 k y h2
   have hk:k < vs.size:=(CP.1 hu).1
   have:(vs++Array.replicate (fn.ntmps - vs.size) undef).getD t undef=u:=by
    rw [show t=k by omega,P6,P9 hk,hu];rfl
   rw [this];exact hy
  have hgo:∀ E':Env,E'=E.at V w→E'.P=P→E'.V0=V→XC E' none 0 (bodyPostM Fence.wide 0 P fn (fun e w'=>∃ V',e=.panicked (ZW pv)∧HRel E V' st1.hp st1.tk w'∧V'.nx=st1.nx∧V.Le V' w w')) c ⟨J5 0 args,m.hp,m.tk,m.nx,fn.ntmps,[]⟩:=by
   rintro ⟨P',w0,M,V0⟩ he hP' hV'
   dsimp only at hP' hV'
   subst hP'
   refine h w0 M V0 _ (by rw [hV',hn];exact Ck _) ?_
   intro e st' hby hdf' hle
   rw [hk] at hby
   cases (show e=.panic (ZW pv) from hby)
   intro V1 a1 w1 hr1
   rw [he] at hr1 hle
   obtain ⟨V2,hr2⟩:=hr1.less hle
   refine Ut hr2 hd (fun w' V' H' hn' L'=>?_)
   obtain ⟨H5,L5⟩:=H.back H'
   exact ⟨V',Z,H5,hn'.trans hr2.nx,L5⟩
  have:=hgo (E.at V w) rfl hP rfl V _ w hR0
  rw [show (E.at V w).P=P from hP] at this
  exact this
end
noncomputable section
open Go.RowKit
noncomputable section
structure Use where
 index:Bool
 name:Bool
 levels:Int
 kids:Int
 below:Int
def Qnh (u:Use):List C:=[.v (.bool u.index),.v (.bool u.name),.v (.int .i64 u.levels),.v (.int .i64 u.kids),.v (.int .i64 u.below)]
instance:Enc Use:=⟨5,Qnh,fun l=>l.map Qnh,rfl,fun a b=>Cr,fun _=>rfl⟩
instance:EncLen Use:=⟨fun _=>rfl,by decide⟩
structure Scp where
 vars:Int
 params:Int
 metas:Int
 levels:Int
def Qnq (u:Scp):List C:=[.v (.int .i64 u.vars),.v (.int .i64 u.params),.v (.int .i64 u.metas),.v (.int .i64 u.levels)]
instance:Enc Scp:=⟨4,Qnq,fun l=>l.map Qnq,rfl,fun a b=>Cr,fun _=>rfl⟩
instance:EncLen Scp:=⟨fun _=>rfl,by decide⟩
end
section
variable {E:Env} {st:St} {d:Option Tmp} {ty:TypeId} {pos:String} {af:Array Edge} {g:Option (Nat×Bool)}
def Qcv (P:Program) (t:TypeId):Option (Nat×Nat):=match P.underlying t with
 | some (.array n e)=>match Jd P e with
  | some (true,sz)=>some (n,sz)
  | _=>none
 | _=>none
theorem Q1s {α:Type} [Enc α] [EncLen α] {t n:Nat} {x y:Operand} {xs:List CA} {tbl:List α} {m:Int} {v:α} (ht:Qcv E.P t=some (n,Enc.sz α)) (hx:ev st.tm x=some (.v (.agg xs))) (hxs:xs=Q48 tbl) (hn:Nat.beq tbl.length n=true) (hy:ev st.tm y=some (Qr6 m)) (hv:J0 tbl m=some v) :
  RO E ⟨d,.index t x y,ty,pos,af,g⟩ st (.v (.agg (Qqt v))):=by
 refine ⟨(fun _ h=>nomatch h),fun V a w hr=>?_⟩
 obtain ⟨k,rfl,hk⟩:=Qhl hv
 obtain ⟨vs,h1,h2,h3⟩:=hr.ev hx
 subst hxs
 have hlt:k < tbl.length:=(Cg.1 hk).1
 have hn':=C4 hn
 unfold Qcv at ht
 split at ht
 ·rename_i n' e hu
  split at ht
  ·rename_i sz ha
   cases ht
   obtain ⟨h4,h5⟩:=Zy ha w
   have hsz:vs.size=tbl.length * Enc.sz α:=by rw [h2,flatE_len]
   refine ⟨.agg (vs.extract (k * Enc.sz α) (k * Enc.sz α+Enc.sz α)),?_,_,Z,?_,fun i c hc=>?_⟩
   ·have h6:(k:Int) < (n:Int):=by omega
    have h7:¬ n≤k:=by omega
    simp [execOp,Instr.index,h1,QT (hr.ev hy),asIntOf,run_underlying hu,part,h4,h5,h6,h7]
   ·have:k * Enc.sz α+Enc.sz α≤vs.size:=by rw [hsz,← Sx];exact Pi _ hlt
    rw [Array.size_extract,Cm,EncLen.len];omega
   ·have hi:i < Enc.sz α:=by have:=(Cg.1 hc).1;rw [Cm,EncLen.len] at this;exact this
    have hc':(Q48 tbl)[k * Enc.sz α+i]?=some c:=by rw [flatE_get hk hi,← Cl];exact hc
    obtain ⟨u,h6,h7⟩:=h3 _ c hc'
    refine ⟨u,?_,h7⟩
    rw [Array.getElem?_extract]
    have:k * Enc.sz α+Enc.sz α≤vs.size:=by rw [hsz,← Sx];exact Pi _ hlt
    rw [Cd (by omega)];exact h6
  ·cases ht
 ·cases ht
end
end
noncomputable section
open Go.RowKit
noncomputable section
structure Rsc where
 env:List Dcl
 own:List (List UInt8)
 d:Dcl
def Qns (s:Rsc):List C:=.sl 23 (Enc.encL s.env)::.sl 1 (Enc.encL s.own)::Qn1 s.d
instance:Enc Rsc:=⟨25,Qns,fun l=>l.map Qns,rfl,fun a b=>Cr,fun _=>rfl⟩
instance:EncLen Rsc:=⟨fun _=>rfl,by decide⟩
end
section
variable {E:Env} {st:St} {dd:Option Tmp} {ty:TypeId} {pos:String} {af:Array Edge} {g:Option (Nat×Bool)}
theorem Gu {t i n:Nat} {ag:Bool} {T:TypeId} {xs ys:List CA} {o1 o2:Operand} (ht:Jd E.P t=some (ag,n)) (h1:ev st.tm o1=some (.v (.one (.ptr i 0)))) (h2:ev st.tm o2=some (.v (.agg ys)))
  (hi:Qq8 st.hp i=some (.cells T xs)) (hl:ys.length=n) (hx:xs.length=n) (hdd:dd=none) :
  OpOK E ⟨dd,.store t o1 o2,ty,pos,af,g⟩ st (.tup []) ⟨(i,.cells T ys)::QD i st.hp,st.tk,st.nx⟩:=by
 have:=Qi (dd:=dd) (ty:=ty) (pos:=pos) (af:=af) (g:=g) ht h1 h2 hi hl (by omega) hdd
 have e1:setL xs 0 (AV.agg ys).cells=ys:=by
  have:=Q32 ys xs [] (by omega)
  rw [Cy,Cy] at this
  exact this
 rw [e1] at this
 exact this
variable {α:Type} [Enc α] [EncLen α]
end
end
noncomputable section
open Go.RowKit
structure Tkn where
 text:Qrl
 at_:Int
def Qni (t:Tkn):List C:=[.v (.string (Qpz t.text)),.v (.int .i64 t.at_)]
instance:Enc Tkn:=⟨2,Qni,fun l=>l.map Qni,rfl,fun a b=>Cr,fun _=>rfl⟩
instance:EncLen Tkn:=⟨fun _=>rfl,by decide⟩
structure Rdr where
 l:List Tkn
 n:Int
def Qnw (t:Rdr):List C:=[.sl 2 (Enc.encL t.l),.v (.int .i64 t.n)]
instance:Enc Rdr:=⟨2,Qnw,fun l=>l.map Qnw,rfl,fun a b=>Cr,fun _=>rfl⟩
instance:EncLen Rdr:=⟨fun _=>rfl,by decide⟩
structure RRd where
 s:Qrl
 at_:Int
 bad:Bool
def Qnt (t:RRd):List C:=[.v (.string (Qpz t.s)),.v (.int .i64 t.at_),.v (.bool t.bad)]
instance:Enc RRd:=⟨3,Qnt,fun l=>l.map Qnt,rfl,fun a b=>Cr,fun _=>rfl⟩
instance:EncLen RRd:=⟨fun _=>rfl,by decide⟩
structure RWr where
 s:Qrl
 e:Int
def Qnr (t:RWr):List C:=[.v (.string (Qpz t.s)),.v (.int .i64 t.e)]
instance:Enc RWr:=⟨2,Qnr,fun l=>l.map Qnr,rfl,fun a b=>Cr,fun _=>rfl⟩
instance:EncLen RWr:=⟨fun _=>rfl,by decide⟩
structure Rfd where
 e:Int
 at_:Int
def Qnu (t:Rfd):List C:=[.v (.int .i64 t.e),.v (.int .i64 t.at_)]
instance:Enc Rfd:=⟨2,Qnu,fun l=>l.map Qnu,rfl,fun a b=>Cr,fun _=>rfl⟩
instance:EncLen Rfd:=⟨fun _=>rfl,by decide⟩
end
end Go.Proofs.YtjcfppnjamjjhaaGreatDoor
namespace Go.Proofs
noncomputable section
open Go.Shelf
def Tryz.lays171_ren:Go.Shelf.Ren:=⟨fun | 171=>62 | 243=>113 | 246=>138 | 283=>159 | 284=>160 | 285=>161 | 286=>162 | 129=>191 | 317=>190 | 318=>192 | 319=>193 | 320=>194 | 337=>212 | 338=>213 | n=>n,fun | 3=>3 | 9=>9 | 2=>2 | 4=>4 | 171=>194 | 0=>0 | 53=>195 | 37=>60 | 5=>5 | 173=>198 | 212=>230 | 51=>231 | 20=>20 | 213=>232 | 46=>234 | 232=>260 | 233=>261 | n=>n,fun | 17=>0 | 18=>4 | 19=>5 | n=>n⟩
theorem Tryz.lays171:Go.Proofs.LaysM.n171 Tryz.prog Tryz.lays171_ren:={
 mixed:=by kernel_rfl
 f129:=Tryz.func191.trans (congrArg some (by kernel_rfl))
 f171:=Tryz.func62.trans (congrArg some (by kernel_rfl))
 f243:=Tryz.func113.trans (congrArg some (by kernel_rfl))
 f246:=Tryz.func138.trans (congrArg some (by kernel_rfl))
 f283:=Tryz.func159.trans (congrArg some (by kernel_rfl))
 f284:=Tryz.func160.trans (congrArg some (by kernel_rfl))
 f285:=Tryz.func161.trans (congrArg some (by kernel_rfl))
 f286:=Tryz.func162.trans (congrArg some (by kernel_rfl))
 f317:=Tryz.func190.trans (congrArg some (by kernel_rfl))
 f318:=Tryz.func192.trans (congrArg some (by kernel_rfl))
 f319:=Tryz.func193.trans (congrArg some (by kernel_rfl))
 f320:=Tryz.func194.trans (congrArg some (by kernel_rfl))
 f337:=Tryz.func212.trans (congrArg some (by kernel_rfl))
 f338:=Tryz.func213.trans (congrArg some (by kernel_rfl))
 t0:=Tryz.underlying0
 a0:=Tryz.isAgg0
 z0:=Tryz.sizeOf0
 v0:=Tryz.zeroValue0
 t2:=Tryz.underlying2
 a2:=Tryz.isAgg2
 z2:=Tryz.sizeOf2
 v2:=Tryz.zeroValue2
 t3:=Tryz.underlying3
 a3:=Tryz.isAgg3
 z3:=Tryz.sizeOf3
 v3:=Tryz.zeroValue3
 t4:=Tryz.underlying4
 a4:=Tryz.isAgg4
 z4:=Tryz.sizeOf4
 v4:=Tryz.zeroValue4
 t5:=Tryz.underlying5
 a5:=Tryz.isAgg5
 z5:=Tryz.sizeOf5
 v5:=Tryz.zeroValue5
 t9:=Tryz.underlying9
 a9:=Tryz.isAgg9
 z9:=Tryz.sizeOf9
 v9:=Tryz.zeroValue9
 t20:=Tryz.underlying20
 a20:=Tryz.isAgg20
 z20:=Tryz.sizeOf20
 v20:=Tryz.zeroValue20
 t37:=Tryz.underlying60
 a37:=Tryz.isAgg60
 z37:=Tryz.sizeOf60
 v37:=Tryz.zeroValue60
 t46:=Tryz.underlying234
 a46:=Tryz.isAgg234
 z46:=Tryz.sizeOf234
 v46:=Tryz.zeroValue234
 t51:=Tryz.underlying231
 a51:=Tryz.isAgg231
 z51:=Tryz.sizeOf231
 v51:=Tryz.zeroValue231
 t53:=Tryz.underlying195
 a53:=Tryz.isAgg195
 z53:=Tryz.sizeOf195
 v53:=Tryz.zeroValue195
 t171:=Tryz.underlying194
 a171:=Tryz.isAgg194
 z171:=Tryz.sizeOf194
 v171:=Tryz.zeroValue194
 t173:=Tryz.underlying198
 a173:=Tryz.isAgg198
 z173:=Tryz.sizeOf198
 v173:=Tryz.zeroValue198
 t212:=Tryz.underlying230
 a212:=Tryz.isAgg230
 z212:=Tryz.sizeOf230
 v212:=Tryz.zeroValue230
 t213:=Tryz.underlying232
 a213:=Tryz.isAgg232
 z213:=Tryz.sizeOf232
 t232:=Tryz.underlying260
 a232:=Tryz.isAgg260
 z232:=Tryz.sizeOf260
 v232:=Tryz.zeroValue260
 t233:=Tryz.underlying261
 a233:=Tryz.isAgg261
 z233:=Tryz.sizeOf261
 v233:=Tryz.zeroValue261
 g17:=by kernel_rfl
 g18:=by kernel_rfl
 g19:=by kernel_rfl
 i0:=by kernel_rfl
 i2:=by kernel_rfl
 i3:=by kernel_rfl
 i4:=by kernel_rfl
 i5:=by kernel_rfl
 i9:=by kernel_rfl
 i20:=by kernel_rfl
 i37:=by kernel_rfl
 i46:=by kernel_rfl
 i51:=by kernel_rfl
 i53:=by kernel_rfl
 i171:=by kernel_rfl
 i173:=by kernel_rfl
 i212:=by kernel_rfl
 i232:=by kernel_rfl
 i233:=by kernel_rfl
 m17:=by kernel_rfl
 m18:=by kernel_rfl
 m19:=by kernel_rfl }
def Tryz.lays160_ren:Go.Shelf.Ren:=⟨fun | 160=>146 | 232=>167 | 231=>166 | 227=>168 | 234=>170 | 233=>169 | 236=>172 | 235=>171 | 228=>196 | 271=>199 | 151=>198 | 197=>197 | 120=>217 | 152=>216 | 260=>215 | 137=>122 | 119=>224 | 224=>225 | 225=>226 | 217=>143 | 266=>165 | n=>n,fun | 9=>9 | 4=>4 | 3=>3 | 5=>5 | 117=>204 | 116=>203 | 0=>0 | 124=>207 | 21=>21 | 105=>236 | 46=>234 | 119=>262 | 139=>265 | 138=>264 | n=>n,fun | 3=>6 | 4=>7 | n=>n⟩
theorem Tryz.lays160:Go.Proofs.Lays.n160 Tryz.prog Tryz.lays160_ren:={
 mixed:=by kernel_rfl
 f119:=Tryz.func224.trans (congrArg some (by kernel_rfl))
 f120:=Tryz.func217.trans (congrArg some (by kernel_rfl))
 f137:=Tryz.func122.trans (congrArg some (by kernel_rfl))
 f151:=Tryz.func198.trans (congrArg some (by kernel_rfl))
 f152:=Tryz.func216.trans (congrArg some (by kernel_rfl))
 f160:=Tryz.func146.trans (congrArg some (by kernel_rfl))
 f197:=Tryz.func197.trans (congrArg some (by kernel_rfl))
 f217:=Tryz.func143.trans (congrArg some (by kernel_rfl))
 f224:=Tryz.func225.trans (congrArg some (by kernel_rfl))
 f225:=Tryz.func226.trans (congrArg some (by kernel_rfl))
 f227:=Tryz.func168.trans (congrArg some (by kernel_rfl))
 f228:=Tryz.func196.trans (congrArg some (by kernel_rfl))
 f231:=Tryz.func166.trans (congrArg some (by kernel_rfl))
 f232:=Tryz.func167.trans (congrArg some (by kernel_rfl))
 f233:=Tryz.func169.trans (congrArg some (by kernel_rfl))
 f234:=Tryz.func170.trans (congrArg some (by kernel_rfl))
 f235:=Tryz.func171.trans (congrArg some (by kernel_rfl))
 f236:=Tryz.func172.trans (congrArg some (by kernel_rfl))
 f260:=Tryz.func215.trans (congrArg some (by kernel_rfl))
 f266:=Tryz.func165.trans (congrArg some (by kernel_rfl))
 f271:=Tryz.func199.trans (congrArg some (by kernel_rfl))
 t0:=Tryz.underlying0
 a0:=Tryz.isAgg0
 z0:=Tryz.sizeOf0
 v0:=Tryz.zeroValue0
 t3:=Tryz.underlying3
 a3:=Tryz.isAgg3
 z3:=Tryz.sizeOf3
 v3:=Tryz.zeroValue3
 t4:=Tryz.underlying4
 a4:=Tryz.isAgg4
 z4:=Tryz.sizeOf4
 v4:=Tryz.zeroValue4
 t5:=Tryz.underlying5
 a5:=Tryz.isAgg5
 z5:=Tryz.sizeOf5
 v5:=Tryz.zeroValue5
 t9:=Tryz.underlying9
 a9:=Tryz.isAgg9
 z9:=Tryz.sizeOf9
 v9:=Tryz.zeroValue9
 t21:=Tryz.underlying21
 a21:=Tryz.isAgg21
 z21:=Tryz.sizeOf21
 v21:=Tryz.zeroValue21
 t46:=Tryz.underlying234
 a46:=Tryz.isAgg234
 z46:=Tryz.sizeOf234
 v46:=Tryz.zeroValue234
 t105:=Tryz.underlying236
 a105:=Tryz.isAgg236
 z105:=Tryz.sizeOf236
 v105:=Tryz.zeroValue236
 t116:=Tryz.underlying203
 a116:=Tryz.isAgg203
 z116:=Tryz.sizeOf203
 t117:=Tryz.underlying204
 a117:=Tryz.isAgg204
 z117:=Tryz.sizeOf204
 v117:=Tryz.zeroValue204
 t119:=Tryz.underlying262
 a119:=Tryz.isAgg262
 z119:=Tryz.sizeOf262
 t124:=Tryz.underlying207
 a124:=Tryz.isAgg207
 z124:=Tryz.sizeOf207
 v124:=Tryz.zeroValue207
 t138:=Tryz.underlying264
 a138:=Tryz.isAgg264
 z138:=Tryz.sizeOf264
 v138:=Tryz.zeroValue264
 t139:=Tryz.underlying265
 a139:=Tryz.isAgg265
 z139:=Tryz.sizeOf265
 v139:=Tryz.zeroValue265
 g3:=by kernel_rfl
 g4:=by kernel_rfl }
def Tryz.lays137_ren:Go.Shelf.Ren:=⟨fun | 137=>122 | 217=>143 | 266=>165 | n=>n,fun | 9=>9 | 5=>5 | 3=>3 | n=>n,fun | n=>n⟩
theorem Tryz.lays137:Go.Proofs.Lays.n137 Tryz.prog Tryz.lays137_ren:={
 mixed:=by kernel_rfl
 f137:=Tryz.func122.trans (congrArg some (by kernel_rfl))
 f217:=Tryz.func143.trans (congrArg some (by kernel_rfl))
 f266:=Tryz.func165.trans (congrArg some (by kernel_rfl))
 t3:=Tryz.underlying3
 a3:=Tryz.isAgg3
 z3:=Tryz.sizeOf3
 v3:=Tryz.zeroValue3
 t5:=Tryz.underlying5
 a5:=Tryz.isAgg5
 z5:=Tryz.sizeOf5
 v5:=Tryz.zeroValue5
 t9:=Tryz.underlying9
 a9:=Tryz.isAgg9
 z9:=Tryz.sizeOf9
 v9:=Tryz.zeroValue9 }
def Tryz.lays99_ren:Go.Shelf.Ren:=⟨fun | 99=>126 | 206=>148 | n=>n,fun | 9=>9 | 4=>4 | 3=>3 | n=>n,fun | n=>n⟩
theorem Tryz.lays99:Go.Proofs.Lays.n99 Tryz.prog Tryz.lays99_ren:={
 mixed:=by kernel_rfl
 f99:=Tryz.func126.trans (congrArg some (by kernel_rfl))
 f206:=Tryz.func148.trans (congrArg some (by kernel_rfl))
 t3:=Tryz.underlying3
 a3:=Tryz.isAgg3
 z3:=Tryz.sizeOf3
 v3:=Tryz.zeroValue3
 t4:=Tryz.underlying4
 a4:=Tryz.isAgg4
 z4:=Tryz.sizeOf4
 v4:=Tryz.zeroValue4
 t9:=Tryz.underlying9
 a9:=Tryz.isAgg9
 z9:=Tryz.sizeOf9
 v9:=Tryz.zeroValue9 }
def Tryz.lays172_ren:Go.Shelf.Ren:=⟨fun | 172=>147 | 244=>173 | 245=>174 | 247=>200 | 279=>201 | 280=>202 | 281=>203 | 282=>204 | 287=>218 | 316=>219 | 171=>62 | 205=>220 | 321=>227 | 322=>228 | 243=>113 | 246=>138 | 283=>159 | 284=>160 | 285=>161 | 286=>162 | 129=>191 | 317=>190 | 318=>192 | 319=>193 | 320=>194 | 337=>212 | 338=>213 | n=>n,fun | 9=>9 | 3=>3 | 75=>114 | 76=>115 | 4=>4 | 5=>5 | 167=>239 | 37=>60 | 0=>0 | 85=>240 | 2=>2 | 168=>242 | 53=>195 | 175=>252 | 46=>234 | 210=>256 | 127=>121 | 145=>271 | 143=>269 | 21=>21 | 171=>194 | 173=>198 | 212=>230 | 51=>231 | 20=>20 | 213=>232 | 232=>260 | 233=>261 | 80=>65 | n=>n,fun | 15=>2 | 16=>3 | 17=>0 | 18=>4 | 19=>5 | n=>n⟩
theorem DC:Go.Proofs.Lays.n172 Tryz.prog Tryz.lays172_ren:={
 mixed:=by kernel_rfl
 f129:=Tryz.func191.trans (congrArg some (by kernel_rfl))
 f171:=Tryz.func62.trans (congrArg some (by kernel_rfl))
 f172:=Tryz.func147.trans (congrArg some (by kernel_rfl))
 f205:=Tryz.func220.trans (congrArg some (by kernel_rfl))
 f243:=Tryz.func113.trans (congrArg some (by kernel_rfl))
 f244:=Tryz.func173.trans (congrArg some (by kernel_rfl))
 f245:=Tryz.func174.trans (congrArg some (by kernel_rfl))
 f246:=Tryz.func138.trans (congrArg some (by kernel_rfl))
 f247:=Tryz.func200.trans (congrArg some (by kernel_rfl))
 f279:=Tryz.func201.trans (congrArg some (by kernel_rfl))
 f280:=Tryz.func202.trans (congrArg some (by kernel_rfl))
 f281:=Tryz.func203.trans (congrArg some (by kernel_rfl))
 f282:=Tryz.func204.trans (congrArg some (by kernel_rfl))
 f283:=Tryz.func159.trans (congrArg some (by kernel_rfl))
 f284:=Tryz.func160.trans (congrArg some (by kernel_rfl))
 f285:=Tryz.func161.trans (congrArg some (by kernel_rfl))
 f286:=Tryz.func162.trans (congrArg some (by kernel_rfl))
 f287:=Tryz.func218.trans (congrArg some (by kernel_rfl))
 f316:=Tryz.func219.trans (congrArg some (by kernel_rfl))
 f317:=Tryz.func190.trans (congrArg some (by kernel_rfl))
 f318:=Tryz.func192.trans (congrArg some (by kernel_rfl))
 f319:=Tryz.func193.trans (congrArg some (by kernel_rfl))
 f320:=Tryz.func194.trans (congrArg some (by kernel_rfl))
 f321:=Tryz.func227.trans (congrArg some (by kernel_rfl))
 f322:=Tryz.func228.trans (congrArg some (by kernel_rfl))
 f337:=Tryz.func212.trans (congrArg some (by kernel_rfl))
 f338:=Tryz.func213.trans (congrArg some (by kernel_rfl))
 t0:=Tryz.underlying0
 a0:=Tryz.isAgg0
 z0:=Tryz.sizeOf0
 v0:=Tryz.zeroValue0
 t2:=Tryz.underlying2
 a2:=Tryz.isAgg2
 z2:=Tryz.sizeOf2
 v2:=Tryz.zeroValue2
 t3:=Tryz.underlying3
 a3:=Tryz.isAgg3
 z3:=Tryz.sizeOf3
 v3:=Tryz.zeroValue3
 t4:=Tryz.underlying4
 a4:=Tryz.isAgg4
 z4:=Tryz.sizeOf4
 v4:=Tryz.zeroValue4
 t5:=Tryz.underlying5
 a5:=Tryz.isAgg5
 z5:=Tryz.sizeOf5
 v5:=Tryz.zeroValue5
 t9:=Tryz.underlying9
 a9:=Tryz.isAgg9
 z9:=Tryz.sizeOf9
 v9:=Tryz.zeroValue9
 t20:=Tryz.underlying20
 a20:=Tryz.isAgg20
 z20:=Tryz.sizeOf20
 v20:=Tryz.zeroValue20
 t21:=Tryz.underlying21
 a21:=Tryz.isAgg21
 z21:=Tryz.sizeOf21
 v21:=Tryz.zeroValue21
 t37:=Tryz.underlying60
 a37:=Tryz.isAgg60
 z37:=Tryz.sizeOf60
 v37:=Tryz.zeroValue60
 t46:=Tryz.underlying234
 a46:=Tryz.isAgg234
 z46:=Tryz.sizeOf234
 v46:=Tryz.zeroValue234
 t51:=Tryz.underlying231
 a51:=Tryz.isAgg231
 z51:=Tryz.sizeOf231
 v51:=Tryz.zeroValue231
 t53:=Tryz.underlying195
 a53:=Tryz.isAgg195
 z53:=Tryz.sizeOf195
 v53:=Tryz.zeroValue195
 t75:=Tryz.underlying114
 a75:=Tryz.isAgg114
 z75:=Tryz.sizeOf114
 v75:=Tryz.zeroValue114
 t76:=Tryz.underlying115
 a76:=Tryz.isAgg115
 z76:=Tryz.sizeOf115
 v76:=Tryz.zeroValue115
 t85:=Tryz.underlying240
 a85:=Tryz.isAgg240
 z85:=Tryz.sizeOf240
 v85:=Tryz.zeroValue240
 t127:=Tryz.underlying121
 a127:=Tryz.isAgg121
 z127:=Tryz.sizeOf121
 v127:=Tryz.zeroValue121
 t143:=Tryz.underlying269
 a143:=Tryz.isAgg269
 z143:=Tryz.sizeOf269
 v143:=Tryz.zeroValue269
 t145:=Tryz.underlying271
 a145:=Tryz.isAgg271
 z145:=Tryz.sizeOf271
 v145:=Tryz.zeroValue271
 t167:=Tryz.underlying239
 a167:=Tryz.isAgg239
 z167:=Tryz.sizeOf239
 v167:=Tryz.zeroValue239
 t168:=Tryz.underlying242
 a168:=Tryz.isAgg242
 z168:=Tryz.sizeOf242
 v168:=Tryz.zeroValue242
 t171:=Tryz.underlying194
 a171:=Tryz.isAgg194
 z171:=Tryz.sizeOf194
 v171:=Tryz.zeroValue194
 t173:=Tryz.underlying198
 a173:=Tryz.isAgg198
 z173:=Tryz.sizeOf198
 v173:=Tryz.zeroValue198
 t175:=Tryz.underlying252
 a175:=Tryz.isAgg252
 z175:=Tryz.sizeOf252
 v175:=Tryz.zeroValue252
 t210:=Tryz.underlying256
 a210:=Tryz.isAgg256
 z210:=Tryz.sizeOf256
 v210:=Tryz.zeroValue256
 t212:=Tryz.underlying230
 a212:=Tryz.isAgg230
 z212:=Tryz.sizeOf230
 v212:=Tryz.zeroValue230
 t213:=Tryz.underlying232
 a213:=Tryz.isAgg232
 z213:=Tryz.sizeOf232
 t232:=Tryz.underlying260
 a232:=Tryz.isAgg260
 z232:=Tryz.sizeOf260
 v232:=Tryz.zeroValue260
 t233:=Tryz.underlying261
 a233:=Tryz.isAgg261
 z233:=Tryz.sizeOf261
 v233:=Tryz.zeroValue261
 g15:=by kernel_rfl
 g16:=by kernel_rfl
 g17:=by kernel_rfl
 g18:=by kernel_rfl
 g19:=by kernel_rfl }
def ZM:Go.Shelf.Ren:=⟨fun | 156=>141 | 165=>164 | 166=>61 | 169=>30 | 240=>112 | 241=>195 | 276=>137 | 277=>214 | n=>n,fun | 31=>41 | 9=>9 | 3=>3 | 4=>4 | 0=>0 | 20=>20 | 72=>62 | 76=>115 | 70=>59 | 37=>60 | 75=>114 | 127=>121 | 164=>176 | 5=>5 | 80=>65 | n=>n,fun | n=>n⟩
theorem Xr:Go.Proofs.Lays.n156 Tryz.prog ZM:={
 mixed:=by kernel_rfl
 f156:=Tryz.func141.trans (congrArg some (by kernel_rfl))
 f165:=Tryz.func164.trans (congrArg some (by kernel_rfl))
 f166:=Tryz.func61.trans (congrArg some (by kernel_rfl))
 f169:=Tryz.func30.trans (congrArg some (by kernel_rfl))
 f240:=Tryz.func112.trans (congrArg some (by kernel_rfl))
 f241:=Tryz.func195.trans (congrArg some (by kernel_rfl))
 f276:=Tryz.func137.trans (congrArg some (by kernel_rfl))
 f277:=Tryz.func214.trans (congrArg some (by kernel_rfl))
 t0:=Tryz.underlying0
 a0:=Tryz.isAgg0
 z0:=Tryz.sizeOf0
 v0:=Tryz.zeroValue0
 t3:=Tryz.underlying3
 a3:=Tryz.isAgg3
 z3:=Tryz.sizeOf3
 v3:=Tryz.zeroValue3
 t4:=Tryz.underlying4
 a4:=Tryz.isAgg4
 z4:=Tryz.sizeOf4
 v4:=Tryz.zeroValue4
 t9:=Tryz.underlying9
 a9:=Tryz.isAgg9
 z9:=Tryz.sizeOf9
 v9:=Tryz.zeroValue9
 t20:=Tryz.underlying20
 a20:=Tryz.isAgg20
 z20:=Tryz.sizeOf20
 v20:=Tryz.zeroValue20
 t31:=Tryz.underlying41
 a31:=Tryz.isAgg41
 z31:=Tryz.sizeOf41
 v31:=Tryz.zeroValue41
 t37:=Tryz.underlying60
 a37:=Tryz.isAgg60
 z37:=Tryz.sizeOf60
 v37:=Tryz.zeroValue60
 t70:=Tryz.underlying59
 a70:=Tryz.isAgg59
 z70:=Tryz.sizeOf59
 v70:=Tryz.zeroValue59
 t72:=Tryz.underlying62
 a72:=Tryz.isAgg62
 z72:=Tryz.sizeOf62
 v72:=Tryz.zeroValue62
 t75:=Tryz.underlying114
 a75:=Tryz.isAgg114
 z75:=Tryz.sizeOf114
 v75:=Tryz.zeroValue114
 t76:=Tryz.underlying115
 a76:=Tryz.isAgg115
 z76:=Tryz.sizeOf115
 v76:=Tryz.zeroValue115
 t127:=Tryz.underlying121
 a127:=Tryz.isAgg121
 z127:=Tryz.sizeOf121
 v127:=Tryz.zeroValue121
 t164:=Tryz.underlying176
 a164:=Tryz.isAgg176
 z164:=Tryz.sizeOf176
 v164:=Tryz.zeroValue176 }
def GV:Go.Shelf.Ren:=⟨fun | 169=>30 | n=>n,fun | 70=>59 | 9=>9 | 0=>0 | 72=>62 | 37=>60 | 127=>121 | 3=>3 | 5=>5 | n=>n,fun | n=>n⟩
theorem Tryz.lays169:Go.Proofs.Lays.n169 Tryz.prog GV:={
 mixed:=by kernel_rfl
 f169:=Tryz.func30.trans (congrArg some (by kernel_rfl))
 t0:=Tryz.underlying0
 a0:=Tryz.isAgg0
 z0:=Tryz.sizeOf0
 v0:=Tryz.zeroValue0
 t3:=Tryz.underlying3
 a3:=Tryz.isAgg3
 z3:=Tryz.sizeOf3
 v3:=Tryz.zeroValue3
 t9:=Tryz.underlying9
 a9:=Tryz.isAgg9
 z9:=Tryz.sizeOf9
 v9:=Tryz.zeroValue9
 t37:=Tryz.underlying60
 a37:=Tryz.isAgg60
 z37:=Tryz.sizeOf60
 v37:=Tryz.zeroValue60
 t70:=Tryz.underlying59
 a70:=Tryz.isAgg59
 z70:=Tryz.sizeOf59
 v70:=Tryz.zeroValue59
 t72:=Tryz.underlying62
 a72:=Tryz.isAgg62
 z72:=Tryz.sizeOf62
 v72:=Tryz.zeroValue62
 t127:=Tryz.underlying121
 a127:=Tryz.isAgg121
 z127:=Tryz.sizeOf121
 v127:=Tryz.zeroValue121 }
theorem Tryz.bx156:Builder.Extra Tryz.prog ZM:={
 sizeBuilder:=by kernel_rfl
 liesBuilder:=by kernel_rfl
 t5:=Tryz.underlying5
 a5:=Tryz.isAgg5
 z5:=Tryz.sizeOf5
 v5:=Tryz.zeroValue5
 infoByte:=by kernel_rfl
 cellsByte:=by kernel_rfl
 sizeByte:=by kernel_rfl
 neB5:=by decide }
theorem Tryz.bx169:Builder.Extra Tryz.prog GV:={
 sizeBuilder:=by kernel_rfl
 liesBuilder:=by kernel_rfl
 t5:=Tryz.underlying5
 a5:=Tryz.isAgg5
 z5:=Tryz.sizeOf5
 v5:=Tryz.zeroValue5
 infoByte:=by kernel_rfl
 cellsByte:=by kernel_rfl
 sizeByte:=by kernel_rfl
 neB5:=by decide }
theorem DB:Go.Proofs.Lays.n240 Tryz.prog ZM:={ Xr with }
end
end Go.Proofs
namespace Go.Proofs.YtjcfppnjamjjhaaGreatDoor
noncomputable section
open Go.RowKit
structure Wd where
 p:(Nat→Nat→Prop)→World→Prop
 mono:∀ (V V':Vu) (w w':World),V.Le V' w w'→p V.S w→p V'.S w'
 mono2:∀ (S S':Nat→Nat→Prop) (w w':World),(∀ (b o:Nat),(∀ (ds:Option (List Deferred)),w.heap[b]? ≠ some (Obj.deferred ds))→S b o→S' b o)→(∀ (b:Nat),(∀ (ds:Option (List Deferred)),w.heap[b]? ≠ some (Obj.deferred ds))→w'.heap[b]?=w.heap[b]?)→p S w→p S' w'
def FunW (W:Wd) (P:Program) (f:FuncId) (args:List AV) (res:TV):Prop :=
 Qc P f∧∀ (S:Nat→Nat→Prop) (w:World) (vs:Array Value),(∀ b o,S b o→b < w.heap.size)→W.p S w→argsRel (Yr S) w args vs →
  Calls P f vs w fun e w'=>∃ v S',e=.returned v∧Gv w w'∧(∀ b o,S b o→S' b o)∧(∀ b o,S' b o→(S b o∨w.heap.size≤b)∧b < w'.heap.size)∧res.rel (Yr S') w' v
def Wd.any:Wd:=⟨fun _ _=>True,fun _ _ _ _ _ _=>trivial,fun _ _ _ _ _ _ _=>trivial⟩
theorem DJ {W:Wd} {P:Program} {f:FuncId} {args:List AV} {res:TV} (h:Fun P f args res):FunW W P f args res:=⟨h.1,fun S w vs hS _ ha=>h.2 S w vs hS ha⟩
theorem FunW.any {P:Program} {f:FuncId} {args:List AV} {res:TV} (h:FunW .any P f args res):Fun P f args res:=⟨h.1,fun S w vs hS ha=>h.2 S w vs hS trivial ha⟩
theorem HRel.wd {W:Wd} {E:Env} {V:Vu} {hp:List (Nat×HB)} {tk:List (Nat×Option Tok)} {w:World} (h:HRel E V hp tk w) (hW:W.p E.V0.S E.w0):W.p V.S w:=W.mono _ _ _ _ h.le0 hW
theorem U9 {W:Wd} {E:Env} {st:St} {d:Option Nat} {ty:TypeId} {pos:String} {af:Array Edge} {g:Option (Nat×Bool)} {x:Operand} {f:FuncId} {ars:Array Operand} {args ys:List AV} {ats:Array TypeId} {res:TV} (hW:W.p E.V0.S E.w0) (hx:ev st.tm x=some (.v (.one (.fn f [])))) (hF:FunW W E.P f ys res) (ha:Yz st.tm ars.toList=some args) (hs:ASubL args ys) :
  OpOK E ⟨d,.call { callee:=.value x,args:=ars,argTypes:=ats },ty,pos,af,g⟩ st res ⟨st.hp,st.tk,st.nx⟩:=by
 intro V a w hr ro n K Q hK
 refine ⟨fun _ _=>trivial,?_⟩
 rw [Oper.semAt_eq _ _ _ (by intro c h;cases h)]
 rw [Q1m (by have:=(hr.ev hx).2;simpa using this) hF.1]
 refine ⟨(by intro h;cases h),?_⟩
 have har:argsRel (Yr V.S) w ys (ars.map a.eval):=by
  obtain ⟨h1,h2⟩:=K4 hr ha
  obtain ⟨h3,h4⟩:=hs.spec
  refine ⟨by omega,fun i y hy=>?_⟩
  obtain ⟨x,hx',hxy⟩:=h4 i y hy
  obtain ⟨u,hu,hxu⟩:=h2 i x hx'
  exact ⟨u,hu,hxy.rel hxu⟩
 have hc':CallsIn Fence.wide (n - 1) E.P f _ w _:=callsIn_wide.2 (hF.2 V.S w _ hr.h.sz (hr.h.wd hW) har)
 refine CallsIn.mono (F:=Qrj ro) hc' ?_
 rintro e w' ⟨v,S',rfl,hx,hS,hS',hv⟩
 have hg:V.Grow { V with S:=S' } w w':=⟨Ck _,fun _ _=>rfl,fun _ _=>rfl,fun _ _ _ _=>rfl,hS,fun b o h=>(hS' b o h).1,fun b o h=>(hS' b o h).2⟩
 exact hK { V with S:=S' } w' v (hr.h.later hx hg) hr.nx (hr.h.le hx hg) (hv.mono (Qfd (V:={ V with S:=S' })))
def Q57 (W:Wd) (P:Program) (f:FuncId) (args:List AV) (m:Mem) (res:TV) (m':Mem):Prop :=
 Qc P f∧∀ (E:Env) (V:Vu) (w:World) (vs:Array Value),E.P=P→W.p V.S w→HRel E V m.hp m.tk w→V.nx=m.nx→argsRel V w args vs →
  Calls P f vs w fun e w'=>∃ v V',e=.returned v∧HRel E V' m'.hp m'.tk w'∧V'.nx=m'.nx∧V.Le V' w w'∧res.rel V' w' v
theorem OpOK.callXW {W:Wd} {E:Env} {st:St} {dd:Option Nat} {ty:TypeId} {pos:String} {af:Array Edge} {g:Option (Nat×Bool)} {x:Operand} {f:FuncId} {caps:List (Nat×Nat)} {ars:Array Operand} {args:List AV} {ats:Array TypeId} {res:TV} {m':Mem} (hW:W.p E.V0.S E.w0) (hx:ev st.tm x=some (.v (.one (.fn f caps)))) (ha:Yz st.tm ars.toList=some args)
  (hc:Q57 W E.P f (args++Zv caps) st.mem res m'):OpOK E ⟨dd,.call { callee:=.value x,args:=ars,argTypes:=ats },ty,pos,af,g⟩ st res m':=by
 intro V a w hr ro n K Q hK
 refine ⟨fun _ _=>trivial,?_⟩
 rw [Oper.semAt_eq _ _ _ (by intro c h;cases h)]
 obtain ⟨hv1,hv2⟩:=hr.ev hx
 have hrun:(execOp a.eval ⟨dd,.call { callee:=.value x,args:=ars,argTypes:=ats },ty,pos,af,g⟩).run E.P w=.ok (.enter f (ars.map a.eval++(caps.map fun p=>Value.pointer (some ⟨V.ι p.1,p.2,none⟩)).toArray)) w:=by
  have:=hc.1 (ars.map a.eval++(caps.map fun p=>Value.pointer (some ⟨V.ι p.1,p.2,none⟩)).toArray) w
  simp [execOp,resolve,hv2,Deferred.ofValue,invoke]
  simpa using this
 rw [hrun]
 refine ⟨(by intro h;cases h),?_⟩
 have hc':CallsIn Fence.wide (n - 1) E.P f _ w _:=callsIn_wide.2 (hc.2 E V w _ rfl (hr.h.wd hW) hr.h hr.nx ((K4 hr ha).append (Zd hv1)))
 refine CallsIn.mono (F:=Qrj ro) hc' ?_
 rintro e w' ⟨v,V',rfl,H,hn,L,hres⟩
 exact hK V' w' v H hn L hres
def Q58 (W:Wd) (P:Program) (f:FuncId) (args:List AV) (m:Mem) (pv:Value) (m':Mem):Prop :=
 Qc P f∧∀ (E:Env) (V:Vu) (w:World) (vs:Array Value),E.P=P→W.p V.S w→HRel E V m.hp m.tk w→V.nx=m.nx→argsRel V w args vs →
  Calls P f vs w fun e w'=>∃ V',e=.panicked (ZW pv)∧HRel E V' m'.hp m'.tk w'∧V'.nx=m'.nx∧V.Le V' w w'
theorem OpD.callXW {W:Wd} {E:Env} {st:St} {dd:Option Nat} {ty:TypeId} {pos:String} {af:Array Edge} {g:Option (Nat×Bool)} {x:Operand} {f:FuncId} {caps:List (Nat×Nat)} {ars:Array Operand} {args:List AV} {ats:Array TypeId} {pv:Value} {m':Mem} (hW:W.p E.V0.S E.w0) (hx:ev st.tm x=some (.v (.one (.fn f caps)))) (ha:Yz st.tm ars.toList=some args)
  (hc:Q58 W E.P f (args++Zv caps) st.mem pv m'):OpD E ⟨dd,.call { callee:=.value x,args:=ars,argTypes:=ats },ty,pos,af,g⟩ st pv m':=by
 intro V a w hr ro n K Q hK
 refine ⟨fun _ _=>trivial,?_⟩
 rw [Oper.semAt_eq _ _ _ (by intro c h;cases h)]
 obtain ⟨hv1,hv2⟩:=hr.ev hx
 have hrun:(execOp a.eval ⟨dd,.call { callee:=.value x,args:=ars,argTypes:=ats },ty,pos,af,g⟩).run E.P w=.ok (.enter f (ars.map a.eval++(caps.map fun p=>Value.pointer (some ⟨V.ι p.1,p.2,none⟩)).toArray)) w:=by
  have:=hc.1 (ars.map a.eval++(caps.map fun p=>Value.pointer (some ⟨V.ι p.1,p.2,none⟩)).toArray) w
  simp [execOp,resolve,hv2,Deferred.ofValue,invoke]
  simpa using this
 rw [hrun]
 refine ⟨(by intro h;cases h),?_⟩
 have hc':CallsIn Fence.wide (n - 1) E.P f _ w _:=callsIn_wide.2 (hc.2 E V w _ rfl (hr.h.wd hW) hr.h hr.nx ((K4 hr ha).append (Zd hv1)))
 refine CallsIn.mono (F:=Qrj ro) hc' ?_
 rintro e w' ⟨V',rfl,H,hn,L⟩
 exact hK V' w' H hn L
inductive OutM where
 | val (x:TV) (m:Mem)
 | die (v:Value) (m:Mem)
def CallO (W:Wd) (P:Program) (f:FuncId) (args:List AV) (m:Mem):OutM→Prop
 | .val x m'=>Q57 W P f args m x m'
 | .die v m'=>Q58 W P f args m v m'
def UL:Option Value→FrameMode
 | none=>.returning
 | some v=>.panicking (ZW v)
def YN (rc:Bool):Option Value→FrameMode
 | none=>.returning
 | some v=>.panicking [{ v:=v,recovered:=rc }]
def DefM (W:Wd) (P:Program) (g:FuncId) (is:List Nat) (u:Option Value) (m m2:Mem) (rc:Bool):Prop :=
 Qc P g∧∀ (E:Env) (V:Vu) (w:World) (n:Nat),E.P=P→W.p V.S w→HRel E V m.hp m.tk w→V.nx=m.nx→(∀ i∈is,i < V.nx) →
  CallsDIn Fence.wide n P g (is.map (KI V)).toArray (UL u) w fun e u' w'=>(∃ v,e=.returned v)∧u'=YN rc u∧∃ V',HRel E V' m2.hp m2.tk w'∧V'.nx=m2.nx∧V.Le V' w w'
def To (E:Env) (x y:St):Prop:=∀ V ac w,Rel E V x ac w→∃ V',Rel E V' y ac w
def ToW (W:Wd) (P:Program) (nx0:Nat) (x y:St):Prop:=∀ E:Env,E.P=P→W.p E.V0.S E.w0→E.V0.nx≤nx0→To E x y
theorem ToW.refl (W:Wd) (P:Program) (nx0:Nat) (x:St):ToW W P nx0 x x:=fun E _ _ _ V a w hr=>⟨V,hr⟩
inductive EndO (W:Wd) (P:Program) (fn:Func) (nx0:Nat):Exit→St→OutM→Prop
 | ret {e:Exit} {st st1:St} {xs:List AV} (he:e=.normal∨e=.ret) (hd:st1.df=[]) (ht:ToW W P nx0 st st1) (hr:RAs P st1 fn.results.toList xs):EndO W P fn nx0 e st (.val (Qh xs) st1.mem)
 | die {v:Value} {st st1:St} (hd:st1.df=[]) (ht:ToW W P nx0 st st1):EndO W P fn nx0 (.panic (ZW v)) st (.die v st1.mem)
 | dret {e:Exit} {st st1:St} {f:Nat} {is:List Nat} {m2:Mem} {rc:Bool} {xs:List AV} (he:e=.normal∨e=.ret) (hd:st.df=f::is) (h:DefM W P f is none st.mem m2 rc) (hd1:st1.df=[]) (ht:ToW W P nx0 ⟨st.tm,m2.hp,m2.tk,m2.nx,st.nt,[]⟩ st1) (hr:RAs P st1 fn.results.toList xs):EndO W P fn nx0 e st (.val (Qh xs) st1.mem)
 | drec {v:Value} {st st1:St} {f:Nat} {is:List Nat} {m2:Mem} {xs:List AV} (hd:st.df=f::is) (h:DefM W P f is (some v) st.mem m2 true) (hd1:st1.df=[]) (ht:ToW W P nx0 ⟨st.tm,m2.hp,m2.tk,m2.nx,st.nt,[]⟩ st1) (hr:RAs P st1 fn.results.toList xs):EndO W P fn nx0 (.panic (ZW v)) st (.val (Qh xs) st1.mem)
 | ddie {v:Value} {st st1:St} {f:Nat} {is:List Nat} {m2:Mem} (hd:st.df=f::is) (h:DefM W P f is (some v) st.mem m2 false) (hd1:st1.df=[]) (ht:ToW W P nx0 ⟨st.tm,m2.hp,m2.tk,m2.nx,st.nt,[]⟩ st1):EndO W P fn nx0 (.panic (ZW v)) st (.die v st1.mem)
def Qli (E:Env) (V:Vu) (w:World):OutM→Ending→World→Prop
 | .val x m'=>fun e w'=>∃ v V',e=.returned v∧HRel E V' m'.hp m'.tk w'∧V'.nx=m'.nx∧V.Le V' w w'∧x.rel V' w' v
 | .die pv m'=>fun e w'=>∃ V',e=.panicked (ZW pv)∧HRel E V' m'.hp m'.tk w'∧V'.nx=m'.nx∧V.Le V' w w'
theorem YK {W:Wd} {P:Program} {f:FuncId} {args:List AV} {m:Mem} {o:OutM} (hen:Qc P f)
  (h:∀ (E:Env) (V:Vu) (w:World) (vs:Array Value),E.P=P→W.p V.S w→HRel E V m.hp m.tk w→V.nx=m.nx→argsRel V w args vs→Calls P f vs w (Qli E V w o)):CallO W P f args m o:=by
 cases o with
 | val x m'=>exact ⟨hen,h⟩
 | die v m'=>exact ⟨hen,h⟩
theorem leaves_end {E:Env} {hp:List (Nat×HB)} {tk:List (Nat×Option Tok)} {P:Program} {fn:Func} {tmps:Array Value} {R:Ending→World→Prop} (bs:List Nat) (w:World) (V:Vu) (h:HRel E V hp tk w) (hm:marksOK E V w bs)
  (hK:∀ w' V',HRel E V' hp tk w'→V'.nx=V.nx→V.Lx V' w w'→∃ v,(results fn tmps).run P w'=.ok v w'∧R (.returned v) w'):LeavesInM Fence.wide 0 P fn tmps R (bs.map fun b=>{ target:=.collected b,args:=#[]}) .returning w:=Q09 bs w V h hm.1 hm.2 hK
def CallP (W:Wd) (P:Program) (f:FuncId) (args:List AV) (m:Mem) (Φ:OutM→Prop):Prop :=
 Qc P f∧∀ (E:Env) (V:Vu) (w:World) (vs:Array Value),E.P=P→W.p V.S w→HRel E V m.hp m.tk w→V.nx=m.nx→argsRel V w args vs→Calls P f vs w fun e w'=>∃ o,Φ o∧Qli E V w o e w'
theorem Gw {W:Wd} {P:Program} {f:FuncId} {fn:Func} {c:Code} {args:List AV} {m:Mem} {Φ:OutM→Prop} (hf:P.funcs[f]?=some fn) (hb:fn.body=some c) (hen:Qc P f) (hnt:args.length≤fn.ntmps)
  (h:∀ (w0:World) (M:Nat→Prop) (V0:Vu) (Q:Exit→Act→World→Prop),W.p V0.S w0→V0.nx≤m.nx→(∀ e (st':St) o,Φ o→EndO W P fn m.nx e st' o→XQ ⟨P,w0,M,V0⟩ Q e st')→XC ⟨P,w0,M,V0⟩ none 0 Q c ⟨J5 0 args,m.hp,m.tk,m.nx,fn.ntmps,[]⟩) (hP0:P=Tryz.prog) :
  CallP W P f args m Φ:=by
 refine ⟨hen,fun E V w vs hP hWp H hn hargs=>?_⟩
 obtain ⟨R,hR⟩:∃ R:Ending→World→Prop,R=fun e w'=>∃ o,Φ o∧Qli E V w o e w':=⟨_,rfl⟩
 rw [← hR]
 have toR:∀ o,Φ o→∀ e w',Qli E V w o e w'→R e w':=fun o ho e w' h=>by rw [hR];exact ⟨o,ho,h⟩
 refine (callsIn_wide (n:=0)).1 (Zo (F:=Fence.wide) (Q0x hP0 hf) hf hb trivial ?_)
 have hR0:Rel (E.at V w) V ⟨J5 0 args,m.hp,m.tk,m.nx,fn.ntmps,[]⟩ { tmps:=vs++Array.replicate (fn.ntmps - vs.size) undef,defers:=[]} w:=by
  refine ⟨H.rebase,hn,by simp [hargs.1];omega,dfRel.nil,fun t x hx=>?_⟩
  obtain ⟨k,y,h1,h2,rfl⟩:=GI args 0 t x hx
  obtain ⟨u,hu,hy⟩:=hargs.2 k y h2
  have hk:k < vs.size:=(CP.1 hu).1
  have:(vs++Array.replicate (fn.ntmps - vs.size) undef).getD t undef=u:=by
   rw [show t=k by omega,P6,P9 hk,hu];rfl
  rw [this];exact hy
 have hWE:W.p (E.at V w).V0.S (E.at V w).w0:=hWp
 have hPE:(E.at V w).P=P:=hP
 have fin:∀ (st:St) (xs:List AV) (a1:Act) (V1:Vu) (w1:World),Φ (.val (Qh xs) st.mem)→st.df=[]→RAs P st fn.results.toList xs→Rel (E.at V w) V1 st a1 w1→LeavesInM Fence.wide 0 P fn a1.tmps R a1.defers .returning w1:=by
  intro st xs a1 V1 w1 hΦ hd hres hr1
  obtain ⟨bs,h1,h2,h3⟩:=hr1.df.of_nil hd
  rw [h1]
  refine leaves_end bs w1 V1 hr1.h ⟨h2,h3⟩ (fun w' V1' H' hn' L'=>?_)
  have est:(⟨st.tm,st.hp,st.tk,st.nx,st.nt,[]⟩:St)=st:=by rw [← hd]
  have hr':Rel (E.at V w) V1' ⟨st.tm,st.hp,st.tk,st.nx,st.nt,[]⟩ { tmps:=a1.tmps,defers:=[]} w':=⟨H',hn'.trans hr1.nx,hr1.nt,dfRel.nil,fun t x hx=>(hr1.tm t x hx).keep L'⟩
  obtain ⟨v,e1,e2⟩:=XO (E:=E.at V w) (by rw [est];exact hres) hP hr'
  obtain ⟨H5,L5⟩:=H.back H'
  exact ⟨v,e1,toR _ hΦ _ _ ⟨v,V1',Z,H5,hn'.trans hr1.nx,L5,e2⟩⟩
 have tow:∀ {x y:St},ToW W P m.nx x y→To (E.at V w) x y:=fun h=>h _ hPE hWE (Pa hn)
 have clo:∀ (st:St) (a1:Act) (V1:Vu) (w1:World) (f':Nat) (is:List Nat) (u:Option Value) (m2:Mem) (rc:Bool),st.df=f'::is→DefM W P f' is u st.mem m2 rc→Rel (E.at V w) V1 st a1 w1 →
   (∀ (ds:List Deferred) (V2:Vu) (w2:World),Rel (E.at V w) V2 ⟨st.tm,m2.hp,m2.tk,m2.nx,st.nt,[]⟩ { tmps:=a1.tmps,defers:=ds } w2→LeavesInM Fence.wide 0 P fn a1.tmps R ds (settle (YN rc u)) w2) →
   LeavesInM Fence.wide 0 P fn a1.tmps R a1.defers (UL u) w1:=by
  intro st a1 V1 w1 f' is u m2 rc hd hdm hr1 hK
  obtain ⟨bs,bs0,hi,hds,hm1,hm2⟩:∃ bs bs0,(∀ i∈is,i < V1.nx)∧a1.defers=bs.map (fun b=>{ target:=.collected b,args:=#[]})++Qe4 f' (is.map (KI V1))::bs0.map (fun b=>{ target:=.collected b,args:=#[]})∧marksOK (E.at V w) V1 w1 (bs++bs0):=by
   rcases hr1.df with ⟨h0,-⟩ | ⟨f2,is2,bs,bs0,h0,h1,h2,h3⟩
   ·rw [hd] at h0;cases h0
   ·rw [hd] at h0;cases h0
    exact ⟨bs,bs0,h1,h2,h3⟩
  obtain ⟨hn1,hn2,hn3⟩:=SG.1 hm1
  rw [hds]
  have hu:UL u ≠ .run:=by cases u <;> (unfold UL;simp)
  refine W6 hu bs w1 V1 hr1.h hn1 (fun b hb=>hm2 b (by simp [hb])) (fun w' V' H' hn' hι' L' hS' hh'=>?_)
  have hinv:(invoke (.fn (.func f') (is.map (KI V1)).toArray) #[]).run P w'=.ok (.enter f' (is.map (KI V1)).toArray) w':=by
   have:=hdm.1 (#[]++(is.map (KI V1)).toArray) w'
   simp only [invoke];simpa using this
  refine ⟨hu,.inr ⟨(by intro h;cases h),.func f',_,f',_,rfl,hinv,(fun _ _=>trivial),?_⟩⟩
  have hW1:W.p V1.S w1:=hr1.h.wd hWE
  have hnd:∀ b,(∀ ds,w1.heap[b]? ≠ some (Obj.deferred ds))→b∉bs:=fun b hb hmem=>hb _ (hm2 b (by simp [hmem])).2.1
  have hW':W.p V'.S w':=W.mono2 _ _ _ _ (fun b o hb=>hS' b o (hnd b hb)) (fun b hb=>hh' b (hnd b hb)) hW1
  have ep:is.map (KI V1)=is.map (KI V'):=by
   refine Cx fun i _=>?_
   unfold KI;rw [hι']
  rw [ep]
  have hmk:marksOK (E.at V w) V' w' bs0:=⟨hn2,fun b hb=>⟨hS' b 0 (fun h=>hn3 b h b hb rfl) (hm2 b (by simp [hb])).1,(hh' b (fun h=>hn3 b h b hb rfl)).trans (hm2 b (by simp [hb])).2.1,(hm2 b (by simp [hb])).2.2⟩⟩
  refine (hdm.2 (E.at V w) V' w' (0 - 1) hP hW' H' (hn'.trans hr1.nx) (fun i h=>by rw [hn'];exact hi i h)).mono ?_
  rintro e' u' w'' ⟨⟨v,rfl⟩,rfl,V2,H2,hn2',L2⟩
  exact hK _ V2 w'' ⟨H2,hn2',hr1.nt,.inl ⟨Z,bs0,Z,hmk.le L2⟩,fun t x hx=>((hr1.tm t x hx).keep L').mono L2⟩
 have key:∀ (e:Exit) (st':St) (o:OutM),Φ o→EndO W P fn m.nx e st' o→∀ (V1:Vu) (a1:Act) (w1:World),Rel (E.at V w) V1 st' a1 w1→bodyPostM Fence.wide 0 P fn R e a1 w1:=by
  intro e st' o hΦ hend V1 a1 w1 hr1
  cases hend with
  | ret he hd ht hres =>
   obtain ⟨V2,hr2⟩:=tow ht V1 a1 w1 hr1
   have hl:=fin _ _ a1 V2 w1 hΦ hd hres hr2
   rcases he with rfl | rfl
   ·exact hl
   ·exact hl
  | die hd ht =>
   obtain ⟨V2,hr2⟩:=tow ht V1 a1 w1 hr1
   exact Ut hr2 hd (fun w' V' H' hn' L'=>let ⟨H5,L5⟩:=H.back H';toR _ hΦ _ _ ⟨V',Z,H5,hn'.trans hr2.nx,L5⟩)
  | @dret _ _ st1 f' is m2 rc xs he hd hdm hd1 ht hres =>
   have hl:LeavesInM Fence.wide 0 P fn a1.tmps R a1.defers .returning w1:=clo st' a1 V1 w1 f' is none m2 rc hd hdm hr1 (fun ds V2 w2 hr2=>let ⟨V3,hr3⟩:=tow ht V2 _ w2 hr2;fin st1 xs _ V3 w2 hΦ hd1 hres hr3)
   rcases he with rfl | rfl
   ·exact hl
   ·exact hl
  | @drec v _ st1 f' is m2 xs hd hdm hd1 ht hres =>
   exact clo st' a1 V1 w1 f' is (some v) m2 true hd hdm hr1 (fun ds V2 w2 hr2=>let ⟨V3,hr3⟩:=tow ht V2 _ w2 hr2;fin st1 xs _ V3 w2 hΦ hd1 hres hr3)
  | @ddie v _ st1 f' is m2 hd hdm hd1 ht =>
   exact clo st' a1 V1 w1 f' is (some v) m2 false hd hdm hr1 (fun ds V2 w2 hr2=>let ⟨V3,hr3⟩:=tow ht V2 _ w2 hr2;Ut hr3 hd1 (fun w' V' H' hn' L'=>let ⟨H5,L5⟩:=H.back H';toR _ hΦ _ _ ⟨V',Z,H5,hn'.trans hr3.nx,L5⟩))
 have hgo:∀ E':Env,E'=E.at V w→E'.P=P→E'.V0=V→XC E' none 0 (bodyPostM Fence.wide 0 P fn R) c ⟨J5 0 args,m.hp,m.tk,m.nx,fn.ntmps,[]⟩:=by
  rintro ⟨P',w0,M,V0⟩ he hP' hV'
  dsimp only at hP' hV'
  subst hP'
  have ew:w0=w:=congrArg Env.w0 he
  refine h w0 M V0 _ (by rw [hV',ew];exact hWp) (by rw [hV',hn];exact Ck _) ?_
  intro e st' o hΦ hend
  rw [he]
  exact fun V1 a1 w1 hr1=>key e st' o hΦ hend V1 a1 w1 hr1
 have:=hgo (E.at V w) rfl hP rfl V _ w hR0
 rw [show (E.at V w).P=P from hP] at this
 exact this
theorem CallO.of_p {W:Wd} {P:Program} {f:FuncId} {args:List AV} {m:Mem} {o:OutM} (h:CallP W P f args m fun o'=>o'=o):CallO W P f args m o:=by
 refine YK h.1 fun E V w vs hP hWp H hn hargs=>(h.2 E V w vs hP hWp H hn hargs).mono ?_
 rintro e w' ⟨o',rfl,ho⟩
 exact ho
theorem Q2o {F:Fence} {n:Nat} {P:Program} {Q:Exit→Act→List Frame→World→Prop} {a:Act} {cs:List Frame} {w:World} {c:Code} (hro:F.round=none) (h:UJ F n P c (fun e a' w'=>Q e a' cs w') a w) {b:Frame} (k:List Item) (hr:b.roundOf=none) (hb:F.fn b.fn) (hv:Qr4 b.fn) (hroom:F.room (cs.length+1+n)) :
  ∃ e a' cs' w',cs'.length=cs.length∧Q e a' cs' w'∧ArrivesIn (Machine.fenced P F) P (lone (b.atR a (.code c::k)) cs w) b k cs' e a' w' :=
 let ⟨e,a',w',q,r⟩:=h b k cs (hr.trans hro.symm) hb hv hroom
 ⟨e,a',cs,w',rfl,q,r⟩
def Q56 (P:Program) (K:World→Prop):List Deferred→World→Prop
 | [],w=>K w
 | d::ds,w=>∃ r w',d.target=.collected r∧(Instr.takeDeferred r).run P w=.ok [] w'∧Q56 P K ds w'
theorem XZ {F:Fence} {n:Nat} {P:Program} {K:World→Prop}:∀ (ds:List Deferred) (w:World) (fr:Frame) (cs:List Frame),fr.mode=.returning→fr.defers=ds→F.fn fr.fn→F.room (cs.length+1+n)→Q56 P K ds w →
  ∃ w',StepsIn (Machine.fenced P F) P (lone fr cs w) (lone { fr with defers:=[]} cs w')∧K w'
 | [],w,fr,cs,hm,hd,hb,hroom,h=>⟨w,by
   have:({ fr with defers:=[]}:Frame)=fr:=by rw [← hd]
   rw [this];exact StepsIn.refl _,h⟩
 | d::ds,w,fr,cs,hm,hd,hb,hroom,⟨r,w1,htar,htake,hrest⟩=>by
  have hrun:fr.mode ≠ .run:=by rw [hm];simp
  have h1:=step_collected (cs:=cs) hrun hd htar htake
  have i1:(lone fr cs w).fenced P F:=fenced_out hb hroom hrun hd (fun g hg=>by rw [htar] at hg;simp [Target.leads] at hg)
  obtain ⟨w',hs,hk⟩:=XZ ds w1 { fr with defers:=[]++ds } cs hm rfl hb hroom hrest
  exact ⟨w',.head i1 h1 hs,hk⟩
def GQ (P:Program) (fn:Func) (c₀:Frame) (cs:List Frame) (R:Ending→FrameMode→World→Prop):Exit→Act→List Frame→World→Prop
 | .normal,a,cs',w | .ret,a,cs',w=>∃ u',cs'={ c₀ with mode:=u' }::cs∧Q56 P (fun w'=>∃ v,(results fn a.tmps).run P w'=.ok v w'∧R (.returned v) u' w') a.defers w
 | _,_,_,_=>False
theorem Q7e {F:Fence} {n:Nat} {P:Program} {f:FuncId} {fn:Func} {c:Code} {args:Array Value} {u:FrameMode} {w:World} {R:Ending→FrameMode→World→Prop} (hv:Qr4 f)
  (hf:P.funcs[f]?=some fn) (hb:fn.body=some c) (hF:F.fn f)
  (h:∀ (c₀:Frame) (cs:List Frame),c₀.mode=u→∀ (b:Frame) (k:List Item),b.kind=.deferred→b.roundOf=none→b.fn=f→F.room ((c₀::cs).length+1+n) →
   ∃ e a' cs' w',cs'.length=(c₀::cs).length∧GQ P fn c₀ cs R e a' cs' w'∧ArrivesIn (Machine.fenced P F) P (lone (b.atR { tmps:=args++Array.replicate (fn.ntmps - args.size) undef,defers:=[]} (.code c::k)) (c₀::cs) w) b k cs' e a' w') :
  CallsDIn F n P f args u w R:=by
 refine ⟨hF,fun c₀ cs hu hroom=>?_⟩
 let b:Frame:={ (default:Frame) with fn:=f,kind:=.deferred,roundOf:=none }
 have henter:Frame.enter P f args .deferred =
   b.atR { tmps:=args++Array.replicate (fn.ntmps - args.size) undef,defers:=[]} [.code c]:=by
  simp [Frame.enter,Frame.atR,hf,hb,b]
 obtain ⟨e,a',cs',w',hl,hq,harr⟩:=h c₀ cs hu b [] rfl rfl rfl hroom
 rw [← henter] at harr
 cases e with
 | normal =>
  obtain ⟨u',rfl,hm⟩:=hq
  obtain ⟨w2,hs2,v,hr,hR⟩:=XZ (F:=F) (n:=n) a'.defers w' { b.atR a' [] with mode:=.returning } ({ c₀ with mode:=u' }::cs) rfl rfl hF hroom hm
  exact ⟨.returned v,u',w2,_,hR,StepsIn.trans (StepsIn.trans harr (.one (fenced_calm (fr:=b.atR a' []) hF hroom Z) (stepR_end Z))) hs2,Z,Z,Z,Z,fn,hf,hr⟩
 | ret =>
  obtain ⟨u',rfl,hm⟩:=hq
  obtain ⟨todo,hs⟩:=harr.1 rfl
  obtain ⟨w2,hs2,v,hr,hR⟩:=XZ (F:=F) (n:=n) a'.defers w' { b.atR a' todo with mode:=.returning } ({ c₀ with mode:=u' }::cs) rfl rfl hF hroom hm
  exact ⟨.returned v,u',w2,_,hR,StepsIn.trans hs hs2,Z,Z,Z,Z,fn,hf,hr⟩
 | panic chain=>exact hq.elim
 | exit id=>exact hq.elim
 | goto l=>exact hq.elim
 | outgrown=>exact hq.elim
theorem Q6b {E:Env} {hp:List (Nat×HB)} {tk:List (Nat×Option Tok)} {P:Program} {K:World→Prop}:∀ (bs:List Nat) (w:World) (V:Vu),HRel E V hp tk w→marksOK E V w bs→(∀ w' V',HRel E V' hp tk w'→V'.nx=V.nx→V.Lx V' w w'→K w')→Q56 P K (bs.map fun b=>{ target:=.collected b,args:=#[]}) w
 | [],w,V,h,_,hK=>hK w V h rfl (Vu.Lx.refl _ _)
 | b::bs,w,V,h,hm,hK=>by
  obtain ⟨h1,h2,h3⟩:=hm.2 b (by simp)
  obtain ⟨h4,h5⟩:=CT.1 hm.1
  obtain ⟨H,L⟩:=h.take h1 h2 h3
  refine ⟨b,_,Z,run_takeDeferred h2,Q6b bs _ _ H ⟨h5,fun b' hb'=>?_⟩ (fun w' V' hw' hn' L'=>hK w' V' hw' hn' (L.trans L'))⟩
  obtain ⟨h6,h7,h8⟩:=hm.2 b' (by simp [hb'])
  have hne:b' ≠ b:=fun e=>h4 (by rw [← e];exact hb')
  exact ⟨⟨h6,hne⟩,(World.putObj_heap_other hne).trans h7,h8⟩
def Q2m (W:Wd) (P:Program) (c:Code) (tm:List (Nat×TV)) (nt:Nat) (m m2:Mem):Prop:=∀ (E:Env) (Q:Exit→Act→World→Prop) (n:Nat),E.P=P→W.p E.V0.S E.w0→E.V0.nx≤m.nx →
 (∀ e (st':St),(e=.normal∨e=.ret)→st'.df=[]→st'.mem=m2→XQ E Q e st')→XC E none n Q c ⟨tm,m.hp,m.tk,m.nx,nt,[]⟩
theorem Q4h {E:Env} {V:Vu} {w:World} {m:Mem} {is:List Nat} {nt:Nat} (H:HRel E V m.hp m.tk w) (hn:V.nx=m.nx) (hi:∀ i∈is,i < V.nx) (hnt:is.length≤nt) :
  Rel (E.at V w) V ⟨J5 0 (is.map fun i=>.one (.ptr i 0)),m.hp,m.tk,m.nx,nt,[]⟩ { tmps:=(is.map (KI V)).toArray++Array.replicate (nt - (is.map (KI V)).toArray.size) undef,defers:=[]} w:=by
 refine ⟨H.rebase,hn,by simp;omega,dfRel.nil,fun t x hx=>?_⟩
 obtain ⟨k,y,h1,h2,rfl⟩:=GI _ 0 t x hx
 rw [Cl] at h2
 cases hk:is[k]? with
 | none=>rw [hk] at h2;cases h2
 | some i =>
  rw [hk] at h2;cases h2
  have hlt:k < is.length:=(Cg.1 hk).1
  have hu:(is.map (KI V)).toArray[k]?=some (KI V i):=by simp [hk]
  have:((is.map (KI V)).toArray++Array.replicate (nt - (is.map (KI V)).toArray.size) undef).getD t undef=KI V i:=by
   rw [show t=k by omega,P6,P9 (by simpa using hlt),hu];rfl
  rw [this]
  exact ⟨hi i (Cs hk),Z⟩
theorem res_none {P:Program} {fn:Func} (hr:fn.results.toList=[]) (tmps:Array Value) (w:World):∃ v,(results fn tmps).run P w=.ok v w:=by
 have:fn.results=#[]:=Sg hr
 unfold results
 rw [this]
 exact ⟨_,by simp [go_sem];rfl⟩
theorem Q5v {W:Wd} {P:Program} {fn:Func} {c:Code} {tm:List (Nat×TV)} {m m2:Mem} {E:Env} {V:Vu} {w:World} {rc:Bool} {u:Option Value} {c₀:Frame} {cs:List Frame} {a:Act} {n:Nat} (hr:fn.results.toList=[]) (h:Q2m W P c tm fn.ntmps m m2) (hP:E.P=P) (hWp:W.p V.S w) (H:HRel E V m.hp m.tk w) (hn:V.nx=m.nx)
  (hR:Rel (E.at V w) V ⟨tm,m.hp,m.tk,m.nx,fn.ntmps,[]⟩ a w) :
  UJ Fence.wide n P c (fun e a' w'=>GQ P fn c₀ cs (fun e u' w'=>(∃ v,e=.returned v)∧u'=YN rc u∧∃ V',HRel E V' m2.hp m2.tk w'∧V'.nx=m2.nx∧V.Le V' w w') e a' ({ c₀ with mode:=YN rc u }::cs) w') a w:=by
 have hx:=h (E.at V w) (fun e a' w'=>GQ P fn c₀ cs (fun e u' w'=>(∃ v,e=.returned v)∧u'=YN rc u∧∃ V',HRel E V' m2.hp m2.tk w'∧V'.nx=m2.nx∧V.Le V' w w') e a' ({ c₀ with mode:=YN rc u }::cs) w') n hP hWp (Pa hn) (fun e st' he hd hm V1 a1 w1 hr1=>?_) V _ w hR
 ·rw [show (E.at V w).P=P from hP] at hx
  exact hx
 ·have key:∃ u',({ c₀ with mode:=YN rc u }:Frame)::cs={ c₀ with mode:=u' }::cs∧Q56 P (fun w'=>∃ v,(results fn a1.tmps).run P w'=.ok v w'∧(∃ v',Ending.returned v=.returned v')∧u'=YN rc u∧∃ V',HRel E V' m2.hp m2.tk w'∧V'.nx=m2.nx∧V.Le V' w w') a1.defers w1:=by
   obtain ⟨bs,h1,h2,h3⟩:=hr1.df.of_nil hd
   refine ⟨_,Z,?_⟩
   rw [h1]
   refine Q6b bs w1 V1 hr1.h ⟨h2,h3⟩ (fun w' V' H' hn' L'=>?_)
   obtain ⟨v,hv⟩:=res_none (P:=P) hr a1.tmps w'
   obtain ⟨H5,L5⟩:=H.back H'
   refine ⟨v,hv,⟨v,Z⟩,Z,V',?_,?_,L5⟩
   ·rw [← hm];exact H5
   ·rw [← hm];exact hn'.trans hr1.nx
  rcases he with rfl | rfl
  ·exact key
  ·exact key
theorem DefM.of_rest {W:Wd} {P:Program} {f:FuncId} {fn:Func} {c:Code} {is:List Nat} {u:Option Value} {m m2:Mem} (hf:P.funcs[f]?=some fn) (hb:fn.body=some c) (hen:Qc P f) (hnt:is.length≤fn.ntmps) (hr:fn.results.toList=[])
  (h:Q2m W P c (J5 0 (is.map fun i=>.one (.ptr i 0))) fn.ntmps m m2) (hP0:P=Tryz.prog):DefM W P f is u m m2 false:=by
 refine ⟨hen,fun E V w n hP hWp H hn hi=>?_⟩
 refine Q7e (Q0x hP0 hf) hf hb trivial (fun c₀ cs hu b k hk hro hbf hroom=>?_)
 have hvf:Qr4 b.fn:=by rw [hbf];exact Q0x hP0 hf
 have ec:(c₀::cs)=({ c₀ with mode:=YN false u }:Frame)::cs:=by
  have:YN false u=c₀.mode:=by rw [hu];cases u <;> rfl
  rw [this]
 have hx:=Q5v (c₀:=c₀) (cs:=cs) (rc:=false) (u:=u) (n:=n) hr h hP hWp H hn (Q4h (nt:=fn.ntmps) H hn hi hnt)
 rw [ec] at hroom ⊢
 exact Q2o (F:=Fence.wide) (Q:=GQ P fn c₀ cs _) Z hx k hro trivial hvf hroom
def Q9x (P:Program) (nt:Nat) (id:Nat) (ops:Array Oper) (put:Act→Value→Act):Prop:=∀ (n:Nat) (a0:Act) (c₀:Frame) (cs:List Frame) (w:World) (u:Option Value),a0.tmps.size=nt→c₀.mode=UL u →
 (Code.region id ops false).wpSIn Fence.wide n P (fun e a' cs' w'=>e=.normal∧a'=put a0 (u.getD .nilIface)∧cs'={ c₀ with mode:=YN true u }::cs∧w'=w) a0 (c₀::cs) w
theorem recReg1 {P:Program} {nt id d:Nat} {ts:Array TypeId} {ty:TypeId} {pos:String} {af:Array Edge}:Q9x P nt id #[⟨some d,.call { callee:=.builtin .recover,args:=#[],argTypes:=ts },ty,pos,af,none⟩] fun a v=>a.put (some d) v:=fun n a0 c₀ cs w u hn hu=>by
 apply wpSIn_region
 cases u with
 | none =>
  have hc:recoverD (c₀::cs)=none:=by simp only [recoverD,hu,UL]
  have e0:({ c₀ with mode:=FrameMode.returning }:Frame)=c₀:=by
   have:c₀.mode=FrameMode.returning:=hu
   rw [← this]
  simp [wpOpsSIn,go_sem,List.range,List.range.loop,hc,YN,e0,Region.wanted,execOp,Oper.about]
 | some v =>
  have hc:recoverD (c₀::cs)=some (v,{ c₀ with mode:=.panicking [{ v:=v,recovered:=true }]}::cs):=by simp only [recoverD,hu,UL]
  simp [wpOpsSIn,go_sem,List.range,List.range.loop,hc,YN,Region.wanted,execOp,Oper.about]
theorem recReg2 {P:Program} {nt id d d2:Nat} {ts:Array TypeId} {ty ty2:TypeId} {pos pos2:String} {af af2:Array Edge} (hd:d < nt):Q9x P nt id #[⟨some d,.call { callee:=.builtin .recover,args:=#[],argTypes:=ts },ty,pos,af,none⟩,⟨some d2,.assign (.tmp d),ty2,pos2,af2,none⟩] fun a v=>(a.put (some d) v).put (some d2) v:=fun n a0 c₀ cs w u hn hu=>by
 apply wpSIn_region
 cases u with
 | none =>
  have hc:recoverD (c₀::cs)=none:=by simp only [recoverD,hu,UL]
  have e0:({ c₀ with mode:=FrameMode.returning }:Frame)=c₀:=by
   have:c₀.mode=FrameMode.returning:=hu
   rw [← this]
  have hg:d < a0.tmps.size:=hn▸hd
  simp [wpOpsSIn,go_sem,List.range,List.range.loop,hc,YN,e0,Region.wanted,execOp,Oper.about,hg]
 | some v =>
  have hc:recoverD (c₀::cs)=some (v,{ c₀ with mode:=.panicking [{ v:=v,recovered:=true }]}::cs):=by simp only [recoverD,hu,UL]
  have hg:d < a0.tmps.size:=hn▸hd
  simp [wpOpsSIn,go_sem,List.range,List.range.loop,hc,YN,Region.wanted,execOp,Oper.about,hg]
theorem DefM.of_rec {W:Wd} {P:Program} {f:FuncId} {fn:Func} {c:Code} {is:List Nat} {u:Option Value} {m m2:Mem} {id:Nat} {ops:Array Oper} {put:Act→Value→Act} {tmx:List (Nat×TV)} (hf:P.funcs[f]?=some fn) (hb:fn.body=some (.seq (.region id ops false) c)) (hen:Qc P f) (hnt:is.length≤fn.ntmps) (hr:fn.results.toList=[]) (hreg0:Q9x P fn.ntmps id ops put)
  (hput:∀ (E:Env) (V:Vu) (a:Act) (w:World),Rel E V ⟨J5 0 (is.map fun i=>.one (.ptr i 0)),m.hp,m.tk,m.nx,fn.ntmps,[]⟩ a w→Rel E V ⟨tmx,m.hp,m.tk,m.nx,fn.ntmps,[]⟩ (put a (u.getD .nilIface)) w)
  (h:Q2m W P c tmx fn.ntmps m m2) (hP0:P=Tryz.prog):DefM W P f is u m m2 true:=by
 refine ⟨hen,fun E V w n hP hWp H hn hi=>?_⟩
 refine Q7e (Q0x hP0 hf) hf hb trivial (fun c₀ cs hu b k hk hro hbf hroom=>?_)
 have hvf:Qr4 b.fn:=by rw [hbf];exact Q0x hP0 hf
 have hR:=Q4h (nt:=fn.ntmps) H hn hi hnt
 obtain ⟨a0,ha0⟩:∃ a0:Act,a0={ tmps:=(is.map (KI V)).toArray++Array.replicate (fn.ntmps - (is.map (KI V)).toArray.size) undef,defers:=[]}:=⟨_,rfl⟩
 rw [← ha0] at hR ⊢
 have hR2:=hput _ V a0 w hR
 have hx:=Q5v (c₀:=c₀) (cs:=cs) (rc:=true) (u:=u) (n:=n) hr h hP hWp H hn hR2
 have hlen:((({ c₀ with mode:=YN true u }:Frame)::cs)).length=(c₀::cs).length:=rfl
 have hreg:=hreg0 n a0 c₀ cs w u hR.nt hu
 obtain ⟨e,a1,cs1,w1,hl,⟨he,ha,hcs,hw⟩,harr⟩:=hreg b (.code c::k) hk hro trivial hroom
 subst he;subst ha;subst hcs;subst hw
 obtain ⟨e2,a2,cs2,w2,hl2,hq2,harr2⟩:=Q2o (F:=Fence.wide) (Q:=GQ P fn c₀ cs _) rfl hx k hro trivial hvf (hlen▸hroom)
 have i0:(lone (b.atR a0 (.code (.seq (.region id ops false) c)::k)) (c₀::cs) w1).fenced P Fence.wide:=fenced_calm trivial hroom rfl
 exact ⟨e2,a2,cs2,w2,hl2.trans hlen,hq2,.of_steps (.head i0 stepR_seq harr) harr2⟩
def Q7v (W:Wd) (P:Program) (rn:Option Nat) (c:Code) (st:St) (e:Exit) (st':St):Prop :=
 ∀ (E:Env) (ro:Option Nat) (n:Nat) (Q:Exit→Act→World→Prop),E.P=P→W.p E.V0.S E.w0→E.V0.nx≤st.nx→DF E rn ro→XQ E Q e st'→XC E ro n Q c st
section
variable {E:Env} {st:St} {dd:Option Nat} {ty:TypeId} {pos:String} {af:Array Edge} {g:Option (Nat×Bool)}
theorem OpOK.yieldW {W:Wd} {x:Operand} {L:Nat} {ars:Array Operand} {args:List AV} {ats:Array TypeId} {p0 p1 p2:Option Code} {tm0 tm1 tm2:List (Nat×TV)} {nt0 nt1 nt2:Nat} {ps0 ps1 ps2:Array Nat} {as0 as1 as2 bd0 bd1 bd2:Code} {D0 D1 D2:Nat} {sa sb:St} {e:Exit} {jump:Option Code}
  (hW:W.p E.V0.S E.w0) (hx:ev st.tm x=some (.v (.one (.yld L)))) (ha:Yz st.tm ars.toList=some args) (hL:Qq8 st.hp L=some (.loop .ready p0 tm0 nt0 ps0 as0 bd0 D0)) (hlen:ars.size=ps0.size) (hps:ps0.toList.all (fun t=>Nat.blt t nt0)=true)
  (h1:Q7v W E.P (some L) as0 ⟨Zc ps0.toList args tm0,st.hp,st.tk,st.nx,nt0,[]⟩ .normal sa)
  (hnx:st.nx≤sa.nx) (h2:Qq8 sa.hp L=some (.loop .ready p1 tm1 nt1 ps1 as1 bd1 D1))
  (h3:Q7v W E.P (some L) bd0 ⟨sa.tm,(L,.loop .busy p1 tm1 nt1 ps1 as1 bd1 D1)::QD L sa.hp,sa.tk,sa.nx,sa.nt,sa.df⟩ e sb)
  (h4:Qq8 sb.hp L=some (.loop .busy p2 tm2 nt2 ps2 as2 bd2 D2)) (he:Wa e=some jump) :
  OpOK E ⟨dd,.call { callee:=.value x,args:=ars,argTypes:=ats },ty,pos,af,g⟩ st (Qr7 jump.isNone) ⟨(L,.loop (if jump.isNone then .ready else .done) jump tm2 nt2 ps2 as2 bd2 D2)::QD L sb.hp,sb.tk,sb.nx⟩:=by
 intro V a w hr ro n K Q hK
 refine ⟨fun _ _=>trivial,?_⟩
 rw [Oper.semAt_eq _ _ _ (by intro c h;cases h)]
 obtain ⟨hLnx,hv⟩:=hr.ev hx
 obtain ⟨-,ob,hob,hD,fn,tmps,rfl,hsz,htm⟩:=hr.h.own L _ hL
 rw [Q13 rfl hv hob hlen]
 refine ⟨(by intro h;cases h),?_⟩
 have har:=K4 hr ha
 obtain ⟨hal,-⟩:=K2 ha
 have hput:=XS (V:=V) (w:=w) ps0.toList args (ars.map a.eval).toList tm0 tmps (by simpa using hal.symm) (fun i y hy=>by
  obtain ⟨u,hu1,hu2⟩:=har.2 i y hy
  exact ⟨u,by simpa using hu1,hu2⟩) (fun t ht=>by rw [hsz];exact C3 (Cf.1 hps t ht)) htm
 have hfold:(ps0.zip (ars.map a.eval)).foldl (fun tmps (x:Nat×Value)=>tmps.setIfInBounds x.1 x.2) tmps=(ps0.toList.zip (ars.map a.eval).toList).foldl (fun tmps (p:Nat×Value)=>tmps.setIfInBounds p.1 p.2) tmps:=by
  rw [← Sz,Array.toList_zip]
 refine XN (F:=Qrj ro) fn.2 trivial ?_
 have hR0:Rel (E.at V w) V ⟨Zc ps0.toList args tm0,st.hp,st.tk,st.nx,nt0,[]⟩ { tmps:=(ps0.zip (ars.map a.eval)).foldl (fun tmps (x:Nat×Value)=>tmps.setIfInBounds x.1 x.2) tmps,defers:=[]} w :=
  ⟨hr.h.rebase,hr.nx,by rw [hfold,hput.1];exact hsz,dfRel.nil,fun t y hy=>by rw [hfold];exact hput.2 t y hy⟩
 have hWp:W.p (E.at V w).V0.S (E.at V w).w0:=hr.h.wd hW
 have hv0:(E.at V w).V0.nx≤st.nx:=Pa hr.nx
 refine h1 (E.at V w) (some (V.ι L)) (n - 1) _ Z hWp hv0 ⟨hLnx,Z⟩ ?_ V _ w hR0
 intro V1 a1 w1 hr1
 obtain ⟨hL1,ob1,hob1,hD1,fn1,tmps1,rfl,hsz1,htm1⟩:=hr1.h.own L _ h2
 have hι1:V1.ι L=V.ι L:=hr1.h.le0.ι L hLnx
 have hb:=run_beginRound (P:=E.P) hob1 rfl
 rw [hι1] at hb hob1
 refine ⟨_,hb,?_⟩
 obtain ⟨H2,L2⟩:=hr1.h.putObj (o':=.loop { state:=.busy,pending:=p1,fn:=fn1,tmps:=tmps1,params:=ps1,assign:=as1,body:=bd1,defers:=V1.ι D1 }) (B':=.loop .busy p1 tm1 nt1 ps1 as1 bd1 D1) h2 (fun hle=>⟨hD1,fn1,tmps1,rfl,hsz1,fun t y hy=>(htm1 t y hy).mono hle⟩)
 rw [hι1] at H2 L2
 have hR1:Rel (E.at V w) V1 ⟨sa.tm,(L,.loop .busy p1 tm1 nt1 ps1 as1 bd1 D1)::QD L sa.hp,sa.tk,sa.nx,sa.nt,sa.df⟩ a1 _ :=
  ⟨H2.congr (fun j=>Jo L _ sa.hp j) (fun _=>rfl),hr1.nx,hr1.nt,hr1.df.le L2,fun t y hy=>(hr1.tm t y hy).mono L2⟩
 refine h3 (E.at V w) (some (V.ι L)) (n - 1) _ Z hWp (Ca hv0 hnx) ⟨hLnx,Z⟩ ?_ V1 a1 _ hR1
 intro V3 a3 w3 hr3
 obtain ⟨hL3,ob3,hob3,hD3,fn3,tmps3,rfl,hsz3,htm3⟩:=hr3.h.own L _ h4
 have hι3:V3.ι L=V.ι L:=hr3.h.le0.ι L hLnx
 have fin:∃ v w',(Instr.endRound (V.ι L) jump).run E.P w3=.ok v w'∧K (a.put dd v) w':=by
  have hb:=run_endRound (P:=E.P) jump hob3
  obtain ⟨H4,L4⟩:=hr3.h.putObj (o':=.loop { state:=if jump.isNone then .ready else .done,pending:=jump,fn:=fn3,tmps:=tmps3,params:=ps2,assign:=as2,body:=bd2,defers:=V3.ι D2 }) (B':=.loop (if jump.isNone then .ready else .done) jump tm2 nt2 ps2 as2 bd2 D2) h4 (fun hle=>⟨hD3,fn3,tmps3,rfl,hsz3,fun t y hy=>(htm3 t y hy).mono hle⟩)
  obtain ⟨H5,L5⟩:=hr.h.back H4
  rw [hι3] at hb
  rw [hι3] at H5 L5
  refine ⟨_,_,hb,hK V3 _ _ (H5.congr (fun j=>Jo L _ sb.hp j) (fun _=>rfl)) hr3.nx L5 (J4 rfl)⟩
 cases e with
 | normal=>cases he;exact fin
 | ret=>cases he;exact fin
 | exit id=>cases he;exact fin
 | goto t=>cases he
 | panic c=>cases he
 | outgrown=>cases he
end
theorem rangeFunc_outW {W:Wd} {P:Program} {g:Operand} {ps:Array Nat} {assign body:Code} {st:St} {gf:FuncId} {caps:List (Nat×Nat)} {res:TV} {m2:Mem} {s:LoopState} {jump:Option Code} {e:Exit} {tm2:List (Nat×TV)} {nt2:Nat} {ps2:Array Nat} {as2 bd2:Code} {D2:Nat}
  (hg:ev st.tm g=some (.v (.one (.fn gf caps))))
  (hc:Q57 W P gf (.one (.yld (st.nx+1))::Zv caps) ⟨(st.nx+1,.loop .ready none st.tm st.nt ps assign body st.nx)::(st.nx,.obj (.deferred (some [])))::st.hp,st.tk,st.nx+2⟩ res m2)
  (hL:Qq8 m2.hp (st.nx+1)=some (.loop s jump tm2 nt2 ps2 as2 bd2 D2)) (hD:Qq8 m2.hp st.nx=some (.obj (.deferred (some [])))) (hs:s ≠ .busy) (he:Wa e=some jump) :
  Q7v W P none (.rangeFunc g ps assign body) st e ⟨st.tm,QD st.nx (QD (st.nx+1) m2.hp),m2.tk,m2.nx,st.nt,st.df⟩:=by
 intro E ro n Q hP hW hv0 hro hQ V a w hr
 subst hP
 cases hro
 refine YQ (fun fn _=>?_)
 obtain ⟨hv1,hv2⟩:=hr.ev hg
 have H1:=hr.h.addOwn (.deferred (some [])) (.obj (.deferred (some []))) rfl
 have L1:=hr.h.le (w':=w.alloc (.deferred (some []))) ⟨rfl,rfl,rfl,by simp,fun k hk _=>Below.heap_alloc w _ k hk⟩ (V.add_grow w.heap.size hr.h.sz ⟨rfl,rfl,rfl,by simp,fun k hk _=>Below.heap_alloc w _ k hk⟩)
 have L2:=H1.le (w':=(w.alloc (.deferred (some []))).alloc (.loop { state:=.ready,pending:=none,fn:=fn,tmps:=a.tmps,params:=ps,assign:=assign,body:=body,defers:=w.heap.size })) ⟨rfl,rfl,rfl,by simp,fun k hk _=>Below.heap_alloc _ _ k hk⟩ (Vu.add_grow _ (w.alloc (.deferred (some []))).heap.size H1.sz ⟨rfl,rfl,rfl,by simp,fun k hk _=>Below.heap_alloc _ _ k hk⟩)
 have hι:((V.add w.heap.size).add (w.alloc (.deferred (some []))).heap.size).ι V.nx=w.heap.size:=by
  rw [L2.ι V.nx (Ct _),V.add_at]
 have H2:=H1.addOwn (.loop { state:=.ready,pending:=none,fn:=fn,tmps:=a.tmps,params:=ps,assign:=assign,body:=body,defers:=w.heap.size }) (.loop .ready none st.tm st.nt ps assign body V.nx)
  ⟨Cj (Ct _) (Nat.le_succ _),fn,a.tmps,by rw [hι],hr.nt,fun t x hx=>((hr.tm t x hx).mono L1).mono L2⟩
 have L12:=L1.trans L2
 generalize hV2:(V.add w.heap.size).add (w.alloc (.deferred (some []))).heap.size=V2 at H2 L2 L12 hι
 have hnx2:V2.nx=st.nx+2:=by rw [← hV2];show V.nx+1+1=_;rw [hr.nx]
 have hιL:V2.ι (V.nx+1)=w.heap.size+1:=by
  rw [← hV2]
  have:=(V.add w.heap.size).add_at (w.alloc (.deferred (some []))).heap.size
  rw [World.size_alloc] at this
  rw [World.size_alloc];exact this
 have hcl:(V.add w.heap.size).nx=V.nx+1:=rfl
 rw [hcl] at H2
 rw [hr.nx] at H2 hιL hι
 obtain ⟨W2,hW2⟩:∃ W2,(w.alloc (.deferred (some []))).alloc (.loop { state:=.ready,pending:=none,fn:=fn,tmps:=a.tmps,params:=ps,assign:=assign,body:=body,defers:=w.heap.size })=W2:=⟨_,rfl⟩
 rw [hW2] at H2 L12
 refine ⟨w.heap.size+1,[{ target:=.collected w.heap.size,args:=#[]}],W2,{ target:=.fn (.func gf) (caps.map fun p=>Value.pointer (some ⟨V.ι p.1,p.2,none⟩)).toArray,args:=#[.func (.yield (w.heap.size+1)) #[] #[]]},W2,gf,
  #[.func (.yield (w.heap.size+1)) #[] #[]]++(caps.map fun p=>Value.pointer (some ⟨V.ι p.1,p.2,none⟩)).toArray,W2,?_,?_,?_,?_,(by intro h;cases h),?_⟩
 ·rw [← hW2];exact run_enterLoop_outer fn a.tmps ps assign body
 ·simp only [resolve,hv2]
  simp [go_sem]
 ·exact fun _ _=>trivial
 ·have:=hc.1 (#[.func (.yield (w.heap.size+1)) #[] #[]]++(caps.map fun p=>Value.pointer (some ⟨V.ι p.1,p.2,none⟩)).toArray) W2
  simp only [invoke];exact this
 ·have hargs:argsRel V2 W2 (.one (.yld (st.nx+1))::Zv caps) (#[.func (.yield (w.heap.size+1)) #[] #[]]++(caps.map fun p=>Value.pointer (some ⟨V.ι p.1,p.2,none⟩)).toArray):=by
   have h1:argsRel V2 W2 [.one (.yld (st.nx+1))] #[.func (.yield (w.heap.size+1)) #[] #[]]:=⟨rfl,fun i y hy=>by
    match i,hy with
    | 0,hy=>cases hy;exact ⟨_,rfl,by rw [hnx2];omega,by rw [hιL];rfl⟩⟩
   have h2:argsRel V2 W2 (Zv caps) (caps.map fun p=>Value.pointer (some ⟨V.ι p.1,p.2,none⟩)).toArray:=by
    have h3:=Zd (V:=V2) (w:=W2) (caps:=caps) (fun p hp=>Cj (hv1 p hp) L12.nx)
    rw [Cx (g:=fun p=>Value.pointer (some ⟨V.ι p.1,p.2,none⟩)) (fun p hp=>by rw [L12.ι p.1 (hv1 p hp)])] at h3
    exact h3
   exact h1.append h2
  have hcall:=hc.2 E V2 W2 _ rfl (HRel.wd H2 hW) H2 hnx2 hargs
  have hcall':CallsIn Fence.wide (n - 1) E.P gf _ W2 _:=callsIn_wide.2 hcall
  refine CallsIn.mono (F:=Qrj none) hcall' ?_
  rintro e' w3 ⟨v,V3,rfl,H3,hn3,L3,-⟩
  obtain ⟨hL3,ob3,hob3,hD3,fn3,tmps3,rfl,hsz3,htm3⟩:=H3.own _ _ hL
  have hι3:V3.ι (st.nx+1)=w.heap.size+1:=by rw [L3.ι _ (by rw [hnx2];omega)];exact hιL
  have hend:=run_endLoop (P:=E.P) hob3 hs
  obtain ⟨H4,L4⟩:=H3.putObj (o':=.loop { state:=.exhausted,pending:=jump,fn:=fn3,tmps:=tmps3,params:=ps2,assign:=as2,body:=bd2,defers:=V3.ι D2 }) (B':=.loop .exhausted jump tm2 nt2 ps2 as2 bd2 D2) hL (fun hle=>⟨hD3,fn3,tmps3,rfl,hsz3,fun t y hy=>(htm3 t y hy).mono hle⟩)
  rw [hι3] at hend H4 L4
  have L:=(L12.trans L3).trans L4
  have hlk:∀ j,Qq8 (QD (st.nx+1) m2.hp) j=Qq8 (QD (st.nx+1) ((st.nx+1,HB.loop .exhausted jump tm2 nt2 ps2 as2 bd2 D2)::m2.hp)) j:=fun j=>by
   rw [JB,JB,Q1]
   split
   ·rfl
   ·rename_i e;rw [C5 (fun e'=>e e'.symm)]
  have H5:=(H4.drop (st.nx+1)).congr (hp':=QD (st.nx+1) m2.hp) hlk (fun _=>rfl)
  have hD5:Qq8 (QD (st.nx+1) m2.hp) st.nx=some (.obj (.deferred (some []))):=by
   rw [JB,C5 (by omega)];exact hD
  obtain ⟨Qrh,L6⟩:=H5.freeze hD5
  have e1:V3.ι st.nx=w.heap.size:=by rw [L3.ι _ (by rw [hnx2];omega)];exact hι
  obtain ⟨-,oD,hoD,hDr⟩:=H5.own _ _ hD5
  have hoD':oD=.deferred (some []):=hDr
  rw [hoD',e1] at hoD
  obtain ⟨V6,hV6⟩:∃ V6:Vu,{ V3 with S:=fun b o=>V3.S b o∨b=V3.ι st.nx }=V6:=⟨_,rfl⟩
  have hS6:V6.S w.heap.size 0:=by rw [← hV6];exact .inr e1.symm
  have hn6:V6.nx=m2.nx:=by rw [← hV6];exact hn3
  rw [hV6] at Qrh L6
  have hR:Rel E V6 ⟨st.tm,QD st.nx (QD (st.nx+1) m2.hp),m2.tk,m2.nx,st.nt,st.df⟩ { a with defers:=[{ target:=.collected w.heap.size,args:=#[]}]++a.defers } (w3.putObj (w.heap.size+1) (.loop { state:=.exhausted,pending:=jump,fn:=fn3,tmps:=tmps3,params:=ps2,assign:=as2,body:=bd2,defers:=V3.ι D2 })):=by
   have LL:=L.trans L6
   exact ⟨Qrh,hn6,hr.nt,hr.df.push LL (Ck _) hS6 hoD (fun o hs=>(H5.new _ _ hD5).2 o (by rw [e1];exact H5.le0.S _ _ hs)),fun t x hx=>(hr.tm t x hx).mono LL⟩
  refine ⟨jump,_,hend,?_⟩
  cases e with
  | normal=>cases he;exact hQ V6 _ _ hR
  | ret=>cases he;exact KD (wpIn_ret (hQ V6 _ _ hR))
  | exit id=>cases he;exact KD (wpIn_exit (hQ V6 _ _ hR))
  | goto t=>cases he
  | panic c=>cases he
  | outgrown=>cases he
theorem rangeFunc_inW {W:Wd} {P:Program} {g:Operand} {ps:Array Nat} {assign body:Code} {st:St} {gf:FuncId} {caps:List (Nat×Nat)} {res:TV} {m2:Mem} {s s0:LoopState} {jump p0:Option Code} {e:Exit} {tm2 tm0:List (Nat×TV)} {nt2 nt0:Nat} {ps2 ps0:Array Nat} {as2 bd2 as0 bd0:Code} {D2 D0 L0:Nat}
    (hg:ev st.tm g=some (.v (.one (.fn gf caps)))) (h0:Qq8 st.hp L0=some (.loop s0 p0 tm0 nt0 ps0 as0 bd0 D0))
    (hc:Q57 W P gf (.one (.yld st.nx)::Zv caps) ⟨(st.nx,.loop .ready none st.tm st.nt ps assign body D0)::st.hp,st.tk,st.nx+1⟩ res m2)
    (hL:Qq8 m2.hp st.nx=some (.loop s jump tm2 nt2 ps2 as2 bd2 D2)) (hs:s ≠ .busy) (he:Wa e=some jump) :
    Q7v W P (some L0) (.rangeFunc g ps assign body) st e ⟨st.tm,QD st.nx m2.hp,m2.tk,m2.nx,st.nt,st.df⟩:=by
  intro E ro n Q hP hW hv0 hro hQ V a w hr
  subst hP
  obtain ⟨hL0,rfl⟩:=hro
  refine YQ (fun fn _=>?_)
  obtain ⟨hv1,hv2⟩:=hr.ev hg
  obtain ⟨-,ob0,hob0,hD0,fn0,tmps0,rfl,hsz0,htm0⟩:=hr.h.own L0 _ h0
  have hι0:V.ι L0=E.V0.ι L0:=hr.h.le0.ι L0 hL0
  have H1:=hr.h.addOwn (.loop { state:=.ready,pending:=none,fn:=fn,tmps:=a.tmps,params:=ps,assign:=assign,body:=body,defers:=V.ι D0 }) (.loop .ready none st.tm st.nt ps assign body D0)
    (by
      have L1:=hr.h.le (w':=w.alloc (.loop { state:=.ready,pending:=none,fn:=fn,tmps:=a.tmps,params:=ps,assign:=assign,body:=body,defers:=V.ι D0 })) ⟨rfl,rfl,rfl,by simp,fun k hk _=>Below.heap_alloc w _ k hk⟩ (V.add_grow w.heap.size hr.h.sz ⟨rfl,rfl,rfl,by simp,fun k hk _=>Below.heap_alloc w _ k hk⟩)
      exact ⟨Cj hD0 L1.nx,fn,a.tmps,by rw [L1.ι D0 hD0],hr.nt,fun t x hx=>(hr.tm t x hx).mono L1⟩)
  have L1:=hr.h.le (w':=w.alloc (.loop { state:=.ready,pending:=none,fn:=fn,tmps:=a.tmps,params:=ps,assign:=assign,body:=body,defers:=V.ι D0 })) ⟨rfl,rfl,rfl,by simp,fun k hk _=>Below.heap_alloc w _ k hk⟩ (V.add_grow w.heap.size hr.h.sz ⟨rfl,rfl,rfl,by simp,fun k hk _=>Below.heap_alloc w _ k hk⟩)
  have hιL:(V.add w.heap.size).ι V.nx=w.heap.size:=V.add_at _
  generalize hV2:V.add w.heap.size=V2 at H1 L1 hιL
  have hnx2:V2.nx=st.nx+1:=by rw [← hV2];show V.nx+1=_;rw [hr.nx]
  rw [hr.nx] at H1 hιL
  obtain ⟨W2,hW2⟩:∃ W2,w.alloc (.loop { state:=.ready,pending:=none,fn:=fn,tmps:=a.tmps,params:=ps,assign:=assign,body:=body,defers:=V.ι D0 })=W2:=⟨_,rfl⟩
  rw [hW2] at H1 L1
  refine ⟨w.heap.size,[],W2,{ target:=.fn (.func gf) (caps.map fun p=>Value.pointer (some ⟨V.ι p.1,p.2,none⟩)).toArray,args:=#[.func (.yield w.heap.size) #[] #[]]},W2,gf,
    #[.func (.yield w.heap.size) #[] #[]]++(caps.map fun p=>Value.pointer (some ⟨V.ι p.1,p.2,none⟩)).toArray,W2,?_,?_,?_,?_,(by intro h;cases h),?_⟩
  · rw [← hW2]
    rw [hι0] at hob0
    unfold Instr.enterLoop
    simp only [Qrj,Sem.run_bind,run_getLoop hob0,run_newObj_alloc,Result.andThen,Sem.run_pure]
  · simp only [resolve,hv2]
    simp [go_sem]
  · exact fun _ _=>trivial
  · have:=hc.1 (#[.func (.yield w.heap.size) #[] #[]]++(caps.map fun p=>Value.pointer (some ⟨V.ι p.1,p.2,none⟩)).toArray) W2
    simp only [invoke];exact this
  · have hargs:argsRel V2 W2 (.one (.yld st.nx)::Zv caps) (#[.func (.yield w.heap.size) #[] #[]]++(caps.map fun p=>Value.pointer (some ⟨V.ι p.1,p.2,none⟩)).toArray):=by
      have h1:argsRel V2 W2 [.one (.yld st.nx)] #[.func (.yield w.heap.size) #[] #[]]:=⟨rfl,fun i y hy=>by
        match i,hy with
        | 0,hy=>cases hy;exact ⟨_,rfl,by rw [hnx2];omega,by rw [hιL];rfl⟩⟩
      have h2:argsRel V2 W2 (Zv caps) (caps.map fun p=>Value.pointer (some ⟨V.ι p.1,p.2,none⟩)).toArray:=by
        have h3:=Zd (V:=V2) (w:=W2) (caps:=caps) (fun p hp=>Cj (hv1 p hp) L1.nx)
        rw [Cx (g:=fun p=>Value.pointer (some ⟨V.ι p.1,p.2,none⟩)) (fun p hp=>by rw [L1.ι p.1 (hv1 p hp)])] at h3
        exact h3
      exact h1.append h2
    have hcall:=hc.2 E V2 W2 _ rfl (HRel.wd H1 hW) H1 hnx2 hargs
    have hcall':CallsIn Fence.wide (n - 1) E.P gf _ W2 _:=callsIn_wide.2 hcall
    refine CallsIn.mono (F:=Qrj (some (E.V0.ι L0))) hcall' ?_
    rintro e' w3 ⟨v,V3,rfl,H3,hn3,L3,-⟩
    obtain ⟨hL3,ob3,hob3,hD3,fn3,tmps3,rfl,hsz3,htm3⟩:=H3.own _ _ hL
    have hι3:V3.ι st.nx=w.heap.size:=by rw [L3.ι _ (by rw [hnx2];omega)];exact hιL
    have hend:=run_endLoop (P:=E.P) hob3 hs
    obtain ⟨H4,L4⟩:=H3.putObj (o':=.loop { state:=.exhausted,pending:=jump,fn:=fn3,tmps:=tmps3,params:=ps2,assign:=as2,body:=bd2,defers:=V3.ι D2 }) (B':=.loop .exhausted jump tm2 nt2 ps2 as2 bd2 D2) hL (fun hle=>⟨hD3,fn3,tmps3,rfl,hsz3,fun t y hy=>(htm3 t y hy).mono hle⟩)
    rw [hι3] at hend H4 L4
    have hR:Rel E V3 ⟨st.tm,QD st.nx m2.hp,m2.tk,m2.nx,st.nt,st.df⟩ { a with defers:=[]++a.defers } (w3.putObj w.heap.size (.loop { state:=.exhausted,pending:=jump,fn:=fn3,tmps:=tmps3,params:=ps2,assign:=as2,body:=bd2,defers:=V3.ι D2 })):=by
      have L:=(L1.trans L3).trans L4
      refine ⟨(H4.drop st.nx).congr (fun j=>?_) (fun _=>rfl),hn3,hr.nt,hr.df.le L,fun t x hx=>(hr.tm t x hx).mono L⟩
      rw [JB,JB,Q1]
      split
      · rfl
      · rename_i e;rw [C5 (fun e'=>e e'.symm)]
    refine ⟨jump,_,hend,?_⟩
    cases e with
    | normal=>cases he;exact hQ V3 _ _ hR
    | ret=>cases he;exact KD (wpIn_ret (hQ V3 _ _ hR))
    | exit id=>cases he;exact KD (wpIn_exit (hQ V3 _ _ hR))
    | goto t=>cases he
    | panic c=>cases he
    | outgrown=>cases he
theorem rangeFunc_outDW {W:Wd} {P:Program} {g:Operand} {ps:Array Nat} {assign body:Code} {st:St} {gf:FuncId} {caps:List (Nat×Nat)} {m2:Mem} {pv:Value}
  (hg:ev st.tm g=some (.v (.one (.fn gf caps))))
  (hc:Q58 W P gf (.one (.yld (st.nx+1))::Zv caps) ⟨(st.nx+1,.loop .ready none st.tm st.nt ps assign body st.nx)::(st.nx,.obj (.deferred (some [])))::st.hp,st.tk,st.nx+2⟩ pv m2)
  (hD:Qq8 m2.hp st.nx=some (.obj (.deferred (some [])))) :
  Q7v W P none (.rangeFunc g ps assign body) st (.panic (ZW pv)) ⟨st.tm,QD st.nx (QD (st.nx+1) m2.hp),m2.tk,m2.nx,st.nt,st.df⟩:=by
 intro E ro n Q hP hW hv0 hro hQ V a w hr
 subst hP
 cases hro
 refine YQ (fun fn _=>?_)
 obtain ⟨hv1,hv2⟩:=hr.ev hg
 have H1:=hr.h.addOwn (.deferred (some [])) (.obj (.deferred (some []))) rfl
 have L1:=hr.h.le (w':=w.alloc (.deferred (some []))) ⟨rfl,rfl,rfl,by simp,fun k hk _=>Below.heap_alloc w _ k hk⟩ (V.add_grow w.heap.size hr.h.sz ⟨rfl,rfl,rfl,by simp,fun k hk _=>Below.heap_alloc w _ k hk⟩)
 have L2:=H1.le (w':=(w.alloc (.deferred (some []))).alloc (.loop { state:=.ready,pending:=none,fn:=fn,tmps:=a.tmps,params:=ps,assign:=assign,body:=body,defers:=w.heap.size })) ⟨rfl,rfl,rfl,by simp,fun k hk _=>Below.heap_alloc _ _ k hk⟩ (Vu.add_grow _ (w.alloc (.deferred (some []))).heap.size H1.sz ⟨rfl,rfl,rfl,by simp,fun k hk _=>Below.heap_alloc _ _ k hk⟩)
 have hι:((V.add w.heap.size).add (w.alloc (.deferred (some []))).heap.size).ι V.nx=w.heap.size:=by
  rw [L2.ι V.nx (Ct _),V.add_at]
 have H2:=H1.addOwn (.loop { state:=.ready,pending:=none,fn:=fn,tmps:=a.tmps,params:=ps,assign:=assign,body:=body,defers:=w.heap.size }) (.loop .ready none st.tm st.nt ps assign body V.nx)
  ⟨Cj (Ct _) (Nat.le_succ _),fn,a.tmps,by rw [hι],hr.nt,fun t x hx=>((hr.tm t x hx).mono L1).mono L2⟩
 have L12:=L1.trans L2
 generalize hV2:(V.add w.heap.size).add (w.alloc (.deferred (some []))).heap.size=V2 at H2 L2 L12 hι
 have hnx2:V2.nx=st.nx+2:=by rw [← hV2];show V.nx+1+1=_;rw [hr.nx]
 have hιL:V2.ι (V.nx+1)=w.heap.size+1:=by
  rw [← hV2]
  have:=(V.add w.heap.size).add_at (w.alloc (.deferred (some []))).heap.size
  rw [World.size_alloc] at this
  rw [World.size_alloc];exact this
 have hcl:(V.add w.heap.size).nx=V.nx+1:=rfl
 rw [hcl] at H2
 rw [hr.nx] at H2 hιL hι
 obtain ⟨W2,hW2⟩:∃ W2,(w.alloc (.deferred (some []))).alloc (.loop { state:=.ready,pending:=none,fn:=fn,tmps:=a.tmps,params:=ps,assign:=assign,body:=body,defers:=w.heap.size })=W2:=⟨_,rfl⟩
 rw [hW2] at H2 L12
 refine ⟨w.heap.size+1,[{ target:=.collected w.heap.size,args:=#[]}],W2,{ target:=.fn (.func gf) (caps.map fun p=>Value.pointer (some ⟨V.ι p.1,p.2,none⟩)).toArray,args:=#[.func (.yield (w.heap.size+1)) #[] #[]]},W2,gf,
  #[.func (.yield (w.heap.size+1)) #[] #[]]++(caps.map fun p=>Value.pointer (some ⟨V.ι p.1,p.2,none⟩)).toArray,W2,?_,?_,?_,?_,(by intro h;cases h),?_⟩
 ·rw [← hW2];exact run_enterLoop_outer fn.1 a.tmps ps assign body
 ·simp only [resolve,hv2]
  simp [go_sem]
 ·exact fun _ _=>trivial
 ·have:=hc.1 (#[.func (.yield (w.heap.size+1)) #[] #[]]++(caps.map fun p=>Value.pointer (some ⟨V.ι p.1,p.2,none⟩)).toArray) W2
  simp only [invoke];exact this
 ·have hargs:argsRel V2 W2 (.one (.yld (st.nx+1))::Zv caps) (#[.func (.yield (w.heap.size+1)) #[] #[]]++(caps.map fun p=>Value.pointer (some ⟨V.ι p.1,p.2,none⟩)).toArray):=by
   have h1:argsRel V2 W2 [.one (.yld (st.nx+1))] #[.func (.yield (w.heap.size+1)) #[] #[]]:=⟨rfl,fun i y hy=>by
    match i,hy with
    | 0,hy=>cases hy;exact ⟨_,rfl,by rw [hnx2];omega,by rw [hιL];rfl⟩⟩
   have h2:argsRel V2 W2 (Zv caps) (caps.map fun p=>Value.pointer (some ⟨V.ι p.1,p.2,none⟩)).toArray:=by
    have h3:=Zd (V:=V2) (w:=W2) (caps:=caps) (fun p hp=>Cj (hv1 p hp) L12.nx)
    rw [Cx (g:=fun p=>Value.pointer (some ⟨V.ι p.1,p.2,none⟩)) (fun p hp=>by rw [L12.ι p.1 (hv1 p hp)])] at h3
    exact h3
   exact h1.append h2
  have hcall:=hc.2 E V2 W2 _ rfl (HRel.wd H2 hW) H2 hnx2 hargs
  have hcall':CallsIn Fence.wide (n - 1) E.P gf _ W2 _:=callsIn_wide.2 hcall
  refine CallsIn.mono (F:=Qrj none) hcall' ?_
  rintro e' w3 ⟨V3,rfl,H3,hn3,L3⟩
  have L:=L12.trans L3
  have H5:=H3.drop (st.nx+1)
  have hD5:Qq8 (QD (st.nx+1) m2.hp) st.nx=some (.obj (.deferred (some []))):=by
   rw [JB,C5 (by omega)];exact hD
  obtain ⟨Qrh,L6⟩:=H5.freeze hD5
  have e1:V3.ι st.nx=w.heap.size:=by rw [L3.ι _ (by rw [hnx2];omega)];exact hι
  obtain ⟨-,oD,hoD,hDr⟩:=H5.own _ _ hD5
  have hoD':oD=.deferred (some []):=hDr
  rw [hoD',e1] at hoD
  obtain ⟨V6,hV6⟩:∃ V6:Vu,{ V3 with S:=fun b o=>V3.S b o∨b=V3.ι st.nx }=V6:=⟨_,rfl⟩
  have hS6:V6.S w.heap.size 0:=by rw [← hV6];exact .inr e1.symm
  have hn6:V6.nx=m2.nx:=by rw [← hV6];exact hn3
  rw [hV6] at Qrh L6
  have LL:=L.trans L6
  exact hQ V6 _ _ ⟨Qrh,hn6,hr.nt,hr.df.push LL (Ck _) hS6 hoD (fun o hs=>(H5.new _ _ hD5).2 o (by rw [e1];exact H5.le0.S _ _ hs)),fun t x hx=>(hr.tm t x hx).mono LL⟩
theorem rangeFunc_inDW {W:Wd} {P:Program} {g:Operand} {ps:Array Nat} {assign body:Code} {st:St} {gf:FuncId} {caps:List (Nat×Nat)} {m2:Mem} {s0:LoopState} {p0:Option Code} {tm0:List (Nat×TV)} {nt0:Nat} {ps0:Array Nat} {as0 bd0:Code} {D0 L0:Nat} {pv:Value}
  (hg:ev st.tm g=some (.v (.one (.fn gf caps)))) (h0:Qq8 st.hp L0=some (.loop s0 p0 tm0 nt0 ps0 as0 bd0 D0))
  (hc:Q58 W P gf (.one (.yld st.nx)::Zv caps) ⟨(st.nx,.loop .ready none st.tm st.nt ps assign body D0)::st.hp,st.tk,st.nx+1⟩ pv m2) :
  Q7v W P (some L0) (.rangeFunc g ps assign body) st (.panic (ZW pv)) ⟨st.tm,QD st.nx m2.hp,m2.tk,m2.nx,st.nt,st.df⟩:=by
 intro E ro n Q hP hW hv0 hro hQ V a w hr
 subst hP
 obtain ⟨hL0,rfl⟩:=hro
 refine YQ (fun fn _=>?_)
 obtain ⟨hv1,hv2⟩:=hr.ev hg
 obtain ⟨-,ob0,hob0,hD0,fn0,tmps0,rfl,hsz0,htm0⟩:=hr.h.own L0 _ h0
 have hι0:V.ι L0=E.V0.ι L0:=hr.h.le0.ι L0 hL0
 have L1:=hr.h.le (w':=w.alloc (.loop { state:=.ready,pending:=none,fn:=fn,tmps:=a.tmps,params:=ps,assign:=assign,body:=body,defers:=V.ι D0 })) ⟨rfl,rfl,rfl,by simp,fun k hk _=>Below.heap_alloc w _ k hk⟩ (V.add_grow w.heap.size hr.h.sz ⟨rfl,rfl,rfl,by simp,fun k hk _=>Below.heap_alloc w _ k hk⟩)
 have H1:=hr.h.addOwn (.loop { state:=.ready,pending:=none,fn:=fn,tmps:=a.tmps,params:=ps,assign:=assign,body:=body,defers:=V.ι D0 }) (.loop .ready none st.tm st.nt ps assign body D0)
  ⟨Cj hD0 L1.nx,fn,a.tmps,by rw [L1.ι D0 hD0],hr.nt,fun t x hx=>(hr.tm t x hx).mono L1⟩
 have hιL:(V.add w.heap.size).ι V.nx=w.heap.size:=V.add_at _
 generalize hV2:V.add w.heap.size=V2 at H1 L1 hιL
 have hnx2:V2.nx=st.nx+1:=by rw [← hV2];show V.nx+1=_;rw [hr.nx]
 rw [hr.nx] at H1 hιL
 obtain ⟨W2,hW2⟩:∃ W2,w.alloc (.loop { state:=.ready,pending:=none,fn:=fn,tmps:=a.tmps,params:=ps,assign:=assign,body:=body,defers:=V.ι D0 })=W2:=⟨_,rfl⟩
 rw [hW2] at H1 L1
 refine ⟨w.heap.size,[],W2,{ target:=.fn (.func gf) (caps.map fun p=>Value.pointer (some ⟨V.ι p.1,p.2,none⟩)).toArray,args:=#[.func (.yield w.heap.size) #[] #[]]},W2,gf,
  #[.func (.yield w.heap.size) #[] #[]]++(caps.map fun p=>Value.pointer (some ⟨V.ι p.1,p.2,none⟩)).toArray,W2,?_,?_,?_,?_,(by intro h;cases h),?_⟩
 ·rw [← hW2]
  rw [hι0] at hob0
  unfold Instr.enterLoop
  simp only [Qrj,Sem.run_bind,run_getLoop hob0,run_newObj_alloc,Result.andThen,Sem.run_pure]
 ·simp only [resolve,hv2]
  simp [go_sem]
 ·exact fun _ _=>trivial
 ·have:=hc.1 (#[.func (.yield w.heap.size) #[] #[]]++(caps.map fun p=>Value.pointer (some ⟨V.ι p.1,p.2,none⟩)).toArray) W2
  simp only [invoke];exact this
 ·have hargs:argsRel V2 W2 (.one (.yld st.nx)::Zv caps) (#[.func (.yield w.heap.size) #[] #[]]++(caps.map fun p=>Value.pointer (some ⟨V.ι p.1,p.2,none⟩)).toArray):=by
   have h1:argsRel V2 W2 [.one (.yld st.nx)] #[.func (.yield w.heap.size) #[] #[]]:=⟨rfl,fun i y hy=>by
    match i,hy with
    | 0,hy=>cases hy;exact ⟨_,rfl,by rw [hnx2];omega,by rw [hιL];rfl⟩⟩
   have h2:argsRel V2 W2 (Zv caps) (caps.map fun p=>Value.pointer (some ⟨V.ι p.1,p.2,none⟩)).toArray:=by
    have h3:=Zd (V:=V2) (w:=W2) (caps:=caps) (fun p hp=>Cj (hv1 p hp) L1.nx)
    rw [Cx (g:=fun p=>Value.pointer (some ⟨V.ι p.1,p.2,none⟩)) (fun p hp=>by rw [L1.ι p.1 (hv1 p hp)])] at h3
    exact h3
   exact h1.append h2
  have hcall:=hc.2 E V2 W2 _ rfl (HRel.wd H1 hW) H1 hnx2 hargs
  have hcall':CallsIn Fence.wide (n - 1) E.P gf _ W2 _:=callsIn_wide.2 hcall
  refine CallsIn.mono (F:=Qrj (some (E.V0.ι L0))) hcall' ?_
  rintro e' w3 ⟨V3,rfl,H3,hn3,L3⟩
  have L:=L1.trans L3
  exact hQ V3 _ _ ⟨H3.drop st.nx,hn3,hr.nt,hr.df.le L,fun t x hx=>(hr.tm t x hx).mono L⟩
end
noncomputable section
open Go.RowKit
structure StW (st st':St):Prop where
 tm:∀ t y,Qq8 st'.tm t=some y→y=.unk∨∃ x,Qq8 st.tm t=some x∧∀ V w v,x.rel V w v→y.rel V w v
 hp:∀ i B,Qq8 st'.hp i=some B→∃ A,Qq8 st.hp i=some A∧∀ V w o,A.rel V w o→B.rel V w o
 tk:∀ i T,Qq8 st'.tk i=some (some T)→Qq8 st.tk i=some (some T)
 nx:st'.nx=st.nx
 nt:st'.nt=st.nt
 df:st'.df=st.df
theorem StW.refl (st:St):StW st st:=⟨fun t y h=>.inr ⟨y,h,fun _ _ _ h=>h⟩,fun i B h=>⟨B,h,fun _ _ _ h=>h⟩,fun i T h=>h,rfl,rfl,rfl⟩
theorem HRel.weak {E:Env} {V:Vu} {hp hp':List (Nat×HB)} {tk tk':List (Nat×Option Tok)} {w:World} (h:HRel E V hp tk w)
  (hh:∀ i B,Qq8 hp' i=some B→∃ A,Qq8 hp i=some A∧∀ V w o,A.rel V w o→B.rel V w o) (ht:∀ i T,Qq8 tk' i=some (some T)→Qq8 tk i=some (some T)):HRel E V hp' tk' w:=by
 refine ⟨h.ext,h.le0,h.sz,h.sub,fun i B hi=>?_,fun i j A B hi hj=>?_,fun i B hi=>?_,fun i T hi=>?_,fun i j T U g hi hj=>h.tki i j T U g (ht i T hi) (ht j U hj)⟩
 ·obtain ⟨x,hx,hxy⟩:=hh i B hi
  obtain ⟨h1,o,h2,h3⟩:=h.own i x hx
  exact ⟨h1,o,h2,hxy _ _ _ h3⟩
 ·obtain ⟨x,hx,-⟩:=hh i A hi
  obtain ⟨y,hy,-⟩:=hh j B hj
  exact h.inj i j x y hx hy
 ·obtain ⟨x,hx,-⟩:=hh i B hi
  exact h.new i x hx
 ·obtain ⟨h1,h2,xs,h3,h4⟩:=h.tok i T (ht i T hi)
  refine ⟨h1,h2,xs,h3,fun g hg=>⟨(h4 g hg).1,(h4 g hg).2.1,fun j B hj=>?_⟩⟩
  obtain ⟨x,hx,-⟩:=hh j B hj
  exact (h4 g hg).2.2 j x hx
theorem Rel.weak {E:Env} {V:Vu} {st st':St} {a:Act} {w:World} (h:Rel E V st a w) (hl:StW st st'):Rel E V st' a w :=
 ⟨h.h.weak hl.hp hl.tk,h.nx.trans hl.nx.symm,h.nt.trans hl.nt.symm,by rw [hl.df];exact h.df,fun t y hy=>by
  rcases hl.tm t y hy with e | ⟨x,hx,hxy⟩
  ·subst e;trivial
  ·exact hxy _ _ _ (h.tm t x hx)⟩
structure StB (m:Nat) (st:St):Prop where
 tm:∀ t x,Qq8 st.tm t=some x→x.below m
 hp:∀ i B,Qq8 st.hp i=some B→i < m∧B.below m
 tk:∀ i T,Qq8 st.tk i=some (some T)→i < m
 df:∀ i,i∈st.df.tail→i < m
theorem Rel.trimTo {E:Env} {V:Vu} {st:St} {a:Act} {w:World} {m:Nat} (h:Rel E V st a w) (hb:StB m st) (h0:E.V0.nx≤m):∃ V',Rel E V' ⟨st.tm,st.hp,st.tk,m,st.nt,st.df⟩ a w:=by
 have H:=h.h
 refine ⟨{ V with nx:=m },⟨H.ext,⟨h0,H.le0.ι,H.le0.cu,H.le0.κ,H.le0.S,H.le0.cell,H.le0.dk⟩,H.sz,H.sub,?_,H.inj,H.new,?_,?_⟩,Z,h.nt,h.df.trim hb.df,?_⟩
 ·intro i B hi
  obtain ⟨h1,h2⟩:=hb.hp i B hi
  obtain ⟨-,o,ho,hB⟩:=H.own i B hi
  refine ⟨h1,o,ho,?_⟩
  cases B with
  | cells T xs=>obtain ⟨vs,h3,h4⟩:=hB;exact ⟨vs,h3,h4.trim h2⟩
  | obj o'=>exact hB
  | loop s p tm nt ps assign body D=>obtain ⟨-,fn,tmps,h3,h4,h5⟩:=hB;exact ⟨h2.1,fn,tmps,h3,h4,fun t x hx=>(h5 t x hx).trim (h2.2 t x hx)⟩
  | mp es clock=>obtain ⟨ents,h3,h4,h5⟩:=hB;exact ⟨ents,h3,h4,fun i k x b hi=>let ⟨v,h6,h7⟩:=h5 i k x b hi;⟨v,h6,h7.trim (h2 _ (Cs hi))⟩⟩
 ·intro i T hi
  obtain ⟨h1,hcu,xs,h2,h3⟩:=H.tok i T hi
  exact ⟨hb.tk i _ hi,hcu,xs,h2,h3⟩
 ·exact H.tki
 ·intro t y hy
  exact (h.tm t y hy).trim (hb.tm t y hy)
structure Univ where
 T:Type
 R:T→Type
 eq:(a b:T)→Option (PLift (a=b))
 E:∀ t,Enc (R t)
section
variable (U:Univ)
inductive TC where
 | v (x:Value)
 | str (s:Qrl)
 | sl (t:U.T) (l:List (U.R t))
inductive TA where
 | c (x:TC U)
 | ptr (i off:Nat)
 | pel (t:U.T) (x:U.R t) (off:Nat)
 | fn (f:FuncId) (caps:List (Nat×Nat))
 | app (i ver:Nat)
 | raw (x:CA)
inductive It where
 | one (x:TA U)
 | grp (t:U.T) (x:U.R t)
inductive TAV where
 | one (x:TA U)
 | agg (xs:List (It U))
inductive TTV where
 | v (x:TAV U)
 | tup (xs:List (TAV U))
 | unk
structure TTok where
 E:TypeId
 t:U.T
 l:List (U.R t)
 ver:Nat
inductive Ev where
 | box (i:Nat) (T:TypeId) (xs:List (It U))
 | set (i off:Nat) (xs:List (It U))
 | raw (i:Nat) (B:HB)
 | lp (i:Nat) (s:LoopState) (p:Option Code) (tm:List (Nat×TTV U)) (nt:Nat) (ps:Array Nat) (a b:Code) (d:Nat)
 | ls (i:Nat) (xs:List (Nat×TTV U))
structure TMe where
 es:List (Ev U)
 tk:List (Nat×TTok U)
 nx:Nat
structure TSt where
 tm:List (Nat×TTV U)
 m:TMe U
 nt:Nat
 df:List Nat
structure Codec where
 fl:∀ t,U.R t→List (TC U)
 sub:∀ t,U.R t→Nat→Nat→Option (Sigma U.R)
 bld:∀ t,List (It U)→Option (U.R t)
end
section
variable {U:Univ}
def TC.er:TC U→C
 | .v x=>.v x
 | .str s=>.v (.string (Qpz s))
 | .sl t l=>.sl (U.E t).sz ((U.E t).encL l)
def TTok.er (T:TTok U):Tok:=⟨T.E,(U.E T.t).sz,((U.E T.t).encL T.l).length,[]⟩
def TTok.erO (T:TTok U):Option Tok:=cond (Nat.beq T.E 0) none (some T.er)
theorem TTok.erO_some {T:TTok U} {x:Tok} (h:T.erO=some x):T.er=x∧Nat.beq T.E 0=false:=by
 unfold TTok.erO at h
 cases hb:Nat.beq T.E 0 with
 | true=>rw [hb] at h;cases h
 | false=>rw [hb] at h;exact ⟨Cv h,rfl⟩
theorem K6 {T:TTok U} (h:Nat.beq T.E 0=false):T.erO=some T.er:=by unfold TTok.erO;rw [h];rfl
def XE (tk:List (Nat×TTok U)):List (Nat×Option Tok):=tk.map fun p=>(p.1,p.2.erO)
def cur (tk:List (Nat×TTok U)) (i ver:Nat):Option (TTok U):=match Qq8 tk i with
 | some T=>cond (Nat.beq T.ver ver) (some T) none
 | none=>none
def TA.er (tk:List (Nat×TTok U)):TA U→CA
 | .c x=>.d x.er
 | .ptr i off=>.ptr i off
 | .pel t x off=>.pel ((U.E t).enc x) off
 | .fn f caps=>.fn f caps
 | .app i ver=>match cur tk i ver with
  | some T=>.app i (U.E T.t).sz ((U.E T.t).encL T.l)
  | none=>.any
 | .raw x=>x
variable (D:Codec U)
def It.cells:It U→List (TA U)
 | .one x=>[x]
 | .grp t x=>(D.fl t x).map .c
def Y0 (xs:List (It U)):List (TA U):=xs.flatMap (It.cells D)
def Jf (tk:List (Nat×TTok U)) (xs:List (It U)):List CA:=(Y0 D xs).map (TA.er tk)
def TAV.er (tk:List (Nat×TTok U)):TAV U→AV
 | .one x=>.one (x.er tk)
 | .agg xs=>.agg (Jf D tk xs)
def TTV.er (tk:List (Nat×TTok U)):TTV U→TV
 | .v x=>.v (x.er D tk)
 | .tup xs=>.tup (xs.map (TAV.er D tk))
 | .unk=>.unk
def QI {α β:Type} (f:α→β) (l:List (Nat×α)):List (Nat×β):=l.map fun p=>(p.1,f p.2)
theorem QN {α β:Type} (f:α→β):∀ (l:List (Nat×α)) (i:Nat),Qq8 (QI f l) i=(Qq8 l i).map f
  | [],i=>rfl
  | (k,x)::l,i=>by
    show Qq8 ((k,f x)::QI f l) i=_
    rw [Q1,Q1,QN f l i]
    split <;> rfl
theorem Gy {tk:List (Nat×TTok U)} {i j:Nat} {T0:TTok U} {x y:Tok} {l:List (Nat×Option Tok)} (hy:T0.er=y) (hl:∀ j,Qq8 l j=Qq8 ((i,some y)::XE tk) j) (h:Qq8 (XE ((i,T0)::tk)) j=some (some x)):Qq8 l j=some (some x):=by
 have h':Qq8 ((i,T0.erO)::XE tk) j=some (some x):=h
 rw [hl,Q1]
 rw [Q1] at h'
 by_cases e:i=j
 ·rw [Cd e] at h' ⊢
  rw [← hy,(TTok.erO_some (Cv h')).1]
 ·rw [C5 e] at h' ⊢
  exact h'
def Qg (tk:List (Nat×TTok U)):List (Ev U)→List (Nat×HB)
 | []=>[]
 | .box i T xs::es=>(i,.cells T (Jf D tk xs))::Qg tk es
 | .raw i B::es=>(i,B)::Qg tk es
 | .lp i s p tm nt ps a b d::es=>(i,.loop s p (QI (TTV.er D tk) tm) nt ps a b d)::Qg tk es
 | .ls i xs::es=>match Qq8 (Qg tk es) i with
  | some (.loop s p tm nt ps a b d)=>(i,.loop s p (QI (TTV.er D tk) xs++tm) nt ps a b d)::Qg tk es
  | _=>Qg tk es
 | .set i off xs::es=>match Qq8 (Qg tk es) i with
  | some (.cells T ys)=>(i,.cells T (setL ys off (Jf D tk xs)))::Qg tk es
  | _=>Qg tk es
def TMe.er (m:TMe U):Mem:=⟨Qg D m.tk m.es,XE m.tk,m.nx⟩
def TSt.er (st:TSt U):St:=⟨QI (TTV.er D st.m.tk) st.tm,Qg D st.m.tk st.m.es,XE st.m.tk,st.m.nx,st.nt,st.df⟩
structure Codec.OK:Prop where
 fl:∀ t x,(D.fl t x).map TC.er=(U.E t).enc x
 sz:∀ t x,((U.E t).enc x).length=(U.E t).sz
 sub:∀ t x off n t' x',D.sub t x off n=some ⟨t',x'⟩→((D.fl t x).drop off).take n=D.fl t' x'∧(D.fl t' x').length=n
 bld:∀ tk t xs x,D.bld t xs=some x→CSubs (Jf D tk xs) ((U.E t).enc x)
end
end
noncomputable section
open Go.RowKit
section
variable {U:Univ} (D:Codec U)
def It.size:It U→Nat
 | .one _=>1
 | .grp t _=>(U.E t).sz
def QX:List (It U)→Nat
 | []=>0
 | x::xs=>x.size+QX xs
def Qb5 (xs:List (TA U)):List (It U):=xs.map .one
def Za:List (It U)→Nat→List (It U)×List (It U)
 | [],_=>([],[])
 | x::xs,n=>cond (Nat.beq n 0) ([],x::xs) (cond (Nat.ble x.size n) (x::(Za xs (n - x.size)).1,(Za xs (n - x.size)).2) (Qb5 ((x.cells D).take n),Qb5 ((x.cells D).drop n)++xs))
def Qjq (x:It U) (off n:Nat):List (It U):=match x with
 | .grp t v=>match D.sub t v off n with
  | some ⟨t',v'⟩=>[.grp t' v']
  | none=>Qb5 ((((It.grp t v).cells D).drop off).take n)
 | .one v=>Qb5 ((((It.one v).cells D).drop off).take n)
def Q5a:List (It U)→Nat→Nat→List (It U)
 | [],_,_=>[]
 | x::xs,off,n=>cond (Nat.ble x.size off) (Q5a xs (off - x.size) n) (cond (Nat.ble (off+n) x.size&&!(Nat.beq off 0&&Nat.beq n x.size)) (Qjq D x off n) (cond (Nat.beq off 0) (Za D (x::xs) n).1 (Za D (Qb5 ((x.cells D).drop off)++xs) n).1))
def Qii (xs:List (It U)) (off:Nat) (ys:List (It U)):List (It U):=(Za D xs off).1++ys++(Za D xs (off+QX ys)).2
variable {D}
theorem Ky (xs:List (TA U)):Y0 D (Qb5 xs)=xs:=by
 induction xs with
 | nil=>rfl
 | cons x xs ih =>
  show Y0 D (.one x::Qb5 xs)=_
  unfold Y0 at ih ⊢
  rw [List.flatMap_cons,ih];rfl
theorem JZ (x:It U) (xs:List (It U)):Y0 D (x::xs)=x.cells D++Y0 D xs:=List.flatMap_cons
theorem Dq (xs ys:List (It U)):Y0 D (xs++ys)=Y0 D xs++Y0 D ys:=List.flatMap_append
variable (hD:D.OK)
include hD
theorem Q0n (x:It U):(x.cells D).length=x.size:=by
 cases x with
 | one x=>rfl
 | grp t x =>
  show ((D.fl t x).map TA.c).length=_
  rw [Cm]
  have h:=congrArg List.length (hD.fl t x)
  rw [Cm,hD.sz] at h
  exact h
theorem Zk:∀ xs:List (It U),(Y0 D xs).length=QX xs
 | []=>rfl
 | x::xs=>by rw [JZ,C7,Q0n hD,Zk xs];rfl
theorem ZA:∀ (xs:List (It U)) (n:Nat),Y0 D (Za D xs n).1=(Y0 D xs).take n∧Y0 D (Za D xs n).2=(Y0 D xs).drop n
 | [],n=>by constructor <;> (show ([]:List (TA U))=_;show []=_;simp [Y0])
 | x::xs,n=>by
  have hl:=Q0n hD x
  unfold Za
  cases h0:Nat.beq n 0 with
  | true =>
   have:=C4 h0
   subst this
   exact ⟨by simp [Y0],by simp⟩
  | false =>
   rw [Ce]
   cases h1:Nat.ble x.size n with
   | true =>
    rw [C6]
    have hle:=C3 h1
    obtain ⟨i1,i2⟩:=ZA xs (n - x.size)
    dsimp only
    refine ⟨?_,?_⟩
    ·have t1:(x.cells D).take n=x.cells D:=Pm (by omega)
     rw [JZ,JZ,i1,List.take_append,hl,t1]
    ·have t1:(x.cells D).drop n=[]:=Sk (by omega)
     rw [i2,JZ,So,hl,t1,CU]
   | false =>
    rw [Ce]
    have hlt:n < x.size:=by
     rcases P1 n x.size with h | h
     ·exact h
     ·rw [Cb h] at h1;cases h1
    dsimp only
    refine ⟨?_,?_⟩
    ·rw [Ky,JZ,List.take_append_of_le_length (by omega)]
    ·rw [Dq,Ky,JZ,PS (by omega)]
theorem US:∀ (xs:List (It U)) (off n:Nat),Y0 D (Q5a D xs off n)=((Y0 D xs).drop off).take n
 | [],off,n=>by simp [Q5a,Y0]
 | x::xs,off,n=>by
  have hl:=Q0n hD x
  unfold Q5a
  cases h1:Nat.ble x.size off with
  | true =>
   have hle:=C3 h1
   have t1:(x.cells D).drop off=[]:=Sk (by omega)
   rw [C6,US xs,JZ,So,hl,t1,CU]
  | false =>
   have hlt:off < x.size:=by
    rcases P1 off x.size with h | h
    ·exact h
    ·rw [Cb h] at h1;cases h1
   rw [Ce]
   cases h2:(Nat.ble (off+n) x.size&&!(Nat.beq off 0&&Nat.beq n x.size)) with
   | true =>
    rw [C6]
    have hle:off+n≤x.size:=C3 (C0.1 h2).1
    have hc:((x.cells D).drop off).take n=((Y0 D (x::xs)).drop off).take n:=by
     rw [JZ,PS (by omega),List.take_append_of_le_length (by rw [Cu];omega)]
    rw [← hc]
    unfold Qjq
    cases x with
    | one v=>exact Ky _
    | grp t v =>
     dsimp only
     split
     ·rename_i t' v' hs
      obtain ⟨q1,q2⟩:=hD.sub t v off n t' v' hs
      show Y0 D [It.grp t' v']=(((D.fl t v).map TA.c).drop off).take n
      rw [← PY,← PZ,q1]
      show (D.fl t' v').map TA.c++[]=_
      rw [Cy]
     ·exact Ky _
   | false =>
    rw [Ce]
    cases h3:Nat.beq off 0 with
    | true =>
     rw [C6,(ZA hD _ n).1,C4 h3,PB]
    | false =>
     rw [Ce,(ZA hD _ n).1,Dq,Ky,JZ,PS (by omega)]
theorem put_flat (xs:List (It U)) (off:Nat) (ys:List (It U)):Y0 D (Qii D xs off ys)=(Y0 D xs).take off++Y0 D ys++(Y0 D xs).drop (off+QX ys):=by
 unfold Qii
 rw [Dq,Dq,(ZA hD xs off).1,(ZA hD xs _).2]
omit hD
theorem Q83:∀ (ys xs:List CA) (off:Nat),off+ys.length≤xs.length→setL xs off ys=xs.take off++ys++xs.drop (off+ys.length)
 | [],xs,off,_=>by simp [setL]
 | y::ys,xs,off,h=>by
  rw [C2] at h
  show setL (xs.set off y) (off+1) ys=_
  rw [Q83 ys _ _ (by rw [PX];omega),C2]
  have hoff:off < xs.length:=by omega
  rw [List.take_succ_eq_append_getElem (by rw [PX];omega),List.getElem_set_self,List.take_set_of_le (Ck _),List.drop_set_of_lt (by omega),show off+1+ys.length=off+(ys.length+1) by omega]
  simp
include hD
theorem Qd4 (tk:List (Nat×TTok U)) (xs:List (It U)) (off:Nat) (ys:List (It U)) (h:off+QX ys≤QX xs):Jf D tk (Qii D xs off ys)=setL (Jf D tk xs) off (Jf D tk ys):=by
 have h1:=Zk hD xs
 have h2:=Zk hD ys
 unfold Jf
 rw [put_flat hD,Q83 _ _ _ (by rw [Cm,Cm];omega),Cr,Cr,PZ,PY,Cm,h2]
omit hD
variable (D) in
def WZ:List (Ev U)→Nat→Nat→Nat→Option (List (It U))
 | [],_,_,_=>none
 | .box j T xs::es,i,off,n=>cond (Nat.beq j i) (cond (Nat.ble (off+n) (QX xs)) (some (Q5a D xs off n)) none) (WZ es i off n)
 | .raw j B::es,i,off,n=>cond (Nat.beq j i) none (WZ es i off n)
 | .lp j _ _ _ _ _ _ _ _::es,i,off,n=>cond (Nat.beq j i) none (WZ es i off n)
 | .ls j _::es,i,off,n=>cond (Nat.beq j i) none (WZ es i off n)
 | .set j o xs::es,i,off,n=>match WZ es i off n with
  | none=>none
  | some ys=>cond (Nat.beq j i) (cond (Nat.ble (off+n) o||Nat.ble (o+QX xs) off) (some ys)
    (cond (Nat.ble o off&&Nat.ble (off+n) (o+QX xs)) (some (Q5a D xs (off - o) n))
     (cond (Nat.ble off o&&Nat.ble (o+QX xs) (off+n)) (some (Qii D ys (o - off) xs)) none))) (some ys)
variable (D) in
def Z4:List (Ev U)→Nat→Option (TypeId×Nat)
 | [],_=>none
 | .box j T xs::es,i=>cond (Nat.beq j i) (some (T,QX xs)) (Z4 es i)
 | .raw j B::es,i=>cond (Nat.beq j i) none (Z4 es i)
 | .lp j _ _ _ _ _ _ _ _::es,i=>cond (Nat.beq j i) none (Z4 es i)
 | .ls j _::es,i=>cond (Nat.beq j i) none (Z4 es i)
 | .set _ _ _::es,i=>Z4 es i
theorem Ke {a b:Nat} (h:Nat.beq a b=false):a ≠ b:=fun e=>by subst e;simp at h
include hD
theorem Ye {tk:List (Nat×TTok U)}:∀ {es:List (Ev U)} {i n T:Nat},Z4 es i=some (T,n)→∃ ys,Qq8 (Qg D tk es) i=some (.cells T ys)∧ys.length=n
 | .box j T xs::es,i,n,T',h=>by
  unfold Z4 at h
  unfold Qg
  rw [Q1]
  cases hb:Nat.beq j i with
  | true =>
   rw [hb] at h;cases h
   rw [Cd (C4 hb)]
   exact ⟨_,rfl,by unfold Jf;rw [Cm,Zk hD]⟩
  | false=>rw [hb] at h;rw [C5 (Ke hb)];exact Ye h
 | .raw j B::es,i,n,T',h=>by
  unfold Z4 at h
  unfold Qg
  rw [Q1]
  cases hb:Nat.beq j i with
  | true=>rw [hb] at h;cases h
  | false=>rw [hb] at h;rw [C5 (Ke hb)];exact Ye h
 | .lp j _ _ _ _ _ _ _ _::es,i,n,T',h=>by
  unfold Z4 at h
  unfold Qg
  rw [Q1]
  cases hb:Nat.beq j i with
  | true=>rw [hb] at h;cases h
  | false=>rw [hb] at h;rw [C5 (Ke hb)];exact Ye h
 | .ls j xs::es,i,n,T',h=>by
  unfold Z4 at h
  unfold Qg
  cases hb:Nat.beq j i with
  | true=>rw [hb] at h;cases h
  | false =>
   rw [hb] at h
   split
   ·rw [Q1,C5 (Ke hb)];exact Ye h
   ·exact Ye h
 | .set j o xs::es,i,n,T',h=>by
  obtain ⟨ys,h1,h2⟩:=Ye (tk:=tk) (show Z4 es i=some (T',n) from h)
  unfold Qg
  split
  ·rename_i T zs hz
   rw [Q1]
   by_cases e:j=i
   ·subst e;rw [hz] at h1;cases h1
    rw [Cd rfl]
    exact ⟨_,rfl,by rw [Jj];exact h2⟩
   ·rw [C5 e];exact ⟨ys,h1,h2⟩
  ·exact ⟨ys,h1,h2⟩
theorem Yj {tk:List (Nat×TTok U)}:∀ {es:List (Ev U)} {i off n:Nat} {xs:List (It U)},WZ D es i off n=some xs→∃ T ys,Qq8 (Qg D tk es) i=some (.cells T ys)∧off+n≤ys.length∧(ys.drop off).take n=Jf D tk xs
 | .box j T xs::es,i,off,n,zs,h=>by
  unfold WZ at h
  unfold Qg
  rw [Q1]
  cases hb:Nat.beq j i with
  | true =>
   rw [hb,C6] at h
   rw [Cd (C4 hb)]
   cases hl:Nat.ble (off+n) (QX xs) with
   | false=>rw [hl] at h;cases h
   | true =>
    rw [hl] at h;cases h
    refine ⟨T,_,rfl,by unfold Jf;rw [Cm,Zk hD];exact C3 hl,?_⟩
    unfold Jf
    rw [US hD,PZ,PY]
  | false=>rw [hb] at h;rw [C5 (Ke hb)];exact Yj h
 | .raw j B::es,i,off,n,zs,h=>by
  unfold WZ at h
  unfold Qg
  rw [Q1]
  cases hb:Nat.beq j i with
  | true=>rw [hb] at h;cases h
  | false=>rw [hb] at h;rw [C5 (Ke hb)];exact Yj h
 | .lp j _ _ _ _ _ _ _ _::es,i,off,n,zs,h=>by
  unfold WZ at h
  unfold Qg
  rw [Q1]
  cases hb:Nat.beq j i with
  | true=>rw [hb] at h;cases h
  | false=>rw [hb] at h;rw [C5 (Ke hb)];exact Yj h
 | .ls j xs::es,i,off,n,zs,h=>by
  unfold WZ at h
  unfold Qg
  cases hb:Nat.beq j i with
  | true=>rw [hb] at h;cases h
  | false =>
   rw [hb] at h
   split
   ·rw [Q1,C5 (Ke hb)];exact Yj h
   ·exact Yj h
 | .set j o xs::es,i,off,n,zs,h=>by
  unfold WZ at h
  split at h
  ·cases h
  ·rename_i ys hys
   obtain ⟨T,vs,h1,h2,h3⟩:=Yj (tk:=tk) hys
   have hx:(Jf D tk xs).length=QX xs:=by unfold Jf;rw [Cm,Zk hD]
   unfold Qg
   cases hb:Nat.beq j i with
   | false =>
    rw [hb] at h;cases h
    have hne:=Ke hb
    split
    ·rw [Q1,C5 hne];exact ⟨T,vs,h1,h2,h3⟩
    ·exact ⟨T,vs,h1,h2,h3⟩
   | true =>
    have e:=C4 hb
    subst e
    rw [hb,C6] at h
    rw [h1]
    dsimp only
    rw [Q1,Cd rfl]
    refine ⟨T,_,rfl,by rw [Jj];exact h2,?_⟩
    have hin:∀ (k:Nat) (ys:List CA) (zs:List CA) (q:Nat),(setL zs q ys)[k]?=if q≤k∧k < q+ys.length∧k < zs.length then ys[k - q]? else zs[k]?:=by
     intro k ys
     induction ys with
     | nil =>
      intro zs q
      show zs[k]?=_
      rw [C5 (by rw [Cc];omega)]
     | cons y ys ih =>
      intro zs q
      show (setL (zs.set q y) (q+1) ys)[k]?=_
      rw [ih,PX,C2,S3]
      by_cases c1:q+1≤k∧k < q+1+ys.length∧k < zs.length
      ·rw [Cd c1,Cd (by omega),show k - q=(k - (q+1))+1 by omega];rfl
      ·rw [C5 c1]
       by_cases c2:q=k
       ·subst c2
        rw [Cd rfl]
        by_cases c3:q < zs.length
        ·rw [Cd c3,Cd (by omega),PA];rfl
        ·rw [C5 c3,C5 (by omega),Pg (by omega)]
       ·rw [C5 c2,C5 (by omega)]
    have ext:∀ {us bs:List CA},us.length=bs.length→(∀ k,k < us.length→us[k]?=bs[k]?)→us=bs:=fun {us bs} hl hk=>Sj fun k=>by
     by_cases c:k < us.length
     ·exact hk k c
     ·rw [Pg (by omega),Pg (by omega)]
    have hzl:(List.take n (List.drop off vs)).length=n:=by rw [CR,Cu];omega
    have hkey:∀ k,k < n→((setL vs o (Jf D tk xs)).drop off |>.take n)[k]?=if o≤off+k∧off+k < o+QX xs then (Jf D tk xs)[off+k - o]? else (Jf D tk ys)[k]?:=by
     intro k hk
     rw [Pd,Cd hk,CY,hin,hx]
     by_cases c:o≤off+k∧off+k < o+QX xs
     ·rw [Cd c,Cd (by omega)]
     ·rw [C5 c,C5 (by omega),← h3,Pd,Cd hk,CY]
    have hlen:((setL vs o (Jf D tk xs)).drop off |>.take n).length=n:=by rw [CR,Cu,Jj];omega
    have hyl:QX ys=n:=by
     have:=congrArg List.length h3
     rw [hzl] at this
     unfold Jf at this
     rw [Cm,Zk hD] at this
     exact this.symm
    cases c1:(Nat.ble (off+n) o||Nat.ble (o+QX xs) off) with
    | true =>
     rw [c1] at h;cases h
     rw [← h3]
     refine ext (by rw [hlen,hzl]) (fun k hk=>?_)
     rw [hlen] at hk
     rw [hkey k hk,h3,C5]
     rcases CM.1 c1 with c | c <;> have:=C3 c <;> omega
    | false =>
     rw [c1,Ce] at h
     cases c2:(Nat.ble o off&&Nat.ble (off+n) (o+QX xs)) with
     | true =>
      rw [c2] at h;cases h
      obtain ⟨a1,a2⟩:=C0.1 c2
      have b1:=C3 a1
      have b2:=C3 a2
      have hel:(Jf D tk (Q5a D xs (off - o) n))=((Jf D tk xs).drop (off - o)).take n:=by unfold Jf;rw [US hD,PZ,PY]
      rw [hel]
      refine ext (by rw [hlen,CR,Cu,hx];omega) (fun k hk=>?_)
      rw [hlen] at hk
      rw [hkey k hk,Cd (by omega),Pd,Cd hk,CY,show off - o+k=off+k - o by omega]
     | false =>
      rw [c2,Ce] at h
      cases c3:(Nat.ble off o&&Nat.ble (o+QX xs) (off+n)) with
      | false=>rw [c3] at h;cases h
      | true =>
       rw [c3] at h;cases h
       obtain ⟨a1,a2⟩:=C0.1 c3
       have b1:=C3 a1
       have b2:=C3 a2
       rw [Qd4 hD tk ys (o - off) xs (by omega)]
       have hyl':(Jf D tk ys).length=n:=by unfold Jf;rw [Cm,Zk hD,hyl]
       refine ext (by rw [hlen,Jj,hyl']) (fun k hk=>?_)
       rw [hlen] at hk
       rw [hkey k hk,hin,hx,hyl']
       by_cases c:o≤off+k∧off+k < o+QX xs
       ·rw [Cd c,Cd (by omega),show k - (o - off)=off+k - o by omega]
       ·rw [C5 c,C5 (by omega)]
end
end
noncomputable section
open Go.RowKit
section
variable {E:Env} {st:St} {d:Option Nat} {ty:TypeId} {pos:String} {af:Array Edge} {g:Option (Nat×Bool)}
def Qqw (s:Qrl):List (List C):=s.map fun b=>[C.v (.int .u8 b.toNat)]
theorem Q9p (s:Qrl):(Qqw s).length=s.length:=Cm ..
theorem strCells_sB (s:Qrl):Lib.strCells (Qpz s)=s.map fun b=>Value.int .u8 b.toNat:=rfl
theorem Q0d {P:Program} {u:TypeId} (h:Jy P u=true):P.underlying u=some .string:=by
 unfold Jy at h
 split at h
 ·rename_i h1;exact h1
 ·cases h
theorem Q1p {V:Vu} {hp:List (Nat×HB)} {tk:List (Nat×Option Tok)} {w:World} (h:HRel E V hp tk w) {t u ty e by_ i:Nat} {v:Value} {es:List (List C)} {s:Qrl} (ht:QW E.P t=some (e,1)) (hu:Jy E.P u=true) (hte:K7 E.P e=some (1,by_))
  (hi:(Qq8 tk i=some (some ⟨e,1,es.length,[]⟩)∧v=V.κ i es.length)∨(i=V.nx∧es=[]∧v=.slice none 0 0)) (hv:Reads V.S w (.sl 1 es) v) (hm:es.length+s.length≤1000000000) (hb:by_≤100000) (h2:s ≠ []) :
  ∃ v' w' gb m V',(Builtin.append_ #[t,u] ty #[v,.string (Qpz s)]).run E.P w=.ok v' w'∧V'=V.tok i (es++Qqw s).length v' gb m∧HRel E V' hp ((i,some ⟨e,1,(es++Qqw s).length,[]⟩)::tk) w'∧V.Le V' w w'∧Reads V'.S w' (.sl 1 (es++Qqw s)) v':=by
 obtain ⟨hut,i1,hi1,hs1⟩:=Je ht
 obtain ⟨i0,z,hi0,hz,hzs,hpos,hsz,hby⟩:=Q0y hte
 have:i1=i0:=Cv (hi1.symm.trans hi0)
 subst this
 have huu:=Q0d hu
 have hlen:(Qqw s).length=s.length:=Q9p s
 have hne:Qqw s ≠ []:=fun e=>h2 (CC (by rw [← hlen,e];rfl))
 have hs0:0 < s.length:=Sb.2 h2
 have hbytes:∀ n,n≤1000000000→n * i1.bytes≤140737488355328:=fun n hn=>by
  rw [hby]
  calc n * by_≤1000000000 * 100000:=Nat.mul_le_mul hn hb
   _≤_:=by omega
 have hss:(Qpz s).size=s.length:=YC s
 refine Q1q (i1:=i1) (us2:=Lib.strCells (Qpz s)) h hzs hsz hi hv ?_ ?_ ?_ (by rw [hlen];exact hm) hne ?_ ?_ ?_
 ·intro e he
  obtain ⟨b,_,rfl⟩:=Cw.1 he
  rfl
 ·rw [Lib.strCells_length,hss,hlen,SH]
 ·intro k c hk
  have e1:(Qqw s).flatten=s.map fun b=>C.v (.int .u8 b.toNat):=by
   unfold Qqw
   clear hm hlen hne hs0 hss h2 hk
   induction s with
   | nil=>rfl
   | cons b s ih =>
    show [C.v (.int .u8 b.toNat)]++(s.map fun b=>[C.v (.int .u8 b.toNat)]).flatten=_
    rw [ih];rfl
  rw [e1,Cl] at hk
  rw [strCells_sB,Cl]
  cases hq:s[k]? with
  | none=>rw [hq] at hk;cases hk
  | some b=>rw [hq] at hk;cases hk;exact ⟨_,rfl,Reads.v _ rfl⟩
 ·rw [hlen]
  have hr:=run_append_nil_string (P:=E.P) w t u ty e i1 z hut huu hi1 hz (Qpz s) (by rw [hss];exact hs0) (by rw [hss];omega) (by rw [hss];have:=hbytes s.length (by omega);omega)
  rw [hss] at hr
  have e1:((Qpz s).data.map fun b=>Value.int .u8 b.toNat)=(Lib.strCells (Qpz s)).toArray:=by
   apply Sg
   simp [Lib.strCells]
  rw [e1] at hr
  exact hr
 ·intro gg n cap cur hg h1c hroom hfit
  rw [hlen] at hroom ⊢
  rw [Lib.strCells_length,hss,SH] at hfit
  have hr:=Lib.run_append_room_string (P:=E.P) w t u ty e i1 hut huu hi1 hsz gg n cap cur hg (Qpz s) (by rw [hss];exact hroom) (by rw [hss];exact hfit)
  rw [hss] at hr
  rw [Lib.strCells_length,hss,SH]
  exact hr
 ·intro gg n cap olds hlo holds hcap hn
  rw [hlen] at hcap hn ⊢
  have hr:=Lib.run_append_grow_string (P:=E.P) w t u ty e i1 z hut huu hi1 hz ⟨gg,0,none⟩ n cap olds (by rw [hsz];exact hlo) holds (Qpz s) (by rw [hss];exact hcap) (by rw [hss];omega) (by rw [hss];exact growslice_fits (by omega) (hbytes _ hn))
  rw [hss] at hr
  exact hr
theorem Qce {P:Program} {w:World} {t u ty e:Nat} {i:TypeInfo} (ht:P.underlying t=some (.slice e)) (hu:P.underlying u=some .string) (hi:P.info? e=some i) (hs:i.size=1) (v:Value) (a:Option Addr) (n c:Nat) (hv:v=.slice a n c) (hn:n≤c) :
  (Builtin.append_ #[t,u] ty #[v,.string (Qpz [])]).run P w=.ok v w:=by
 subst hv
 have h0:(Qpz []).size=0:=rfl
 have hf:=Lib.run_firstCells_string (P:=P) w 1 (Qpz [])
 rw [h0] at hf
 cases a <;> simp [Builtin.append_,run_underlying ht,run_underlying hu,sizeOf,typeInfo,hi,hs,Builtin.lenOf,h0,hn,hf,storeCells,show Lib.strCells (Qpz [])=[] from rfl]
theorem OpOK.appendSE {t u e by_ i:Nat} {o1 o2:Operand} {es:List (List C)} {s:Qrl} (ht:QW E.P t=some (e,1)) (hu:Jy E.P u=true) (hte:K7 E.P e=some (1,by_)) (hb:Nat.ble by_ 100000=true)
  (h1:ev st.tm o1=some (.v (.one (.app i 1 es)))) (hi:Qq8 st.tk i=some (some ⟨e,1,es.length,[]⟩)) (h2:ev st.tm o2=some (Qr5 s)) (hm:Nat.ble (es.length+s.length) 1000000000=true) :
  OpOK E ⟨d,.call { callee:=.builtin .append,args:=#[o1,o2],argTypes:=#[t,u]},ty,pos,af,g⟩ st (.v (.one (.app i 1 (es++Qqw s)))) ⟨st.hp,(i,some ⟨e,1,(es++Qqw s).length,[]⟩)::QD i st.tk,st.nx⟩:=by
 intro V a w hr ro n K Q hK
 refine ⟨fun _ _=>trivial,?_⟩
 rw [Oper.semAt_eq _ _ _ (by intro c h;cases h)]
 have r1:=hr.ev h1
 have r2:=QT (hr.ev h2)
 have hexec:∀ v' w',(Builtin.append_ #[t,u] ty #[a.eval o1,a.eval o2]).run E.P w=.ok v' w'→(execOp a.eval ⟨d,.call { callee:=.builtin .append,args:=#[o1,o2],argTypes:=#[t,u]},ty,pos,af,g⟩).run E.P w=.ok (.value v') w':=fun v' w' h=>by
  simp [execOp,resolve,invoke,builtin,h]
 by_cases h0:s=[]
 ·subst h0
  obtain ⟨hut,i1,hi1,hs1⟩:=Je ht
  obtain ⟨-,a1,cap1,b1,off1,us1,e1,hc1,-⟩:=r1.2.2.2.row
  have:=Qce (w:=w) (ty:=ty) hut (Q0d hu) hi1 hs1 (a.eval o1) a1 _ cap1 e1 hc1
  rw [hexec (a.eval o1) w (by rw [r2];exact this)]
  have hl:∀ j,Qq8 ((i,some (Tok.mk e 1 (es++Qqw []).length []))::QD i st.tk) j=Qq8 st.tk j:=fun j=>by
   rw [Jo,Q1,show es++Qqw []=es from Cy es];split
   ·rename_i e3;subst e3;exact hi.symm
   ·rfl
  refine hK V w _ (hr.h.congr (fun _=>rfl) hl) hr.nx (Vu.Le.refl _ _) ?_
  rw [show es++Qqw []=es from Cy es];exact r1
 ·have hle:=C3 hm
  obtain ⟨v',w',gb,m,V',hrun,rfl,H,L,hrd⟩:=Q1p (ty:=ty) (s:=s) hr.h ht hu hte (.inl ⟨hi,r1.2.2.1⟩) r1.2.2.2 hle (C3 hb) h0
  rw [hexec v' w' (by rw [r2];exact hrun)]
  have hlt:i < V.nx:=r1.1
  have hnx:(V.tok i (es++Qqw s).length v' gb m).nx=st.nx:=by show max V.nx (i+1)=st.nx;rw [← hr.nx];omega
  refine hK _ w' _ (H.congr (fun _=>rfl) (fun j=>Jo i _ st.tk j)) hnx L ?_
  exact ⟨Cj hlt L.nx,by rw [tok_cu];exact Ck _,by rw [Yi],hrd⟩
theorem OpOK.appendSNil {t u e by_:Nat} {o1 o2:Operand} {s:Qrl} (ht:QW E.P t=some (e,1)) (hu:Jy E.P u=true) (hte:K7 E.P e=some (1,by_)) (hb:Nat.ble by_ 100000=true)
  (h1:ev st.tm o1=some (KB (.slice none 0 0))) (h2:ev st.tm o2=some (Qr5 s)) (hm:Nat.ble s.length 1000000000=true) :
  OpOK E ⟨d,.call { callee:=.builtin .append,args:=#[o1,o2],argTypes:=#[t,u]},ty,pos,af,g⟩ st (.v (.one (.app st.nx 1 (Qqw s)))) ⟨st.hp,(st.nx,some ⟨e,1,(Qqw s).length,[]⟩)::st.tk,st.nx+1⟩:=by
 intro V a w hr ro n K Q hK
 refine ⟨fun _ _=>trivial,?_⟩
 rw [Oper.semAt_eq _ _ _ (by intro c h;cases h)]
 have r1:=QT (hr.ev h1)
 have r2:=QT (hr.ev h2)
 have hexec:∀ v' w',(Builtin.append_ #[t,u] ty #[a.eval o1,a.eval o2]).run E.P w=.ok v' w'→(execOp a.eval ⟨d,.call { callee:=.builtin .append,args:=#[o1,o2],argTypes:=#[t,u]},ty,pos,af,g⟩).run E.P w=.ok (.value v') w':=fun v' w' h=>by
  simp [execOp,resolve,invoke,builtin,h]
 by_cases h0:s=[]
 ·subst h0
  obtain ⟨hut,i1,hi1,hs1⟩:=Je ht
  have:=Qce (w:=w) (ty:=ty) hut (Q0d hu) hi1 hs1 (.slice none 0 0) none 0 0 rfl (Ck _)
  rw [hexec _ w (by rw [r1,r2];exact this)]
  obtain ⟨H,L⟩:=hr.h.tokNil e 1
  refine hK _ w _ (by dsimp only;rw [← hr.nx];exact H) (by show max V.nx (V.nx+1)=st.nx+1;rw [hr.nx];omega) L ?_
  rw [← hr.nx];exact K5 e 1
 ·have hle:=C3 hm
  have hnil:Reads V.S w (.sl 1 []) (.slice none 0 0):=(SlOf.nil 1).reads (V:=V) (Reads.v _ rfl)
  obtain ⟨v',w',gb,m,V',hrun,rfl,H,L,hrd⟩:=Q1p (ty:=ty) (i:=V.nx) (es:=[]) (s:=s) hr.h ht hu hte (.inr ⟨rfl,rfl,rfl⟩) hnil (by simpa using hle) (C3 hb) h0
  rw [hexec v' w' (by rw [r1,r2];exact hrun)]
  simp only [CU] at H L hrd
  refine hK _ w' _ (by rw [← hr.nx];exact H) (by show max V.nx (V.nx+1)=st.nx+1;rw [hr.nx];omega) L ?_
  rw [← hr.nx]
  exact ⟨Cj (Ct _) (PQ _ _),by rw [tok_cu];exact Ck _,by rw [Yi],hrd⟩
end
end
noncomputable section
open Go.RowKit
section
variable {E:Env} {st:St} {d:Option Nat} {ty:TypeId} {pos:String} {af:Array Edge} {g:Option (Nat×Bool)}
theorem Qav {P:Program} {e:TypeId} (h:Jd P e=some (false,1)) {vs:Array Value} {k:Nat} {u:Value} (hu:vs[k]?=some u) (w:World):(part e vs k).run P w=.ok u w:=by
 obtain ⟨h4,h5⟩:=Zy h w
 simp [part,h4,h5,hu]
theorem RO.fieldV {s f k:Nat} {x:Operand} {xs:List CA} {c:CA} (ht:Qi0 E.P s f=some k) (hx:ev st.tm x=some (.v (.agg xs))) (hc:xs[k]?=some c):RO E ⟨d,.field s x f,ty,pos,af,g⟩ st (.v (.one c)):=by
 refine ⟨(fun _ h=>nomatch h),fun V a w hr=>?_⟩
 obtain ⟨vs,h1,h2,h3⟩:=hr.ev hx
 obtain ⟨u,h4,h5⟩:=h3 k c hc
 refine ⟨u,?_,h5⟩
 unfold Qi0 at ht
 split at ht
 ·rename_i fs hu
  split at ht
  ·rename_i fd hf
   split at ht
   ·rename_i ha;cases ht
    simp [execOp,Instr.field,run_underlying hu,hf,h1,asAgg,Qav ha h4]
   ·cases ht
  ·cases ht
 ·cases ht
theorem RO.indexV {t n k:Nat} {x y:Operand} {xs:List CA} {c:CA} {m:Int} {kk:IntKind} (ht:Qi1 E.P t=some n) (hx:ev st.tm x=some (.v (.agg xs))) (hy:ev st.tm y=some (KB (.int kk m))) (hm:m=(k:Int)) (hk:k < n) (hc:xs[k]?=some c):RO E ⟨d,.index t x y,ty,pos,af,g⟩ st (.v (.one c)):=by
 refine ⟨(fun _ h=>nomatch h),fun V a w hr=>?_⟩
 subst hm
 obtain ⟨vs,h1,h2,h3⟩:=hr.ev hx
 obtain ⟨u,h4,h5⟩:=h3 k c hc
 refine ⟨u,?_,h5⟩
 unfold Qi1 at ht
 split at ht
 ·rename_i n' e hu
  split at ht
  ·rename_i ha;cases ht
   have h6:(k:Int) < (n:Int):=by omega
   have h7:¬ n≤k:=by omega
   obtain ⟨h8,h9⟩:=Zy ha w
   simp [execOp,Instr.index,h1,QT (hr.ev hy),asIntOf,run_underlying hu,h6,h7,h9,Qav ha h4]
  ·cases ht
 ·cases ht
theorem RO.makeI {T:TypeId} {x:Operand} {us:List Value} (ht:Qa9 E.P T=true) (hx:ev st.tm x=some (.v (.agg (us.map fun u=>.d (.v u))))):RO E ⟨d,.makeInterface T x,ty,pos,af,g⟩ st (KB (.iface T (.agg us.toArray))):=by
 refine ⟨(fun _ h=>nomatch h),fun V a w hr=>⟨_,?_,J4 Z⟩⟩
 obtain ⟨vs,h1,h2,h3⟩:=hr.ev hx
 have e2:vs=us.toArray:=by
  apply Sg
  rw [Cm] at h2
  apply Sj
  intro k
  by_cases hk:k < us.length
  ·obtain ⟨u,h4,h5⟩:=h3 k (.d (.v us[k])) (by rw [Cl,Cp hk];rfl)
   have e1:u=us[k]:=by cases h5;rfl
   rw [Pt,h4,e1,Cp hk]
  ·rw [Pg (by rw [Po,h2];omega)]
   exact (Pg (by show us.length≤k;omega)).symm
 unfold Qa9 at ht
 split at ht
 ·rename_i fs hu
  simp [execOp,Instr.makeInterface,run_underlying hu,h1,e2]
 ·cases ht
theorem RO.assertI {T t:TypeId} {x:Operand} {us:List Value} (ht:Qa9 E.P T=true) (hx:ev st.tm x=some (KB (.iface T (.agg us.toArray)))) (ho:(us.all fun u=>u.oneCell')=true):RO E ⟨d,.typeAssert x t T true,ty,pos,af,g⟩ st (.tup [.agg (us.map fun u=>.d (.v u)),.one (.d (.v (.bool true)))]):=by
 refine ⟨(fun _ h=>nomatch h),fun V a w hr=>⟨.tuple #[.agg us.toArray,.bool true],?_,_,Z,Z,fun k y hk=>?_⟩⟩
 ·unfold Qa9 at ht
  split at ht
  ·rename_i fs hu
   simp [execOp,Instr.typeAssert,run_underlying hu,QT (hr.ev hx)]
  ·cases ht
 ·match k,hk with
  | 0,hk =>
   cases hk
   refine ⟨_,rfl,_,rfl,by simp,fun j c hj=>?_⟩
   rw [Cl] at hj
   cases hq:us[j]? with
   | none=>rw [hq] at hj;cases hj
   | some u =>
    rw [hq] at hj;cases hj
    exact ⟨u,by simpa using hq,Reads.v _ (Cf.1 ho u (Cs hq))⟩
  | 1,hk=>cases hk;exact ⟨_,rfl,Reads.v _ rfl⟩
theorem tyIfc_spec {P:Program} {t:TypeId} (h:Q5o P t=true):∃ m,P.underlying t=some (.interface m):=by
 unfold Q5o at h
 split at h
 ·rename_i m h1;exact ⟨m,h1⟩
 ·cases h
def Uy:Value→Option Bool
 | .nilIface=>some true
 | .iface _ _=>some false
 | _=>none
theorem Qgg {P:Program} {t:TypeId} (h:Q5o P t=true) {v:Value} {b:Bool} (hv:Uy v=some b) (w:World):(Op.equal t v .nilIface).run P w=.ok b w:=by
 obtain ⟨m,hm⟩:=tyIfc_spec h
 unfold Uy at hv
 unfold Op.equal
 rw [show Op.maxDepth=(Op.maxDepth - 1)+1 from rfl]
 unfold Op.equalIn
 split at hv <;> cases hv <;> simp [run_underlying hm]
theorem RO.eqI {t t':TypeId} {x:Operand} {v:Value} {b:Bool} (ht:Q5o E.P t=true) (hx:ev st.tm x=some (KB v)) (hv:Uy v=some b):RO E ⟨d,.binOp .eql t x (.const .nilIface) t',ty,pos,af,g⟩ st (Qr7 b):=by
 refine ⟨(fun _ h=>nomatch h),fun V a w hr=>⟨.bool b,?_,J4 Z⟩⟩
 have e:=Qgg ht hv w
 have e0:a.eval (.const .nilIface)=.nilIface:=rfl
 simp only [execOp,QT (hr.ev hx),e0,eqGuard,binOp,Sem.run_bind]
 unfold Uy at hv
 split at hv <;> cases hv <;> simp [e]
theorem RO.neI {t t':TypeId} {x:Operand} {v:Value} {b:Bool} (ht:Q5o E.P t=true) (hx:ev st.tm x=some (KB v)) (hv:Uy v=some b):RO E ⟨d,.binOp .neq t x (.const .nilIface) t',ty,pos,af,g⟩ st (Qr7 (!b)):=by
 refine ⟨(fun _ h=>nomatch h),fun V a w hr=>⟨.bool (!b),?_,J4 Z⟩⟩
 have e:=Qgg ht hv w
 have e0:a.eval (.const .nilIface)=.nilIface:=rfl
 simp only [execOp,QT (hr.ev hx),e0,eqGuard,binOp,Sem.run_bind]
 unfold Uy at hv
 split at hv <;> cases hv <;> simp [e]
end
end
noncomputable section
open Go.RowKit
structure BytOf (U:Univ) where
 t:U.T
 bs:Qrl→List (U.R t)
 sz:(U.E t).sz=1
 ok:∀ (l:List (U.R t)) s,(U.E t).encL (l++bs s)=(U.E t).encL l++Qqw s
 sb:List (U.R t)→Qrl
 back:∀ l,∃ l':List Byt,(U.E t).encL l=Enc.encL l'∧sb l=l'.map Byt.u8
structure TCfg (U:Univ) where
 T:Tables
 cd:List (Nat×U.T)
 bt:Option (BytOf U)
section
variable {U:Univ}
instance (t:U.T):Enc (U.R t):=U.E t
def Ub:Value→TC U
 | .string s=>.str s.data.toList
 | v=>.v v
theorem UP (v:Value):(Ub (U:=U) v).er=.v v:=by
 cases v <;> first | rfl | (rename_i s;show C.v (.string (Qpz s.data.toList))=_;rw [Qlq])
def YD (tm:List (Nat×TTV U)):Operand→Option (TTV U)
 | .tmp t=>Qq8 tm t
 | .const v=>cond v.oneCell' (some (.v (.one (.c (Ub v))))) (match v with
  | .agg us=>cond (us.toList.all fun u=>u.oneCell') (some (.v (.agg (us.toList.map fun u=>.one (.c (Ub u)))))) none
  | _=>none)
 | .func f=>some (.v (.one (.fn f [])))
 | .global _=>none
variable {D:Codec U}
theorem WH {α:Type} (f:α→TA U) (l:List α):Y0 D (l.map fun u=>It.one (f u))=l.map f:=by
 have:=Ky (D:=D) (l.map f)
 unfold Qb5 at this
 rw [CI] at this
 exact this
theorem evT_ok {tk:List (Nat×TTok U)} {tm:List (Nat×TTV U)} {o:Operand} {x:TTV U} (h:YD tm o=some x):ev (QI (TTV.er D tk) tm) o=some (x.er D tk):=by
 cases o with
 | tmp t =>
  show Qq8 (QI (TTV.er D tk) tm) t=_
  have h':Qq8 tm t=some x:=h
  rw [QN,h'];rfl
 | const v =>
  simp only [YD] at h
  simp only [ev]
  cases hv:v.oneCell' with
  | true =>
   rw [hv,C6] at h;cases h
   show some (TV.v (.one (.d (.v v))))=some (TV.v (.one (.d (Ub (U:=U) v).er)))
   rw [UP]
  | false =>
   rw [hv,Ce] at h
   rw [Ce]
   split at h
   ·rename_i us
    cases ha:us.toList.all fun u=>u.oneCell' with
    | false=>rw [ha] at h;cases h
    | true =>
     rw [ha] at h;cases h
     dsimp only
     rw [ha,C6]
     show some (TV.v (.agg (us.toList.map fun u=>.d (.v u))))=some (TV.v (.agg ((Y0 D _).map (TA.er tk))))
     rw [WH,CI]
     congr 3
     refine Cx fun u _=>?_
     show CA.d (.v u)=CA.d (Ub (U:=U) u).er
     rw [UP]
   ·cases h
 | func f=>cases h;rfl
 | global g=>cases h
variable (U) in
inductive RdR where
 | val (x:TTV U)
 | grd (g:Bool) (x:TTV U)
 | ix {α:Type} (o:Option α) (f:α→TTV U)
def RdR.run {β:Type} (k:TTV U→Option β):RdR U→Option β
 | .val x=>k x
 | .grd g x=>Q7 g (k x)
 | .ix o f=>Option.bind o fun a=>k (f a)
variable (D) in
def RdOK (E:Env) (o:Oper) (st:TSt U):RdR U→Prop
 | .val x=>RO E o (st.er D) (x.er D st.m.tk)
 | .grd g x=>g=true→RO E o (st.er D) (x.er D st.m.tk)
 | .ix oo f=>∀ a,oo=some a→RO E o (st.er D) ((f a).er D st.m.tk)
def Gg (a b:U.T) (l:List (U.R a)):Option (List (U.R b)):=match U.eq a b with
 | some ⟨h⟩=>some (h▸l)
 | none=>none
def G5 (tk:List (Nat×TTok U)) (t:U.T):TTV U→Option (List (U.R t))
 | .v (.one (.c (.sl t' l)))=>Gg t' t l
 | .v (.one (.c (.v (.slice none 0 0))))=>some []
 | .v (.one (.app i ver))=>match cur tk i ver with
  | some T=>Gg T.t t T.l
  | none=>none
 | _=>none
theorem YU {a b:U.T} {l:List (U.R a)} {l':List (U.R b)} (h:Gg a b l=some l'):∃ e:a=b,l'=e▸l:=by
 unfold Gg at h
 split at h
 ·rename_i e _;cases h;exact ⟨e,rfl⟩
 ·cases h
theorem Xp {tk:List (Nat×TTok U)} {t:U.T} {x:TTV U} {l:List (U.R t)} (h:G5 tk t x=some l):∃ y,x.er D tk=.v (.one y)∧SlE y l:=by
 unfold G5 at h
 split at h
 ·obtain ⟨e,rfl⟩:=YU h
  subst e
  exact ⟨_,Z,.d _⟩
 ·cases h;exact ⟨_,rfl,.nil⟩
 ·rename_i i ver
  split at h
  ·rename_i T hT
   obtain ⟨e,rfl⟩:=YU h
   subst e
   refine ⟨_,Z,?_⟩
   show SlE (match cur tk i ver with
    | some T=>CA.app i (U.E T.t).sz ((U.E T.t).encL T.l)
    | none=>.any) _
   rw [hT]
   exact .app i T.l
  ·cases h
 ·cases h
variable (C:TCfg U)
def Qhe (t:TypeId):Option (TypeId×U.T):=match Qq8 C.T.sl t with
 | some (e,sz)=>match Qq8 C.cd e with
  | some tc=>cond (Nat.beq sz (U.E tc).sz) (some (e,tc)) none
  | none=>none
 | none=>none
theorem Uc {C:TCfg U} {P:Program} (hT:C.T.OK P) {t e:TypeId} {tc:U.T} (h:Qhe C t=some (e,tc)):QW P t=some (e,Enc.sz (U.R tc)):=by
 unfold Qhe at h
 split at h
 ·rename_i e' sz hs
  split at h
  ·rename_i tc' hc
   cases hb:Nat.beq sz (U.E tc').sz with
   | false=>rw [hb] at h;cases h
   | true =>
    rw [hb] at h;cases h
    have:=hT.sl.get hs
    rw [C4 hb] at this
    exact this
  ·cases h
 ·cases h
variable (D)
def Qcy:Option (TTV U)→Option (IntKind×Int)
 | some (.v (.one (.c (.v (.int k a)))))=>some (k,a)
 | _=>none
def Q1w:Option (TTV U)→Option Int
 | some (.v (.one (.c (.v (.int .i64 a)))))=>some a
 | _=>none
def Qpv (b:Bool):TTV U:=.v (.one (.c (.v (.bool b))))
def Qpu (k:IntKind) (a:Int):TTV U:=.v (.one (.c (.v (.int k a))))
def Qpt (s:Qrl):TTV U:=.v (.one (.c (.str s)))
def Qfa (xs:List (It U)):Option (Int×Int):=match Y0 D xs with
 | [.c (.v (.int .i64 a)),.c (.v (.int .i64 b))]=>some (a,b)
 | _=>none
def Qn4 (st:TSt U) (op:BinOp) (t:TypeId) (x y:Operand):Option (RdR U) :=
 match YD st.tm x,YD st.tm y with
 | some (.v (.one (.c (.v (.int k a))))),some (.v (.one (.c (.v (.int k' b)))))=>match op with
  | .rem=>cond (decide (k=k')) (some (.grd (!(b==0)) (Qpu k (a.tmod b)))) none
  | op=>match Q3y op k a k' b with
   | some v=>some (.val (.v (.one (.c (.v v)))))
   | none=>none
 | some (.v (.one (.c (.str a)))),some (.v (.one (.c (.str b))))=>match op with
  | .add=>some (.grd (Nat.ble (a.length+b.length) 1000000000) (Qpt (a++b)))
  | .eql=>some (.val (Qpv (a==b)))
  | .neq=>some (.val (Qpv (!(a==b))))
  | _=>none
 | some (.v (.one (.c (.v (.bool a))))),some (.v (.one (.c (.v (.bool b)))))=>match Qq8 C.T.bools t,op with
  | some _,.eql=>some (.val (Qpv (a==b)))
  | some _,.neq=>some (.val (Qpv (!(a==b))))
  | _,_=>none
 | some (.v (.one (.c (.v v)))),some (.v (.one (.c (.v .nilIface))))=>match y,Qq8 C.T.ifc t,Uy v,op with
  | .const .nilIface,some _,some b,.eql=>some (.val (Qpv b))
  | .const .nilIface,some _,some b,.neq=>some (.val (Qpv (!b)))
  | _,_,_,_=>none
 | some (.v (.agg xs)),some (.v (.agg ys))=>match Qq8 C.T.pairs t,Qfa D xs,Qfa D ys,op with
  | some _,some a,some b,.eql=>some (.val (Qpv ((a.1==b.1)&&(a.2==b.2))))
  | some _,some a,some b,.neq=>some (.val (Qpv (!((a.1==b.1)&&(a.2==b.2)))))
  | _,_,_,_=>none
 | _,_=>none
def Qp7 (st:TSt U) (op:UnOp) (x:Operand):Option (RdR U) :=
 match op,YD st.tm x with
 | .not,some (.v (.one (.c (.v (.bool b)))))=>some (.val (Qpv (!b)))
 | .neg,some (.v (.one (.c (.v (.int k m)))))=>some (.val (Qpu k (k.wrap (0 - m))))
 | _,_=>none
def Qdw (st:TSt U) (s:TypeId) (x:Operand) (f:Nat):Option (RdR U) :=
 match Qq8 C.T.fld s with
 | none=>none
 | some fs=>match Qq8 fs f with
  | none=>none
  | some k=>match YD st.tm x with
   | some (.v (.one (.ptr i off)))=>some (.val (.v (.one (.ptr i (off+k)))))
   | some (.v (.one (.pel t e off)))=>some (.val (.v (.one (.pel t e (off+k)))))
   | _=>none
def Q06 (st:TSt U) (t:TypeId) (x:Operand):Option (RdR U) :=
 match Qq8 C.T.agg t with
 | none=>none
 | some (ag,n)=>match YD st.tm x with
  | some (.v (.one (.ptr i off)))=>match ag with
   | false=>match WZ D st.m.es i off 1 with
    | some [.one y]=>some (.val (.v (.one y)))
    | some [.grp t v]=>match D.fl t v with
     | [y]=>some (.val (.v (.one (.c y))))
     | _=>none
    | _=>none
   | true=>match WZ D st.m.es i off n with
    | some xs=>some (.val (.v (.agg xs)))
    | none=>none
  | some (.v (.one (.pel tc e off)))=>match ag with
   | false=>match (D.fl tc e)[off]? with
    | some c=>some (.val (.v (.one (.c c))))
    | none=>none
   | true=>cond (Nat.ble (off+n) (U.E tc).sz) (some (.val (.v (.agg (Q5a D [.grp tc e] off n))))) none
  | _=>none
def Q0g (st:TSt U) (t:TypeId) (x y:Operand):Option (RdR U) :=
 match Qhe C t,YD st.tm x,Qcy (YD st.tm y) with
 | some (_,tc),some xv,some (_,m)=>match G5 st.m.tk tc xv with
  | some l=>some (.ix (J0 l m) fun v=>.v (.one (.pel tc v 0)))
  | none=>none
 | _,_,_=>none
def Q82:List (TA U)→Option (List Qrl)
 | []=>some []
 | .c (.str s)::r=>match Q82 r with
  | some l=>some (s::l)
  | none=>none
 | _=>none
def Q0f (st:TSt U) (t:TypeId) (x y:Operand):Option (RdR U) :=
 match Qq8 C.T.strs t,YD st.tm x,Qcy (YD st.tm y) with
 | some _,some (.v (.one (.c (.str s)))),some (_,m)=>some (.ix (J0 s m) fun b=>Qpu .u8 b.toNat)
 | _,some (.v (.agg xs)),some (_,m)=>match Qq8 C.T.ars t,Q82 (Y0 D xs) with
  | some n,some l=>cond (Nat.beq l.length n) (some (.ix (J0 l m) fun s=>Qpt s)) none
  | _,_=>none
 | _,_,_=>none
def Q4f (st:TSt U) (x:Operand) (k:Nat):Option (RdR U) :=
 match YD st.tm x with
 | some (.tup xs)=>match xs[k]? with
  | some y=>some (.val (.v y))
  | none=>none
 | _=>none
def TAV.items:TAV U→List (It U)
 | .one x=>[.one x]
 | .agg xs=>xs
def Q3a (tm:List (Nat×TTV U)):List (Nat×Operand)→Option (List (Nat×TAV U))
  | []=>some []
  | (i,o)::os=>match YD tm o,Q3a tm os with
    | some (.v x),some xs=>some ((i,x)::xs)
    | _,_=>none
def Q4c (pl:List (Nat×Nat)):List (It U)→List (Nat×TAV U)→Option (List (It U))
 | xs,[]=>some xs
 | xs,(i,x)::r=>match pl[i]? with
  | none=>none
  | some (off,size)=>cond (Nat.beq (QX x.items) size&&Nat.ble (off+size) (QX xs)) (Q4c pl (Qii D xs off x.items) r) none
def Qe5 (st:TSt U) (t:TypeId) (parts:List (Nat×Operand)):Option (RdR U) :=
 match Qq8 C.T.places t,Qq8 C.T.zero t,Q3a st.tm parts with
 | some pl,some zs,some avs=>match Q4c D pl (zs.map fun z=>.one (.c (Ub z))) avs with
  | some ys=>some (.val (.v (.agg ys)))
  | none=>none
 | _,_,_=>none
def Qf4 (tm:List (Nat×TTV U)):List Operand→Option (List (Nat×Nat))
 | []=>some []
 | o::os=>match YD tm o,Qf4 tm os with
  | some (.v (.one (.ptr i k))),some l=>some ((i,k)::l)
  | _,_=>none
def Qju (st:TSt U) (fn:Go.Fn) (first caps:List Operand):Option (RdR U) :=
 match fn,first,Qf4 st.tm caps with
 | .func f,[],some l=>some (.val (.v (.one (.fn f l))))
 | _,_,_=>none
def Qmm (st:TSt U) (x:Operand):Option (RdR U) :=
 match YD st.tm x with
 | some (.v (.one (.ptr i off)))=>some (.val (.v (.one (.ptr i off))))
 | some (.v (.one (.pel t e off)))=>some (.val (.v (.one (.pel t e off))))
 | _=>none
def Q0p (st:TSt U) (s t:TypeId) (x:Operand):Option (RdR U) :=
 match C.bt,Qq8 C.T.byt s,Qq8 C.T.strs t,YD st.tm x with
 | some B,some _,some _,some xv=>match G5 st.m.tk B.t xv with
  | some l=>some (.val (Qpt (B.sb l)))
  | none=>none
 | _,_,_,_=>none
def Q7c (st:TSt U) (s t:TypeId) (x:Operand):Option (RdR U) :=
 match Qq8 C.T.ints s,Qq8 C.T.ints t,Qcy (YD st.tm x) with
 | some _,some k',some (_,m)=>some (.val (Qpu k' (k'.wrap m)))
 | _,_,_=>Q0p C st s t x
def Qdv (st:TSt U) (s:TypeId) (x:Operand) (f:Nat):Option (RdR U) :=
 match Qq8 C.T.fdv s,YD st.tm x with
 | some fs,some (.v (.agg xs))=>match Qq8 fs f with
  | some k=>match (Y0 D xs)[k]? with
   | some y=>some (.val (.v (.one y)))
   | none=>none
  | none=>none
 | _,_=>none
def Q8f:List (TA U)→Option (List Value)
 | []=>some []
 | .c (.v (.int k a))::r=>match Q8f r with
  | some l=>some (.int k a::l)
  | none=>none
 | _=>none
def Qd8 (st:TSt U) (T:TypeId) (x:Operand):Option (RdR U) :=
 match Qq8 C.T.stc T,YD st.tm x with
 | some _,some (.v (.agg xs))=>match Q8f (Y0 D xs) with
  | some us=>some (.val (.v (.one (.c (.v (.iface T (.agg us.toArray)))))))
  | none=>none
 | _,_=>none
def Q9r (st:TSt U) (x:Operand) (t T:TypeId) (ok:Bool):Option (RdR U) :=
 match ok,Qq8 C.T.stc T,YD st.tm x with
 | true,some _,some (.v (.one (.c (.v (.iface T' (.agg us))))))=>cond (Nat.beq T' T&&us.toList.all fun u=>u.oneCell') (some (.val (.tup [.agg (us.toList.map fun u=>.one (.c (Ub u))),.one (.c (.v (.bool true)))]))) none
 | _,_,_=>none
def Q22 (m:Int) (n:Nat):Bool:=cond (decide (0≤m)) (Nat.ble m.toNat n) false
def DQ (st:TSt U) (t:TypeId) (x:Operand) (lo hi mx:Option Operand):Option (RdR U) :=
 match mx,YD st.tm x with
 | none,some (.v (.one (.c (.str s))))=>match Qq8 C.T.strs t,lo,hi with
  | some _,some a,none=>match Q1w (YD st.tm a) with
   | some m=>some (.grd (Q22 m s.length) (Qpt (s.drop m.toNat)))
   | none=>none
  | some _,none,some b=>match Q1w (YD st.tm b) with
   | some m=>some (.grd (Q22 m s.length) (Qpt (s.take m.toNat)))
   | none=>none
  | some _,some a,some b=>match Q1w (YD st.tm a),Q1w (YD st.tm b) with
   | some m,some n=>some (.grd (cond (decide (0≤m)) (cond (Nat.ble m.toNat n.toNat) (Q22 n s.length) false) false) (Qpt ((s.take n.toNat).drop m.toNat)))
   | _,_=>none
  | _,_,_=>none
 | none,some xv=>match Qhe C t with
  | some (_,tc)=>match G5 st.m.tk tc xv,lo,hi with
   | some l,some a,none=>match Q1w (YD st.tm a) with
    | some m=>some (.grd (Q22 m l.length) (.v (.one (.c (.sl tc (l.drop m.toNat))))))
    | none=>none
   | some l,none,some b=>match Q1w (YD st.tm b) with
    | some m=>some (.grd (Q22 m l.length) (.v (.one (.c (.sl tc (l.take m.toNat))))))
    | none=>none
   | _,_,_=>none
  | none=>none
 | _,_=>none
def Qhj (st:TSt U) (t:TypeId) (x:Operand):Option (RdR U) :=
 match YD st.tm x with
 | some (.v (.one (.c (.str s))))=>match Qq8 C.T.strs t with
  | some _=>some (.val (Qpu .i64 s.length))
  | none=>none
 | some xv=>match Qhe C t with
  | some (_,tc)=>match G5 st.m.tk tc xv with
   | some l=>some (.val (Qpu .i64 l.length))
   | none=>none
  | none=>none
 | none=>none
def GP (st:TSt U) (b:Builtin) (xs:List Operand) (ts:List TypeId):Option (RdR U) :=
 match b,xs,ts with
 | .len,[x],[t]=>Qhj C st t x
 | .max,[x,y],[_,_]=>match Q1w (YD st.tm x),Q1w (YD st.tm y) with
  | some a,some b=>some (.val (Qpu .i64 (max a b)))
  | _,_=>none
 | .min,[x,y],[_,_]=>match Q1w (YD st.tm x),Q1w (YD st.tm y) with
  | some a,some b=>some (.val (Qpu .i64 (min a b)))
  | _,_=>none
 | _,_,_=>none
def Qhz (x:Option (TTV U)):Option (RdR U):=match x with
 | some x=>some (.val x)
 | none=>none
def Ql3 (st:TSt U) (o:Oper):Option (RdR U):=match o.op with
 | .move x=>Qhz (YD st.tm x)
 | .assign x=>Qhz (YD st.tm x)
 | .pick c x y=>match YD st.tm c with
  | some (.v (.one (.c (.v (.bool true)))))=>Qhz (YD st.tm x)
  | some (.v (.one (.c (.v (.bool false)))))=>Qhz (YD st.tm y)
  | _=>none
 | .binOp op t x y _=>Qn4 D C st op t x y
 | .unOp op _ x=>Qp7 st op x
 | .fieldAddr s x f=>Qdw C st s x f
 | .load t x=>Q06 D C st t x
 | .indexAddr t x y=>Q0g C st t x y
 | .index t x y=>Q0f D C st t x y
 | .field s x f=>Qdv D C st s x f
 | .makeInterface T x=>Qd8 D C st T x
 | .typeAssert x t T ok=>Q9r C st x t T ok
 | .extract x k=>Q4f st x k
 | .build t parts=>Qe5 D C st t parts.toList
 | .makeFunc fn first caps=>Qju st fn first.toList caps.toList
 | .nilCheck x=>Qmm st x
 | .convert s t x=>Q7c C st s t x
 | .slice t x lo hi mx=>DQ C st t x lo hi mx
 | .call c=>match c.callee with
  | .builtin b=>GP C st b c.args.toList c.argTypes.toList
  | _=>none
 | _=>none
end
section
variable {U:Univ} {D:Codec U} {C:TCfg U} {E:Env} {st:TSt U} {dd:Option Nat} {ty:TypeId} {pos:String} {af:Array Edge} {g:Option (Nat×Bool)} {r:RdR U}
theorem Yy {o:Operand} {x:TTV U} (h:YD st.tm o=some x):ev (st.er D).tm o=some (x.er D st.m.tk):=evT_ok h
theorem Q2a {x:Option (TTV U)} {k:IntKind} {a:Int} (h:Qcy x=some (k,a)):x=some (Qpu k a):=by
 unfold Qcy at h
 split at h
 ·cases h;rfl
 ·cases h
theorem ZQ {x:Option (TTV U)} {a:Int} (h:Q1w x=some a):x=some (Qpu .i64 a):=by
 unfold Q1w at h
 split at h
 ·cases h;rfl
 ·cases h
theorem Q27 {o:Oper} {x:Option (TTV U)} (h:Qhz x=some r) (hx:∀ y,x=some y→RO E o (st.er D) (y.er D st.m.tk)):RdOK D E o st r:=by
 cases x with
 | none=>cases h
 | some x=>cases h;exact hx x rfl
theorem D3 {xs:List (It U)} {a:Int×Int} (h:Qfa D xs=some a) (tk:List (Nat×TTok U)):Jf D tk xs=[.d (.v (.int .i64 a.1)),.d (.v (.int .i64 a.2))]:=by
 unfold Qfa at h
 split at h
 ·rename_i x y hf;cases h
  unfold Jf
  rw [hf];rfl
 ·cases h
theorem binR_ok (hT:C.T.OK E.P) {op:BinOp} {t t':TypeId} {x y:Operand} (h:Qn4 D C st op t x y=some r):RdOK D E ⟨dd,.binOp op t x y t',ty,pos,af,g⟩ st r:=by
 unfold Qn4 at h
 split at h
 ·rename_i k a k' b hx hy
  have ex:=Yy (D:=D) hx
  have ey:=Yy (D:=D) hy
  split at h
  ·cases hk:decide (k=k') with
   | false=>rw [hk] at h;cases h
   | true =>
    rw [hk] at h;cases h
    have e:=CH hk
    subst e
    exact fun hg=>RO.remI ex ey hg
  ·split at h
   ·rename_i v hv;cases h;exact Qb ex ey hv
   ·cases h
 ·rename_i a b hx hy
  have ex:=Yy (D:=D) hx
  have ey:=Yy (D:=D) hy
  split at h
  ·cases h;exact fun hg=>RO.addS ex ey hg
  ·cases h;exact Qec ex ey
  ·cases h;exact Qkv ex ey
  ·cases h
 ·rename_i a b hx hy
  have ex:=Yy (D:=D) hx
  have ey:=Yy (D:=D) hy
  split at h
  ·rename_i hb;cases h;exact RO.eqBool (hT.bools.get hb) ex ey
  ·rename_i hb;cases h;exact RO.neqBool (hT.bools.get hb) ex ey
  ·cases h
 ·rename_i v hx hy
  have ex:=Yy (D:=D) hx
  split at h
  ·rename_i hi hb;cases h;exact RO.eqI (hT.ifc.get hi) ex hb
  ·rename_i hi hb;cases h;exact RO.neI (hT.ifc.get hi) ex hb
  ·cases h
 ·rename_i xs ys hx hy
  have ex:=Yy (D:=D) hx
  have ey:=Yy (D:=D) hy
  split at h
  ·rename_i a b hp ha hb;cases h
   have e1:(TTV.v (.agg xs):TTV U).er D st.m.tk=.v (.agg [.d (.v (.int .i64 a.1)),.d (.v (.int .i64 a.2))]):=congrArg (fun l=>TV.v (.agg l)) (D3 ha st.m.tk)
   have e2:(TTV.v (.agg ys):TTV U).er D st.m.tk=.v (.agg [.d (.v (.int .i64 b.1)),.d (.v (.int .i64 b.2))]):=congrArg (fun l=>TV.v (.agg l)) (D3 hb st.m.tk)
   rw [e1] at ex
   rw [e2] at ey
   exact RO.eqPair (hT.pairs.get hp) ex ey
  ·rename_i a b hp ha hb;cases h
   have e1:(TTV.v (.agg xs):TTV U).er D st.m.tk=.v (.agg [.d (.v (.int .i64 a.1)),.d (.v (.int .i64 a.2))]):=congrArg (fun l=>TV.v (.agg l)) (D3 ha st.m.tk)
   have e2:(TTV.v (.agg ys):TTV U).er D st.m.tk=.v (.agg [.d (.v (.int .i64 b.1)),.d (.v (.int .i64 b.2))]):=congrArg (fun l=>TV.v (.agg l)) (D3 hb st.m.tk)
   rw [e1] at ex
   rw [e2] at ey
   exact RO.neqPair (hT.pairs.get hp) ex ey
  ·cases h
 ·cases h
theorem unR_ok {op:UnOp} {t:TypeId} {x:Operand} (h:Qp7 st op x=some r):RdOK D E ⟨dd,.unOp op t x,ty,pos,af,g⟩ st r:=by
 unfold Qp7 at h
 split at h
 ·rename_i b hx;cases h;exact Gt (Yy (D:=D) hx)
 ·rename_i k m hx;cases h;exact RO.negI (Yy (D:=D) hx)
 ·cases h
theorem fieldR_ok (hT:C.T.OK E.P) {s f:Nat} {x:Operand} (h:Qdw C st s x f=some r):RdOK D E ⟨dd,.fieldAddr s x f,ty,pos,af,g⟩ st r:=by
 unfold Qdw at h
 split at h
 ·cases h
 ·rename_i fs hfs
  split at h
  ·cases h
  ·rename_i k hk
   have hf:QO E.P s f=some k:=(hT.fld.get hfs).get hk
   split at h
   ·rename_i i off hx;cases h;exact Q2 hf (Yy (D:=D) hx)
   ·rename_i t e off hx;cases h;exact RO.fieldPel hf (Yy (D:=D) hx)
   ·cases h
theorem UQ {α:Type} {ys:List α} {off:Nat} {z:α} (h:(ys.drop off).take 1=[z]):ys[off]?=some z:=by
 have h1:((ys.drop off).take 1)[0]?=some z:=by rw [h];rfl
 rw [Pd,Cd (by omega),CY] at h1
 exact h1
theorem KT (t:U.T) (x:U.R t):Y0 D [.grp t x]=(D.fl t x).map .c:=by
 show (D.fl t x).map TA.c++[]=_
 rw [Cy]
theorem Q74 (hD:D.OK) (tk:List (Nat×TTok U)) (t:U.T) (x:U.R t):((D.fl t x).map TA.c).map (TA.er tk)=((U.E t).enc x).map .d:=by
 rw [← hD.fl t x,CI,CI];rfl
theorem loadRd_ok (hT:C.T.OK E.P) (hD:D.OK) {t:Nat} {x:Operand} (h:Q06 D C st t x=some r):RdOK D E ⟨dd,.load t x,ty,pos,af,g⟩ st r:=by
 unfold Q06 at h
 split at h
 ·cases h
 ·rename_i ag n hag
  have ht:=hT.agg.get hag
  split at h
  ·rename_i i off hx
   have ex:=Yy (D:=D) hx
   split at h
   ·split at h
    ·rename_i y hr;cases h
     obtain ⟨T,ys,h1,h2,h3⟩:=Yj hD (tk:=st.m.tk) hr
     exact Q6 ht ex h1 (UQ h3)
    ·rename_i t' v hr
     split at h
     ·rename_i y hy;cases h
      obtain ⟨T,ys,h1,h2,h3⟩:=Yj hD (tk:=st.m.tk) hr
      have e:Jf D st.m.tk [It.grp t' v]=[(TA.c y).er st.m.tk]:=by unfold Jf;rw [KT,hy];rfl
      rw [e] at h3
      exact Q6 ht ex h1 (UQ h3)
     ·cases h
    ·cases h
   ·split at h
    ·rename_i xs hr;cases h
     obtain ⟨T,ys,h1,h2,h3⟩:=Yj hD (tk:=st.m.tk) hr
     refine JA ht ex h1 h3 ?_
     rw [← h3,CR,Cu];omega
    ·cases h
  ·rename_i tc e off hx
   have ex:=Yy (D:=D) hx
   split at h
   ·split at h
    ·rename_i c hc;cases h
     refine Q53 (e:=(U.E tc).enc e) (c:=c.er) ht ex ?_
     rw [← hD.fl,Cl,hc];rfl
    ·cases h
   ·cases hb:Nat.ble (off+n) (U.E tc).sz with
    | false=>rw [hb] at h;cases h
    | true =>
     rw [hb] at h;cases h
     have hle:=C3 hb
     have:=U8 (E:=E) (d:=dd) (ty:=ty) (pos:=pos) (af:=af) (g:=g) (e:=(U.E tc).enc e) (cs:=(((U.E tc).enc e).drop off).take n) ht ex rfl (by rw [CR,Cu,hD.sz];omega)
     have e1:Jf D st.m.tk (Q5a D [.grp tc e] off n)=((((U.E tc).enc e).drop off).take n).map .d:=by
      unfold Jf
      rw [US hD,KT,PZ,PY,Q74 hD,PZ,PY]
     show RO E _ _ (.v (.agg (Jf D st.m.tk (Q5a D [.grp tc e] off n))))
     rw [e1];exact this
  ·cases h
theorem RO.indexK {E:Env} {st:St} {d:Option Nat} {ty:TypeId} {pos:String} {af:Array Edge} {g:Option (Nat×Bool)} {α:Type} [Enc α] {t:TypeId} {e:Nat} {o i:Operand} {y:CA} {l:List α} {v:α} {m:Int} {kk:IntKind} (ht:QW E.P t=some (e,Enc.sz α)) (hx:ev st.tm o=some (.v (.one y))) (hs:SlE y l)
  (hi:ev st.tm i=some (KB (.int kk m))) (hv:J0 l m=some v):RO E ⟨d,.indexAddr t o i,ty,pos,af,g⟩ st (.v (.one (.pel (Enc.enc v) 0))):=by
 obtain ⟨k,hk,hl⟩:=Qhl hv
 have he:=Enc.get hl
 refine ⟨(fun _ h=>nomatch h),fun V a w hr=>?_⟩
 have h1:=hs.sl.reads (hr.ev hx)
 have h2:=QT (hr.ev hi)
 obtain ⟨hu,i0,hi0,hsz⟩:=Je ht
 have hlt:=(Cg.1 he).1
 subst hk
 generalize hv:a.eval o=v at h1
 cases h1 with
 | sl _ _ aa cap b off f hcap ha hl hc hss hr' =>
  have:=ha (fun e'=>by rw [e'] at he;cases he)
  subst this
  refine ⟨.pointer (some ⟨b,off+k * Enc.sz α,none⟩),?_,b,off+k * Enc.sz α,f k,Z,fun j c hj=>⟨hc k _ j c he hj,hss k _ j c he hj,hr' k _ j c he hj⟩⟩
  simp only [execOp,hv,h2,Instr.indexAt,asIntOf,Sem.run_bind,Sem.run_pure,Result.andThen_ok,run_underlying hu,sizeOf,typeInfo]
  simp [hi0,hsz,Zq,hlt,Sem.run,program]
theorem indexR_ok (hT:C.T.OK E.P) {t:TypeId} {x y:Operand} (h:Q0g C st t x y=some r):RdOK D E ⟨dd,.indexAddr t x y,ty,pos,af,g⟩ st r:=by
 unfold Q0g at h
 split at h
 ·rename_i e tc xv k m hs hx hm
  split at h
  ·rename_i l hl;cases h
   obtain ⟨z,hz,hzl⟩:=Xp (D:=D) hl
   have ex:=Yy (D:=D) hx
   rw [hz] at ex
   exact fun v hv=>RO.indexK (α:=U.R tc) (Uc hT hs) ex hzl (Yy (D:=D) (Q2a hm)) hv
  ·cases h
 ·cases h
theorem Q5r (tk:List (Nat×TTok U)):∀ {l:List (TA U)} {ss:List Qrl},Q82 l=some ss→l.map (TA.er tk)=ss.map fun s=>CA.d (.v (.string (Qpz s)))
 | [],ss,h=>by cases h;rfl
 | x::l,ss,h=>by
  unfold Q82 at h
  split at h
  ·rename_i e;cases e
  ·rename_i s r e;cases e
   split at h
   ·rename_i q hq;cases h
    rw [CF,Q5r tk hq];rfl
   ·cases h
  ·cases h
theorem indexStrR_ok (hT:C.T.OK E.P) {t:TypeId} {x y:Operand} (h:Q0f D C st t x y=some r):RdOK D E ⟨dd,.index t x y,ty,pos,af,g⟩ st r:=by
 unfold Q0f at h
 split at h
 ·rename_i s k m hs hx hm;cases h
  exact fun v hv=>Q9z (hT.strs.get hs) (Yy (D:=D) hx) (Yy (D:=D) (Q2a hm)) hv
 ·rename_i xs k m hx hm
  split at h
  ·rename_i n l hn hl
   cases hb:Nat.beq l.length n with
   | false=>rw [hb] at h;cases h
   | true =>
    rw [hb] at h;cases h
    intro v hv
    obtain ⟨j,hj,hk⟩:=Qhl hv
    have hlt:j < l.length:=(Cg.1 hk).1
    refine RO.indexV (hT.ars.get hn) (Yy (D:=D) hx) (Yy (D:=D) (Q2a hm)) hj (by rw [← C4 hb];exact hlt) (c:=.d (.v (.string (Qpz v)))) ?_
    show ((Y0 D xs).map (TA.er st.m.tk))[j]?=_
    rw [Q5r _ hl,Cl,hk];rfl
  ·cases h
 ·cases h
theorem extractR_ok {x:Operand} {k:Nat} (h:Q4f st x k=some r):RdOK D E ⟨dd,.extract x k,ty,pos,af,g⟩ st r:=by
 unfold Q4f at h
 split at h
 ·rename_i xs hx
  split at h
  ·rename_i y hy;cases h
   exact J8 (Yy (D:=D) hx) (by rw [Cl,hy];rfl)
  ·cases h
 ·cases h
theorem Dv (tk:List (Nat×TTok U)) (x:TAV U):(x.er D tk).cells=Jf D tk x.items:=by
 cases x with
 | one x=>rfl
 | agg xs=>rfl
theorem Zl (hD:D.OK) (tk:List (Nat×TTok U)) (xs:List (It U)):(Jf D tk xs).length=QX xs:=by unfold Jf;rw [Cm,Zk hD]
theorem Q4b (hD:D.OK) {tk:List (Nat×TTok U)} {pl:List (Nat×Nat)}:∀ {avs:List (Nat×TAV U)} {xs ys:List (It U)},Q4c D pl xs avs=some ys→KU pl (Jf D tk xs) (avs.map fun p=>(p.1,p.2.er D tk))=some (Jf D tk ys)
  | [],xs,ys,h=>by cases h;rfl
  | (i,x)::avs,xs,ys,h=>by
    unfold Q4c at h
    rw [CF]
    unfold KU
    split at h
    · cases h
    · rename_i off size hp
      rw [hp]
      dsimp only
      rw [Dv,Zl hD,Zl hD]
      cases hb:(Nat.beq (QX x.items) size&&Nat.ble (off+size) (QX xs)) with
      | false=>rw [hb] at h;cases h
      | true =>
        rw [hb,C6] at h
        rw [C6]
        obtain ⟨b1,b2⟩:=C0.1 hb
        have e1:=C4 b1
        have e2:=C3 b2
        rw [← Qd4 hD tk xs off x.items (by omega)]
        exact Q4b hD h
theorem DU:∀ {parts:List (Nat×Operand)} {avs:List (Nat×TAV U)},Q3a st.tm parts=some avs→parts.length=avs.length∧∀ (j i:Nat) (x:AV),(avs.map fun p=>(p.1,p.2.er D st.m.tk))[j]?=some (i,x)→∃ o,parts[j]?=some (i,o)∧ev (st.er D).tm o=some (.v x)
  | [],avs,h=>by cases h;exact ⟨rfl,fun j i x hx=>by simp at hx⟩
  | (i0,o0)::parts,avs,h=>by
    unfold Q3a at h
    split at h
    · rename_i x0 xs hx0 hxs
      cases h
      obtain ⟨h1,h2⟩:=DU hxs
      refine ⟨by rw [C2,C2,h1],fun j i x hx=>?_⟩
      cases j with
      | zero =>
        cases hx
        exact ⟨o0,Z,Yy (D:=D) hx0⟩
      | succ j=>exact h2 j i x hx
    · cases h
theorem Qef (tk:List (Nat×TTok U)) (zs:List Value):Jf D tk (zs.map fun z=>.one (.c (Ub z)))=zs.map fun z=>.d (.v z):=by
 unfold Jf
 rw [WH,CI]
 refine Cx fun z _=>?_
 show CA.d (Ub (U:=U) z).er=_
 rw [UP]
theorem buildR_ok (hT:C.T.OK E.P) (hD:D.OK) {t:TypeId} {parts:Array (Nat×Operand)} (h:Qe5 D C st t parts.toList=some r):RdOK D E ⟨dd,.build t parts,ty,pos,af,g⟩ st r:=by
 unfold Qe5 at h
 split at h
 ·rename_i pl zs avs hp hz ha
  split at h
  ·rename_i ys hy;cases h
   obtain ⟨h1,h2⟩:=DU (D:=D) ha
   have hf:=Q4b hD (tk:=st.m.tk) hy
   rw [Qef] at hf
   exact X0 ⟨hT.places.get hp,(hT.zero.get hz).1⟩ (hT.zero.get hz).2 (by rw [h1,Cm]) h2 hf
  ·cases h
 ·cases h
theorem Qaq:∀ {os:List Operand} {l:List (Nat×Nat)},Qf4 st.tm os=some l→os.length=l.length∧∀ (k:Nat) (p:Nat×Nat),l[k]?=some p→∃ o,os[k]?=some o∧ev (st.er D).tm o=some (.v (.one (.ptr p.1 p.2)))
 | [],l,h=>by cases h;exact ⟨rfl,fun k p hp=>by simp at hp⟩
 | o::os,l,h=>by
  unfold Qf4 at h
  split at h
  ·rename_i i k l' ho hl
   cases h
   obtain ⟨h1,h2⟩:=Qaq hl
   refine ⟨by rw [C2,C2,h1],fun j p hp=>?_⟩
   cases j with
   | zero=>cases hp;exact ⟨o,rfl,Yy (D:=D) ho⟩
   | succ j=>exact h2 j p hp
  ·cases h
theorem funcR_ok {fn:Go.Fn} {first caps:Array Operand} (h:Qju st fn first.toList caps.toList=some r):RdOK D E ⟨dd,.makeFunc fn first caps,ty,pos,af,g⟩ st r:=by
 unfold Qju at h
 split at h
 ·rename_i f l hf hl;cases h
  obtain ⟨h1,h2⟩:=Qaq (D:=D) hl
  have e:first=#[]:=by
   apply Sg
   exact hf
  subst e
  exact Wt (by simpa using h1) (fun k p hp=>let ⟨o,a,b⟩:=h2 k p hp;⟨o,by simpa using a,b⟩)
 ·cases h
theorem nilR_ok {x:Operand} (h:Qmm st x=some r):RdOK D E ⟨dd,.nilCheck x,ty,pos,af,g⟩ st r:=by
 unfold Qmm at h
 split at h
 ·rename_i hx;cases h;exact Qe (Yy (D:=D) hx)
 ·rename_i hx;cases h;exact RO.nilCheckPel (Yy (D:=D) hx)
 ·cases h
theorem bytesR_ok (hT:C.T.OK E.P) {s t:TypeId} {x:Operand} (h:Q0p C st s t x=some r):RdOK D E ⟨dd,.convert s t x,ty,pos,af,g⟩ st r:=by
 unfold Q0p at h
 split at h
 ·rename_i B u1 u2 xv hB hs ht hx
  split at h
  ·rename_i l hl;cases h
   obtain ⟨z,hz,hzl⟩:=Xp (D:=D) hl
   have ex:=Yy (D:=D) hx
   rw [hz] at ex
   obtain ⟨l',e1,e2⟩:=B.back l
   have hso:SlOf z 1 (Enc.encL l'):=by
    have:=hzl.sl
    rw [show Enc.encL l=(U.E B.t).encL l from rfl,e1] at this
    rw [← B.sz];exact this
   have:=RO.bytesO (E:=E) (d:=dd) (ty:=ty) (pos:=pos) (af:=af) (g:=g) (hT.byt.get hs) (hT.strs.get ht) ex hso
   show RO E _ _ (Qr5 (B.sb l))
   rw [e2];exact this
  ·cases h
 ·cases h
theorem convR_ok (hT:C.T.OK E.P) {s t:TypeId} {x:Operand} (h:Q7c C st s t x=some r):RdOK D E ⟨dd,.convert s t x,ty,pos,af,g⟩ st r:=by
 unfold Q7c at h
 split at h
 ·rename_i k0 k' k m hs ht hm;cases h
  exact RO.conv2 (hT.ints.get hs) (hT.ints.get ht) (Yy (D:=D) (Q2a hm))
 ·exact bytesR_ok hT h
theorem fieldV_ok (hT:C.T.OK E.P) {s f:Nat} {x:Operand} (h:Qdv D C st s x f=some r):RdOK D E ⟨dd,.field s x f,ty,pos,af,g⟩ st r:=by
 unfold Qdv at h
 split at h
 ·rename_i fs xs hf hx
  split at h
  ·rename_i k hk
   split at h
   ·rename_i y hy;cases h
    refine RO.fieldV ((hT.fdv.get hf).get hk) (Yy (D:=D) hx) ?_
    show ((Y0 D xs).map (TA.er st.m.tk))[k]?=_
    rw [Cl,hy];rfl
   ·cases h
  ·cases h
 ·cases h
theorem Q64 (tk:List (Nat×TTok U)):∀ {l:List (TA U)} {us:List Value},Q8f l=some us→l.map (TA.er tk)=us.map fun u=>CA.d (.v u)
 | [],us,h=>by cases h;rfl
 | x::l,us,h=>by
  unfold Q8f at h
  split at h
  ·rename_i e;cases e
  ·rename_i k a r e;cases e
   split at h
   ·rename_i q hq;cases h
    rw [CF,Q64 tk hq];rfl
   ·cases h
  ·cases h
theorem makeIR_ok (hT:C.T.OK E.P) {T:TypeId} {x:Operand} (h:Qd8 D C st T x=some r):RdOK D E ⟨dd,.makeInterface T x,ty,pos,af,g⟩ st r:=by
 unfold Qd8 at h
 split at h
 ·rename_i u xs ht hx
  split at h
  ·rename_i us hu;cases h
   have ex:=Yy (D:=D) hx
   refine RO.makeI (hT.stc.get ht) ?_
   rw [ex]
   show some (TV.v (.agg ((Y0 D xs).map (TA.er st.m.tk))))=_
   rw [Q64 _ hu]
  ·cases h
 ·cases h
theorem assertR_ok (hT:C.T.OK E.P) {t T:TypeId} {x:Operand} {ok:Bool} (h:Q9r C st x t T ok=some r):RdOK D E ⟨dd,.typeAssert x t T ok,ty,pos,af,g⟩ st r:=by
 unfold Q9r at h
 split at h
 ·rename_i u T' us ht hx
  cases hc:(Nat.beq T' T&&us.toList.all fun u=>u.oneCell') with
  | false=>rw [hc] at h;cases h
  | true =>
   rw [hc] at h;cases h
   obtain ⟨c1,c2⟩:=C0.1 hc
   have e1:=C4 c1
   subst e1
   have ex:ev (st.er D).tm x=some (KB (.iface T' (.agg us.toList.toArray))):=Yy (D:=D) hx
   have key:=RO.assertI (E:=E) (d:=dd) (ty:=ty) (pos:=pos) (af:=af) (g:=g) (t:=t) (hT.stc.get ht) ex c2
   have e2:(TTV.tup [.agg (us.toList.map fun u=>.one (.c (Ub u))),.one (.c (.v (.bool true)))]:TTV U).er D st.m.tk=.tup [.agg (us.toList.map fun u=>.d (.v u)),.one (.d (.v (.bool true)))]:=by
    show TV.tup [.agg ((Y0 D _).map (TA.er st.m.tk)),_]=_
    rw [WH,CI]
    have:us.toList.map (TA.er st.m.tk ∘ fun u=>TA.c (Ub u))=us.toList.map fun u=>CA.d (.v u):=Cx fun u _=>by
     show CA.d (Ub (U:=U) u).er=_
     rw [UP]
    rw [this];rfl
   show RO E _ _ (TTV.er D st.m.tk _)
   rw [e2];exact key
 ·cases h
theorem sliceR_ok (hT:C.T.OK E.P) {t:TypeId} {x:Operand} {lo hi mx:Option Operand} (h:DQ C st t x lo hi mx=some r):RdOK D E ⟨dd,.slice t x lo hi mx,ty,pos,af,g⟩ st r:=by
 unfold DQ at h
 split at h
 ·rename_i s hx
  have ex:=Yy (D:=D) hx
  split at h
  ·rename_i hs
   split at h
   ·rename_i m hm;cases h
    exact fun hg=>Qcl (hT.strs.get hs) ex (Yy (D:=D) (ZQ hm)) hg
   ·cases h
  ·rename_i hs
   split at h
   ·rename_i m hm;cases h
    exact fun hg=>Qku (hT.strs.get hs) ex (Yy (D:=D) (ZQ hm)) hg
   ·cases h
  ·rename_i hs
   split at h
   ·rename_i m n hm hn;cases h
    exact fun hg=>RO.midS (hT.strs.get hs) ex (Yy (D:=D) (ZQ hm)) (Yy (D:=D) (ZQ hn)) hg
   ·cases h
  ·cases h
 ·rename_i xv hx hns
  split at h
  ·rename_i e tc hs
   split at h
   ·rename_i l hl
    split at h
    ·rename_i m hm;cases h
     obtain ⟨z,hz,hzl⟩:=Xp (D:=D) hl
     have ex:=Yy (D:=D) hns
     rw [hz] at ex
     exact fun hg=>RO.sliceFrom (α:=U.R tc) (Uc hT hs) ex hzl (Yy (D:=D) (ZQ hm)) hg
    ·cases h
   ·rename_i l hl
    split at h
    ·rename_i m hm;cases h
     obtain ⟨z,hz,hzl⟩:=Xp (D:=D) hl
     have ex:=Yy (D:=D) hns
     rw [hz] at ex
     exact fun hg=>RO.sliceTo (α:=U.R tc) (Uc hT hs) ex hzl (Yy (D:=D) (ZQ hm)) hg
    ·cases h
   ·cases h
  ·cases h
 ·cases h
theorem lenR_ok (hT:C.T.OK E.P) {t:TypeId} {x:Operand} (h:Qhj C st t x=some r):RdOK D E ⟨dd,.call { callee:=.builtin .len,args:=#[x],argTypes:=#[t]},ty,pos,af,g⟩ st r:=by
 unfold Qhj at h
 split at h
 ·rename_i s hx
  split at h
  ·rename_i hs;cases h;exact Q9y (hT.strs.get hs) (Yy (D:=D) hx)
  ·cases h
 ·rename_i xv hns hx
  split at h
  ·rename_i e tc hs
   split at h
   ·rename_i l hl;cases h
    obtain ⟨z,hz,hzl⟩:=Xp (D:=D) hl
    have ex:=Yy (D:=D) hx
    rw [hz] at ex
    exact JG (α:=U.R tc) (Uc hT hs) ex hzl
   ·cases h
  ·cases h
 ·cases h
theorem builtinR_ok (hT:C.T.OK E.P) {b:Builtin} {xs:Array Operand} {ts:Array TypeId} (h:GP C st b xs.toList ts.toList=some r):RdOK D E ⟨dd,.call { callee:=.builtin b,args:=xs,argTypes:=ts },ty,pos,af,g⟩ st r:=by
 obtain ⟨xs⟩:=xs
 obtain ⟨ts⟩:=ts
 unfold GP at h
 dsimp only at h
 split at h
 ·exact lenR_ok hT h
 ·split at h
  ·rename_i a b ha hb;cases h;exact WP (Yy (D:=D) (ZQ ha)) (Yy (D:=D) (ZQ hb))
  ·cases h
 ·split at h
  ·rename_i a b ha hb;cases h;exact RO.min2 (Yy (D:=D) (ZQ ha)) (Yy (D:=D) (ZQ hb))
  ·cases h
 ·cases h
theorem Qcw (hT:C.T.OK E.P) (hD:D.OK) {o:Oper} (h:Ql3 D C st o=some r):RdOK D E o st r:=by
 obtain ⟨dd,op,ty,pos,af,g⟩:=o
 unfold Ql3 at h
 dsimp only at h
 split at h
 ·exact Q27 h (fun y hy=>YI (Yy (D:=D) hy))
 ·exact Q27 h (fun y hy=>Q0t (Yy (D:=D) hy))
 ·split at h
  ·rename_i hc;exact Q27 h (fun y hy=>Qn (Yy (D:=D) hc) (Yy (D:=D) hy))
  ·rename_i hc;exact Q27 h (fun y hy=>Qz (Yy (D:=D) hc) (Yy (D:=D) hy))
  ·cases h
 ·exact binR_ok hT h
 ·exact unR_ok h
 ·exact fieldR_ok hT h
 ·exact loadRd_ok hT hD h
 ·exact indexR_ok hT h
 ·exact indexStrR_ok hT h
 ·exact fieldV_ok hT h
 ·exact makeIR_ok hT h
 ·exact assertR_ok hT h
 ·exact extractR_ok h
 ·exact buildR_ok hT hD h
 ·exact funcR_ok h
 ·exact nilR_ok h
 ·exact convR_ok hT h
 ·exact sliceR_ok hT h
 ·rename_i c
  obtain ⟨callee,xs,ts⟩:=c
  dsimp only at h
  split at h
  ·exact builtinR_ok hT h
  ·cases h
 ·cases h
end
end
noncomputable section
open Go.RowKit
section
variable (U:Univ)
structure OR where
 x:TTV U
 es:List (Ev U)
 tk:Option (Nat×TTok U)
 nx:Nat
inductive EfR where
 | val (o:OR U)
 | grd (g:Bool) (o:OR U)
 | ix {α:Type} (o:Option α) (f:α→OR U)
end
section
variable {U:Univ} {D:Codec U}
def YX (n:Option (Nat×TTok U)) (tk:List (Nat×TTok U)):List (Nat×TTok U):=match n with
 | some p=>p::tk
 | none=>tk
def EfR.run {β:Type} (k:OR U→Option β):EfR U→Option β
 | .val o=>k o
 | .grd g o=>Q7 g (k o)
 | .ix o f=>Option.bind o fun a=>k (f a)
def OROK (D:Codec U) (E:Env) (o:Oper) (st:TSt U) (r:OR U):Prop :=
 ∃ hp tkx,OpOK E o (st.er D) (r.x.er D (YX r.tk st.m.tk)) ⟨hp,tkx,r.nx⟩∧(∀ j,Qq8 hp j=Qq8 (Qg D st.m.tk (r.es++st.m.es)) j)∧∀ j T,Qq8 (XE (YX r.tk st.m.tk)) j=some (some T)→Qq8 tkx j=some (some T)
def EfOK (D:Codec U) (E:Env) (o:Oper) (st:TSt U):EfR U→Prop
 | .val x=>OROK D E o st x
 | .grd g x=>g=true→OROK D E o st x
 | .ix oo f=>∀ a,oo=some a→OROK D E o st (f a)
def TA.hasApp (i v:Nat):TA U→Bool
 | .app j u=>Nat.beq j i&&Nat.beq u v
 | _=>false
def It.hasApp (i v:Nat):It U→Bool
 | .one x=>x.hasApp i v
 | .grp _ _=>false
def TAV.hasApp (i v:Nat):TAV U→Bool
 | .one x=>x.hasApp i v
 | .agg xs=>xs.any (It.hasApp i v)
def TTV.hasApp (i v:Nat):TTV U→Bool
 | .v x=>x.hasApp i v
 | .tup xs=>xs.any (TAV.hasApp i v)
 | .unk=>false
def Ev.hasApp (i v:Nat):Ev U→Bool
 | .box _ _ xs=>xs.any (It.hasApp i v)
 | .set _ _ xs=>xs.any (It.hasApp i v)
 | .raw _ _=>false
 | .lp _ _ _ tm _ _ _ _ _=>tm.any fun p=>p.2.hasApp i v
 | .ls _ xs=>xs.any fun p=>p.2.hasApp i v
def Qb9 (i v:Nat) (tm:List (Nat×TTV U)) (es:List (Ev U)):Bool:=!(tm.any fun p=>p.2.hasApp i v)&&!(es.any (Ev.hasApp i v))
def CW (x y:CA):Prop:=∀ V w v,x.rel V w v→y.rel V w v
theorem CW.refl (x:CA):CW x x:=fun _ _ _ h=>h
theorem Zn {tk:List (Nat×TTok U)} {i:Nat} {T:TTok U} (j u:Nat):cur ((i,T)::tk) j u=if i=j then (if T.ver=u then some T else none) else cur tk j u:=by
 unfold cur
 rw [Q1]
 by_cases h:i=j
 ·rw [Cd h,Cd h]
  dsimp only
  by_cases h2:T.ver=u
  ·rw [Cd h2,h2];simp
  ·rw [C5 h2]
   cases hb:Nat.beq T.ver u with
   | true=>exact absurd (C4 hb) h2
   | false=>rfl
 ·rw [C5 h,C5 h]
def TkW (tk tk':List (Nat×TTok U)) (P:Nat→Nat→Prop):Prop:=∀ j u,P j u→cur tk' j u=none∨cur tk' j u=cur tk j u
theorem UH {tk:List (Nat×TTok U)} {i:Nat} {T:TTok U} {P:Nat→Nat→Prop} (h:¬ P i T.ver):TkW tk ((i,T)::tk) P:=by
 intro j u hp
 rw [Zn]
 by_cases e:i=j
 ·rw [Cd e]
  by_cases e2:T.ver=u
  ·subst e;subst e2;exact (h hp).elim
  ·rw [C5 e2];exact .inl rfl
 ·rw [C5 e];exact .inr rfl
theorem Qck {tk tk':List (Nat×TTok U)} (x:TA U) (h:TkW tk tk' fun j u=>x.hasApp j u=true):CW (x.er tk) (x.er tk'):=by
 cases x with
 | app j u =>
  intro V w v hr
  show (match cur tk' j u with
   | some T=>CA.app j (U.E T.t).sz ((U.E T.t).encL T.l)
   | none=>CA.any).rel V w v
  rcases h j u (by show (Nat.beq j j&&Nat.beq u u)=true;simp) with e | e
  ·rw [e];exact CA.rel.one hr
  ·rw [e];exact hr
 | c x=>exact CW.refl _
 | ptr i off=>exact CW.refl _
 | pel t x off=>exact CW.refl _
 | fn f caps=>exact CW.refl _
 | raw x=>exact CW.refl _
def LW (xs ys:List CA):Prop:=xs.length=ys.length∧∀ (k:Nat) (x y:CA),xs[k]?=some x→ys[k]?=some y→CW x y
theorem LW.rels {xs ys:List CA} (h:LW xs ys) {V:Vu} {w:World} {vs:Array Value} (hv:rels V w xs vs):rels V w ys vs:=by
 refine ⟨hv.1.trans h.1,fun i y hy=>?_⟩
 have hi:i < ys.length:=(Cg.1 hy).1
 have hx:xs[i]?=some (xs[i]'(by rw [h.1];exact hi)):=Cp _
 obtain ⟨u,h1,h2⟩:=hv.2 i _ hx
 exact ⟨u,h1,h.2 i _ y hx hy _ _ _ h2⟩
theorem LW.refl (xs:List CA):LW xs xs:=⟨rfl,fun k x y hx hy=>by rw [hx] at hy;cases hy;exact CW.refl _⟩
theorem flat_mem {xs:List (It U)} {i v:Nat} {x:TA U} (hx:x∈Y0 D xs) (h:x.hasApp i v=true):xs.any (It.hasApp i v)=true:=by
 obtain ⟨it,h1,h2⟩:=Pb.1 hx
 refine CS.2 ⟨it,h1,?_⟩
 cases it with
 | one y =>
  rw [CG.1 h2] at h
  exact h
 | grp t y =>
  obtain ⟨z,_,rfl⟩:=Cw.1 h2
  cases h
theorem WI {tk tk':List (Nat×TTok U)} {xs:List (It U)} (h:TkW tk tk' fun j u=>xs.any (It.hasApp j u)=true):LW (Jf D tk xs) (Jf D tk' xs):=by
 unfold Jf
 refine ⟨by rw [Cm,Cm],fun k x y hx hy=>?_⟩
 rw [Cl] at hx hy
 cases hz:(Y0 D xs)[k]? with
 | none=>rw [hz] at hx;cases hx
 | some z =>
  rw [hz] at hx hy
  cases hx;cases hy
  exact Qck z (fun j u hp=>h j u (flat_mem (Cs hz) hp))
theorem Q7p {tk tk':List (Nat×TTok U)} {x:TAV U} (h:TkW tk tk' fun j u=>x.hasApp j u=true) {V:Vu} {w:World} {v:Value} (hv:(x.er D tk).rel V w v):(x.er D tk').rel V w v:=by
 cases x with
 | one x=>exact Qck x h V w v hv
 | agg xs=>obtain ⟨vs,h1,h2⟩:=hv;exact ⟨vs,h1,(WI h).rels h2⟩
theorem ZN {tk tk':List (Nat×TTok U)} {x:TTV U} (h:TkW tk tk' fun j u=>x.hasApp j u=true) {V:Vu} {w:World} {v:Value} (hv:(x.er D tk).rel V w v):(x.er D tk').rel V w v:=by
 cases x with
 | v x=>exact Q7p h hv
 | tup xs =>
  obtain ⟨vs,h1,h2,h3⟩:=hv
  refine ⟨vs,h1,by rw [h2,Cm,Cm],fun k y hy=>?_⟩
  rw [Cl] at hy
  cases hz:xs[k]? with
  | none=>rw [hz] at hy;cases hy
  | some z =>
   rw [hz] at hy;cases hy
   obtain ⟨u,h4,h5⟩:=h3 k (z.er D tk) (by rw [Cl,hz];rfl)
   exact ⟨u,h4,Q7p (fun j u hp=>h j u (CS.2 ⟨z,Cs hz,hp⟩)) h5⟩
 | unk=>trivial
theorem XM:∀ (ys zs:List CA) (q k:Nat),(setL zs q ys)[k]?=if q≤k∧k < q+ys.length∧k < zs.length then ys[k - q]? else zs[k]?
 | [],zs,q,k=>by
  show zs[k]?=_
  rw [C5 (by rw [Cc];omega)]
 | y::ys,zs,q,k=>by
  show (setL (zs.set q y) (q+1) ys)[k]?=_
  rw [XM ys,PX,C2,S3]
  by_cases c1:q+1≤k∧k < q+1+ys.length∧k < zs.length
  ·rw [Cd c1,Cd (by omega),show k - q=(k - (q+1))+1 by omega];rfl
  ·rw [C5 c1]
   by_cases c2:q=k
   ·subst c2
    rw [Cd rfl]
    by_cases c3:q < zs.length
    ·rw [Cd c3,Cd (by omega),PA];rfl
    ·rw [C5 c3,C5 (by omega),Pg (by omega)]
   ·rw [C5 c2,C5 (by omega)]
theorem LW.set {xs ys us vs:List CA} (h:LW xs ys) (k:LW us vs) (q:Nat):LW (setL xs q us) (setL ys q vs):=by
 refine ⟨by rw [Jj,Jj];exact h.1,fun j x y hx hy=>?_⟩
 rw [XM] at hx hy
 by_cases c:q≤j∧j < q+us.length∧j < xs.length
 ·rw [Cd c] at hx
  rw [Cd (by rw [← k.1,← h.1];exact c)] at hy
  exact k.2 _ x y hx hy
 ·rw [C5 c] at hx
  rw [C5 (by rw [← k.1,← h.1];exact c)] at hy
  exact h.2 _ x y hx hy
inductive BW:HB→HB→Prop
 | refl (B:HB):BW B B
 | cells {T:TypeId} {xs ys:List CA} (h:LW xs ys):BW (.cells T xs) (.cells T ys)
 | loop {s:LoopState} {p:Option Code} {tm tm':List (Nat×TV)} {nt:Nat} {ps:Array Tmp} {a b:Code} {d:Nat} (h:∀ t y,Qq8 tm' t=some y→∃ x,Qq8 tm t=some x∧∀ V w v,x.rel V w v→y.rel V w v):BW (.loop s p tm nt ps a b d) (.loop s p tm' nt ps a b d)
theorem BW.rel {A B:HB} (h:BW A B) {V:Vu} {w:World} {o:Obj} (hr:A.rel V w o):B.rel V w o:=by
 cases h with
 | refl=>exact hr
 | cells h=>obtain ⟨vs,h1,h2⟩:=hr;exact ⟨vs,h1,h.rels h2⟩
 | loop h =>
  obtain ⟨h0,fn,tmps,h1,h2,h3⟩:=hr
  exact ⟨h0,fn,tmps,h1,h2,fun t y hy=>let ⟨x,hx,hxy⟩:=h t y hy;hxy _ _ _ (h3 t x hx)⟩
def Qrc:Option HB→Option HB→Prop
 | none,none=>True
 | some A,some B=>BW A B
 | _,_=>False
theorem YT {tk tk':List (Nat×TTok U)}:∀ {es:List (Ev U)},(TkW tk tk' fun j u=>es.any (Ev.hasApp j u)=true)→∀ j,Qrc (Qq8 (Qg D tk es) j) (Qq8 (Qg D tk' es) j)
 | [],_,j=>trivial
 | .box q T' xs::es,h,j=>by
  have h1:TkW tk tk' fun j u=>xs.any (It.hasApp j u)=true:=fun j u hp=>h j u (CM.2 (.inl hp))
  have h2:TkW tk tk' fun j u=>es.any (Ev.hasApp j u)=true:=fun j u hp=>h j u (CM.2 (.inr hp))
  unfold Qg
  rw [Q1,Q1]
  by_cases e:q=j
  ·rw [Cd e,Cd e];exact .cells (WI h1)
  ·rw [C5 e,C5 e];exact YT h2 j
 | .raw q B::es,h,j=>by
  have h2:TkW tk tk' fun j u=>es.any (Ev.hasApp j u)=true:=fun j u hp=>h j u (CM.2 (.inr hp))
  unfold Qg
  rw [Q1,Q1]
  by_cases e:q=j
  ·rw [Cd e,Cd e];exact .refl _
  ·rw [C5 e,C5 e];exact YT h2 j
 | .lp q s p tm nt ps a b d::es,h,j=>by
  have h1:TkW tk tk' fun j u=>tm.any (fun p=>p.2.hasApp j u)=true:=fun j u hp=>h j u (CM.2 (.inl hp))
  have h2:TkW tk tk' fun j u=>es.any (Ev.hasApp j u)=true:=fun j u hp=>h j u (CM.2 (.inr hp))
  unfold Qg
  rw [Q1,Q1]
  by_cases e:q=j
  ·rw [Cd e,Cd e]
   refine .loop fun t y hy=>?_
   rw [QN] at hy ⊢
   cases hz:Qq8 tm t with
   | none=>rw [hz] at hy;cases hy
   | some z =>
    rw [hz] at hy;cases hy
    exact ⟨_,Z,fun V w v hv=>ZN (fun j u hp=>h1 j u (CS.2 ⟨_,JR hz,hp⟩)) hv⟩
  ·rw [C5 e,C5 e];exact YT h2 j
 | .ls q xs::es,h,j=>by
  have h1:TkW tk tk' fun j u=>xs.any (fun p=>p.2.hasApp j u)=true:=fun j u hp=>h j u (CM.2 (.inl hp))
  have h2:TkW tk tk' fun j u=>es.any (Ev.hasApp j u)=true:=fun j u hp=>h j u (CM.2 (.inr hp))
  have ih:=YT h2
  have hq:=ih q
  have hx:∀ t y,Qq8 (QI (TTV.er D tk') xs) t=some y→∃ x,Qq8 (QI (TTV.er D tk) xs) t=some x∧∀ V w v,x.rel V w v→y.rel V w v:=fun t y hy=>by
   rw [QN] at hy ⊢
   cases hz:Qq8 xs t with
   | none=>rw [hz] at hy;cases hy
   | some z =>
    rw [hz] at hy;cases hy
    exact ⟨_,Z,fun V w v hv=>ZN (fun j u hp=>h1 j u (CS.2 ⟨_,JR hz,hp⟩)) hv⟩
  have hn:∀ t,Qq8 (QI (TTV.er D tk') xs) t=none→Qq8 (QI (TTV.er D tk) xs) t=none:=fun t hy=>by
   rw [QN] at hy ⊢
   cases hz:Qq8 xs t with
   | none=>rfl
   | some z=>rw [hz] at hy;cases hy
  have ap:∀ {tm tm':List (Nat×TV)},(∀ t y,Qq8 tm' t=some y→∃ x,Qq8 tm t=some x∧∀ V w v,x.rel V w v→y.rel V w v)→∀ t y,Qq8 (QI (TTV.er D tk') xs++tm') t=some y→∃ x,Qq8 (QI (TTV.er D tk) xs++tm) t=some x∧∀ V w v,x.rel V w v→y.rel V w v:=fun {tm tm'} hl t y hy=>by
   rw [Jt] at hy ⊢
   cases hz:Qq8 (QI (TTV.er D tk') xs) t with
   | none=>rw [hz] at hy;rw [hn t hz];exact hl t y hy
   | some z =>
    rw [hz] at hy;cases hy
    obtain ⟨x,hx1,hx2⟩:=hx t _ hz
    rw [hx1];exact ⟨x,rfl,hx2⟩
  unfold Qg
  revert hq
  cases hA:Qq8 (Qg D tk es) q with
  | none =>
   cases hB:Qq8 (Qg D tk' es) q with
   | none=>intro _;exact ih j
   | some B=>intro hq;exact hq.elim
  | some A =>
   cases hB:Qq8 (Qg D tk' es) q with
   | none=>intro hq;exact hq.elim
   | some B =>
    intro hq
    cases hq with
    | refl =>
     cases A with
     | cells T' ys=>exact ih j
     | obj o=>exact ih j
     | mp es clock=>exact ih j
     | loop s p tm nt ps assign body D =>
      dsimp only
      rw [Q1,Q1]
      by_cases e:q=j
      ·rw [Cd e,Cd e];exact .loop (ap fun t y hy=>⟨y,hy,fun _ _ _ h=>h⟩)
      ·rw [C5 e,C5 e];exact ih j
    | cells hl=>exact ih j
    | loop hl =>
     dsimp only
     rw [Q1,Q1]
     by_cases e:q=j
     ·rw [Cd e,Cd e];exact .loop (ap hl)
     ·rw [C5 e,C5 e];exact ih j
 | .set q off xs::es,h,j=>by
  have h1:TkW tk tk' fun j u=>xs.any (It.hasApp j u)=true:=fun j u hp=>h j u (CM.2 (.inl hp))
  have h2:TkW tk tk' fun j u=>es.any (Ev.hasApp j u)=true:=fun j u hp=>h j u (CM.2 (.inr hp))
  have ih:=YT h2
  have hq:=ih q
  unfold Qg
  revert hq
  cases hA:Qq8 (Qg D tk es) q with
  | none =>
   cases hB:Qq8 (Qg D tk' es) q with
   | none=>intro _;exact ih j
   | some B=>intro hq;exact hq.elim
  | some A =>
   cases hB:Qq8 (Qg D tk' es) q with
   | none=>intro hq;exact hq.elim
   | some B =>
    intro hq
    cases hq with
    | refl =>
     cases A with
     | cells T' ys =>
      dsimp only
      rw [Q1,Q1]
      by_cases e:q=j
      ·rw [Cd e,Cd e];exact .cells ((LW.refl _).set (WI h1) off)
      ·rw [C5 e,C5 e];exact ih j
     | obj o=>exact ih j
     | loop s p tm nt ps assign body D=>exact ih j
     | mp es clock=>exact ih j
    | loop hl=>exact ih j
    | cells hl =>
     dsimp only
     rw [Q1,Q1]
     by_cases e:q=j
     ·rw [Cd e,Cd e];exact .cells (hl.set (WI h1) off)
     ·rw [C5 e,C5 e];exact ih j
def Q3e (st:TSt U) (es:List (Ev U)):Option (Nat×TTok U)→Bool
 | none=>true
 | some (i,T)=>Qb9 i T.ver st.tm es
def JM (st:TSt U):Option Nat→Bool
 | none=>true
 | some d=>Nat.blt d st.nt
def WS (dst:Option Nat) (x:TTV U) (tm:List (Nat×TTV U)):List (Nat×TTV U):=match dst with
 | some d=>(d,x)::tm
 | none=>tm
def Q68 (st:TSt U) (dst:Option Nat) (r:OR U):TSt U:=⟨WS dst r.x st.tm,⟨r.es++st.m.es,YX r.tk st.m.tk,r.nx⟩,st.nt,st.df⟩
theorem Q67 {st:TSt U} {dst:Option Nat} {r:OR U} {hp:List (Nat×HB)} {tkx:List (Nat×Option Tok)} (hh:∀ j,Qq8 hp j=Qq8 (Qg D st.m.tk (r.es++st.m.es)) j) (ht:∀ j T,Qq8 (XE (YX r.tk st.m.tk)) j=some (some T)→Qq8 tkx j=some (some T)) (hn:Q3e st (r.es++st.m.es) r.tk=true) :
  StW (XY (st.er D) dst (r.x.er D (YX r.tk st.m.tk)) ⟨hp,tkx,r.nx⟩) ((Q68 st dst r).er D):=by
 have htm:∀ t y,Qq8 (QI (TTV.er D (YX r.tk st.m.tk)) st.tm) t=some y→y=.unk∨∃ x,Qq8 (QI (TTV.er D st.m.tk) st.tm) t=some x∧∀ V w v,x.rel V w v→y.rel V w v:=by
  intro t y hy
  rw [QN] at hy ⊢
  cases hz:Qq8 st.tm t with
  | none=>rw [hz] at hy;cases hy
  | some z =>
   rw [hz] at hy;cases hy
   refine .inr ⟨_,Z,fun V w v hv=>?_⟩
   cases htk:r.tk with
   | none=>exact hv
   | some p =>
    obtain ⟨i,T⟩:=p
    rw [htk] at hn
    have h1:=(C0.1 hn).1
    have h2:st.tm.any (fun p=>p.2.hasApp i T.ver)=false:=by simpa using h1
    exact ZN (UH fun hp=>by
     have h3:=Pl.1 h2 (t,z) (JR hz)
     exact h3 hp) hv
 have hhp:∀ j B,Qq8 (Qg D (YX r.tk st.m.tk) (r.es++st.m.es)) j=some B→∃ A,Qq8 hp j=some A∧∀ V w o,A.rel V w o→B.rel V w o:=by
  intro j B hB
  rw [hh]
  cases htk:r.tk with
  | none=>rw [htk] at hB;exact ⟨B,hB,fun _ _ _ h=>h⟩
  | some p =>
   obtain ⟨i,T⟩:=p
   rw [htk] at hn hB
   have h1:=(C0.1 hn).2
   have h2:(r.es++st.m.es).any (Ev.hasApp i T.ver)=false:=by simpa using h1
   have h3:=YT (D:=D) (tk:=st.m.tk) (tk':=(i,T)::st.m.tk) (es:=r.es++st.m.es) (UH fun hp=>by rw [h2] at hp;cases hp) j
   have hB':Qq8 (Qg D ((i,T)::st.m.tk) (r.es++st.m.es)) j=some B:=hB
   rw [hB'] at h3
   cases hA:Qq8 (Qg D st.m.tk (r.es++st.m.es)) j with
   | none=>rw [hA] at h3;exact h3.elim
   | some A=>rw [hA] at h3;exact ⟨A,rfl,fun V w o h=>BW.rel h3 h⟩
 cases dst with
 | none=>exact ⟨htm,hhp,fun i T h=>ht i T h,rfl,rfl,rfl⟩
 | some d =>
  refine ⟨fun t y hy=>?_,hhp,fun i T h=>ht i T h,Z,Z,Z⟩
  have hy':Qq8 ((d,r.x.er D (YX r.tk st.m.tk))::QI (TTV.er D (YX r.tk st.m.tk)) st.tm) t=some y:=hy
  show y=.unk∨∃ x,Qq8 ((d,r.x.er D (YX r.tk st.m.tk))::QD d (st.er D).tm) t=some x∧_
  rw [Jo]
  rw [Q1] at hy' ⊢
  by_cases e:d=t
  ·rw [Cd e] at hy' ⊢;cases hy';exact .inr ⟨_,rfl,fun _ _ _ h=>h⟩
  ·rw [C5 e] at hy' ⊢;exact htm t y hy'
theorem Dz {E:Env} {ro:Option Nat} {n:Nat} {ops:Array Oper} {Q:Exit→Act→World→Prop} {rest:List Oper} {a b:St} (h:StW a b) (k:XL E ro n ops Q rest b):XL E ro n ops Q rest a:=fun V ac w hr=>k V ac w (hr.weak h)
theorem Gi {E:Env} {Q:Exit→Act→World→Prop} {e:Exit} {a b:St} (h:StW a b) (k:XQ E Q e b):XQ E Q e a:=fun V ac w hr=>k V ac w (hr.weak h)
theorem OROK.next {E:Env} {o:Oper} {st:TSt U} {r:OR U} (h:OROK D E o st r) (hn:Q3e st (r.es++st.m.es) r.tk=true) (hd:JM st o.dst=true) {ro:Option Nat} {n:Nat} {ops:Array Oper} {Q:Exit→Act→World→Prop} {rest:List Oper}
  (hg:Qx ops (st.er D).tm o=some true) (k:XL E ro n ops Q rest ((Q68 st o.dst r).er D)):XL E ro n ops Q (o::rest) (st.er D):=by
 obtain ⟨hp,tkx,h1,h2,h3⟩:=h
 refine Q9w hg h1 ?_ (Dz (Q67 h2 h3 hn) k)
 cases hdst:o.dst with
 | none=>rfl
 | some d=>rw [hdst] at hd;exact hd
variable (D) (C:TCfg U)
def Kh (tk:List (Nat×TTok U)):TA U→Option (TA U)
 | .c x=>some (.c x)
 | .app i ver=>match cur tk i ver with
  | some T=>some (.c (.sl T.t T.l))
  | none=>none
 | _=>none
def JF (tk:List (Nat×TTok U)):List (It U)→Option (List (It U))
 | []=>some []
 | .grp t x::r=>match JF tk r with
  | some ys=>some (.grp t x::ys)
  | none=>none
 | .one x::r=>match Kh tk x,JF tk r with
  | some y,some ys=>some (.one y::ys)
  | _,_=>none
def Qgz (a b:U.T) (x:U.R a):Option (U.R b):=match U.eq a b with
 | some ⟨h⟩=>some (h▸x)
 | none=>none
def Q4r (tk:List (Nat×TTok U)) (t:U.T):List (It U)→Option (U.R t)
 | [.grp t' x]=>Qgz t' t x
 | xs=>match JF tk xs with
  | some ys=>D.bld t ys
  | none=>none
def Q9o (tk:List (Nat×TTok U)) (t:U.T):Nat→List (It U)→Option (List (U.R t))
 | 0,_=>some []
 | n+1,xs=>match Q4r D tk t (Za D xs (U.E t).sz).1,Q9o tk t n (Za D xs (U.E t).sz).2 with
  | some x,some l=>some (x::l)
  | _,_=>none
def Qn3 (st:TSt U) (t:TypeId) (x:Operand):Option (EfR U):=match YD st.tm x with
 | some (.v v)=>some (.val ⟨.v (.one (.ptr st.m.nx 0)),[.box st.m.nx t v.items],none,st.m.nx+1⟩)
 | _=>none
def Qht (zs:List Value):List (It U):=zs.map fun z=>.one (.c (Ub z))
def Qea (st:TSt U) (t:TypeId):Option (EfR U):=match Qq8 C.T.zero t with
 | some zs=>some (.val ⟨.v (.one (.ptr st.m.nx 0)),[.box st.m.nx t (Qht zs)],none,st.m.nx+1⟩)
 | none=>none
def Qcz (st:TSt U) (t:TypeId) (x y:Operand):Option (EfR U) :=
 match Qq8 C.T.agg t,YD st.tm x,YD st.tm y with
 | some (_,n),some (.v (.one (.ptr i off))),some (.v v)=>match Z4 st.m.es i with
  | some (_,N)=>cond (Nat.beq (QX v.items) n&&Nat.ble (off+n) N) (some (.val ⟨.tup [],[.set i off v.items],none,st.m.nx⟩)) none
  | none=>none
 | _,_,_=>none
def Q2n (zs:List Value) (len:Nat):List (It U):=(List.range (len * zs.length)).map fun k=>.one (.c (Ub (zs.getD (k % zs.length) undef)))
def Qmx (st:TSt U) (t len:Nat) (parts:List (Nat×Operand)):Option (EfR U) :=
 match Qhe C t with
 | none=>none
 | some (e,tc)=>match Qq8 C.T.zero e,Q3a st.tm parts with
  | some zs,some avs=>cond (Nat.beq zs.length (U.E tc).sz&&Nat.blt 0 (U.E tc).sz&&Nat.ble (len * (U.E tc).sz) 16777216) (match Q4c D (Z2 (U.E tc).sz len) (Q2n zs len) avs with
   | some ys=>match Q9o D st.m.tk tc len ys with
    | some l=>some (.val ⟨.v (.one (.app st.m.nx 0)),[],some (st.m.nx,⟨e,tc,l,0⟩),st.m.nx+1⟩)
    | none=>none
   | none=>none) none
  | _,_=>none
def Q9t (st:TSt U) (t:TypeId) (x y:Operand):Option (EfR U) :=
 match Qhe C t with
 | none=>none
 | some (e,tc)=>match Qq8 C.T.elem e,YD st.tm y with
  | some (sz',by_),some yv=>cond (Nat.beq sz' (U.E tc).sz&&Nat.ble by_ 100000) (match G5 st.m.tk tc yv with
   | some l2=>match YD st.tm x with
    | some (.v (.one (.app i ver)))=>match cur st.m.tk i ver with
     | some T=>match Gg T.t tc T.l with
      | some l=>cond (Nat.beq T.E e&&!(Nat.beq e 0)) (some (.grd (Nat.ble (l.length+l2.length) 1000000000) ⟨.v (.one (.app i (ver+1))),[],some (i,⟨e,tc,l++l2,ver+1⟩),st.m.nx⟩)) none
      | none=>none
     | none=>none
    | some (.v (.one (.c (.v (.slice none 0 0)))))=>some (.grd (Nat.ble l2.length 1000000000) ⟨.v (.one (.app st.m.nx 0)),[],some (st.m.nx,⟨e,tc,l2,0⟩),st.m.nx+1⟩)
    | _=>none
   | none=>none) none
  | _,_=>none
def Q4x (st:TSt U) (t t':TypeId) (x y:Operand):Option (EfR U) :=
 match C.bt,Qhe C t,Qq8 C.T.strs t',YD st.tm y with
 | some B,some (e,tc),some _,some (.v (.one (.c (.str s))))=>match U.eq B.t tc,Qq8 C.T.elem e with
  | some _,some (sz',by_)=>cond (Nat.beq sz' 1&&Nat.ble by_ 100000) (match YD st.tm x with
   | some (.v (.one (.app i ver)))=>match cur st.m.tk i ver with
    | some T=>match Gg T.t B.t T.l with
     | some l=>cond (Nat.beq T.E e&&!(Nat.beq e 0)) (some (.grd (Nat.ble (l.length+s.length) 1000000000) ⟨.v (.one (.app i (ver+1))),[],some (i,⟨e,B.t,l++B.bs s,ver+1⟩),st.m.nx⟩)) none
     | none=>none
    | none=>none
   | some (.v (.one (.c (.v (.slice none 0 0)))))=>some (.grd (Nat.ble s.length 1000000000) ⟨.v (.one (.app st.m.nx 0)),[],some (st.m.nx,⟨e,B.t,B.bs s,0⟩),st.m.nx+1⟩)
   | _=>none) none
  | _,_=>none
 | _,_,_,_=>none
variable (U) in
structure KR where
 α:Type
 o:Option α
 f:α→TTV U
def Q1o (tm:List (Nat×TTV U)):List Operand→Option (List (TAV U))
 | []=>some []
 | o::os=>match YD tm o,Q1o tm os with
  | some (.v x),some xs=>some (x::xs)
  | _,_=>none
def WA (tk:List (Nat×TTok U)):TAV U→Option (TAV U)
 | .one x=>match Kh tk x with
  | some y=>some (.one y)
  | none=>none
 | .agg xs=>match JF tk xs with
  | some ys=>some (.agg ys)
  | none=>none
def YR (tk:List (Nat×TTok U)):List (TAV U)→Option (List (TAV U))
 | []=>some []
 | x::xs=>match WA tk x,YR tk xs with
  | some y,some ys=>some (y::ys)
  | _,_=>none
variable (K:FuncId→List (TAV U)→Option (KR U))
def Qcb (st:TSt U) (x:Operand) (os:List Operand):Option (EfR U) :=
 match YD st.tm x,Q1o st.tm os with
 | some (.v (.one (.fn f []))),some args=>match YR st.m.tk args with
  | some args'=>match K f args' with
   | some kr=>some (.ix kr.o fun a=>⟨kr.f a,[],none,st.m.nx⟩)
   | none=>none
  | none=>none
 | _,_=>none
def Qnj (st:TSt U) (o:Oper):Option (EfR U):=match o.op with
 | .box t x=>Qn3 st t x
 | .alloc t=>Qea C st t
 | .store t x y=>match o.dst with
  | none=>Qcz C st t x y
  | some _=>none
 | .buildSlice t len parts=>Qmx D C st t len parts.toList
 | .call c=>match c.callee,c.args.toList,c.argTypes.toList with
  | .builtin .append,[x,y],[t,t']=>cond (Nat.beq t t') (Q9t C st t x y) (Q4x C st t t' x y)
  | .value x,os,_=>Qcb K st x os
  | _,_,_=>none
 | _=>none
end
section
variable {U:Univ} {D:Codec U} {C:TCfg U} {E:Env} {st:TSt U} {dd:Option Nat} {ty:TypeId} {pos:String} {af:Array Edge} {g:Option (Nat×Bool)} {r:EfR U}
theorem boxE_ok {t:TypeId} {x:Operand} (h:Qn3 st t x=some r):EfOK D E ⟨dd,.box t x,ty,pos,af,g⟩ st r:=by
 unfold Qn3 at h
 split at h
 ·rename_i v hx;cases h
  refine ⟨_,_,Y2 (Yy (D:=D) hx),fun j=>?_,fun j x hx=>hx⟩
  show Qq8 ((st.m.nx,HB.cells t (v.er D st.m.tk).cells)::Qg D st.m.tk st.m.es) j=Qq8 ((st.m.nx,HB.cells t (Jf D st.m.tk v.items))::Qg D st.m.tk st.m.es) j
  rw [Dv]
 ·cases h
theorem zeroI_er (tk:List (Nat×TTok U)) (zs:List Value):Jf D tk (Qht zs)=zs.map fun z=>.d (.v z):=Qef tk zs
theorem allocE_ok (hT:C.T.OK E.P) {t:TypeId} (h:Qea C st t=some r):EfOK D E ⟨dd,.alloc t,ty,pos,af,g⟩ st r:=by
 unfold Qea at h
 split at h
 ·rename_i zs hz;cases h
  refine ⟨_,_,QS (hT.zero.get hz).1 (hT.zero.get hz).2,fun j=>?_,fun j x hx=>hx⟩
  show Qq8 ((st.m.nx,HB.cells t (zs.map fun z=>.d (.v z)))::Qg D st.m.tk st.m.es) j=Qq8 ((st.m.nx,HB.cells t (Jf D st.m.tk (Qht zs)))::Qg D st.m.tk st.m.es) j
  rw [zeroI_er]
 ·cases h
theorem storeE_ok (hT:C.T.OK E.P) (hD:D.OK) {t:TypeId} {x y:Operand} (h:Qcz C st t x y=some r):EfOK D E ⟨none,.store t x y,ty,pos,af,g⟩ st r:=by
 unfold Qcz at h
 split at h
 ·rename_i ag n i off v ht hx hy
  split at h
  ·rename_i T N hb
   cases hc:(Nat.beq (QX v.items) n&&Nat.ble (off+n) N) with
   | false=>rw [hc] at h;cases h
   | true =>
    rw [hc] at h;cases h
    obtain ⟨b1,b2⟩:=C0.1 hc
    have e1:=C4 b1
    have e2:=C3 b2
    obtain ⟨ys,h1,h2⟩:=Ye hD (tk:=st.m.tk) hb
    refine ⟨_,_,Qi (hT.agg.get ht) (Yy (D:=D) hx) (Yy (D:=D) hy) h1 (by rw [Dv,Zl hD];exact e1) (by omega) rfl,fun j=>?_,fun j x hx=>hx⟩
    show Qq8 ((i,HB.cells T (setL ys off (v.er D st.m.tk).cells))::QD i (Qg D st.m.tk st.m.es)) j=Qq8 (Qg D st.m.tk (.set i off v.items::st.m.es)) j
    rw [Jo,Dv]
    show _=Qq8 (match Qq8 (Qg D st.m.tk st.m.es) i with
     | some (.cells T ys)=>(i,.cells T (setL ys off (Jf D st.m.tk v.items)))::Qg D st.m.tk st.m.es
     | _=>Qg D st.m.tk st.m.es) j
    rw [h1]
  ·cases h
 ·cases h
theorem CSub.of_sl {sz:Nat} {es:List (List Proofs.YtjcfppnjamjjhaaGreatDoor.C)} {c:Proofs.YtjcfppnjamjjhaaGreatDoor.C} (h:CSub (.d (.sl sz es)) c) (i:Nat):CSub (.app i sz es) c:=by
 cases h with
 | d=>exact .app i sz es
theorem Q30 {tk:List (Nat×TTok U)} {x y:TA U} (h:Kh tk x=some y) {c:Proofs.YtjcfppnjamjjhaaGreatDoor.C} (hc:CSub (y.er tk) c):CSub (x.er tk) c:=by
 unfold Kh at h
 split at h
 ·cases h;exact hc
 ·rename_i i ver
  split at h
  ·rename_i T hT;cases h
   show CSub (match cur tk i ver with
    | some T=>CA.app i (U.E T.t).sz ((U.E T.t).encL T.l)
    | none=>CA.any) c
   rw [hT]
   exact hc.of_sl i
  ·cases h
 ·cases h
theorem csubs_app {xs ys:List CA} {cs:List Proofs.YtjcfppnjamjjhaaGreatDoor.C} (h:CSubs (xs++ys) cs):∃ c1 c2,cs=c1++c2∧CSubs xs c1∧CSubs ys c2:=by
 induction xs generalizing cs with
 | nil=>exact ⟨[],cs,rfl,.nil,h⟩
 | cons x xs ih =>
  cases h with
  | cons h t =>
   obtain ⟨c1,c2,e,h1,h2⟩:=ih t
   exact ⟨_::c1,c2,by rw [e];rfl,.cons h h1,h2⟩
theorem Qby (tk:List (Nat×TTok U)) (x:It U) (xs:List (It U)):Jf D tk (x::xs)=(x.cells D).map (TA.er tk)++Jf D tk xs:=by
 unfold Jf
 rw [JZ,Cr]
theorem X4 {tk:List (Nat×TTok U)}:∀ {xs ys:List (It U)},JF tk xs=some ys→∀ {cs:List Proofs.YtjcfppnjamjjhaaGreatDoor.C},CSubs (Jf D tk ys) cs→CSubs (Jf D tk xs) cs
 | [],ys,h,cs,hc=>by cases h;exact hc
 | .grp t x::r,ys,h,cs,hc=>by
  unfold JF at h
  split at h
  ·rename_i zs hz;cases h
   rw [Qby] at hc ⊢
   obtain ⟨c1,c2,rfl,h1,h2⟩:=csubs_app hc
   exact h1.append (X4 hz h2)
  ·cases h
 | .one x::r,ys,h,cs,hc=>by
  unfold JF at h
  split at h
  ·rename_i y zs hy hz;cases h
   rw [Qby] at hc ⊢
   cases hc with
   | cons h1 h2=>exact .cons (Q30 hy h1) (X4 hz h2)
  ·cases h
theorem Q2l (hD:D.OK) {tk:List (Nat×TTok U)} {t:U.T} {xs:List (It U)} {x:U.R t} (h:Q4r D tk t xs=some x):CSubs (Jf D tk xs) ((U.E t).enc x):=by
 unfold Q4r at h
 split at h
 ·rename_i t' y
  unfold Qgz at h
  split at h
  ·rename_i e _;cases h
   subst e
   have e1:Jf D tk [It.grp t' y]=((U.E t').enc y).map .d:=by
    unfold Jf
    rw [KT,Q74 hD]
   rw [e1]
   generalize (U.E t').enc y=l
   induction l with
   | nil=>exact .nil
   | cons c l ih=>exact .cons (.d c) ih
  ·cases h
 ·split at h
  ·rename_i ys hy;exact X4 hy (hD.bld tk t ys x h)
  ·cases h
theorem Q7j (hD:D.OK) {tk:List (Nat×TTok U)} {t:U.T}:∀ {n:Nat} {xs:List (It U)} {l:List (U.R t)},Q9o D tk t n xs=some l→n * (U.E t).sz=QX xs→CSubs (Jf D tk xs) ((U.E t).encL l).flatten∧l.length=n
 | 0,xs,l,h,hs=>by
  cases h
  have hl:=Zl hD tk xs
  have:Jf D tk xs=[]:=List.length_eq_zero_iff.1 (by omega)
  rw [this]
  show CSubs [] ((U.E t).encL []).flatten∧_
  rw [(U.E t).nil]
  exact ⟨.nil,Z⟩
 | n+1,xs,l,h,hs=>by
  unfold Q9o at h
  split at h
  ·rename_i x l' hx hl
   cases h
   obtain ⟨s1,s2⟩:=ZA hD xs (U.E t).sz
   have hlen2:QX (Za D xs (U.E t).sz).2=n * (U.E t).sz:=by
    rw [← Zk hD,s2,Cu,Zk hD,← hs,SE];omega
   obtain ⟨i1,i2⟩:=Q7j hD hl hlen2.symm
   have h0:=Q2l hD hx
   refine ⟨?_,by rw [C2,i2]⟩
   have e:Jf D tk xs=Jf D tk (Za D xs (U.E t).sz).1++Jf D tk (Za D xs (U.E t).sz).2:=by
    unfold Jf
    rw [s1,s2,← Cr,Sm]
   rw [e]
   have e2:((U.E t).encL (x::l')).flatten=(U.E t).enc x++((U.E t).encL l').flatten:=by
    have:=Enc.cons (α:=U.R t) x l'
    show (Enc.encL (x::l')).flatten=_
    rw [this];rfl
   rw [e2]
   exact h0.append i1
  ·cases h
theorem encL_all (hD:D.OK) (t:U.T) (l:List (U.R t)):∀ x∈(U.E t).encL l,x.length=(U.E t).sz:=by
 intro x hx
 have e:(U.E t).encL l=l.map (U.E t).enc:=Enc.map (α:=U.R t) l
 rw [e] at hx
 obtain ⟨y,_,rfl⟩:=Cw.1 hx
 exact hD.sz t y
theorem encL_len (t:U.T) (l:List (U.R t)):((U.E t).encL l).length=l.length:=Enc.len (α:=U.R t) l
theorem Q0w (tk:List (Nat×TTok U)) (zs:List Value) (len:Nat):Jf D tk (Q2n zs len)=Z8 zs len:=by
 unfold Jf Q2n Z8
 rw [WH,CI]
 refine Cx fun k _=>?_
 show CA.d (Ub (U:=U) _).er=_
 rw [UP]
theorem Q4a (hD:D.OK) {pl:List (Nat×Nat)}:∀ {avs:List (Nat×TAV U)} {xs ys:List (It U)},Q4c D pl xs avs=some ys→QX ys=QX xs
  | [],xs,ys,h=>by cases h;rfl
  | (i,x)::avs,xs,ys,h=>by
    unfold Q4c at h
    split at h
    · cases h
    · rename_i off size hp
      cases hb:(Nat.beq (QX x.items) size&&Nat.ble (off+size) (QX xs)) with
      | false=>rw [hb] at h;cases h
      | true =>
        rw [hb,C6] at h
        obtain ⟨b1,b2⟩:=C0.1 hb
        have e1:=C4 b1
        have e2:=C3 b2
        rw [Q4a hD h,← Zl hD ([]:List (Nat×TTok U)),Qd4 hD _ _ _ _ (by omega),Jj,Zl hD]
theorem litE_ok (hT:C.T.OK E.P) (hD:D.OK) {t len:Nat} {parts:Array (Nat×Operand)} (h:Qmx D C st t len parts.toList=some r):EfOK D E ⟨dd,.buildSlice t len parts,ty,pos,af,g⟩ st r:=by
 unfold Qmx at h
 split at h
 ·cases h
 ·rename_i e tc hs
  split at h
  ·rename_i zs avs hz ha
   cases hc:(Nat.beq zs.length (U.E tc).sz&&Nat.blt 0 (U.E tc).sz&&Nat.ble (len * (U.E tc).sz) 16777216) with
   | false=>rw [hc] at h;cases h
   | true =>
    rw [hc,C6] at h
    obtain ⟨b12,b3⟩:=C0.1 hc
    obtain ⟨b1,b2⟩:=C0.1 b12
    have e1:=C4 b1
    have e2:0 < (U.E tc).sz:=C3 b2
    have e3:=C3 b3
    split at h
    ·rename_i ys hy
     split at h
     ·rename_i l hl;cases h
      obtain ⟨p1,p2⟩:=DU (D:=D) ha
      have hf:=Q4b hD (tk:=st.m.tk) hy
      rw [Q0w] at hf
      have hsz:len * (U.E tc).sz=QX ys:=by
       rw [Q4a hD hy,← Zl hD st.m.tk,Q0w]
       unfold Z8
       rw [Cm,List.length_range,e1]
      obtain ⟨q1,q2⟩:=Q7j hD hl hsz
      have key:=Q1t (E:=E) (st:=st.er D) (dd:=dd) (ty:=ty) (pos:=pos) (af:=af) (g:=g) ((U.E tc).encL l) (Uc hT hs) (hT.zero.get hz).1 e1 (hT.zero.get hz).2 e2 e3 (by rw [p1,Cm]) p2 hf q1 (encL_all hD tc l) (by rw [encL_len,q2])
      refine ⟨_,_,?_,fun j=>rfl,fun j x hx=>Gy rfl (fun j=>rfl) hx⟩
      have ex:(TTV.v (.one (.app st.m.nx 0)):TTV U).er D (YX (some (st.m.nx,(⟨e,tc,l,0⟩:TTok U))) st.m.tk)=.v (.one (.app st.m.nx (U.E tc).sz ((U.E tc).encL l))):=by
       show TV.v (.one (match cur ((st.m.nx,(⟨e,tc,l,0⟩:TTok U))::st.m.tk) st.m.nx 0 with
        | some T=>CA.app st.m.nx (U.E T.t).sz ((U.E T.t).encL T.l)
        | none=>CA.any))=_
       rw [Zn,Cd rfl,Cd rfl]
      rw [ex]
      exact key
     ·cases h
    ·cases h
  ·cases h
theorem appendE_ok (hT:C.T.OK E.P) {t:TypeId} {x y:Operand} (h:Q9t C st t x y=some r):EfOK D E ⟨dd,.call { callee:=.builtin .append,args:=#[x,y],argTypes:=#[t,t]},ty,pos,af,g⟩ st r:=by
 unfold Q9t at h
 split at h
 ·cases h
 ·rename_i e tc hs
  have ht:=Uc hT hs
  split at h
  ·rename_i sz' by_ yv he hy
   cases hc:(Nat.beq sz' (U.E tc).sz&&Nat.ble by_ 100000) with
   | false=>rw [hc] at h;cases h
   | true =>
    rw [hc,C6] at h
    obtain ⟨b1,b2⟩:=C0.1 hc
    have e1:=C4 b1
    have hte:=hT.elem.get he
    rw [e1] at hte
    split at h
    ·rename_i l2 hl2
     obtain ⟨z,hz,hzl⟩:=Xp (D:=D) hl2
     have ey:=Yy (D:=D) hy
     rw [hz] at ey
     split at h
     ·rename_i i ver hx
      split at h
      ·rename_i T hcur
       split at h
       ·rename_i l hl
        obtain ⟨et,rfl⟩:=YU hl
        subst et
        cases hE:(Nat.beq T.E e&&!(Nat.beq e 0)) with
        | false=>rw [hE] at h;cases h
        | true =>
         rw [hE] at h;cases h
         obtain ⟨hE1,hE2⟩:=C0.1 hE
         have eE:=C4 hE1
         have eN:Nat.beq e 0=false:=by simpa using hE2
         intro hg
         have hcur':=hcur
         unfold cur at hcur'
         split at hcur'
         ·rename_i T0 hlk
          cases hv:Nat.beq T0.ver ver with
          | false=>rw [hv] at hcur';cases hcur'
          | true =>
           rw [hv] at hcur';cases hcur'
           have ex:=Yy (D:=D) hx
           have ex':ev (st.er D).tm x=some (.v (.one (.app i (U.E T.t).sz ((U.E T.t).encL T.l)))):=by
            rw [ex]
            show some (TV.v (.one (match cur st.m.tk i ver with
             | some T=>CA.app i (U.E T.t).sz ((U.E T.t).encL T.l)
             | none=>CA.any)))=_
            rw [hcur]
           have htok:Qq8 (st.er D).tk i=some (some ⟨e,(U.E T.t).sz,((U.E T.t).encL T.l).length,[]⟩):=by
            show Qq8 (QI TTok.erO st.m.tk) i=_
            rw [QN,hlk]
            show some T.erO=_
            rw [K6 (by rw [eE];exact eN)]
            unfold TTok.er
            rw [eE]
           have key:=DG (α:=U.R T.t) (E:=E) (st:=st.er D) (d:=dd) (ty:=ty) (pos:=pos) (af:=af) (g:=g) ht hte b2 ex' htok rfl ey hzl hg
           refine ⟨_,_,?_,fun j=>rfl,fun j x hx=>Gy (y:=⟨e,(U.E T.t).sz,((U.E T.t).encL (T.l++l2)).length,[]⟩) rfl (fun j=>Jo i _ _ j) hx⟩
           have ex2:(TTV.v (.one (.app i (ver+1))):TTV U).er D (YX (some (i,(⟨e,T.t,T.l++l2,ver+1⟩:TTok U))) st.m.tk)=.v (.one (.app i (U.E T.t).sz ((U.E T.t).encL (T.l++l2)))):=by
            show TV.v (.one (match cur ((i,(⟨e,T.t,T.l++l2,ver+1⟩:TTok U))::st.m.tk) i (ver+1) with
             | some T=>CA.app i (U.E T.t).sz ((U.E T.t).encL T.l)
             | none=>CA.any))=_
            rw [Zn,Cd rfl,Cd rfl]
           rw [ex2]
           exact key
         ·cases hcur'
       ·cases h
      ·cases h
     ·rename_i hx;cases h
      intro hg
      have key:=OpOK.appendNilE (α:=U.R tc) (E:=E) (st:=st.er D) (d:=dd) (ty:=ty) (pos:=pos) (af:=af) (g:=g) ht hte b2 (Yy (D:=D) hx) ey hzl hg
      refine ⟨_,_,?_,fun j=>rfl,fun j x hx=>Gy rfl (fun j=>rfl) hx⟩
      have ex2:(TTV.v (.one (.app st.m.nx 0)):TTV U).er D (YX (some (st.m.nx,(⟨e,tc,l2,0⟩:TTok U))) st.m.tk)=.v (.one (.app st.m.nx (U.E tc).sz ((U.E tc).encL l2))):=by
       show TV.v (.one (match cur ((st.m.nx,(⟨e,tc,l2,0⟩:TTok U))::st.m.tk) st.m.nx 0 with
        | some T=>CA.app st.m.nx (U.E T.t).sz ((U.E T.t).encL T.l)
        | none=>CA.any))=_
       rw [Zn,Cd rfl,Cd rfl]
      rw [ex2]
      exact key
     ·cases h
    ·cases h
  ·cases h
theorem appendSE_ok (hT:C.T.OK E.P) {t t':TypeId} {x y:Operand} (h:Q4x C st t t' x y=some r):EfOK D E ⟨dd,.call { callee:=.builtin .append,args:=#[x,y],argTypes:=#[t,t']},ty,pos,af,g⟩ st r:=by
 unfold Q4x at h
 split at h
 case h_2=>cases h
 rename_i B e tc _u s hB hs hst hy
 split at h
 case h_2=>cases h
 rename_i heq sz' by_ hU he
 obtain ⟨eBt⟩:=heq
 subst eBt
 have ht:=Uc hT hs
 have ht1:QW E.P t=some (e,1):=by rw [ht];exact congrArg (fun n=>some (e,n)) B.sz
 have hsr:=hT.strs.get hst
 cases hc:(Nat.beq sz' 1&&Nat.ble by_ 100000) with
 | false=>rw [hc] at h;cases h
 | true =>
  rw [hc,C6] at h
  obtain ⟨b1,b2⟩:=C0.1 hc
  have e1:=C4 b1
  have hte:=hT.elem.get he
  rw [e1] at hte
  have ey:=Yy (D:=D) hy
  split at h
  ·rename_i i ver hx
   split at h
   ·rename_i T hcur
    split at h
    ·rename_i l hl
     obtain ⟨et,rfl⟩:=YU hl
     obtain ⟨TE,Tt,Tl,Tv⟩:=T
     dsimp only at et
     subst et
     cases hE:(Nat.beq TE e&&!(Nat.beq e 0)) with
     | false=>rw [hE] at h;cases h
     | true =>
      rw [hE] at h;cases h
      obtain ⟨hE1,hE2⟩:=C0.1 hE
      have eE:=C4 hE1
      have eN:Nat.beq e 0=false:=by simpa using hE2
      subst eE
      intro hg
      have hcur':=hcur
      unfold cur at hcur'
      split at hcur'
      ·rename_i T0 hlk
       cases hv:Nat.beq T0.ver ver with
       | false=>rw [hv] at hcur';cases hcur'
       | true =>
        rw [hv] at hcur';cases hcur'
        have ex:=Yy (D:=D) hx
        have ex':ev (st.er D).tm x=some (.v (.one (.app i 1 ((U.E B.t).encL Tl)))):=by
         rw [ex]
         show some (TV.v (.one (match cur st.m.tk i ver with
          | some T=>CA.app i (U.E T.t).sz ((U.E T.t).encL T.l)
          | none=>CA.any)))=_
         rw [hcur]
         show some (TV.v (.one (CA.app i (U.E B.t).sz ((U.E B.t).encL Tl))))=_
         rw [B.sz]
        have htok:Qq8 (st.er D).tk i=some (some ⟨TE,1,((U.E B.t).encL Tl).length,[]⟩):=by
         show Qq8 (QI TTok.erO st.m.tk) i=_
         rw [QN,hlk]
         show some (TTok.erO (⟨TE,B.t,Tl,_⟩:TTok U))=_
         rw [K6 eN]
         show some (some (⟨TE,(U.E B.t).sz,((U.E B.t).encL Tl).length,[]⟩:Tok))=_
         rw [B.sz]
        have hg':Nat.ble (((U.E B.t).encL Tl).length+s.length) 1000000000=true:=by rw [Enc.len];exact hg
        have key:=OpOK.appendSE (E:=E) (st:=st.er D) (d:=dd) (ty:=ty) (pos:=pos) (af:=af) (g:=g) ht1 hsr hte b2 ex' htok ey hg'
        have ek:(⟨TE,B.t,Tl++B.bs s,ver+1⟩:TTok U).er=⟨TE,1,((U.E B.t).encL Tl++Qqw s).length,[]⟩:=by
         show (⟨TE,(U.E B.t).sz,((U.E B.t).encL (Tl++B.bs s)).length,[]⟩:Tok)=_
         rw [B.sz,B.ok]
        refine ⟨(st.er D).hp,(i,some ⟨TE,1,((U.E B.t).encL Tl++Qqw s).length,[]⟩)::QD i (st.er D).tk,?_,fun j=>rfl,fun j=>?_⟩
        rotate_left
        ·exact fun x hx=>Gy ek (fun j=>Jo i _ _ j) hx
        have ex2:(TTV.v (.one (.app i (ver+1))):TTV U).er D (YX (some (i,(⟨TE,B.t,Tl++B.bs s,ver+1⟩:TTok U))) st.m.tk)=.v (.one (.app i 1 ((U.E B.t).encL Tl++Qqw s))):=by
         show TV.v (.one (match cur ((i,(⟨TE,B.t,Tl++B.bs s,ver+1⟩:TTok U))::st.m.tk) i (ver+1) with
          | some T=>CA.app i (U.E T.t).sz ((U.E T.t).encL T.l)
          | none=>CA.any))=_
         rw [Zn,Cd rfl,Cd rfl]
         show TV.v (.one (CA.app i (U.E B.t).sz ((U.E B.t).encL (Tl++B.bs s))))=_
         rw [B.sz,B.ok]
        rw [ex2]
        exact key
      ·cases hcur'
    ·cases h
   ·cases h
  ·rename_i hx;cases h
   intro hg
   have key:=OpOK.appendSNil (E:=E) (st:=st.er D) (d:=dd) (ty:=ty) (pos:=pos) (af:=af) (g:=g) ht1 hsr hte b2 (Yy (D:=D) hx) ey hg
   have em:(U.E B.t).encL (B.bs s)=Qqw s:=by
    have:=B.ok [] s
    rw [CU] at this
    rw [this,show (U.E B.t).encL []=[] from CC (Enc.len (α:=U.R B.t) [])];rfl
   refine ⟨(st.er D).hp,(st.m.nx,some ⟨e,1,(Qqw s).length,[]⟩)::(st.er D).tk,?_,fun j=>rfl,fun j=>?_⟩
   rotate_left
   ·have ek:(⟨e,B.t,B.bs s,0⟩:TTok U).er=⟨e,1,(Qqw s).length,[]⟩:=by
     show (⟨e,(U.E B.t).sz,((U.E B.t).encL (B.bs s)).length,[]⟩:Tok)=_
     rw [B.sz,em]
    exact fun x hx=>Gy ek (fun j=>rfl) hx
   have ex2:(TTV.v (.one (.app st.m.nx 0)):TTV U).er D (YX (some (st.m.nx,(⟨e,B.t,B.bs s,0⟩:TTok U))) st.m.tk)=.v (.one (.app st.m.nx 1 (Qqw s))):=by
    show TV.v (.one (match cur ((st.m.nx,(⟨e,B.t,B.bs s,0⟩:TTok U))::st.m.tk) st.m.nx 0 with
     | some T=>CA.app st.m.nx (U.E T.t).sz ((U.E T.t).encL T.l)
     | none=>CA.any))=_
    rw [Zn,Cd rfl,Cd rfl]
    show TV.v (.one (CA.app st.m.nx (U.E B.t).sz ((U.E B.t).encL (B.bs s))))=_
    rw [B.sz,em]
   rw [ex2]
   exact key
  ·cases h
def Q0v (W:Wd) (D:Codec U) (P:Program) (K:FuncId→List (TAV U)→Option (KR U)):Prop :=
 ∀ f args kr a,K f args=some kr→kr.o=some a→∃ ys,(∀ tk,ASubL (args.map (TAV.er D tk)) ys)∧∀ tk,FunW W P f ys ((kr.f a).er D tk)
variable {W:Wd}
variable {K:FuncId→List (TAV U)→Option (KR U)}
theorem settleV_ok {tk:List (Nat×TTok U)} {x y:TAV U} (h:WA tk x=some y) {z:AV} (hz:ASub (y.er D tk) z):ASub (x.er D tk) z:=by
 unfold WA at h
 split at h
 ·rename_i a
  split at h
  ·rename_i b hb;cases h
   cases hz with
   | one h=>exact .one (Q30 hb h)
  ·cases h
 ·rename_i xs
  split at h
  ·rename_i ys hy;cases h
   cases hz with
   | agg h =>
    refine .agg ?_
    have key:∀ {us vs ws:List CA},LSub us ws→(∀ cs,CSubs us cs→CSubs vs cs)→LSub vs ws:=by
     intro us vs ws h hk
     have h1:∃ cs:List Proofs.YtjcfppnjamjjhaaGreatDoor.C,ws=cs.map .d∧CSubs us cs:=by
      clear hk
      induction h with
      | nil=>exact ⟨[],rfl,.nil⟩
      | cons h t ih=>obtain ⟨cs,e,h2⟩:=ih;exact ⟨_::cs,by rw [e];rfl,.cons h h2⟩
     obtain ⟨cs,rfl,h2⟩:=h1
     have h3:=hk cs h2
     clear hk h h2
     induction h3 with
     | nil=>exact .nil
     | cons h t ih=>exact .cons h ih
    exact key h (fun cs hc=>X4 hy hc)
  ·cases h
theorem G7 {tk:List (Nat×TTok U)}:∀ {xs ys:List (TAV U)},YR tk xs=some ys→∀ {zs:List AV},ASubL (ys.map (TAV.er D tk)) zs→ASubL (xs.map (TAV.er D tk)) zs
 | [],ys,h,zs,hz=>by cases h;exact hz
 | x::xs,ys,h,zs,hz=>by
  unfold YR at h
  split at h
  ·rename_i y ys' hy hys;cases h
   cases hz with
   | cons h1 h2=>exact .cons (settleV_ok hy h1) (G7 hys h2)
  ·cases h
theorem GS:∀ {os:List Operand} {xs:List (TAV U)},Q1o st.tm os=some xs→Yz (st.er D).tm os=some (xs.map (TAV.er D st.m.tk))
 | [],xs,h=>by cases h;rfl
 | o::os,xs,h=>by
  unfold Q1o at h
  split at h
  ·rename_i x ys hx hys;cases h
   unfold Yz
   rw [Yy (D:=D) hx,GS hys];rfl
  ·cases h
theorem callE_ok (hW:W.p E.V0.S E.w0) (hK:Q0v W D E.P K) {x:Operand} {os:Array Operand} {ts:Array TypeId} (h:Qcb K st x os.toList=some r):EfOK D E ⟨dd,.call { callee:=.value x,args:=os,argTypes:=ts },ty,pos,af,g⟩ st r:=by
 unfold Qcb at h
 split at h
 ·rename_i f args hx ha
  split at h
  ·rename_i args' hs
   split at h
   ·rename_i kr hk;cases h
    intro a hoa
    obtain ⟨ys,h1,h2⟩:=hK f args' kr a hk hoa
    exact ⟨_,_,U9 hW (Yy (D:=D) hx) (h2 st.m.tk) (GS (D:=D) ha) (G7 hs (h1 st.m.tk)),fun j=>rfl,fun j x hx=>hx⟩
   ·cases h
  ·cases h
 ·cases h
theorem Qi7 (hT:C.T.OK E.P) (hD:D.OK) (hW:W.p E.V0.S E.w0) (hK:Q0v W D E.P K) {o:Oper} (h:Qnj D C K st o=some r):EfOK D E o st r:=by
 obtain ⟨dd,op,ty,pos,af,g⟩:=o
 unfold Qnj at h
 dsimp only at h
 split at h
 ·exact boxE_ok h
 ·exact allocE_ok hT h
 ·split at h
  ·exact storeE_ok hT hD h
  ·cases h
 ·exact litE_ok hT hD h
 ·rename_i c
  obtain ⟨callee,⟨xs⟩,⟨ts⟩⟩:=c
  dsimp only at h
  split at h
  ·rename_i x y t t'
   cases hb:Nat.beq t t' with
   | false=>rw [hb] at h;exact appendSE_ok hT h
   | true =>
    rw [hb] at h
    have e:=C4 hb
    subst e
    exact appendE_ok hT h
  ·exact callE_ok hW hK h
  ·cases h
 ·cases h
end
end
end Go.Proofs.YtjcfppnjamjjhaaGreatDoor
