/- Part 2 of the proof: rules, mirrors and plain laws. The statement SignatureCoversUpto is proved here: for every list of declarations the law returns true, and what it is given reads behind the call ars it did before; condition: the arguments are of bulk at most 1048576 (the second form). -/
import Derived.Test.YtafddfoefeploaaK81
import Derived.Lib.Bytes
import Derived.Laws.Cover3
import Derived.Laws.BytesArg
import Derived.Shelf.Abstract
set_option maxRecDepth 100000
set_option maxHeartbeats 2000000
set_option linter.unusedSimpArgs false
set_option linter.unusedVariables false
set_option linter.unusedSectionVars false
namespace Go.Proofs.Ytafddfoefeploaa
open Go.RowKit
abbrev dI (x:Int):CA:=.d (.v (.int .i64 x))
abbrev dB (b:Bool):CA:=.d (.v (.bool b))
abbrev dS {α:Type} [Enc α] (l:List α):CA:=.d (.sl (Enc.sz α) (Enc.encL l))
abbrev dA {α:Type} [Enc α] (n:Nat) (l:List α):CA:=.app n (Enc.sz α) (Enc.encL l)
abbrev dN:CA:=.d (.v (.slice none 0 0))
abbrev cE {α:Type} [Enc α] (x:α):List CA:=(Enc.enc x).map CA.d
def Gv {α:Type} [Enc α] (l:List α):List CA:=(Enc.encL l).flatten.map CA.d
class EncLen (α:Type) [Enc α]:Prop where
 len:∀ x:α,(Enc.enc x).length=Enc.sz α
 pos:0 < Enc.sz α
instance:EncLen Lvl:=⟨fun _=>rfl,by decide⟩
instance:EncLen LV:=⟨fun _=>rfl,by decide⟩
instance:EncLen Int:=⟨fun _=>rfl,by decide⟩
instance:EncLen Bnd:=⟨fun _=>rfl,by decide⟩
section
variable {α:Type} [Enc α] [EncLen α]
theorem GX (l:List α):∀ e∈Enc.encL l,e.length=Enc.sz α:=by
 intro e he
 rw [Enc.map] at he
 obtain ⟨x,-,rfl⟩:=List.mem_map.1 he
 exact EncLen.len x
theorem flatE_len (l:List α):(Gv l).length=l.length * Enc.sz α:=by
 unfold Gv;rw [List.length_map,JZ _ (GX l),Enc.len]
theorem flatE_get {l:List α} {k j:Nat} {x:α} (h:l[k]?=some x) (hj:j < Enc.sz α):(Gv l)[k * Enc.sz α+j]?=((Enc.enc x)[j]?).map CA.d:=by
 unfold Gv;rw [List.getElem?_map,flat_get _ (GX l) k j _ (Enc.get h) hj]
end
section
variable {α:Type} [Enc α]
theorem flatE_cons (x:α) (l:List α):Gv (x::l)=(Enc.enc x).map CA.d++Gv l:=by
 unfold Gv;rw [Enc.cons,List.flatten_cons,List.map_append]
end
theorem setL_app:∀ (ys ars xs:List CA) (off:Nat),setL (ars++xs) (ars.length+off) ys=ars++setL xs off ys
 | [],ars,xs,off=>rfl
 | y::ys,ars,xs,off=>by
  simp only [setL]
  rw [List.set_append_right _ _ (by omega),Nat.add_sub_cancel_left,Nat.add_assoc,setL_app ys]
theorem KY:∀ (ys ars xs:List CA),ars.length=ys.length→setL (ars++xs) 0 ys=ys++xs
 | [],[],xs,_=>rfl
 | y::ys,a::ars,xs,h=>by
  have h2:=setL_app ys [y] (ars++xs) 0
  simp only [List.length_singleton] at h2
  simp only [setL,List.cons_append,List.set_cons_zero]
  rw [show (y::(ars++xs))=[y]++(ars++xs) from rfl,show 0+1=1+0 from rfl,h2,KY ys ars xs (by simpa using h)];rfl
theorem setL_flat {α:Type} [Enc α] [EncLen α]:∀ (l:List α) (k:Nat) (v:α),k < l.length→setL (Gv l) (k * Enc.sz α) ((Enc.enc v).map CA.d)=Gv (l.set k v)
 | x::l,0,v,_=>by
  rw [Nat.zero_mul,flatE_cons,List.set_cons_zero,flatE_cons,KY _ _ _ (by simp [EncLen.len])]
 | x::l,k+1,v,h=>by
  rw [flatE_cons,List.set_cons_succ,flatE_cons,← setL_flat l k v (by simpa using h)]
  have:=setL_app ((Enc.enc v).map CA.d) ((Enc.enc x).map CA.d) (Gv l) (k * Enc.sz α)
  rw [List.length_map,EncLen.len] at this
  rw [← this,Nat.succ_mul,Nat.add_comm]
section
variable {E:Env} {st:St} {dd d:Option Tmp} {ty:TypeId} {pos:String} {af:Array Edge} {g:Option (Nat×Bool)}
theorem RO.sliceTo {α:Type} [Enc α] {t e:Nat} {o hi:Operand} {y:CA} {l:List α} {m:Int} (ht:Jp E.P t=some (e,Enc.sz α)) (hx:ev st.tm o=some (.v (.one y))) (hs:SlE y l) (hhi:ev st.tm hi=some (TI m)) (hm:(cond (decide (0≤m)) (Nat.ble m.toNat l.length) false)=true) :
  RO E ⟨d,.slice t o none (some hi) none,ty,pos,af,g⟩ st (.v (.one (.d (.sl (Enc.sz α) (Enc.encL (l.take m.toNat)))))):=by
 have h0:0≤m:=of_decide_eq_true (cond_left hm)
 have hb:=cond_right hm
 obtain ⟨k,rfl⟩:∃ k:Nat,m=(k:Int):=⟨m.toNat,(Int.toNat_of_nonneg h0).symm⟩
 simp only [Int.toNat_natCast] at hb ⊢
 have:=RO.sliceE (E:=E) (st:=st) (d:=d) (ty:=ty) (pos:=pos) (af:=af) (g:=g) (a:=0) (b:=k) ht hx hs (lo:=none) (hi:=some hi) (mx:=none) (by
  have:ev st.tm hi=some (.v (.one (.d (.v (.int .i64 (.ofNat k)))))):=hhi
  simp only [XR,hiOf,loOf,this,hb,cond_true])
 rw [List.drop_zero,Nat.sub_zero] at this
 exact this
end
inductive ORen (b:Nat):List AV→List AV→Prop
 | nil:ORen b [] []
 | osl {off n c:Nat} {xs ys:List AV} (t:ORen b xs ys):ORen b (.one (.osl b off n c)::xs) (.one (.osl 0 off n c)::ys)
 | one {x:CA} {c:C} {xs ys:List AV} (h:CSub x c) (t:ORen b xs ys):ORen b (.one x::xs) (.one (.d c)::ys)
 | agg {x y:List CA} {xs ys:List AV} (h:LSub x y) (t:ORen b xs ys):ORen b (.agg x::xs) (.agg y::ys)
theorem tZ {tm:List (Nat×TV)}:tmLe tm []:=trivial
theorem hZ {hp:List (Nat×HB)}:hpLe hp []:=trivial
theorem hR {hp r:List (Nat×HB)} {t:Nat} {y:HB} (h:lk hp t=some y) (l:hpLe hp r):hpLe hp ((t,y)::r):=⟨⟨y,h,.refl y⟩,l⟩
theorem hC {hp r:List (Nat×HB)} {t:Nat} {T:TypeId} {xs ys:List CA} (h:lk hp t=some (.cells T xs)) (k:CLs xs ys) (l:hpLe hp r):hpLe hp ((t,.cells T ys)::r):=⟨⟨_,h,.cells k⟩,l⟩
theorem kZ {tk:List (Nat×Option Tok)}:tkLe tk []:=trivial
theorem bZ {m:Nat}:hpBelow m []:=trivial
theorem bB {m i:Nat} {x:HB} {r:List (Nat×HB)} (h:Nat.blt i m=true) (k:x.belowB m=true) (l:hpBelow m r):hpBelow m ((i,x)::r):=⟨GZ h,HB.belowB_ok k,l⟩
theorem Qu {E:Env} {st st':St} (h1:tmLe st.tm st'.tm) (h2:hpLe st.hp st'.hp) (h3:tkLe st.tk st'.tk) (h4:Nat.ble st'.nx st.nx=true) (h5:E.V0.nx≤st'.nx) (h6:st.nt=st'.nt) (h7:st.df=st'.df)
  (h8:(st'.tm.all fun p=>p.2.belowB st'.nx)=true) (h9:hpBelow st'.nx st'.hp) (h10:(st'.tk.all fun p=>Nat.blt p.1 st'.nx)=true) (h11:(st'.df.take 1).all (fun i=>Nat.blt i st'.nx)=true):StLe E st st':=by
 refine ⟨h1,h2,h3,lb h4,h5,h6,h7,?_,h9,?_,fun i hi=>GZ (List.all_eq_true.1 h11 i (by cases hd:st'.df with
  | nil=>rw [hd] at hi;cases hi
  | cons x l=>rw [hd] at hi;cases hi;simp))⟩
 ·have:∀ l:List (Nat×TV),(l.all fun p=>p.2.belowB st'.nx)=true→tmBelow st'.nx l:=by
   intro l
   induction l with
   | nil=>intro _;trivial
   | cons p l ih=>intro h;simp only [List.all_cons,Bool.and_eq_true] at h;exact ⟨TV.belowB_ok h.1,ih h.2⟩
  exact this _ h8
 ·have:∀ l:List (Nat×Option Tok),(l.all fun p=>Nat.blt p.1 st'.nx)=true→tkBelow st'.nx l:=by
   intro l
   induction l with
   | nil=>intro _;trivial
   | cons p l ih=>intro h;simp only [List.all_cons,Bool.and_eq_true] at h;exact ⟨GZ h.1,ih h.2⟩
  exact this _ h10
theorem U2 {α β γ:Type} {y:α⊕β} {f:α→Option γ} {g:β→Option γ} {r:γ} {G:Prop} {C:α⊕β→Prop} (hc:C y) (h:Sum.elim f g y=some r) (k1:∀ a,C (.inl a)→f a=some r→G) (k2:∀ b,C (.inr b)→g b=some r→G):G:=by
 cases y with
 | inl a=>exact k1 a hc h
 | inr b=>exact k2 b hc h
theorem J0 {P:Program} {f:FuncId} {fn:Func} {c:Code} {args:List AV} {m:Mem} (stf:St) {xs:List AV} (hf:P.funcs[f]?=some fn) (hb:fn.body=some c) (hen:J4 P f) (hnt:args.length≤fn.ntmps)
  (hdf:stf.df=[]) (hres:RAs P stf fn.results.toList xs)
  (h:∀ (w0:World) (M:Nat→Prop) (V0:Vu) (Q:Exit→Act→World→Prop),V0.nx≤m.nx →
   (∀ (e:Exit) (st':St) (hp':List (Nat×HB)),(e=.normal∨e=.ret)→GB st'.df st'.hp=some hp'→StLe ⟨P,w0,M,V0⟩ ⟨st'.tm,hp',st'.tk,st'.nx,st'.nt,[]⟩ stf→XQ ⟨P,w0,M,V0⟩ Q e st')→XC ⟨P,w0,M,V0⟩ none 0 Q c ⟨Ja 0 args,m.hp,m.tk,m.nx,fn.ntmps,[]⟩) (hP0:P=Try.prog:=by rfl) :
  CallM P f args m (QK xs) ⟨stf.hp,stf.tk,stf.nx⟩:=by
 refine ⟨hen,fun E V w vs hP H hn hargs=>?_⟩
 refine (callsIn_wide (n:=0)).1 (callsIn_of_wpV (F:=Fence.wide) (vf_of hP0 hf) hf hb trivial ?_)
 have hR0:Rel (E.at V w) V ⟨Ja 0 args,m.hp,m.tk,m.nx,fn.ntmps,[]⟩ { tmps:=vs++Array.replicate (fn.ntmps - vs.size) undef,defers:=[]} w:=by
  refine ⟨H.rebase,hn,by simp [hargs.1];omega,dfRel.nil,fun t x hx=>?_⟩
  obtain ⟨k,y,h1,h2,rfl⟩:=XN args 0 t x hx
  obtain ⟨u,hu,hy⟩:=hargs.2 k y h2
  have hk:k < vs.size:=(Array.getElem?_eq_some_iff.1 hu).1
  have:(vs++Array.replicate (fn.ntmps - vs.size) undef).getD t undef=u:=by
   rw [show t=k by omega,Array.getD_eq_getD_getElem?,Array.getElem?_append_left hk,hu];rfl
  rw [this];exact hy
 have key:∀ (st':St) (hp':List (Nat×HB)) (V1:Vu) (a1:Act) (w1:World),GB st'.df st'.hp=some hp'→StLe (E.at V w) ⟨st'.tm,hp',st'.tk,st'.nx,st'.nt,[]⟩ stf→Rel (E.at V w) V1 st' a1 w1 →
   LeavesInM Fence.wide 0 P fn a1.tmps (fun e w'=>∃ v V',e=.returned v∧HRel E V' stf.hp stf.tk w'∧V'.nx=stf.nx∧V.Le V' w w'∧(QK xs).rel V' w' v) a1.defers .returning w1:=by
  intro st' hp' V1 a1 w1 htm hle hr1
  refine leaves_marks st'.df a1.defers st'.hp hp' w1 hr1.h hr1.df htm (fun w' V1' H' hn' L'=>?_)
  have hr':Rel (E.at V w) V1' ⟨st'.tm,hp',st'.tk,st'.nx,st'.nt,[]⟩ { tmps:=a1.tmps,defers:=[]} w':=⟨H',hn'.trans hr1.nx,hr1.nt,dfRel.nil,fun t x hx=>(hr1.tm t x hx).keep L'⟩
  obtain ⟨V2,hr2⟩:=hr'.less hle
  obtain ⟨v,h1,h2⟩:=results_run (E:=E.at V w) hres hP hr2
  obtain ⟨H5,L5⟩:=H.back hr2.h
  exact ⟨v,h1,v,V2,J,H5,hr2.nx,L5,h2⟩
 have hgo:∀ E':Env,E'=E.at V w→E'.P=P→E'.V0=V→XC E' none 0 (bodyPostM Fence.wide 0 P fn (fun e w'=>∃ v V',e=.returned v∧HRel E V' stf.hp stf.tk w'∧V'.nx=stf.nx∧V.Le V' w w'∧(QK xs).rel V' w' v)) c ⟨Ja 0 args,m.hp,m.tk,m.nx,fn.ntmps,[]⟩:=by
  rintro ⟨P',w0,M,V0⟩ he hP' hV'
  dsimp only at hP' hV'
  subst hP'
  refine h w0 M V0 _ (by rw [hV',hn];exact Nat.le_refl _) ?_
  rintro e st' hp' (rfl | rfl) htm hle
  ·intro V1 a1 w1 hr1;rw [he] at hr1 hle;exact key st' hp' V1 a1 w1 htm hle hr1
  ·intro V1 a1 w1 hr1;rw [he] at hr1 hle;exact key st' hp' V1 a1 w1 htm hle hr1
 have:=hgo (E.at V w) rfl hP rfl V _ w hR0
 rw [show (E.at V w).P=P from hP] at this
 exact this
theorem CallM.of_bodyS {P:Program} {f:FuncId} {fn:Func} {c:Code} {args:List AV} {m:Mem} {Y:Type} (y:Y) (stf:Y→St) {xs:List AV} (hf:P.funcs[f]?=some fn) (hb:fn.body=some c) (hen:J4 P f) (hnt:args.length≤fn.ntmps)
  (hdf:∀ y,(stf y).df=[]) (hres:∀ y,RAs P (stf y) fn.results.toList xs)
  (h:∀ (w0:World) (M:Nat→Prop) (V0:Vu) (Q:Exit→Act→World→Prop),V0.nx≤m.nx →
   (∀ (e:Exit) (st':St) (hp':List (Nat×HB)),(e=.normal∨e=.ret)→GB st'.df st'.hp=some hp'→StLe ⟨P,w0,M,V0⟩ ⟨st'.tm,hp',st'.tk,st'.nx,st'.nt,[]⟩ (stf y)→XQ ⟨P,w0,M,V0⟩ Q e st')→XC ⟨P,w0,M,V0⟩ none 0 Q c ⟨Ja 0 args,m.hp,m.tk,m.nx,fn.ntmps,[]⟩) (hP0:P=Try.prog:=by rfl) :
  CallM P f args m (QK xs) ⟨(stf y).hp,(stf y).tk,(stf y).nx⟩:=J0 (stf y) hf hb hen hnt (hdf y) (hres y) h hP0
section
variable {E:Env} {ro:Option Nat} {n:Nat} {Q:Exit→Act→World→Prop} {st:St} {c:Code}
end
end Go.Proofs.Ytafddfoefeploaa
namespace Go.Proofs.Ytafddfoefeploaa
open Go.RowKit
def lkA {β:Type} (l:List (Nat×β)):List (Nat×β)→List (Option β)
  | []=>[]
  | (t,_)::r=>lk l t::lkA l r
def Uv {β:Type}:List (Nat×β)→List (Option β)
  | []=>[]
  | (_,y)::r=>some y::Uv r
theorem tA {tm:List (Nat×TV)}:∀ {r:List (Nat×TV)},lkA tm r=Uv r→tmLe tm r
  | [],_=>trivial
  | (_,_)::_,h=>⟨⟨_,(List.cons.inj h).1,.refl _⟩,tA (List.cons.inj h).2⟩
theorem hA {hp:List (Nat×HB)}:∀ {r:List (Nat×HB)},lkA hp r=Uv r→hpLe hp r
  | [],_=>trivial
  | (_,_)::_,h=>⟨⟨_,(List.cons.inj h).1,.refl _⟩,hA (List.cons.inj h).2⟩
theorem kA {tk:List (Nat×Option Tok)}:∀ {r:List (Nat×Option Tok)},lkA tk r=Uv r→tkLe tk r
  | [],_=>trivial
  | (_,_)::_,h=>⟨fun T e=>by rw [(List.cons.inj h).1,e],kA (List.cons.inj h).2⟩
def belA (m:Nat):List (Nat×HB)→Bool
  | []=>true
  | (i,x)::r=>Nat.blt i m&&(x.belowB m&&belA m r)
theorem bA {m:Nat}:∀ {r:List (Nat×HB)},belA m r=true→hpBelow m r
  | [],_=>trivial
  | (_,_)::_,h=>by
    have a:=Bool.and_eq_true_iff.1 h
    have b:=Bool.and_eq_true_iff.1 a.2
    exact ⟨GZ a.1,HB.belowB_ok b.1,bA b.2⟩
theorem sL {E:Env} {st st':St} (h5:E.V0.nx≤st'.nx) (h1:lkA st.tm st'.tm=Uv st'.tm) (h2:lkA st.hp st'.hp=Uv st'.hp) (h3:lkA st.tk st'.tk=Uv st'.tk) (h6:(st.nt,st.df)=(st'.nt,st'.df))
  (h4:(Nat.ble st'.nx st.nx&&((st'.tm.all fun p=>p.2.belowB st'.nx)&&(belA st'.nx st'.hp&&((st'.tk.all fun p=>Nat.blt p.1 st'.nx)&&(st'.df.take 1).all (fun i=>Nat.blt i st'.nx)))))=true):StLe E st st':=by
 have a:=Bool.and_eq_true_iff.1 h4
 have b:=Bool.and_eq_true_iff.1 a.2
 have c:=Bool.and_eq_true_iff.1 b.2
 have d:=Bool.and_eq_true_iff.1 c.2
 exact Qu (tA h1) (hA h2) (kA h3) a.1 h5 (Prod.mk.inj h6).1 (Prod.mk.inj h6).2 b.1 (bA c.1) d.1 d.2
end Go.Proofs.Ytafddfoefeploaa
namespace Go.Proofs.Ytafddfoefeploaa
open Go.RowKit
theorem ownsRow_same {w w':World} {b e s n:Nat} {v:Value} {xs:List Value} (h:w.ownsRow b e s v n xs) (hs:∀ g,v.ownBlock=some g→w'.heap[g]?=w.heap[g]?):w'.ownsRow b e s v n xs:=by
 obtain ⟨h1,h2⟩:=h
 refine ⟨h1,h2.imp id ?_⟩
 rintro ⟨g,cap,cur,rfl,h3,h4,h5⟩
 exact ⟨g,cap,cur,J,h3,(hs g J).trans h4,h5⟩
def W7 (V:Vu) (hp:List (Nat×HB)) (tk:List (Nat×Option Tok)) (k:Nat):Prop :=
 (∃ i B,lk hp i=some B∧V.ι i=k)∨∃ i T,lk tk i=some (some T)∧(V.κ i T.n).ownBlock=some k
theorem lk_app {α:Type}:∀ (a b:List (Nat×α)) (i:Nat),lk (a++b) i=match lk a i with
    | some x=>some x
    | none=>lk b i
  | [],b,i=>rfl
  | (k,x)::a,b,i=>by
    rw [List.cons_append,QP,QP]
    split
    · rfl
    · exact lk_app a b i
theorem YH {α:Type} {a b:List (Nat×α)} {i:Nat} {x:α} (h:lk (a++b) i=some x):lk a i=some x∨lk b i=some x:=by
 rw [lk_app] at h
 cases h1:lk a i with
 | none=>rw [h1] at h;exact .inr h
 | some y=>rw [h1] at h;exact .inl h
theorem lk_memF {α:Type}:∀ {a:List (Nat×α)} {i:Nat} {x:α},lk a i=some x→(i,x)∈a
  | [],i,x,h=>by cases h
  | (k,y)::a,i,x,h=>by
    rw [QP] at h
    split at h
    · rename_i e;subst e;cases h;exact List.mem_cons_self
    · exact List.mem_cons_of_mem _ (lk_memF h)
def Ul:List Nat→Nat→Nat→Nat
 | [],n,i=>n+i
 | j::_,_,0=>j
 | _::r,n,i+1=>Ul r n i
theorem rho_lt:∀ {rs:List Nat} {n i:Nat},i < rs.length→∃ j,rs[i]?=some j∧Ul rs n i=j
 | [],n,i,h=>by simp at h
 | j::r,n,0,h=>⟨j,rfl,rfl⟩
 | j::r,n,i+1,h=>rho_lt (rs:=r) (n:=n) (i:=i) (by simpa using h)
theorem Wf:∀ {rs:List Nat} {n i:Nat},rs.length≤i→Ul rs n i=n+(i - rs.length)
 | [],n,i,h=>rfl
 | j::r,n,0,h=>by simp at h
 | j::r,n,i+1,h=>by
  have h1:r.length≤i:=by simpa using h
  have h2:=Wf (rs:=r) (n:=n) (i:=i) h1
  simp only [Ul,List.length_cons]
  omega
theorem Gk {rs:List Nat} {n i:Nat} (h:i < rs.length):Ul rs n i∈rs:=by
 obtain ⟨j,h1,h2⟩:=rho_lt (n:=n) h
 rw [h2];exact List.mem_of_getElem? h1
theorem nodup_get {α:Type}:∀ {l:List α} {i j:Nat} {a:α},l.Nodup→l[i]?=some a→l[j]?=some a→i=j
 | [],i,j,a,_,h,_=>by simp at h
 | x::l,0,0,a,_,_,_=>rfl
 | x::l,0,j+1,a,hn,h1,h2=>by
  simp at h1 h2
  subst h1
  exact absurd (List.mem_of_getElem? h2) (List.nodup_cons.1 hn).1
 | x::l,i+1,0,a,hn,h1,h2=>by
  simp at h1 h2
  subst h2
  exact absurd (List.mem_of_getElem? h1) (List.nodup_cons.1 hn).1
 | x::l,i+1,j+1,a,hn,h1,h2=>by
  simp at h1 h2
  rw [nodup_get (List.nodup_cons.1 hn).2 h1 h2]
theorem rho_inj {rs:List Nat} {n:Nat} (hnd:rs.Nodup) (hlt:∀ j∈rs,j < n) {i j:Nat} (h:Ul rs n i=Ul rs n j):i=j:=by
 by_cases h1:i < rs.length <;> by_cases h2:j < rs.length
 ·obtain ⟨a,h3,h4⟩:=rho_lt (n:=n) h1
  obtain ⟨b,h5,h6⟩:=rho_lt (n:=n) h2
  rw [h4,h6] at h
  subst h
  exact nodup_get hnd h3 h5
 ·have:=hlt _ (Gk (n:=n) h1)
  rw [h,Wf (Nat.le_of_not_lt h2)] at this;omega
 ·have:=hlt _ (Gk (n:=n) h2)
  rw [← h,Wf (Nat.le_of_not_lt h1)] at this;omega
 ·rw [Wf (Nat.le_of_not_lt h1),Wf (Nat.le_of_not_lt h2)] at h;omega
def CA.ren (ρ:Nat→Nat):CA→CA
 | .d c=>.d c
 | .ptr i off=>.ptr (ρ i) off
 | .pel e off=>.pel e off
 | .fn f caps=>.fn f (caps.map fun p=>(ρ p.1,p.2))
 | .app i sz es=>.app (ρ i) sz es
 | .apv i sz n es=>.apv (ρ i) sz n es
 | .tp i n off=>.tp (ρ i) n off
 | .osl i off len cap=>.osl (ρ i) off len cap
 | .mp i=>.mp (ρ i)
 | .yld i=>.yld (ρ i)
 | .clo f caps=>.clo f caps
 | .any=>.any
def AV.ren (ρ:Nat→Nat):AV→AV
 | .one x=>.one (x.ren ρ)
 | .agg xs=>.agg (xs.map (CA.ren ρ))
def TV.ren (ρ:Nat→Nat):TV→TV
 | .v x=>.v (x.ren ρ)
 | .tup xs=>.tup (xs.map (AV.ren ρ))
 | .unk=>.unk
def HB.ren (ρ:Nat→Nat):HB→HB
 | .cells T xs=>.cells T (xs.map (CA.ren ρ))
 | .obj o=>.obj o
 | .loop s p tm nt ps assign body D=>.loop s p (tm.map fun q=>(q.1,q.2.ren ρ)) nt ps assign body (ρ D)
 | .mp es c=>.mp (es.map fun e=>(e.1,e.2.1.ren ρ,e.2.2)) c
def YN (ρ:Nat→Nat) (l:List (Nat×HB)):List (Nat×HB):=l.map fun p=>(ρ p.1,p.2.ren ρ)
def Zn (ρ:Nat→Nat) (l:List (Nat×Option Tok)):List (Nat×Option Tok):=l.map fun p=>(ρ p.1,p.2)
theorem lk_map2 {α β:Type} (f:α→β):∀ (l:List (Nat×α)) (t:Nat),lk (l.map fun q=>(q.1,f q.2)) t=(lk l t).map f
  | [],t=>rfl
  | (k,x)::l,t=>by
    rw [List.map_cons,QP,QP]
    split
    · rfl
    · exact lk_map2 f l t
theorem lk_ren {α β:Type} {ρ:Nat→Nat} {f:α→β} (inj:∀ i j,ρ i=ρ j→i=j):∀ (l:List (Nat×α)) (i:Nat),lk (l.map fun p=>(ρ p.1,f p.2)) (ρ i)=(lk l i).map f
  | [],i=>rfl
  | (k,x)::l,i=>by
    rw [List.map_cons,QP,QP]
    by_cases h:k=i
    · subst h;rw [if_pos rfl,if_pos rfl];rfl
    · rw [if_neg h,if_neg (fun e=>h (inj _ _ e))];exact lk_ren inj l i
theorem lk_ren_inv {α β:Type} {ρ:Nat→Nat} {f:α→β} (inj:∀ i j,ρ i=ρ j→i=j) {l:List (Nat×α)} {j:Nat} {y:β} (h:lk (l.map fun p=>(ρ p.1,f p.2)) j=some y):∃ i x,ρ i=j∧lk l i=some x∧y=f x:=by
 obtain ⟨p,h1,h2⟩:=List.mem_map.1 (lk_memF h)
 have h3:ρ p.1=j:=(Prod.mk.inj h2).1
 subst h3
 rw [lk_ren inj] at h
 cases h4:lk l p.1 with
 | none=>rw [h4] at h;cases h
 | some x=>rw [h4] at h;cases h;exact ⟨p.1,x,rfl,h4,rfl⟩
def pull (ρ:Nat→Nat) (V:Vu) (m:Nat):Vu:=⟨m,fun i=>V.ι (ρ i),fun i=>V.κ (ρ i),fun i=>V.cu (ρ i),V.S⟩
theorem CA.rel.pull {ρ:Nat→Nat} {V:Vu} {w:World} {m:Nat} {x:CA} {v:Value} (h:(x.ren ρ).rel V w v) (hb:x.below m):x.rel (pull ρ V m) w v:=by
 cases x with
 | ptr i off=>exact ⟨hb,h.2⟩
 | fn f caps =>
  have:=h.2
  rw [List.map_map] at this
  exact ⟨hb,this⟩
 | app i sz es=>exact ⟨hb,h.2⟩
 | apv i sz n es=>exact ⟨hb,h.2⟩
 | tp i n off=>exact ⟨hb,h.2⟩
 | osl i off len cap=>exact ⟨hb,h.2⟩
 | mp i=>exact ⟨hb,h.2⟩
 | yld i=>exact ⟨hb,h.2⟩
 | d c=>exact h
 | pel e off=>exact h
 | clo f caps=>exact h
 | any=>exact h
theorem rels.pull {ρ:Nat→Nat} {V:Vu} {w:World} {m:Nat} {xs:List CA} {vs:Array Value} (h:rels V w (xs.map (CA.ren ρ)) vs) (hb:∀ x∈xs,x.below m):rels (pull ρ V m) w xs vs :=
 ⟨by simpa using h.1,fun i x hx=>let ⟨u,h1,h2⟩:=h.2 i (x.ren ρ) (by rw [List.getElem?_map,hx];rfl);⟨u,h1,h2.pull (hb x (List.mem_of_getElem? hx))⟩⟩
theorem AV.rel.pull {ρ:Nat→Nat} {V:Vu} {w:World} {m:Nat} {x:AV} {v:Value} (h:(x.ren ρ).rel V w v) (hb:x.below m):x.rel (pull ρ V m) w v:=by
 cases x with
 | one x=>exact CA.rel.pull h hb
 | agg xs=>obtain ⟨vs,h1,h2⟩:=h;exact ⟨vs,h1,h2.pull hb⟩
theorem TV.rel.pull {ρ:Nat→Nat} {V:Vu} {w:World} {m:Nat} {x:TV} {v:Value} (h:(x.ren ρ).rel V w v) (hb:x.below m):x.rel (pull ρ V m) w v:=by
 cases x with
 | v x=>exact AV.rel.pull h hb
 | tup xs =>
  obtain ⟨vs,h1,h2,h3⟩:=h
  exact ⟨vs,h1,by simpa using h2,fun i x hx=>let ⟨u,h4,h5⟩:=h3 i (x.ren ρ) (by rw [List.getElem?_map,hx];rfl);⟨u,h4,h5.pull (hb x (List.mem_of_getElem? hx))⟩⟩
 | unk=>trivial
theorem HB.rel.pull {ρ:Nat→Nat} {V:Vu} {w:World} {m:Nat} {x:HB} {o:Obj} (h:(x.ren ρ).rel V w o) (hb:x.below m):x.rel (pull ρ V m) w o:=by
 cases x with
 | cells T xs=>obtain ⟨vs,h3,h4⟩:=h;exact ⟨vs,h3,h4.pull hb⟩
 | obj o'=>exact h
 | loop s p tm nt ps assign body D =>
  obtain ⟨-,fn,tmps,h3,h4,h5⟩:=h
  exact ⟨hb.1,fn,tmps,h3,h4,fun t x hx=>(h5 t (x.ren ρ) (by rw [lk_map2,hx];rfl)).pull (hb.2 t x hx)⟩
 | mp es clock =>
  obtain ⟨ents,h3,h4,h5⟩:=h
  exact ⟨ents,h3,by simpa using h4,fun i k x b hi=>let ⟨v,h6,h7⟩:=h5 i k (x.ren ρ) b (by rw [List.getElem?_map,hi];rfl);⟨v,h6,h7.pull (hb _ (List.mem_of_getElem? hi))⟩⟩
structure Via (ρ:Nat→Nat) (V1 V2:Vu):Prop where
 ι:∀ i,i < V1.nx→ρ i < V2.nx∧V2.ι (ρ i)=V1.ι i
 cu:∀ i,i < V1.nx→V2.cu (ρ i)=V1.cu i
 κ:∀ i,i < V1.nx→V2.κ (ρ i)=V1.κ i
 S:∀ b o,V1.S b o→V2.S b o
section
variable {ρ:Nat→Nat} {V1 V2:Vu} {w:World}
theorem CA.rel.via (hV:Via ρ V1 V2) {x:CA} {v:Value} (h:x.rel V1 w v):(x.ren ρ).rel V2 w v:=by
 cases x with
 | ptr i off=>exact ⟨(hV.ι i h.1).1,by rw [(hV.ι i h.1).2];exact h.2⟩
 | fn f caps =>
  refine ⟨fun p hp=>?_,?_⟩
  ·obtain ⟨q,hq,rfl⟩:=List.mem_map.1 hp
   exact (hV.ι _ (h.1 q hq)).1
  ·rw [h.2,List.map_map]
   congr 2
   exact List.map_congr_left fun p hp=>by show _=Value.pointer (some ⟨V2.ι (ρ p.1),p.2,none⟩);rw [(hV.ι _ (h.1 p hp)).2]
 | app i sz es=>exact ⟨(hV.ι i h.1).1,by rw [hV.cu i h.1];exact h.2.1,by rw [hV.κ i h.1];exact h.2.2.1,Reads.mono hV.S (fun _ _ _=>rfl) h.2.2.2⟩
 | apv i sz n es =>
  obtain ⟨h1,h2,h3,a,cap,h4,h5,h6⟩:=h
  exact ⟨(hV.ι i h1).1,by rw [hV.cu i h1];exact h2,by rw [hV.κ i h1];exact h3,a,cap,h4,h5,Reads.mono hV.S (fun _ _ _=>rfl) h6⟩
 | tp i n off =>
  obtain ⟨h1,h2,g,cap,h3,h4⟩:=h
  exact ⟨(hV.ι i h1).1,by rw [hV.cu i h1];exact h2,g,cap,by rw [hV.κ i h1];exact h3,h4⟩
 | osl i off len cap=>exact ⟨(hV.ι i h.1).1,by rw [(hV.ι i h.1).2];exact h.2⟩
 | mp i=>exact ⟨(hV.ι i h.1).1,by rw [(hV.ι i h.1).2];exact h.2⟩
 | yld i=>exact ⟨(hV.ι i h.1).1,by rw [(hV.ι i h.1).2];exact h.2⟩
 | d c=>exact Reads.mono hV.S (fun _ _ _=>rfl) h
 | pel e off=>exact pelRel.mono hV.S (fun _ _ _=>rfl) h
 | clo f caps =>
  obtain ⟨ps,h1,h2,h3⟩:=h
  exact ⟨ps,h1,h2,fun i e off hi=>let ⟨p,h4,h5⟩:=h3 i e off hi;⟨p,h4,h5.mono hV.S (fun _ _ _=>rfl)⟩⟩
 | any=>exact h
theorem rels.via (hV:Via ρ V1 V2) {xs:List CA} {vs:Array Value} (h:rels V1 w xs vs):rels V2 w (xs.map (CA.ren ρ)) vs :=
 ⟨by simpa using h.1,fun i x hx=>by
  rw [List.getElem?_map] at hx
  cases h1:xs[i]? with
  | none=>rw [h1] at hx;cases hx
  | some y=>rw [h1] at hx;cases hx;obtain ⟨u,h2,h3⟩:=h.2 i y h1;exact ⟨u,h2,h3.via hV⟩⟩
theorem AV.rel.via (hV:Via ρ V1 V2) {x:AV} {v:Value} (h:x.rel V1 w v):(x.ren ρ).rel V2 w v:=by
 cases x with
 | one x=>exact CA.rel.via hV h
 | agg xs=>obtain ⟨vs,h1,h2⟩:=h;exact ⟨vs,h1,h2.via hV⟩
theorem TV.rel.via (hV:Via ρ V1 V2) {x:TV} {v:Value} (h:x.rel V1 w v):(x.ren ρ).rel V2 w v:=by
 cases x with
 | v x=>exact AV.rel.via hV h
 | tup xs =>
  obtain ⟨vs,h1,h2,h3⟩:=h
  refine ⟨vs,h1,by simpa using h2,fun i x hx=>?_⟩
  rw [List.getElem?_map] at hx
  cases h4:xs[i]? with
  | none=>rw [h4] at hx;cases hx
  | some y=>rw [h4] at hx;cases hx;obtain ⟨u,h5,h6⟩:=h3 i y h4;exact ⟨u,h5,h6.via hV⟩
 | unk=>trivial
theorem HB.rel.via (hV:Via ρ V1 V2) {x:HB} {o:Obj} (h:x.rel V1 w o):(x.ren ρ).rel V2 w o:=by
 cases x with
 | cells T xs=>obtain ⟨vs,h3,h4⟩:=h;exact ⟨vs,h3,h4.via hV⟩
 | obj o'=>exact h
 | loop s p tm nt ps assign body D =>
  obtain ⟨h1,fn,tmps,h3,h4,h5⟩:=h
  refine ⟨(hV.ι D h1).1,fn,tmps,by rw [(hV.ι D h1).2];exact h3,h4,fun t x hx=>?_⟩
  rw [lk_map2] at hx
  cases h6:lk tm t with
  | none=>rw [h6] at hx;cases hx
  | some y=>rw [h6] at hx;cases hx;exact (h5 t y h6).via hV
 | mp es clock =>
  obtain ⟨ents,h3,h4,h5⟩:=h
  refine ⟨ents,h3,by simpa using h4,fun i k x b hi=>?_⟩
  rw [List.getElem?_map] at hi
  cases h6:es[i]? with
  | none=>rw [h6] at hi;cases hi
  | some y =>
   obtain ⟨k',x',b'⟩:=y
   rw [h6] at hi;cases hi
   obtain ⟨v,h7,h8⟩:=h5 i _ _ _ h6
   exact ⟨v,h7,h8.via hV⟩
end
open Classical in
noncomputable def Gg (ρ:Nat→Nat) (V V1:Vu) (n:Nat):Vu :=
 ⟨n,fun j=>if h:∃ i,ρ i=j then V1.ι h.choose else V.ι j,fun j=>if h:∃ i,ρ i=j then V1.κ h.choose else V.κ j,fun j=>if h:∃ i,ρ i=j then V1.cu h.choose else V.cu j,V1.S⟩
section
open Classical
variable {ρ:Nat→Nat} {V V1:Vu} {n:Nat}
theorem choose_ren (inj:∀ i j,ρ i=ρ j→i=j) {i:Nat} (h:∃ k,ρ k=ρ i):h.choose=i:=inj _ _ h.choose_spec
theorem ZT (inj:∀ i j,ρ i=ρ j→i=j) (i:Nat):(Gg ρ V V1 n).ι (ρ i)=V1.ι i:=by
 have h:∃ k,ρ k=ρ i:=⟨i,rfl⟩
 show (if h:∃ k,ρ k=ρ i then V1.ι h.choose else V.ι (ρ i))=_
 rw [dif_pos h,choose_ren inj h]
theorem X1 (inj:∀ i j,ρ i=ρ j→i=j) (i:Nat):(Gg ρ V V1 n).κ (ρ i)=V1.κ i:=by
 have h:∃ k,ρ k=ρ i:=⟨i,rfl⟩
 show (if h:∃ k,ρ k=ρ i then V1.κ h.choose else V.κ (ρ i))=_
 rw [dif_pos h,choose_ren inj h]
theorem backV_cu (inj:∀ i j,ρ i=ρ j→i=j) (i:Nat):(Gg ρ V V1 n).cu (ρ i)=V1.cu i:=by
 have h:∃ k,ρ k=ρ i:=⟨i,rfl⟩
 show (if h:∃ k,ρ k=ρ i then V1.cu h.choose else V.cu (ρ i))=_
 rw [dif_pos h,choose_ren inj h]
theorem ZE {j:Nat} (h:¬ ∃ i,ρ i=j):(Gg ρ V V1 n).ι j=V.ι j:=dif_neg h
theorem KW {j:Nat} (h:¬ ∃ i,ρ i=j):(Gg ρ V V1 n).κ j=V.κ j:=dif_neg h
theorem backV_cu' {j:Nat} (h:¬ ∃ i,ρ i=j):(Gg ρ V V1 n).cu j=V.cu j:=dif_neg h
end
section
variable {E:Env} {V V1:Vu} {hp hp0 hp1 hpF:List (Nat×HB)} {tk tk0 tk1 tkF:List (Nat×Option Tok)} {w w':World} {ρ:Nat→Nat} {nx0 n:Nat}
theorem HRel.part (inj:∀ i j,ρ i=ρ j→i=j) (h:HRel E V (YN ρ hp0) (Zn ρ tk0) w) (b0:hpBelow nx0 hp0) (c0:tkBelow nx0 tk0) :
  HRel ⟨E.P,w,W7 V (YN ρ hp0) (Zn ρ tk0),pull ρ V nx0⟩ (pull ρ V nx0) hp0 tk0 w:=by
 have eH:∀ i B,lk hp0 i=some B→lk (YN ρ hp0) (ρ i)=some (B.ren ρ):=fun i B hi=>by
  have:=lk_ren (f:=HB.ren ρ) inj hp0 i
  rw [hi] at this;exact this
 have eT:∀ i T,lk tk0 i=some T→lk (Zn ρ tk0) (ρ i)=some T:=fun i T hi=>by
  have:=lk_ren (f:=fun x:Option Tok=>x) inj tk0 i
  rw [hi] at this;exact this
 refine ⟨ExtM.refl _ _,Vu.Le.refl _ _,h.sz,fun b o hs=>.inl hs,fun i B hi=>?_,fun i j A B hi hj e=>?_,fun i B hi=>⟨.inr (.inl ⟨ρ i,_,eH i B hi,J⟩),(h.new _ _ (eH i B hi)).2⟩,fun i T hi=>?_,fun i j T U g hi hj ei ej=>?_⟩
 ·obtain ⟨h1,h2⟩:=b0.get i B hi
  obtain ⟨-,o,h3,h4⟩:=h.own _ _ (eH i B hi)
  exact ⟨h1,o,h3,h4.pull h2⟩
 ·exact inj _ _ (h.inj _ _ _ _ (eH i A hi) (eH j B hj) e)
 ·obtain ⟨-,h2,xs,h3,h4⟩:=h.tok _ _ (eT i _ hi)
  exact ⟨c0.get i _ hi,h2,xs,h3,fun g hg=>⟨.inr (.inr ⟨ρ i,T,eT i _ hi,hg⟩),(h4 g hg).2.1,fun j B hj=>(h4 g hg).2.2 _ _ (eH j B hj)⟩⟩
 ·exact inj _ _ (h.tki _ _ T U g (eT i _ hi) (eT j _ hj) ei ej)
theorem HRel.turn (inj:∀ i j,ρ i=ρ j→i=j) (h:HRel E V hp tk w) (hh:hpLe hp (YN ρ hp0)) (ht:tkLe tk (Zn ρ tk0)) (hhF:hpLe hp hpF) (htF:tkLe tk tkF)
  (old:∀ i,i < nx0→ρ i < V.nx) (new:∀ i,nx0≤i→ρ i=V.nx+(i - nx0)) (dF:∀ i B,lk hpF i=some B→∀ k,k < nx0→ρ k ≠ i) (dT:∀ i T,lk tkF i=some (some T)→∀ k,k < nx0→ρ k ≠ i)
  (b0:hpBelow nx0 hp0) (c0:tkBelow nx0 tk0) (hn:V1.nx+V.nx=n+nx0) (hle:nx0≤V1.nx)
  (H:HRel ⟨E.P,w,W7 V (YN ρ hp0) (Zn ρ tk0),pull ρ V nx0⟩ V1 hp1 tk1 w') :
  HRel E (Gg ρ V V1 n) (YN ρ hp1++hpF) (Zn ρ tk1++tkF) w'∧V.Le (Gg ρ V V1 n) w w'∧Via ρ V1 (Gg ρ V V1 n):=by
 have L:=H.le0
 have h0:=h.forgetLe hh ht
 have hF:=h.forgetLe hhF htF
 have eHi:∀ {l:List (Nat×HB)} {j B},lk (YN ρ l) j=some B→∃ i x,ρ i=j∧lk l i=some x∧B=x.ren ρ:=fun hj=>lk_ren_inv inj hj
 have eTi:∀ {l:List (Nat×Option Tok)} {j T},lk (Zn ρ l) j=some T→∃ i x,ρ i=j∧lk l i=some x∧T=x:=fun hj=>lk_ren_inv (f:=fun x:Option Tok=>x) inj hj
 have pE:∀ k,W7 V (YN ρ hp0) (Zn ρ tk0) k→E.w0.heap.size≤k∨E.M k:=by
  rintro k (⟨i,B,hi,rfl⟩ | ⟨i,T,hi,hg⟩)
  ·exact (h0.new i B hi).1
  ·obtain ⟨-,-,xs,-,h4⟩:=h0.tok i T hi
   exact (h4 k hg).1
 have Fl:∀ i B,lk hpF i=some B→V.ι i < w.heap.size:=fun i B hi=>by
  obtain ⟨-,o,ho,-⟩:=hF.own i B hi
  exact Ze ho
 have Tl:∀ i T g,lk tkF i=some (some T)→(V.κ i T.n).ownBlock=some g→g < w.heap.size:=fun i T g hi hg=>by
  obtain ⟨-,-,xs,h3,-⟩:=hF.tok i T hi
  exact (h3.1.lt g hg).2
 have nF:∀ i,i < V.nx→(∀ k,k < nx0→ρ k ≠ i)→¬ ∃ k,ρ k=i:=by
  rintro i hi hk ⟨k,hk2⟩
  rcases Nat.lt_or_ge k nx0 with h1 | h1
  ·exact hk k h1 hk2
  ·rw [new k h1] at hk2;omega
 have Fn:∀ i B,lk hpF i=some B→¬ ∃ k,ρ k=i:=fun i B hi=>nF i (hF.own i B hi).1 (dF i B hi)
 have Tn:∀ i T,lk tkF i=some (some T)→¬ ∃ k,ρ k=i:=fun i T hi=>nF i (hF.tok i T hi).1 (dT i T hi)
 have Fp:∀ i B,lk hpF i=some B→¬ W7 V (YN ρ hp0) (Zn ρ tk0) (V.ι i):=by
  rintro i B hi (⟨j,C,hj,e⟩ | ⟨j,T,hj,hg⟩)
  ·obtain ⟨x,hx,-⟩:=hh.get j C hj
   obtain ⟨y,hy,-⟩:=hhF.get i B hi
   have:=h.inj j i x y hx hy e
   subst this
   obtain ⟨k,-,hk,-⟩:=eHi hj
   exact Fn _ B hi ⟨k,hk⟩
  ·obtain ⟨y,hy,-⟩:=hhF.get i B hi
   obtain ⟨-,-,xs,-,h4⟩:=h.tok j T (ht.get j T hj)
   exact (h4 _ hg).2.2 i y hy J
 have Tp:∀ i T g,lk tkF i=some (some T)→(V.κ i T.n).ownBlock=some g→¬ W7 V (YN ρ hp0) (Zn ρ tk0) g:=by
  rintro i T g hi hg (⟨j,C,hj,e⟩ | ⟨j,U,hj,hg'⟩)
  ·obtain ⟨x,hx,-⟩:=hh.get j C hj
   obtain ⟨-,-,xs,-,h4⟩:=h.tok i T (htF.get i T hi)
   exact (h4 _ hg).2.2 j x hx e
  ·have:=h.tki i j T U g (htF.get i T hi) (ht.get j U hj) hg hg'
   subst this
   obtain ⟨k,-,hk,-⟩:=eTi hj
   exact Tn _ T hi ⟨k,hk⟩
 have S1:∀ b o,V1.S b o→V.S b o∨w.heap.size≤b∨W7 V (YN ρ hp0) (Zn ρ tk0) b:=H.sub
 have nn:∀ i,i < V1.nx→ρ i < n:=fun i hi=>by
  rcases Nat.lt_or_ge i nx0 with h1 | h1
  ·have:=old i h1;omega
  ·rw [new i h1];omega
 have A2:Via ρ V1 (Gg ρ V V1 n):=⟨fun i hi=>⟨nn i hi,ZT inj i⟩,fun i hi=>backV_cu inj i,fun i hi=>X1 inj i,fun b o hs=>hs⟩
 have isNew:∀ k,ρ k < V.nx→k < nx0:=fun k hk=>by
  rcases Nat.lt_or_ge k nx0 with h1 | h1
  ·exact h1
  ·rw [new k h1] at hk;omega
 have A1:V.Le (Gg ρ V V1 n) w w':=by
  refine ⟨by show V.nx≤n;omega,fun i hi=>?_,fun i hi=>?_,fun i hi m hm=>?_,L.S,L.cell,L.dk⟩
  ·by_cases hq:∃ k,ρ k=i
   ·obtain ⟨k,rfl⟩:=hq
    rw [ZT inj];exact L.ι k (isNew k hi)
   ·exact ZE hq
  ·by_cases hq:∃ k,ρ k=i
   ·obtain ⟨k,rfl⟩:=hq
    rw [backV_cu inj];exact L.cu k (isNew k hi)
   ·rw [backV_cu' hq];exact Nat.le_refl _
  ·by_cases hq:∃ k,ρ k=i
   ·obtain ⟨k,rfl⟩:=hq
    rw [X1 inj];exact L.κ k (isNew k hi) m hm
   ·rw [KW hq]
 have hsize:w.heap.size≤w'.heap.size:=H.ext.size
 have keep:∀ k,k < w.heap.size→¬ W7 V (YN ρ hp0) (Zn ρ tk0) k→w'.heap[k]?=w.heap[k]?:=H.ext.block
 have inE:∀ k,(w.heap.size≤k∨W7 V (YN ρ hp0) (Zn ρ tk0) k)→E.w0.heap.size≤k∨E.M k:=fun k hk=>by
  rcases hk with h1 | h1
  ·exact .inl (Nat.le_trans h.ext.size h1)
  ·exact pE k h1
 refine ⟨⟨?_,h.le0.trans A1,H.sz,?_,?_,?_,?_,?_,?_⟩,A1,A2⟩
 ·refine ⟨H.ext.os.trans h.ext.os,H.ext.tape.trans h.ext.tape,H.ext.output.trans h.ext.output,Nat.le_trans h.ext.size hsize,fun k hk hM=>?_⟩
  refine (keep k (Nat.lt_of_lt_of_le hk h.ext.size) fun hp=>?_).trans (h.ext.block k hk hM)
  rcases pE k hp with h1 | h1
  ·omega
  ·exact hM h1
 ·intro b o hs
  rcases S1 b o hs with h1 | h1
  ·exact h.sub b o h1
  ·exact .inr (inE b h1)
 ·intro i B hi
  rcases YH hi with hi | hi
  ·obtain ⟨k,x,rfl,hk,rfl⟩:=eHi hi
   obtain ⟨h1,o,h3,h4⟩:=H.own k x hk
   exact ⟨nn k h1,o,by rw [ZT inj];exact h3,h4.via A2⟩
  ·obtain ⟨h1,o,h3,h4⟩:=hF.own i B hi
   exact ⟨by show i < n;omega,o,by rw [ZE (Fn i B hi),keep _ (Fl i B hi) (Fp i B hi)];exact h3,h4.mono A1⟩
 ·have mix:∀ i j A B,lk (YN ρ hp1) i=some A→lk hpF j=some B→(Gg ρ V V1 n).ι i=(Gg ρ V V1 n).ι j→False:=fun i j A B hi hj e=>by
   obtain ⟨k,x,rfl,hk,-⟩:=eHi hi
   rw [ZT inj,ZE (Fn j B hj)] at e
   rcases (H.new k x hk).1 with h2 | h2
   ·rw [e] at h2
    exact absurd h2 (Nat.not_le.2 (Fl j B hj))
   ·rw [e] at h2
    exact Fp j B hj h2
  intro i j A B hi hj e
  rcases YH hi with hi | hi <;> rcases YH hj with hj | hj
  ·obtain ⟨k,x,rfl,hk,-⟩:=eHi hi
   obtain ⟨k',x',rfl,hk',-⟩:=eHi hj
   rw [ZT inj,ZT inj] at e
   rw [H.inj k k' x x' hk hk' e]
  ·exact (mix i j A B hi hj e).elim
  ·exact (mix j i B A hj hi e.symm).elim
  ·rw [ZE (Fn i A hi),ZE (Fn j B hj)] at e
   exact hF.inj i j A B hi hj e
 ·intro i B hi
  rcases YH hi with hi | hi
  ·obtain ⟨k,x,rfl,hk,-⟩:=eHi hi
   obtain ⟨h2,h3⟩:=H.new k x hk
   rw [ZT inj]
   exact ⟨inE _ h2,h3⟩
  ·obtain ⟨h2,h3⟩:=hF.new i B hi
   rw [ZE (Fn i B hi)]
   refine ⟨h2,fun o hs=>?_⟩
   rcases S1 _ o hs with h4 | h4 | h4
   ·exact h3 o h4
   ·exact absurd h4 (Nat.not_le.2 (Fl i B hi))
   ·exact Fp i B hi h4
 ·intro i T hi
  rcases YH hi with hi | hi
  ·obtain ⟨k,x,rfl,hk,e⟩:=eTi hi
   subst e
   obtain ⟨h1,h2,xs,h3,h4⟩:=H.tok k T hk
   refine ⟨nn k h1,by rw [backV_cu inj];exact h2,xs,⟨by rw [X1 inj];exact h3.1,h3.2⟩,fun g hg=>?_⟩
   rw [X1 inj] at hg
   obtain ⟨h5,h6,h7⟩:=h4 g hg
   refine ⟨inE g h5,h6,fun j B hj=>?_⟩
   rcases YH hj with hj | hj
   ·obtain ⟨k',x',rfl,hk',-⟩:=eHi hj
    rw [ZT inj];exact h7 k' x' hk'
   ·intro e
    rw [ZE (Fn j B hj)] at e
    rcases h5 with h5 | h5
    ·have:=Fl j B hj
     rw [e] at this
     exact absurd h5 (Nat.not_le.2 this)
    ·exact Fp j B hj (by rw [e];exact h5)
  ·have hq:=Tn i T hi
   obtain ⟨h1,h2,xs,h3,h4⟩:=hF.tok i T hi
   refine ⟨by show i < n;omega,by rw [backV_cu' hq];exact h2,xs,?_,fun g hg=>?_⟩
   ·exact h3.keepW (congrFun (KW hq) T.n) (ownsRow_same h3.1 fun g hg=>keep g (Tl i T g hi hg) (Tp i T g hi hg)) A1.lx
   ·rw [KW hq] at hg
    obtain ⟨h5,h6,h7⟩:=h4 g hg
    refine ⟨h5,fun o hs=>?_,fun j B hj=>?_⟩
    ·rcases S1 _ o hs with h8 | h8 | h8
     ·exact h6 o h8
     ·exact absurd h8 (Nat.not_le.2 (Tl i T g hi hg))
     ·exact absurd h8 (Tp i T g hi hg)
    ·rcases YH hj with hj | hj
     ·intro e
      obtain ⟨k',x',rfl,hk',-⟩:=eHi hj
      rw [ZT inj] at e
      rcases (H.new k' x' hk').1 with h9 | h9
      ·rw [e] at h9
       exact absurd h9 (Nat.not_le.2 (Tl i T g hi hg))
      ·rw [e] at h9
       exact Tp i T g hi hg h9
     ·rw [ZE (Fn j B hj)];exact h7 j B hj
 ·have mix:∀ i j T U g,lk (Zn ρ tk1) i=some (some T)→lk tkF j=some (some U)→((Gg ρ V V1 n).κ i T.n).ownBlock=some g→((Gg ρ V V1 n).κ j U.n).ownBlock=some g→False:=fun i j T U g hi hj ei ej=>by
   obtain ⟨k,x,rfl,hk,e⟩:=eTi hi
   subst e
   rw [X1 inj] at ei
   rw [KW (Tn j U hj)] at ej
   obtain ⟨-,-,xs,-,h4⟩:=H.tok k T hk
   rcases (h4 g ei).1 with h5 | h5
   ·exact absurd h5 (Nat.not_le.2 (Tl j U g hj ej))
   ·exact Tp j U g hj ej h5
  intro i j T U g hi hj ei ej
  rcases YH hi with hi | hi <;> rcases YH hj with hj | hj
  ·obtain ⟨k,x,rfl,hk,e⟩:=eTi hi
   subst e
   obtain ⟨k',x',rfl,hk',e⟩:=eTi hj
   subst e
   rw [X1 inj] at ei ej
   rw [H.tki k k' T U g hk hk' ei ej]
  ·exact (mix i j T U g hi hj ei ej).elim
  ·exact (mix j i U T g hj hi ej ei).elim
  ·rw [KW (Tn i T hi)] at ei
   rw [KW (Tn j U hj)] at ej
   exact hF.tki i j T U g hi hj ei ej
end
theorem tkBelow_all {m:Nat}:∀ {l:List (Nat×Option Tok)},(l.all fun p=>Nat.blt p.1 m)=true→tkBelow m l
  | [],_=>trivial
  | (i,x)::l,h=>by
    rw [List.all_cons,Bool.and_eq_true] at h
    exact ⟨GZ h.1,tkBelow_all h.2⟩
def Uw:List Nat→Bool
 | []=>true
 | x::l=>cond (l.any fun y=>Nat.beq x y) false (Uw l)
theorem nodupN_ok:∀ {l:List Nat},Uw l=true→l.Nodup
 | [],_=>List.nodup_nil
 | x::l,h=>by
  unfold Uw at h
  cases h1:(l.any fun y=>Nat.beq x y) with
  | true=>rw [h1] at h;cases h
  | false =>
   rw [h1] at h
   refine List.nodup_cons.2 ⟨fun hm=>?_,nodupN_ok h⟩
   have:=List.any_eq_false.1 h1 x hm
   simp at this
def UT {α:Type} (rs:List Nat) (l:List (Nat×α)):Bool:=l.all fun p=>rs.all fun q=>cond (Nat.beq q p.1) false true
theorem apartB_ok {α:Type} {rs:List Nat} {l:List (Nat×α)} (h:UT rs l=true) {i:Nat} {x:α} (hi:lk l i=some x):i∉rs:=fun hm=>by
 have h1:=List.all_eq_true.1 (List.all_eq_true.1 h _ (lk_memF hi)) i hm
 have h2:Nat.beq i i=true:=by simp
 dsimp only at h1
 rw [h2] at h1;cases h1
theorem Jj {E:Env} {st:St} {dd:Option Tmp} {ty:TypeId} {pos:String} {af:Array Edge} {g:Option (Nat×Bool)} {x:Operand} {f:FuncId} {caps:List (Nat×Nat)} {ars:Array Operand} {args args0:List AV} {ats:Array TypeId} {res res2:TV} {hp0 hp1 hp1' hpF:List (Nat×HB)} {tk0 tk1 tk1' tkF:List (Nat×Option Tok)} {nx0 nx1 nx2 n:Nat}
  (rs:List Nat) (hx:ev st.tm x=some (.v (.one (.fn f caps)))) (ha:Zx st.tm ars.toList=some args)
  (hc:CallM E.P f args0 ⟨hp0,tk0,nx0⟩ res ⟨hp1,tk1,nx1⟩) (hst:st.nx=n) (he:args++WH caps=args0.map (AV.ren (Ul rs n))) (e3:YN (Ul rs n) hp1=hp1') (e4:Zn (Ul rs n) tk1=tk1') (e5:res.ren (Ul rs n)=res2)
  (hh:hpLe st.hp (YN (Ul rs n) hp0)) (ht:tkLe st.tk (Zn (Ul rs n) tk0)) (hhF:hpLe st.hp hpF) (htF:tkLe st.tk tkF) (hl:Nat.beq rs.length nx0=true) (hnd:Uw rs=true) (hlt:(rs.all fun j=>Nat.blt j n)=true) (d1:UT rs hpF=true) (d2:UT rs tkF=true)
  (b0:hpBelow nx0 hp0) (c0:(tk0.all fun p=>Nat.blt p.1 nx0)=true) (ba:(args0.all fun y=>y.belowB nx0)=true) (hle:Nat.ble nx0 nx1=true) (hn:Nat.beq (nx1+n) (nx2+nx0)=true) :
  OpOK E ⟨dd,.call { callee:=.value x,args:=ars,argTypes:=ats },ty,pos,af,g⟩ st res2 ⟨hp1'++hpF,tk1'++tkF,nx2⟩:=by
 subst hst e3 e4 e5
 have c0':=tkBelow_all c0
 have hl':rs.length=nx0:=Nat.eq_of_beq_eq_true hl
 have hlt':∀ j∈rs,j < st.nx:=fun j hj=>GZ (List.all_eq_true.1 hlt j hj)
 have inj:∀ i j,Ul rs st.nx i=Ul rs st.nx j→i=j:=fun i j h=>rho_inj (nodupN_ok hnd) hlt' h
 intro V a w hr ro n K Q hK
 refine ⟨fun _ _=>trivial,?_⟩
 rw [Oper.semAt_eq _ _ _ (by intro c h;cases h)]
 obtain ⟨hv1,hv2⟩:=hr.ev hx
 have hrun:(execOp a.eval ⟨dd,.call { callee:=.value x,args:=ars,argTypes:=ats },ty,pos,af,g⟩).run E.P w=.ok (.enter f (ars.map a.eval++(caps.map fun p=>Value.pointer (some ⟨V.ι p.1,p.2,none⟩)).toArray)) w:=by
  have:=hc.1 (ars.map a.eval++(caps.map fun p=>Value.pointer (some ⟨V.ι p.1,p.2,none⟩)).toArray) w
  simp [execOp,resolve,hv2,Deferred.ofValue,invoke]
  simpa using this
 rw [hrun]
 refine ⟨(by intro h;cases h),?_⟩
 have h0:=(hr.h.forgetLe hh ht).part inj b0 c0'
 have har:argsRel (pull (Ul rs st.nx) V nx0) w args0 (ars.map a.eval++(caps.map fun p=>Value.pointer (some ⟨V.ι p.1,p.2,none⟩)).toArray):=by
  obtain ⟨h1,h2⟩:=(Zq hr ha).append (GD hv1)
  rw [he] at h1 h2
  refine ⟨by simpa using h1,fun i y hy=>?_⟩
  obtain ⟨u,hu,hyu⟩:=h2 i (y.ren _) (by rw [List.getElem?_map,hy];rfl)
  exact ⟨u,hu,hyu.pull (ZX (List.all_eq_true.1 ba y (List.mem_of_getElem? hy)))⟩
 have hc':CallsIn Fence.wide (n - 1) E.P f _ w _:=callsIn_wide.2 (hc.2 ⟨E.P,w,W7 V _ _,pull (Ul rs st.nx) V nx0⟩ _ w _ rfl h0 rfl har)
 refine CallsIn.mono (F:=FR ro) hc' ?_
 rintro e w' ⟨v,V1,rfl,H,hn1,L,hres⟩
 have hn2:=Nat.eq_of_beq_eq_true hn
 have hnx:=hr.nx
 dsimp only at hn1
 obtain ⟨H2,L2,L3⟩:=hr.h.turn (n:=nx2) inj hh ht hhF htF (fun i hi=>by rw [hnx];exact hlt' _ (Gk (by omega))) (fun i hi=>by rw [Wf (by omega),hnx,hl'])
  (fun i B hi k hk e=>apartB_ok d1 hi (by rw [← e];exact Gk (by omega))) (fun i T hi k hk e=>apartB_ok d2 hi (by rw [← e];exact Gk (by omega))) b0 c0' (by rw [hn1,hnx];exact hn2) (by rw [hn1];exact Nat.le_of_ble_eq_true hle) H
 exact hK _ w' v H2 J L2 (hres.via L3)
theorem qZ {ρ:Nat→Nat}:YN ρ []=[]:=rfl
theorem qB {ρ:Nat→Nat} {i j:Nat} {x y:HB} {r r':List (Nat×HB)} (h1:ρ i=j) (h2:x.ren ρ=y) (h:YN ρ r=r'):YN ρ ((i,x)::r)=(j,y)::r':=by
 subst h1 h2 h;rfl
section
variable {ρ:Nat→Nat} {hp:List (Nat×HB)} {tk:List (Nat×Option Tok)}
theorem gZ:hpLe hp (YN ρ []):=trivial
theorem gR {i:Nat} {x:HB} {r:List (Nat×HB)} (h:lk hp (ρ i)=some (x.ren ρ)) (l:hpLe hp (YN ρ r)):hpLe hp (YN ρ ((i,x)::r)):=⟨⟨_,h,.refl _⟩,l⟩
theorem jZ:tkLe tk (Zn ρ []):=trivial
theorem jR {i:Nat} {T:Tok} {r:List (Nat×Option Tok)} (h:lk tk (ρ i)=some (some T)) (l:tkLe tk (Zn ρ r)):tkLe tk (Zn ρ ((i,some T)::r)):=⟨fun T' e=>by cases e;exact h,l⟩
end
def Jr {σ β:Type} (F:(σ→Option β)→σ→Option β):Nat→σ→Option β
 | 0,_=>none
 | n+1,u=>F (Jr F n) u
theorem YV {σ β:Type} {F:(σ→Option β)→σ→Option β} {C:σ→β→Prop} (h:∀ rc:σ→Option β,(∀ u y,rc u=some y→C u y)→∀ u y,F rc u=some y→C u y):∀ (n:Nat) (u:σ) (y:β),Jr F n u=some y→C u y
 | 0,u,y,e=>by cases e
 | n+1,u,y,e=>h _ (YV h n) u y e
end Go.Proofs.Ytafddfoefeploaa
namespace Go.Proofs.Ytafddfoefeploaa
open Go.RowKit
def sB (l:List UInt8):ByteArray:=⟨l.toArray⟩
theorem WG (l:List UInt8):(sB l).size=l.length:=by simp [sB,ByteArray.size]
theorem sB_toList (l:List UInt8):(sB l).toList=l:=by rw [Go.Lib.toList_data];rfl
theorem sB_append (a b:List UInt8):sB a++sB b=sB (a++b):=by
 apply ByteArray.ext
 simp [sB,ByteArray.data_append]
theorem sB_get (l:List UInt8) (k:Nat):(sB l)[k]?=l[k]?:=by
 by_cases h:k < l.length
 ·rw [List.getElem?_eq_getElem h,getElem?_pos (sB l) k (by rw [WG];exact h)]
  simp [sB,ByteArray.get,ByteArray.getElem_eq_getElem_data]
 ·rw [List.getElem?_eq_none (by omega),getElem?_neg (sB l) k (by rw [WG];exact h)]
def strL (s:List UInt8):List C:=[.v (.string (sB s))]
instance:Enc (List UInt8):=⟨1,strL,fun l=>l.map strL,rfl,fun a b=>List.map_append,fun _=>rfl⟩
abbrev Jn (l:List UInt8):CA:=.d (.v (.string (sB l)))
abbrev TS (l:List UInt8):TV:=Wc (.string (sB l))
section
variable {E:Env} {st:St} {d:Option Tmp} {ty:TypeId} {pos:String} {af:Array Edge} {g:Option (Nat×Bool)}
theorem W4 {t t':TypeId} {x y:Operand} {a b:List UInt8} (hx:ev st.tm x=some (TS a)) (hy:ev st.tm y=some (TS b)) (hg:Nat.ble (a.length+b.length) 1000000000=true):RO E ⟨d,.binOp .add t x y t',ty,pos,af,g⟩ st (TS (a++b)):=by
 have:=RO.binStr (E:=E) (d:=d) (ty:=ty) (pos:=pos) (af:=af) (g:=g) (t:=t) (t':=t') (op:=.add) hx hy (v:=.string (sB a++sB b)) (by
  have h1:=Nat.le_of_ble_eq_true hg
  have h2:decide ((((sB a).size+(sB b).size:Nat):Int) > IntKind.i64.max)=false:=by
   rw [WG,WG]
   refine decide_eq_false ?_
   have:IntKind.i64.max=9223372036854775807:=by decide
   omega
  simp only [U3,h2,cond_false])
 rw [sB_append] at this
 exact this
theorem Xf {t t':TypeId} {x y:Operand} {a b:List UInt8} (hx:ev st.tm x=some (TS a)) (hy:ev st.tm y=some (TS b)):RO E ⟨d,.binOp .eql t x y t',ty,pos,af,g⟩ st (TB (a==b)):=by
 have:=RO.binStr (E:=E) (d:=d) (ty:=ty) (pos:=pos) (af:=af) (g:=g) (t:=t) (t':=t') (op:=.eql) hx hy (v:=.bool (a==b)) (by simp only [U3,sB_toList])
 exact this
theorem RO.neS {t t':TypeId} {x y:Operand} {a b:List UInt8} (hx:ev st.tm x=some (TS a)) (hy:ev st.tm y=some (TS b)):RO E ⟨d,.binOp .neq t x y t',ty,pos,af,g⟩ st (TB (!(a==b))):=by
 have:=RO.binStr (E:=E) (d:=d) (ty:=ty) (pos:=pos) (af:=af) (g:=g) (t:=t) (t':=t') (op:=.neq) hx hy (v:=.bool (!(a==b))) (by simp only [U3,sB_toList])
 exact this
theorem W3 {t:TypeId} {x:Operand} {a:List UInt8} (ht:Gq E.P t=true) (hx:ev st.tm x=some (TS a)):RO E ⟨d,.call { callee:=.builtin .len,args:=#[x],argTypes:=#[t]},ty,pos,af,g⟩ st (TI a.length):=by
 have:=RO.lenStr (E:=E) (d:=d) (ty:=ty) (pos:=pos) (af:=af) (g:=g) ht hx
 rw [WG] at this
 exact this
theorem RO.ixS {t:TypeId} {x y:Operand} {a:List UInt8} {k:IntKind} {m:Int} {b:UInt8} (ht:Gq E.P t=true) (hx:ev st.tm x=some (TS a)) (hy:ev st.tm y=some (Wc (.int k m))) (hv:JC a m=some b):RO E ⟨d,.index t x y,ty,pos,af,g⟩ st (Wc (.int .u8 b.toNat)):=by
 obtain ⟨j,hj,hl⟩:=idxS hv
 exact RO.indexStr ht hx hy hj (by rw [sB_get];exact hl)
end
end Go.Proofs.Ytafddfoefeploaa
namespace Go.Proofs.Ytafddfoefeploaa
open Go.RowKit
noncomputable section
abbrev Bs:=List UInt8
inductive Tm where
 | mk (kind index:Int) (name:Bs) (levels:List Lvl) (kids:List Tm)
def Tm.kind:Tm→Int | .mk k _ _ _ _=>k
def Tm.index:Tm→Int | .mk _ i _ _ _=>i
def Tm.name:Tm→Bs | .mk _ _ n _ _=>n
def Tm.levels:Tm→List Lvl | .mk _ _ _ l _=>l
def Tm.kids:Tm→List Tm | .mk _ _ _ _ ks=>ks
theorem Tm.kids_lt (t:Tm):SizeOf.sizeOf t.kids < SizeOf.sizeOf t:=by
 cases t
 simp only [Tm.kids,Tm.mk.sizeOf_spec]
 omega
def tmF:Nat→List Tm→List (List C)
 | 0,_=>[]
 | n+1,l=>l.map fun t=>[.v (.int .i64 t.kind),.v (.int .i64 t.index),.v (.string (sB t.name)),.sl 2 (Enc.encL t.levels),.sl 5 (tmF n t.kids)]
theorem tmF_eq:∀ (n m:Nat) (l:List Tm),SizeOf.sizeOf l≤n→SizeOf.sizeOf l≤m→tmF n l=tmF m l
 | 0,_,l,h,_=>by cases l <;> simp at h
 | _,0,l,_,h=>by cases l <;> simp at h
 | n+1,m+1,l,h1,h2=>by
  unfold tmF
  refine List.map_congr_left fun t ht=>?_
  have h3:=List.sizeOf_lt_of_mem ht
  have h4:=t.kids_lt
  rw [tmF_eq n m t.kids (by omega) (by omega)]
def tmL (l:List Tm):List (List C):=tmF (SizeOf.sizeOf l) l
def tmC (t:Tm):List C:=[.v (.int .i64 t.kind),.v (.int .i64 t.index),.v (.string (sB t.name)),.sl 2 (Enc.encL t.levels),.sl 5 (tmL t.kids)]
theorem WF (l:List Tm):tmL l=l.map tmC:=by
 unfold tmL
 have hpos:0 < SizeOf.sizeOf l:=by cases l <;> simp <;> omega
 obtain ⟨k,hk⟩:∃ k,SizeOf.sizeOf l=k+1:=⟨SizeOf.sizeOf l - 1,by omega⟩
 rw [hk]
 unfold tmF tmC
 refine List.map_congr_left fun t ht=>?_
 have h3:=List.sizeOf_lt_of_mem ht
 have h4:=t.kids_lt
 rw [tmF_eq k (SizeOf.sizeOf t.kids) t.kids (by omega) (Nat.le_refl _)]
 rfl
instance:Enc Tm:=⟨5,tmC,tmL,WF [],fun a b=>by rw [WF,WF,WF,List.map_append],fun x=>WF [x]⟩
structure BrF (α:Type) where
 ctor:Bs
 absurd:Bool
 tree:α
inductive Tr where
 | mk (kind:Int) (body:Tm) (var:Int) (branches:List (BrF Tr))
abbrev Br:=BrF Tr
def Tr.kind:Tr→Int | .mk k _ _ _=>k
def Tr.body:Tr→Tm | .mk _ b _ _=>b
def Tr.var:Tr→Int | .mk _ _ v _=>v
def Tr.branches:Tr→List Br | .mk _ _ _ l=>l
theorem Tr.branches_lt (t:Tr):SizeOf.sizeOf t.branches < SizeOf.sizeOf t:=by
 cases t
 simp only [Tr.branches,Tr.mk.sizeOf_spec]
 omega
theorem BrF.tree_lt (b:Br):SizeOf.sizeOf b.tree < SizeOf.sizeOf b:=by
 cases b
 simp only [BrF.mk.sizeOf_spec]
 omega
def brF:Nat→List Br→List (List C)
 | 0,_=>[]
 | n+1,l=>l.map fun b=>[.v (.string (sB b.ctor)),.v (.bool b.absurd),.v (.int .i64 b.tree.kind),.v (.int .i64 b.tree.body.kind),.v (.int .i64 b.tree.body.index),.v (.string (sB b.tree.body.name)),.sl 2 (Enc.encL b.tree.body.levels),.sl 5 (Enc.encL b.tree.body.kids),.v (.int .i64 b.tree.var),.sl 10 (brF n b.tree.branches)]
theorem brF_eq:∀ (n m:Nat) (l:List Br),SizeOf.sizeOf l≤n→SizeOf.sizeOf l≤m→brF n l=brF m l
 | 0,_,l,h,_=>by cases l <;> simp at h
 | _,0,l,_,h=>by cases l <;> simp at h
 | n+1,m+1,l,h1,h2=>by
  unfold brF
  refine List.map_congr_left fun t ht=>?_
  have h3:=List.sizeOf_lt_of_mem ht
  have h4:=t.tree_lt
  have h5:=t.tree.branches_lt
  rw [brF_eq n m t.tree.branches (by omega) (by omega)]
def brL (l:List Br):List (List C):=brF (SizeOf.sizeOf l) l
def brC (b:Br):List C:=[.v (.string (sB b.ctor)),.v (.bool b.absurd),.v (.int .i64 b.tree.kind),.v (.int .i64 b.tree.body.kind),.v (.int .i64 b.tree.body.index),.v (.string (sB b.tree.body.name)),.sl 2 (Enc.encL b.tree.body.levels),.sl 5 (Enc.encL b.tree.body.kids),.v (.int .i64 b.tree.var),.sl 10 (brL b.tree.branches)]
theorem WX (l:List Br):brL l=l.map brC:=by
 unfold brL
 have hpos:0 < SizeOf.sizeOf l:=by cases l <;> simp <;> omega
 obtain ⟨k,hk⟩:∃ k,SizeOf.sizeOf l=k+1:=⟨SizeOf.sizeOf l - 1,by omega⟩
 rw [hk]
 unfold brF brC
 refine List.map_congr_left fun t ht=>?_
 have h3:=List.sizeOf_lt_of_mem ht
 have h4:=t.tree_lt
 have h5:=t.tree.branches_lt
 rw [brF_eq k (SizeOf.sizeOf t.tree.branches) t.tree.branches (by omega) (Nat.le_refl _)]
 rfl
instance:Enc Br:=⟨10,brC,brL,WX [],fun a b=>by rw [WX,WX,WX,List.map_append],fun x=>WX [x]⟩
def trC (t:Tr):List C:=[.v (.int .i64 t.kind),.v (.int .i64 t.body.kind),.v (.int .i64 t.body.index),.v (.string (sB t.body.name)),.sl 2 (Enc.encL t.body.levels),.sl 5 (Enc.encL t.body.kids),.v (.int .i64 t.var),.sl 10 (Enc.encL t.branches)]
instance:Enc Tr:=⟨8,trC,fun l=>l.map trC,rfl,fun a b=>List.map_append,fun _=>rfl⟩
structure Ctr where
 name:Bs
 ty:Tm
def ctrC (c:Ctr):List C:=[.v (.string (sB c.name)),.v (.int .i64 c.ty.kind),.v (.int .i64 c.ty.index),.v (.string (sB c.ty.name)),.sl 2 (Enc.encL c.ty.levels),.sl 5 (Enc.encL c.ty.kids)]
instance:Enc Ctr:=⟨6,ctrC,fun l=>l.map ctrC,rfl,fun a b=>List.map_append,fun _=>rfl⟩
structure Rcr where
 params:Int
 ty:Tm
 rules:List Tm
def rcrC (r:Rcr):List C:=[.v (.int .i64 r.params),.v (.int .i64 r.ty.kind),.v (.int .i64 r.ty.index),.v (.string (sB r.ty.name)),.sl 2 (Enc.encL r.ty.levels),.sl 5 (Enc.encL r.ty.kids),.sl 5 (Enc.encL r.rules)]
instance:Enc Rcr:=⟨7,rcrC,fun l=>l.map rcrC,rfl,fun a b=>List.map_append,fun _=>rfl⟩
structure Fn where
 name:Bs
 ty:Tm
 arity:Int
 tree:Tr
def fnC (f:Fn):List C:=[.v (.string (sB f.name)),.v (.int .i64 f.ty.kind),.v (.int .i64 f.ty.index),.v (.string (sB f.ty.name)),.sl 2 (Enc.encL f.ty.levels),.sl 5 (Enc.encL f.ty.kids),.v (.int .i64 f.arity),
 .v (.int .i64 f.tree.kind),.v (.int .i64 f.tree.body.kind),.v (.int .i64 f.tree.body.index),.v (.string (sB f.tree.body.name)),.sl 2 (Enc.encL f.tree.body.levels),.sl 5 (Enc.encL f.tree.body.kids),.v (.int .i64 f.tree.var),.sl 10 (Enc.encL f.tree.branches)]
instance:Enc Fn:=⟨15,fnC,fun l=>l.map fnC,rfl,fun a b=>List.map_append,fun _=>rfl⟩
structure Dcl where
 kind:Int
 name:Bs
 params:Int
 ty:Tm
 value:Tm
 fixed:Int
 ctors:List Ctr
 rcr:Rcr
 funs:List Fn
def DP (d:Dcl):List C:=[.v (.int .i64 d.kind),.v (.string (sB d.name)),.v (.int .i64 d.params),
 .v (.int .i64 d.ty.kind),.v (.int .i64 d.ty.index),.v (.string (sB d.ty.name)),.sl 2 (Enc.encL d.ty.levels),.sl 5 (Enc.encL d.ty.kids),
 .v (.int .i64 d.value.kind),.v (.int .i64 d.value.index),.v (.string (sB d.value.name)),.sl 2 (Enc.encL d.value.levels),.sl 5 (Enc.encL d.value.kids),
 .v (.int .i64 d.fixed),.sl 6 (Enc.encL d.ctors),
 .v (.int .i64 d.rcr.params),.v (.int .i64 d.rcr.ty.kind),.v (.int .i64 d.rcr.ty.index),.v (.string (sB d.rcr.ty.name)),.sl 2 (Enc.encL d.rcr.ty.levels),.sl 5 (Enc.encL d.rcr.ty.kids),.sl 5 (Enc.encL d.rcr.rules),.sl 15 (Enc.encL d.funs)]
instance:Enc Dcl:=⟨23,DP,fun l=>l.map DP,rfl,fun a b=>List.map_append,fun _=>rfl⟩
structure Ent where
 kind:Int
 decl:Int
 item:Int
 params:Int
 ty:Tm
def entC (e:Ent):List C:=[.v (.int .i64 e.kind),.v (.int .i64 e.decl),.v (.int .i64 e.item),.v (.int .i64 e.params),.v (.int .i64 e.ty.kind),.v (.int .i64 e.ty.index),.v (.string (sB e.ty.name)),.sl 2 (Enc.encL e.ty.levels),.sl 5 (Enc.encL e.ty.kids)]
instance:Enc Ent:=⟨9,entC,fun l=>l.map entC,rfl,fun a b=>List.map_append,fun _=>rfl⟩
def DA:Tm:=.mk 0 0 [] [] []
def ent0:Ent:=⟨0,0,0,0,DA⟩
end
end Go.Proofs.Ytafddfoefeploaa
namespace Go.Proofs.Ytafddfoefeploaa
open Go.RowKit
class MK (κ:Type) extends BEq κ where
 ib:Bool
 val:κ→Value
 key:∀ a,GV ib (val a)=true
 eq:∀ a b,W8 (val a) (val b)=some (a==b)
class MV (β:Type) where
 av:β→AV
 z:β
 ren:∀ ρ x,(av x).ren ρ=av x
 below:∀ m x,(av x).below m
instance:MK Int:={ ib:=true,val:=fun n=>.int .i64 n,key:=fun _=>rfl,eq:=fun _ _=>rfl }
theorem sB_eq (a b:List UInt8):W8 (.string (sB a)) (.string (sB b))=some (a==b):=by
 show some (sB a==sB b)=some (a==b)
 congr 1
 show (a.toArray==b.toArray)=(a==b)
 rw [Bool.eq_iff_iff,beq_iff_eq,beq_iff_eq]
 exact ⟨fun h=>by have:=congrArg Array.toList h;simpa using this,fun h=>by rw [h]⟩
instance:MK (List UInt8):={ ib:=false,val:=fun s=>.string (sB s),key:=fun _=>rfl,eq:=sB_eq }
instance:MV Bool:=⟨fun b=>.one (dB b),false,fun _ _=>rfl,fun _ _=>trivial⟩
instance:MV Int:=⟨fun n=>.one (dI n),0,fun _ _=>rfl,fun _ _=>trivial⟩
noncomputable instance:MV Ent:=⟨fun e=>.agg (cE e),ent0,fun _ _=>rfl,fun m x y hy=>by
 obtain ⟨c,-,rfl⟩:=List.mem_map.1 hy
 trivial⟩
abbrev Qa (κ β:Type):=List (κ×β×Nat)×Nat
section
variable {κ β:Type} [MK κ] [MV β]
def QO (l:List (κ×β×Nat)):List (Value×AV×Nat):=l.map fun e=>(MK.val e.1,MV.av e.2.1,e.2.2)
def Yp (k:κ):List (κ×β×Nat)→Nat→Option (Nat×β)
 | [],_=>none
 | e::l,i=>cond (k==e.1) (some (i,e.2.1)) (Yp k l (i+1))
def ZZ (M:Qa κ β) (k:κ):Option β:=(Yp k M.1 0).map (·.2)
def Qn (M:Qa κ β) (k:κ):β:=(ZZ M k).getD MV.z
def YE (M:Qa κ β) (k:κ):Bool:=(ZZ M k).isSome
def J2 (M:Qa κ β) (k:κ) (v:β):Qa κ β:=match Yp k M.1 0 with
 | some (j,_)=>(M.1.modify j fun e=>(k,v,e.2.2),M.2)
 | none=>(M.1++[(k,v,M.2)],M.2+1)
def gmNil:Qa κ β:=([],0)
theorem mpBelow_gm {m:Nat} {l:List (κ×β×Nat)}:mpBelow m (QO l):=fun e he=>by
 obtain ⟨x,-,rfl⟩:=List.mem_map.1 he
 exact MV.below m x.2.1
theorem findE_gm (k:κ):∀ (l:List (κ×β×Nat)) (i:Nat),UQ (MK.val k) (QO l) i=some ((Yp k l i).map fun p=>(p.1,MV.av p.2))
 | [],i=>rfl
 | e::l,i=>by
  have ih:=findE_gm k l (i+1)
  simp only [QO] at ih
  simp only [QO,List.map_cons,UQ,MK.eq,Yp]
  cases h:k==e.1 with
  | true=>rfl
  | false=>simp only [cond_false];exact ih
theorem gmE_modify (l:List (κ×β×Nat)) (j:Nat) (k:κ) (v:β):QO (l.modify j fun e=>(k,v,e.2.2))=(QO l).modify j fun e=>(MK.val k,MV.av v,e.2.2):=by
 unfold QO
 apply List.ext_getElem?
 intro i
 rw [List.getElem?_map,List.getElem?_modify,List.getElem?_modify,List.getElem?_map]
 cases l[i]? with
 | none=>by_cases h:j=i <;> simp [h]
 | some e=>by_cases h:j=i <;> simp [h]
theorem gmE_ren (ρ:Nat→Nat) (l:List (κ×β×Nat)):(QO l).map (fun e=>(e.1,e.2.1.ren ρ,e.2.2))=QO l:=by
 unfold QO
 rw [List.map_map]
 refine List.map_congr_left fun e _=>?_
 show (MK.val e.1,(MV.av e.2.1).ren ρ,e.2.2)=_
 rw [MV.ren]
section
variable {E:Env} {st:St} {dd:Option Tmp} {ty:TypeId} {pos:String} {af:Array Edge} {g:Option (Nat×Bool)}
theorem RO.subV {o:Oper} {x y:AV} (h:RO E o st (.v x)) (hs:∀ V w v,x.rel V w v→y.rel V w v):RO E o st (.v y):=⟨h.1,fun V a w hr=>let ⟨v,h1,h2⟩:=h.2 V a w hr;⟨v,h1,hs V w v h2⟩⟩
theorem RO.subT {o:Oper} {x y z:AV} (h:RO E o st (.tup [x,z])) (hs:∀ V w v,x.rel V w v→y.rel V w v):RO E o st (.tup [y,z]):=⟨h.1,fun V a w hr=>by
 obtain ⟨v,h1,vs,h2,h3,h4⟩:=h.2 V a w hr
 refine ⟨v,h1,vs,h2,h3,fun i u hu=>?_⟩
 match i,hu with
 | 0,hu =>
  cases hu
  obtain ⟨q,h5,h6⟩:=h4 0 _ rfl
  exact ⟨q,h5,hs V w q h6⟩
 | 1,hu =>
  cases hu
  exact h4 1 _ J⟩
def ZOk (β:Type) [MV β] (z:AV):Prop:=∀ V w v,z.rel V w v→(MV.av (MV.z:β)).rel V w v
theorem ZG {t:TypeId} {z:AV} {o1 o2:Operand} {i:Nat} {M:Qa κ β} {k:κ} (ht:W6 E.P t=some (MK.ib κ,z)) (hz:ZOk β z) (h1:ev st.tm o1=some (.v (.one (.mp i)))) (h2:ev st.tm o2=some (Wc (MK.val k))) (hi:lk st.hp i=some (.mp (QO M.1) M.2)) :
  RO E ⟨dd,.lookup t o1 o2 true,ty,pos,af,g⟩ st (.tup [MV.av (Qn M k),.one (.d (.v (.bool (YE M k))))]):=by
 have hf:=findE_gm k M.1 0
 unfold Qn YE ZZ
 cases h:Yp k M.1 0 with
 | none=>rw [h] at hf;exact RO.subT (RO.lookup (E:=E) (dd:=dd) (ty:=ty) (pos:=pos) (af:=af) (g:=g) ht h1 h2 (MK.key k) hi hf true) hz
 | some p=>rw [h] at hf;exact RO.lookup (E:=E) (dd:=dd) (ty:=ty) (pos:=pos) (af:=af) (g:=g) ht h1 h2 (MK.key k) hi hf true
theorem YT {t:TypeId} {z:AV} {o1 o2:Operand} {i:Nat} {M:Qa κ β} {k:κ} (ht:W6 E.P t=some (MK.ib κ,z)) (hz:ZOk β z) (h1:ev st.tm o1=some (.v (.one (.mp i)))) (h2:ev st.tm o2=some (Wc (MK.val k))) (hi:lk st.hp i=some (.mp (QO M.1) M.2)) :
  RO E ⟨dd,.lookup t o1 o2 false,ty,pos,af,g⟩ st (.v (MV.av (Qn M k))):=by
 have hf:=findE_gm k M.1 0
 unfold Qn ZZ
 cases h:Yp k M.1 0 with
 | none=>rw [h] at hf;exact RO.subV (RO.lookup (E:=E) (dd:=dd) (ty:=ty) (pos:=pos) (af:=af) (g:=g) ht h1 h2 (MK.key k) hi hf false) hz
 | some p=>rw [h] at hf;exact RO.lookup (E:=E) (dd:=dd) (ty:=ty) (pos:=pos) (af:=af) (g:=g) ht h1 h2 (MK.key k) hi hf false
theorem Jh {t:TypeId} {z:AV} {o1 o2 o3:Operand} {i:Nat} {M:Qa κ β} {k:κ} {v:β} (ht:W6 E.P t=some (MK.ib κ,z)) (h1:ev st.tm o1=some (.v (.one (.mp i)))) (h2:ev st.tm o2=some (Wc (MK.val k))) (h3:ev st.tm o3=some (.v (MV.av v))) (hi:lk st.hp i=some (.mp (QO M.1) M.2)) (hdd:dd=none) :
  OpOK E ⟨dd,.mapUpdate t o1 o2 o3,ty,pos,af,g⟩ st (.tup []) ⟨(i,.mp (QO (J2 M k v).1) (J2 M k v).2)::JN i st.hp,st.tk,st.nx⟩:=by
 have hf:=findE_gm k M.1 0
 unfold J2
 cases h:Yp k M.1 0 with
 | none =>
  rw [h] at hf
  have e:QO (M.1++[(k,v,M.2)])=QO M.1++[(MK.val k,MV.av v,M.2)]:=by simp [QO]
  dsimp only
  rw [e];exact OpOK.mapUpdate (E:=E) (dd:=dd) (ty:=ty) (pos:=pos) (af:=af) (g:=g) ht h1 h2 h3 (MK.key k) hi hf hdd
 | some p =>
  rw [h] at hf
  dsimp only
  rw [gmE_modify];exact OpOK.mapUpdate (E:=E) (dd:=dd) (ty:=ty) (pos:=pos) (af:=af) (g:=g) ht h1 h2 h3 (MK.key k) hi hf hdd
theorem Z4 (κ β:Type) [MK κ] [MV β] {t:TypeId}:OpOK E ⟨dd,.makeMap t none,ty,pos,af,g⟩ st (.v (.one (.mp st.nx))) ⟨(st.nx,.mp (QO (gmNil:Qa κ β).1) (gmNil:Qa κ β).2)::st.hp,st.tk,st.nx+1⟩:=OpOK.makeMap
end
theorem bG {m i c:Nat} {xs:List (κ×β×Nat)} {r:List (Nat×HB)} (h:Nat.blt i m=true) (l:hpBelow m r):hpBelow m ((i,.mp (QO xs) c)::r):=⟨GZ h,mpBelow_gm,l⟩
theorem qG {ρ:Nat→Nat} {i j c:Nat} {xs:List (κ×β×Nat)} {r r':List (Nat×HB)} (h1:ρ i=j) (h:YN ρ r=r'):YN ρ ((i,.mp (QO xs) c)::r)=(j,.mp (QO xs) c)::r' :=
 qB h1 (by show HB.mp ((QO xs).map _) c=_;rw [gmE_ren]) h
theorem gG {ρ:Nat→Nat} {hp:List (Nat×HB)} {i c:Nat} {xs:List (κ×β×Nat)} {r:List (Nat×HB)} (h:lk hp (ρ i)=some (.mp (QO xs) c)) (l:hpLe hp (YN ρ r)):hpLe hp (YN ρ ((i,.mp (QO xs) c)::r)) :=
 gR (by show _=some (HB.mp ((QO xs).map _) c);rw [gmE_ren];exact h) l
end
theorem Xk:ZOk Bool (.one (.d (.v (.bool false)))):=fun _ _ _ h=>h
theorem asub_zok {β:Type} [MV β] {z:AV} (h:ASub z (MV.av (MV.z:β))):ZOk β z:=fun V w v hv=>(h.rel hv).mono (of_le (V:=V))
inductive Parts (st:St):List (Nat×Operand)→List (Nat×AV)→Prop
 | nil:Parts st [] []
 | cons {i:Nat} {o:Operand} {x:AV} {ps:List (Nat×Operand)} {xs:List (Nat×AV)} (h:ev st.tm o=some (.v x)) (t:Parts st ps xs):Parts st ((i,o)::ps) ((i,x)::xs)
theorem Parts.spec {st:St} {ps:List (Nat×Operand)} {xs:List (Nat×AV)} (h:Parts st ps xs):ps.length=xs.length∧∀ (j i:Nat) (x:AV),xs[j]?=some (i,x)→∃ o,ps[j]?=some (i,o)∧ev st.tm o=some (.v x):=by
 induction h with
 | nil=>exact ⟨rfl,fun j i x hx=>by simp at hx⟩
 | cons h t ih =>
  refine ⟨by simp [ih.1],fun j i x hx=>?_⟩
  cases j with
  | zero=>simp at hx;obtain ⟨rfl,rfl⟩:=hx;exact ⟨_,rfl,h⟩
  | succ j=>exact ih.2 j i x (by simpa using hx)
section
variable {E:Env} {st:St} {dd:Option Tmp} {ty:TypeId} {pos:String} {af:Array Edge} {g:Option (Nat×Bool)}
theorem Y0 {t:TypeId} {pl:List (Nat×Nat)} {zs:List Value} {parts:Array (Nat×Operand)} {avs:List (Nat×AV)} {ys:List CA} (ht:Yj E.P t pl zs) (hz:zs.all (·.oneCell')=true) (hp:Parts st parts.toList avs) (hf:Zp pl (zs.map fun z=>.d (.v z)) avs=some ys) :
  RO E ⟨dd,.build t parts,ty,pos,af,g⟩ st (.v (.agg ys)):=XV ht hz hp.spec.1 hp.spec.2 hf
end
end Go.Proofs.Ytafddfoefeploaa
namespace Go.Proofs.Ytafddfoefeploaa
open Go.RowKit
instance:EncLen Tm:=⟨fun t=>by cases t;rfl,Nat.succ_pos 4⟩
instance:EncLen Br:=⟨fun t=>by cases t;rfl,Nat.succ_pos 9⟩
instance:EncLen Tr:=⟨fun t=>rfl,Nat.succ_pos 7⟩
instance:EncLen Ctr:=⟨fun t=>rfl,Nat.succ_pos 5⟩
instance:EncLen Rcr:=⟨fun t=>rfl,Nat.succ_pos 6⟩
instance:EncLen Fn:=⟨fun t=>rfl,Nat.succ_pos 14⟩
instance:EncLen Dcl:=⟨fun t=>rfl,Nat.succ_pos 22⟩
instance:EncLen Ent:=⟨fun t=>rfl,Nat.succ_pos 8⟩
instance:EncLen (List UInt8):=⟨fun _=>rfl,Nat.succ_pos 0⟩
instance:EncLen Bool:=⟨fun _=>rfl,Nat.succ_pos 0⟩
instance {α:Type} [Enc α]:EncLen (List α):=⟨fun _=>rfl,Nat.succ_pos 0⟩
section
variable {E:Env} {st:St} {dd:Option Tmp} {ty:TypeId} {pos:String} {af:Array Edge} {g:Option (Nat×Bool)} {α:Type} [Enc α] [EncLen α]
theorem QN {t i:Nat} {T:TypeId} {x:Operand} (v:α) (ht:Jw E.P t=some (true,Enc.sz α)) (hx:ev st.tm x=some (.v (.one (.ptr i 0)))) (hi:lk st.hp i=some (.cells T (cE v))):RO E ⟨dd,.load t x,ty,pos,af,g⟩ st (.v (.agg (cE v))):=by
 have hl:(cE v).length=Enc.sz α:=by rw [List.length_map,EncLen.len]
 exact Qi ht hx hi (by rw [List.drop_zero,List.take_of_length_le (Nat.le_of_eq hl)]) hl
theorem Qv {t:Nat} {x:Operand} (v:α) (ht:Jw E.P t=some (true,Enc.sz α)) (hx:ev st.tm x=some (.v (.one (.pel (Enc.enc v) 0)))):RO E ⟨dd,.load t x,ty,pos,af,g⟩ st (.v (.agg (cE v))) :=
 Z3 ht hx (by rw [List.drop_zero,List.take_of_length_le (Nat.le_of_eq (EncLen.len v))]) (EncLen.len v)
theorem Qz {t i:Nat} {ag:Bool} {T:TypeId} {xs:List CA} {o1 o2:Operand} (v:α) (ht:Jw E.P t=some (ag,Enc.sz α)) (h1:ev st.tm o1=some (.v (.one (.ptr i 0)))) (h2:ev st.tm o2=some (.v (.agg (cE v)))) (hi:lk st.hp i=some (.cells T xs)) (hl:xs.length=Enc.sz α) (hdd:dd=none) :
  OpOK E ⟨dd,.store t o1 o2,ty,pos,af,g⟩ st (.tup []) ⟨(i,.cells T (cE v))::JN i st.hp,st.tk,st.nx⟩:=by
 have hc:(AV.agg (cE v)).cells.length=Enc.sz α:=by show (cE v).length=_;rw [List.length_map,EncLen.len]
 have:=Qt (dd:=dd) (ty:=ty) (pos:=pos) (af:=af) (g:=g) ht h1 h2 hi hc (by omega) hdd
 have e1:setL xs 0 (AV.agg (cE v)).cells=cE v:=by
  have:=KY (AV.agg (cE v)).cells xs [] (by rw [hc,hl])
  rw [List.append_nil,List.append_nil] at this
  exact this
 rw [e1] at this
 exact this
theorem csubs_all:∀ cs:List C,CSubs (cs.map CA.d) cs
 | []=>.nil
 | c::cs=>.cons (.d _) (csubs_all cs)
theorem fill1 {zs:List Value} (v:α) (hzl:zs.length=Enc.sz α):Zp (JL (Enc.sz α) 1) (JS zs 1) [(0,.agg (cE v))]=some (cE v):=by
 have h0:(JS zs 1).length=Enc.sz α:=by simp [JS,hzl]
 have h1:(cE v).length=Enc.sz α:=by rw [List.length_map,EncLen.len]
 have h2:(JL (Enc.sz α) 1)[0]?=some (0,Enc.sz α):=by simp [JL]
 have h3:setL (JS zs 1) 0 (cE v)=cE v:=by
  have:=KY (cE v) (JS zs 1) [] (by rw [h0,h1])
  rwa [List.append_nil,List.append_nil] at this
 simp only [Zp,h2]
 show cond (Nat.beq (cE v).length (Enc.sz α)&&Nat.ble (0+Enc.sz α) (JS zs 1).length) (some (setL (JS zs 1) 0 (cE v))) none=some (cE v)
 rw [h1,h0,h3,Nat.zero_add,Nat.beq_refl,Nat.ble_eq_true_of_le (Nat.le_refl _)]
 rfl
theorem OpOK.lit1CE (v:α) {t e:Nat} {zs:List Value} {o1:Operand} (ht:Jp E.P t=some (e,Enc.sz α)) (hze:JD E.P e=some zs) (hzl:zs.length=Enc.sz α) (hz:zs.all (·.oneCell')=true) (hlen:1 * Enc.sz α≤16777216)
  (h1:ev st.tm o1=some (.v (.agg (cE v)))) :
  OpOK E ⟨dd,.buildSlice t 1 #[(0,o1)],ty,pos,af,g⟩ st (.v (.one (.app st.nx (Enc.sz α) (Enc.encL [v])))) ⟨st.hp,(st.nx,some ⟨e,Enc.sz α,(Enc.encL [v]).length,[]⟩)::st.tk,st.nx+1⟩ :=
 Y4 v ht hze hzl hz EncLen.pos hlen h1 (fill1 v hzl) (csubs_all _) (EncLen.len v)
end
end Go.Proofs.Ytafddfoefeploaa
namespace Go.Proofs.Ytafddfoefeploaa
open Go.RowKit
def mayS (ops:Array Oper) (effs d:List Nat) (i:Nat):Bool :=
 d.all (fun e=>!((Do ops [e]).contains i))&&effs.all (fun e=>d.contains e||(e==i||!((Do ops [i]).contains e)))&&!(d.contains i)
def Di (d' d:List Nat) (i:Nat):Bool:=d'.all (fun e=>e==i||d.contains e)&&d.all (fun e=>d'.contains e)&&d'.contains i
def swB (ops:Array Oper) (effs:List Nat):Bool :=
 (List.range ops.size).all (fun i=>(JU ops i).all fun k=>decide (k < i))&&decide (WC ops).Nodup&&effs.all (fun e=>decide (e < ops.size))
structure SwInv (E:Env) (ops:Array Oper) (st:St) (fx:List (Nat×TV)) (effs:List Nat) (dns:List (List Nat)) (ms:List Mem) (listed:Array Bool) (a:Act) (w:World) (V:Vu) (j:Nat) (d:List Nat) (m:Mem):Prop where
 size:listed.size=ops.size
 closed:∀ i,listed.getD i false=true→∀ k∈JU ops i,listed.getD k false=true
 stage:dns[j]?=some d
 done:∀ e∈d,listed.getD e false=true
 todo:∀ e∈effs,e∉d→listed.getD e false=false
 mem:ms[j]?=some m
 rel:Rel E V ⟨WD (WC ops) st.tm,m.hp,m.tk,m.nx,st.nt,st.df⟩ a w
 fact:∀ i,listed.getD i false=true→∀ d x,YS ops i=some d→lk fx i=some x→x.rel V w (a.tmps.getD d undef)
 old:∀ t x,lk st.tm t=some x→(∀ k,YS ops k=some t→listed.getD k false=false)→x.rel V w (a.tmps.getD t undef)
section
variable {E:Env} {ops:Array Oper} {st:St} {fx:List (Nat×TV)} {effs:List Nat} {dns:List (List Nat)} {ms:List Mem} {listed:Array Bool} {a:Act} {w:World} {V:Vu} {j:Nat} {d:List Nat} {m:Mem}
theorem SwInv.depsRel (h:SwInv E ops st fx effs dns ms listed a w V j d m) {i:Nat} (hno:listed.getD i false=false) (hd:∀ k∈JU ops i,listed.getD k false=true):Rel E V (Y9 ops st fx i m) a w:=by
 refine ⟨h.rel.h,h.rel.nx,h.rel.nt,h.rel.df,fun t x hx=>?_⟩
 simp only [Y9,Kd] at hx
 split at hx
 ·rename_i y hy;cases hx
  obtain ⟨k,h1,h2,h3⟩:=GU _ t x hy
  exact h.fact k (hd k h1) t x h2 h3
 ·obtain ⟨h1,h2⟩:=lk_keep _ _ _ hx
  refine h.old t x h1 (fun k hk=>?_)
  cases hc:listed.getD k false with
  | false=>rfl
  | true =>
   have hk':k < ops.size:=by
    rcases Nat.lt_or_ge k ops.size with h3 | h3
    ·exact h3
    ·simp [YS,Array.getElem?_eq_none h3] at hk
   have:=h.closed k hc i (hides_no h2 hk hk')
   rw [hno] at this;cases this
theorem SwInv.may (h:SwInv E ops st fx effs dns ms listed a w V j d m) {i:Nat} (hlt:i < ops.size) (hno:listed.getD i false=false) (hd:∀ k∈JU ops i,listed.getD k false=true):mayS ops effs d i=true:=by
 have key:∀ e,e ≠ i→e∈Do ops [i]→listed.getD e false=true:=fun e he hm=>by
  have:=ancs_all (p:=fun x=>x=i∨listed.getD x false=true) (fun x hx k hk=>by
   rcases hx with rfl | hx
   ·exact .inr (hd k hk)
   ·exact .inr (h.closed x hx k hk)) (l:=[i]) (fun x hx=>.inl (by simpa using hx)) e hm
  exact this.resolve_left he
 simp only [mayS,Bool.and_eq_true,Bool.or_eq_true,Bool.not_eq_true',List.contains_eq_mem,decide_eq_true_eq,decide_eq_false_iff_not,List.all_eq_true,beq_iff_eq]
 refine ⟨⟨fun e he hc=>?_,fun e he=>?_⟩,fun hc=>?_⟩
 ·have:=ancs_all h.closed (l:=[e]) (fun i' hi'=>by simp at hi';subst hi';exact h.done _ he) i hc
  rw [hno] at this;cases this
 ·by_cases hed:e∈d
  ·exact .inl hed
  ·refine .inr ?_
   by_cases hei:e=i
   ·exact .inl hei
   ·refine .inr fun hc=>?_
    have h1:=key e hei hc
    have h2:=h.todo e he hed
    rw [h2] at h1;cases h1
 ·have:=h.done i hc
  rw [hno] at this;cases this
def SwOp (E:Env) (ops:Array Oper) (st:St) (fx:List (Nat×TV)) (effs:List Nat) (dns:List (List Nat)) (ms:List Mem) (i:Nat) (d:List Nat) (m:Mem):Prop :=
  ∃ o x,ops[i]?=some o∧lk fx i=some x∧W9 st o.dst=true ∧
    ((Ya ops (Y9 ops st fx i m).tm o=some true∧∃ m',OpOK E o (Y9 ops st fx i m) x m'∧((effs.contains i=true∧∃ (j':Nat) (d':List Nat),dns[j']?=some d'∧Di d' d i=true∧ms[j']?=some m')∨(effs.contains i=false∧m'=m))) ∨
     (Ya ops (Y9 ops st fx i m).tm o=some false∧x=.tup []∧effs.contains i=false))
theorem SwInv.step (h:SwInv E ops st fx effs dns ms listed a w V j d m) (hB:swB ops effs=true) {i:Nat} (hlt:i < ops.size) (hno:listed.getD i false=false) {V':Vu} {w':World} {v:Value} {o:Oper} {x:TV} (ho:ops[i]?=some o) (hx:lk fx i=some x) (hd:W9 st o.dst=true) {m':Mem} {j':Nat} {d':List Nat}
  (hj:(effs.contains i=true∧Di d' d i=true)∨(effs.contains i=false∧d'=d)) (hs:dns[j']?=some d') (hm:ms[j']?=some m') (H:HRel E V' m'.hp m'.tk w') (hn:V'.nx=m'.nx) (L:V.Le V' w w') (hxv:x.rel V' w' v) (hdeps:∀ k∈JU ops i,listed.getD k false=true) :
  SwInv E ops st fx effs dns ms (listed.setIfInBounds i true) (a.put o.dst v) w' V' j' d' m':=by
 have hsz:i < listed.size:=by rw [h.size];exact hlt
 have hget:∀ k,(listed.setIfInBounds i true).getD k false=if k=i then true else listed.getD k false:=fun k=>by
  by_cases hk:k=i
  ·subst hk;simp [hsz]
  ·rw [if_neg hk,getD_set_ne false (fun e=>hk e.symm)]
 have hB':=hB
 simp only [swB,Bool.and_eq_true,decide_eq_true_eq] at hB'
 obtain ⟨⟨-,hnd⟩,-⟩:=hB'
 refine ⟨by simp [h.size],fun k hk e he=>?_,hs,fun e he=>?_,fun e he hed=>?_,hm,?_,fun k hk d y hd' hy=>?_,fun t y hy hun=>?_⟩
 ·rw [hget] at hk ⊢
  split
  ·rfl
  ·by_cases hki:k=i
   ·subst hki;exact hdeps e he
   ·rw [if_neg hki] at hk;exact h.closed k hk e he
 ·rw [hget]
  split
  ·rfl
  ·rename_i hei
   rcases hj with ⟨-,hj⟩ | ⟨-,hj⟩
   ·simp only [Di,Bool.and_eq_true,List.all_eq_true,Bool.or_eq_true,beq_iff_eq,List.contains_eq_mem,decide_eq_true_eq] at hj
    exact h.done e ((hj.1.1 e he).resolve_left hei)
   ·rw [hj] at he;exact h.done e he
 ·rw [hget]
  have hmem:e∉d∧e ≠ i:=by
   rcases hj with ⟨-,hj⟩ | ⟨hc,hj⟩
   ·simp only [Di,Bool.and_eq_true,List.all_eq_true,Bool.or_eq_true,beq_iff_eq,List.contains_eq_mem,decide_eq_true_eq] at hj
    exact ⟨fun e1=>hed (hj.1.2 e e1),fun e1=>by subst e1;exact hed hj.2⟩
   ·rw [hj] at hed
    refine ⟨hed,fun e1=>?_⟩
    subst e1
    rw [List.contains_eq_mem,decide_eq_false_iff_not] at hc
    exact hc he
  rw [if_neg hmem.2];exact h.todo e he hmem.1
 ·have hr:=h.rel.mem (m:=m') H hn L
  cases hdst:o.dst with
  | none=>exact hr
  | some d =>
   have hlt':d < st.nt:=by rw [hdst] at hd;exact Nat.le_of_ble_eq_true hd
   refine ⟨hr.h,hr.nx,by simp [Act.put,h.rel.nt],hr.df,fun t y hy=>?_⟩
   have h1:=hr.tm t y hy
   have h2:=(XY _ _ _ hy).2
   simp only [Act.put]
   rw [YX (by rw [h.rel.nt];exact hlt'),if_neg]
   ·exact h1
   ·intro e
    subst e
    exact h2 (by
     simp only [WC,List.mem_filterMap,List.mem_range]
     exact ⟨i,hlt,by simp [YS,ho,hdst]⟩)
 ·by_cases hki:k=i
  ·subst hki
   rw [hx] at hy;cases hy
   have hdo:o.dst=some d:=by simpa [YS,ho] using hd'
   have hlt':d < a.tmps.size:=by rw [hdo] at hd;rw [h.rel.nt];exact Nat.le_of_ble_eq_true hd
   rw [hdo]
   simp only [Act.put]
   rw [YX hlt',if_pos rfl]
   exact hxv
  ·rw [hget,if_neg hki] at hk
   have h1:=(h.fact k hk d y hd' hy).mono L
   cases hdst:o.dst with
   | none=>exact h1
   | some d0 =>
    have hlt':d0 < a.tmps.size:=by rw [hdst] at hd;rw [h.rel.nt];exact Nat.le_of_ble_eq_true hd
    simp only [Act.put]
    rw [YX hlt',if_neg]
    ·exact h1
    ·intro e
     subst e
     have hk':k < ops.size:=by
      rcases Nat.lt_or_ge k ops.size with h3 | h3
      ·exact h3
      ·simp [YS,Array.getElem?_eq_none h3] at hd'
     have hi':YS ops i=some d0:=by simp [YS,ho,hdst]
     have hp:∀ (l:List Nat),l.Nodup→(l.filterMap (YS ops)).Nodup→i∈l→k∈l→i=k:=by
      intro l
      induction l with
      | nil=>intro _ _ h;cases h
      | cons p l ih =>
       intro hl hf hi hk
       rw [List.nodup_cons] at hl
       rw [List.filterMap_cons] at hf
       rcases List.mem_cons.1 hi with rfl | hi2
       ·rcases List.mem_cons.1 hk with rfl | hk2
        ·rfl
        ·rw [hi'] at hf
         simp only [List.nodup_cons] at hf
         exact absurd (List.mem_filterMap (l:=l).2 ⟨k,hk2,hd'⟩) hf.1
       ·rcases List.mem_cons.1 hk with rfl | hk2
        ·rw [hd'] at hf
         simp only [List.nodup_cons] at hf
         exact absurd (List.mem_filterMap (l:=l).2 ⟨i,hi2,hi'⟩) hf.1
        ·refine ih hl.2 ?_ hi2 hk2
         split at hf
         ·exact hf
         ·exact (List.nodup_cons.1 hf).2
     exact hki (hp (List.range ops.size) List.nodup_range hnd (by simpa using hlt) (by simpa using hk')).symm
 ·have h1:=(h.old t y hy (fun k hk=>by
   have:=hun k hk
   rw [hget] at this
   split at this
   ·cases this
   ·exact this)).mono L
  cases hdst:o.dst with
  | none=>exact h1
  | some d0 =>
   have hlt':d0 < a.tmps.size:=by rw [hdst] at hd;rw [h.rel.nt];exact Nat.le_of_ble_eq_true hd
   simp only [Act.put]
   rw [YX hlt',if_neg]
   ·exact h1
   ·intro e
    subst e
    have:=hun i (by simp [YS,ho,hdst])
    rw [hget,if_pos rfl] at this;cases this
theorem XC.swOrder {ro:Option Nat} {n:Nat} {Q:Exit→Act→World→Prop} {id:Nat} {ops:Array Oper} {st:St} (fx:List (Nat×TV)) (effs:List Nat) (dns:List (List Nat)) (ms:List Mem) (jE:Nat) {mE:Mem} (hm:E.P.follows .mixedOrders=true) (hB:swB ops effs=true) (h0:ms[0]?=some st.mem) (hd0:dns[0]?=some []) (hE:ms[jE]?=some mE)
  (hfin:∀ (j:Nat) (d:List Nat),dns[j]?=some d→(∀ e∈effs,e∈d)→j=jE)
  (hops:∀ (i j:Nat) (d:List Nat) (m:Mem),i < ops.size→dns[j]?=some d→ms[j]?=some m→mayS ops effs d i=true→SwOp E ops st fx effs dns ms i d m)
  (k:XQ E Q .normal (UR ops st fx mE)):XC E ro n Q (.region id ops true) st:=by
 intro V a w hr
 refine Xm (wpIn_region_any hm ?_)
 have hr':=hr.drew
 have hB':=hB
 simp only [swB,Bool.and_eq_true,decide_eq_true_eq] at hB'
 obtain ⟨⟨hdag,-⟩,heff⟩:=hB'
 have hrdy:∀ listed:Array Bool,listed.size=ops.size→Region.ready .any ops listed=[]→∀ i,i < ops.size→listed.getD i false=true:=by
  intro listed hsz hrd i
  induction i using Nat.strongRecOn with
  | ind i ih =>
   intro hi
   cases hc:listed.getD i false with
   | true=>rfl
   | false =>
    exfalso
    have hnm:i∉Region.ready .any ops listed:=by rw [hrd];exact List.not_mem_nil
    refine hnm (mem_ready.2 ?_)
    obtain ⟨o,ho⟩:∃ o,ops[i]?=some o:=⟨_,Array.getElem?_eq_getElem hi⟩
    refine ⟨getD_in (by rw [hsz];exact hi) hc,o,ho,fun e he hb=>?_⟩
    have hem:e.on∈JU ops i:=(mem_edges ho).2 ⟨e,he,hb,rfl⟩
    have hlt:=List.all_eq_true.1 (List.all_eq_true.1 hdag i (by simpa using hi)) _ hem
    have hlt':e.on < i:=by simpa using hlt
    exact ih e.on hlt' (by omega)
 have fin:∀ (listed:Array Bool) (a:Act) (w:World) (V:Vu) (j:Nat) (d:List Nat) (m:Mem),SwInv E ops st fx effs dns ms listed a w V j d m→(∀ i,i < ops.size→listed.getD i false=true)→Q .normal a w:=by
  intro listed a w V j d m hI hall
  have hjk:j=jE:=hfin j d hI.stage fun e he=>by
   by_cases hed:e∈d
   ·exact hed
   ·exfalso
    have h2:=hI.todo e he hed
    have h3:=hall e (by simpa using List.all_eq_true.1 heff e he)
    rw [h2] at h3;cases h3
  subst hjk
  have e1:m=mE:=Option.some.inj (hI.mem.symm.trans hE)
  subst e1
  refine k V a w ⟨hI.rel.h,hI.rel.nx,hI.rel.nt,hI.rel.df,fun t x hx=>?_⟩
  simp only [UR,Kd] at hx
  split at hx
  ·rename_i y hy;cases hx
   obtain ⟨i,h1,h2,h3⟩:=GU _ t x hy
   exact hI.fact i (hall i (by simpa using h1)) t x h2 h3
  ·exact hI.rel.tm t x hx
 have main:∀ (fuel:Nat) (listed:Array Bool) (a:Act) (w:World) (V:Vu) (j:Nat) (d:List Nat) (m:Mem),SwInv E ops st fx effs dns ms listed a w V j d m →
   (∀ c,ops.size≤fuel+c→c≤((List.range ops.size).filter fun i=>listed.getD i false).length→True) →
   ops.size≤fuel+((List.range ops.size).filter fun i=>listed.getD i false).length→wpAnyIn (FR ro) n E.P .any ops Q fuel listed a w:=by
  intro fuel
  induction fuel with
  | zero =>
   intro listed a w V j d m hI _ hc
   have hall:∀ i,i < ops.size→listed.getD i false=true:=by
    intro i hi
    have h1:((List.range ops.size).filter fun i=>listed.getD i false).length=(List.range ops.size).length:=by
     have:=List.length_filter_le (fun i=>listed.getD i false) (List.range ops.size)
     simp only [List.length_range] at this ⊢;omega
    exact List.length_filter_eq_length_iff.1 h1 i (by simpa using hi)
   refine ⟨?_,fin listed a w V j d m hI hall⟩
   unfold Region.ready
   rw [List.filter_eq_nil_iff]
   intro i hi
   have hi':i < ops.size:=by simpa using hi
   have:listed.getD i true=true:=by
    have h1:=hall i hi'
    have:i < listed.size:=by rw [hI.size];exact hi'
    simp [this] at h1 ⊢;exact h1
   rw [this];simp
  | succ fuel ih =>
   intro listed a w V j d m hI _ hc
   refine ⟨fun hrd=>fin listed a w V j d m hI (hrdy listed hI.size hrd),fun i hi=>?_⟩
   obtain ⟨hun,o,ho,hdeps⟩:=mem_ready.1 hi
   have hlt:i < ops.size:=(Array.getElem?_eq_some_iff.1 ho).1
   have hno:listed.getD i false=false:=by
    have:i < listed.size:=by rw [hI.size];exact hlt
    simp [this] at hun ⊢;exact hun
   have hd:∀ k∈JU ops i,listed.getD k false=true:=fun k hk=>by
    obtain ⟨e,he,hb,rfl⟩:=(mem_edges ho).1 hk
    exact hdeps e he hb
   have hmay:=hI.may hlt hno hd
   obtain ⟨o',x,ho',hx,hdst,hcase⟩:=hops i j d m hlt hI.stage hI.mem hmay
   rw [ho] at ho';cases ho'
   have hrel:=hI.depsRel hno hd
   have hcnt:ops.size≤fuel+((List.range ops.size).filter fun i'=>(listed.setIfInBounds i true).getD i' false).length:=by
    have h1:((List.range ops.size).filter fun i=>listed.getD i false).length < ((List.range ops.size).filter fun i'=>(listed.setIfInBounds i true).getD i' false).length:=by
     have key:∀ (l:List Nat),l.Nodup→i∈l→(l.filter fun i=>listed.getD i false).length < (l.filter fun i'=>(listed.setIfInBounds i true).getD i' false).length:=by
      have hget:∀ k,(listed.setIfInBounds i true).getD k false=if k=i then true else listed.getD k false:=fun k=>by
       by_cases hk:k=i
       ·subst hk
        have:k < listed.size:=by rw [hI.size];exact hlt
        simp [this]
       ·rw [if_neg hk,getD_set_ne false (fun e=>hk e.symm)]
      have hle:∀ (l:List Nat),(l.filter fun i=>listed.getD i false).length≤(l.filter fun i'=>(listed.setIfInBounds i true).getD i' false).length:=by
       intro l
       induction l with
       | nil=>exact Nat.le_refl _
       | cons p l ih =>
        rw [List.filter_cons,List.filter_cons,hget]
        by_cases hp:p=i
        ·subst hp;rw [hno];simp only [if_true];rw [List.length_cons];simp only [Bool.false_eq_true,if_false];omega
        ·rw [if_neg hp];split <;> (try rw [List.length_cons,List.length_cons]) <;> omega
      intro l
      induction l with
      | nil=>intro _ h;cases h
      | cons p l ih =>
       intro hnd' hi'
       rw [List.nodup_cons] at hnd'
       rw [List.filter_cons,List.filter_cons,hget]
       rcases List.mem_cons.1 hi' with rfl | hi'
       ·rw [hno];simp only [if_true,Bool.false_eq_true,if_false];rw [List.length_cons];have:=hle l;omega
       ·have:=ih hnd'.2 hi'
        have hp:p ≠ i:=fun e=>hnd'.1 (by rw [e];exact hi')
        rw [if_neg hp];split <;> (try rw [List.length_cons,List.length_cons]) <;> omega
     exact key _ List.nodup_range (by simpa using hlt)
    omega
   unfold wpOpIn
   simp only [ho]
   rcases hcase with ⟨hw,m',hok,hm'⟩ | ⟨hw,rfl,hc'⟩
   ·rw [if_pos (Zc hrel hw)]
    refine hok V a w hrel ro n _ Q (fun V' w' v H hn L hxv=>?_)
    rcases hm' with ⟨hce,j',d',hs1,hs2,hm'⟩ | ⟨hce,hm'⟩
    ·exact ih _ _ _ V' j' d' m' (hI.step hB hlt hno ho hx hdst (.inl ⟨hce,hs2⟩) hs1 hm' H hn L hxv hd) (fun _ _ _=>trivial) hcnt
    ·subst hm'
     exact ih _ _ _ V' j d m' (hI.step hB hlt hno ho hx hdst (.inr ⟨hce,J⟩) hI.stage hI.mem H hn L hxv hd) (fun _ _ _=>trivial) hcnt
   ·rw [if_neg (by rw [Zc hrel hw];exact Bool.false_ne_true)]
    exact ⟨fun _ _=>trivial,ih _ _ _ V j d m (hI.step hB hlt hno ho hx hdst (.inr ⟨hc',J⟩) hI.stage hI.mem hI.rel.h hI.rel.nx (Vu.Le.refl _ _) XW hd) (fun _ _ _=>trivial) hcnt⟩
 refine main ops.size _ a _ V 0 [] st.mem ⟨by simp,fun i hi=>?_,hd0,fun e he=>by simp at he,fun e _ _=>getD_replicate_false _ _,h0,⟨hr'.h,hr'.nx,hr'.nt,hr'.df,fun t y hy=>hr'.tm t y (XY _ _ _ hy).1⟩,fun i hi=>?_,fun t y hy _=>hr'.tm t y hy⟩ (fun _ _ _=>trivial) (by omega)
 ·rw [getD_replicate_false] at hi;cases hi
 ·rw [getD_replicate_false] at hi;cases hi
end
section
variable {E:Env} {ops:Array Oper} {st:St} {effs:List Nat} {dns:List (List Nat)}
def AllSw (E:Env) (ops:Array Oper) (st:St) (effs:List Nat) (dns:List (List Nat)) (fx:List (Nat×TV)) (ms:List Mem):List (Nat×Nat)→Prop
  | []=>True
  | (i,j)::r=>(∃ d m,dns[j]?=some d∧ms[j]?=some m∧SwOp E ops st fx effs dns ms i d m)∧AllSw E ops st effs dns fx ms r
theorem AllSw.get {fx:List (Nat×TV)} {ms:List Mem}:∀ {l:List (Nat×Nat)} {i j:Nat},AllSw E ops st effs dns fx ms l→l.contains (i,j)=true→∃ d m,dns[j]?=some d∧ms[j]?=some m∧SwOp E ops st fx effs dns ms i d m
  | [],i,j,_,h=>by cases h
  | (a,b)::r,i,j,ha,h=>by
    simp only [List.contains_cons,Bool.or_eq_true,beq_iff_eq] at h
    rcases h with h | h
    · cases h;exact ha.1
    · exact AllSw.get ha.2 h
def exS (ops:Array Oper) (effs:List Nat) (dns:List (List Nat)) (ex:List (Nat×Nat)):Bool :=
 (List.range ops.size).all fun i=>(List.range dns.length).all fun j=>!(mayS ops effs (dns.getD j []) i)||j==Uo effs i||ex.contains (i,j)
def homeS (ops:Array Oper) (effs:List Nat) (dns:List (List Nat)):Bool :=
 (List.range ops.size).all fun i=>!(effs.contains i)||match dns[Uo effs i]?,dns[Uo effs i+1]? with
  | some d,some d'=>Di d' d i
  | _,_=>false
def finS (effs:List Nat) (dns:List (List Nat)):Bool:=(List.range dns.length).all fun j=>!(effs.all fun e=>(dns.getD j []).contains e)||j==effs.length
theorem XC.swRun {ro:Option Nat} {n id:Nat} {Q:Exit→Act→World→Prop} (effs:List Nat) (dns:List (List Nat)) (ex:List (Nat×Nat)) (hm:E.P.follows .mixedOrders=true) (hB:swB ops effs=true) (hex:exS ops effs dns ex=true) (hho:homeS ops effs dns=true) (hfi:finS effs dns=true) (hd0:dns[0]?=some []) (hlen:((List.range' 0 ops.size).filter effs.contains).length=effs.length)
  (h:RunA E ops st effs (fun _ _ _=>False) (fun fx ms=>∃ xm:List Mem,AllSw E ops st effs dns fx (ms.reverse++xm) ex∧∃ mE r,ms=mE::r∧XQ E Q .normal (UR ops st fx mE)) (List.range' 0 ops.size) [] [st.mem]):XC E ro n Q (.region id ops true) st:=by
 have hB':=hB
 simp only [swB,Bool.and_eq_true] at hB'
 obtain ⟨⟨hdag,-⟩,-⟩:=hB'
 have hdag':∀ i,i < ops.size→∀ k∈JU ops i,k < i:=fun i hi k hk=>by
  have:=List.all_eq_true.1 (List.all_eq_true.1 hdag i (by simpa using hi)) k hk
  simpa using this
 obtain ⟨fx',ms',⟨xm,hall,mE,r,hmE,hQ⟩,-,hms,hrun⟩:=run_home hdag' _ 0 [] st.mem [] h (fun p hp=>by cases hp) (by rw [Nat.sub_zero]) (Nat.zero_le _)
 rw [List.append_nil] at hall hQ
 rw [hlen] at hms
 have hl:((ms'++[st.mem]).reverse).length=effs.length+1:=by simp [hms]
 have hin:∀ {q:Nat} {m:Mem},(ms'++[st.mem]).reverse[q]?=some m→((ms'++[st.mem]).reverse++xm)[q]?=some m:=fun {q m} hq=>by
  rw [List.getElem?_append_left (List.getElem?_eq_some_iff.1 hq).1];exact hq
 refine XC.swOrder fx' effs dns ((ms'++[st.mem]).reverse++xm) effs.length (mE:=mE) hm hB (hin (by simp)) hd0 ?_ (fun j d hj hall=>?_) (fun i j d m hi hj hmj hmay=>?_) hQ
 ·refine hin ?_
  rw [hmE]
  have:r.length=effs.length:=by have:=congrArg List.length hmE;simp at this;omega
  rw [List.reverse_cons,List.getElem?_append_right (by simp;omega)];simp [this]
 ·have hlt:=(List.getElem?_eq_some_iff.1 hj).1
  have h1:=List.all_eq_true.1 hfi j (by simpa using hlt)
  have hd:dns.getD j []=d:=by rw [List.getD_eq_getElem?_getD,hj];rfl
  rw [hd] at h1
  have h2:(effs.all fun e=>d.contains e)=true:=List.all_eq_true.2 fun e he=>by simpa using hall e he
  rw [h2] at h1
  simpa using h1
 ·have hlt:=(List.getElem?_eq_some_iff.1 hj).1
  have hd:dns.getD j []=d:=by rw [List.getD_eq_getElem?_getD,hj];rfl
  have h1:=List.all_eq_true.1 (List.all_eq_true.1 hex i (by simpa using hi)) j (by simpa using hlt)
  rw [hd,hmay] at h1
  simp only [Bool.not_true,Bool.false_or,Bool.or_eq_true,beq_iff_eq] at h1
  rcases h1 with h1 | h1
  ·obtain ⟨mi,h2,o,x,h3,h4,h5,h6⟩:=hrun i (List.mem_range'_1.2 ⟨Nat.zero_le _,by omega⟩)
   rw [List.append_nil] at h4 h6
   simp only [List.length_nil,Nat.zero_add,Nat.sub_zero] at h2 h6
   replace h6:=Or.imp_right (fun h=>Or.resolve_right h (fun h=>h)) h6
   subst h1
   have e1:mi=m:=by
    have:=hin h2
    unfold Uo at hmj
    rw [hmj] at this
    exact (Option.some.inj this).symm
   subst e1
   refine ⟨o,x,h3,h4,h5,?_⟩
   rcases h6 with ⟨h6,m',h7,h8⟩ | h6
   ·refine .inl ⟨h6,m',h7,?_⟩
    cases hc:effs.contains i with
    | false=>rw [hc] at h8;exact .inr ⟨rfl,by simpa using h8⟩
    | true =>
     rw [hc] at h8
     have h9:=List.all_eq_true.1 hho i (by simpa using hi)
     rw [hc,hj] at h9
     simp only [Bool.not_true,Bool.false_or] at h9
     split at h9
     ·rename_i d1 d2 e2 e3
      cases e2
      exact .inl ⟨rfl,Uo effs i+1,d2,e3,h9,hin (by simpa [Uo] using h8)⟩
     ·cases h9
   ·exact .inr h6
  ·obtain ⟨d',m',h2,h3,h4⟩:=hall.get h1
   rw [hj] at h2;cases h2
   rw [hmj] at h3;cases h3
   exact h4
end
end Go.Proofs.Ytafddfoefeploaa
namespace Go.Proofs.Ytafddfoefeploaa
open Go.RowKit
section
variable {E:Env} {st:St} {dd d:Option Tmp} {ty:TypeId} {pos:String} {af:Array Edge} {g:Option (Nat×Bool)}
theorem RO.indexA {t n sz i off:Nat} {x y:Operand} {m:Int} (ht:Uu E.P t=some (n,sz)) (hx:ev st.tm x=some (.v (.one (.ptr i off)))) (hy:ev st.tm y=some (TI m)) (hm:(cond (decide (0≤m)) (Nat.blt m.toNat n) false)=true) :
  RO E ⟨d,.indexAddr t x y,ty,pos,af,g⟩ st (.v (.one (.ptr i (off+m.toNat * sz)))) :=
 RO.indexArrOwn ht hx hy (Int.toNat_of_nonneg (of_decide_eq_true (cond_left hm))).symm (GZ (cond_right hm))
theorem OpOK.data2E {α:Type} [Enc α] (v1 v2:α) {t e:Nat} {zs:List Value} {o1 o2:Operand} {x1 x2:AV} {ys:List CA} (ht:Jp E.P t=some (e,Enc.sz α)) (hze:JD E.P e=some zs) (hzl:zs.length=Enc.sz α) (hz:zs.all (·.oneCell')=true) (hlen:2 * Enc.sz α≤16777216)
  (h1:ev st.tm o1=some (.v x1)) (h2:ev st.tm o2=some (.v x2)) (hf:Zp (JL (Enc.sz α) 2) (JS zs 2) [(0,x1),(1,x2)]=some ys) (hs:CSubs ys (Enc.enc v1++Enc.enc v2)) (hel:(Enc.enc v1).length=Enc.sz α∧(Enc.enc v2).length=Enc.sz α) :
  OpOK E ⟨d,.buildSlice t 2 #[(0,o1),(1,o2)],ty,pos,af,g⟩ st (.v (.one (.d (.sl (Enc.sz α) (Enc.encL [v1,v2]))))) ⟨st.hp,st.tk,st.nx⟩ :=
 OpOK.litData (avs:=[(0,x1),(1,x2)]) (Enc.encL [v1,v2]) ht hze hzl hz hlen rfl (fun j i x hx=>by
  match j,hx with
  | 0,hx=>cases hx;exact ⟨o1,rfl,h1⟩
  | 1,hx=>cases hx;exact ⟨o2,rfl,h2⟩) hf (by rw [Enc.cons,Enc.one];simpa using hs) (fun x hx=>by
   rw [Enc.cons,Enc.one] at hx;simp at hx
   rcases hx with rfl | rfl
   ·exact hel.1
   ·exact hel.2) (by rw [Enc.len];rfl)
end
end Go.Proofs.Ytafddfoefeploaa
namespace Go.Proofs.Ytafddfoefeploaa
open Go.RowKit
structure Byt where
 n:Int
def bytC (b:Byt):List C:=[.v (.int .u8 b.n)]
instance:Enc Byt:=⟨1,bytC,fun l=>l.map bytC,rfl,fun a b=>List.map_append,fun _=>rfl⟩
instance:EncLen Byt:=⟨fun _=>rfl,by decide⟩
section
variable {E:Env} {st:St} {d:Option Tmp} {ty:TypeId} {pos:String} {af:Array Edge} {g:Option (Nat×Bool)}
end
end Go.Proofs.Ytafddfoefeploaa
namespace Go.Proofs.Ytafddfoefeploaa
open Go.RowKit
theorem append_runP {E:Env} {V:Vu} {hp:List (Nat×HB)} {tk:List (Nat×Option Tok)} {w:World} (h:HRel E V hp tk w) {t ty e sz by_ i n0:Nat} {v x:Value} {es es2:List (List C)} {pv0:List C} {av:Option Addr} {capv:Nat} (ht:Jp E.P t=some (e,sz)) (hte:K5 E.P e=some (sz,by_))
  (hi:lk tk i=some (some ⟨e,sz,n0,pv0⟩)) (hvk:v=V.κ i n0) (hva:v=.slice av n0 capv) (hv:Reads V.S w (.sl sz es) (.slice av es.length capv)) (hle0:es.length≤n0) (hp0:es.length * sz+pv0.length=n0 * sz) (hx:Reads V.S w (.sl sz es2) x) (hm:n0+es2.length≤1000000000) (hb:by_≤100000) (h2:es2 ≠ []) :
  ∃ v' w' gb m V' cap',(Builtin.append_ #[t,t] ty #[v,x]).run E.P w=.ok v' w'∧V'=V.tok i (n0+es2.length) v' gb m∧HRel E V' hp ((i,some ⟨e,sz,n0+es2.length,pv0++es2.flatten⟩)::tk) w'∧V.Le V' w w'∧v'=.slice (some ⟨gb,0,none⟩) (n0+es2.length) cap'∧Reads V'.S w' (.sl sz es) (.slice (some ⟨gb,0,none⟩) es.length cap'):=by
 obtain ⟨hu,i1,hi1,hs1⟩:=Ys ht
 obtain ⟨i0,z,hi0,hz,hzs,hpos,hsz,hby⟩:=tyElem_spec hte
 have:i1=i0:=Option.some.inj (hi1.symm.trans hi0)
 subst this
 obtain ⟨hl1,a1,cap1,b1,off1,us1,hveq,hc1,ha1,hus1,hk1⟩:=hv.row
 injection hveq with q1 q2 q3
 subst q1;subst q3
 obtain ⟨hl2,a2,cap2,b2,off2,us2,rfl,hc2,ha2,hus2,hk2⟩:=hx.row
 have ha2':=ha2 h2
 subst ha2'
 have hlen2:0 < es2.length:=List.length_pos_iff.2 h2
 have hf2:es2.flatten.length=es2.length * sz:=JZ es2 hl2
 have hnews:∀ j u,us2[j]?=some u→w.cell? ((⟨b2,off2,none⟩:Addr).add j)=some u:=fun j u hj=>by
  have hlt:j < es2.flatten.length:=by rw [hf2,← hus2];exact (List.getElem?_eq_some_iff.1 hj).1
  obtain ⟨u',h3,h4,-⟩:=hk2 j _ (List.getElem?_eq_getElem hlt)
  rw [hj] at h3;cases h3
  rw [Zr];exact h4
 have hmax:n0+es2.length≤maxLen:=by unfold maxLen;omega
 have hbytes:(n0+es2.length) * i1.bytes≤140737488355328:=by
  rw [hby]
  calc (n0+es2.length) * by_≤1000000000 * 100000:=Nat.mul_le_mul hm hb
   _≤_:=by omega
 obtain ⟨h1,hcu,xs,⟨hown,hpl,hpv⟩,hg2⟩:=h.tok i _ hi
 dsimp only at hcu hown hg2 hpl hpv
 rw [← hvk] at hown
 have hlim:(Tok.mk e sz n0 pv0).lim=es.length * sz:=by show n0 * sz - pv0.length=_;omega
 rw [hlim] at hpv
 have hxl:xs.length=n0 * sz:=hown.1
 have hi':i=V.nx∨(i < V.nx∧V.cu i < n0+es2.length):=.inr ⟨h1,by rw [← hcu];omega⟩
 have hpl2:(pv0++es2.flatten).length=pv0.length+es2.length * sz:=by rw [List.length_append,hf2]
 have hnn:(n0+es2.length) * sz=n0 * sz+es2.length * sz:=Nat.add_mul _ _ _
 have hlim2:(n0+es2.length) * sz - (pv0++es2.flatten).length=es.length * sz:=by rw [hpl2,hnn];omega
 have hpre:∀ (k:Nat) (c:C),es.flatten[k]?=some c→∃ u,xs[k]?=some u∧Reads V.S w c u:=fun k c hk=>by
  obtain ⟨u,h3,h4,-,h5⟩:=hk1 k c hk
  have hne:es ≠ []:=fun e'=>by subst e';simp at hk
  have hlt:k < es.length * sz:=by have:=(List.getElem?_eq_some_iff.1 hk).1;rwa [JZ _ hl1] at this
  rcases hown.2 with ⟨hv0,hn0⟩ | ⟨gg,cap,cur,hvv,-,hcells,hncap,hcm,hcs,htake⟩
  ·have:es.length=0:=by omega
   exact absurd (List.eq_nil_of_length_eq_zero this) hne
  ·rw [hva] at hvv
   injection hvv with e1 e2 e3
   have:=ha1 hne
   rw [e1] at this
   injection this with this
   injection this with e4 e5
   subst e4
   rw [← e5,Nat.zero_add,Jt hcells] at h4
   refine ⟨u,?_,h5⟩
   have hlt':k < n0 * sz:=by omega
   rw [← htake,List.getElem?_take_of_lt hlt'];simpa using h4
 have hpvs:∀ (j:Nat) (c:C),(pv0++es2.flatten)[j]?=some c→∃ u,(xs++us2)[es.length * sz+j]?=some u∧Reads V.S w c u:=fun j c hj=>by
  by_cases hlt:j < pv0.length
  ·rw [List.getElem?_append_left hlt] at hj
   obtain ⟨u,h3,h4⟩:=hpv j c hj
   exact ⟨u,by rw [List.getElem?_append_left (by omega)];exact h3,h4⟩
  ·rw [List.getElem?_append_right (by omega)] at hj
   obtain ⟨u,h3,-,-,h4⟩:=hk2 _ c hj
   refine ⟨u,?_,h4⟩
   rw [List.getElem?_append_right (by omega),show es.length * sz+j - xs.length=j - pv0.length by omega]
   exact h3
 have fin:∀ (V':Vu) (w':World) (g' cap':Nat),V.Le V' w w'→(∀ (k:Nat) (u:Value),(xs++us2)[k]?=some u→w'.cell? ⟨g',k,none⟩=some u)→(∀ o,o < es.length * sz→V'.S g' o)→es.length≤cap'→Reads V'.S w' (.sl sz es) (.slice (some ⟨g',0,none⟩) es.length cap'):=by
  intro V' w' g' cap' hL hcell hS' hcap
  refine ZV (us:=fun k=>(xs++us2).getD k undef) hl1 hcap (fun k c hk=>?_)
  have hklt:k < es.length * sz:=by have:=(List.getElem?_eq_some_iff.1 hk).1;rwa [JZ _ hl1] at this
  obtain ⟨u,h3,h4⟩:=hpre k c hk
  have h5:(xs++us2)[k]?=some u:=by rw [List.getElem?_append_left (List.getElem?_eq_some_iff.1 h3).1];exact h3
  have e1:(xs++us2).getD k undef=u:=by rw [List.getD_eq_getElem?_getD,h5];rfl
  rw [e1,Nat.zero_add]
  exact ⟨hcell k u h5,hS' k hklt,h4.mono hL.S hL.cell⟩
 have anew:∀ (old:Nat),(Builtin.append_ #[t,t] ty #[v,.slice (some ⟨b2,off2,none⟩) es2.length cap2]).run E.P w=.ok (.slice (some ⟨w.heap.size,0,none⟩) (n0+es2.length) (grownCap w (n0+es2.length) old e)) (w.drew.alloc (.cells (xs.toArray++us2.toArray++Builtin.zeroCells z.cells (grownCap w (n0+es2.length) old e - (n0+es2.length))) e)) →
   ∃ v' w' gb m V' cap',(Builtin.append_ #[t,t] ty #[v,.slice (some ⟨b2,off2,none⟩) es2.length cap2]).run E.P w=.ok v' w'∧V'=V.tok i (n0+es2.length) v' gb m∧HRel E V' hp ((i,some ⟨e,sz,n0+es2.length,pv0++es2.flatten⟩)::tk) w'∧V.Le V' w w'∧v'=.slice (some ⟨gb,0,none⟩) (n0+es2.length) cap'∧Reads V'.S w' (.sl sz es) (.slice (some ⟨gb,0,none⟩) es.length cap'):=by
  intro old hrun
  have hge:=grownCap_ge w (n0+es2.length) old e
  have hcm:=grownCap_le_maxLen w (n0+es2.length) old e hmax
  generalize grownCap w (n0+es2.length) old e=cap' at hrun hge hcm
  have hx':Xj w (w.drew.alloc (.cells (xs.toArray++us2.toArray++Builtin.zeroCells z.cells (cap' - (n0+es2.length))) e)):=⟨rfl,rfl,rfl,by simp,fun k hk _=>Below.heap_alloc w.drew _ k hk⟩
  have hnew:(w.drew.alloc (.cells (xs.toArray++us2.toArray++Builtin.zeroCells z.cells (cap' - (n0+es2.length))) e)).heap[w.heap.size]?=some (.cells (xs.toArray++us2.toArray++Builtin.zeroCells z.cells (cap' - (n0+es2.length))) e (0,0)):=heap_alloc_new w.drew _
  have hcs:(xs.toArray++us2.toArray++Builtin.zeroCells z.cells (cap' - (n0+es2.length))).size=cap' * sz:=by
   simp only [Array.size_append,List.size_toArray,size_zeroCells,hzs,hxl,hus2,← Nat.add_mul]
   congr 1;omega
  have hfull:(xs++us2).length=(n0+es2.length) * sz:=by rw [List.length_append,hxl,hus2,hnn]
  have hgc:∀ (k:Nat) (u:Value),(xs++us2)[k]?=some u→(xs.toArray++us2.toArray++Builtin.zeroCells z.cells (cap' - (n0+es2.length)))[k]?=some u:=fun k u hk=>by
   rw [← Array.getElem?_toList,Array.toList_append,Array.toList_append,List.getElem?_append_left (by have:=(List.getElem?_eq_some_iff.1 hk).1;simpa using this)]
   simpa using hk
  obtain ⟨H,L⟩:=h.tokNewP (i:=i) (n:=n0+es2.length) (g:=w.heap.size) (e:=e) (sz:=sz) (cap:=cap') (pv0++es2.flatten) (by rw [hpl2,hnn];omega) (fun j c hj=>by
   obtain ⟨u,h3,h4⟩:=hpvs j c hj
   exact ⟨u,by rw [hlim2];exact hgc _ u h3,h4⟩) hi' hx' (Nat.le_refl _) hnew hcs hge hcm
  refine ⟨_,_,w.heap.size,_,_,cap',hrun,J,H,L,J,?_⟩
  refine fin _ _ _ _ L (fun k u hk=>?_) (fun o ho'=>.inr ⟨rfl,by rw [hlim2];exact ho'⟩) (by omega)
  rw [Jt hnew]
  exact hgc k u hk
 rcases hown.2 with ⟨hv0,hn0⟩ | ⟨gg,cap,cur,hvv,-,hcells,hncap,hcm,hcs,htake⟩
 ·subst hn0
  have hx0:xs=[]:=List.eq_nil_of_length_eq_zero (by rw [hxl,Nat.zero_mul])
  rw [hv0]
  rw [hv0] at anew
  refine anew 0 ?_
  have hr:=run_append_nil (P:=E.P) w t ty e i1 z hu hi1 hz ⟨b2,off2,none⟩ es2.length cap2 us2 (by rw [hsz];exact hus2) hnews hlen2 (by omega) (by have:=hbytes;rw [Nat.zero_add] at this;omega)
  rw [hx0,Nat.zero_add]
  simpa using hr
 ·rw [hvv] at hva ⊢
  rw [hvv] at anew
  injection hva with e1 e2 e3
  subst e3
  by_cases hroom:n0+es2.length≤cap
  ·have hfit:n0 * i1.size+us2.length≤cur.size:=by rw [hus2,hcs,hsz,← Nat.add_mul];exact Nat.mul_le_mul_right _ hroom
   have h1c:∀ u∈us2,u.oneCell'=true:=fun u hu'=>by
    obtain ⟨k,hk⟩:=List.getElem?_of_mem hu'
    have hlt:k < es2.flatten.length:=by rw [hf2,← hus2];exact (List.getElem?_eq_some_iff.1 hk).1
    obtain ⟨u',h3,-,-,h4⟩:=hk2 k _ (List.getElem?_eq_getElem hlt)
    rw [hk] at h3;cases h3
    exact h4.one
   have hr:=run_append_room (P:=E.P) w t ty e i1 hu hi1 gg n0 cap cur hcells ⟨b2,off2,none⟩ es2.length cap2 us2 (by rw [hsz];exact hus2) hnews h1c hroom hfit
   rw [hsz] at hr hfit
   have hcs':(cur.toList.take (n0 * sz)++us2++cur.toList.drop (n0 * sz+us2.length)).toArray.size=cap * sz:=by
    simp only [List.size_toArray,List.length_append,List.length_take,List.length_drop,Array.length_toList];omega
   have hgc:∀ (k:Nat) (u:Value),(xs++us2)[k]?=some u→(cur.toList.take (n0 * sz)++us2++cur.toList.drop (n0 * sz+us2.length)).toArray[k]?=some u:=fun k u hk=>by
    rw [htake,List.getElem?_toArray,List.getElem?_append_left (List.getElem?_eq_some_iff.1 hk).1]
    exact hk
   obtain ⟨H,L⟩:=h.tokRoomP (n:=n0+es2.length) (cur':=(cur.toList.take (n0 * sz)++us2++cur.toList.drop (n0 * sz+us2.length)).toArray) (pv0++es2.flatten) (by rw [hpl2,hnn];omega) (by rw [hlim2];omega) (fun j c hj=>by
    obtain ⟨u,h3,h4⟩:=hpvs j c hj
    exact ⟨u,by rw [hlim2];exact hgc _ u h3,h4⟩) hi (hvk.symm.trans hvv) hcells (by omega) hroom hcm hcs' (fun o ho=>by
    have ho':o < n0 * sz:=by omega
    rw [List.append_assoc,List.getElem?_toArray,List.getElem?_append_left (by rw [List.length_take];have e8:cur.toList.length=cur.size:=Array.length_toList;omega),List.getElem?_take_of_lt ho'];simp)
   refine ⟨_,_,gg,_,_,cap,hr,J,H,L,J,?_⟩
   refine fin _ _ _ _ L (fun k u hk=>?_) (fun o ho'=>.inr ⟨rfl,by rw [hlim2];exact ho'⟩) (by omega)
   rw [Jt (setRow_heap w gg cur _ e (0,0) hcells)]
   exact hgc k u hk
  ·have holds:∀ j u,xs[j]?=some u→w.cell? ((⟨gg,0,none⟩:Addr).add j)=some u:=by
    have:=hown.cells (g:=gg) (by rw [hvv];rfl)
    exact this
   have hr:=run_append_grow (P:=E.P) w t ty e i1 z hu hi1 hz ⟨gg,0,none⟩ n0 cap xs (by rw [hsz];exact hown.1) holds ⟨b2,off2,none⟩ es2.length cap2 us2 (by rw [hsz];exact hus2) hnews (by omega) (by omega) (growslice_fits (by omega) hbytes)
   exact anew cap hr
theorem HRel.storeT {E:Env} {V:Vu} {hp:List (Nat×HB)} {tk:List (Nat×Option Tok)} {w:World} (h:HRel E V hp tk w) {i n e sz g cap:Nat} {pv:List C} (hi:lk tk i=some (some ⟨e,sz,n,pv⟩)) (hv:V.κ i n=.slice (some ⟨g,0,none⟩) n cap) {k:Nat} (hk:k < pv.length) {c:C} {u:Value} (hu:Reads V.S w c u) :
  HRel E V hp ((i,some ⟨e,sz,n,pv.set k c⟩)::tk) (w.setCell ⟨g,n * sz - pv.length+k,none⟩ u)∧V.Le V w (w.setCell ⟨g,n * sz - pv.length+k,none⟩ u)∧∃ u0,w.cell? ⟨g,n * sz - pv.length+k,none⟩=some u0∧w.frozen? ⟨g,n * sz - pv.length+k,none⟩=false:=by
 obtain ⟨h1,hcu,xs,⟨hown,hpl,hpv⟩,hg2⟩:=h.tok i _ hi
 dsimp only at hcu hown hg2 hpl hpv
 have hlim:(Tok.mk e sz n pv).lim=n * sz - pv.length:=rfl
 have hgb:(V.κ i n).ownBlock=some g:=by rw [hv];rfl
 obtain ⟨a1,a2,a3⟩:=hg2 g hgb
 rw [hlim] at a2 hpv
 obtain ⟨hxl,hx⟩:=hown
 rcases hx with ⟨hv0,-⟩ | ⟨gg,cap',cur,hvv,hb0,hcells,hncap,hcm,hcs,htake⟩
 ·rw [hv] at hv0;cases hv0
 rw [hv] at hvv
 injection hvv with q1 q2 q3
 injection q1 with q1
 injection q1 with q1
 subst q1 q3
 generalize hoff:n * sz - pv.length+k=off
 have hofflt:off < n * sz:=by omega
 have hcap:n * sz≤cap * sz:=Nat.mul_le_mul_right _ hncap
 have hsz:(w.setCell ⟨g,off,none⟩ u).heap.size=w.heap.size:=by simp [World.setCell]
 have hne:∀ k,k ≠ g→(w.setCell ⟨g,off,none⟩ u).heap[k]?=w.heap[k]?:=fun k hk=>Below.heap_setCell w ⟨g,off,none⟩ u k hk
 have hnew:(w.setCell ⟨g,off,none⟩ u).heap[g]?=some (.cells (cur.setIfInBounds off u) e (0,0)):=setCell_block hcells off u
 have hcell:∀ b o,V.S b o→(w.setCell ⟨g,off,none⟩ u).cell? ⟨b,o,none⟩=w.cell? ⟨b,o,none⟩:=fun b o hs=>by
  by_cases hb:b=g
  ·subst hb
   have:=a2 o hs
   rw [Jt hnew,Jt hcells,Array.getElem?_setIfInBounds,if_neg (by omega)]
  ·exact World.cell?_of_block (w:=w) (a:=⟨b,o,none⟩) (hne b hb)
 have hle:V.Le V w (w.setCell ⟨g,off,none⟩ u):=⟨Nat.le_refl _,fun _ _=>rfl,fun _ _=>Nat.le_refl _,fun _ _ _ _=>rfl,fun _ _ h=>h,hcell,fun b o hs ds hd=>by
  by_cases hb:b=g
  ·subst hb;rw [hcells] at hd;cases hd
  ·exact (hne b hb).trans hd⟩
 refine ⟨⟨?_,h.le0.trans hle,fun b o hs=>by rw [hsz];exact h.sz b o hs,h.sub,?_,h.inj,h.new,?_,?_⟩,hle,?_⟩
 ·refine ⟨h.ext.os,h.ext.tape,h.ext.output,by rw [hsz];exact h.ext.size,fun k hk hM=>(hne k fun e1=>?_).trans (h.ext.block k hk hM)⟩
  rcases a1 with a1 | a1
  ·omega
  ·rw [← e1] at a1;exact hM a1
 ·intro j B hj
  obtain ⟨b1,o,ho,hB⟩:=h.own j B hj
  exact ⟨b1,o,(hne _ (a3 j B hj)).trans ho,hB.mono hle⟩
 ·intro j T hj
  rw [QP] at hj
  split at hj
  ·rename_i e1;subst e1;cases hj
   have hll:(pv.set k c).length=pv.length:=by simp
   have hlim2:(Tok.mk e sz n (pv.set k c)).lim=n * sz - pv.length:=by show n * sz - (pv.set k c).length=_;rw [hll]
   refine ⟨h1,hcu,xs.set off u,⟨⟨by rw [List.length_set];exact hxl,.inr ⟨g,cap,cur.setIfInBounds off u,hv,hb0,hnew,hncap,hcm,by simpa using hcs,?_⟩⟩,by rw [hll];exact hpl,fun j c' hj=>?_⟩,fun g' hg'=>?_⟩
   ·apply List.ext_getElem?
    intro q
    rw [List.getElem?_take,List.getElem?_set,← htake]
    by_cases hq:q < n * sz
    ·rw [if_pos hq,Array.getElem?_toList,Array.getElem?_setIfInBounds]
     by_cases hqo:off=q
     ·subst hqo
      rw [if_pos rfl,if_pos rfl,if_pos (by omega),if_pos (by rw [List.length_take,Array.length_toList];omega)]
     ·rw [if_neg hqo,if_neg hqo,List.getElem?_take,if_pos hq,Array.getElem?_toList]
    ·rw [if_neg hq]
     by_cases hqo:off=q
     ·omega
     ·rw [if_neg hqo,List.getElem?_take,if_neg hq]
   ·rw [hlim2]
    rw [List.getElem?_set] at hj
    split at hj
    ·rename_i e2
     subst e2
     cases hj
     refine ⟨u,?_,Reads.mono hle.S hle.cell hu⟩
     rw [hoff,List.getElem?_set,if_pos rfl,if_pos (by rw [hxl];exact hofflt)]
    ·rename_i e2
     obtain ⟨u',h3,h4⟩:=hpv j c' hj
     refine ⟨u',?_,Reads.mono hle.S hle.cell h4⟩
     rw [List.getElem?_set,if_neg (by omega)]
     exact h3
   ·obtain ⟨b1,b2,b3⟩:=hg2 g' hg'
    refine ⟨b1,fun o hs=>?_,b3⟩
    rw [hlim2];exact b2 o hs
  ·rename_i e1
   have e2:j ≠ i:=fun h=>e1 h.symm
   obtain ⟨b1,bcu,ys,bown,bg2⟩:=h.tok j T hj
   refine ⟨b1,bcu,ys,bown.keepW rfl (bown.1.kept (row:=some g) ⟨rfl,rfl,rfl,by rw [hsz];exact Nat.le_refl _,fun k _ hk=>hne k fun e3=>hk (by rw [e3])⟩ ?_) hle.lx,bg2⟩
   cases hb:(V.κ j T.n).ownBlock with
   | none=>exact .inl rfl
   | some g' =>
    refine .inr fun e3=>e2 ?_
    cases e3
    exact h.tki j i T _ g hj hi hb hgb
 ·intro j k' T U g' hj hk' ej ek
  rw [QP] at hj hk'
  split at hj <;> split at hk'
  ·rename_i e1 e2;exact e1.symm.trans e2
  ·rename_i e1 e2;subst e1;cases hj;exact h.tki _ _ _ _ g' hi hk' ej ek
  ·rename_i e1 e2;subst e2;cases hk';exact h.tki _ _ _ _ g' hj hi ej ek
  ·exact h.tki j k' T U g' hj hk' ej ek
 ·have hlt:off < cur.size:=by omega
  exact ⟨cur[off],by rw [Jt hcells];exact Array.getElem?_eq_getElem hlt,free_of_own hcells off⟩
def Dq:List C→Nat→List C→List C
 | xs,_,[]=>xs
 | xs,off,c::cs=>Dq (xs.set off c) (off+1) cs
theorem setL_map:∀ (cs xs:List C) (off:Nat),setL (xs.map CA.d) off (cs.map CA.d)=(Dq xs off cs).map CA.d
 | [],xs,off=>rfl
 | c::cs,xs,off=>by
  simp only [Dq,List.map_cons,setL]
  rw [← List.map_set,setL_map cs]
theorem setC_flat {α:Type} [Enc α] [EncLen α] (l:List α) (k:Nat) (v:α) (hk:k < l.length):Dq (Enc.encL l).flatten (k * Enc.sz α) (Enc.enc v)=(Enc.encL (l.set k v)).flatten:=by
 have h1:=setL_flat l k v hk
 unfold Gv at h1
 rw [setL_map] at h1
 have inj:∀ a b:List C,a.map CA.d=b.map CA.d→a=b:=fun a b h=>by
  have:=congrArg (List.map fun x:CA=>match x with | .d c=>c | _=>.v undef) h
  rw [List.map_map,List.map_map] at this
  have hid:((fun x:CA=>match x with | .d c=>c | _=>.v undef) ∘ CA.d)=id:=rfl
  rw [hid,List.map_id,List.map_id] at this
  exact this
 exact inj _ _ h1
theorem HRel.storeTL {E:Env} {V:Vu} {hp:List (Nat×HB)} {i n e sz g cap:Nat} (hv:V.κ i n=.slice (some ⟨g,0,none⟩) n cap):∀ (cs:List C) (us:List Value) (q k:Nat) (pv:List C) (tk:List (Nat×Option Tok)) (w:World),HRel E V hp tk w→lk tk i=some (some ⟨e,sz,n,pv⟩) →
  q+k+cs.length≤pv.length→us.length=cs.length→(∀ (j:Nat) (c:C),cs[j]?=some c→∃ u,us[j]?=some u∧Reads V.S w c u) →
  ∃ w',(storeCells ⟨g,n * sz - pv.length+q,none⟩ us k).run E.P w=.ok () w'∧HRel E V hp ((i,some ⟨e,sz,n,Dq pv (q+k) cs⟩)::tk) w'∧V.Le V w w'
 | [],us,q,k,pv,tk,w,h,hi,_,hu,_=>by
  have:us=[]:=List.eq_nil_of_length_eq_zero (by simpa using hu)
  subst this
  refine ⟨w,by simp [storeCells],?_,Vu.Le.refl V w⟩
  simp only [Dq]
  exact h.congr (fun _=>rfl) (fun j=>by rw [QP];split <;> simp_all)
 | c::cs,us,q,k,pv,tk,w,h,hi,hle,hu,hrel=>by
  match us,hu with
  | u::us,hu =>
   simp only [List.length_cons] at hle hu
   obtain ⟨u',hu',hy⟩:=hrel 0 c rfl
   simp at hu'
   subst hu'
   obtain ⟨H1,L1,u0,hcell,hfro⟩:=h.storeT hi hv (k:=q+k) (by omega) hy
   have hone:=hy.one
   rw [← Nat.add_assoc] at H1 L1 hcell hfro
   have hst:(Go.store ⟨g,n * sz - pv.length+q+k,none⟩ u).run E.P w=.ok () (w.setCell ⟨g,n * sz - pv.length+q+k,none⟩ u):=by
    rw [run_store _ _ _ _ _ hone,hcell,hfro];rfl
   have hll:(pv.set (q+k) c).length=pv.length:=by simp
   obtain ⟨w2,hw2,H2,L2⟩:=HRel.storeTL hv cs us q (k+1) (pv.set (q+k) c) _ _ H1 (by rw [QP,if_pos rfl]) (by rw [hll];omega) (by omega) (fun j c' hj=>by
    obtain ⟨u2,h3,h4⟩:=hrel (j+1) c' (by simpa using hj)
    exact ⟨u2,by simpa using h3,h4.mono L1.S L1.cell⟩)
   rw [hll] at hw2
   refine ⟨w2,?_,?_,L1.trans L2⟩
   ·simp only [storeCells,Sem.run_bind,Zr,hst,Result.andThen_ok]
    exact hw2
   ·simp only [Dq]
    refine H2.congr (fun _=>rfl) (fun j=>?_)
    rw [QP,QP,QP]
    split
    ·rw [show q+(k+1)=q+k+1 by omega]
    ·rfl
theorem HRel.settle {E:Env} {V:Vu} {hp:List (Nat×HB)} {tk:List (Nat×Option Tok)} {w:World} (h:HRel E V hp tk w) {i n e sz:Nat} {pv:List C} (hi:lk tk i=some (some ⟨e,sz,n,pv⟩)) :
  ∃ V':Vu,HRel E V' hp ((i,some ⟨e,sz,n,[]⟩)::tk) w∧V.Le V' w w∧V'.nx=V.nx∧V'.κ=V.κ∧V'.cu=V.cu∧∀ g,(V.κ i n).ownBlock=some g→∀ o,o < n * sz→V'.S g o:=by
 obtain ⟨h1,hcu,xs,⟨hown,hpl,hpv⟩,hg2⟩:=h.tok i _ hi
 dsimp only at hcu hown hg2 hpl hpv
 let V':Vu:={ V with S:=fun b o=>V.S b o∨((V.κ i n).ownBlock=some b∧o < n * sz)}
 have hle:V.Le V' w w:=⟨Nat.le_refl _,fun _ _=>rfl,fun _ _=>Nat.le_refl _,fun _ _ _ _=>rfl,fun _ _ h=>.inl h,fun _ _ _=>rfl,fun _ _ _ _ h=>h⟩
 refine ⟨V',⟨h.ext,h.le0.trans hle,?_,?_,?_,h.inj,?_,?_,?_⟩,hle,J,J,J,fun g hg o ho=>.inr ⟨hg,ho⟩⟩
 ·rintro b o (hs | ⟨hb,-⟩)
  ·exact h.sz b o hs
  ·exact (hown.lt b hb).2
 ·rintro b o (hs | ⟨hb,-⟩)
  ·exact h.sub b o hs
  ·exact .inr (hg2 b hb).1
 ·intro j B hj
  obtain ⟨b1,o,ho,hB⟩:=h.own j B hj
  exact ⟨b1,o,ho,hB.mono hle⟩
 ·intro j B hj
  refine ⟨(h.new j B hj).1,?_⟩
  rintro o (hs | ⟨hb,-⟩)
  ·exact (h.new j B hj).2 o hs
  ·exact (hg2 _ hb).2.2 j B hj rfl
 ·intro j T hj
  rw [QP] at hj
  split at hj
  ·rename_i e1;subst e1;cases hj
   refine ⟨h1,hcu,xs,RowOK.all hown,fun g hg=>⟨(hg2 g hg).1,?_,(hg2 g hg).2.2⟩⟩
   rintro o (hs | ⟨-,ho⟩)
   ·exact Nat.lt_of_lt_of_le ((hg2 g hg).2.1 o hs) (Nat.sub_le _ _)
   ·exact ho
  ·rename_i e1
   obtain ⟨b1,bcu,ys,bown,bg2⟩:=h.tok j T hj
   refine ⟨b1,bcu,ys,bown.keepW J bown.1 hle.lx,fun g hg=>⟨(bg2 g hg).1,?_,(bg2 g hg).2.2⟩⟩
   rintro o (hs | ⟨hb,-⟩)
   ·exact (bg2 g hg).2.1 o hs
   ·exact absurd (h.tki j i T _ g hj hi hg hb) (fun e=>e1 e.symm)
 ·intro j k T U g hj hk ej ek
  rw [QP] at hj hk
  split at hj <;> split at hk
  ·rename_i e1 e2;exact e1.symm.trans e2
  ·rename_i e1 e2;subst e1;cases hj;exact h.tki _ _ _ _ g hi hk ej ek
  ·rename_i e1 e2;subst e2;cases hk;exact h.tki _ _ _ _ g hj hi ej ek
  ·exact h.tki j k T U g hj hk ej ek
section
variable {E:Env} {st:St} {dd:Option Tmp} {ty:TypeId} {pos:String} {af:Array Edge} {g:Option (Nat×Bool)}
theorem OpOK.appendP {t e sz by_ i n0:Nat} {o1 o2:Operand} {x1 y:CA} {es es2:List (List C)} {pv0:List C} (ht:Jp E.P t=some (e,sz)) (hte:K5 E.P e=some (sz,by_)) (hb:by_≤100000)
  (h1:ev st.tm o1=some (.v (.one x1))) (hx1:∀ V w v,x1.rel V w v→(CA.apv i sz n0 es).rel V w v) (hi:lk st.tk i=some (some ⟨e,sz,n0,pv0⟩)) (hp0:es.length * sz+pv0.length=n0 * sz) (h2:ev st.tm o2=some (.v (.one y))) (hs:SlOf y sz es2) (hm:n0+es2.length≤1000000000) (hne:es2 ≠ []) :
  OpOK E ⟨dd,.call { callee:=.builtin .append,args:=#[o1,o2],argTypes:=#[t,t]},ty,pos,af,g⟩ st (.v (.one (.apv i sz (n0+es2.length) es))) ⟨st.hp,(i,some ⟨e,sz,n0+es2.length,pv0++es2.flatten⟩)::JN i st.tk,st.nx⟩:=by
 intro V a w hr ro n K Q hK
 refine ⟨fun _ _=>trivial,?_⟩
 rw [Oper.semAt_eq _ _ _ (by intro c h;cases h)]
 obtain ⟨r1,r2,r3,av,cap,r4,r5,r6⟩:=hx1 V w _ (hr.ev h1)
 have q2:=hs.reads (hr.ev h2)
 have hexec:∀ v' w',(Builtin.append_ #[t,t] ty #[a.eval o1,a.eval o2]).run E.P w=.ok v' w'→(execOp a.eval ⟨dd,.call { callee:=.builtin .append,args:=#[o1,o2],argTypes:=#[t,t]},ty,pos,af,g⟩).run E.P w=.ok (.value v') w':=fun v' w' h=>by
  simp [execOp,resolve,invoke,builtin,h]
 obtain ⟨v',w',gb,m,V',cap',hrun,rfl,H,L,hv',hrd⟩:=append_runP (ty:=ty) hr.h ht hte hi r3 r4 r6 r5 hp0 q2 hm hb hne
 rw [hexec v' w' hrun]
 have hnx:(V.tok i (n0+es2.length) v' gb m).nx=st.nx:=by show max V.nx (i+1)=st.nx;rw [← hr.nx];omega
 refine hK _ w' _ (H.congr (fun _=>rfl) (fun j=>Zk i _ st.tk j)) hnx L ?_
 exact ⟨Nat.lt_of_lt_of_le r1 L.nx,by rw [tok_cu];exact Nat.le_refl _,by rw [Z7],some ⟨gb,0,none⟩,cap',hv',by omega,hrd⟩
theorem app_apv {V:Vu} {w:World} {i sz:Nat} {es:List (List C)} {v:Value} (h:(CA.app i sz es).rel V w v):(CA.apv i sz es.length es).rel V w v:=by
 obtain ⟨h1,h2,h3,h4⟩:=h
 obtain ⟨-,a,cap,b,off,us,e1,-⟩:=h4.row
 exact ⟨h1,h2,h3,a,cap,e1,Nat.le_refl _,by rw [← e1];exact h4⟩
theorem RO.indexP {t e sz i n:Nat} {x y:Operand} {es:List (List C)} {pv:List C} {m:Int} (ht:Jp E.P t=some (e,sz)) (hx:ev st.tm x=some (.v (.one (.apv i sz n es)))) (hi:lk st.tk i=some (some ⟨e,sz,n,pv⟩)) (hy:ev st.tm y=some (TI m)) (hm:(cond (decide (0≤m)) (Nat.blt m.toNat n) false)=true) :
  RO E ⟨dd,.indexAddr t x y,ty,pos,af,g⟩ st (.v (.one (.tp i n (m.toNat * sz)))):=by
 refine ⟨(fun _ h=>nomatch h),fun V a w hr=>?_⟩
 obtain ⟨r1,r2,r3,av,cap,r4,r5,r6⟩:=hr.ev hx
 have h0:0≤m:=of_decide_eq_true (cond_left hm)
 have h1:=GZ (cond_right hm)
 obtain ⟨k,rfl⟩:∃ k:Nat,m=(k:Int):=⟨m.toNat,(Int.toNat_of_nonneg h0).symm⟩
 rw [Int.toNat_natCast] at h1 ⊢
 obtain ⟨q1,q2,xs,⟨hown,-⟩,-⟩:=hr.h.tok i _ hi
 dsimp only at q2 hown
 obtain ⟨hu,i0,hi0,hsz⟩:=Ys ht
 have h2:(k:Int) < (n:Int):=by omega
 rcases hown.2 with ⟨-,hn0⟩ | ⟨gg,cap',cur,hvv,-⟩
 ·omega
 ·refine ⟨.pointer (some ⟨gg,k * sz,none⟩),?_,r1,r2,gg,cap',hvv,rfl⟩
  rw [hvv] at r3
  simp only [execOp,r3,Yr (hr.ev hy),Instr.indexAt,asIntOf,Sem.run_bind,Sem.run_pure,Result.andThen_ok,run_underlying hu,sizeOf,typeInfo]
  simp [hi0,hsz,Zr,h2,Sem.run,program]
theorem OpOK.storeP {α:Type} [Enc α] [EncLen α] {t i e n k0 m off:Nat} {ag:Bool} {o1 o2:Operand} {y y':AV} {l:List α} {v:α} (ht:Jw E.P t=some (ag,Enc.sz α)) (h1:ev st.tm o1=some (.v (.one (.tp i n off)))) (h2:ev st.tm o2=some (.v y)) (hs:ASub y y') (he:y'.cells=(Enc.enc v).map CA.d)
  (hi:lk st.tk i=some (some ⟨e,Enc.sz α,n,(Enc.encL l).flatten⟩)) (hn:n=k0+l.length) (ho:off=(k0+m) * Enc.sz α) (hm:m < l.length) (hdd:dd=none) :
  OpOK E ⟨dd,.store t o1 o2,ty,pos,af,g⟩ st (.tup []) ⟨st.hp,(i,some ⟨e,Enc.sz α,n,(Enc.encL (l.set m v)).flatten⟩)::JN i st.tk,st.nx⟩:=by
 intro V a w hr ro n' K Q hK
 refine ⟨fun _ _=>trivial,?_⟩
 rw [Oper.semAt_eq _ _ _ (by intro c h;cases h)]
 obtain ⟨r1,r2,gg,cap,r3,r4⟩:=hr.ev h1
 have e2:=(hs.rel (hr.ev h2)).cells
 obtain ⟨-,hsz⟩:=K6 ht w
 have hlen:(Enc.enc v).length=Enc.sz α:=EncLen.len v
 have hpl:(Enc.encL l).flatten.length=l.length * Enc.sz α:=by rw [JZ _ (GX l),Enc.len]
 rw [he] at e2
 obtain ⟨w',hw',H,L⟩:=HRel.storeTL r3 (Enc.enc v) (a.eval o2).cells.toList (m * Enc.sz α) 0 (Enc.encL l).flatten st.tk w hr.h hi (by
  rw [hpl,hlen,Nat.add_zero,← Nat.succ_mul];exact Nat.mul_le_mul_right _ hm) (by simpa using e2.1) (fun j c hj=>by
  obtain ⟨u,hu,hz'⟩:=e2.2 j (.d c) (by rw [List.getElem?_map,hj];rfl)
  exact ⟨u,by simpa using hu,hz'⟩)
 have hoff:n * Enc.sz α - (Enc.encL l).flatten.length+m * Enc.sz α=off:=by
  rw [hpl,hn,ho,Nat.add_mul,Nat.add_mul];omega
 rw [hoff] at hw'
 rw [Nat.add_zero,setC_flat l m v hm] at H
 have hrun:(execOp a.eval ⟨dd,.store t o1 o2,ty,pos,af,g⟩).run E.P w=.ok .skip w':=by
  have hs2:(a.eval o2).cells.size=Enc.sz α:=by rw [e2.1,List.length_map,hlen]
  simp only [execOp,r4,Instr.storeAt,Instr.sureAddr,storeVar,Sem.run_bind,Sem.run_pure,Result.andThen_ok,hsz,hs2]
  simp [hw']
 rw [hrun]
 subst hdd
 exact hK V w' undef (H.congr (fun _=>rfl) (fun j=>Zk i _ st.tk j)) hr.nx L XW
end
theorem settle_reads {E:Env} {V V':Vu} {hp:List (Nat×HB)} {tk:List (Nat×Option Tok)} {w:World} {i n e sz:Nat} {es es2:List (List C)} {v:Value} (h:HRel E V hp tk w) (hi:lk tk i=some (some ⟨e,sz,n,es2.flatten⟩)) (hn:n=es.length+es2.length) (hl2:∀ x∈es2,x.length=sz)
  (hv:(CA.apv i sz n es).rel V w v) (hL:V.Le V' w w) (hnx:V'.nx=V.nx) (hκ:V'.κ=V.κ) (hcu:V'.cu=V.cu) (hS:∀ g,(V.κ i n).ownBlock=some g→∀ o,o < n * sz→V'.S g o):(CA.app i sz (es++es2)).rel V' w v:=by
 obtain ⟨r1,r2,r3,a,cap,r4,r5,r6⟩:=hv
 obtain ⟨hl1,a1,cap1,b1,off1,us1,hveq,hc1,ha1,hus1,hk1⟩:=r6.row
 injection hveq with q1 q2 q3
 subst q1;subst q3
 obtain ⟨h1,hcu2,xs,⟨hown,hpl,hpv⟩,hg2⟩:=h.tok i _ hi
 dsimp only at hown hpl hpv
 have hf2:es2.flatten.length=es2.length * sz:=JZ es2 hl2
 have hlim:(Tok.mk e sz n es2.flatten).lim=es.length * sz:=by show n * sz - es2.flatten.length=_;rw [hf2,hn,Nat.add_mul];omega
 rw [hlim] at hpv
 have hall:∀ x∈es++es2,x.length=sz:=fun x hx=>by rcases List.mem_append.1 hx with h | h;exact hl1 x h;exact hl2 x h
 have hlen:(es++es2).length=n:=by rw [List.length_append,hn]
 refine ⟨by rw [hnx];exact r1,by rw [hlen,hcu];exact r2,by rw [hlen,hκ];exact r3,?_⟩
 rw [r4]
 rcases hown.2 with ⟨hv0,hn0⟩ | ⟨gg,cap',cur,hvv,-,hcells,hncap,hcm,hcs,htake⟩
 ·have e0:es++es2=[]:=List.eq_nil_of_length_eq_zero (hlen.trans hn0)
  rw [e0]
  subst hn0
  exact Reads.sl sz [] a cap 0 0 (fun _ _=>undef) (Nat.zero_le _) (fun h=>absurd rfl h) (fun i x hx=>by simp at hx) (fun i x j c hx=>by simp at hx) (fun i x j c hx=>by simp at hx) (fun i x j c hx=>by simp at hx)
 ·have e1:(Value.slice a n cap)=.slice (some ⟨gg,0,none⟩) n cap':=by rw [← r4,r3];exact hvv
  injection e1 with e2 e3 e4
  subst e2;subst e4
  have hrow:∀ (k:Nat) (c:C),(es++es2).flatten[k]?=some c→∃ u,xs[k]?=some u∧Reads V.S w c u:=fun k c hk=>by
   rw [List.flatten_append] at hk
   have hf1:=JZ es hl1
   by_cases hlt:k < es.flatten.length
   ·rw [List.getElem?_append_left hlt] at hk
    obtain ⟨u,h3,h4,-,h5⟩:=hk1 k c hk
    have hne:es ≠ []:=fun e'=>by subst e';simp at hk
    have:=ha1 hne
    injection this with this
    injection this with e4 e5
    subst e4
    rw [← e5,Nat.zero_add,Jt hcells] at h4
    refine ⟨u,?_,h5⟩
    have hlt':k < n * sz:=by rw [hn,Nat.add_mul];omega
    rw [← htake,List.getElem?_take_of_lt hlt'];simpa using h4
   ·rw [List.getElem?_append_right (by omega)] at hk
    obtain ⟨u,h3,h4⟩:=hpv _ c hk
    refine ⟨u,?_,h4⟩
    rw [show es.length * sz+(k - es.flatten.length)=k by omega] at h3
    exact h3
  rw [← hlen]
  refine ZV (us:=fun k=>xs.getD k undef) hall (by rw [hlen];exact hncap) (fun k c hk=>?_)
  have hklt:k < n * sz:=by have:=(List.getElem?_eq_some_iff.1 hk).1;rw [JZ _ hall,hlen] at this;exact this
  obtain ⟨u,h3,h4⟩:=hrow k c hk
  have e5:xs.getD k undef=u:=by rw [List.getD_eq_getElem?_getD,h3];rfl
  rw [e5,Nat.zero_add]
  refine ⟨?_,hS gg (by rw [hvv];rfl) k hklt,h4.mono hL.S hL.cell⟩
  rw [Jt hcells]
  rw [← htake,List.getElem?_take_of_lt hklt] at h3
  simpa using h3
section
variable {E:Env} {st:St} {Q:Exit→Act→World→Prop} {ex:Exit}
theorem XQ.settleC {α:Type} [Enc α] [EncLen α] {b off i e n:Nat} {T:TypeId} {xs:List CA} {l l2:List α} (hb:lk st.hp b=some (.cells T xs)) (hx:xs[off]?=some (.apv i (Enc.sz α) n (Enc.encL l))) (hi:lk st.tk i=some (some ⟨e,Enc.sz α,n,(Enc.encL l2).flatten⟩)) (hn:n=l.length+l2.length)
  (k:XQ E Q ex ⟨st.tm,(b,.cells T (xs.set off (.app i (Enc.sz α) (Enc.encL (l++l2)))))::JN b st.hp,(i,some ⟨e,Enc.sz α,(Enc.encL (l++l2)).length,[]⟩)::JN i st.tk,st.nx,st.nt,st.df⟩):XQ E Q ex st:=by
 intro V a w hr
 obtain ⟨V',H,L,e1,e2,e3,e4⟩:=hr.h.settle hi
 have hn':n=(Enc.encL l).length+(Enc.encL l2).length:=by rw [Enc.len,Enc.len];exact hn
 obtain ⟨hlt,o,ho,vs,rfl,hvs⟩:=hr.h.own b _ hb
 obtain ⟨u,hu,hur⟩:=hvs.2 off _ hx
 have hy:=settle_reads hr.h hi hn' (GX l2) hur L e1 e2 e3 e4
 rw [← Enc.app] at hy
 have hcells:∀ j B,lk ((b,HB.cells T (xs.set off (.app i (Enc.sz α) (Enc.encL (l++l2)))))::JN b st.hp) j=some B→∃ B0,lk st.hp j=some B0:=fun j B hj=>by
  rw [Zk,QP] at hj
  split at hj
  ·rename_i e5;subst e5;exact ⟨_,hb⟩
  ·exact ⟨_,hj⟩
 have hrels:rels V' w (xs.set off (.app i (Enc.sz α) (Enc.encL (l++l2)))) vs:=by
  have h2:=hvs.mono L
  refine ⟨by rw [List.length_set];exact h2.1,fun j x hj=>?_⟩
  rw [List.getElem?_set] at hj
  split at hj
  ·rename_i e5;subst e5
   split at hj
   ·cases hj;exact ⟨u,hu,hy⟩
   ·cases hj
  ·exact h2.2 j x hj
 refine k V' a w ⟨⟨H.ext,H.le0,H.sz,H.sub,fun j B hj=>?_,fun i' j A B hi' hj e5=>?_,fun j B hj=>?_,fun j T' hj=>?_,fun i' j T' U g hi' hj=>?_⟩,e1.trans hr.nx,hr.nt,hr.df.le L,fun t' x ht'=>(hr.tm t' x ht').mono L⟩
 ·have hj':=hj
  rw [Zk,QP] at hj
  split at hj
  ·rename_i e5;subst e5;cases hj
   obtain ⟨h5,o',h6,-⟩:=H.own b _ hb
   have hι:V'.ι b=V.ι b:=L.ι b hlt
   exact ⟨h5,_,by rw [hι];exact ho,vs,rfl,hrels⟩
  ·exact H.own j B hj
 ·obtain ⟨A0,hA⟩:=hcells i' A hi'
  obtain ⟨B0,hB⟩:=hcells j B hj
  exact H.inj i' j A0 B0 hA hB e5
 ·obtain ⟨B0,hB⟩:=hcells j B hj
  exact H.new j B0 hB
 ·have hl:∀ q,lk ((i,some (Tok.mk e (Enc.sz α) (Enc.encL (l++l2)).length []))::JN i st.tk) q=lk ((i,some (Tok.mk e (Enc.sz α) n []))::st.tk) q:=fun q=>by
   rw [Zk,QP,QP,Enc.len,List.length_append,hn]
  dsimp only at hj
  rw [hl] at hj
  obtain ⟨b1,b2,ys,b3,b4⟩:=H.tok j T' hj
  exact ⟨b1,b2,ys,b3,fun g hg=>⟨(b4 g hg).1,(b4 g hg).2.1,fun q B hq=>by
   obtain ⟨B0,hB⟩:=hcells q B hq
   exact (b4 g hg).2.2 q B0 hB⟩⟩
 ·have hl:∀ q,lk ((i,some (Tok.mk e (Enc.sz α) (Enc.encL (l++l2)).length []))::JN i st.tk) q=lk ((i,some (Tok.mk e (Enc.sz α) n []))::st.tk) q:=fun q=>by
   rw [Zk,QP,QP,Enc.len,List.length_append,hn]
  dsimp only at hi' hj
  rw [hl] at hi' hj
  exact H.tki i' j T' U g hi' hj
end
section
variable {E:Env} {st:St} {dd:Option Tmp} {ty:TypeId} {pos:String} {af:Array Edge} {g:Option (Nat×Bool)} {α:Type} [Enc α] [EncLen α]
theorem enc1_ne (z:α):Enc.encL [z] ≠ []:=by rw [Enc.one];simp
theorem OpOK.appendH {t e by_ i:Nat} {o1 o2:Operand} {y:CA} {l:List α} {z:α} (ht:Jp E.P t=some (e,Enc.sz α)) (hte:K5 E.P e=some (Enc.sz α,by_)) (hb:Nat.ble by_ 100000=true)
  (h1:ev st.tm o1=some (.v (.one (.app i (Enc.sz α) (Enc.encL l))))) (hi:lk st.tk i=some (some ⟨e,Enc.sz α,(Enc.encL l).length,[]⟩)) (h2:ev st.tm o2=some (.v (.one y))) (hs:SlE y [z]) (hm:Nat.ble (l.length+1) 1000000000=true) :
  OpOK E ⟨dd,.call { callee:=.builtin .append,args:=#[o1,o2],argTypes:=#[t,t]},ty,pos,af,g⟩ st (.v (.one (.apv i (Enc.sz α) ((Enc.encL l).length+1) (Enc.encL l)))) ⟨st.hp,(i,some ⟨e,Enc.sz α,(Enc.encL l).length+1,(Enc.encL [z]).flatten⟩)::JN i st.tk,st.nx⟩:=by
 have:=OpOK.appendP (E:=E) (dd:=dd) (ty:=ty) (pos:=pos) (af:=af) (g:=g) (n0:=(Enc.encL l).length) (es:=Enc.encL l) (pv0:=[]) ht hte (Nat.le_of_ble_eq_true hb) h1 (fun V w v h=>app_apv h) hi (by simp) h2 hs.sl (by rw [Enc.len,Enc.len];exact Nat.le_of_ble_eq_true hm) (enc1_ne z)
 rw [Enc.len [z],List.nil_append] at this
 exact this
theorem lt_H (l:List α):(cond (decide (0≤(l.length:Int))) (Nat.blt (l.length:Int).toNat ((Enc.encL l).length+1)) false)=true:=by
 rw [decide_eq_true (by omega),cond_true,Int.toNat_natCast,Enc.len]
 exact Nat.ble_eq_true_of_le (Nat.le_refl _)
theorem OpOK.storeH {t i e:Nat} {ag:Bool} {o1 o2:Operand} {y y':AV} {l:List α} {z:α} (v:α) (ht:Jw E.P t=some (ag,Enc.sz α)) (h1:ev st.tm o1=some (.v (.one (.tp i ((Enc.encL l).length+1) ((l.length:Int).toNat * Enc.sz α))))) (h2:ev st.tm o2=some (.v y)) (hs:ASub y y') (he:y'.cells=(Enc.enc v).map CA.d)
  (hi:lk st.tk i=some (some ⟨e,Enc.sz α,(Enc.encL l).length+1,(Enc.encL [z]).flatten⟩)) (hdd:dd=none) :
  OpOK E ⟨dd,.store t o1 o2,ty,pos,af,g⟩ st (.tup []) ⟨st.hp,(i,some ⟨e,Enc.sz α,(Enc.encL l).length+1,(Enc.encL [v]).flatten⟩)::JN i st.tk,st.nx⟩ :=
 OpOK.storeP (l:=[z]) (v:=v) (k0:=l.length) (m:=0) ht h1 h2 hs he hi (by rw [Enc.len];rfl) rfl (Nat.zero_lt_one) hdd
theorem n_H (l:List α) (x:α):(Enc.encL l).length+1=l.length+[x].length:=by rw [Enc.len];rfl
end
section
variable {E:Env} {st:St} {dd:Option Tmp} {ty:TypeId} {pos:String} {af:Array Edge} {g:Option (Nat×Bool)}
theorem RO.loadCol {t b m0 sz f:Nat} {T:TypeId} {xs:List CA} {x:Operand} {col:List Int} {m v:Int} (ht:Jw E.P t=some (false,m0)) (hx:ev st.tm x=some (.v (.one (.ptr b (0+m.toNat * sz+f))))) (hb:lk st.hp b=some (.cells T xs))
  (hc:(List.range col.length).map (fun j=>xs[j * sz+f]?)=col.map fun n=>some (dI n)) (hv:JC col m=some v):RO E ⟨dd,.load t x,ty,pos,af,g⟩ st (TI v):=by
 obtain ⟨k,rfl,hk⟩:=idxS hv
 have h1:=congrArg (fun l:List (Option CA)=>l[k]?) hc
 have hlt:=(List.getElem?_eq_some_iff.1 hk).1
 rw [List.getElem?_map,List.getElem?_map,List.getElem?_range hlt,hk] at h1
 have h2:=Option.some.inj h1
 refine Q6 (y:=dI v) ht hx hb ?_
 rw [Int.toNat_natCast,Nat.zero_add]
 exact h2
end
section
variable {E:Env} {st:St} {dd:Option Tmp} {ty:TypeId} {pos:String} {af:Array Edge} {g:Option (Nat×Bool)}
theorem OpOK.lit2E {α:Type} [Enc α] (v0 v1:α) {t e:Nat} {zs:List Value} {o0 o1:Operand} {x0 x1:AV} {ys:List CA} (ht:Jp E.P t=some (e,Enc.sz α)) (hze:JD E.P e=some zs) (hzl:zs.length=Enc.sz α) (hz:zs.all (·.oneCell')=true) (hpos:0 < Enc.sz α) (hlen:2 * Enc.sz α≤16777216)
  (h0:ev st.tm o0=some (.v x0)) (h1:ev st.tm o1=some (.v x1)) (hf:Zp (JL (Enc.sz α) 2) (JS zs 2) [(0,x0),(1,x1)]=some ys) (hs:CSubs ys (Enc.enc v0++Enc.enc v1)) (hel:(Enc.enc v0).length=Enc.sz α∧(Enc.enc v1).length=Enc.sz α) :
  OpOK E ⟨dd,.buildSlice t 2 #[(0,o0),(1,o1)],ty,pos,af,g⟩ st (.v (.one (.app st.nx (Enc.sz α) (Enc.encL [v0,v1])))) ⟨st.hp,(st.nx,some ⟨e,Enc.sz α,(Enc.encL [v0,v1]).length,[]⟩)::st.tk,st.nx+1⟩ :=
 OpOK.litApp (avs:=[(0,x0),(1,x1)]) (Enc.encL [v0,v1]) ht hze hzl hz hpos hlen rfl (fun j i x hx=>by
  match j,hx with
  | 0,hx=>cases hx;exact ⟨o0,rfl,h0⟩
  | 1,hx=>cases hx;exact ⟨o1,rfl,h1⟩) hf (by rw [Enc.map];simpa using hs) (fun x hx=>by
  rw [Enc.map] at hx
  obtain ⟨y,hy,rfl⟩:=List.mem_map.1 hx
  simp at hy
  rcases hy with rfl | rfl
  ·exact hel.1
  ·exact hel.2) (by rw [Enc.len];rfl)
theorem OpOK.lit3E {α:Type} [Enc α] (v0 v1 v2:α) {t e:Nat} {zs:List Value} {o0 o1 o2:Operand} {x0 x1 x2:AV} {ys:List CA} (ht:Jp E.P t=some (e,Enc.sz α)) (hze:JD E.P e=some zs) (hzl:zs.length=Enc.sz α) (hz:zs.all (·.oneCell')=true) (hpos:0 < Enc.sz α) (hlen:3 * Enc.sz α≤16777216)
  (h0:ev st.tm o0=some (.v x0)) (h1:ev st.tm o1=some (.v x1)) (h2:ev st.tm o2=some (.v x2)) (hf:Zp (JL (Enc.sz α) 3) (JS zs 3) [(0,x0),(1,x1),(2,x2)]=some ys) (hs:CSubs ys (Enc.enc v0++Enc.enc v1++Enc.enc v2)) (hel:(Enc.enc v0).length=Enc.sz α∧(Enc.enc v1).length=Enc.sz α∧(Enc.enc v2).length=Enc.sz α) :
  OpOK E ⟨dd,.buildSlice t 3 #[(0,o0),(1,o1),(2,o2)],ty,pos,af,g⟩ st (.v (.one (.app st.nx (Enc.sz α) (Enc.encL [v0,v1,v2])))) ⟨st.hp,(st.nx,some ⟨e,Enc.sz α,(Enc.encL [v0,v1,v2]).length,[]⟩)::st.tk,st.nx+1⟩ :=
 OpOK.litApp (avs:=[(0,x0),(1,x1),(2,x2)]) (Enc.encL [v0,v1,v2]) ht hze hzl hz hpos hlen rfl (fun j i x hx=>by
  match j,hx with
  | 0,hx=>cases hx;exact ⟨o0,rfl,h0⟩
  | 1,hx=>cases hx;exact ⟨o1,rfl,h1⟩
  | 2,hx=>cases hx;exact ⟨o2,rfl,h2⟩) hf (by rw [Enc.map];simpa using hs) (fun x hx=>by
  rw [Enc.map] at hx
  obtain ⟨y,hy,rfl⟩:=List.mem_map.1 hx
  simp at hy
  rcases hy with rfl | rfl | rfl
  ·exact hel.1
  ·exact hel.2.1
  ·exact hel.2.2) (by rw [Enc.len];rfl)
theorem RO.makeFunc3 {f:FuncId} {o1 o2 o3:Operand} {i1 k1 i2 k2 i3 k3:Nat} {dd:Option Tmp} (h1:ev st.tm o1=some (.v (.one (.ptr i1 k1)))) (h2:ev st.tm o2=some (.v (.one (.ptr i2 k2)))) (h3:ev st.tm o3=some (.v (.one (.ptr i3 k3)))):RO E ⟨dd,.makeFunc (.func f) #[] #[o1,o2,o3],ty,pos,af,g⟩ st (.v (.one (.fn f [(i1,k1),(i2,k2),(i3,k3)]))) :=
 RO.makeFunc rfl (fun k p hk=>by
  match k,hk with
  | 0,hk=>cases hk;exact ⟨o1,rfl,h1⟩
  | 1,hk=>cases hk;exact ⟨o2,rfl,h2⟩
  | 2,hk=>cases hk;exact ⟨o3,rfl,h3⟩)
end
section
variable {E:Env} {st:St}
end
end Go.Proofs.Ytafddfoefeploaa
namespace Go.Proofs.Ytafddfoefeploaa
open Go.RowKit
def Wd (P:Program) (f:FuncId) (args:List AV) (m:Mem) (pv:Value) (m':Mem):Prop :=
 J4 P f∧∀ (E:Env) (V:Vu) (w:World) (vs:Array Value),E.P=P→HRel E V m.hp m.tk w→V.nx=m.nx→argsRel V w args vs →
  Calls P f vs w fun e w'=>∃ V',e=.panicked (Jx pv)∧HRel E V' m'.hp m'.tk w'∧V'.nx=m'.nx∧V.Le V' w w'
inductive EK where
 | ret (xs:List AV)
 | pan (v:Value)
def CallE (P:Program) (f:FuncId) (args:List AV) (m:Mem) (k:EK) (m':Mem):Prop:=match k with
 | .ret xs=>CallM P f args m (QK xs) m'
 | .pan v=>Wd P f args m v m'
def EK.ok (P:Program) (st:St) (rs:List ResultVar):EK→Prop
 | .ret xs=>RAs P st rs xs
 | .pan _=>True
def EK.by:EK→Exit→Prop
 | .ret _,e=>e=.normal∨e=.ret
 | .pan v,e=>e=.panic (Jx v)
theorem byN {xs:List AV}:EK.by (.ret xs) .normal:=.inl rfl
theorem DV {xs:List AV}:EK.by (.ret xs) .ret:=.inr rfl
theorem ZY {v:Value}:EK.by (.pan v) (.panic (Jx v)):=rfl
theorem DB {P:Program} {st:St} {rs:List ResultVar} {v:Value}:EK.ok P st rs (.pan v):=trivial
theorem Du {P:Program} {st:St} {rs:List ResultVar} {xs:List AV} (h:RAs P st rs xs):EK.ok P st rs (.ret xs):=h
theorem CallE.m {P:Program} {f:FuncId} {args:List AV} {m m':Mem} {xs:List AV} (h:CallE P f args m (.ret xs) m'):CallM P f args m (QK xs) m':=h
theorem CallE.d {P:Program} {f:FuncId} {args:List AV} {m m':Mem} {v:Value} (h:CallE P f args m (.pan v) m'):Wd P f args m v m':=h
theorem KZ {α β γ:Type} {f:α→Option γ} {g:β→Option γ} {a:α} {r:Option γ} (h:Sum.elim f g (.inl a)=r):f a=r:=h
theorem Gx {α β γ:Type} {f:α→Option γ} {g:β→Option γ} {b:β} {r:Option γ} (h:Sum.elim f g (.inr b)=r):g b=r:=h
theorem JY {α β γ δ:Type} (ι:α⊕β→δ) {o:Option δ} {y:α⊕β} {f:α→Option γ} {g:β→Option γ} {r:γ} {G:Prop} (ho:o=some (ι y)) (h:Sum.elim f g y=some r) (k1:∀ a,o=some (ι (.inl a))→f a=some r→G) (k2:∀ b,o=some (ι (.inr b))→g b=some r→G):G:=by
 cases y with
 | inl a=>exact k1 a ho h
 | inr b=>exact k2 b ho h
def OpD (E:Env) (o:Oper) (st:St) (pv:Value) (m:Mem):Prop:=∀ V a w,Rel E V st a w→∀ (ro:Option Nat) (n:Nat) (K:Act→World→Prop) (Q:Exit→Act→World→Prop),
 (∀ V' w',HRel E V' m.hp m.tk w'→V'.nx=m.nx→V.Le V' w w'→Q (.panic (Jx pv)) a w')→o.wpIn (FR ro) n E.P a w K Q
section
variable {E:Env} {ro:Option Nat} {n:Nat} {ops:Array Oper} {Q:Exit→Act→World→Prop} {rest:List Oper} {st:St} {o:Oper} {x:TV} {d dd:Option Tmp} {ty:TypeId} {pos:String} {af:Array Edge} {g:Option (Nat×Bool)}
theorem Jf {pv:Value} {hp:List (Nat×HB)} {tk:List (Nat×Option Tok)} {nx:Nat} (hg:Ya ops st.tm o=some true) (ho:OpD E o st pv ⟨hp,tk,nx⟩) (k:XQ E Q (.panic (Jx pv)) ⟨st.tm,hp,tk,nx,st.nt,st.df⟩):XL E ro n ops Q (o::rest) st:=by
 intro V a w h
 unfold wpListIn
 rw [if_pos (Zc h hg)]
 exact ho V a w h ro n _ Q (fun V' w' H hn L=>k V' a w' (h.mem H hn L))
theorem DieOp.mk {fx:List (Nat×TV)} {i:Nat} {m m':Mem} {pv:Value} (ho:ops[i]?=some o) (hw:Ya ops (Y9 ops st fx i m).tm o=some true) (h:OpD E o (Y9 ops st fx i m) pv m') (k:XQ E Q (.panic (Jx pv)) ⟨(Y9 ops st fx i m).tm,m'.hp,m'.tk,m'.nx,st.nt,st.df⟩):DieOp E Q ops st fx i m :=
 ⟨o,ho,hw,fun V a w hr ro n K=>h V a w hr ro n K Q (fun V' w' H hn L=>k V' a w' (hr.mem H hn L))⟩
theorem Jo {Q':Exit→Act→World→Prop} {e:Exit} (h:XQ E Q e st) (hq:∀ a w,Q e a w→Q' e a w):XQ E Q' e st:=fun V a w hr=>hq a w (h V a w hr)
def tyStruct (P:Program) (t:TypeId):Bool:=match P.underlying t with
 | some (.struct _)=>true
 | _=>false
theorem RO.wrong {T:TypeId} {x:Operand} {e:Int} (ht:tyStruct E.P T=true) (hx:ev st.tm x=some (.v (.agg [dI e]))):RO E ⟨d,.makeInterface T x,ty,pos,af,g⟩ st (Wc (QJ T e)):=by
 refine ⟨(fun _ h=>nomatch h),fun V a w hr=>⟨QJ T e,?_,Kr J⟩⟩
 obtain ⟨vs,h1,h2,h3⟩:=hr.ev hx
 obtain ⟨u,h4,h5⟩:=h3 0 _ rfl
 have e1:u=.int .i64 e:=by cases h5;rfl
 subst e1
 have e2:vs=#[.int .i64 e]:=by
  apply Array.ext'
  have h6:vs.toList.length=1:=by simpa using h2
  match hv:vs.toList,h6 with
  | [y],_ =>
   have:vs[0]?=some y:=by rw [← Array.getElem?_toList,hv];rfl
   rw [h4] at this;cases this;rfl
 unfold tyStruct at ht
 split at ht
 ·rename_i fs hu
  simp [execOp,Instr.makeInterface,run_underlying hu,h1,e2,QJ]
 ·cases ht
theorem OpD.panic {x:Operand} {v:Value} {T:TypeId} (hx:ev st.tm x=some (Wc (.iface T v))):OpD E ⟨dd,.panic x,ty,pos,af,g⟩ st (.iface T v) st.mem:=by
 intro V a w hr ro n K Q hK
 refine ⟨fun _ _=>trivial,?_⟩
 rw [Oper.semAt_eq _ _ _ (by intro c h;cases h)]
 have h1:=Yr (hr.ev hx)
 have h2:(execOp a.eval ⟨dd,.panic x,ty,pos,af,g⟩).run E.P w=.halt (.panic (.iface T v)) w:=by
  simp [execOp,Instr.panic,h1,goPanic]
 rw [h2]
 exact hK V w hr.h hr.nx (Vu.Le.refl _ _)
theorem Yy {x:Operand} {f:FuncId} {caps:List (Nat×Nat)} {ars:Array Operand} {args args0:List AV} {ats:Array TypeId} {pv:Value} {hp0 hp1 hp1' hpF:List (Nat×HB)} {tk0 tk1 tk1' tkF:List (Nat×Option Tok)} {nx0 nx1 nx2 n:Nat}
  (rs:List Nat) (hx:ev st.tm x=some (.v (.one (.fn f caps)))) (ha:Zx st.tm ars.toList=some args)
  (hc:Wd E.P f args0 ⟨hp0,tk0,nx0⟩ pv ⟨hp1,tk1,nx1⟩) (hst:st.nx=n) (he:args++WH caps=args0.map (AV.ren (Ul rs n))) (e3:YN (Ul rs n) hp1=hp1') (e4:Zn (Ul rs n) tk1=tk1')
  (hh:hpLe st.hp (YN (Ul rs n) hp0)) (ht:tkLe st.tk (Zn (Ul rs n) tk0)) (hhF:hpLe st.hp hpF) (htF:tkLe st.tk tkF) (hl:Nat.beq rs.length nx0=true) (hnd:Uw rs=true) (hlt:(rs.all fun j=>Nat.blt j n)=true) (d1:UT rs hpF=true) (d2:UT rs tkF=true)
  (b0:hpBelow nx0 hp0) (c0:(tk0.all fun p=>Nat.blt p.1 nx0)=true) (ba:(args0.all fun y=>y.belowB nx0)=true) (hle:Nat.ble nx0 nx1=true) (hn:Nat.beq (nx1+n) (nx2+nx0)=true) :
  OpD E ⟨dd,.call { callee:=.value x,args:=ars,argTypes:=ats },ty,pos,af,g⟩ st pv ⟨hp1'++hpF,tk1'++tkF,nx2⟩:=by
 subst hst e3 e4
 have c0':=tkBelow_all c0
 have hl':rs.length=nx0:=Nat.eq_of_beq_eq_true hl
 have hlt':∀ j∈rs,j < st.nx:=fun j hj=>GZ (List.all_eq_true.1 hlt j hj)
 have inj:∀ i j,Ul rs st.nx i=Ul rs st.nx j→i=j:=fun i j h=>rho_inj (nodupN_ok hnd) hlt' h
 intro V a w hr ro n K Q hK
 refine ⟨fun _ _=>trivial,?_⟩
 rw [Oper.semAt_eq _ _ _ (by intro c h;cases h)]
 obtain ⟨hv1,hv2⟩:=hr.ev hx
 have hrun:(execOp a.eval ⟨dd,.call { callee:=.value x,args:=ars,argTypes:=ats },ty,pos,af,g⟩).run E.P w=.ok (.enter f (ars.map a.eval++(caps.map fun p=>Value.pointer (some ⟨V.ι p.1,p.2,none⟩)).toArray)) w:=by
  have:=hc.1 (ars.map a.eval++(caps.map fun p=>Value.pointer (some ⟨V.ι p.1,p.2,none⟩)).toArray) w
  simp [execOp,resolve,hv2,Deferred.ofValue,invoke]
  simpa using this
 rw [hrun]
 refine ⟨(by intro h;cases h),?_⟩
 have h0:=(hr.h.forgetLe hh ht).part inj b0 c0'
 have har:argsRel (pull (Ul rs st.nx) V nx0) w args0 (ars.map a.eval++(caps.map fun p=>Value.pointer (some ⟨V.ι p.1,p.2,none⟩)).toArray):=by
  obtain ⟨h1,h2⟩:=(Zq hr ha).append (GD hv1)
  rw [he] at h1 h2
  refine ⟨by simpa using h1,fun i y hy=>?_⟩
  obtain ⟨u,hu,hyu⟩:=h2 i (y.ren _) (by rw [List.getElem?_map,hy];rfl)
  exact ⟨u,hu,hyu.pull (ZX (List.all_eq_true.1 ba y (List.mem_of_getElem? hy)))⟩
 have hc':CallsIn Fence.wide (n - 1) E.P f _ w _:=callsIn_wide.2 (hc.2 ⟨E.P,w,W7 V _ _,pull (Ul rs st.nx) V nx0⟩ _ w _ rfl h0 rfl har)
 refine CallsIn.mono (F:=FR ro) hc' ?_
 rintro e w' ⟨V1,rfl,H,hn1,L⟩
 have hn2:=Nat.eq_of_beq_eq_true hn
 have hnx:=hr.nx
 dsimp only at hn1
 obtain ⟨H2,L2,L3⟩:=hr.h.turn (n:=nx2) inj hh ht hhF htF (fun i hi=>by rw [hnx];exact hlt' _ (Gk (by omega))) (fun i hi=>by rw [Wf (by omega),hnx,hl'])
  (fun i B hi k hk e=>apartB_ok d1 hi (by rw [← e];exact Gk (by omega))) (fun i T hi k hk e=>apartB_ok d2 hi (by rw [← e];exact Gk (by omega))) b0 c0' (by rw [hn1,hnx];exact hn2) (by rw [hn1];exact Nat.le_of_ble_eq_true hle) H
 exact hK _ w' H2 J L2
theorem QH {x:Operand} {f:FuncId} {ars:Array Operand} {args args':List AV} {ats:Array TypeId} {pv:Value} {m1:Mem} (hx:ev st.tm x=some (.v (.one (.fn f [])))) (ha:Zx st.tm ars.toList=some args) (hs:Da args=some args')
  (hc:Wd E.P f args' mem0 pv m1):OpD E ⟨dd,.call { callee:=.value x,args:=ars,argTypes:=ats },ty,pos,af,g⟩ st pv st.mem:=by
 intro V a w hr ro n K Q hK
 refine ⟨fun _ _=>trivial,?_⟩
 rw [Oper.semAt_eq _ _ _ (by intro c h;cases h)]
 rw [call_enters (by have:=(hr.ev hx).2;simpa using this) hc.1]
 refine ⟨(by intro h;cases h),?_⟩
 have har:argsRel (Ko V.S) w args' (ars.map a.eval):=by
  obtain ⟨h1,h2⟩:=Zq hr ha
  obtain ⟨h3,h4⟩:=asAVs_spec hs
  refine ⟨by omega,fun i y hy=>?_⟩
  obtain ⟨x,hx',hxy⟩:=h4 i y hy
  obtain ⟨u,hu,hxu⟩:=h2 i x hx'
  exact ⟨u,hu,hxy.rel hxu⟩
 have hc':CallsIn Fence.wide (n - 1) E.P f _ w _:=callsIn_wide.2 (hc.2 (Dy E.P w V.S) (Ko V.S) w _ rfl (Dm hr.h.sz) rfl har)
 refine CallsIn.mono (F:=FR ro) hc' ?_
 rintro e w' ⟨V1,rfl,H,hn,L⟩
 have hg:V.Grow { V with S:=V1.S } w w':=⟨Nat.le_refl _,fun _ _=>rfl,fun _ _=>rfl,fun _ _ _ _=>rfl,H.le0.S,fun b o h=>by
  rcases H.sub b o h with h1 | h1 | h1
  ·exact .inl h1
  ·exact .inr h1
  ·exact h1.elim,H.sz⟩
 have hx':Xj w w':=H.ext
 exact hK { V with S:=V1.S } w' (hr.h.later hx' hg) hr.nx (hr.h.le hx' hg)
theorem OpD.callW {x:Operand} {f:FuncId} {caps:List (Nat×Nat)} {ars:Array Operand} {args args':List AV} {ats:Array TypeId} {pv:Value} {m':Mem} {hp0:List (Nat×HB)} {tk0:List (Nat×Option Tok)} {nx0:Nat} (hx:ev st.tm x=some (.v (.one (.fn f caps)))) (ha:Zx st.tm ars.toList=some args) (he:args++WH caps=args')
  (hc:Wd E.P f args' ⟨hp0,tk0,nx0⟩ pv m') (hn0:st.nx=nx0) (hh:hpLe st.hp hp0) (ht:tkLe st.tk tk0):OpD E ⟨dd,.call { callee:=.value x,args:=ars,argTypes:=ats },ty,pos,af,g⟩ st pv m':=by
 subst hn0;subst he
 intro V a w hr ro n K Q hK
 refine ⟨fun _ _=>trivial,?_⟩
 rw [Oper.semAt_eq _ _ _ (by intro c h;cases h)]
 obtain ⟨hv1,hv2⟩:=hr.ev hx
 have hrun:(execOp a.eval ⟨dd,.call { callee:=.value x,args:=ars,argTypes:=ats },ty,pos,af,g⟩).run E.P w=.ok (.enter f (ars.map a.eval++(caps.map fun p=>Value.pointer (some ⟨V.ι p.1,p.2,none⟩)).toArray)) w:=by
  have:=hc.1 (ars.map a.eval++(caps.map fun p=>Value.pointer (some ⟨V.ι p.1,p.2,none⟩)).toArray) w
  simp [execOp,resolve,hv2,Deferred.ofValue,invoke]
  simpa using this
 rw [hrun]
 refine ⟨(by intro h;cases h),?_⟩
 have hc':CallsIn Fence.wide (n - 1) E.P f _ w _:=callsIn_wide.2 (hc.2 E V w _ rfl (hr.h.forgetLe hh ht) hr.nx ((Zq hr ha).append (GD hv1)))
 refine CallsIn.mono (F:=FR ro) hc' ?_
 rintro e w' ⟨V',rfl,H,hn,L⟩
 exact hK V' w' H hn L
end
theorem leaves_then {E:Env} {hp:List (Nat×HB)} {tk:List (Nat×Option Tok)} {F:Fence} {n:Nat} {P:Program} {fn:Func} {tmps:Array Value} {R:Ending→World→Prop} {u:FrameMode} (hu:u ≠ .run) {rest:List Deferred}:∀ (bs:List Nat) (w:World) (V:Vu),HRel E V hp tk w→bs.Nodup →
  (∀ b∈bs,V.S b 0∧w.heap[b]?=some (.deferred (some []))∧∀ o,¬ E.V0.S b o) →
  (∀ w' V',HRel E V' hp tk w'→V'.nx=V.nx→V'.ι=V.ι→V.Lx V' w w'→(∀ b o,b∉bs→V.S b o→V'.S b o)→(∀ b,b∉bs→w'.heap[b]?=w.heap[b]?)→LeavesInM F n P fn tmps R rest u w') →
  LeavesInM F n P fn tmps R (bs.map (fun b=>{ target:=.collected b,args:=#[]})++rest) u w
 | [],w,V,h,_,_,hK=>hK w V h rfl rfl (Vu.Lx.refl _ _) (fun _ _ _ h=>h) (fun _ _=>rfl)
 | b::bs,w,V,h,hn,hb,hK=>by
  obtain ⟨h1,h2,h3⟩:=hb b (by simp)
  obtain ⟨h4,h5⟩:=List.nodup_cons.1 hn
  obtain ⟨H,L⟩:=h.take h1 h2 h3
  refine ⟨hu,.inl ⟨b,_,J,run_takeDeferred h2,?_⟩⟩
  refine leaves_then hu bs _ _ H h5 (fun b' hb'=>?_) (fun w' V' hw' hn' hι' L' hS' hh'=>hK w' V' hw' hn' hι' (L.trans L') (fun b' o hm hs=>hS' b' o (fun h=>hm (by simp [h])) ⟨hs,fun e=>hm (by simp [e])⟩) (fun b' hm=>(hh' b' (fun h=>hm (by simp [h]))).trans (World.putObj_heap_other (fun e=>hm (by simp [e])))))
  obtain ⟨h6,h7,h8⟩:=hb b' (by simp [hb'])
  have hne:b' ≠ b:=fun e=>h4 (by rw [← e];exact hb')
  exact ⟨⟨h6,hne⟩,(World.putObj_heap_other hne).trans h7,h8⟩
theorem leaves_pan {E:Env} {V:Vu} {st:St} {a:Act} {w:World} (hr:Rel E V st a w) (hd:st.df=[]) {F:Fence} {n:Nat} {P:Program} {fn:Func} {tmps:Array Value} {R:Ending→World→Prop} {ch:List PanicEntry}
  (hK:∀ w' V',HRel E V' st.hp st.tk w'→V'.nx=V.nx→V.Lx V' w w'→R (.panicked ch) w'):LeavesInM F n P fn tmps R a.defers (.panicking ch) w:=by
 obtain ⟨bs,h1,h2,h3⟩:=hr.df.of_nil hd
 rw [h1,← List.append_nil (List.map _ bs)]
 exact leaves_then (by simp) bs w V hr.h h2 h3 (fun w' V' H hn hι L _ _=>hK w' V' H hn L)
section
variable {E:Env} {st:St} {dd:Option Nat} {ty:TypeId} {pos:String} {af:Array Edge} {g:Option (Nat×Bool)}
theorem OpD.yield {x:Operand} {L:Nat} {ars:Array Operand} {args:List AV} {ats:Array TypeId} {p0 p1:Option Code} {DA tm1:List (Nat×TV)} {nt0 nt1:Nat} {ps0 ps1:Array Nat} {as0 as1 bd0 bd1:Code} {D0 D1:Nat} {sa sb:St} {pv:Value}
  (hx:ev st.tm x=some (.v (.one (.yld L)))) (ha:Zx st.tm ars.toList=some args) (hL:lk st.hp L=some (.loop .ready p0 DA nt0 ps0 as0 bd0 D0)) (hlen:ars.size=ps0.size) (hps:ps0.toList.all (fun t=>Nat.blt t nt0)=true)
  (h1:ExecOK E.P (some L) as0 ⟨KA ps0.toList args DA,st.hp,st.tk,st.nx,nt0,[]⟩ .normal sa)
  (h2:lk sa.hp L=some (.loop .ready p1 tm1 nt1 ps1 as1 bd1 D1))
  (h3:ExecOK E.P (some L) bd0 ⟨sa.tm,(L,.loop .busy p1 tm1 nt1 ps1 as1 bd1 D1)::JN L sa.hp,sa.tk,sa.nx,sa.nt,sa.df⟩ (.panic (Jx pv)) sb) (hdf:sb.df=[]) (hP0:E.P=Try.prog:=by rfl) :
  OpD E ⟨dd,.call { callee:=.value x,args:=ars,argTypes:=ats },ty,pos,af,g⟩ st pv ⟨sb.hp,sb.tk,sb.nx⟩:=by
 intro V a w hr ro n K Q hK
 refine ⟨fun _ _=>trivial,?_⟩
 rw [Oper.semAt_eq _ _ _ (by intro c h;cases h)]
 obtain ⟨hLnx,hv⟩:=hr.ev hx
 obtain ⟨-,ob,hob,hD,fn,tmps,rfl,hsz,htm⟩:=hr.h.own L _ hL
 rw [run_yieldOp rfl hv hob hlen]
 refine ⟨(by intro h;cases h),?_⟩
 have har:=Zq hr ha
 obtain ⟨hal,-⟩:=evArgs_spec ha
 have hput:=putArgs_rel (V:=V) (w:=w) ps0.toList args (ars.map a.eval).toList DA tmps (by simpa using hal.symm) (fun i y hy=>by
  obtain ⟨u,hu1,hu2⟩:=har.2 i y hy
  exact ⟨u,by simpa using hu1,hu2⟩) (fun t ht=>by rw [hsz];exact Nat.le_of_ble_eq_true (List.all_eq_true.1 hps t ht)) htm
 have hfold:(ps0.zip (ars.map a.eval)).foldl (fun tmps (x:Nat×Value)=>tmps.setIfInBounds x.1 x.2) tmps=(ps0.toList.zip (ars.map a.eval).toList).foldl (fun tmps (p:Nat×Value)=>tmps.setIfInBounds p.1 p.2) tmps:=by
  rw [← Array.foldl_toList,Array.toList_zip]
 refine roundIn_of_wpV (F:=FR ro) fn.2 trivial ?_
 have hR0:Rel (E.at V w) V ⟨KA ps0.toList args DA,st.hp,st.tk,st.nx,nt0,[]⟩ { tmps:=(ps0.zip (ars.map a.eval)).foldl (fun tmps (x:Nat×Value)=>tmps.setIfInBounds x.1 x.2) tmps,defers:=[]} w :=
  ⟨hr.h.rebase,hr.nx,by rw [hfold,hput.1];exact hsz,dfRel.nil,fun t y hy=>by rw [hfold];exact hput.2 t y hy⟩
 refine h1 (E.at V w) (some (V.ι L)) (n - 1) _ J ⟨hLnx,J⟩ ?_ V _ w hR0
 intro V1 a1 w1 hr1
 obtain ⟨hL1,ob1,hob1,hD1,fn1,tmps1,rfl,hsz1,htm1⟩:=hr1.h.own L _ h2
 have hι1:V1.ι L=V.ι L:=hr1.h.le0.ι L hLnx
 have hb:=run_beginRound (P:=E.P) hob1 rfl
 rw [hι1] at hb hob1
 refine ⟨_,hb,?_⟩
 obtain ⟨H2,L2⟩:=hr1.h.putObj (o':=.loop { state:=.busy,pending:=p1,fn:=fn1,tmps:=tmps1,params:=ps1,assign:=as1,body:=bd1,defers:=V1.ι D1 }) (B':=.loop .busy p1 tm1 nt1 ps1 as1 bd1 D1) h2 (fun hle=>⟨hD1,fn1,tmps1,rfl,hsz1,fun t y hy=>(htm1 t y hy).mono hle⟩)
 rw [hι1] at H2 L2
 have hR1:Rel (E.at V w) V1 ⟨sa.tm,(L,.loop .busy p1 tm1 nt1 ps1 as1 bd1 D1)::JN L sa.hp,sa.tk,sa.nx,sa.nt,sa.df⟩ a1 _ :=
  ⟨H2.congr (fun j=>Zk L _ sa.hp j) (fun _=>rfl),hr1.nx,hr1.nt,hr1.df.le L2,fun t y hy=>(hr1.tm t y hy).mono L2⟩
 refine h3 (E.at V w) (some (V.ι L)) (n - 1) _ J ⟨hLnx,J⟩ ?_ V1 a1 _ hR1
 intro V3 a3 w3 hr3
 obtain ⟨fd,hfd⟩:∃ fd,E.P.funcs[fn.1]?=some fd:=by rw [hP0];exact Option.isSome_iff_exists.1 fn.2
 refine ⟨fd,hfd,leaves_pan hr3 hdf (fun w' V' H hn L=>⟨J,?_⟩)⟩
 obtain ⟨H5,L5⟩:=hr.h.back H
 exact hK V' w' H5 (hn.trans hr3.nx) L5
end
theorem rangeFunc_outD {P:Program} {g:Operand} {ps:Array Nat} {assign body:Code} {st:St} {gf:FuncId} {caps:List (Nat×Nat)} {m2:Mem} {pv:Value}
  (hg:ev st.tm g=some (.v (.one (.fn gf caps))))
  (hc:Wd P gf (.one (.yld (st.nx+1))::WH caps) ⟨(st.nx+1,.loop .ready none st.tm st.nt ps assign body st.nx)::(st.nx,.obj (.deferred (some [])))::st.hp,st.tk,st.nx+2⟩ pv m2)
  (hD:lk m2.hp st.nx=some (.obj (.deferred (some [])))) :
  ExecOK P none (.rangeFunc g ps assign body) st (.panic (Jx pv)) ⟨st.tm,JN st.nx (JN (st.nx+1) m2.hp),m2.tk,m2.nx,st.nt,st.df⟩:=by
 intro E ro n Q hP hro hQ V a w hr
 subst hP
 cases hro
 refine wpV_rangeFunc (fun fn _=>?_)
 obtain ⟨hv1,hv2⟩:=hr.ev hg
 have H1:=hr.h.addOwn (.deferred (some [])) (.obj (.deferred (some []))) rfl
 have L1:=hr.h.le (w':=w.alloc (.deferred (some []))) ⟨rfl,rfl,rfl,by simp,fun k hk _=>Below.heap_alloc w _ k hk⟩ (V.add_grow w.heap.size hr.h.sz ⟨rfl,rfl,rfl,by simp,fun k hk _=>Below.heap_alloc w _ k hk⟩)
 have L2:=H1.le (w':=(w.alloc (.deferred (some []))).alloc (.loop { state:=.ready,pending:=none,fn:=fn,tmps:=a.tmps,params:=ps,assign:=assign,body:=body,defers:=w.heap.size })) ⟨rfl,rfl,rfl,by simp,fun k hk _=>Below.heap_alloc _ _ k hk⟩ (Vu.add_grow _ (w.alloc (.deferred (some []))).heap.size H1.sz ⟨rfl,rfl,rfl,by simp,fun k hk _=>Below.heap_alloc _ _ k hk⟩)
 have hι:((V.add w.heap.size).add (w.alloc (.deferred (some []))).heap.size).ι V.nx=w.heap.size:=by
  rw [L2.ι V.nx (Nat.lt_succ_self _),V.add_at]
 have H2:=H1.addOwn (.loop { state:=.ready,pending:=none,fn:=fn,tmps:=a.tmps,params:=ps,assign:=assign,body:=body,defers:=w.heap.size }) (.loop .ready none st.tm st.nt ps assign body V.nx)
  ⟨Nat.lt_of_lt_of_le (Nat.lt_succ_self _) (Nat.le_succ _),fn,a.tmps,by rw [hι],hr.nt,fun t x hx=>((hr.tm t x hx).mono L1).mono L2⟩
 have L12:=L1.trans L2
 generalize hV2:(V.add w.heap.size).add (w.alloc (.deferred (some []))).heap.size=V2 at H2 L2 L12 hι
 have hnx2:V2.nx=st.nx+2:=by rw [← hV2];show V.nx+1+1=_;rw [hr.nx]
 have hιL:V2.ι (V.nx+1)=w.heap.size+1:=by
  rw [← hV2]
  have:=(V.add w.heap.size).add_at (w.alloc (.deferred (some []))).heap.size
  rw [World.size_alloc] at this
  rw [World.size_alloc];exact this
 have hcl:(V.add w.heap.size).nx=V.nx+1:=rfl
 rw [hcl] at H2
 rw [hr.nx] at H2 hιL hι
 obtain ⟨W2,hW2⟩:∃ W2,(w.alloc (.deferred (some []))).alloc (.loop { state:=.ready,pending:=none,fn:=fn,tmps:=a.tmps,params:=ps,assign:=assign,body:=body,defers:=w.heap.size })=W2:=⟨_,rfl⟩
 rw [hW2] at H2 L12
 refine ⟨w.heap.size+1,[{ target:=.collected w.heap.size,args:=#[]}],W2,{ target:=.fn (.func gf) (caps.map fun p=>Value.pointer (some ⟨V.ι p.1,p.2,none⟩)).toArray,args:=#[.func (.yield (w.heap.size+1)) #[] #[]]},W2,gf,
  #[.func (.yield (w.heap.size+1)) #[] #[]]++(caps.map fun p=>Value.pointer (some ⟨V.ι p.1,p.2,none⟩)).toArray,W2,?_,?_,?_,?_,(by intro h;cases h),?_⟩
 ·rw [← hW2];exact run_enterLoop_outer fn.1 a.tmps ps assign body
 ·simp only [resolve,hv2]
  simp [go_sem]
 ·exact fun _ _=>trivial
 ·have:=hc.1 (#[.func (.yield (w.heap.size+1)) #[] #[]]++(caps.map fun p=>Value.pointer (some ⟨V.ι p.1,p.2,none⟩)).toArray) W2
  simp only [invoke];exact this
 ·have hargs:argsRel V2 W2 (.one (.yld (st.nx+1))::WH caps) (#[.func (.yield (w.heap.size+1)) #[] #[]]++(caps.map fun p=>Value.pointer (some ⟨V.ι p.1,p.2,none⟩)).toArray):=by
   have h1:argsRel V2 W2 [.one (.yld (st.nx+1))] #[.func (.yield (w.heap.size+1)) #[] #[]]:=⟨rfl,fun i y hy=>by
    match i,hy with
    | 0,hy=>cases hy;exact ⟨_,rfl,by rw [hnx2];omega,by rw [hιL];rfl⟩⟩
   have h2:argsRel V2 W2 (WH caps) (caps.map fun p=>Value.pointer (some ⟨V.ι p.1,p.2,none⟩)).toArray:=by
    have h3:=GD (V:=V2) (w:=W2) (caps:=caps) (fun p hp=>Nat.lt_of_lt_of_le (hv1 p hp) L12.nx)
    rw [List.map_congr_left (g:=fun p=>Value.pointer (some ⟨V.ι p.1,p.2,none⟩)) (fun p hp=>by rw [L12.ι p.1 (hv1 p hp)])] at h3
    exact h3
   exact h1.append h2
  have hcall:=hc.2 E V2 W2 _ rfl H2 hnx2 hargs
  have hcall':CallsIn Fence.wide (n - 1) E.P gf _ W2 _:=callsIn_wide.2 hcall
  refine CallsIn.mono (F:=FR none) hcall' ?_
  rintro e' w3 ⟨V3,rfl,H3,hn3,L3⟩
  have L:=L12.trans L3
  have H5:=H3.drop (st.nx+1)
  have hD5:lk (JN (st.nx+1) m2.hp) st.nx=some (.obj (.deferred (some []))):=by
   rw [Gb,if_neg (by omega)];exact hD
  obtain ⟨H6,L6⟩:=H5.freeze hD5
  have e1:V3.ι st.nx=w.heap.size:=by rw [L3.ι _ (by rw [hnx2];omega)];exact hι
  obtain ⟨-,oD,hoD,hDr⟩:=H5.own _ _ hD5
  have hoD':oD=.deferred (some []):=hDr
  rw [hoD',e1] at hoD
  obtain ⟨V6,hV6⟩:∃ V6:Vu,{ V3 with S:=fun b o=>V3.S b o∨b=V3.ι st.nx }=V6:=⟨_,rfl⟩
  have hS6:V6.S w.heap.size 0:=by rw [← hV6];exact .inr e1.symm
  have hn6:V6.nx=m2.nx:=by rw [← hV6];exact hn3
  rw [hV6] at H6 L6
  have LL:=L.trans L6
  exact hQ V6 _ _ ⟨H6,hn6,hr.nt,hr.df.push LL (Nat.le_refl _) hS6 hoD (fun o hs=>(H5.new _ _ hD5).2 o (by rw [e1];exact H5.le0.S _ _ hs)),fun t x hx=>(hr.tm t x hx).mono LL⟩
theorem JK {P:Program} {f:FuncId} {fn:Func} {c:Code} {args:List AV} {m:Mem} {Y:Type} (y:Y) (stf:Y→St) (kf:Y→EK) (hf:P.funcs[f]?=some fn) (hb:fn.body=some c) (hen:J4 P f) (hnt:args.length≤fn.ntmps)
  (hdf:∀ y,(stf y).df=[]) (hres:∀ y,(kf y).ok P (stf y) fn.results.toList)
  (h:∀ (w0:World) (M:Nat→Prop) (V0:Vu) (Q:Exit→Act→World→Prop),V0.nx≤m.nx →
   (∀ (e:Exit) (st':St),(kf y).by e→st'.df=[]→StLe ⟨P,w0,M,V0⟩ st' (stf y)→XQ ⟨P,w0,M,V0⟩ Q e st')→XC ⟨P,w0,M,V0⟩ none 0 Q c ⟨Ja 0 args,m.hp,m.tk,m.nx,fn.ntmps,[]⟩) (hP0:P=Try.prog:=by rfl) :
  CallE P f args m (kf y) ⟨(stf y).hp,(stf y).tk,(stf y).nx⟩:=by
 have hd:=hdf y
 have hr:=hres y
 generalize stf y=st1 at hd hr h ⊢
 cases hk:kf y with
 | ret xs =>
  rw [hk] at hr
  refine J0 st1 hf hb hen hnt hd hr (fun w0 M V0 Q hv hQ=>h w0 M V0 Q hv (fun e st' he hdf' hle=>?_)) hP0
  rw [hk] at he
  exact hQ e st' st'.hp he (by rw [hdf'];rfl) (by cases st';dsimp only at hdf';subst hdf';exact hle)
 | pan pv =>
  refine ⟨hen,fun E V w vs hP H hn hargs=>?_⟩
  refine (callsIn_wide (n:=0)).1 (callsIn_of_wpV (F:=Fence.wide) (vf_of hP0 hf) hf hb trivial ?_)
  have hR0:Rel (E.at V w) V ⟨Ja 0 args,m.hp,m.tk,m.nx,fn.ntmps,[]⟩ { tmps:=vs++Array.replicate (fn.ntmps - vs.size) undef,defers:=[]} w:=by
   refine ⟨H.rebase,hn,by simp [hargs.1];omega,dfRel.nil,fun t x hx=>?_⟩
   obtain ⟨k,y,h1,h2,rfl⟩:=XN args 0 t x hx
   obtain ⟨u,hu,hy⟩:=hargs.2 k y h2
   have hk:k < vs.size:=(Array.getElem?_eq_some_iff.1 hu).1
   have:(vs++Array.replicate (fn.ntmps - vs.size) undef).getD t undef=u:=by
    rw [show t=k by omega,Array.getD_eq_getD_getElem?,Array.getElem?_append_left hk,hu];rfl
   rw [this];exact hy
  have hgo:∀ E':Env,E'=E.at V w→E'.P=P→E'.V0=V→XC E' none 0 (bodyPostM Fence.wide 0 P fn (fun e w'=>∃ V',e=.panicked (Jx pv)∧HRel E V' st1.hp st1.tk w'∧V'.nx=st1.nx∧V.Le V' w w')) c ⟨Ja 0 args,m.hp,m.tk,m.nx,fn.ntmps,[]⟩:=by
   rintro ⟨P',w0,M,V0⟩ he hP' hV'
   dsimp only at hP' hV'
   subst hP'
   refine h w0 M V0 _ (by rw [hV',hn];exact Nat.le_refl _) ?_
   intro e st' hby hdf' hle
   rw [hk] at hby
   cases (show e=.panic (Jx pv) from hby)
   intro V1 a1 w1 hr1
   rw [he] at hr1 hle
   obtain ⟨V2,hr2⟩:=hr1.less hle
   refine leaves_pan hr2 hd (fun w' V' H' hn' L'=>?_)
   obtain ⟨H5,L5⟩:=H.back H'
   exact ⟨V',J,H5,hn'.trans hr2.nx,L5⟩
  have:=hgo (E.at V w) rfl hP rfl V _ w hR0
  rw [show (E.at V w).P=P from hP] at this
  exact this
theorem grow_same {E:Env} {V:Vu} {hp:List (Nat×HB)} {tk:List (Nat×Option Tok)} {w w1:World} (h:HRel E V hp tk w) (hx:ExtM (fun _=>False) w w1):V.Grow V w w1 :=
 ⟨Nat.le_refl _,fun _ _=>rfl,fun _ _=>rfl,fun _ _ _ _=>rfl,fun _ _ h=>h,fun _ _ h=>.inl h,fun b o hs=>Nat.lt_of_lt_of_le (h.sz b o hs) hx.size⟩
theorem XL.defer {E:Env} {n:Nat} {ops:Array Oper} {Q:Exit→Act→World→Prop} {rest:List Oper} {st:St} {pos:String} {af:Array Edge} {ty:TypeId} {x:Operand} {ats:Array TypeId} {f T i:Nat} (hc:Catch E.P f T) (hx:ev st.tm x=some (.v (.one (.fn f [(i,0)])))) (hdf:st.df=[])
  (k:XL E none n ops Q rest ⟨st.tm,st.hp,st.tk,st.nx,st.nt,[i,f,T]⟩):XL E none n ops Q (⟨none,.defer { callee:=.value x,args:=#[],argTypes:=ats },ty,pos,af,none⟩::rest) st:=by
 intro V a w hr
 unfold wpListIn
 rw [if_pos (by simp [Region.wanted])]
 refine ⟨fun _ _=>trivial,?_⟩
 obtain ⟨hv1,hv2⟩:=hr.ev hx
 have hrun:(Oper.semAt (FR none).round a.eval ⟨none,.defer { callee:=.value x,args:=#[],argTypes:=ats },ty,pos,af,none⟩).run E.P w=.ok (.defer (closeD f ⟨V.ι i,0,none⟩)) w:=by
  simp [FR,Oper.semAt_none,execOp,resolve,hv2,Deferred.ofValue]
 rw [hrun]
 refine k V _ w ⟨hr.h,hr.nx,hr.nt,?_,hr.tm⟩
 obtain ⟨bs,h1,h2,h3⟩:=hr.df.of_nil hdf
 exact .inr ⟨i,f,T,[],bs,rfl,hv1 (i,0) (by simp),hc,by simp only [List.map_nil,List.nil_append];rw [← h1];rfl,by simpa using ⟨h2,h3⟩⟩
def CEnd (E:Env) (stf:St) (i g T:Nat) (e:Exit) (st':St):Prop :=
 ((e=.normal∨e=.ret)∧StLe E ⟨st'.tm,st'.hp,st'.tk,st'.nx,st'.nt,[]⟩ stf) ∨
 ∃ (x:Int) (Tc:TypeId) (c0:CA),e=.panic (Jx (QJ T x))∧lk st'.hp i=some (.cells Tc [c0])∧StLe E ⟨st'.tm,(i,.cells Tc [dI x])::JN i st'.hp,st'.tk,st'.nx,st'.nt,[]⟩ stf
theorem cendN {E:Env} {stf st':St} {i g T:Nat} {e:Exit} (he:e=.normal∨e=.ret) (hle:StLe E ⟨st'.tm,st'.hp,st'.tk,st'.nx,st'.nt,[]⟩ stf):CEnd E stf i g T e st':=.inl ⟨he,hle⟩
theorem US {E:Env} {stf st':St} {i g T:Nat} (x:Int) (Tc:TypeId) (c0:CA) (hc:lk st'.hp i=some (.cells Tc [c0])) (hle:StLe E ⟨st'.tm,(i,.cells Tc [dI x])::JN i st'.hp,st'.tk,st'.nx,st'.nt,[]⟩ stf):CEnd E stf i g T (.panic (Jx (QJ T x))) st':=.inr ⟨x,Tc,c0,rfl,hc,hle⟩
theorem CallM.of_bodyC {P:Program} {f:FuncId} {fn:Func} {c:Code} {args:List AV} {m:Mem} (stf:St) {xs:List AV} (i g T:Nat) (hf:P.funcs[f]?=some fn) (hb:fn.body=some c) (hen:J4 P f) (hnt:args.length≤fn.ntmps)
  (hdf:stf.df=[]) (hres:RAs P stf fn.results.toList xs)
  (h:∀ (w0:World) (M:Nat→Prop) (V0:Vu) (Q:Exit→Act→World→Prop),V0.nx≤m.nx →
   (∀ (e:Exit) (st':St),st'.df=[i,g,T]→CEnd ⟨P,w0,M,V0⟩ stf i g T e st'→XQ ⟨P,w0,M,V0⟩ Q e st')→XC ⟨P,w0,M,V0⟩ none 0 Q c ⟨Ja 0 args,m.hp,m.tk,m.nx,fn.ntmps,[]⟩) (hP0:P=Try.prog:=by rfl) :
  CallM P f args m (QK xs) ⟨stf.hp,stf.tk,stf.nx⟩:=by
 refine ⟨hen,fun E V w vs hP H hn hargs=>?_⟩
 refine (callsIn_wide (n:=0)).1 (callsIn_of_wpV (F:=Fence.wide) (vf_of hP0 hf) hf hb trivial ?_)
 have hR0:Rel (E.at V w) V ⟨Ja 0 args,m.hp,m.tk,m.nx,fn.ntmps,[]⟩ { tmps:=vs++Array.replicate (fn.ntmps - vs.size) undef,defers:=[]} w:=by
  refine ⟨H.rebase,hn,by simp [hargs.1];omega,dfRel.nil,fun t x hx=>?_⟩
  obtain ⟨k,y,h1,h2,rfl⟩:=XN args 0 t x hx
  obtain ⟨u,hu,hy⟩:=hargs.2 k y h2
  have hk:k < vs.size:=(Array.getElem?_eq_some_iff.1 hu).1
  have:(vs++Array.replicate (fn.ntmps - vs.size) undef).getD t undef=u:=by
   rw [show t=k by omega,Array.getD_eq_getD_getElem?,Array.getElem?_append_left hk,hu];rfl
  rw [this];exact hy
 obtain ⟨R,hR⟩:∃ R:Ending→World→Prop,R=fun e w'=>∃ v V',e=.returned v∧HRel E V' stf.hp stf.tk w'∧V'.nx=stf.nx∧V.Le V' w w'∧(QK xs).rel V' w' v:=⟨_,rfl⟩
 have fin:∀ (tm:List (Nat×TV)) (hp:List (Nat×HB)) (tk:List (Nat×Option Tok)) (nx nt:Nat) (V1:Vu) (tmps:Array Value) (w1:World) (bs0:List Nat),StLe (E.at V w) ⟨tm,hp,tk,nx,nt,[]⟩ stf→HRel (E.at V w) V1 hp tk w1→V1.nx=nx→tmps.size=nt→(∀ t x,lk tm t=some x→x.rel V1 w1 (tmps.getD t undef))→marksOK (E.at V w) V1 w1 bs0 →
   LeavesInM Fence.wide 0 P fn tmps R (bs0.map fun b=>{ target:=.collected b,args:=#[]}) .returning w1:=by
  intro tm hp tk nx nt V1 tmps w1 bs0 hle H1 hn1 hnt1 htm1 hm
  refine leaves_bs bs0 w1 V1 H1 hm.1 hm.2 (fun w' V1' H' hn' L'=>?_)
  have hr':Rel (E.at V w) V1' ⟨tm,hp,tk,nx,nt,[]⟩ { tmps:=tmps,defers:=[]} w':=⟨H',hn'.trans hn1,hnt1,dfRel.nil,fun t x hx=>(htm1 t x hx).keep L'⟩
  obtain ⟨V2,hr2⟩:=hr'.less hle
  obtain ⟨v,h1,h2⟩:=results_run (E:=E.at V w) hres hP hr2
  obtain ⟨H5,L5⟩:=H.back hr2.h
  exact ⟨v,h1,by rw [hR];exact ⟨v,V2,rfl,H5,hr2.nx,L5,h2⟩⟩
 have key:∀ (e:Exit) (st':St) (V1:Vu) (a1:Act) (w1:World),st'.df=[i,g,T]→CEnd (E.at V w) stf i g T e st'→Rel (E.at V w) V1 st' a1 w1→bodyPostM Fence.wide 0 P fn R e a1 w1:=by
  intro e st' V1 a1 w1 hd hend hr1
  obtain ⟨bs,bs0,hi,hcat,hds,hm1,hm2⟩:∃ bs bs0,i < V1.nx∧Catch P g T∧a1.defers=bs.map (fun b=>{ target:=.collected b,args:=#[]})++closeD g ⟨V1.ι i,0,none⟩::bs0.map (fun b=>{ target:=.collected b,args:=#[]})∧marksOK (E.at V w) V1 w1 (bs++bs0):=by
   rcases hr1.df with ⟨h0,-⟩ | ⟨i',g',T',bs,bs0,h0,h1,h2,h3,h4⟩
   ·rw [hd] at h0;cases h0
   ·rw [hd] at h0;cases h0
    exact ⟨bs,bs0,h1,by rw [← hP];exact h2,h3,h4⟩
  obtain ⟨hn1,hn2,hn3⟩:=List.nodup_append.1 hm1
  have hinv:∀ w:World,(invoke (.fn (.func g) #[.pointer (some ⟨V1.ι i,0,none⟩)]) #[]).run P w=.ok (.enter g #[.pointer (some ⟨V1.ι i,0,none⟩)]) w:=fun w=>by
   have:=hcat.enters (#[]++#[.pointer (some ⟨V1.ι i,0,none⟩)]) w
   simp only [invoke];simpa using this
  rcases hend with ⟨he,hle⟩ | ⟨x,Tc,c0,rfl,hcell,hle⟩
  ·have hb:LeavesInM Fence.wide 0 P fn a1.tmps R a1.defers .returning w1:=by
    rw [hds]
    refine leaves_then (by simp) bs w1 V1 hr1.h hn1 (fun b hb=>hm2 b (by simp [hb])) (fun w' V' H' hn' hι' L' hS' hh'=>?_)
    refine ⟨by simp,.inr ⟨(by intro h;cases h),.func g,_,g,_,rfl,hinv w',(fun _ _=>trivial),?_⟩⟩
    refine (hcat.idle 0 _ w').mono ?_
    rintro e' u' w'' ⟨⟨v,rfl⟩,rfl,rfl⟩
    exact fin st'.tm st'.hp st'.tk st'.nx st'.nt V' a1.tmps w'' bs0 hle H' (hn'.trans hr1.nx) hr1.nt (fun t x hx=>(hr1.tm t x hx).keep L')
     ⟨hn2,fun b hb=>⟨hS' b 0 (fun h=>hn3 b h b hb rfl) (hm2 b (by simp [hb])).1,(hh' b (fun h=>hn3 b h b hb rfl)).trans (hm2 b (by simp [hb])).2.1,(hm2 b (by simp [hb])).2.2⟩⟩
   rcases he with rfl | rfl
   ·exact hb
   ·exact hb
  ·show LeavesInM Fence.wide 0 P fn a1.tmps R a1.defers (.panicking (Jx (QJ T x))) w1
   rw [hds]
   refine leaves_then (by simp) bs w1 V1 hr1.h hn1 (fun b hb=>hm2 b (by simp [hb])) (fun w' V' H' hn' hι' L' hS' hh'=>?_)
   refine ⟨by simp,.inr ⟨(by intro h;cases h),.func g,_,g,_,rfl,hinv w',(fun _ _=>trivial),?_⟩⟩
   obtain ⟨-,o,ho,vs',rfl,hvs'⟩:=H'.own i _ hcell
   obtain ⟨u,hu,-⟩:=hvs'.2 0 _ rfl
   have hmk:marksOK (E.at V w) V' w' bs0:=⟨hn2,fun b hb=>⟨hS' b 0 (fun h=>hn3 b h b hb rfl) (hm2 b (by simp [hb])).1,(hh' b (fun h=>hn3 b h b hb rfl)).trans (hm2 b (by simp [hb])).2.1,(hm2 b (by simp [hb])).2.2⟩⟩
   rw [← hι']
   refine (hcat.caught 0 ⟨V'.ι i,0,none⟩ x u w' ((Jt ho 0).trans hu) (free_of_own ho 0)).mono ?_
   rintro e' u' w'' ⟨⟨v,rfl⟩,rfl,w1,hx1,rfl⟩
   have hg1:=grow_same H' hx1
   have Hx:=H'.later hx1 hg1
   have Lx:=H'.le hx1 hg1
   obtain ⟨H2,L2⟩:=Hx.store hcell 0 (x:=dI x) (u:=.int .i64 x) (Reads.v _ rfl)
   have H3:HRel (E.at V w) V' ((i,.cells Tc [dI x])::JN i st'.hp) st'.tk _:=H2.congr (fun j=>Zk i _ st'.hp j) (fun _=>rfl)
   exact fin st'.tm _ st'.tk st'.nx st'.nt V' a1.tmps _ bs0 hle H3 (hn'.trans hr1.nx) hr1.nt (fun t y hy=>(((hr1.tm t y hy).keep L').mono Lx).mono L2) ((hmk.le Lx).le L2)
 have hgo:∀ E':Env,E'=E.at V w→E'.P=P→E'.V0=V→XC E' none 0 (bodyPostM Fence.wide 0 P fn R) c ⟨Ja 0 args,m.hp,m.tk,m.nx,fn.ntmps,[]⟩:=by
  rintro ⟨P',w0,M,V0⟩ he hP' hV'
  dsimp only at hP' hV'
  subst hP'
  refine h w0 M V0 _ (by rw [hV',hn];exact Nat.le_refl _) ?_
  intro e st' hd hend V1 a1 w1 hr1
  rw [he] at hr1 hend
  exact key e st' V1 a1 w1 hd hend hr1
 have:=hgo (E.at V w) rfl hP rfl V _ w hR0
 rw [show (E.at V w).P=P from hP,hR] at this
 exact this
end Go.Proofs.Ytafddfoefeploaa
namespace Go.Proofs.Ytafddfoefeploaa
open Go.RowKit
noncomputable section
structure Use where
 index:Bool
 name:Bool
 levels:Int
 kids:Int
 below:Int
def useC (u:Use):List C:=[.v (.bool u.index),.v (.bool u.name),.v (.int .i64 u.levels),.v (.int .i64 u.kids),.v (.int .i64 u.below)]
instance:Enc Use:=⟨5,useC,fun l=>l.map useC,rfl,fun a b=>List.map_append,fun _=>rfl⟩
instance:EncLen Use:=⟨fun _=>rfl,by decide⟩
structure Scp where
 vars:Int
 params:Int
 metas:Int
 levels:Int
def scpC (u:Scp):List C:=[.v (.int .i64 u.vars),.v (.int .i64 u.params),.v (.int .i64 u.metas),.v (.int .i64 u.levels)]
instance:Enc Scp:=⟨4,scpC,fun l=>l.map scpC,rfl,fun a b=>List.map_append,fun _=>rfl⟩
instance:EncLen Scp:=⟨fun _=>rfl,by decide⟩
end
theorem Kz:ZOk Ent (.agg [dI 0,dI 0,dI 0,dI 0,dI 0,dI 0,.d (.v (.string (sB []))),dN,dN]) :=
 asub_zok (.agg (.cons (.d _) (.cons (.d _) (.cons (.d _) (.cons (.d _) (.cons (.d _) (.cons (.d _) (.cons (.d _) (.cons (.nil _) (.cons (.nil _) .nil))))))))))
section
variable {E:Env} {st:St} {d:Option Tmp} {ty:TypeId} {pos:String} {af:Array Edge} {g:Option (Nat×Bool)}
theorem OpOK.callFunV {x:Operand} {f:FuncId} {ars:Array Operand} {args ys:List AV} {ats:Array TypeId} {res:TV} (hx:ev st.tm x=some (.v (.one (.fn f [])))) (hF:Fun E.P f ys res) (ha:Zx st.tm ars.toList=some args) (hs:ASubL args ys) :
  OpOK E ⟨d,.call { callee:=.value x,args:=ars,argTypes:=ats },ty,pos,af,g⟩ st res ⟨st.hp,st.tk,st.nx⟩:=by
 intro V a w hr ro n K Q hK
 refine ⟨fun _ _=>trivial,?_⟩
 rw [Oper.semAt_eq _ _ _ (by intro c h;cases h)]
 rw [call_enters (by have:=(hr.ev hx).2;simpa using this) hF.1]
 refine ⟨(by intro h;cases h),?_⟩
 have har:argsRel (Ko V.S) w ys (ars.map a.eval):=by
  obtain ⟨h1,h2⟩:=Zq hr ha
  obtain ⟨h3,h4⟩:=hs.spec
  refine ⟨by omega,fun i y hy=>?_⟩
  obtain ⟨x,hx',hxy⟩:=h4 i y hy
  obtain ⟨u,hu,hxu⟩:=h2 i x hx'
  exact ⟨u,hu,hxy.rel hxu⟩
 have hc':CallsIn Fence.wide (n - 1) E.P f _ w _:=callsIn_wide.2 (hF.2 V.S w _ hr.h.sz har)
 refine CallsIn.mono (F:=FR ro) hc' ?_
 rintro e w' ⟨v,S',rfl,hx,hS,hS',hv⟩
 have hg:V.Grow { V with S:=S' } w w':=⟨Nat.le_refl _,fun _ _=>rfl,fun _ _=>rfl,fun _ _ _ _=>rfl,hS,fun b o h=>(hS' b o h).1,fun b o h=>(hS' b o h).2⟩
 exact hK { V with S:=S' } w' v (hr.h.later hx hg) hr.nx (hr.h.le hx hg) (hv.mono (of_le (V:={ V with S:=S' })))
def tyArrS (P:Program) (t:TypeId):Option (Nat×Nat):=match P.underlying t with
 | some (.array n e)=>match Jw P e with
  | some (true,sz)=>some (n,sz)
  | _=>none
 | _=>none
theorem RO.indexAgg {α:Type} [Enc α] [EncLen α] {t n:Nat} {x y:Operand} {xs:List CA} {tbl:List α} {m:Int} {v:α} (ht:tyArrS E.P t=some (n,Enc.sz α)) (hx:ev st.tm x=some (.v (.agg xs))) (hxs:xs=Gv tbl) (hn:Nat.beq tbl.length n=true) (hy:ev st.tm y=some (TI m)) (hv:JC tbl m=some v) :
  RO E ⟨d,.index t x y,ty,pos,af,g⟩ st (.v (.agg (cE v))):=by
 refine ⟨(fun _ h=>nomatch h),fun V a w hr=>?_⟩
 obtain ⟨k,rfl,hk⟩:=idxS hv
 obtain ⟨vs,h1,h2,h3⟩:=hr.ev hx
 subst hxs
 have hlt:k < tbl.length:=(List.getElem?_eq_some_iff.1 hk).1
 have hn':=Nat.eq_of_beq_eq_true hn
 unfold tyArrS at ht
 split at ht
 ·rename_i n' e hu
  split at ht
  ·rename_i sz ha
   cases ht
   obtain ⟨h4,h5⟩:=K6 ha w
   have hsz:vs.size=tbl.length * Enc.sz α:=by rw [h2,flatE_len]
   refine ⟨.agg (vs.extract (k * Enc.sz α) (k * Enc.sz α+Enc.sz α)),?_,_,J,?_,fun i c hc=>?_⟩
   ·have h6:(k:Int) < (n:Int):=by omega
    have h7:¬ n≤k:=by omega
    simp [execOp,Instr.index,h1,Yr (hr.ev hy),asIntOf,run_underlying hu,part,h4,h5,h6,h7]
   ·have:k * Enc.sz α+Enc.sz α≤vs.size:=by rw [hsz,← Nat.succ_mul];exact Nat.mul_le_mul_right _ hlt
    rw [Array.size_extract,List.length_map,EncLen.len];omega
   ·have hi:i < Enc.sz α:=by have:=(List.getElem?_eq_some_iff.1 hc).1;rw [List.length_map,EncLen.len] at this;exact this
    have hc':(Gv tbl)[k * Enc.sz α+i]?=some c:=by rw [flatE_get hk hi,← List.getElem?_map];exact hc
    obtain ⟨u,h6,h7⟩:=h3 _ c hc'
    refine ⟨u,?_,h7⟩
    rw [Array.getElem?_extract]
    have:k * Enc.sz α+Enc.sz α≤vs.size:=by rw [hsz,← Nat.succ_mul];exact Nat.mul_le_mul_right _ hlt
    rw [if_pos (by omega)];exact h6
  ·cases ht
 ·cases ht
end
end Go.Proofs.Ytafddfoefeploaa
namespace Go.Proofs.Ytafddfoefeploaa
open Go.RowKit
noncomputable section
structure Rsc where
 env:List Dcl
 own:List (List UInt8)
 d:Dcl
def rscC (s:Rsc):List C:=.sl 23 (Enc.encL s.env)::.sl 1 (Enc.encL s.own)::DP s.d
instance:Enc Rsc:=⟨25,rscC,fun l=>l.map rscC,rfl,fun a b=>List.map_append,fun _=>rfl⟩
instance:EncLen Rsc:=⟨fun _=>rfl,by decide⟩
end
section
variable {E:Env} {st:St} {dd:Option Tmp} {ty:TypeId} {pos:String} {af:Array Edge} {g:Option (Nat×Bool)}
theorem Yw {t i n:Nat} {ag:Bool} {T:TypeId} {xs ys:List CA} {o1 o2:Operand} (ht:Jw E.P t=some (ag,n)) (h1:ev st.tm o1=some (.v (.one (.ptr i 0)))) (h2:ev st.tm o2=some (.v (.agg ys)))
  (hi:lk st.hp i=some (.cells T xs)) (hl:ys.length=n) (hx:xs.length=n) (hdd:dd=none) :
  OpOK E ⟨dd,.store t o1 o2,ty,pos,af,g⟩ st (.tup []) ⟨(i,.cells T ys)::JN i st.hp,st.tk,st.nx⟩:=by
 have:=Qt (dd:=dd) (ty:=ty) (pos:=pos) (af:=af) (g:=g) ht h1 h2 hi hl (by omega) hdd
 have e1:setL xs 0 (AV.agg ys).cells=ys:=by
  have:=KY ys xs [] (by omega)
  rw [List.append_nil,List.append_nil] at this
  exact this
 rw [e1] at this
 exact this
variable {α:Type} [Enc α] [EncLen α]
theorem fill2 {zs:List Value} (v0 v1:α) (hzl:zs.length=Enc.sz α):Zp (JL (Enc.sz α) 2) (JS zs 2) [(0,.agg (cE v0)),(1,.agg (cE v1))]=some (cE v0++cE v1):=by
 have h0:(JS zs 2).length=Enc.sz α+Enc.sz α:=by simp [JS,hzl];omega
 have k0:(cE v0).length=Enc.sz α:=by rw [List.length_map,EncLen.len]
 have k1:(cE v1).length=Enc.sz α:=by rw [List.length_map,EncLen.len]
 have p0:(JL (Enc.sz α) 2)[0]?=some (0,Enc.sz α):=by simp [JL]
 have p1:(JL (Enc.sz α) 2)[1]?=some (Enc.sz α,Enc.sz α):=by simp [JL]
 obtain ⟨a,b,hab,ha,hb⟩:∃ a b,JS zs 2=a++b∧a.length=Enc.sz α∧b.length=Enc.sz α :=
  ⟨(JS zs 2).take (Enc.sz α),(JS zs 2).drop (Enc.sz α),(List.take_append_drop _ _).symm,by rw [List.length_take,h0];omega,by rw [List.length_drop,h0];omega⟩
 rw [hab]
 have s0:setL (a++b) 0 (cE v0)=cE v0++b:=KY (cE v0) a b (by omega)
 have s1:setL (cE v0++b) (Enc.sz α) (cE v1)=cE v0++cE v1:=by
  have x:=setL_app (cE v1) (cE v0) b 0
  have y:=KY (cE v1) b [] (by omega)
  rw [List.append_nil,List.append_nil] at y
  rw [y,k0,Nat.add_zero] at x
  exact x
 simp only [Zp,p0,p1]
 show cond (Nat.beq (cE v0).length (Enc.sz α)&&Nat.ble (0+Enc.sz α) (a++b).length) (cond (Nat.beq (cE v1).length (Enc.sz α)&&Nat.ble (Enc.sz α+Enc.sz α) (setL (a++b) 0 (cE v0)).length) (some (setL (setL (a++b) 0 (cE v0)) (Enc.sz α) (cE v1))) none) none=_
 rw [s0,s1,k0,k1,Nat.beq_refl,Nat.ble_eq_true_of_le (show 0+Enc.sz α≤(a++b).length by rw [List.length_append];omega),Nat.ble_eq_true_of_le (show Enc.sz α+Enc.sz α≤(cE v0++b).length by rw [List.length_append,k0];omega)]
 rfl
theorem OpOK.lit2CE (v0 v1:α) {t e:Nat} {zs:List Value} {o0 o1:Operand} (ht:Jp E.P t=some (e,Enc.sz α)) (hze:JD E.P e=some zs) (hzl:zs.length=Enc.sz α) (hz:zs.all (·.oneCell')=true) (hlen:2 * Enc.sz α≤16777216)
  (h0:ev st.tm o0=some (.v (.agg (cE v0)))) (h1:ev st.tm o1=some (.v (.agg (cE v1)))) :
  OpOK E ⟨dd,.buildSlice t 2 #[(0,o0),(1,o1)],ty,pos,af,g⟩ st (.v (.one (.app st.nx (Enc.sz α) (Enc.encL [v0,v1])))) ⟨st.hp,(st.nx,some ⟨e,Enc.sz α,(Enc.encL [v0,v1]).length,[]⟩)::st.tk,st.nx+1⟩ :=
 OpOK.lit2E v0 v1 ht hze hzl hz EncLen.pos hlen h0 h1 (fill2 v0 v1 hzl) (by
  have a:=csubs_all (Enc.enc v0++Enc.enc v1)
  rw [List.map_append] at a
  exact a) ⟨EncLen.len v0,EncLen.len v1⟩
end
end Go.Proofs.Ytafddfoefeploaa
namespace Go.Proofs.Ytafddfoefeploaa
open Go.RowKit Go.Shelf
theorem Yb:J1 Try.prog 33 0=some 0:=by kernel_rfl
theorem Zg:J1 Try.prog 33 2=some 2:=by kernel_rfl
theorem JR:J1 Try.prog 33 4=some 4:=by kernel_rfl
theorem fo_134_4:J1 Try.prog 134 4=some 4:=by kernel_rfl
theorem QU:Jw Try.prog 3=some (false,1):=by kernel_rfl
theorem JV:Jw Try.prog 9=some (false,1):=by kernel_rfl
theorem JO:Jw Try.prog 31=some (false,1):=by kernel_rfl
theorem QV:Jw Try.prog 33=some (true,5):=by kernel_rfl
theorem Wb:Jw Try.prog 51=some (false,1):=by kernel_rfl
theorem XT:Jw Try.prog 80=some (false,1):=by kernel_rfl
theorem ag_132:Jw Try.prog 132=some (false,1):=by kernel_rfl
theorem XU:Jw Try.prog 135=some (true,65):=by kernel_rfl
theorem Ui:Jw Try.prog 137=some (false,1):=by kernel_rfl
theorem Jl:Jp Try.prog 31=some (33,5):=by kernel_rfl
theorem Yc:Jp Try.prog 51=some (9,1):=by kernel_rfl
theorem DS:JD Try.prog 9=some [.string ByteArray.empty]:=by kernel_rfl
theorem K4:JD Try.prog 33=some [.int .i64 0,.int .i64 0,.string ByteArray.empty,.slice none 0 0,.slice none 0 0]:=by kernel_rfl
theorem z_51:JD Try.prog 51=some [.slice none 0 0]:=by kernel_rfl
theorem z_80:JD Try.prog 80=some [.map none]:=by kernel_rfl
theorem Dg:JD Try.prog 135=some [.bool false,.bool false,.int .i64 0,.int .i64 0,.int .i64 0,.bool false,.bool false,.int .i64 0,.int .i64 0,.int .i64 0,.bool false,.bool false,.int .i64 0,.int .i64 0,.int .i64 0,.bool false,.bool false,.int .i64 0,.int .i64 0,.int .i64 0,.bool false,.bool false,.int .i64 0,.int .i64 0,.int .i64 0,.bool false,.bool false,.int .i64 0,.int .i64 0,.int .i64 0,.bool false,.bool false,.int .i64 0,.int .i64 0,.int .i64 0,.bool false,.bool false,.int .i64 0,.int .i64 0,.int .i64 0,.bool false,.bool false,.int .i64 0,.int .i64 0,.int .i64 0,.bool false,.bool false,.int .i64 0,.int .i64 0,.int .i64 0,.bool false,.bool false,.int .i64 0,.int .i64 0,.int .i64 0,.bool false,.bool false,.int .i64 0,.int .i64 0,.int .i64 0,.bool false,.bool false,.int .i64 0,.int .i64 0,.int .i64 0]:=by kernel_rfl
theorem z_137:JD Try.prog 137=some [.nilFunc]:=by kernel_rfl
theorem JB:Yj Try.prog 134 [(0,1),(1,1),(2,1),(3,1),(4,1)] [.bool false,.bool false,.int .i64 0,.int .i64 0,.int .i64 0]:=⟨by kernel_rfl,by kernel_rfl⟩
theorem bd_135:Yj Try.prog 135 [(0,5),(5,5),(10,5),(15,5),(20,5),(25,5),(30,5),(35,5),(40,5),(45,5),(50,5),(55,5),(60,5)] [.bool false,.bool false,.int .i64 0,.int .i64 0,.int .i64 0,.bool false,.bool false,.int .i64 0,.int .i64 0,.int .i64 0,.bool false,.bool false,.int .i64 0,.int .i64 0,.int .i64 0,.bool false,.bool false,.int .i64 0,.int .i64 0,.int .i64 0,.bool false,.bool false,.int .i64 0,.int .i64 0,.int .i64 0,.bool false,.bool false,.int .i64 0,.int .i64 0,.int .i64 0,.bool false,.bool false,.int .i64 0,.int .i64 0,.int .i64 0,.bool false,.bool false,.int .i64 0,.int .i64 0,.int .i64 0,.bool false,.bool false,.int .i64 0,.int .i64 0,.int .i64 0,.bool false,.bool false,.int .i64 0,.int .i64 0,.int .i64 0,.bool false,.bool false,.int .i64 0,.int .i64 0,.int .i64 0,.bool false,.bool false,.int .i64 0,.int .i64 0,.int .i64 0,.bool false,.bool false,.int .i64 0,.int .i64 0,.int .i64 0]:=⟨by kernel_rfl,by kernel_rfl⟩
theorem De:K5 Try.prog 9=some (1,16):=by kernel_rfl
theorem arr_135:Uu Try.prog 135=some (13,5):=by kernel_rfl
theorem Xp:W6 Try.prog 80=some (false,.one (.d (.v (.bool false)))):=by kernel_rfl
theorem en_58:J4 Try.prog 58:=enters_of Try.func58 (by kernel_rfl) rfl
theorem en_74:J4 Try.prog 74:=enters_of Try.func74 (by kernel_rfl) rfl
theorem en_89:J4 Try.prog 89:=enters_of Try.func89 (by kernel_rfl) rfl
theorem en_90:J4 Try.prog 90:=enters_of Try.func90 (by kernel_rfl) rfl
theorem en_91:J4 Try.prog 91:=enters_of Try.func91 (by kernel_rfl) rfl
noncomputable def Wm:Code:=(cA (cA (cB (cA (cB (cB (cB (Kx Try.f58))))))))
noncomputable def Wl:Code:=(cB (cA (cB (cA (cB (cB (cB (Kx Try.f58))))))))
def Zy (a0:Tm) (v9:Int) (a1:Int) (rc:Tm×Int×(Qa Bs Bool)×(List Bs)×Tm→Option ((Bool×(Qa Bs Bool)×(List Bs)))) (a4:Tm) (s1:Int×(Qa Bs Bool)×(List Bs)):Option (LO (Int×(Qa Bs Bool)×(List Bs)) (((Qa Bs Bool)×(List Bs))⊕((Bool×(Qa Bs Bool)×(List Bs))))) :=
 cond (decide (s1.1 < (a0.kids.length:Int)))
   (Option.bind (JC a0.kids s1.1) fun (x12:Tm) =>
 Option.bind (cond (s1.1==v9)
   (some (J9 (a1+1)))
   (some a1)) (fun (v13:Int)=>Option.bind (rc (x12,v13,s1.2.1,s1.2.2,a4)) fun (x14:(Bool×(Qa Bs Bool)×(List Bs))) =>
 cond (!x14.1)
   (some (.done (.inr (false,x14.2.1,x14.2.2))))
   (some (.next ((J9 (s1.1+1)),x14.2.1,x14.2.2)))))
   (some (.done (.inl (s1.2.1,s1.2.2))))
noncomputable abbrev Zz :HB :=
 .loop .ready none [(3,.v (.one (.ptr 3 0))),(4,.v (.one (.ptr 5 0))),(9,.v (.one (.fn 89 [(7,0)])))] 31 #[10,11] Wm Wl 2
noncomputable abbrev YZ :HB :=
 .cells 135 [dB true,dB false,dI 0,dI 0,dI (-1),dB false,dB false,dI 0,dI 0,dI (-1),dB false,dB false,dI 1,dI 0,dI (-1),dB false,dB true,dI (-1),dI 0,dI (-1),dB false,dB false,dI 0,dI 2,dI (-1),dB false,dB false,dI 0,dI 2,dI 1,dB false,dB false,dI 0,dI 2,dI 1,dB false,dB false,dI 0,dI 2,dI 1,dB false,dB false,dI 0,dI 3,dI (-1),dB false,dB false,dI 0,dI 1,dI (-1),dB false,dB false,dI 0,dI 1,dI (-1),dB false,dB false,dI 0,dI 3,dI 2,dB true,dB false,dI 0,dI 0,dI (-1)]
noncomputable abbrev m91f12_h2 (p0_:Qa Bs Bool) (p1_:List Bs) (p2_:Tm) (p3_:Tm):List (Nat×HB) :=
 [(0,.cells 132 [.yld 1]),(1,Zz),(2,.obj (.deferred (some []))),(3,.cells 80 [.mp 4]),(4,.mp (QO p0_.1) p0_.2),(5,.cells 51 [dA 6 p1_]),(7,.cells 33 (cE p2_)),(8,YZ),(9,.cells 137 [.fn 91 [(0,0),(8,0),(9,0)]]),(10,.cells 33 (cE p3_))]
noncomputable abbrev m91f12_h3 :HB :=
 .loop .busy none [(3,.v (.one (.ptr 3 0))),(4,.v (.one (.ptr 5 0))),(9,.v (.one (.fn 89 [(7,0)])))] 31 #[10,11] Wm Wl 2
noncomputable abbrev m91f12_h4 (p0_:Qa Bs Bool) (p1_:List Bs) (p2_:Tm) (p3_:Tm):List (Nat×HB) :=
 [(0,.cells 132 [.yld 1]),(1,m91f12_h3),(2,.obj (.deferred (some []))),(3,.cells 80 [.mp 4]),(4,.mp (QO p0_.1) p0_.2),(5,.cells 51 [dA 6 p1_]),(7,.cells 33 (cE p2_)),(8,YZ),(9,.cells 137 [.fn 91 [(0,0),(8,0),(9,0)]]),(10,.cells 33 (cE p3_)),(11,.cells 33 (cE p3_))]
noncomputable abbrev m91f12_h5 (p0_:Qa Bs Bool) (p1_:List Bs) (p2_:Tm) (p3_:Tm):List (Nat×HB) :=
 [(0,.cells 132 [.yld 1]),(1,Zz),(2,.obj (.deferred (some []))),(3,.cells 80 [.mp 4]),(4,.mp (QO p0_.1) p0_.2),(5,.cells 51 [dA 6 p1_]),(7,.cells 33 (cE p2_)),(8,YZ),(9,.cells 137 [.fn 91 [(0,0),(8,0),(9,0)]]),(10,.cells 33 (cE p3_)),(11,.cells 33 (cE p3_))]
noncomputable abbrev m91f12_h6 (p0_:(Qa Bs Bool)×(List Bs)) (p1_:Tm) (p2_:Tm):List (Nat×HB) :=
 [(0,.cells 132 [.yld 1]),(1,m91f12_h3),(2,.obj (.deferred (some []))),(3,.cells 80 [.mp 4]),(4,.mp (QO p0_.1.1) p0_.1.2),(5,.cells 51 [dA 6 p0_.2]),(7,.cells 33 (cE p1_)),(8,YZ),(9,.cells 137 [.fn 91 [(0,0),(8,0),(9,0)]]),(10,.cells 33 (cE p2_))]
noncomputable abbrev m91f12_h7 (p0_:(Qa Bs Bool)×(List Bs)) (p1_:Tm) (p2_:Tm):List (Nat×HB) :=
 [(0,.cells 132 [.yld 1]),(1,Zz),(2,.obj (.deferred (some []))),(3,.cells 80 [.mp 4]),(4,.mp (QO p0_.1.1) p0_.1.2),(5,.cells 51 [dA 6 p0_.2]),(7,.cells 33 (cE p1_)),(8,YZ),(9,.cells 137 [.fn 91 [(0,0),(8,0),(9,0)]]),(10,.cells 33 (cE p2_))]
noncomputable abbrev m91f12_h8 (p0_:Int×(Qa Bs Bool)×(List Bs)) (p1_:Tm) (p2_:Tm) (p3_:Tm):List (Nat×HB) :=
 [(0,.cells 132 [.yld 1]),(1,Zz),(2,.obj (.deferred (some []))),(3,.cells 80 [.mp 4]),(4,.mp (QO p0_.2.1.1) p0_.2.1.2),(5,.cells 51 [dA 6 p0_.2.2]),(7,.cells 33 (cE p1_)),(8,YZ),(9,.cells 137 [.fn 91 [(0,0),(8,0),(9,0)]]),(10,.cells 33 (cE p2_)),(12,.cells 33 (cE p3_))]
noncomputable abbrev GG (p0_:Qa Bs Bool) (p1_:List Bs) (p2_:Tm):List (Nat×HB) :=
 [(0,.cells 132 [.yld 1]),(1,Zz),(2,.obj (.deferred (some []))),(3,.cells 80 [.mp 4]),(4,.mp (QO p0_.1) p0_.2),(5,.cells 51 [dA 6 p1_]),(7,.cells 33 (cE p2_)),(8,YZ),(9,.cells 137 [.fn 91 [(0,0),(8,0),(9,0)]])]
noncomputable abbrev K8 (p0_:(Bool×(Qa Bs Bool)×(List Bs))) (p1_:Tm):List (Nat×HB) :=
 [(0,.cells 132 [.yld 1]),(1,Zz),(2,.obj (.deferred (some []))),(3,.cells 80 [.mp 4]),(4,.mp (QO p0_.2.1.1) p0_.2.1.2),(5,.cells 51 [dA 6 p0_.2.2]),(7,.cells 33 (cE p1_)),(8,YZ),(9,.cells 137 [.fn 91 [(0,0),(8,0),(9,0)]])]
def WI (rc:Tm×Int×(Qa Bs Bool)×(List Bs)×Tm→Option ((Bool×(Qa Bs Bool)×(List Bs)))) (a0:Tm) (a1:Int) (a2:Qa Bs Bool) (a3:List Bs) (a4:Tm):Option ((Bool×(Qa Bs Bool)×(List Bs))) :=
 Option.bind (Option.bind (cond (a0.kind==3)
   (some (!(Qn a2 a0.name)))
   (some false)) (fun (v4:Bool)=>cond v4
   (Jd (Nat.ble (a3.length+([a0.name]).length) 1000000000)
 (some ((J2 a2 a0.name true),(a3++([a0.name])))))
   (some (a2,a3)))) (fun (y1:(Qa Bs Bool)×(List Bs))=>Option.bind (cond (decide (0≤a0.kind))
   (some (decide (a0.kind < 13)))
   (some false)) (fun (v8:Bool)=>Option.bind (cond v8
   (Jd (cond (decide (0≤a0.kind)) (Nat.blt a0.kind.toNat 13) false)
 (Option.bind (JC ([(-1),(-1),(-1),(-1),(-1),1,1,1,(-1),(-1),(-1),2,(-1)]:List Int) a0.kind) fun (x12:Int) =>
 some x12))
   (some (-1))) (fun (v9:Int)=>Option.bind (Qp (Zy a0 v9 a1 rc a4) QF (0,y1.1,y1.2)) (Sum.elim (fun (o10:(Qa Bs Bool)×(List Bs))=>some (true,o10.1,o10.2)) (fun o=>some o)))))
def WJ (rc:Tm×Int×(Qa Bs Bool)×(List Bs)×Tm→Option ((Bool×(Qa Bs Bool)×(List Bs)))) (u:Tm×Int×(Qa Bs Bool)×(List Bs)×Tm):Option ((Bool×(Qa Bs Bool)×(List Bs))):=WI rc u.1 u.2.1 u.2.2.1 u.2.2.2.1 u.2.2.2.2
def m91f12 (a0:Tm) (a1:Int) (a2:Qa Bs Bool) (a3:List Bs) (a4:Tm):Option ((Bool×(Qa Bs Bool)×(List Bs))):=Jr WJ QF (a0,a1,a2,a3,a4)
theorem m91f12s_ok (rc:Tm×Int×(Qa Bs Bool)×(List Bs)×Tm→Option ((Bool×(Qa Bs Bool)×(List Bs)))) (H:∀ (a0:Tm) (a1:Int) (a2:Qa Bs Bool) (a3:List Bs) (a4:Tm) (r:(Bool×(Qa Bs Bool)×(List Bs))),rc (a0,a1,a2,a3,a4)=some r→CallM Try.prog 91 [.agg (cE a0),.one (dI a1),.one (.ptr 0 0),.one (.ptr 8 0),.one (.ptr 9 0)] ⟨GG a2 a3 a4,[(6,some ⟨9,1,(Enc.encL a3).length,[]⟩)],10⟩ (QK [.one (dB r.1)]) ⟨K8 r a4,[(6,some ⟨9,1,(Enc.encL r.2.2).length,[]⟩)],12⟩) (a0:Tm) (a1:Int) (a2:Qa Bs Bool) (a3:List Bs) (a4:Tm) (r:(Bool×(Qa Bs Bool)×(List Bs))) (h0:WI rc a0 a1 a2 a3 a4=some r):CallM Try.prog 91 [.agg (cE a0),.one (dI a1),.one (.ptr 0 0),.one (.ptr 8 0),.one (.ptr 9 0)] ⟨GG a2 a3 a4,[(6,some ⟨9,1,(Enc.encL a3).length,[]⟩)],10⟩ (QK [.one (dB r.1)]) ⟨K8 r a4,[(6,some ⟨9,1,(Enc.encL r.2.2).length,[]⟩)],12⟩:=by
 unfold WI at h0
 refine J0 ⟨[(7,.v (.one (dB r.1)))],K8 r a4,[(6,some ⟨9,1,(Enc.encL r.2.2).length,[]⟩)],12,50,[]⟩ J J en_91 (lb J) J (QC J .nil) (fun w0 M V0 Q hv0 hQ0=>?_)
 simp only [Ja]
 refine Q5<|Q0<|Q9 J J (lb J) (QT J)<|rA J J J<|Q3<|Q4<|Q5<|Q5<|Q0<|rR J J J (Q6 ag_132 J J J)<|rM J J J<|rR J J J (QN (a0:Tm) QV J J) ?_
 refine Qb h0 (fun y1 h1 h0=>?_)
 have ha2:ExecOK Try.prog (some 1) Wm ⟨[(3,.v (.one (.ptr 3 0))),(4,.v (.one (.ptr 5 0))),(9,.v (.one (.fn 89 [(7,0)]))),(10,.v (.one (dI a1))),(11,.v (.agg (cE a0)))],m91f12_h2 a2 a3 a4 a0,[(6,some ⟨9,1,(Enc.encL a3).length,[]⟩)],11,31,[]⟩ .normal ⟨[(3,.v (.one (.ptr 3 0))),(4,.v (.one (.ptr 5 0))),(6,.v (.one (.ptr 11 0)))],m91f12_h5 a2 a3 a4 a0,[(6,some ⟨9,1,(Enc.encL a3).length,[]⟩)],12,31,[]⟩:=by
  refine QI (fun w0 M V0 ro n Q hv1 hro1 hQn1=>?_)
  refine Q0<|Q9 J J (lb J) (Qj K4 J)<|Qx J J (Qz (a0:Tm) QV J J J J J)<|Q3 ?_
  exact Jq hQn1 (Qu (tA J) (hA J) (kA J) J (Nat.le_trans hv1 (lb J)) J J J (bB J J (bB J J (bB J J (bB J J (bG J (bA J)))))) J J)
 have hb3:ExecOK Try.prog (some 1) Wl ⟨[(3,.v (.one (.ptr 3 0))),(4,.v (.one (.ptr 5 0))),(6,.v (.one (.ptr 11 0)))],m91f12_h4 a2 a3 a4 a0,[(6,some ⟨9,1,(Enc.encL a3).length,[]⟩)],12,31,[]⟩ .normal ⟨[],m91f12_h6 y1 a4 a0,[(6,some ⟨9,1,(Enc.encL y1.2).length,[]⟩)],12,31,[]⟩:=by
  refine QI (fun w0 M V0 ro n Q hv1 hro1 hQn1=>?_)
  refine Qf<|Q5 ?_
  refine QS (fun (v4:Bool)=>⟨[(3,.v (.one (.ptr 3 0))),(4,.v (.one (.ptr 5 0))),(6,.v (.one (.ptr 11 0))),(21,.v (.one (dB v4)))],m91f12_h4 a2 a3 a4 a0,[(6,some ⟨9,1,(Enc.encL a3).length,[]⟩)],12,31,[]⟩) (fun (v4:Bool)=>(cond v4
      (Jd (Nat.ble (a3.length+([a0.name]).length) 1000000000)
    (some ((J2 a2 a0.name true),(a3++([a0.name])))))
      (some (a2,a3)))=some y1) ?_ ?_
  refine Qb h1 (fun w2_ h2 h1=>?_)
  refine Q0<|rR J J J (Q2 Yb J)<|rR J J J (Q6 QU J J J)<|rR J J J (Q7 J J J)<|rM J J J ?_
  refine QG (d:=15) (c:=(a0.kind==3)) J (fun c5=>?_) (fun c5=>?_)
  replace h2:=Qk c5 h2
  refine rR J J J (Q6 XT J J J)<|rR J J J (Q2 Zg J)<|rR J J J (Q6 JV J J J)<|rR J J J (YT (M:=a2) (k:=a0.name) Xp Xk J J J)<|rR J J J (Ji J)<|rR J J J (Qg J J)<|Q3 ?_
  have e:=sI h2;subst e
  exact Qd (!(Qn a2 a0.name)) (Qu (tA J) (hA J) (kA J) J (Nat.le_trans hv1 (lb J)) J J J (bB J J (bB J J (bB J J (bB J J (bG J (bA J)))))) J J) h1
  replace h2:=Ql c5 h2
  refine Q8 J J<|Q8 J J<|Q8 J J<|Q8 J J<|Q8 J J<|rR J J J (Qc J J)<|Q3 ?_
  have e:=sI h2;subst e
  exact Qd false (Qu (tA J) (hA J) (kA J) J (Nat.le_trans hv1 (lb J)) J J J (bB J J (bB J J (bB J J (bB J J (bG J (bA J)))))) J J) h1
  intro v4 h1
  refine Q4 ?_
  refine Qh (b:=v4) J (fun c6=>?_) (fun c6=>?_)
  replace h1:=Qk c6 h1
  refine Q5<|Q0<|rR J J J (Q6 XT J J J)<|rR J J J (Q2 Zg J)<|rR J J J (Q6 JV J J J)<|Qx J J (Jh (M:=a2) (k:=a0.name) (v:=true) Xp J J J J J)<|Q3<|Q4<|Q0<|rR J J J (Q6 Wb J J J)<|rR J J J (Q2 Zg J)<|rR J J J (Q6 JV J J J)<|Q9 J J (lb J) (Y4 (α:=Bs) (a0.name) Yc DS J J (lb J) (lb J) J J (.cons (.d _) .nil) J) ?_
  refine Yo h1 (fun g7 h1=>?_)
  refine Q9 J J (lb J) (Y5 (α:=Bs) Yc De J J J J J (.app _ _) g7)<|Qx J J (Qt Wb J J J J (lb J) J)<|Q3<|Qe ?_
  have e:=sI h1;subst e
  exact Jq hQn1 (Qu tZ (hA J) (kA J) J (Nat.le_trans hv1 (lb J)) J J J (bB J J (bB J J (bB J J (bB J J (bG J (bA J)))))) J J)
  replace h1:=Ql c6 h1
  refine Qm<|Qe ?_
  have e:=sI h1;subst e
  exact Jq hQn1 (Qu tZ (hA J) (kA J) J (Nat.le_trans hv1 (lb J)) J J J (bB J J (bB J J (bB J J (bB J J (bG J (bA J)))))) J J)
 refine Q9 J J (lb J) (Je (jump:=none) J J J J J (Qw ha2 (fun E hv=>(Qu (tA J) (hA J) (kA J) J (Nat.le_trans hv (lb J)) J J J (bB J J (bB J J (bB J J (bB J J (bG J (bA J)))))) J J))) J (Qw hb3 (fun E hv=>(Qu (tA J) (hA J) (kA J) J (Nat.le_trans hv (lb J)) J J J (bB J J (bB J J (bB J J (bB J J (bG J (bA J)))))) J J))) J J) ?_
 refine rR J J J (Ji J)<|Q3<|Q4 ?_
 refine Qh J (fun h=>nomatch h) (fun _=>?_)
 refine Qm<|Q4<|Q5<|Q0<|rA J J J<|Q3<|Q4<|Q5<|Q5 ?_
 refine QS (fun (v8:Bool)=>⟨[(1,.v (.one (dI a1))),(3,.v (.one (.ptr 8 0))),(4,.v (.one (.ptr 9 0))),(5,.v (.one (.ptr 10 0))),(8,.v (.one (dI (-1)))),(24,.v (.one (dB v8)))],m91f12_h7 y1 a4 a0,[(6,some ⟨9,1,(Enc.encL y1.2).length,[]⟩)],12,50,[]⟩) (fun (v8:Bool)=>(Option.bind (cond v8
     (Jd (cond (decide (0≤a0.kind)) (Nat.blt a0.kind.toNat 13) false)
   (Option.bind (JC ([(-1),(-1),(-1),(-1),(-1),1,1,1,(-1),(-1),(-1),2,(-1)]:List Int) a0.kind) fun (x12:Int) =>
   some x12))
     (some (-1))) (fun (v9:Int)=>Option.bind (Qp (Zy a0 v9 a1 rc a4) QF (0,y1.1,y1.2)) (Sum.elim (fun (o10:(Qa Bs Bool)×(List Bs))=>some (true,o10.1,o10.2)) (fun o=>some o))))=some r) ?_ ?_
 refine Qb h0 (fun w1_ h1 h0=>?_)
 refine Q0<|rR J J J (Q2 Yb J)<|rR J J J (Q6 QU J J J)<|rR J J J (Q7 J J J)<|rM J J J ?_
 refine QG (d:=20) (c:=(decide (0≤a0.kind))) J (fun c9=>?_) (fun c9=>?_)
 replace h1:=Qk c9 h1
 refine rR J J J (Q2 Yb J)<|rR J J J (Q6 QU J J J)<|rR J J J (Q7 J J J)<|rR J J J (Qg J J)<|Q3 ?_
 have e:=sI h1;subst e
 exact Qd (decide (a0.kind < 13)) (Qu (tA J) (hA J) (kA J) J (Nat.le_trans hv0 (lb J)) J J J (bB J J (bB J J (bB J J (bB J J (bG J (bA J)))))) J J) h0
 replace h1:=Ql c9 h1
 refine Q8 J J<|Q8 J J<|Q8 J J<|rR J J J (Qc J J)<|Q3 ?_
 have e:=sI h1;subst e
 exact Qd false (Qu (tA J) (hA J) (kA J) J (Nat.le_trans hv0 (lb J)) J J J (bB J J (bB J J (bB J J (bB J J (bG J (bA J)))))) J J) h0
 intro v8 h0
 refine Q4 ?_
 refine QS (fun (v10:Int)=>⟨[(1,.v (.one (dI a1))),(4,.v (.one (.ptr 9 0))),(5,.v (.one (.ptr 10 0))),(8,.v (.one (dI v10)))],m91f12_h7 y1 a4 a0,[(6,some ⟨9,1,(Enc.encL y1.2).length,[]⟩)],12,50,[]⟩) (fun (v10:Int)=>(Option.bind (Qp (Zy a0 v10 a1 rc a4) QF (0,y1.1,y1.2)) (Sum.elim (fun (o11:(Qa Bs Bool)×(List Bs))=>some (true,o11.1,o11.2)) (fun o=>some o)))=some r) ?_ ?_
 refine Qb h0 (fun w1_ h1 h0=>?_)
 refine Qh (b:=v8) J (fun c11=>?_) (fun c11=>?_)
 replace h1:=Qk c11 h1
 refine Q0<|rR J J J (Q2 Yb J)<|rR J J J (Q6 QU J J J) ?_
 refine Yo h1 (fun g12 h1=>?_)
 refine rR J J J (RO.indexA arr_135 J J g12)<|rR J J J (Q2 fo_134_4 J) ?_
 refine Qb h1 (fun x13 hx13 h1=>?_)
 refine rR J J J (RO.loadCol (m:=a0.kind) (sz:=5) (f:=4) (col:=([(-1),(-1),(-1),(-1),(-1),1,1,1,(-1),(-1),(-1),2,(-1)]:List Int)) QU J J J hx13)<|rA J J J<|Q3 ?_
 have e:=sI h1;subst e
 exact Qd x13 (Qu (tA J) (hA J) (kA J) J (Nat.le_trans hv0 (lb J)) J J J (bB J J (bB J J (bB J J (bB J J (bG J (bA J)))))) J J) h0
 replace h1:=Ql c11 h1
 refine Qm ?_
 have e:=sI h1;subst e
 exact Qd (-1) (Qu (tA J) (hA J) (kA J) J (Nat.le_trans hv0 (lb J)) J J J (bB J J (bB J J (bB J J (bB J J (bG J (bA J)))))) J J) h0
 intro v10 h0
 refine Q4<|Q5<|Q5<|Q0<|rR J J J (Q2 JR J)<|rR J J J (Q6 JO J J J)<|rR J J J (QA (α:=Tm) Jl J (.d _))<|rM J J J<|Q3<|Q4<|Qf ?_
 refine QY 0 (fun (o14:(Qa Bs Bool)×(List Bs))=>⟨[],[(0,.cells 132 [.yld 1]),(1,Zz),(2,.obj (.deferred (some []))),(3,.cells 80 [.mp 4]),(4,.mp (QO o14.1.1) o14.1.2),(5,.cells 51 [dA 6 o14.2]),(7,.cells 33 (cE a4)),(8,YZ),(9,.cells 137 [.fn 91 [(0,0),(8,0),(9,0)]]),(10,.cells 33 (cE a0))],[(6,some ⟨9,1,(Enc.encL o14.2).length,[]⟩)],12,50,[]⟩) (fun (o14:(Qa Bs Bool)×(List Bs))=>(some (true,o14.1,o14.2))=some r) ?_ ?_
 refine Qb h0 (fun o15 hl1 h0=>?_)
 refine QX (Zy a0 v10 a1 rc a4) (fun s1=>⟨[(1,.v (.one (dI a1))),(4,.v (.one (.ptr 9 0))),(8,.v (.one (dI v10))),(31,.v (.one (dS a0.kids))),(32,.v (.one (dI (a0.kids.length:Int)))),(33,.v (.one (dI s1.1)))],[(0,.cells 132 [.yld 1]),(1,Zz),(2,.obj (.deferred (some []))),(3,.cells 80 [.mp 4]),(4,.mp (QO s1.2.1.1) s1.2.1.2),(5,.cells 51 [dA 6 s1.2.2]),(7,.cells 33 (cE a4)),(8,YZ),(9,.cells 137 [.fn 91 [(0,0),(8,0),(9,0)]]),(10,.cells 33 (cE a0))],[(6,some ⟨9,1,(Enc.encL s1.2.2).length,[]⟩)],12,50,[]⟩) (0,y1.1,y1.2) o15 (Qu (tA J) (hA J) (kA J) J (Nat.le_trans hv0 (lb J)) J J J (bB J J (bB J J (bB J J (bB J J (bG J (bA J)))))) J J) hl1 (fun s1 n1 oo1 h1 ho1=>?_)
 unfold Zy at h1
 refine Q5<|Q0<|rR J J J (Q7 J J J)<|Q3<|Q4<|Q5 ?_
 refine Qh (b:=(decide (s1.1 < (a0.kids.length:Int)))) J (fun c16=>?_) (fun c16=>?_)
 replace h1:=Qk c16 h1
 refine Qm<|Q4<|Q5<|Qf<|Q5<|Q0<|rM J J J ?_
 refine Qb h1 (fun x17 hx17 h1=>?_)
 refine rR J J J (Qy (α:=Tm) Jl J (.d _) J hx17)<|rR J J J (Qv (x17:Tm) QV J)<|Q9 J J (lb J) (Qj K4 J)<|rA J J J<|Qx J J (Qz (x17:Tm) QV J J J J J)<|Q3<|Q4<|Q5<|Q0<|rM J J J<|rA J J J<|Q3<|Q4<|Q5 ?_
 refine Q5<|Q0<|rM J J J<|rM J J J<|rR J J J (Q7 J J J)<|Q3<|Q4 ?_
 refine QS (fun (v18:Int)=>⟨[(1,.v (.one (dI a1))),(4,.v (.one (.ptr 9 0))),(8,.v (.one (dI v10))),(10,.v (.one (.ptr 12 0))),(11,.v (.one (dI v18))),(31,.v (.one (dS a0.kids))),(32,.v (.one (dI (a0.kids.length:Int)))),(33,.v (.one (dI s1.1)))],m91f12_h8 s1 a4 a0 x17,[(6,some ⟨9,1,(Enc.encL s1.2.2).length,[]⟩)],13,50,[]⟩) (fun (v18:Int)=>(Option.bind (rc (x17,v18,s1.2.1,s1.2.2,a4)) fun (x19:(Bool×(Qa Bs Bool)×(List Bs))) =>
   cond (!x19.1)
     (some (.done (.inr (false,x19.2.1,x19.2.2))))
     (some (.next ((J9 (s1.1+1)),x19.2.1,x19.2.2))))=some oo1) ?_ ?_
 refine Qb h1 (fun w2_ h2 h1=>?_)
 refine Qh (b:=(s1.1==v10)) J (fun c19=>?_) (fun c19=>?_)
 replace h2:=Qk c19 h2
 refine Q0<|rM J J J<|rR J J J (Q7 J J J)<|rA J J J<|Q3 ?_
 have e:=sI h2;subst e
 exact Qd (J9 (a1+1)) (Qu (tA J) (hA J) (kA J) J (Nat.le_trans hv0 (lb J)) J J J (bB J J (bB J J (bB J J (bB J J (bG J (bA J)))))) J J) h1
 replace h2:=Ql c19 h2
 refine Qm ?_
 have e:=sI h2;subst e
 exact Qd a1 (Qu (tA J) (hA J) (kA J) J (Nat.le_trans hv0 (lb J)) J J J (bB J J (bB J J (bB J J (bB J J (bG J (bA J)))))) J J) h1
 intro v18 h1
 refine Q4<|Q5<|Q0<|rR J J J (Q6 Ui J J J)<|rR J J J (QN (x17:Tm) QV J J)<|rM J J J ?_
 refine Qb h1 (fun x20 hx20 h1=>?_)
 refine Q9 J J (lb J) (Jj (hp1':=[(0,.cells 132 [.yld 1]),(1,.loop .ready none [(3,.v (.one (.ptr 3 0))),(4,.v (.one (.ptr 5 0))),(9,.v (.one (.fn 89 [(7,0)])))] 31 #[10,11] Wm Wl 2),(2,.obj (.deferred (some []))),(3,.cells 80 [.mp 4]),(4,.mp (QO x20.2.1.1) x20.2.1.2),(5,.cells 51 [dA 6 x20.2.2]),(7,.cells 33 (cE a4)),(8,.cells 135 [dB true,dB false,dI 0,dI 0,dI (-1),dB false,dB false,dI 0,dI 0,dI (-1),dB false,dB false,dI 1,dI 0,dI (-1),dB false,dB true,dI (-1),dI 0,dI (-1),dB false,dB false,dI 0,dI 2,dI (-1),dB false,dB false,dI 0,dI 2,dI 1,dB false,dB false,dI 0,dI 2,dI 1,dB false,dB false,dI 0,dI 2,dI 1,dB false,dB false,dI 0,dI 3,dI (-1),dB false,dB false,dI 0,dI 1,dI (-1),dB false,dB false,dI 0,dI 1,dI (-1),dB false,dB false,dI 0,dI 3,dI 2,dB true,dB false,dI 0,dI 0,dI (-1)]),(9,.cells 137 [.fn 91 [(0,0),(8,0),(9,0)]])]) (tk1':=[(6,some ⟨9,1,(Enc.encL x20.2.2).length,[]⟩)]) (hpF:=[(10,.cells 33 (cE a0)),(12,.cells 33 (cE x17))]) (tkF:=[]) (res2:=QK [.one (dB x20.1)]) (nx2:=15) [0,1,2,3,4,5,6,7,8,9] J J (H x17 v18 s1.2.1 s1.2.2 a4 x20 hx20) J J (qB J J (qB J J (qB J J (qB J J (qG J (qB J J (qB J J (qB J J (qB J J qZ))))))))) J J (gR J (gR J (gR J (gR J (gG J (gR J (gR J (gR J (gR J gZ))))))))) (jR J jZ) (hA J) kZ J J J J J (bB J J (bB J J (bB J J (bB J J (bG J (bA J)))))) J J J J)<|rR J J J (Ji J)<|Q3<|Q4 ?_
 refine Qh (b:=(!x20.1)) J (fun c21=>?_) (fun c21=>?_)
 replace h1:=Qk c21 h1
 refine Q5<|Q0<|rA J J J<|Q3<|Q4<|QD ?_
 have e:=sI h1;subst e
 have e_:_=_:=ho1
 subst e_
 try dsimp only [Sum.elim_inl,Sum.elim_inr] at h0
 have e:=sI h0;subst e
 exact hQ0 _ _ _ (.inr J) J (Qu (tA J) (hA J) (kA J) J (Nat.le_trans hv0 (lb J)) J J J (bB J J (bB J J (bB J J (bB J J (bG J (bA J)))))) J J)
 replace h1:=Ql c21 h1
 refine Qm<|Qe<|Q4<|Q0<|rR J J J (Q7 J J J)<|rM J J J<|Q3 ?_
 have e:=sI h1;subst e
 refine QR ((J9 (s1.1+1)),x20.2.1,x20.2.2) (Qu (tA J) (hA J) (kA J) J (Nat.le_trans hv0 (lb J)) J J J (bB J J (bB J J (bB J J (bB J J (bG J (bA J)))))) J J) ho1
 replace h1:=Ql c16 h1
 refine J5<|Qo<|Qo ?_
 have e:=sI h1;subst e
 have e_:_=_:=ho1
 subst e_
 exact QW (s1.2.1,s1.2.2) (Qu tZ (hA J) (kA J) J (Nat.le_trans hv0 (lb J)) J J J (bB J J (bB J J (bB J J (bB J J (bG J (bA J)))))) J J) h0
 intro o14 h0
 refine QM<|Q4<|Q5<|Q0<|rA J J J<|Q3<|Q4<|QD ?_
 have e:=sI h0;subst e
 exact hQ0 _ _ _ (.inr J) J (Qu (tA J) (hA J) (kA J) J (Nat.le_trans hv0 (lb J)) J J J (bB J J (bB J J (bB J J (bB J J (bG J (bA J)))))) J J)
theorem m91f12_all (n:Nat) (u:Tm×Int×(Qa Bs Bool)×(List Bs)×Tm) (r:(Bool×(Qa Bs Bool)×(List Bs))) (h0:Jr WJ n u=some r):CallM Try.prog 91 [.agg (cE u.1),.one (dI u.2.1),.one (.ptr 0 0),.one (.ptr 8 0),.one (.ptr 9 0)] ⟨GG u.2.2.1 u.2.2.2.1 u.2.2.2.2,[(6,some ⟨9,1,(Enc.encL u.2.2.2.1).length,[]⟩)],10⟩ (QK [.one (dB r.1)]) ⟨K8 r u.2.2.2.2,[(6,some ⟨9,1,(Enc.encL r.2.2).length,[]⟩)],12⟩ :=
 YV (C:=fun u r=>CallM Try.prog 91 [.agg (cE u.1),.one (dI u.2.1),.one (.ptr 0 0),.one (.ptr 8 0),.one (.ptr 9 0)] ⟨GG u.2.2.1 u.2.2.2.1 u.2.2.2.2,[(6,some ⟨9,1,(Enc.encL u.2.2.2.1).length,[]⟩)],10⟩ (QK [.one (dB r.1)]) ⟨K8 r u.2.2.2.2,[(6,some ⟨9,1,(Enc.encL r.2.2).length,[]⟩)],12⟩) (fun rc H u r h=>m91f12s_ok rc (fun a0 a1 a2 a3 a4 r h=>H (a0,a1,a2,a3,a4) r h) u.1 u.2.1 u.2.2.1 u.2.2.2.1 u.2.2.2.2 r h) n u r h0
theorem m91f12_ok (a0:Tm) (a1:Int) (a2:Qa Bs Bool) (a3:List Bs) (a4:Tm) (r:(Bool×(Qa Bs Bool)×(List Bs))) (h0:m91f12 a0 a1 a2 a3 a4=some r):CallM Try.prog 91 [.agg (cE a0),.one (dI a1),.one (.ptr 0 0),.one (.ptr 8 0),.one (.ptr 9 0)] ⟨GG a2 a3 a4,[(6,some ⟨9,1,(Enc.encL a3).length,[]⟩)],10⟩ (QK [.one (dB r.1)]) ⟨K8 r a4,[(6,some ⟨9,1,(Enc.encL r.2.2).length,[]⟩)],12⟩:=m91f12_all QF (a0,a1,a2,a3,a4) r h0
noncomputable abbrev UD :HB :=
 .mp (QO (gmNil:Qa Bs Bool).1) (gmNil:Qa Bs Bool).2
noncomputable abbrev m58_h1 (p0_:Tm):List (Nat×HB) :=
 [(0,.cells 33 (cE p0_)),(1,UD),(2,.cells 80 [.mp 1]),(3,.cells 51 [dN])]
noncomputable abbrev m58_h2 (p0_:Tm):List (Nat×HB) :=
 [(0,.cells 33 (cE p0_)),(1,UD),(2,.cells 80 [.mp 1]),(3,.cells 51 [dN]),(4,.cells 33 (cE p0_))]
noncomputable abbrev m58_h3 (p0_:Tm):List (Nat×HB) :=
 [(0,.cells 33 (cE p0_)),(1,UD),(2,.cells 80 [.mp 1]),(3,.cells 51 [dA 5 ([]:List Bs)]),(4,.cells 33 (cE p0_))]
noncomputable abbrev m58_h4 :HB :=
 .loop .ready none [(3,.v (.one (.ptr 2 0))),(4,.v (.one (.ptr 3 0))),(9,.v (.one (.fn 89 [(4,0)])))] 31 #[10,11] Wm Wl 6
noncomputable abbrev m58_h5 (p0_:Tm) (p1_:(Qa Bs Bool)×(List Bs)):List (Nat×HB) :=
 [(0,.cells 33 (cE p0_)),(1,.mp (QO p1_.1.1) p1_.1.2),(2,.cells 80 [.mp 1]),(3,.cells 51 [dA 5 p1_.2]),(4,.cells 33 (cE p0_)),(6,.obj (.deferred (some []))),(7,m58_h4)]
noncomputable abbrev m58_h6 (p0_:Tm):List (Nat×HB) :=
 [(0,.cells 33 (cE p0_)),(1,UD),(2,.cells 80 [.mp 1]),(3,.cells 51 [dA 5 ([]:List Bs)]),(4,.cells 33 (cE p0_)),(6,.obj (.deferred (some []))),(7,m58_h4),(8,.cells 132 [.yld 7])]
noncomputable abbrev m58_h7 :HB :=
 .cells 135 [dB true,dB false,dI 0,dI 0,dI (-1),dB false,dB false,dI 0,dI 0,dI (-1),dB false,dB false,dI 1,dI 0,dI (-1),dB false,dB true,dI (-1),dI 0,dI (-1),dB false,dB false,dI 0,dI 2,dI (-1),dB false,dB false,dI 0,dI 2,dI 1,dB false,dB false,dI 0,dI 2,dI 1,dB false,dB false,dI 0,dI 2,dI 1,dB false,dB false,dI 0,dI 3,dI (-1),dB false,dB false,dI 0,dI 1,dI (-1),dB false,dB false,dI 0,dI 1,dI (-1),dB false,dB false,dI 0,dI 3,dI 2,dB true,dB false,dI 0,dI 0,dI (-1)]
noncomputable abbrev m58_h8 (p0_:Tm):List (Nat×HB) :=
 [(0,.cells 33 (cE p0_)),(1,UD),(2,.cells 80 [.mp 1]),(3,.cells 51 [dA 5 ([]:List Bs)]),(4,.cells 33 (cE p0_)),(6,.obj (.deferred (some []))),(7,m58_h4),(8,.cells 132 [.yld 7]),(9,m58_h7)]
def m58 (a0:Tm):Option ((List Bs)) :=
 Option.bind (some ()) (fun (y1:Unit)=>Option.bind (Option.bind (some ()) (fun (y5:Unit)=>Option.bind (m91f12 a0 0 gmNil ([]) a0) fun (x7:(Bool×(Qa Bs Bool)×(List Bs))) =>
 some (x7.2.1,x7.2.2))) (fun (y3:(Qa Bs Bool)×(List Bs))=>some y3.2))
theorem m58_ok (a0:Tm) (r:(List Bs)) (h0:m58 a0=some r):Fun Try.prog 58 [.agg (cE a0)] (QK [.one (dS r)]):=by
 unfold m58 at h0
 refine QZ 9 31 Try.func58 J en_58 J (lb J) (fun S w=>?_)
 simp only [Ja]
 refine Q5<|Q0<|Q9 J J (lb J) (QT J)<|rA J J J<|Q3<|Q4<|Q5<|Q0<|Q9 J J (lb J) (Z4 Bs Bool)<|Q9 J J (lb J) (Qj z_80 J)<|Qx J J (Qt XT J J J J (lb J) J)<|Q3<|Q4<|Q5 ?_
 refine Q0<|Q9 J J (lb J) (Qj z_51 J)<|Q3<|Q4<|Q5<|Q5<|Q0<|rR J J J (QN (a0:Tm) QV J J) ?_
 refine Qb h0 (fun y1 h1 h0=>?_)
 have hc2:CallM Try.prog 74 [.agg (cE a0)] ⟨m58_h1 a0,[],4⟩ (QK [.one (.fn 89 [(4,0)])]) ⟨m58_h2 a0,[],5⟩:=by
  refine J0 ⟨[(2,.v (.one (.fn 89 [(4,0)])))],m58_h2 a0,[],5,4,[]⟩ J J en_74 (lb J) J (QC J .nil) (fun w0 M V0 Q hv1 hQ1=>?_)
  simp only [Ja]
  refine Q5<|Q0<|Q9 J J (lb J) (QT J)<|rA J J J<|Q3<|Q4<|Q5<|Q0<|rR J J J (YU J)<|rA J J J<|Q3<|Q4<|QD ?_
  have e:=sI h1;subst e
  exact hQ1 _ _ _ (.inr J) J (Qu (tA J) (hA J) kZ J (Nat.le_trans hv1 (lb J)) J J J (bB J J (bG J (bA J))) J J)
 refine Q9 J J (lb J) (JJ J J J hc2 J (hA J) kZ)<|Q3<|Q4<|Qf<|XC.adoptC (i:=3) (off:=0) 9 1 J J<|KH (st':=⟨[(3,.v (.one (.ptr 2 0))),(4,.v (.one (.ptr 3 0))),(9,.v (.one (.fn 89 [(4,0)])))],m58_h3 a0,[(5,some ⟨9,1,(Enc.encL ([]:List Bs)).length,[]⟩)],6,31,[]⟩) (Qu (tA J) (hA J) (kA J) J (Nat.zero_le _) J J J (bB J J (bG J (bA J))) J J) ?_
 refine Qb h0 (fun y3 h1 h0=>?_)
 have hc4:CallM Try.prog 89 [.one (.yld 7),.one (.ptr 4 0)] ⟨[(7,.loop .ready none [(3,.v (.one (.ptr 2 0))),(4,.v (.one (.ptr 3 0))),(9,.v (.one (.fn 89 [(4,0)])))] 31 #[10,11] Wm Wl 6),(6,.obj (.deferred (some []))),(0,.cells 33 (cE a0)),(1,.mp (QO (gmNil:Qa Bs Bool).1) (gmNil:Qa Bs Bool).2),(2,.cells 80 [.mp 1]),(3,.cells 51 [dA 5 ([]:List Bs)]),(4,.cells 33 (cE a0))],[(5,some ⟨9,1,(Enc.encL ([]:List Bs)).length,[]⟩)],8⟩ (QK []) ⟨m58_h5 a0 y3,[(5,some ⟨9,1,(Enc.encL y3.2).length,[]⟩)],14⟩:=by
  refine J0 ⟨[],m58_h5 a0 y3,[(5,some ⟨9,1,(Enc.encL y3.2).length,[]⟩)],14,10,[]⟩ J J en_89 (lb J) J .nil (fun w0 M V0 Q hv1 hQ1=>?_)
  simp only [Ja]
  refine Q5<|Q0<|Q9 J J (lb J) (QT J)<|Q3<|Q4<|Q5<|Q0 ?_
  refine Qb h1 (fun y5 h2 h1=>?_)
  have hc6:CallM Try.prog 90 [] ⟨m58_h6 a0,[(5,some ⟨9,1,(Enc.encL ([]:List Bs)).length,[]⟩)],9⟩ (QK [.agg [dB true,dB false,dI 0,dI 0,dI (-1),dB false,dB false,dI 0,dI 0,dI (-1),dB false,dB false,dI 1,dI 0,dI (-1),dB false,dB true,dI (-1),dI 0,dI (-1),dB false,dB false,dI 0,dI 2,dI (-1),dB false,dB false,dI 0,dI 2,dI 1,dB false,dB false,dI 0,dI 2,dI 1,dB false,dB false,dI 0,dI 2,dI 1,dB false,dB false,dI 0,dI 3,dI (-1),dB false,dB false,dI 0,dI 1,dI (-1),dB false,dB false,dI 0,dI 1,dI (-1),dB false,dB false,dI 0,dI 3,dI 2,dB true,dB false,dI 0,dI 0,dI (-1)]]) ⟨m58_h8 a0,[(5,some ⟨9,1,(Enc.encL ([]:List Bs)).length,[]⟩)],10⟩:=by
   refine J0 ⟨[(0,.v (.one (.ptr 9 0)))],m58_h8 a0,[(5,some ⟨9,1,(Enc.encL ([]:List Bs)).length,[]⟩)],10,15,[]⟩ J J en_90 (lb J) J (Z6 XU J J J J .nil) (fun w0 M V0 Q hv2 hQ2=>?_)
   simp only [Ja]
   refine Q5<|Q0<|Q9 J J (lb J) (Qj Dg J)<|Q3<|Q4<|Q5<|Q0<|rR J J J (Jb JB J J J J)<|rR J J J (X2 JB J J J)<|rR J J J (Jb JB J J J J)<|rR J J J (ZH JB J J J J J)<|rR J J J (Jb JB J J J J)<|rR J J J (Jb JB J J J J)<|rR J J J (Jb JB J J J J) ?_
   refine rR J J J (Jb JB J J J J)<|rR J J J (Jb JB J J J J)<|rR J J J (Jb JB J J J J)<|rR J J J (Jb JB J J J J)<|rR J J J (Jb JB J J J J)<|rR J J J (Jb JB J J J J)<|rR J J J (Y0 bd_135 J (.cons J (.cons J (.cons J (.cons J (.cons J (.cons J (.cons J (.cons J (.cons J (.cons J (.cons J (.cons J (.cons J .nil))))))))))))) J)<|Qx J J (Yw XU J J J J J J)<|Q3<|Q4<|QD ?_
   have e:=sI h2;subst e
   exact hQ2 _ _ _ (.inr J) J (Qu (tA J) (hA J) (kA J) J (Nat.le_trans hv2 (lb J)) J J J (bB J J (bG J (bA J))) J J)
  refine Q9 J J (lb J) (JJ J J J hc6 J (hA J) (kA J))<|Q9 J J (lb J) (Qj Dg J)<|Qx J J (Yw XU J J J J J J)<|Q3<|Q4<|Q5<|Q0<|Q9 J J (lb J) (Qj z_137 J)<|Q3<|Q4<|Q5<|Q0<|rR J J J (RO.makeFunc3 J J J)<|Qx J J (Qt Ui J J J J (lb J) J) ?_
  refine Q3<|Q4<|Q0<|rR J J J (Q6 Ui J J J)<|rR J J J (QN (a0:Tm) QV J J) ?_
  refine Qb h1 (fun x7 hx7 h1=>?_)
  refine Q9 J J (lb J) (Jj (hp1':=[(8,.cells 132 [.yld 7]),(7,.loop .ready none [(3,.v (.one (.ptr 2 0))),(4,.v (.one (.ptr 3 0))),(9,.v (.one (.fn 89 [(4,0)])))] 31 #[10,11] Wm Wl 6),(6,.obj (.deferred (some []))),(2,.cells 80 [.mp 1]),(1,.mp (QO x7.2.1.1) x7.2.1.2),(3,.cells 51 [dA 5 x7.2.2]),(4,.cells 33 (cE a0)),(10,.cells 135 [dB true,dB false,dI 0,dI 0,dI (-1),dB false,dB false,dI 0,dI 0,dI (-1),dB false,dB false,dI 1,dI 0,dI (-1),dB false,dB true,dI (-1),dI 0,dI (-1),dB false,dB false,dI 0,dI 2,dI (-1),dB false,dB false,dI 0,dI 2,dI 1,dB false,dB false,dI 0,dI 2,dI 1,dB false,dB false,dI 0,dI 2,dI 1,dB false,dB false,dI 0,dI 3,dI (-1),dB false,dB false,dI 0,dI 1,dI (-1),dB false,dB false,dI 0,dI 1,dI (-1),dB false,dB false,dI 0,dI 3,dI 2,dB true,dB false,dI 0,dI 0,dI (-1)]),(11,.cells 137 [.fn 91 [(8,0),(10,0),(11,0)]])]) (tk1':=[(5,some ⟨9,1,(Enc.encL x7.2.2).length,[]⟩)]) (hpF:=[(0,.cells 33 (cE a0)),(9,m58_h7)]) (tkF:=[]) (res2:=QK [.one (dB x7.1)]) (nx2:=14) [8,7,6,2,1,3,5,4,10,11] J J (m91f12_ok a0 0 gmNil ([]) a0 x7 hx7) J J (qB J J (qB J J (qB J J (qB J J (qG J (qB J J (qB J J (qB J J (qB J J qZ))))))))) J J (gR J (gR J (gR J (gR J (gG J (gR J (gR J (gR J (gR J gZ))))))))) (jR J jZ) (hA J) kZ J J J J J (bB J J (bB J J (bB J J (bB J J (bG J (bA J)))))) J J J J)<|Q3 ?_
  have e:=sI h1;subst e
  exact hQ1 _ _ _ (.inl J) J (Qu tZ (hA J) (kA J) J (Nat.le_trans hv1 (lb J)) J J J (bB J J (bG J (bA J))) J J)
 refine ZU (Y1 (e:=.normal) rfl hc4 rfl rfl (by intro h;cases h) rfl) rfl ?_
 refine Qe<|Q4<|Q5<|Q0<|rR J J J (Q6 Wb J J J)<|rA J J J<|Q3<|Q4<|QD ?_
 have e:=sI h0;subst e
 exact QL (fun _ _ h=>h) J (QC J .nil) (.cons (.one (.app _ _ _)) .nil)
end Go.Proofs.Ytafddfoefeploaa
namespace Go.Proofs.Ytafddfoefeploaa
open Go.RowKit Go.Shelf
theorem Yu:J1 Try.prog 45 0=some 0:=by kernel_rfl
theorem Ym:J1 Try.prog 45 1=some 1:=by kernel_rfl
theorem fo_45_5:J1 Try.prog 45 5=some 13:=by kernel_rfl
theorem YD:J1 Try.prog 45 6=some 14:=by kernel_rfl
theorem YC:J1 Try.prog 45 8=some 22:=by kernel_rfl
theorem Gs:J1 Try.prog 71 0=some 0:=by kernel_rfl
theorem KE:J1 Try.prog 71 1=some 1:=by kernel_rfl
theorem W0:J1 Try.prog 76 0=some 0:=by kernel_rfl
theorem K2:Jw Try.prog 40=some (false,1):=by kernel_rfl
theorem K1:Jw Try.prog 43=some (false,1):=by kernel_rfl
theorem K0:Jw Try.prog 71=some (true,6):=by kernel_rfl
theorem ZF:Jw Try.prog 76=some (true,15):=by kernel_rfl
theorem YM:Jp Try.prog 40=some (71,6):=by kernel_rfl
theorem YL:Jp Try.prog 43=some (76,15):=by kernel_rfl
theorem UV:JD Try.prog 71=some [.string ByteArray.empty,.int .i64 0,.int .i64 0,.string ByteArray.empty,.slice none 0 0,.slice none 0 0]:=by kernel_rfl
theorem UU:JD Try.prog 76=some [.string ByteArray.empty,.int .i64 0,.int .i64 0,.string ByteArray.empty,.slice none 0 0,.slice none 0 0,.int .i64 0,.int .i64 0,.int .i64 0,.int .i64 0,.string ByteArray.empty,.slice none 0 0,.slice none 0 0,.int .i64 0,.slice none 0 0]:=by kernel_rfl
theorem D9:K5 Try.prog 33=some (5,80):=by kernel_rfl
theorem en_20:J4 Try.prog 20:=enters_of Try.func20 (by kernel_rfl) rfl
theorem en_64:J4 Try.prog 64:=enters_of Try.func64 (by kernel_rfl) rfl
theorem en_68:J4 Try.prog 68:=enters_of Try.func68 (by kernel_rfl) rfl
theorem YQ:Try.prog.follows .mixedOrders=true:=by kernel_rfl
def m64_l0  (s1:(List Tm)×Int×Int×Bs×(List Lvl)×(List Tm)):Option (LO ((List Tm)×Int×Int×Bs×(List Lvl)×(List Tm)) (((List Tm)×Int×Int×Bs×(List Lvl)×(List Tm)))) :=
 Option.bind (cond (s1.2.1==6)
   (some ((s1.2.2.2.2.2.length:Int)==2))
   (some false)) (fun (v2:Bool)=>cond v2
   (Option.bind (JC s1.2.2.2.2.2 0) fun (x4:Tm) =>
 Jd (Nat.ble (s1.1.length+([x4]).length) 1000000000)
 (Option.bind (JC s1.2.2.2.2.2 1) fun (x6:Tm) =>
 some (.next ((s1.1++([x4])),x6.kind,x6.index,x6.name,x6.levels,x6.kids))))
   (some (.done (s1.1,s1.2.1,s1.2.2.1,s1.2.2.2.1,s1.2.2.2.2.1,s1.2.2.2.2.2))))
noncomputable abbrev m64_h0 (p0_:(List Tm)×Int×Int×Bs×(List Lvl)×(List Tm)):HB :=
 .cells 33 [dI p0_.2.1,dI p0_.2.2.1,Jn p0_.2.2.2.1,dS p0_.2.2.2.2.1,dS p0_.2.2.2.2.2]
noncomputable abbrev m64_h1 (p0_:(List Tm)×Int×Int×Bs×(List Lvl)×(List Tm)):List (Nat×HB) :=
 [(0,m64_h0 p0_),(1,.cells 33 [dI 0,dI 0,Jn ([]:List UInt8),dN,dN])]
def m64 (a0:Tm):Option ((List Tm)×Tm) :=
 Option.bind (Qp (m64_l0) QF (([]:List Tm),a0.kind,a0.index,a0.name,a0.levels,a0.kids)) (fun (o1:(List Tm)×Int×Int×Bs×(List Lvl)×(List Tm))=>some (o1.1,(Tm.mk o1.2.1 o1.2.2.1 o1.2.2.2.1 o1.2.2.2.2.1 o1.2.2.2.2.2)))
theorem m64_ok (a0:Tm) (r:(List Tm)×Tm) (h0:m64 a0=some r):Fun Try.prog 64 [.agg (cE a0)] (QK [.one (dS r.1),.agg (cE r.2)]):=by
 unfold m64 at h0
 refine QZ 9 27 Try.func64 J en_64 J (lb J) (fun S w=>?_)
 simp only [Ja]
 refine Q5<|Q0<|Q9 J J (lb J) (QT J)<|rA J J J<|Q9 J J (lb J) (Qj K4 J)<|Q3<|Q4<|Q5<|Q0<|rA J J J<|Q3<|Q4<|Q5<|Qf ?_
 refine QY 0 (fun (o1:(List Tm)×Int×Int×Bs×(List Lvl)×(List Tm))=>⟨[(1,.v (.one (.ptr 0 0))),(3,.v (.one (.ptr 1 0))),(4,.v (.one (dA 2 o1.1)))],[(0,.cells 33 [dI o1.2.1,dI o1.2.2.1,Jn o1.2.2.2.1,dS o1.2.2.2.2.1,dS o1.2.2.2.2.2]),(1,.cells 33 [dI 0,dI 0,Jn ([]:List UInt8),dN,dN])],[(2,some ⟨33,5,(Enc.encL o1.1).length,[]⟩)],3,27,[]⟩) (fun (o1:(List Tm)×Int×Int×Bs×(List Lvl)×(List Tm))=>(some (o1.1,(Tm.mk o1.2.1 o1.2.2.1 o1.2.2.2.1 o1.2.2.2.2.1 o1.2.2.2.2.2)))=some r) ?_ ?_
 refine XC.adoptT (t:=4) 33 5 J ?_
 refine Qb h0 (fun o2 hl1 h0=>?_)
 refine QX (m64_l0) (fun s1=>⟨[(1,.v (.one (.ptr 0 0))),(3,.v (.one (.ptr 1 0))),(4,.v (.one (dA 2 s1.1)))],[(0,.cells 33 [dI s1.2.1,dI s1.2.2.1,Jn s1.2.2.2.1,dS s1.2.2.2.2.1,dS s1.2.2.2.2.2]),(1,.cells 33 [dI 0,dI 0,Jn ([]:List UInt8),dN,dN])],[(2,some ⟨33,5,(Enc.encL s1.1).length,[]⟩)],3,27,[]⟩) (([]:List Tm),a0.kind,a0.index,a0.name,a0.levels,a0.kids) o2 (sL (Nat.zero_le _) J J J J J) hl1 (fun s1 n1 oo1 h1 ho1=>?_)
 unfold m64_l0 at h1
 refine Q5<|Q5 ?_
 refine QS (fun (v3:Bool)=>⟨[(1,.v (.one (.ptr 0 0))),(3,.v (.one (.ptr 1 0))),(4,.v (.one (dA 2 s1.1))),(13,.v (.one (dB v3)))],m64_h1 s1,[(2,some ⟨33,5,(Enc.encL s1.1).length,[]⟩)],3,27,[]⟩) (fun (v3:Bool)=>(cond v3
     (Option.bind (JC s1.2.2.2.2.2 0) fun (x5:Tm) =>
   Jd (Nat.ble (s1.1.length+([x5]).length) 1000000000)
   (Option.bind (JC s1.2.2.2.2.2 1) fun (x7:Tm) =>
   some (.next ((s1.1++([x5])),x7.kind,x7.index,x7.name,x7.levels,x7.kids))))
     (some (.done (s1.1,s1.2.1,s1.2.2.1,s1.2.2.2.1,s1.2.2.2.2.1,s1.2.2.2.2.2))))=some oo1) ?_ ?_
 refine Qb h1 (fun w2_ h2 h1=>?_)
 refine Q0<|rR J J J (Q2 Yb J)<|rR J J J (Q6 QU J J J)<|rR J J J (Q7 J J J)<|rM J J J ?_
 refine QG (d:=8) (c:=(s1.2.1==6)) J (fun c4=>?_) (fun c4=>?_)
 replace h2:=Qk c4 h2
 refine rR J J J (Q2 JR J)<|rR J J J (Q6 JO J J J)<|rR J J J (QA (α:=Tm) Jl J (.d _))<|rR J J J (Q7 J J J)<|rR J J J (Qg J J)<|Q3 ?_
 have e:=sI h2;subst e
 exact Qd ((s1.2.2.2.2.2.length:Int)==2) (sL (Nat.zero_le _) J J J J J) h1
 replace h2:=Ql c4 h2
 refine Q8 J J<|Q8 J J<|Q8 J J<|Q8 J J<|rR J J J (Qc J J)<|Q3 ?_
 have e:=sI h2;subst e
 exact Qd false (sL (Nat.zero_le _) J J J J J) h1
 intro v3 h1
 refine Q4 ?_
 refine Qh (b:=v3) J (fun c5=>?_) (fun c5=>?_)
 replace h1:=Qk c5 h1
 refine Qm<|Q4<|Qf<|Q5<|Q0<|rM J J J<|rR J J J (Q2 JR J)<|rR J J J (Q6 JO J J J) ?_
 refine Qb h1 (fun x6 hx6 h1=>?_)
 refine rR J J J (Qy (α:=Tm) Jl J (.d _) J hx6)<|rR J J J (Qv (x6:Tm) QV J)<|Q9 J J (lb J) (Y4 (α:=Tm) (x6) Jl K4 J J (lb J) (lb J) J J (.cons (.d _) (.cons (.d _) (.cons (.d _) (.cons (.d _) (.cons (.d _) .nil))))) J) ?_
 refine Yo h1 (fun g7 h1=>?_)
 refine Q9 J J (lb J) (Y5 (α:=Tm) Jl D9 J J J J J (.app _ _) g7)<|rA J J J<|Q3<|Q4<|Q0<|rR J J J (Q2 JR J)<|rR J J J (Q6 JO J J J) ?_
 refine Qb h1 (fun x8 hx8 h1=>?_)
 refine rR J J J (Qy (α:=Tm) Jl J (.d _) J hx8)<|rR J J J (Qv (x8:Tm) QV J)<|Qx J J (Qz (x8:Tm) QV J J J J J)<|Q3<|Qe ?_
 have e:=sI h1;subst e
 refine QR ((s1.1++([x6])),x8.kind,x8.index,x8.name,x8.levels,x8.kids) (sL (Nat.zero_le _) J J J J J) ho1
 replace h1:=Ql c5 h1
 refine J5<|Qo<|Qo ?_
 have e:=sI h1;subst e
 have e_:_=_:=ho1
 subst e_
 exact QW (s1.1,s1.2.1,s1.2.2.1,s1.2.2.2.1,s1.2.2.2.2.1,s1.2.2.2.2.2) (sL (Nat.zero_le _) J J J J J) h0
 intro o1 h0
 refine QM<|Q4<|Q5 ?_
 refine Jv [3] [] YQ (by kernel_rfl) (by kernel_rfl) (by kernel_rfl) ?_
 refine RunA.rd J J J (Q1 (Qr J)) J<|RunA.rd J J J (Q1 (Qi QV J J J J)) J<|RunA.rd J J J (Q1 (JH J)) J<|RunA.eff J J J (Qt QV J J J J (lb J) J) J ?_
 refine RunA.nil ⟨?ex,_,_,J,?_⟩
 case ex=>exact trivial
 refine JW (st':=⟨[(2,.v (.one (dA 2 o1.1))),(3,.v (.one (.ptr 1 0)))],[(0,m64_h0 o1),(1,m64_h0 o1)],[(2,some ⟨33,5,(Enc.encL o1.1).length,[]⟩)],3,27,[]⟩) (sL (Nat.zero_le _) J J J J J)<|Q4<|QD ?_
 have e:=sI h0;subst e
 exact QL (fun _ _ h=>h) J (QC J (Z6 QV J J J J .nil)) (.cons (.one (.app _ _ _)) (.cons (.agg (.cons (.d _) (.cons (.d _) (.cons (.d _) (.cons (.d _) (.cons (.d _) .nil)))))) .nil))
def Wy (a0:Dcl) (s1:(List Bs)×Int):Option (LO ((List Bs)×Int) (((List Bs)))) :=
 cond (decide (s1.2 < (a0.ctors.length:Int)))
   (Option.bind (JC a0.ctors s1.2) fun (x8:Ctr) =>
 Jd (Nat.ble (s1.1.length+([x8.name]).length) 1000000000)
 (some (.next ((s1.1++([x8.name])),(J9 (s1.2+1))))))
   (some (.done s1.1))
def Wx (a0:Dcl) (s1:(List Bs)×Int):Option (LO ((List Bs)×Int) (((List Bs)))) :=
 cond (decide (s1.2 < (a0.funs.length:Int)))
   (Option.bind (JC a0.funs s1.2) fun (x16:Fn) =>
 Jd (Nat.ble (s1.1.length+([x16.name]).length) 1000000000)
 (some (.next ((s1.1++([x16.name])),(J9 (s1.2+1))))))
   (some (.done s1.1))
def m20 (a0:Dcl):Option ((List Bs)) :=
 Option.bind (cond (a0.kind==0)
   (some (a0.kind==0))
   (cond (a0.kind==1)
   (some (a0.kind==1))
   (some (a0.kind==2)))) (fun (v1:Bool)=>cond v1
   (Jd (Nat.ble ([a0.name]).length 1000000000)
 (some ([a0.name])))
   (cond (a0.kind==3)
   (Jd (Nat.ble ([a0.name]).length 1000000000)
 (Option.bind (Qp (Wy a0) QF ([a0.name],0)) (fun (o6:(List Bs))=>Jd (Nat.ble (a0.name.length+([46,114,101,99]:List UInt8).length) 1000000000)
 (Jd (Nat.ble (o6.length+([(a0.name++([46,114,101,99]:List UInt8))]).length) 1000000000)
 (some (o6++([(a0.name++([46,114,101,99]:List UInt8))])))))))
   (cond (a0.kind==4)
   (Option.bind (Qp (Wx a0) QF (([]:List Bs),0)) (fun (o14:(List Bs))=>some o14))
   (some ([]:List Bs)))))
theorem m20_ok (a0:Dcl) (r:(List Bs)) (h0:m20 a0=some r):Fun Try.prog 20 [.agg (cE a0)] (QK [.one (dS r)]):=by
 unfold m20 at h0
 refine QZ 9 61 Try.func20 J en_20 J (lb J) (fun S w=>?_)
 simp only [Ja]
 refine Q5<|Q0<|Q9 J J (lb J) (QT J)<|rA J J J<|Q3<|Q4<|Q5<|Q0<|rA J J J<|Q3<|Q4<|Q5<|Q5<|Q0 ?_
 refine rR J J J (Q2 Yu J)<|rR J J J (Q6 QU J J J)<|Q3<|Q4<|Qf<|Q5<|Q5<|Q0<|rR J J J (Q7 J J J)<|rA J J J<|Q3<|Q4 ?_
 refine QS (fun (v1:Bool)=>⟨[(1,.v (.one (.ptr 0 0))),(3,.v (.one (dN))),(9,.v (.one (dI a0.kind))),(10,.v (.one (dB v1)))],[(0,.cells 45 (cE a0))],[],1,61,[]⟩) (fun (v1:Bool)=>(cond v1
     (Jd (Nat.ble ([a0.name]).length 1000000000)
   (some ([a0.name])))
     (cond (a0.kind==3)
     (Jd (Nat.ble ([a0.name]).length 1000000000)
   (Option.bind (Qp (Wy a0) QF ([a0.name],0)) (fun (o6:(List Bs))=>Jd (Nat.ble (a0.name.length+([46,114,101,99]:List UInt8).length) 1000000000)
   (Jd (Nat.ble (o6.length+([(a0.name++([46,114,101,99]:List UInt8))]).length) 1000000000)
   (some (o6++([(a0.name++([46,114,101,99]:List UInt8))])))))))
     (cond (a0.kind==4)
     (Option.bind (Qp (Wx a0) QF (([]:List Bs),0)) (fun (o14:(List Bs))=>some o14))
     (some ([]:List Bs)))))=some r) ?_ ?_
 refine Qb h0 (fun w1_ h1 h0=>?_)
 refine Qh (b:=(a0.kind==0)) J (fun c2=>?_) (fun c2=>?_)
 replace h1:=Qk c2 h1
 refine Qm ?_
 have e:=sI h1;subst e
 exact Qd (a0.kind==0) (sL (Nat.zero_le _) J J J J J) h0
 replace h1:=Ql c2 h1
 refine Q5<|Q0<|rR J J J (Q7 J J J)<|rA J J J<|Q3<|Q4 ?_
 refine Qh (b:=(a0.kind==1)) J (fun c3=>?_) (fun c3=>?_)
 replace h1:=Qk c3 h1
 refine Qm ?_
 have e:=sI h1;subst e
 exact Qd (a0.kind==1) (sL (Nat.zero_le _) J J J J J) h0
 replace h1:=Ql c3 h1
 refine Q0<|rR J J J (Q7 J J J)<|rA J J J<|Q3 ?_
 have e:=sI h1;subst e
 exact Qd (a0.kind==2) (sL (Nat.zero_le _) J J J J J) h0
 intro v1 h0
 refine Q4 ?_
 refine Qh (b:=v1) J (fun c4=>?_) (fun c4=>?_)
 replace h0:=Qk c4 h0
 refine Q0<|rM J J J<|rR J J J (Q2 Ym J)<|rR J J J (Q6 JV J J J)<|Q9 J J (lb J) (Y4 (α:=Bs) (a0.name) Yc DS J J (lb J) (lb J) J J (.cons (.d _) .nil) J) ?_
 refine Yo h0 (fun g5 h0=>?_)
 refine Q9 J J (lb J) (OpOK.appendNilE (α:=Bs) Yc De J J J (.app _ _) g5)<|rA J J J<|Q3<|Qe<|Q4<|Q5<|Q0<|rM J J J<|rA J J J<|Q3<|Q4<|QD ?_
 have e:=sI h0;subst e
 exact QL (fun _ _ h=>h) J (QC J .nil) (.cons (.one (.app _ _ _)) .nil)
 replace h0:=Ql c4 h0
 refine Q5<|Q0<|rR J J J (Q7 J J J)<|rA J J J<|Q3<|Q4 ?_
 refine Qh (b:=(a0.kind==3)) J (fun c6=>?_) (fun c6=>?_)
 replace h0:=Qk c6 h0
 refine Q5<|Q0<|rM J J J<|rR J J J (Q2 Ym J)<|rR J J J (Q6 JV J J J)<|Q9 J J (lb J) (Y4 (α:=Bs) (a0.name) Yc DS J J (lb J) (lb J) J J (.cons (.d _) .nil) J) ?_
 refine Yo h0 (fun g7 h0=>?_)
 refine Q9 J J (lb J) (OpOK.appendNilE (α:=Bs) Yc De J J J (.app _ _) g7)<|rA J J J<|Q3<|Q4<|Q5<|Q5<|Q0<|rR J J J (Q2 YD J)<|rR J J J (Q6 K2 J J J)<|rR J J J (QA (α:=Ctr) YM J (.d _))<|rM J J J<|Q3<|Q4<|Qf ?_
 refine QY 1 (fun (o8:(List Bs))=>⟨[(1,.v (.one (.ptr 0 0))),(3,.v (.one (dA 2 o8)))],[(0,.cells 45 (cE a0))],[(1,some ⟨9,1,(Enc.encL ([a0.name]:List Bs)).length,[]⟩),(2,some ⟨9,1,(Enc.encL o8).length,[]⟩)],3,61,[]⟩) (fun (o8:(List Bs))=>(Jd (Nat.ble (a0.name.length+([46,114,101,99]:List UInt8).length) 1000000000)
   (Jd (Nat.ble (o8.length+([(a0.name++([46,114,101,99]:List UInt8))]).length) 1000000000)
   (some (o8++([(a0.name++([46,114,101,99]:List UInt8))])))))=some r) ?_ ?_
 refine Qb h0 (fun o9 hl1 h0=>?_)
 refine QX (Wy a0) (fun s1=>⟨[(1,.v (.one (.ptr 0 0))),(3,.v (.one (dA 2 s1.1))),(27,.v (.one (dS a0.ctors))),(28,.v (.one (dI (a0.ctors.length:Int)))),(29,.v (.one (dI s1.2)))],[(0,.cells 45 (cE a0))],[(1,some ⟨9,1,(Enc.encL ([a0.name]:List Bs)).length,[]⟩),(2,some ⟨9,1,(Enc.encL s1.1).length,[]⟩)],3,61,[]⟩) ([a0.name],0) o9 (sL (Nat.zero_le _) J J J J J) hl1 (fun s1 n1 oo1 h1 ho1=>?_)
 unfold Wy at h1
 refine Q5<|Q0<|rR J J J (Q7 J J J)<|Q3<|Q4<|Q5 ?_
 refine Qh (b:=(decide (s1.2 < (a0.ctors.length:Int)))) J (fun c10=>?_) (fun c10=>?_)
 replace h1:=Qk c10 h1
 refine Qm<|Q4<|Q5<|Qf<|Q5<|Q0 ?_
 refine Qb h1 (fun x11 hx11 h1=>?_)
 refine rR J J J (Qy (α:=Ctr) YM J (.d _) J hx11)<|rR J J J (Qv (x11:Ctr) K0 J)<|Q9 J J (lb J) (Qj UV J)<|Qx J J (Qz (x11:Ctr) K0 J J J J J)<|Q3<|Q4<|Q0<|rM J J J<|rR J J J (Q2 Gs J)<|rR J J J (Q6 JV J J J)<|Q9 J J (lb J) (Y4 (α:=Bs) (x11.name) Yc DS J J (lb J) (lb J) J J (.cons (.d _) .nil) J) ?_
 refine Yo h1 (fun g12 h1=>?_)
 refine Q9 J J (lb J) (Y5 (α:=Bs) Yc De J J J J J (.app _ _) g12)<|rA J J J<|Q3<|Qe<|Q4<|Q0<|rR J J J (Q7 J J J)<|rM J J J<|Q3 ?_
 have e:=sI h1;subst e
 refine QR ((s1.1++([x11.name])),(J9 (s1.2+1))) (sL (Nat.zero_le _) J J J J J) ho1
 replace h1:=Ql c10 h1
 refine J5<|Qo<|Qo ?_
 have e:=sI h1;subst e
 have e_:_=_:=ho1
 subst e_
 exact QW s1.1 (sL (Nat.zero_le _) J J J J J) h0
 intro o8 h0
 refine QM<|Q4<|Q0<|rM J J J<|rR J J J (Q2 Ym J)<|rR J J J (Q6 JV J J J) ?_
 refine Yo h0 (fun g13 h0=>?_)
 refine rR J J J (W4 J J g13)<|Q9 J J (lb J) (Y4 (α:=Bs) ((a0.name++([46,114,101,99]:List UInt8))) Yc DS J J (lb J) (lb J) J J (.cons (.d _) .nil) J) ?_
 refine Yo h0 (fun g14 h0=>?_)
 refine Q9 J J (lb J) (Y5 (α:=Bs) Yc De J J J J J (.app _ _) g14)<|rA J J J<|Q3<|Qe<|Q4<|Q5<|Q0<|rM J J J<|rA J J J<|Q3<|Q4<|QD ?_
 have e:=sI h0;subst e
 exact QL (fun _ _ h=>h) J (QC J .nil) (.cons (.one (.app _ _ _)) .nil)
 replace h0:=Ql c6 h0
 refine Q5<|Q0<|rR J J J (Q7 J J J)<|rA J J J<|Q3<|Q4 ?_
 refine Qh (b:=(a0.kind==4)) J (fun c15=>?_) (fun c15=>?_)
 replace h0:=Qk c15 h0
 refine Q5<|Q0<|rR J J J (Q2 YC J)<|rR J J J (Q6 K1 J J J)<|rR J J J (QA (α:=Fn) YL J (.d _))<|rM J J J<|Q3<|Q4<|Qf ?_
 refine QY 3 (fun (o16:(List Bs))=>⟨[(3,.v (.one (dA 1 o16)))],[(0,.cells 45 (cE a0))],[(1,some ⟨9,1,(Enc.encL o16).length,[]⟩)],2,61,[]⟩) (fun (o16:(List Bs))=>(some o16)=some r) ?_ ?_
 refine XC.adoptT (t:=3) 9 1 J ?_
 refine Qb h0 (fun o17 hl1 h0=>?_)
 refine QX (Wx a0) (fun s1=>⟨[(3,.v (.one (dA 1 s1.1))),(48,.v (.one (dS a0.funs))),(49,.v (.one (dI (a0.funs.length:Int)))),(50,.v (.one (dI s1.2)))],[(0,.cells 45 (cE a0))],[(1,some ⟨9,1,(Enc.encL s1.1).length,[]⟩)],2,61,[]⟩) (([]:List Bs),0) o17 (sL (Nat.zero_le _) J J J J J) hl1 (fun s1 n1 oo1 h1 ho1=>?_)
 unfold Wx at h1
 refine Q5<|Q0<|rR J J J (Q7 J J J)<|Q3<|Q4<|Q5 ?_
 refine Qh (b:=(decide (s1.2 < (a0.funs.length:Int)))) J (fun c18=>?_) (fun c18=>?_)
 replace h1:=Qk c18 h1
 refine Qm<|Q4<|Q5<|Qf<|Q5<|Q0 ?_
 refine Qb h1 (fun x19 hx19 h1=>?_)
 refine rR J J J (Qy (α:=Fn) YL J (.d _) J hx19)<|rR J J J (Qv (x19:Fn) ZF J)<|Q9 J J (lb J) (Qj UU J)<|Qx J J (Qz (x19:Fn) ZF J J J J J)<|Q3<|Q4<|Q0<|rM J J J<|rR J J J (Q2 W0 J)<|rR J J J (Q6 JV J J J)<|Q9 J J (lb J) (Y4 (α:=Bs) (x19.name) Yc DS J J (lb J) (lb J) J J (.cons (.d _) .nil) J) ?_
 refine Yo h1 (fun g20 h1=>?_)
 refine Q9 J J (lb J) (Y5 (α:=Bs) Yc De J J J J J (.app _ _) g20)<|rA J J J<|Q3<|Qe<|Q4<|Q0<|rR J J J (Q7 J J J)<|rM J J J<|Q3 ?_
 have e:=sI h1;subst e
 refine QR ((s1.1++([x19.name])),(J9 (s1.2+1))) (sL (Nat.zero_le _) J J J J J) ho1
 replace h1:=Ql c18 h1
 refine J5<|Qo<|Qo ?_
 have e:=sI h1;subst e
 have e_:_=_:=ho1
 subst e_
 exact QW s1.1 (sL (Nat.zero_le _) J J J J J) h0
 intro o16 h0
 refine QM<|Qe<|Q4<|Q5<|Q0<|rM J J J<|rA J J J<|Q3<|Q4<|QD ?_
 have e:=sI h0;subst e
 exact QL (fun _ _ h=>h) J (QC J .nil) (.cons (.one (.app _ _ _)) .nil)
 replace h0:=Ql c15 h0
 refine Qm<|Qe<|Q4<|Q5<|Q0<|rM J J J<|rA J J J<|Q3<|Q4<|QD ?_
 have e:=sI h0;subst e
 exact QL (fun _ _ h=>h) J (QC J .nil) (.cons (.one (.nil _)) .nil)
def m68 (a0:Dcl) (a1:Int):Option Int :=
 Option.bind (JC a0.ctors a1) fun (x1:Ctr) =>
 Option.bind (m64 x1.ty) fun (x2:(List Tm)×Tm) =>
 some (max 0 (J9 ((x2.1.length:Int) - a0.fixed)))
theorem m68_ok (a0:Dcl) (a1:Int) (r:Int) (h0:m68 a0 a1=some r):Fun Try.prog 68 [.agg (cE a0),.one (dI a1)] (QK [.one (dI r)]):=by
 unfold m68 at h0
 refine QZ 9 23 Try.func68 J en_68 J (lb J) (fun S w=>?_)
 simp only [Ja]
 refine Q5<|Q0<|Q9 J J (lb J) (QT J)<|rA J J J<|Q3<|Q4<|Q5<|Q0<|rR J J J (Q2 YD J)<|rR J J J (Q6 K2 J J J)<|rM J J J ?_
 refine Qb h0 (fun x1 hx1 h0=>?_)
 refine rR J J J (Qy (α:=Ctr) YM J (.d _) J hx1)<|rR J J J (YI KE J)<|rR J J J (Z3 QV J J J) ?_
 refine Qb h0 (fun x2 hx2 h0=>?_)
 refine Q9 J J (lb J) (Qq (m64_ok x1.ty x2 hx2) J (.cons (.agg (.cons (.d _) (.cons (.d _) (.cons (.d _) (.cons (.d _) (.cons (.d _) .nil)))))) .nil))<|rM J J J<|rR J J J (J8 J J)<|rR J J J (J8 J J)<|Q9 J J (lb J) (Qj K4 J)<|rA J J J<|Qx J J (Qz (x2.2:Tm) QV J J J J J)<|Q3<|Q4<|Q5<|Q0<|rM J J J<|rR J J J (QA (α:=Tm) Jl J (.d _))<|rR J J J (Q2 fo_45_5 J) ?_
 refine rR J J J (Q6 QU J J J)<|rR J J J (Q7 J J J)<|rR J J J (Xe J J)<|rA J J J<|Q3<|Q4<|QD ?_
 have e:=sI h0;subst e
 exact QL (fun _ _ h=>h) J (QC J .nil) (.cons (.one (.d _)) .nil)
end Go.Proofs.Ytafddfoefeploaa
namespace Go.Proofs.Ytafddfoefeploaa
open Go.RowKit Go.Shelf
theorem Gt:J1 Try.prog 42 1=some 1:=by kernel_rfl
theorem KG:J1 Try.prog 42 2=some 6:=by kernel_rfl
theorem KF:J1 Try.prog 45 3=some 3:=by kernel_rfl
theorem fo_45_4:J1 Try.prog 45 4=some 8:=by kernel_rfl
theorem JT:J1 Try.prog 45 7=some 15:=by kernel_rfl
theorem fo_74_0:J1 Try.prog 74 0=some 0:=by kernel_rfl
theorem WS:J1 Try.prog 74 1=some 1:=by kernel_rfl
theorem KD:J1 Try.prog 74 3=some 7:=by kernel_rfl
theorem Xc:J1 Try.prog 76 1=some 1:=by kernel_rfl
theorem fo_76_3:J1 Try.prog 76 3=some 7:=by kernel_rfl
theorem fo_101_0:J1 Try.prog 101 0=some 0:=by kernel_rfl
theorem fo_101_1:J1 Try.prog 101 1=some 1:=by kernel_rfl
theorem fo_101_2:J1 Try.prog 101 2=some 2:=by kernel_rfl
theorem DR:Jw Try.prog 4=some (false,1):=by kernel_rfl
theorem JX:Jw Try.prog 45=some (true,23):=by kernel_rfl
theorem WZ:Jw Try.prog 72=some (false,1):=by kernel_rfl
theorem Up:Jw Try.prog 74=some (true,8):=by kernel_rfl
theorem ag_101:Jw Try.prog 101=some (true,10):=by kernel_rfl
theorem ag_103:Jw Try.prog 103=some (false,1):=by kernel_rfl
theorem Xn:Jp Try.prog 72=some (101,10):=by kernel_rfl
theorem z_31:JD Try.prog 31=some [.slice none 0 0]:=by kernel_rfl
theorem z_101:JD Try.prog 101=some [.string ByteArray.empty,.bool false,.int .i64 0,.int .i64 0,.int .i64 0,.string ByteArray.empty,.slice none 0 0,.slice none 0 0,.int .i64 0,.slice none 0 0]:=by kernel_rfl
theorem en_24:J4 Try.prog 24:=enters_of Try.func24 (by kernel_rfl) rfl
theorem en_39:J4 Try.prog 39:=enters_of Try.func39 (by kernel_rfl) rfl
theorem en_57:J4 Try.prog 57:=enters_of Try.func57 (by kernel_rfl) rfl
theorem en_59:J4 Try.prog 59:=enters_of Try.func59 (by kernel_rfl) rfl
theorem en_75:J4 Try.prog 75:=enters_of Try.func75 (by kernel_rfl) rfl
theorem en_76:J4 Try.prog 76:=enters_of Try.func76 (by kernel_rfl) rfl
theorem en_92:J4 Try.prog 92:=enters_of Try.func92 (by kernel_rfl) rfl
noncomputable def Za:Code:=(cA (cA (cB (cA (cB (cB (cB (cB (Kx Try.f24)))))))))
noncomputable def Z9:Code:=(cB (cA (cB (cA (cB (cB (cB (cB (Kx Try.f24)))))))))
noncomputable abbrev m76f16_h0 :HB :=
 .loop .ready none [(3,.v (.one (.ptr 3 0))),(6,.v (.one (.ptr 5 0))),(20,.v (.one (.fn 57 [(7,0),(9,0)])))] 33 #[21] Za Z9 2
noncomputable abbrev m76f16_h1 (p0_:Qa Bs Bool) (p1_:List Bs) (p2_:List Tm) (p3_:Dcl):List (Nat×HB) :=
 [(0,.cells 103 [.yld 1]),(1,m76f16_h0),(2,.obj (.deferred (some []))),(3,.cells 80 [.mp 4]),(4,.mp (QO p0_.1) p0_.2),(5,.cells 51 [dA 6 p1_]),(7,.cells 31 [dA 8 p2_]),(9,.cells 45 (cE p3_))]
noncomputable abbrev m76f16_h2 :HB :=
 .loop .busy none [(3,.v (.one (.ptr 3 0))),(6,.v (.one (.ptr 5 0))),(20,.v (.one (.fn 57 [(7,0),(9,0)])))] 33 #[21] Za Z9 2
noncomputable abbrev m76f16_h3 (p0_:Qa Bs Bool) (p1_:List Bs) (p2_:List Tm) (p3_:Dcl):List (Nat×HB) :=
 [(0,.cells 103 [.yld 1]),(1,m76f16_h2),(2,.obj (.deferred (some []))),(3,.cells 80 [.mp 4]),(4,.mp (QO p0_.1) p0_.2),(5,.cells 51 [dA 6 p1_]),(7,.cells 31 [dA 8 p2_]),(9,.cells 45 (cE p3_))]
noncomputable abbrev m76f16_h4 (p0_:(Qa Bs Bool)×(List Bs)) (p1_:List Tm) (p2_:Dcl):List (Nat×HB) :=
 [(0,.cells 103 [.yld 1]),(1,m76f16_h2),(2,.obj (.deferred (some []))),(3,.cells 80 [.mp 4]),(4,.mp (QO p0_.1.1) p0_.1.2),(5,.cells 51 [dA 6 p0_.2]),(7,.cells 31 [dA 8 p1_]),(9,.cells 45 (cE p2_))]
noncomputable abbrev m76f16_h5 (p0_:((Qa Bs Bool)×(List Bs))) (p1_:List Tm) (p2_:Dcl):List (Nat×HB) :=
 [(0,.cells 103 [.yld 1]),(1,m76f16_h0),(2,.obj (.deferred (some []))),(3,.cells 80 [.mp 4]),(4,.mp (QO p0_.1.1) p0_.1.2),(5,.cells 51 [dA 6 p0_.2]),(7,.cells 31 [dA 8 p1_]),(9,.cells 45 (cE p2_))]
def m76f16 (a0:Bs) (a1:Qa Bs Bool) (a2:List Bs) (a3:List Tm) (a4:Dcl):Option (((Qa Bs Bool)×(List Bs))) :=
 Option.bind (cond (!(Qn a1 a0))
   (Jd (Nat.ble (a2.length+([a0]).length) 1000000000)
 (some ((J2 a1 a0 true),(a2++([a0])))))
   (some (a1,a2))) (fun (y1:(Qa Bs Bool)×(List Bs))=>some (y1.1,y1.2))
theorem m76f16_ok (a0:Bs) (a1:Qa Bs Bool) (a2:List Bs) (a3:List Tm) (a4:Dcl) (r:((Qa Bs Bool)×(List Bs))) (h0:m76f16 a0 a1 a2 a3 a4=some r):CallM Try.prog 76 [.one (Jn a0),.one (.ptr 0 0)] ⟨m76f16_h1 a1 a2 a3 a4,[(6,some ⟨9,1,(Enc.encL a2).length,[]⟩),(8,some ⟨33,5,(Enc.encL a3).length,[]⟩)],10⟩ (QK [.one (dB false)]) ⟨m76f16_h5 r a3 a4,[(6,some ⟨9,1,(Enc.encL r.2).length,[]⟩),(8,some ⟨33,5,(Enc.encL a3).length,[]⟩)],10⟩:=by
 unfold m76f16 at h0
 refine J0 ⟨[(3,.v (.one (dB false)))],m76f16_h5 r a3 a4,[(6,some ⟨9,1,(Enc.encL r.2).length,[]⟩),(8,some ⟨33,5,(Enc.encL a3).length,[]⟩)],10,8,[]⟩ J J en_76 (lb J) J (QC J .nil) (fun w0 M V0 Q hv0 hQ0=>?_)
 simp only [Ja]
 refine Q5<|Q0<|rA J J J<|Q3<|Q4<|Q5<|Q0<|rR J J J (Q6 ag_103 J J J)<|rM J J J ?_
 refine Qb h0 (fun y1 h1 h0=>?_)
 have ha2:ExecOK Try.prog (some 1) Za ⟨[(3,.v (.one (.ptr 3 0))),(6,.v (.one (.ptr 5 0))),(20,.v (.one (.fn 57 [(7,0),(9,0)]))),(21,.v (.one (Jn a0)))],m76f16_h1 a1 a2 a3 a4,[(6,some ⟨9,1,(Enc.encL a2).length,[]⟩),(8,some ⟨33,5,(Enc.encL a3).length,[]⟩)],10,33,[]⟩ .normal ⟨[(3,.v (.one (.ptr 3 0))),(6,.v (.one (.ptr 5 0))),(7,.v (.one (Jn a0)))],m76f16_h1 a1 a2 a3 a4,[(6,some ⟨9,1,(Enc.encL a2).length,[]⟩),(8,some ⟨33,5,(Enc.encL a3).length,[]⟩)],10,33,[]⟩:=by
  refine QI (fun w0 M V0 ro n Q hv1 hro1 hQn1=>?_)
  refine Q0<|rA J J J<|Q3 ?_
  exact Jq hQn1 (Qu (tA J) (hA J) (kA J) J (Nat.le_trans hv1 (lb J)) J J J (bB J J (bB J J (bB J J (bB J J (bG J (bA J)))))) J J)
 have hb3:ExecOK Try.prog (some 1) Z9 ⟨[(3,.v (.one (.ptr 3 0))),(6,.v (.one (.ptr 5 0))),(7,.v (.one (Jn a0)))],m76f16_h3 a1 a2 a3 a4,[(6,some ⟨9,1,(Enc.encL a2).length,[]⟩),(8,some ⟨33,5,(Enc.encL a3).length,[]⟩)],10,33,[]⟩ .normal ⟨[],m76f16_h4 y1 a3 a4,[(6,some ⟨9,1,(Enc.encL y1.2).length,[]⟩),(8,some ⟨33,5,(Enc.encL a3).length,[]⟩)],10,33,[]⟩:=by
  refine QI (fun w0 M V0 ro n Q hv1 hro1 hQn1=>?_)
  refine Qf<|Q5<|Q0<|rR J J J (Q6 XT J J J)<|rM J J J<|rR J J J (YT (M:=a1) (k:=a0) Xp Xk J J J)<|rR J J J (Ji J)<|Q3<|Q4 ?_
  refine Qh (b:=(!(Qn a1 a0))) J (fun c4=>?_) (fun c4=>?_)
  replace h1:=Qk c4 h1
  refine Q5<|Q0<|rR J J J (Q6 XT J J J)<|rM J J J<|Qx J J (Jh (M:=a1) (k:=a0) (v:=true) Xp J J J J J)<|Q3<|Q4<|Q0<|rR J J J (Q6 Wb J J J)<|rM J J J<|Q9 J J (lb J) (Y4 (α:=Bs) (a0) Yc DS J J (lb J) (lb J) J J (.cons (.d _) .nil) J) ?_
  refine Yo h1 (fun g5 h1=>?_)
  refine Q9 J J (lb J) (Y5 (α:=Bs) Yc De J J J J J (.app _ _) g5)<|Qx J J (Qt Wb J J J J (lb J) J)<|Q3<|Qe ?_
  have e:=sI h1;subst e
  exact Jq hQn1 (Qu tZ (hA J) (kA J) J (Nat.le_trans hv1 (lb J)) J J J (bB J J (bB J J (bB J J (bB J J (bG J (bA J)))))) J J)
  replace h1:=Ql c4 h1
  refine Qm<|Qe ?_
  have e:=sI h1;subst e
  exact Jq hQn1 (Qu tZ (hA J) (kA J) J (Nat.le_trans hv1 (lb J)) J J J (bB J J (bB J J (bB J J (bB J J (bG J (bA J)))))) J J)
 refine Q9 J J (lb J) (Je (jump:=none) J J J J J (Qw ha2 (fun E hv=>(Qu (tA J) (hA J) (kA J) J (Nat.le_trans hv (lb J)) J J J (bB J J (bB J J (bB J J (bB J J (bG J (bA J)))))) J J))) J (Qw hb3 (fun E hv=>(Qu (tA J) (hA J) (kA J) J (Nat.le_trans hv (lb J)) J J J (bB J J (bB J J (bB J J (bB J J (bG J (bA J)))))) J J))) J J) ?_
 refine rR J J J (Ji J)<|rA J J J<|Q3<|Q4<|QD ?_
 have e:=sI h0;subst e
 exact hQ0 _ _ _ (.inr J) J (Qu (tA J) (hA J) (kA J) J (Nat.le_trans hv0 (lb J)) J J J (bB J J (bB J J (bB J J (bB J J (bG J (bA J)))))) J J)
def KJ (a0:List Bs) (a3:List Tm) (a4:Dcl) (s1:Int×(Qa Bs Bool)×(List Bs)):Option (LO (Int×(Qa Bs Bool)×(List Bs)) (((Qa Bs Bool)×(List Bs)))) :=
 cond (decide (s1.1 < (a0.length:Int)))
   (Option.bind (JC a0 s1.1) fun (x3:Bs) =>
 Option.bind (m76f16 x3 s1.2.1 s1.2.2 a3 a4) fun (x4:((Qa Bs Bool)×(List Bs))) =>
 some (.next ((J9 (s1.1+1)),x4.1,x4.2)))
   (some (.done (s1.2.1,s1.2.2)))
noncomputable abbrev m92f15_h0 :HB :=
 .loop .ready none [(3,.v (.one (.ptr 3 0))),(6,.v (.one (.ptr 5 0))),(20,.v (.one (.fn 57 [(7,0),(9,0)])))] 33 #[21] Za Z9 2
noncomputable abbrev m92f15_h1 (p0_:Qa Bs Bool) (p1_:List Bs) (p2_:List Tm) (p3_:Dcl):List (Nat×HB) :=
 [(0,.cells 103 [.yld 1]),(1,m92f15_h0),(2,.obj (.deferred (some []))),(3,.cells 80 [.mp 4]),(4,.mp (QO p0_.1) p0_.2),(5,.cells 51 [dA 6 p1_]),(7,.cells 31 [dA 8 p2_]),(9,.cells 45 (cE p3_))]
noncomputable abbrev m92f15_h2 (p0_:((Qa Bs Bool)×(List Bs))) (p1_:List Tm) (p2_:Dcl):List (Nat×HB) :=
 [(0,.cells 103 [.yld 1]),(1,m92f15_h0),(2,.obj (.deferred (some []))),(3,.cells 80 [.mp 4]),(4,.mp (QO p0_.1.1) p0_.1.2),(5,.cells 51 [dA 6 p0_.2]),(7,.cells 31 [dA 8 p1_]),(9,.cells 45 (cE p2_))]
def Ux (a0:List Bs) (a1:Qa Bs Bool) (a2:List Bs) (a3:List Tm) (a4:Dcl):Option (((Qa Bs Bool)×(List Bs))) :=
 Option.bind (Qp (KJ a0 a3 a4) QF (0,a1,a2)) (fun (o1:(Qa Bs Bool)×(List Bs))=>some (o1.1,o1.2))
theorem m92f15_ok (a0:List Bs) (a1:Qa Bs Bool) (a2:List Bs) (a3:List Tm) (a4:Dcl) (r:((Qa Bs Bool)×(List Bs))) (h0:Ux a0 a1 a2 a3 a4=some r):CallM Try.prog 92 [.one (dS a0),.one (.fn 76 [(0,0)])] ⟨m92f15_h1 a1 a2 a3 a4,[(6,some ⟨9,1,(Enc.encL a2).length,[]⟩),(8,some ⟨33,5,(Enc.encL a3).length,[]⟩)],10⟩ (QK [.one (dI (-1))]) ⟨m92f15_h2 r a3 a4,[(6,some ⟨9,1,(Enc.encL r.2).length,[]⟩),(8,some ⟨33,5,(Enc.encL a3).length,[]⟩)],10⟩:=by
 unfold Ux at h0
 refine J0 ⟨[(4,.v (.one (dI (-1))))],m92f15_h2 r a3 a4,[(6,some ⟨9,1,(Enc.encL r.2).length,[]⟩),(8,some ⟨33,5,(Enc.encL a3).length,[]⟩)],10,19,[]⟩ J J en_92 (lb J) J (QC J .nil) (fun w0 M V0 Q hv0 hQ0=>?_)
 simp only [Ja]
 refine Q5<|Q0<|rA J J J<|Q3<|Q4<|Q5<|Q5<|Q0<|rM J J J<|rR J J J (QA (α:=Bs) Yc J (.d _))<|rM J J J<|Q3<|Q4<|Qf ?_
 refine QY 0 (fun (o1:(Qa Bs Bool)×(List Bs))=>⟨[],[(0,.cells 103 [.yld 1]),(1,m92f15_h0),(2,.obj (.deferred (some []))),(3,.cells 80 [.mp 4]),(4,.mp (QO o1.1.1) o1.1.2),(5,.cells 51 [dA 6 o1.2]),(7,.cells 31 [dA 8 a3]),(9,.cells 45 (cE a4))],[(6,some ⟨9,1,(Enc.encL o1.2).length,[]⟩),(8,some ⟨33,5,(Enc.encL a3).length,[]⟩)],10,19,[]⟩) (fun (o1:(Qa Bs Bool)×(List Bs))=>(some (o1.1,o1.2))=some r) ?_ ?_
 refine Qb h0 (fun o2 hl1 h0=>?_)
 refine QX (KJ a0 a3 a4) (fun s1=>⟨[(0,.v (.one (dS a0))),(1,.v (.one (.fn 76 [(0,0)]))),(7,.v (.one (dI (a0.length:Int)))),(8,.v (.one (dI s1.1)))],[(0,.cells 103 [.yld 1]),(1,m92f15_h0),(2,.obj (.deferred (some []))),(3,.cells 80 [.mp 4]),(4,.mp (QO s1.2.1.1) s1.2.1.2),(5,.cells 51 [dA 6 s1.2.2]),(7,.cells 31 [dA 8 a3]),(9,.cells 45 (cE a4))],[(6,some ⟨9,1,(Enc.encL s1.2.2).length,[]⟩),(8,some ⟨33,5,(Enc.encL a3).length,[]⟩)],10,19,[]⟩) (0,a1,a2) o2 (Qu (tA J) (hA J) (kA J) J (Nat.le_trans hv0 (lb J)) J J J (bB J J (bB J J (bB J J (bB J J (bG J (bA J)))))) J J) hl1 (fun s1 n1 oo1 h1 ho1=>?_)
 unfold KJ at h1
 refine Q5<|Q0<|rR J J J (Q7 J J J)<|Q3<|Q4<|Q5 ?_
 refine Qh (b:=(decide (s1.1 < (a0.length:Int)))) J (fun c3=>?_) (fun c3=>?_)
 replace h1:=Qk c3 h1
 refine Qm<|Q4<|Q5<|Qf<|Q5<|Q0<|rM J J J<|rA J J J<|Q3<|Q4<|Q5<|Q0<|rM J J J<|rM J J J ?_
 refine rM J J J ?_
 refine Qb h1 (fun x4 hx4 h1=>?_)
 refine rR J J J (Qy (α:=Bs) Yc J (.d _) J hx4)<|rR J J J (JQ JV J J) ?_
 refine Qb h1 (fun x5 hx5 h1=>?_)
 refine Q9 J J (lb J) (Jj (hp1':=[(0,.cells 103 [.yld 1]),(1,.loop .ready none [(3,.v (.one (.ptr 3 0))),(6,.v (.one (.ptr 5 0))),(20,.v (.one (.fn 57 [(7,0),(9,0)])))] 33 #[21] Za Z9 2),(2,.obj (.deferred (some []))),(3,.cells 80 [.mp 4]),(4,.mp (QO x5.1.1) x5.1.2),(5,.cells 51 [dA 6 x5.2]),(7,.cells 31 [dA 8 a3]),(9,.cells 45 (cE a4))]) (tk1':=[(6,some ⟨9,1,(Enc.encL x5.2).length,[]⟩),(8,some ⟨33,5,(Enc.encL a3).length,[]⟩)]) (hpF:=[]) (tkF:=[]) (res2:=QK [.one (dB false)]) (nx2:=10) [0,1,2,3,4,5,6,7,8,9] J J (m76f16_ok x4 s1.2.1 s1.2.2 a3 a4 x5 hx5) J J (qB J J (qB J J (qB J J (qB J J (qG J (qB J J (qB J J (qB J J qZ)))))))) J J (gR J (gR J (gR J (gR J (gG J (gR J (gR J (gR J gZ)))))))) (jR J (jR J jZ)) hZ kZ J J J J J (bB J J (bB J J (bB J J (bB J J (bG J (bA J)))))) J J J J)<|Q3<|Q4 ?_
 refine Qh J (fun h=>nomatch h) (fun _=>?_)
 refine Qm<|Qe<|Q4<|Q0<|rR J J J (Q7 J J J)<|rM J J J<|Q3 ?_
 have e:=sI h1;subst e
 refine QR ((J9 (s1.1+1)),x5.1,x5.2) (Qu (tA J) (hA J) (kA J) J (Nat.le_trans hv0 (lb J)) J J J (bB J J (bB J J (bB J J (bB J J (bG J (bA J)))))) J J) ho1
 replace h1:=Ql c3 h1
 refine J5<|Qo<|Qo ?_
 have e:=sI h1;subst e
 have e_:_=_:=ho1
 subst e_
 exact QW (s1.2.1,s1.2.2) (Qu tZ (hA J) (kA J) J (Nat.le_trans hv0 (lb J)) J J J (bB J J (bB J J (bB J J (bB J J (bG J (bA J)))))) J J) h0
 intro o1 h0
 refine QM<|Q4<|Q5<|Q0<|rA J J J<|Q3<|Q4<|QD ?_
 have e:=sI h0;subst e
 exact hQ0 _ _ _ (.inr J) J (Qu (tA J) (hA J) (kA J) J (Nat.le_trans hv0 (lb J)) J J J (bB J J (bB J J (bB J J (bB J J (bG J (bA J)))))) J J)
noncomputable abbrev m75f14_h0 :HB :=
 .loop .ready none [(3,.v (.one (.ptr 3 0))),(6,.v (.one (.ptr 5 0))),(20,.v (.one (.fn 57 [(7,0),(9,0)])))] 33 #[21] Za Z9 2
noncomputable abbrev m75f14_h1 (p0_:Qa Bs Bool) (p1_:List Bs) (p2_:List Tm) (p3_:Dcl):List (Nat×HB) :=
 [(0,.cells 103 [.yld 1]),(1,m75f14_h0),(2,.obj (.deferred (some []))),(3,.cells 80 [.mp 4]),(4,.mp (QO p0_.1) p0_.2),(5,.cells 51 [dA 6 p1_]),(7,.cells 31 [dA 8 p2_]),(9,.cells 45 (cE p3_))]
noncomputable abbrev m75f14_h2 (p0_:((Qa Bs Bool)×(List Bs))) (p1_:List Tm) (p2_:Dcl):List (Nat×HB) :=
 [(0,.cells 103 [.yld 1]),(1,m75f14_h0),(2,.obj (.deferred (some []))),(3,.cells 80 [.mp 4]),(4,.mp (QO p0_.1.1) p0_.1.2),(5,.cells 51 [dA 6 p0_.2]),(7,.cells 31 [dA 8 p1_]),(9,.cells 45 (cE p2_))]
def m75f14 (a0:List Bs) (a1:Qa Bs Bool) (a2:List Bs) (a3:List Tm) (a4:Dcl):Option (((Qa Bs Bool)×(List Bs))) :=
 Option.bind (Ux a0 a1 a2 a3 a4) fun (x1:((Qa Bs Bool)×(List Bs))) =>
 some (x1.1,x1.2)
theorem m75f14_ok (a0:List Bs) (a1:Qa Bs Bool) (a2:List Bs) (a3:List Tm) (a4:Dcl) (r:((Qa Bs Bool)×(List Bs))) (h0:m75f14 a0 a1 a2 a3 a4=some r):CallM Try.prog 75 [.one (dS a0),.one (.fn 76 [(0,0)])] ⟨m75f14_h1 a1 a2 a3 a4,[(6,some ⟨9,1,(Enc.encL a2).length,[]⟩),(8,some ⟨33,5,(Enc.encL a3).length,[]⟩)],10⟩ (QK [.one (dB false)]) ⟨m75f14_h2 r a3 a4,[(6,some ⟨9,1,(Enc.encL r.2).length,[]⟩),(8,some ⟨33,5,(Enc.encL a3).length,[]⟩)],10⟩:=by
 unfold m75f14 at h0
 refine J0 ⟨[(4,.v (.one (dB false)))],m75f14_h2 r a3 a4,[(6,some ⟨9,1,(Enc.encL r.2).length,[]⟩),(8,some ⟨33,5,(Enc.encL a3).length,[]⟩)],10,9,[]⟩ J J en_75 (lb J) J (QC J .nil) (fun w0 M V0 Q hv0 hQ0=>?_)
 simp only [Ja]
 refine Q5<|Q0<|rA J J J<|Q3<|Q4<|Q5<|Q0<|rM J J J<|rM J J J ?_
 refine Qb h0 (fun x1 hx1 h0=>?_)
 refine Q9 J J (lb J) (Jj (hp1':=[(0,.cells 103 [.yld 1]),(1,.loop .ready none [(3,.v (.one (.ptr 3 0))),(6,.v (.one (.ptr 5 0))),(20,.v (.one (.fn 57 [(7,0),(9,0)])))] 33 #[21] Za Z9 2),(2,.obj (.deferred (some []))),(3,.cells 80 [.mp 4]),(4,.mp (QO x1.1.1) x1.1.2),(5,.cells 51 [dA 6 x1.2]),(7,.cells 31 [dA 8 a3]),(9,.cells 45 (cE a4))]) (tk1':=[(6,some ⟨9,1,(Enc.encL x1.2).length,[]⟩),(8,some ⟨33,5,(Enc.encL a3).length,[]⟩)]) (hpF:=[]) (tkF:=[]) (res2:=QK [.one (dI (-1))]) (nx2:=10) [0,1,2,3,4,5,6,7,8,9] J J (m92f15_ok a0 a1 a2 a3 a4 x1 hx1) J J (qB J J (qB J J (qB J J (qB J J (qG J (qB J J (qB J J (qB J J qZ)))))))) J J (gR J (gR J (gR J (gR J (gG J (gR J (gR J (gR J gZ)))))))) (jR J (jR J jZ)) hZ kZ J J J J J (bB J J (bB J J (bB J J (bB J J (bG J (bA J)))))) J J J J)<|rR J J J (Q7 J J J)<|rA J J J<|Q3<|Q4<|QD ?_
 have e:=sI h0;subst e
 exact hQ0 _ _ _ (.inr J) J (Qu (tA J) (hA J) (kA J) J (Nat.le_trans hv0 (lb J)) J J J (bB J J (bB J J (bB J J (bB J J (bG J (bA J)))))) J J)
def K9 (a0:Tr) (rc:Tr×(Qa Bs Bool)×(List Bs)×(List Tm)×Dcl→Option ((Bool×(Qa Bs Bool)×(List Bs)))) (a3:List Tm) (a4:Dcl) (s1:Int×(Qa Bs Bool)×(List Bs)):Option (LO (Int×(Qa Bs Bool)×(List Bs)) (((Qa Bs Bool)×(List Bs))⊕((Bool×(Qa Bs Bool)×(List Bs))))) :=
 cond (decide (s1.1 < (a0.branches.length:Int)))
   (Option.bind (JC a0.branches s1.1) fun (x6:Br) =>
 Option.bind (Option.bind (cond (!(Qn s1.2.1 x6.ctor))
   (Jd (Nat.ble (s1.2.2.length+([x6.ctor]).length) 1000000000)
 (some ((J2 s1.2.1 x6.ctor true),(s1.2.2++([x6.ctor])))))
   (some (s1.2.1,s1.2.2))) (fun (y8:(Qa Bs Bool)×(List Bs))=>cond (!x6.absurd)
   (Option.bind (rc (x6.tree,y8.1,y8.2,a3,a4)) fun (x14:(Bool×(Qa Bs Bool)×(List Bs))) =>
 some (true,(!x14.1),(!x14.1),x14.2.1,x14.2.2))
   (some (false,false,false,y8.1,y8.2)))) (fun (v7:Bool×Bool×Bool×(Qa Bs Bool)×(List Bs))=>cond v7.2.2.1
   (some (.done (.inr (false,v7.2.2.2.1,v7.2.2.2.2))))
   (some (.next ((J9 (s1.1+1)),v7.2.2.2.1,v7.2.2.2.2)))))
   (some (.done (.inl (s1.2.1,s1.2.2))))
noncomputable abbrev KM :HB :=
 .loop .ready none [(3,.v (.one (.ptr 2 0))),(6,.v (.one (.ptr 4 0))),(20,.v (.one (.fn 57 [(6,0),(8,0)])))] 33 #[21] Za Z9 1
noncomputable abbrev m59f13_h1 (p0_:Int×(Qa Bs Bool)×(List Bs)) (p1_:List Tm) (p2_:Dcl) (p3_:Tr) (p4_:Br):List (Nat×HB) :=
 [(0,KM),(1,.obj (.deferred (some []))),(2,.cells 80 [.mp 3]),(3,.mp (QO p0_.2.1.1) p0_.2.1.2),(4,.cells 51 [dA 5 p0_.2.2]),(6,.cells 31 [dA 7 p1_]),(8,.cells 45 (cE p2_)),(9,.cells 74 (cE p3_)),(10,.cells 103 [.yld 0]),(11,.cells 101 (cE p4_))]
noncomputable abbrev m59f13_h2 :HB :=
 .loop .busy none [(3,.v (.one (.ptr 2 0))),(6,.v (.one (.ptr 4 0))),(20,.v (.one (.fn 57 [(6,0),(8,0)])))] 33 #[21] Za Z9 1
noncomputable abbrev m59f13_h3 (p0_:Int×(Qa Bs Bool)×(List Bs)) (p1_:List Tm) (p2_:Dcl) (p3_:Tr) (p4_:Br):List (Nat×HB) :=
 [(0,m59f13_h2),(1,.obj (.deferred (some []))),(2,.cells 80 [.mp 3]),(3,.mp (QO p0_.2.1.1) p0_.2.1.2),(4,.cells 51 [dA 5 p0_.2.2]),(6,.cells 31 [dA 7 p1_]),(8,.cells 45 (cE p2_)),(9,.cells 74 (cE p3_)),(10,.cells 103 [.yld 0]),(11,.cells 101 (cE p4_))]
noncomputable abbrev m59f13_h4 (p0_:(Qa Bs Bool)×(List Bs)) (p1_:List Tm) (p2_:Dcl) (p3_:Tr) (p4_:Br):List (Nat×HB) :=
 [(0,m59f13_h2),(1,.obj (.deferred (some []))),(2,.cells 80 [.mp 3]),(3,.mp (QO p0_.1.1) p0_.1.2),(4,.cells 51 [dA 5 p0_.2]),(6,.cells 31 [dA 7 p1_]),(8,.cells 45 (cE p2_)),(9,.cells 74 (cE p3_)),(10,.cells 103 [.yld 0]),(11,.cells 101 (cE p4_))]
noncomputable abbrev m59f13_h5 (p0_:Tr) (p1_:Br):List (Nat×HB) :=
 [(9,.cells 74 (cE p0_)),(10,.cells 103 [.yld 0]),(11,.cells 101 (cE p1_))]
noncomputable abbrev GJ (p0_:Qa Bs Bool) (p1_:List Bs) (p2_:List Tm) (p3_:Dcl):List (Nat×HB) :=
 [(0,KM),(1,.obj (.deferred (some []))),(2,.cells 80 [.mp 3]),(3,.mp (QO p0_.1) p0_.2),(4,.cells 51 [dA 5 p1_]),(6,.cells 31 [dA 7 p2_]),(8,.cells 45 (cE p3_))]
noncomputable abbrev KL (p0_:(Bool×(Qa Bs Bool)×(List Bs))) (p1_:List Tm) (p2_:Dcl):List (Nat×HB) :=
 [(0,KM),(1,.obj (.deferred (some []))),(2,.cells 80 [.mp 3]),(3,.mp (QO p0_.2.1.1) p0_.2.1.2),(4,.cells 51 [dA 5 p0_.2.2]),(6,.cells 31 [dA 7 p1_]),(8,.cells 45 (cE p2_))]
def WK (rc:Tr×(Qa Bs Bool)×(List Bs)×(List Tm)×Dcl→Option ((Bool×(Qa Bs Bool)×(List Bs)))) (a0:Tr) (a1:Qa Bs Bool) (a2:List Bs) (a3:List Tm) (a4:Dcl):Option ((Bool×(Qa Bs Bool)×(List Bs))) :=
 cond (a0.kind==0)
   (Option.bind (m58 a0.body) fun (x2:(List Bs)) =>
 Option.bind (m75f14 x2 a1 a2 a3 a4) fun (x3:((Qa Bs Bool)×(List Bs))) =>
 some (true,x3.1,x3.2))
   (Option.bind (Qp (K9 a0 rc a3 a4) QF (0,a1,a2)) (Sum.elim (fun (o4:(Qa Bs Bool)×(List Bs))=>some (true,o4.1,o4.2)) (fun o=>some o)))
def WL (rc:Tr×(Qa Bs Bool)×(List Bs)×(List Tm)×Dcl→Option ((Bool×(Qa Bs Bool)×(List Bs)))) (u:Tr×(Qa Bs Bool)×(List Bs)×(List Tm)×Dcl):Option ((Bool×(Qa Bs Bool)×(List Bs))):=WK rc u.1 u.2.1 u.2.2.1 u.2.2.2.1 u.2.2.2.2
def m59f13 (a0:Tr) (a1:Qa Bs Bool) (a2:List Bs) (a3:List Tm) (a4:Dcl):Option ((Bool×(Qa Bs Bool)×(List Bs))):=Jr WL QF (a0,a1,a2,a3,a4)
theorem m59f13s_ok (rc:Tr×(Qa Bs Bool)×(List Bs)×(List Tm)×Dcl→Option ((Bool×(Qa Bs Bool)×(List Bs)))) (H:∀ (a0:Tr) (a1:Qa Bs Bool) (a2:List Bs) (a3:List Tm) (a4:Dcl) (r:(Bool×(Qa Bs Bool)×(List Bs))),rc (a0,a1,a2,a3,a4)=some r→CallM Try.prog 59 [.agg (cE a0),.one (.yld 0)] ⟨GJ a1 a2 a3 a4,[(5,some ⟨9,1,(Enc.encL a2).length,[]⟩),(7,some ⟨33,5,(Enc.encL a3).length,[]⟩)],9⟩ (QK [.one (dB r.1)]) ⟨KL r a3 a4,[(5,some ⟨9,1,(Enc.encL r.2.2).length,[]⟩),(7,some ⟨33,5,(Enc.encL a3).length,[]⟩)],11⟩) (a0:Tr) (a1:Qa Bs Bool) (a2:List Bs) (a3:List Tm) (a4:Dcl) (r:(Bool×(Qa Bs Bool)×(List Bs))) (h0:WK rc a0 a1 a2 a3 a4=some r):CallM Try.prog 59 [.agg (cE a0),.one (.yld 0)] ⟨GJ a1 a2 a3 a4,[(5,some ⟨9,1,(Enc.encL a2).length,[]⟩),(7,some ⟨33,5,(Enc.encL a3).length,[]⟩)],9⟩ (QK [.one (dB r.1)]) ⟨KL r a3 a4,[(5,some ⟨9,1,(Enc.encL r.2.2).length,[]⟩),(7,some ⟨33,5,(Enc.encL a3).length,[]⟩)],11⟩:=by
 unfold WK at h0
 refine J0 ⟨[(4,.v (.one (dB r.1)))],KL r a3 a4,[(5,some ⟨9,1,(Enc.encL r.2.2).length,[]⟩),(7,some ⟨33,5,(Enc.encL a3).length,[]⟩)],11,41,[]⟩ J J en_59 (lb J) J (QC J .nil) (fun w0 M V0 Q hv0 hQ0=>?_)
 simp only [Ja]
 refine Q5<|Q0<|Q9 J J (lb J) (QT J)<|Q9 J J (lb J) (QT J)<|rA J J J<|Q3<|Q4<|Q5<|Q5<|Q0<|rR J J J (Q2 fo_74_0 J)<|rR J J J (Q6 QU J J J)<|rR J J J (Q7 J J J)<|Q3 ?_
 refine Q4 ?_
 refine Qh (b:=(a0.kind==0)) J (fun c1=>?_) (fun c1=>?_)
 replace h0:=Qk c1 h0
 refine Q5<|Q0<|rR J J J (Q2 WS J)<|rR J J J (Qi QV J J J J) ?_
 refine Qb h0 (fun x2 hx2 h0=>?_)
 refine Q9 J J (lb J) (Qq (m58_ok a0.body x2 hx2) J (.cons (.agg (.cons (.d _) (.cons (.d _) (.cons (.d _) (.cons (.d _) (.cons (.d _) .nil)))))) .nil))<|rR J J J (YU J) ?_
 refine Qb h0 (fun x3 hx3 h0=>?_)
 refine Q9 J J (lb J) (Jj (hp1':=[(10,.cells 103 [.yld 0]),(0,.loop .ready none [(3,.v (.one (.ptr 2 0))),(6,.v (.one (.ptr 4 0))),(20,.v (.one (.fn 57 [(6,0),(8,0)])))] 33 #[21] Za Z9 1),(1,.obj (.deferred (some []))),(2,.cells 80 [.mp 3]),(3,.mp (QO x3.1.1) x3.1.2),(4,.cells 51 [dA 5 x3.2]),(6,.cells 31 [dA 7 a3]),(8,.cells 45 (cE a4))]) (tk1':=[(5,some ⟨9,1,(Enc.encL x3.2).length,[]⟩),(7,some ⟨33,5,(Enc.encL a3).length,[]⟩)]) (hpF:=[(9,.cells 74 (cE a0))]) (tkF:=[]) (res2:=QK [.one (dB false)]) (nx2:=11) [10,0,1,2,3,4,5,6,7,8] J J (m75f14_ok x2 a1 a2 a3 a4 x3 hx3) J J (qB J J (qB J J (qB J J (qB J J (qG J (qB J J (qB J J (qB J J qZ)))))))) J J (gR J (gR J (gR J (gR J (gG J (gR J (gR J (gR J gZ)))))))) (jR J (jR J jZ)) (hA J) kZ J J J J J (bB J J (bB J J (bB J J (bB J J (bG J (bA J)))))) J J J J)<|rR J J J (Ji J)<|rA J J J<|Q3<|Q4<|QD ?_
 have e:=sI h0;subst e
 exact hQ0 _ _ _ (.inr J) J (Qu (tA J) (hA J) (kA J) J (Nat.le_trans hv0 (lb J)) J J J (bB J J (bB J J (bB J J (bG J (bA J))))) J J)
 replace h0:=Ql c1 h0
 refine Qm<|Q4<|Q5<|Q5<|Q0<|rR J J J (Q2 KD J)<|rR J J J (Q6 WZ J J J)<|rR J J J (QA (α:=Br) Xn J (.d _))<|rM J J J<|Q3<|Q4<|Qf ?_
 refine QY 0 (fun (o4:(Qa Bs Bool)×(List Bs))=>⟨[],[(0,KM),(1,.obj (.deferred (some []))),(2,.cells 80 [.mp 3]),(3,.mp (QO o4.1.1) o4.1.2),(4,.cells 51 [dA 5 o4.2]),(6,.cells 31 [dA 7 a3]),(8,.cells 45 (cE a4)),(9,.cells 74 (cE a0)),(10,.cells 103 [.yld 0])],[(5,some ⟨9,1,(Enc.encL o4.2).length,[]⟩),(7,some ⟨33,5,(Enc.encL a3).length,[]⟩)],11,41,[]⟩) (fun (o4:(Qa Bs Bool)×(List Bs))=>(some (true,o4.1,o4.2))=some r) ?_ ?_
 refine Qb h0 (fun o5 hl1 h0=>?_)
 refine QX (K9 a0 rc a3 a4) (fun s1=>⟨[(3,.v (.one (.ptr 10 0))),(17,.v (.one (dS a0.branches))),(18,.v (.one (dI (a0.branches.length:Int)))),(19,.v (.one (dI s1.1)))],[(0,KM),(1,.obj (.deferred (some []))),(2,.cells 80 [.mp 3]),(3,.mp (QO s1.2.1.1) s1.2.1.2),(4,.cells 51 [dA 5 s1.2.2]),(6,.cells 31 [dA 7 a3]),(8,.cells 45 (cE a4)),(9,.cells 74 (cE a0)),(10,.cells 103 [.yld 0])],[(5,some ⟨9,1,(Enc.encL s1.2.2).length,[]⟩),(7,some ⟨33,5,(Enc.encL a3).length,[]⟩)],11,41,[]⟩) (0,a1,a2) o5 (Qu (tA J) (hA J) (kA J) J (Nat.le_trans hv0 (lb J)) J J J (bB J J (bB J J (bB J J (bG J (bA J))))) J J) hl1 (fun s1 n1 oo1 h1 ho1=>?_)
 unfold K9 at h1
 refine Q5<|Q0<|rR J J J (Q7 J J J)<|Q3<|Q4<|Q5 ?_
 refine Qh (b:=(decide (s1.1 < (a0.branches.length:Int)))) J (fun c6=>?_) (fun c6=>?_)
 replace h1:=Qk c6 h1
 refine Qm<|Q4<|Q5<|Qf<|Q5<|Q0 ?_
 refine Qb h1 (fun x7 hx7 h1=>?_)
 refine rR J J J (Qy (α:=Br) Xn J (.d _) J hx7)<|rR J J J (Qv (x7:Br) ag_101 J)<|Q9 J J (lb J) (Qj z_101 J)<|Qx J J (Qz (x7:Br) ag_101 J J J J J)<|Q3<|Q4<|Q5 ?_
 refine QS (fun (v8:Bool×Bool×Bool×(Qa Bs Bool)×(List Bs))=>⟨[(3,.v (.one (.ptr 10 0))),(17,.v (.one (dS a0.branches))),(18,.v (.one (dI (a0.branches.length:Int)))),(19,.v (.one (dI s1.1))),(29,.v (.one (.ptr 11 1))),(30,.v (.one (dB x7.absurd))),(31,.v (.one (dB (!x7.absurd)))),(32,.v (.one (dB v8.1))),(38,.v (.one (dB v8.2.1))),(39,.v (.one (dB v8.2.2.1)))],[(0,KM),(1,.obj (.deferred (some []))),(2,.cells 80 [.mp 3]),(3,.mp (QO v8.2.2.2.1.1) v8.2.2.2.1.2),(4,.cells 51 [dA 5 v8.2.2.2.2]),(6,.cells 31 [dA 7 a3]),(8,.cells 45 (cE a4)),(9,.cells 74 (cE a0)),(10,.cells 103 [.yld 0]),(11,.cells 101 (cE x7))],[(5,some ⟨9,1,(Enc.encL v8.2.2.2.2).length,[]⟩),(7,some ⟨33,5,(Enc.encL a3).length,[]⟩)],12,41,[]⟩) (fun (v8:Bool×Bool×Bool×(Qa Bs Bool)×(List Bs))=>(cond v8.2.2.1
     (some (.done (.inr (false,v8.2.2.2.1,v8.2.2.2.2))))
     (some (.next ((J9 (s1.1+1)),v8.2.2.2.1,v8.2.2.2.2))))=some oo1) ?_ ?_
 refine Qb h1 (fun w2_ h2 h1=>?_)
 refine Q0<|rR J J J (Q6 ag_103 J J J)<|rR J J J (Q2 fo_101_0 J)<|rR J J J (Q6 JV J J J) ?_
 refine Qb h2 (fun y9 h3 h2=>?_)
 have ha10:ExecOK Try.prog (some 0) Za ⟨[(3,.v (.one (.ptr 2 0))),(6,.v (.one (.ptr 4 0))),(20,.v (.one (.fn 57 [(6,0),(8,0)]))),(21,.v (.one (Jn x7.ctor)))],m59f13_h1 s1 a3 a4 a0 x7,[(5,some ⟨9,1,(Enc.encL s1.2.2).length,[]⟩),(7,some ⟨33,5,(Enc.encL a3).length,[]⟩)],12,33,[]⟩ .normal ⟨[(3,.v (.one (.ptr 2 0))),(6,.v (.one (.ptr 4 0))),(7,.v (.one (Jn x7.ctor)))],m59f13_h1 s1 a3 a4 a0 x7,[(5,some ⟨9,1,(Enc.encL s1.2.2).length,[]⟩),(7,some ⟨33,5,(Enc.encL a3).length,[]⟩)],12,33,[]⟩:=by
  refine QI (fun w0 M V0 ro n Q hv3 hro3 hQn3=>?_)
  refine Q0<|rA J J J<|Q3 ?_
  exact Jq hQn3 (Qu (tA J) (hA J) (kA J) J (Nat.le_trans hv3 (lb J)) J J J (bB J J (bB J J (bB J J (bG J (bA J))))) J J)
 have hb11:ExecOK Try.prog (some 0) Z9 ⟨[(3,.v (.one (.ptr 2 0))),(6,.v (.one (.ptr 4 0))),(7,.v (.one (Jn x7.ctor)))],m59f13_h3 s1 a3 a4 a0 x7,[(5,some ⟨9,1,(Enc.encL s1.2.2).length,[]⟩),(7,some ⟨33,5,(Enc.encL a3).length,[]⟩)],12,33,[]⟩ .normal ⟨[],m59f13_h4 y9 a3 a4 a0 x7,[(5,some ⟨9,1,(Enc.encL y9.2).length,[]⟩),(7,some ⟨33,5,(Enc.encL a3).length,[]⟩)],12,33,[]⟩:=by
  refine QI (fun w0 M V0 ro n Q hv3 hro3 hQn3=>?_)
  refine Qf<|Q5<|Q0<|rR J J J (Q6 XT J J J)<|rM J J J<|rR J J J (YT (M:=s1.2.1) (k:=x7.ctor) Xp Xk J J J)<|rR J J J (Ji J)<|Q3<|Q4 ?_
  refine Qh (b:=(!(Qn s1.2.1 x7.ctor))) J (fun c12=>?_) (fun c12=>?_)
  replace h3:=Qk c12 h3
  refine Q5<|Q0<|rR J J J (Q6 XT J J J)<|rM J J J<|Qx J J (Jh (M:=s1.2.1) (k:=x7.ctor) (v:=true) Xp J J J J J)<|Q3<|Q4<|Q0<|rR J J J (Q6 Wb J J J)<|rM J J J<|Q9 J J (lb J) (Y4 (α:=Bs) (x7.ctor) Yc DS J J (lb J) (lb J) J J (.cons (.d _) .nil) J) ?_
  refine Yo h3 (fun g13 h3=>?_)
  refine Q9 J J (lb J) (Y5 (α:=Bs) Yc De J J J J J (.app _ _) g13)<|Qx J J (Qt Wb J J J J (lb J) J)<|Q3<|Qe ?_
  have e:=sI h3;subst e
  exact Jq hQn3 (Qu tZ (hA J) (kA J) J (Nat.le_trans hv3 (lb J)) J J J (bB J J (bB J J (bB J J (bG J (bA J))))) J J)
  replace h3:=Ql c12 h3
  refine Qm<|Qe ?_
  have e:=sI h3;subst e
  exact Jq hQn3 (Qu tZ (hA J) (kA J) J (Nat.le_trans hv3 (lb J)) J J J (bB J J (bB J J (bB J J (bG J (bA J))))) J J)
 refine Q9 J J (lb J) (Je (jump:=none) J J J J J (Qw ha10 (fun E hv=>(Qu (tA J) (hA J) (kA J) J (Nat.le_trans hv (lb J)) J J J (bB J J (bB J J (bB J J (bG J (bA J))))) J J))) J (Qw hb11 (fun E hv=>(Qu (tA J) (hA J) (kA J) J (Nat.le_trans hv (lb J)) J J J (bB J J (bB J J (bB J J (bG J (bA J))))) J J))) J J) ?_
 refine rR J J J (Ji J)<|rM J J J<|rR J J J (Q2 fo_101_1 J)<|rR J J J (Q6 DR J J J)<|rR J J J (Ji J)<|rM J J J ?_
 refine QG (d:=32) (c:=(!x7.absurd)) J (fun c14=>?_) (fun c14=>?_)
 replace h2:=Qk c14 h2
 refine rR J J J (Q2 fo_101_2 J)<|rR J J J (Qi Up J J J J)<|rR J J J (Q6 ag_103 J J J) ?_
 refine Qb h2 (fun x15 hx15 h2=>?_)
 refine Q9 J J (lb J) (Jj (hp1':=[(0,.loop .ready none [(3,.v (.one (.ptr 2 0))),(6,.v (.one (.ptr 4 0))),(20,.v (.one (.fn 57 [(6,0),(8,0)])))] 33 #[21] Za Z9 1),(1,.obj (.deferred (some []))),(2,.cells 80 [.mp 3]),(3,.mp (QO x15.2.1.1) x15.2.1.2),(4,.cells 51 [dA 5 x15.2.2]),(6,.cells 31 [dA 7 a3]),(8,.cells 45 (cE a4))]) (tk1':=[(5,some ⟨9,1,(Enc.encL x15.2.2).length,[]⟩),(7,some ⟨33,5,(Enc.encL a3).length,[]⟩)]) (hpF:=m59f13_h5 a0 x7) (tkF:=[]) (res2:=QK [.one (dB x15.1)]) (nx2:=14) [0,1,2,3,4,5,6,7,8] J J (H x7.tree y9.1 y9.2 a3 a4 x15 hx15) J J (qB J J (qB J J (qB J J (qG J (qB J J (qB J J (qB J J qZ))))))) J J (gR J (gR J (gR J (gG J (gR J (gR J (gR J gZ))))))) (jR J (jR J jZ)) (hA J) kZ J J J J J (bB J J (bB J J (bB J J (bG J (bA J))))) J J J J)<|rR J J J (Ji J)<|rR J J J (Qg J J)<|rR J J J (Qc J J)<|Q3 ?_
 have e:=sI h2;subst e
 exact Qd (true,(!x15.1),(!x15.1),x15.2.1,x15.2.2) (Qu (tA J) (hA J) (kA J) J (Nat.le_trans hv0 (lb J)) J J J (bB J J (bB J J (bB J J (bG J (bA J))))) J J) h1
 replace h2:=Ql c14 h2
 refine Q8 J J<|Q8 J J<|Q8 J J<|Q8 J J<|Q8 J J<|rR J J J (Qc J J)<|rR J J J (Qc J J)<|Q3 ?_
 have e:=sI h2;subst e
 exact Qd (false,false,false,y9.1,y9.2) (Qu (tA J) (hA J) (kA J) J (Nat.le_trans hv0 (lb J)) J J J (bB J J (bB J J (bB J J (bG J (bA J))))) J J) h1
 intro v8 h1
 refine Q4 ?_
 refine Qh (b:=v8.2.2.1) J (fun c16=>?_) (fun c16=>?_)
 replace h1:=Qk c16 h1
 refine Q5<|Q0<|rA J J J<|Q3<|Q4<|QD ?_
 have e:=sI h1;subst e
 have e_:_=_:=ho1
 subst e_
 try dsimp only [Sum.elim_inl,Sum.elim_inr] at h0
 have e:=sI h0;subst e
 exact hQ0 _ _ _ (.inr J) J (Qu (tA J) (hA J) (kA J) J (Nat.le_trans hv0 (lb J)) J J J (bB J J (bB J J (bB J J (bG J (bA J))))) J J)
 replace h1:=Ql c16 h1
 refine Qm<|Qe<|Q4<|Q0<|rR J J J (Q7 J J J)<|rM J J J<|Q3 ?_
 have e:=sI h1;subst e
 refine QR ((J9 (s1.1+1)),v8.2.2.2.1,v8.2.2.2.2) (Qu (tA J) (hA J) (kA J) J (Nat.le_trans hv0 (lb J)) J J J (bB J J (bB J J (bB J J (bG J (bA J))))) J J) ho1
 replace h1:=Ql c6 h1
 refine J5<|Qo<|Qo ?_
 have e:=sI h1;subst e
 have e_:_=_:=ho1
 subst e_
 exact QW (s1.2.1,s1.2.2) (Qu tZ (hA J) (kA J) J (Nat.le_trans hv0 (lb J)) J J J (bB J J (bB J J (bB J J (bG J (bA J))))) J J) h0
 intro o4 h0
 refine QM<|Q4<|Q5<|Q0<|rA J J J<|Q3<|Q4<|QD ?_
 have e:=sI h0;subst e
 exact hQ0 _ _ _ (.inr J) J (Qu (tA J) (hA J) (kA J) J (Nat.le_trans hv0 (lb J)) J J J (bB J J (bB J J (bB J J (bG J (bA J))))) J J)
theorem m59f13_all (n:Nat) (u:Tr×(Qa Bs Bool)×(List Bs)×(List Tm)×Dcl) (r:(Bool×(Qa Bs Bool)×(List Bs))) (h0:Jr WL n u=some r):CallM Try.prog 59 [.agg (cE u.1),.one (.yld 0)] ⟨GJ u.2.1 u.2.2.1 u.2.2.2.1 u.2.2.2.2,[(5,some ⟨9,1,(Enc.encL u.2.2.1).length,[]⟩),(7,some ⟨33,5,(Enc.encL u.2.2.2.1).length,[]⟩)],9⟩ (QK [.one (dB r.1)]) ⟨KL r u.2.2.2.1 u.2.2.2.2,[(5,some ⟨9,1,(Enc.encL r.2.2).length,[]⟩),(7,some ⟨33,5,(Enc.encL u.2.2.2.1).length,[]⟩)],11⟩ :=
 YV (C:=fun u r=>CallM Try.prog 59 [.agg (cE u.1),.one (.yld 0)] ⟨GJ u.2.1 u.2.2.1 u.2.2.2.1 u.2.2.2.2,[(5,some ⟨9,1,(Enc.encL u.2.2.1).length,[]⟩),(7,some ⟨33,5,(Enc.encL u.2.2.2.1).length,[]⟩)],9⟩ (QK [.one (dB r.1)]) ⟨KL r u.2.2.2.1 u.2.2.2.2,[(5,some ⟨9,1,(Enc.encL r.2.2).length,[]⟩),(7,some ⟨33,5,(Enc.encL u.2.2.2.1).length,[]⟩)],11⟩) (fun rc H u r h=>m59f13s_ok rc (fun a0 a1 a2 a3 a4 r h=>H (a0,a1,a2,a3,a4) r h) u.1 u.2.1 u.2.2.1 u.2.2.2.1 u.2.2.2.2 r h) n u r h0
theorem m59f13_ok (a0:Tr) (a1:Qa Bs Bool) (a2:List Bs) (a3:List Tm) (a4:Dcl) (r:(Bool×(Qa Bs Bool)×(List Bs))) (h0:m59f13 a0 a1 a2 a3 a4=some r):CallM Try.prog 59 [.agg (cE a0),.one (.yld 0)] ⟨GJ a1 a2 a3 a4,[(5,some ⟨9,1,(Enc.encL a2).length,[]⟩),(7,some ⟨33,5,(Enc.encL a3).length,[]⟩)],9⟩ (QK [.one (dB r.1)]) ⟨KL r a3 a4,[(5,some ⟨9,1,(Enc.encL r.2.2).length,[]⟩),(7,some ⟨33,5,(Enc.encL a3).length,[]⟩)],11⟩:=m59f13_all QF (a0,a1,a2,a3,a4) r h0
def Ww (x1:(List Bs)) (s1:Int×(Qa Bs Bool)):Option (LO (Int×(Qa Bs Bool)) (((Qa Bs Bool)))) :=
 cond (decide (s1.1 < (x1.length:Int)))
   (Option.bind (JC x1 s1.1) fun (x4:Bs) =>
 some (.next ((J9 (s1.1+1)),(J2 s1.2 x4 true))))
   (some (.done s1.2))
def XB (a0:Dcl) (s2:Int×(List Tm)):Option (LO (Int×(List Tm)) (((List Tm)))) :=
 cond (decide (s2.1 < (a0.ctors.length:Int)))
   (Option.bind (JC a0.ctors s2.1) fun (x7:Ctr) =>
 Jd (Nat.ble (s2.2.length+1) 1000000000)
 (some (.next ((J9 (s2.1+1)),(s2.2++[x7.ty])))))
   (some (.done s2.2))
def X6 (a0:Dcl) (s2:Int×(List Tm)):Option (LO (Int×(List Tm)) (((List Tm)))) :=
 cond (decide (s2.1 < (a0.funs.length:Int)))
   (Option.bind (JC a0.funs s2.1) fun (x10:Fn) =>
 Jd (Nat.ble (s2.2.length+1) 1000000000)
 (some (.next ((J9 (s2.1+1)),(s2.2++[x10.ty])))))
   (some (.done s2.2))
def Wv (x22:(List Bs)) (s3:Int×(Qa Bs Bool)×(List Bs)):Option (LO (Int×(Qa Bs Bool)×(List Bs)) (((Qa Bs Bool)×(List Bs)))) :=
 cond (decide (s3.1 < (x22.length:Int)))
   (Option.bind (JC x22 s3.1) fun (x25:Bs) =>
 Option.bind (cond (!(Qn s3.2.1 x25))
   (Jd (Nat.ble (s3.2.2.length+([x25]).length) 1000000000)
 (some ((J2 s3.2.1 x25 true),(s3.2.2++([x25])))))
   (some (s3.2.1,s3.2.2))) (fun (y26:(Qa Bs Bool)×(List Bs))=>some (.next ((J9 (s3.1+1)),y26.1,y26.2))))
   (some (.done (s3.2.1,s3.2.2)))
def Wu (y3:(List Tm)) (s2:Int×(Qa Bs Bool)×(List Bs)):Option (LO (Int×(Qa Bs Bool)×(List Bs)) (((Qa Bs Bool)×(List Bs)))) :=
 cond (decide (s2.1 < (y3.length:Int)))
   (Option.bind (JC y3 s2.1) fun (x21:Tm) =>
 Option.bind (m58 x21) fun (x22:(List Bs)) =>
 Option.bind (Qp (Wv x22) QF (0,s2.2.1,s2.2.2)) (fun (o23:(Qa Bs Bool)×(List Bs))=>some (.next ((J9 (s2.1+1)),o23.1,o23.2))))
   (some (.done (s2.2.1,s2.2.2)))
def XA (a0:Dcl) (y3:(List Tm)) (s2:Int×(Qa Bs Bool)×(List Bs)):Option (LO (Int×(Qa Bs Bool)×(List Bs)) (((Qa Bs Bool)×(List Bs))⊕(((Qa Bs Bool)×(List Bs))))) :=
 cond (decide (s2.1 < (a0.funs.length:Int)))
   (Option.bind (JC a0.funs s2.1) fun (x22:Fn) =>
 Option.bind (m59f13 x22.tree s2.2.1 s2.2.2 y3 a0) fun (x23:(Bool×(Qa Bs Bool)×(List Bs))) =>
 cond (!x23.1)
   (some (.done (.inr (x23.2.1,x23.2.2))))
   (some (.next ((J9 (s2.1+1)),x23.2.1,x23.2.2))))
   (some (.done (.inl (s2.2.1,s2.2.2))))
noncomputable abbrev m24_h0 (p0_:Dcl) (p1_:(Qa Bs Bool)):List (Nat×HB) :=
 [(0,.cells 45 (cE p0_)),(1,.mp (QO p1_.1) p1_.2),(2,.cells 80 [.mp 1]),(3,.cells 51 [dN])]
noncomputable abbrev m24_h1 (p0_:Dcl) (p1_:(Qa Bs Bool)) (p2_:(List Tm)):List (Nat×HB) :=
 [(0,.cells 45 (cE p0_)),(1,.mp (QO p1_.1) p1_.2),(2,.cells 80 [.mp 1]),(3,.cells 51 [dN]),(4,.cells 45 (cE p0_)),(6,.cells 31 [dA 5 p2_])]
noncomputable abbrev m24_h2 (p0_:Int×(List Tm)):HB :=
 .cells 31 [.apv 5 5 ((Enc.encL p0_.2).length+1) (Enc.encL p0_.2)]
noncomputable abbrev m24_h3 (p0_:Dcl) (p1_:(Qa Bs Bool)) (p2_:Int×(List Tm)) (p3_:Ctr):List (Nat×HB) :=
 [(0,.cells 45 (cE p0_)),(1,.mp (QO p1_.1) p1_.2),(2,.cells 80 [.mp 1]),(3,.cells 51 [dN]),(4,.cells 45 (cE p0_)),(6,m24_h2 p2_),(7,.cells 71 (cE p3_))]
noncomputable abbrev m24_h4 (p0_:(List Tm)) (p1_:Dcl):HB :=
 .cells 31 [dA 5 (((p0_++([p1_.rcr.ty]))++p1_.rcr.rules):List Tm)]
noncomputable abbrev m24_h5 (p0_:Dcl) (p1_:(Qa Bs Bool)) (p2_:(List Tm)):List (Nat×HB) :=
 [(0,.cells 45 (cE p0_)),(1,.mp (QO p1_.1) p1_.2),(2,.cells 80 [.mp 1]),(3,.cells 51 [dN]),(4,.cells 45 (cE p0_)),(6,m24_h4 p2_ p0_)]
noncomputable abbrev m24_h6 (p0_:Dcl) (p1_:(Qa Bs Bool)) (p2_:Int×(List Tm)) (p3_:Fn):List (Nat×HB) :=
 [(0,.cells 45 (cE p0_)),(1,.mp (QO p1_.1) p1_.2),(2,.cells 80 [.mp 1]),(3,.cells 51 [dN]),(4,.cells 45 (cE p0_)),(6,m24_h2 p2_),(7,.cells 76 (cE p3_))]
noncomputable abbrev m24_h7 (p0_:Dcl) (p1_:(Qa Bs Bool)) (p2_:(List Tm)):List (Nat×HB) :=
 [(0,.cells 45 (cE p0_)),(1,.mp (QO p1_.1) p1_.2),(2,.cells 80 [.mp 1]),(3,.cells 51 [dA 7 ([]:List Bs)]),(4,.cells 45 (cE p0_)),(6,.cells 31 [dA 5 p2_])]
noncomputable abbrev XD :HB :=
 .loop .ready none [(3,.v (.one (.ptr 2 0))),(6,.v (.one (.ptr 3 0))),(20,.v (.one (.fn 57 [(6,0),(4,0)])))] 33 #[21] Za Z9 8
noncomputable abbrev m24_h9 (p0_:Dcl) (p1_:(Qa Bs Bool)×(List Bs)) (p2_:(List Tm)):List (Nat×HB) :=
 [(0,.cells 45 (cE p0_)),(1,.mp (QO p1_.1.1) p1_.1.2),(2,.cells 80 [.mp 1]),(3,.cells 51 [dA 7 p1_.2]),(4,.cells 45 (cE p0_)),(6,.cells 31 [dA 5 p2_]),(8,.obj (.deferred (some []))),(9,XD)]
noncomputable abbrev m24_h10 (p0_:Dcl) (p1_:Int×(Qa Bs Bool)×(List Bs)) (p2_:(List Tm)) (p3_:Tm):List (Nat×HB) :=
 [(0,.cells 45 (cE p0_)),(1,.mp (QO p1_.2.1.1) p1_.2.1.2),(2,.cells 80 [.mp 1]),(3,.cells 51 [dA 7 p1_.2.2]),(4,.cells 45 (cE p0_)),(6,.cells 31 [dA 5 p2_]),(8,.obj (.deferred (some []))),(9,XD),(10,.cells 33 (cE p3_))]
noncomputable abbrev m24_h11 :HB :=
 .loop .busy none [(3,.v (.one (.ptr 2 0))),(6,.v (.one (.ptr 3 0))),(20,.v (.one (.fn 57 [(6,0),(4,0)])))] 33 #[21] Za Z9 8
noncomputable abbrev m24_h12 (p0_:Dcl) (p1_:Int×(Qa Bs Bool)×(List Bs)) (p2_:(List Tm)) (p3_:Tm):List (Nat×HB) :=
 [(0,.cells 45 (cE p0_)),(1,.mp (QO p1_.2.1.1) p1_.2.1.2),(2,.cells 80 [.mp 1]),(3,.cells 51 [dA 7 p1_.2.2]),(4,.cells 45 (cE p0_)),(6,.cells 31 [dA 5 p2_]),(8,.obj (.deferred (some []))),(9,m24_h11),(10,.cells 33 (cE p3_))]
noncomputable abbrev m24_h13 (p0_:Dcl) (p1_:(Qa Bs Bool)×(List Bs)) (p2_:(List Tm)) (p3_:Tm):List (Nat×HB) :=
 [(0,.cells 45 (cE p0_)),(1,.mp (QO p1_.1.1) p1_.1.2),(2,.cells 80 [.mp 1]),(3,.cells 51 [dA 7 p1_.2]),(4,.cells 45 (cE p0_)),(6,.cells 31 [dA 5 p2_]),(8,.obj (.deferred (some []))),(9,m24_h11),(10,.cells 33 (cE p3_))]
def m24 (a0:Dcl):Option ((List Bs)) :=
 Option.bind (m20 a0) fun (x1:(List Bs)) =>
 Option.bind (Qp (Ww x1) QF (0,gmNil)) (fun (o2:(Qa Bs Bool))=>Option.bind (Option.bind (Qp (XB a0) QF (0,[a0.ty,a0.value])) (fun (o5:(List Tm))=>Jd (Nat.ble (o5.length+([a0.rcr.ty]).length) 1000000000)
 (Jd (Nat.ble ((o5++([a0.rcr.ty])).length+a0.rcr.rules.length) 1000000000)
 (Option.bind (Qp (X6 a0) QF (0,((o5++([a0.rcr.ty]))++a0.rcr.rules))) (fun (o8:(List Tm))=>some o8))))) (fun (y3:(List Tm))=>Option.bind (Option.bind (Qp (Wu y3) QF (0,o2,[])) (fun (o19:(Qa Bs Bool)×(List Bs))=>Option.bind (Qp (XA a0 y3) QF (0,o19.1,o19.2)) (Sum.elim (fun (o20:(Qa Bs Bool)×(List Bs))=>some (o20.1,o20.2)) (fun o=>some o)))) (fun (y17:(Qa Bs Bool)×(List Bs))=>some y17.2)))
theorem m24_ok (a0:Dcl) (r:(List Bs)) (h0:m24 a0=some r):Fun Try.prog 24 [.agg (cE a0)] (QK [.one (dS r)]):=by
 unfold m24 at h0
 refine QZ 9 33 Try.func24 J en_24 J (lb J) (fun S w=>?_)
 simp only [Ja]
 refine Q5<|Q0<|Q9 J J (lb J) (QT J)<|rA J J J<|Q3<|Q4<|Q5<|Q0<|Q9 J J (lb J) (Z4 Bs Bool)<|Q9 J J (lb J) (Qj z_80 J)<|Qx J J (Qt XT J J J J (lb J) J)<|Q3<|Q4<|Q5 ?_
 refine Q5<|Q0<|rR J J J (QN (a0:Dcl) JX J J) ?_
 refine Qb h0 (fun x1 hx1 h0=>?_)
 refine Q9 J J (lb J) (Qq (m20_ok a0 x1 hx1) J (.cons (.agg (.cons (.d _) (.cons (.d _) (.cons (.d _) (.cons (.d _) (.cons (.d _) (.cons (.d _) (.cons (.d _) (.cons (.d _) (.cons (.d _) (.cons (.d _) (.cons (.d _) (.cons (.d _) (.cons (.d _) (.cons (.d _) (.cons (.d _) (.cons (.d _) (.cons (.d _) (.cons (.d _) (.cons (.d _) (.cons (.d _) (.cons (.d _) (.cons (.d _) (.cons (.d _) .nil)))))))))))))))))))))))) .nil))<|rR J J J (QA (α:=Bs) Yc J (.d _))<|rM J J J<|Q3<|Q4<|Qf ?_
 refine QY 0 (fun (o2:(Qa Bs Bool))=>⟨[(1,.v (.one (.ptr 0 0))),(3,.v (.one (.ptr 2 0)))],[(0,.cells 45 (cE a0)),(1,.mp (QO o2.1) o2.2),(2,.cells 80 [.mp 1])],[],3,33,[]⟩) (fun (o2:(Qa Bs Bool))=>(Option.bind (Option.bind (Qp (XB a0) QF (0,[a0.ty,a0.value])) (fun (o5:(List Tm))=>Jd (Nat.ble (o5.length+([a0.rcr.ty]).length) 1000000000)
   (Jd (Nat.ble ((o5++([a0.rcr.ty])).length+a0.rcr.rules.length) 1000000000)
   (Option.bind (Qp (X6 a0) QF (0,((o5++([a0.rcr.ty]))++a0.rcr.rules))) (fun (o8:(List Tm))=>some o8))))) (fun (y3:(List Tm))=>Option.bind (Option.bind (Qp (Wu y3) QF (0,o2,[])) (fun (o19:(Qa Bs Bool)×(List Bs))=>Option.bind (Qp (XA a0 y3) QF (0,o19.1,o19.2)) (Sum.elim (fun (o20:(Qa Bs Bool)×(List Bs))=>some (o20.1,o20.2)) (fun o=>some o)))) (fun (y17:(Qa Bs Bool)×(List Bs))=>some y17.2)))=some r) ?_ ?_
 refine Qb h0 (fun o3 hl1 h0=>?_)
 refine QX (Ww x1) (fun s1=>⟨[(1,.v (.one (.ptr 0 0))),(3,.v (.one (.ptr 2 0))),(10,.v (.one (dS x1))),(11,.v (.one (dI (x1.length:Int)))),(12,.v (.one (dI s1.1)))],[(0,.cells 45 (cE a0)),(1,.mp (QO s1.2.1) s1.2.2),(2,.cells 80 [.mp 1])],[],3,33,[]⟩) (0,gmNil) o3 (Qu (tA J) (hA J) kZ J (Nat.zero_le _) J J J (bB J J (bG J (bA J))) J J) hl1 (fun s1 n1 oo1 h1 ho1=>?_)
 unfold Ww at h1
 refine Q5<|Q0<|rR J J J (Q7 J J J)<|Q3<|Q4<|Q5 ?_
 refine Qh (b:=(decide (s1.1 < (x1.length:Int)))) J (fun c4=>?_) (fun c4=>?_)
 replace h1:=Qk c4 h1
 refine Qm<|Q4<|Q5<|Qf<|Q5<|Q0 ?_
 refine Qb h1 (fun x5 hx5 h1=>?_)
 refine rR J J J (Qy (α:=Bs) Yc J (.d _) J hx5)<|rR J J J (JQ JV J J)<|rA J J J<|Q3<|Q4<|Q0<|rR J J J (Q6 XT J J J)<|rM J J J<|Qx J J (Jh (M:=s1.2) (k:=x5) (v:=true) Xp J J J J J)<|Q3<|Qe<|Q4<|Q0<|rR J J J (Q7 J J J) ?_
 refine rM J J J<|Q3 ?_
 have e:=sI h1;subst e
 refine QR ((J9 (s1.1+1)),(J2 s1.2 x5 true)) (Qu (tA J) (hA J) kZ J (Nat.zero_le _) J J J (bB J J (bG J (bA J))) J J) ho1
 replace h1:=Ql c4 h1
 refine J5<|Qo<|Qo ?_
 have e:=sI h1;subst e
 have e_:_=_:=ho1
 subst e_
 exact QW s1.2 (Qu (tA J) (hA J) kZ J (Nat.zero_le _) J J J (bB J J (bG J (bA J))) J J) h0
 intro o2 h0
 refine QM<|Q4<|Q5<|Q0<|Q9 J J (lb J) (Qj z_51 J)<|Q3<|Q4<|Q5<|Q5<|Q0<|rR J J J (QN (a0:Dcl) JX J J) ?_
 refine Qb h0 (fun y6 h1 h0=>?_)
 have hc7:CallM Try.prog 39 [.agg (cE a0)] ⟨m24_h0 a0 o2,[],4⟩ (QK [.one (.fn 57 [(6,0),(4,0)])]) ⟨m24_h1 a0 o2 y6,[(5,some ⟨33,5,(Enc.encL y6).length,[]⟩)],7⟩:=by
  refine J0 ⟨[(2,.v (.one (.fn 57 [(6,0),(4,0)])))],m24_h1 a0 o2 y6,[(5,some ⟨33,5,(Enc.encL y6).length,[]⟩)],7,54,[]⟩ J J en_39 (lb J) J (QC J .nil) (fun w0 M V0 Q hv1 hQ1=>?_)
  simp only [Ja]
  refine Q5<|Q0<|Q9 J J (lb J) (QT J)<|rA J J J<|Q3<|Q4<|Q5<|Q0<|rR J J J (Q2 KF J)<|rR J J J (Qi QV J J J J)<|rR J J J (Q2 fo_45_4 J)<|rR J J J (Qi QV J J J J)<|Q9 J J (lb J) (OpOK.lit2E (α:=Tm) a0.ty a0.value Jl K4 J J (lb J) (lb J) J J J (.cons (.d _) (.cons (.d _) (.cons (.d _) (.cons (.d _) (.cons (.d _) (.cons (.d _) (.cons (.d _) (.cons (.d _) (.cons (.d _) (.cons (.d _) .nil)))))))))) ⟨J,J⟩)<|Q9 J J (lb J) (Qj z_31 J) ?_
  refine Qx J J (Qt JO J J J J (lb J) J)<|Q3<|Q4<|Q5<|Q5<|Q0<|rR J J J (Q2 YD J)<|rR J J J (Q6 K2 J J J)<|rR J J J (QA (α:=Ctr) YM J (.d _))<|rM J J J<|Q3<|Q4<|Qf ?_
  refine QY 0 (fun (o8:(List Tm))=>⟨[(1,.v (.one (.ptr 4 0))),(3,.v (.one (.ptr 6 0)))],[(0,.cells 45 (cE a0)),(1,.mp (QO o2.1) o2.2),(2,.cells 80 [.mp 1]),(3,.cells 51 [dN]),(4,.cells 45 (cE a0)),(6,.cells 31 [dA 5 o8])],[(5,some ⟨33,5,(Enc.encL o8).length,[]⟩)],7,54,[]⟩) (fun (o8:(List Tm))=>(Jd (Nat.ble (o8.length+([a0.rcr.ty]).length) 1000000000)
    (Jd (Nat.ble ((o8++([a0.rcr.ty])).length+a0.rcr.rules.length) 1000000000)
    (Option.bind (Qp (X6 a0) QF (0,((o8++([a0.rcr.ty]))++a0.rcr.rules))) (fun (o11:(List Tm))=>some o11))))=some y6) ?_ ?_
  refine Qb h1 (fun o9 hl2 h1=>?_)
  refine QX (XB a0) (fun s2=>⟨[(1,.v (.one (.ptr 4 0))),(3,.v (.one (.ptr 6 0))),(14,.v (.one (dS a0.ctors))),(15,.v (.one (dI (a0.ctors.length:Int)))),(16,.v (.one (dI s2.1)))],[(0,.cells 45 (cE a0)),(1,.mp (QO o2.1) o2.2),(2,.cells 80 [.mp 1]),(3,.cells 51 [dN]),(4,.cells 45 (cE a0)),(6,.cells 31 [dA 5 s2.2])],[(5,some ⟨33,5,(Enc.encL s2.2).length,[]⟩)],7,54,[]⟩) (0,[a0.ty,a0.value]) o9 (Qu (tA J) (hA J) (kA J) J (Nat.le_trans hv1 (lb J)) J J J (bB J J (bG J (bA J))) J J) hl2 (fun s2 n2 oo2 h2 ho2=>?_)
  unfold XB at h2
  refine Q5<|Q0<|rR J J J (Q7 J J J)<|Q3<|Q4<|Q5 ?_
  refine Qh (b:=(decide (s2.1 < (a0.ctors.length:Int)))) J (fun c10=>?_) (fun c10=>?_)
  replace h2:=Qk c10 h2
  refine Qm<|Q4<|Q5<|Qf<|Q5<|Q0 ?_
  refine Qb h2 (fun x11 hx11 h2=>?_)
  refine rR J J J (Qy (α:=Ctr) YM J (.d _) J hx11)<|rR J J J (Qv (x11:Ctr) K0 J)<|Q9 J J (lb J) (Qj UV J)<|Qx J J (Qz (x11:Ctr) K0 J J J J J)<|Q3<|Q4 ?_
  refine XC.swRun [5,7,8] [[],[5],[5,7],[5,7,8],[5,8]] [(8,1),(6,4),(7,4)] YQ (by kernel_rfl) (by kernel_rfl) (by kernel_rfl) (by kernel_rfl) rfl (by kernel_rfl) ?_
  refine RunA.rd J J J (Q1 (Q6 JO J J J)) J<|RunA.rd J J J (Q1 (Q2 KE J)) J<|RunA.rd J J J (Q1 (Qi QV J J J J)) J<|RunA.rd J J J (Q1 (QA (α:=Tm) Jl J (.app _ _))) J<|RunA.rd J J J (OpOK.data1E (α:=Tm) ((Tm.mk 0 0 ([]:List UInt8) ([]:List Lvl) ([]:List Tm))) Jl K4 J J (lb J) J J (.cons (.d _) (.cons (.d _) (.cons (.d _) (.cons (.nil _) (.cons (.nil _) .nil))))) J) J ?_
  refine Yo h2 (fun g12 h2=>?_)
  refine RunA.eff J J J (OpOK.appendH (α:=Tm) (l:=s2.2) (z:=(Tm.mk 0 0 ([]:List UInt8) ([]:List Lvl) ([]:List Tm))) Jl D9 J J J J (.d _) g12) J<|RunA.rd J J J (Q1 (RO.indexP Jl J J J (lt_H (α:=Tm) s2.2))) J<|RunA.eff J J J (OpOK.storeH (α:=Tm) (l:=s2.2) (y':=.agg [dI x11.ty.kind,dI x11.ty.index,Jn x11.ty.name,dS x11.ty.levels,dS x11.ty.kids]) x11.ty QV J J (.agg (.cons (.d _) (.cons (.d _) (.cons (.d _) (.cons (.d _) (.cons (.d _) .nil)))))) J J J) J<|RunA.eff J J J (Qt JO J J J J (lb J) J) J ?_
  refine RunA.nil ⟨[_],⟨⟨_,_,J,J,_,_,J,J,J,.inl ⟨J,_,(Qt JO J J J J (lb J) J),.inl ⟨J,4,_,J,J,J⟩⟩⟩,⟨⟨_,_,J,J,_,_,J,J,J,.inl ⟨J,_,(Q1 (RO.indexP Jl J J J (lt_H (α:=Tm) s2.2))),.inr ⟨J,J⟩⟩⟩,⟨⟨_,_,J,J,_,_,J,J,J,.inl ⟨J,_,(OpOK.storeH (α:=Tm) (l:=s2.2) (y':=.agg [dI x11.ty.kind,dI x11.ty.index,Jn x11.ty.name,dS x11.ty.levels,dS x11.ty.kids]) x11.ty QV J J (.agg (.cons (.d _) (.cons (.d _) (.cons (.d _) (.cons (.d _) (.cons (.d _) .nil)))))) J J J),.inl ⟨J,3,_,J,J,J⟩⟩⟩,trivial⟩⟩⟩,_,_,J,?_⟩
  refine JW (st':=⟨[(1,.v (.one (.ptr 4 0))),(3,.v (.one (.ptr 6 0))),(14,.v (.one (dS a0.ctors))),(15,.v (.one (dI (a0.ctors.length:Int)))),(16,.v (.one (dI s2.1)))],m24_h3 a0 o2 s2 x11,[(5,some ⟨33,5,(Enc.encL s2.2).length+1,(Enc.encL ([x11.ty]:List Tm)).flatten⟩)],8,54,[]⟩) (Qu (tA J) (hA J) (kA J) J (Nat.le_trans hv1 (lb J)) J J J (bB J J (bG J (bA J))) J J)<|XQ.settleC (α:=Tm) (b:=6) (off:=0) (l:=s2.2) (l2:=[x11.ty]) J J J (n_H _ _)<|Qe<|Q4<|Q0<|rR J J J (Q7 J J J)<|rM J J J<|Q3 ?_
  have e:=sI h2;subst e
  refine QR ((J9 (s2.1+1)),(s2.2++[x11.ty])) (Qu (tA J) (hA J) (kA J) J (Nat.le_trans hv1 (lb J)) J J J (bB J J (bG J (bA J))) J J) ho2
  replace h2:=Ql c10 h2
  refine J5<|Qo<|Qo ?_
  have e:=sI h2;subst e
  have e_:_=_:=ho2
  subst e_
  exact QW s2.2 (Qu (tA J) (hA J) (kA J) J (Nat.le_trans hv1 (lb J)) J J J (bB J J (bG J (bA J))) J J) h1
  intro o8 h1
  refine QM<|Q4<|Q5 ?_
  refine Jv [5,9,10] [(6,0),(7,0),(8,0)] YQ (by kernel_rfl) (by kernel_rfl) (by kernel_rfl) ?_
  refine RunA.rd J J J (Q1 (Q6 JO J J J)) J<|RunA.rd J J J (Q1 (Q2 JT J)) J<|RunA.rd J J J (Q1 (Q2 Gt J)) J<|RunA.rd J J J (Q1 (Qi QV J J J J)) J<|RunA.rd J J J (OpOK.data1E (α:=Tm) (a0.rcr.ty) Jl K4 J J (lb J) J J (.cons (.d _) (.cons (.d _) (.cons (.d _) (.cons (.d _) (.cons (.d _) .nil))))) J) J ?_
  refine Yo h1 (fun g13 h1=>?_)
  refine RunA.eff J J J (Y5 (α:=Tm) Jl D9 J J J J J (.d _) g13) J<|RunA.rd J J J (Q1 (Q2 JT J)) J<|RunA.rd J J J (Q1 (Q2 KG J)) J<|RunA.rd J J J (Q1 (Q6 JO J J J)) J ?_
  refine Yo h1 (fun g14 h1=>?_)
  refine RunA.eff J J J (Y5 (α:=Tm) Jl D9 J J J J J (.d _) g14) J<|RunA.eff J J J (Qt JO J J J J (lb J) J) J ?_
  refine RunA.nil ⟨?ex,_,_,J,?_⟩
  case ex=>exact ⟨⟨_,rfl,_,_,rfl,rfl,rfl,.inl ⟨rfl,_,Q1 (Q2 JT rfl),rfl⟩⟩,⟨_,rfl,_,_,rfl,rfl,rfl,.inl ⟨rfl,_,Q1 (Q2 KG rfl),rfl⟩⟩,⟨_,rfl,_,_,rfl,rfl,rfl,.inl ⟨rfl,_,Q1 (Q6 JO rfl rfl rfl),rfl⟩⟩,trivial⟩
  refine JW (st':=⟨[(1,.v (.one (.ptr 4 0))),(3,.v (.one (.ptr 6 0)))],m24_h5 a0 o2 o8,[(5,some ⟨33,5,(Enc.encL (((o8++([a0.rcr.ty]))++a0.rcr.rules):List Tm)).length,[]⟩)],7,54,[]⟩) (Qu (tA J) (hA J) (kA J) J (Nat.le_trans hv1 (lb J)) J J J (bB J J (bG J (bA J))) J J)<|Q4<|Q5<|Q5<|Q0<|rR J J J (Q2 YC J)<|rR J J J (Q6 K1 J J J)<|rR J J J (QA (α:=Fn) YL J (.d _))<|rM J J J<|Q3<|Q4<|Qf ?_
  refine QY 2 (fun (o15:(List Tm))=>⟨[(1,.v (.one (.ptr 4 0))),(3,.v (.one (.ptr 6 0)))],[(0,.cells 45 (cE a0)),(1,.mp (QO o2.1) o2.2),(2,.cells 80 [.mp 1]),(3,.cells 51 [dN]),(4,.cells 45 (cE a0)),(6,.cells 31 [dA 5 o15])],[(5,some ⟨33,5,(Enc.encL o15).length,[]⟩)],7,54,[]⟩) (fun (o15:(List Tm))=>(some o15)=some y6) ?_ ?_
  refine Qb h1 (fun o16 hl2 h1=>?_)
  refine QX (X6 a0) (fun s2=>⟨[(1,.v (.one (.ptr 4 0))),(3,.v (.one (.ptr 6 0))),(39,.v (.one (dS a0.funs))),(40,.v (.one (dI (a0.funs.length:Int)))),(41,.v (.one (dI s2.1)))],[(0,.cells 45 (cE a0)),(1,.mp (QO o2.1) o2.2),(2,.cells 80 [.mp 1]),(3,.cells 51 [dN]),(4,.cells 45 (cE a0)),(6,.cells 31 [dA 5 s2.2])],[(5,some ⟨33,5,(Enc.encL s2.2).length,[]⟩)],7,54,[]⟩) (0,((o8++([a0.rcr.ty]))++a0.rcr.rules)) o16 (Qu (tA J) (hA J) (kA J) J (Nat.le_trans hv1 (lb J)) J J J (bB J J (bG J (bA J))) J J) hl2 (fun s2 n2 oo2 h2 ho2=>?_)
  unfold X6 at h2
  refine Q5<|Q0<|rR J J J (Q7 J J J)<|Q3<|Q4<|Q5 ?_
  refine Qh (b:=(decide (s2.1 < (a0.funs.length:Int)))) J (fun c17=>?_) (fun c17=>?_)
  replace h2:=Qk c17 h2
  refine Qm<|Q4<|Q5<|Qf<|Q5<|Q0 ?_
  refine Qb h2 (fun x18 hx18 h2=>?_)
  refine rR J J J (Qy (α:=Fn) YL J (.d _) J hx18)<|rR J J J (Qv (x18:Fn) ZF J)<|Q9 J J (lb J) (Qj UU J)<|Qx J J (Qz (x18:Fn) ZF J J J J J)<|Q3<|Q4 ?_
  refine XC.swRun [5,7,8] [[],[5],[5,7],[5,7,8],[5,8]] [(8,1),(6,4),(7,4)] YQ (by kernel_rfl) (by kernel_rfl) (by kernel_rfl) (by kernel_rfl) rfl (by kernel_rfl) ?_
  refine RunA.rd J J J (Q1 (Q6 JO J J J)) J<|RunA.rd J J J (Q1 (Q2 Xc J)) J<|RunA.rd J J J (Q1 (Qi QV J J J J)) J<|RunA.rd J J J (Q1 (QA (α:=Tm) Jl J (.app _ _))) J<|RunA.rd J J J (OpOK.data1E (α:=Tm) ((Tm.mk 0 0 ([]:List UInt8) ([]:List Lvl) ([]:List Tm))) Jl K4 J J (lb J) J J (.cons (.d _) (.cons (.d _) (.cons (.d _) (.cons (.nil _) (.cons (.nil _) .nil))))) J) J ?_
  refine Yo h2 (fun g19 h2=>?_)
  refine RunA.eff J J J (OpOK.appendH (α:=Tm) (l:=s2.2) (z:=(Tm.mk 0 0 ([]:List UInt8) ([]:List Lvl) ([]:List Tm))) Jl D9 J J J J (.d _) g19) J<|RunA.rd J J J (Q1 (RO.indexP Jl J J J (lt_H (α:=Tm) s2.2))) J<|RunA.eff J J J (OpOK.storeH (α:=Tm) (l:=s2.2) (y':=.agg [dI x18.ty.kind,dI x18.ty.index,Jn x18.ty.name,dS x18.ty.levels,dS x18.ty.kids]) x18.ty QV J J (.agg (.cons (.d _) (.cons (.d _) (.cons (.d _) (.cons (.d _) (.cons (.d _) .nil)))))) J J J) J<|RunA.eff J J J (Qt JO J J J J (lb J) J) J ?_
  refine RunA.nil ⟨[_],⟨⟨_,_,J,J,_,_,J,J,J,.inl ⟨J,_,(Qt JO J J J J (lb J) J),.inl ⟨J,4,_,J,J,J⟩⟩⟩,⟨⟨_,_,J,J,_,_,J,J,J,.inl ⟨J,_,(Q1 (RO.indexP Jl J J J (lt_H (α:=Tm) s2.2))),.inr ⟨J,J⟩⟩⟩,⟨⟨_,_,J,J,_,_,J,J,J,.inl ⟨J,_,(OpOK.storeH (α:=Tm) (l:=s2.2) (y':=.agg [dI x18.ty.kind,dI x18.ty.index,Jn x18.ty.name,dS x18.ty.levels,dS x18.ty.kids]) x18.ty QV J J (.agg (.cons (.d _) (.cons (.d _) (.cons (.d _) (.cons (.d _) (.cons (.d _) .nil)))))) J J J),.inl ⟨J,3,_,J,J,J⟩⟩⟩,trivial⟩⟩⟩,_,_,J,?_⟩
  refine JW (st':=⟨[(1,.v (.one (.ptr 4 0))),(3,.v (.one (.ptr 6 0))),(39,.v (.one (dS a0.funs))),(40,.v (.one (dI (a0.funs.length:Int)))),(41,.v (.one (dI s2.1)))],m24_h6 a0 o2 s2 x18,[(5,some ⟨33,5,(Enc.encL s2.2).length+1,(Enc.encL ([x18.ty]:List Tm)).flatten⟩)],8,54,[]⟩) (Qu (tA J) (hA J) (kA J) J (Nat.le_trans hv1 (lb J)) J J J (bB J J (bG J (bA J))) J J)<|XQ.settleC (α:=Tm) (b:=6) (off:=0) (l:=s2.2) (l2:=[x18.ty]) J J J (n_H _ _)<|Qe<|Q4<|Q0<|rR J J J (Q7 J J J)<|rM J J J<|Q3 ?_
  have e:=sI h2;subst e
  refine QR ((J9 (s2.1+1)),(s2.2++[x18.ty])) (Qu (tA J) (hA J) (kA J) J (Nat.le_trans hv1 (lb J)) J J J (bB J J (bG J (bA J))) J J) ho2
  replace h2:=Ql c17 h2
  refine J5<|Qo<|Qo ?_
  have e:=sI h2;subst e
  have e_:_=_:=ho2
  subst e_
  exact QW s2.2 (Qu (tA J) (hA J) (kA J) J (Nat.le_trans hv1 (lb J)) J J J (bB J J (bG J (bA J))) J J) h1
  intro o15 h1
  refine QM<|Q4<|Q5<|Q0<|rR J J J (ZW J J)<|rA J J J<|Q3<|Q4<|QD ?_
  have e:=sI h1;subst e
  exact hQ1 _ _ _ (.inr J) J (Qu (tA J) (hA J) (kA J) J (Nat.le_trans hv1 (lb J)) J J J (bB J J (bG J (bA J))) J J)
 refine Q9 J J (lb J) (JJ J J J hc7 J (hA J) kZ)<|Q3<|Q4<|Qf<|XC.adoptC (i:=3) (off:=0) 9 1 J J<|KH (st':=⟨[(3,.v (.one (.ptr 2 0))),(6,.v (.one (.ptr 3 0))),(20,.v (.one (.fn 57 [(6,0),(4,0)])))],m24_h7 a0 o2 y6,[(5,some ⟨33,5,(Enc.encL y6).length,[]⟩),(7,some ⟨9,1,(Enc.encL ([]:List Bs)).length,[]⟩)],8,33,[]⟩) (Qu (tA J) (hA J) (kA J) J (Nat.zero_le _) J J J (bB J J (bG J (bA J))) J J) ?_
 refine Qb h0 (fun y20 h1 h0=>?_)
 have hc21:CallM Try.prog 57 [.one (.yld 9),.one (.ptr 6 0),.one (.ptr 4 0)] ⟨[(9,.loop .ready none [(3,.v (.one (.ptr 2 0))),(6,.v (.one (.ptr 3 0))),(20,.v (.one (.fn 57 [(6,0),(4,0)])))] 33 #[21] Za Z9 8),(8,.obj (.deferred (some []))),(0,.cells 45 (cE a0)),(1,.mp (QO o2.1) o2.2),(2,.cells 80 [.mp 1]),(3,.cells 51 [dA 7 ([]:List Bs)]),(4,.cells 45 (cE a0)),(6,.cells 31 [dA 5 y6])],[(5,some ⟨33,5,(Enc.encL y6).length,[]⟩),(7,some ⟨9,1,(Enc.encL ([]:List Bs)).length,[]⟩)],10⟩ (QK []) ⟨m24_h9 a0 y20 y6,[(5,some ⟨33,5,(Enc.encL y6).length,[]⟩),(7,some ⟨9,1,(Enc.encL y20.2).length,[]⟩)],10⟩:=by
  refine J0 ⟨[],m24_h9 a0 y20 y6,[(5,some ⟨33,5,(Enc.encL y6).length,[]⟩),(7,some ⟨9,1,(Enc.encL y20.2).length,[]⟩)],10,42,[]⟩ J J en_57 (lb J) J .nil (fun w0 M V0 Q hv1 hQ1=>?_)
  simp only [Ja]
  refine Q5<|Q5<|Q0<|rR J J J (Q6 JO J J J)<|rR J J J (QA (α:=Tm) Jl J (.app _ _))<|rM J J J<|Q3<|Q4<|Qf ?_
  refine QY 0 (fun (o22:(Qa Bs Bool)×(List Bs))=>⟨[(0,.v (.one (.yld 9))),(2,.v (.one (.ptr 4 0)))],[(0,.cells 45 (cE a0)),(1,.mp (QO o22.1.1) o22.1.2),(2,.cells 80 [.mp 1]),(3,.cells 51 [dA 7 o22.2]),(4,.cells 45 (cE a0)),(6,.cells 31 [dA 5 y6]),(8,.obj (.deferred (some []))),(9,XD)],[(5,some ⟨33,5,(Enc.encL y6).length,[]⟩),(7,some ⟨9,1,(Enc.encL o22.2).length,[]⟩)],10,42,[]⟩) (fun (o22:(Qa Bs Bool)×(List Bs))=>(Option.bind (Qp (XA a0 y6) QF (0,o22.1,o22.2)) (Sum.elim (fun (o23:(Qa Bs Bool)×(List Bs))=>some (o23.1,o23.2)) (fun o=>some o)))=some y20) ?_ ?_
  refine Qb h1 (fun o23 hl2 h1=>?_)
  refine QX (Wu y6) (fun s2=>⟨[(0,.v (.one (.yld 9))),(2,.v (.one (.ptr 4 0))),(10,.v (.one (dA 5 y6))),(11,.v (.one (dI (y6.length:Int)))),(12,.v (.one (dI s2.1)))],[(0,.cells 45 (cE a0)),(1,.mp (QO s2.2.1.1) s2.2.1.2),(2,.cells 80 [.mp 1]),(3,.cells 51 [dA 7 s2.2.2]),(4,.cells 45 (cE a0)),(6,.cells 31 [dA 5 y6]),(8,.obj (.deferred (some []))),(9,XD)],[(5,some ⟨33,5,(Enc.encL y6).length,[]⟩),(7,some ⟨9,1,(Enc.encL s2.2.2).length,[]⟩)],10,42,[]⟩) (0,o2,[]) o23 (Qu (tA J) (hA J) (kA J) J (Nat.le_trans hv1 (lb J)) J J J (bB J J (bG J (bA J))) J J) hl2 (fun s2 n2 oo2 h2 ho2=>?_)
  unfold Wu at h2
  refine Q5<|Q0<|rR J J J (Q7 J J J)<|Q3<|Q4<|Q5 ?_
  refine Qh (b:=(decide (s2.1 < (y6.length:Int)))) J (fun c24=>?_) (fun c24=>?_)
  replace h2:=Qk c24 h2
  refine Qm<|Q4<|Q5<|Qf<|Q5<|Q0 ?_
  refine Qb h2 (fun x25 hx25 h2=>?_)
  refine rR J J J (Qy (α:=Tm) Jl J (.app _ _) J hx25)<|rR J J J (Qv (x25:Tm) QV J)<|Q9 J J (lb J) (Qj K4 J)<|Qx J J (Qz (x25:Tm) QV J J J J J)<|Q3<|Q4<|Q5<|Q0<|rR J J J (QN (x25:Tm) QV J J) ?_
  refine Qb h2 (fun x26 hx26 h2=>?_)
  refine Q9 J J (lb J) (Qq (m58_ok x25 x26 hx26) J (.cons (.agg (.cons (.d _) (.cons (.d _) (.cons (.d _) (.cons (.d _) (.cons (.d _) .nil)))))) .nil))<|rR J J J (QA (α:=Bs) Yc J (.d _))<|rM J J J<|Q3<|Q4<|Qf ?_
  refine QY 2 (fun (o27:(Qa Bs Bool)×(List Bs))=>⟨[(0,.v (.one (.yld 9))),(2,.v (.one (.ptr 4 0))),(10,.v (.one (dA 5 y6))),(11,.v (.one (dI (y6.length:Int)))),(12,.v (.one (dI s2.1)))],[(0,.cells 45 (cE a0)),(1,.mp (QO o27.1.1) o27.1.2),(2,.cells 80 [.mp 1]),(3,.cells 51 [dA 7 o27.2]),(4,.cells 45 (cE a0)),(6,.cells 31 [dA 5 y6]),(8,.obj (.deferred (some []))),(9,XD),(10,.cells 33 (cE x25))],[(5,some ⟨33,5,(Enc.encL y6).length,[]⟩),(7,some ⟨9,1,(Enc.encL o27.2).length,[]⟩)],11,42,[]⟩) (fun (o27:(Qa Bs Bool)×(List Bs))=>(some (.next ((J9 (s2.1+1)),o27.1,o27.2)))=some oo2) ?_ ?_
  refine Qb h2 (fun o28 hl3 h2=>?_)
  refine QX (Wv x26) (fun s3=>⟨[(0,.v (.one (.yld 9))),(2,.v (.one (.ptr 4 0))),(10,.v (.one (dA 5 y6))),(11,.v (.one (dI (y6.length:Int)))),(12,.v (.one (dI s2.1))),(17,.v (.one (dS x26))),(18,.v (.one (dI (x26.length:Int)))),(19,.v (.one (dI s3.1)))],[(0,.cells 45 (cE a0)),(1,.mp (QO s3.2.1.1) s3.2.1.2),(2,.cells 80 [.mp 1]),(3,.cells 51 [dA 7 s3.2.2]),(4,.cells 45 (cE a0)),(6,.cells 31 [dA 5 y6]),(8,.obj (.deferred (some []))),(9,XD),(10,.cells 33 (cE x25))],[(5,some ⟨33,5,(Enc.encL y6).length,[]⟩),(7,some ⟨9,1,(Enc.encL s3.2.2).length,[]⟩)],11,42,[]⟩) (0,s2.2.1,s2.2.2) o28 (Qu (tA J) (hA J) (kA J) J (Nat.le_trans hv1 (lb J)) J J J (bB J J (bG J (bA J))) J J) hl3 (fun s3 n3 oo3 h3 ho3=>?_)
  unfold Wv at h3
  refine Q5<|Q0<|rR J J J (Q7 J J J)<|Q3<|Q4<|Q5 ?_
  refine Qh (b:=(decide (s3.1 < (x26.length:Int)))) J (fun c29=>?_) (fun c29=>?_)
  replace h3:=Qk c29 h3
  refine Qm<|Q4<|Q5<|Qf<|Q5<|Q0 ?_
  refine Qb h3 (fun x30 hx30 h3=>?_)
  refine rR J J J (Qy (α:=Bs) Yc J (.d _) J hx30)<|rR J J J (JQ JV J J)<|rA J J J<|Q3<|Q4<|Q5<|Q0<|rM J J J<|rM J J J ?_
  refine Qb h3 (fun y31 h4 h3=>?_)
  have ha32:ExecOK Try.prog (some 9) Za ⟨[(3,.v (.one (.ptr 2 0))),(6,.v (.one (.ptr 3 0))),(20,.v (.one (.fn 57 [(6,0),(4,0)]))),(21,.v (.one (Jn x30)))],m24_h10 a0 s3 y6 x25,[(5,some ⟨33,5,(Enc.encL y6).length,[]⟩),(7,some ⟨9,1,(Enc.encL s3.2.2).length,[]⟩)],11,33,[]⟩ .normal ⟨[(3,.v (.one (.ptr 2 0))),(6,.v (.one (.ptr 3 0))),(7,.v (.one (Jn x30)))],m24_h10 a0 s3 y6 x25,[(5,some ⟨33,5,(Enc.encL y6).length,[]⟩),(7,some ⟨9,1,(Enc.encL s3.2.2).length,[]⟩)],11,33,[]⟩:=by
   refine QI (fun w0 M V0 ro n Q hv4 hro4 hQn4=>?_)
   refine Q0<|rA J J J<|Q3 ?_
   exact Jq hQn4 (Qu (tA J) (hA J) (kA J) J (Nat.le_trans hv4 (lb J)) J J J (bB J J (bG J (bA J))) J J)
  have hb33:ExecOK Try.prog (some 9) Z9 ⟨[(3,.v (.one (.ptr 2 0))),(6,.v (.one (.ptr 3 0))),(7,.v (.one (Jn x30)))],m24_h12 a0 s3 y6 x25,[(5,some ⟨33,5,(Enc.encL y6).length,[]⟩),(7,some ⟨9,1,(Enc.encL s3.2.2).length,[]⟩)],11,33,[]⟩ .normal ⟨[],m24_h13 a0 y31 y6 x25,[(5,some ⟨33,5,(Enc.encL y6).length,[]⟩),(7,some ⟨9,1,(Enc.encL y31.2).length,[]⟩)],11,33,[]⟩:=by
   refine QI (fun w0 M V0 ro n Q hv4 hro4 hQn4=>?_)
   refine Qf<|Q5<|Q0<|rR J J J (Q6 XT J J J)<|rM J J J<|rR J J J (YT (M:=s3.2.1) (k:=x30) Xp Xk J J J)<|rR J J J (Ji J)<|Q3<|Q4 ?_
   refine Qh (b:=(!(Qn s3.2.1 x30))) J (fun c34=>?_) (fun c34=>?_)
   replace h4:=Qk c34 h4
   refine Q5<|Q0<|rR J J J (Q6 XT J J J)<|rM J J J<|Qx J J (Jh (M:=s3.2.1) (k:=x30) (v:=true) Xp J J J J J)<|Q3<|Q4<|Q0<|rR J J J (Q6 Wb J J J)<|rM J J J<|Q9 J J (lb J) (Y4 (α:=Bs) (x30) Yc DS J J (lb J) (lb J) J J (.cons (.d _) .nil) J) ?_
   refine Yo h4 (fun g35 h4=>?_)
   refine Q9 J J (lb J) (Y5 (α:=Bs) Yc De J J J J J (.app _ _) g35)<|Qx J J (Qt Wb J J J J (lb J) J)<|Q3<|Qe ?_
   have e:=sI h4;subst e
   exact Jq hQn4 (Qu tZ (hA J) (kA J) J (Nat.le_trans hv4 (lb J)) J J J (bB J J (bG J (bA J))) J J)
   replace h4:=Ql c34 h4
   refine Qm<|Qe ?_
   have e:=sI h4;subst e
   exact Jq hQn4 (Qu tZ (hA J) (kA J) J (Nat.le_trans hv4 (lb J)) J J J (bB J J (bG J (bA J))) J J)
  refine Q9 J J (lb J) (Je (jump:=none) J J J J J (Qw ha32 (fun E hv=>(Qu (tA J) (hA J) (kA J) J (Nat.le_trans hv (lb J)) J J J (bB J J (bG J (bA J))) J J))) J (Qw hb33 (fun E hv=>(Qu (tA J) (hA J) (kA J) J (Nat.le_trans hv (lb J)) J J J (bB J J (bG J (bA J))) J J))) J J) ?_
  refine rR J J J (Ji J)<|Q3<|Q4 ?_
  refine Qh J (fun h=>nomatch h) (fun _=>?_)
  refine Qm<|Qe<|Q4<|Q0<|rR J J J (Q7 J J J)<|rM J J J<|Q3 ?_
  have e:=sI h3;subst e
  refine QR ((J9 (s3.1+1)),y31.1,y31.2) (Qu (tA J) (hA J) (kA J) J (Nat.le_trans hv1 (lb J)) J J J (bB J J (bG J (bA J))) J J) ho3
  replace h3:=Ql c29 h3
  refine J5<|Qo<|Qo ?_
  have e:=sI h3;subst e
  have e_:_=_:=ho3
  subst e_
  exact QW (s3.2.1,s3.2.2) (Qu (tA J) (hA J) (kA J) J (Nat.le_trans hv1 (lb J)) J J J (bB J J (bG J (bA J))) J J) h2
  intro o27 h2
  refine QM<|Qe<|Q4<|Q0<|rR J J J (Q7 J J J)<|rM J J J<|Q3 ?_
  have e:=sI h2;subst e
  refine QR ((J9 (s2.1+1)),o27.1,o27.2) (Qu (tA J) (hA J) (kA J) J (Nat.le_trans hv1 (lb J)) J J J (bB J J (bG J (bA J))) J J) ho2
  replace h2:=Ql c24 h2
  refine J5<|Qo<|Qo ?_
  have e:=sI h2;subst e
  have e_:_=_:=ho2
  subst e_
  exact QW (s2.2.1,s2.2.2) (Qu (tA J) (hA J) (kA J) J (Nat.le_trans hv1 (lb J)) J J J (bB J J (bG J (bA J))) J J) h1
  intro o22 h1
  refine QM<|Q4<|Q5<|Q0<|rR J J J (Q2 YC J)<|rR J J J (Q6 K1 J J J)<|rR J J J (QA (α:=Fn) YL J (.d _))<|rM J J J<|Q3<|Q4<|Qf ?_
  refine QY 4 (fun (o36:(Qa Bs Bool)×(List Bs))=>⟨[],[(0,.cells 45 (cE a0)),(1,.mp (QO o36.1.1) o36.1.2),(2,.cells 80 [.mp 1]),(3,.cells 51 [dA 7 o36.2]),(4,.cells 45 (cE a0)),(6,.cells 31 [dA 5 y6]),(8,.obj (.deferred (some []))),(9,XD)],[(5,some ⟨33,5,(Enc.encL y6).length,[]⟩),(7,some ⟨9,1,(Enc.encL o36.2).length,[]⟩)],10,42,[]⟩) (fun (o36:(Qa Bs Bool)×(List Bs))=>(some (o36.1,o36.2))=some y20) ?_ ?_
  refine Qb h1 (fun o37 hl2 h1=>?_)
  refine QX (XA a0 y6) (fun s2=>⟨[(0,.v (.one (.yld 9))),(30,.v (.one (dS a0.funs))),(31,.v (.one (dI (a0.funs.length:Int)))),(32,.v (.one (dI s2.1)))],[(0,.cells 45 (cE a0)),(1,.mp (QO s2.2.1.1) s2.2.1.2),(2,.cells 80 [.mp 1]),(3,.cells 51 [dA 7 s2.2.2]),(4,.cells 45 (cE a0)),(6,.cells 31 [dA 5 y6]),(8,.obj (.deferred (some []))),(9,XD)],[(5,some ⟨33,5,(Enc.encL y6).length,[]⟩),(7,some ⟨9,1,(Enc.encL s2.2.2).length,[]⟩)],10,42,[]⟩) (0,o22.1,o22.2) o37 (Qu (tA J) (hA J) (kA J) J (Nat.le_trans hv1 (lb J)) J J J (bB J J (bG J (bA J))) J J) hl2 (fun s2 n2 oo2 h2 ho2=>?_)
  unfold XA at h2
  refine Q5<|Q0<|rR J J J (Q7 J J J)<|Q3<|Q4<|Q5 ?_
  refine Qh (b:=(decide (s2.1 < (a0.funs.length:Int)))) J (fun c38=>?_) (fun c38=>?_)
  replace h2:=Qk c38 h2
  refine Qm<|Q4<|Q5<|Qf<|Q5<|Q0 ?_
  refine Qb h2 (fun x39 hx39 h2=>?_)
  refine rR J J J (Qy (α:=Fn) YL J (.d _) J hx39)<|rR J J J (Qv (x39:Fn) ZF J)<|Q9 J J (lb J) (Qj UU J)<|Qx J J (Qz (x39:Fn) ZF J J J J J)<|Q3<|Q4<|Q5<|Q0<|rR J J J (Q2 fo_76_3 J)<|rR J J J (Qi Up J J J J)<|rM J J J ?_
  refine Qb h2 (fun x40 hx40 h2=>?_)
  refine Q9 J J (lb J) (Jj (hp1':=[(9,.loop .ready none [(3,.v (.one (.ptr 2 0))),(6,.v (.one (.ptr 3 0))),(20,.v (.one (.fn 57 [(6,0),(4,0)])))] 33 #[21] Za Z9 8),(8,.obj (.deferred (some []))),(2,.cells 80 [.mp 1]),(1,.mp (QO x40.2.1.1) x40.2.1.2),(3,.cells 51 [dA 7 x40.2.2]),(6,.cells 31 [dA 5 y6]),(4,.cells 45 (cE a0))]) (tk1':=[(7,some ⟨9,1,(Enc.encL x40.2.2).length,[]⟩),(5,some ⟨33,5,(Enc.encL y6).length,[]⟩)]) (hpF:=[(0,.cells 45 (cE a0)),(10,.cells 76 (cE x39))]) (tkF:=[]) (res2:=QK [.one (dB x40.1)]) (nx2:=13) [9,8,2,1,3,7,6,5,4] J J (m59f13_ok x39.tree s2.2.1 s2.2.2 y6 a0 x40 hx40) J J (qB J J (qB J J (qB J J (qG J (qB J J (qB J J (qB J J qZ))))))) J J (gR J (gR J (gR J (gG J (gR J (gR J (gR J gZ))))))) (jR J (jR J jZ)) (hA J) kZ J J J J J (bB J J (bB J J (bB J J (bG J (bA J))))) J J J J)<|rR J J J (Ji J)<|Q3<|Q4 ?_
  refine Qh (b:=(!x40.1)) J (fun c41=>?_) (fun c41=>?_)
  replace h2:=Qk c41 h2
  refine QD ?_
  have e:=sI h2;subst e
  have e_:_=_:=ho2
  subst e_
  try dsimp only [Sum.elim_inl,Sum.elim_inr] at h1
  have e:=sI h1;subst e
  exact hQ1 _ _ _ (.inr J) J (Qu tZ (hA J) (kA J) J (Nat.le_trans hv1 (lb J)) J J J (bB J J (bG J (bA J))) J J)
  replace h2:=Ql c41 h2
  refine Qm<|Qe<|Q4<|Q0<|rR J J J (Q7 J J J)<|rM J J J<|Q3 ?_
  have e:=sI h2;subst e
  refine QR ((J9 (s2.1+1)),x40.2.1,x40.2.2) (Qu (tA J) (hA J) (kA J) J (Nat.le_trans hv1 (lb J)) J J J (bB J J (bG J (bA J))) J J) ho2
  replace h2:=Ql c38 h2
  refine J5<|Qo<|Qo ?_
  have e:=sI h2;subst e
  have e_:_=_:=ho2
  subst e_
  exact QW (s2.2.1,s2.2.2) (Qu tZ (hA J) (kA J) J (Nat.le_trans hv1 (lb J)) J J J (bB J J (bG J (bA J))) J J) h1
  intro o36 h1
  refine QM ?_
  have e:=sI h1;subst e
  exact hQ1 _ _ _ (.inl J) J (Qu tZ (hA J) (kA J) J (Nat.le_trans hv1 (lb J)) J J J (bB J J (bG J (bA J))) J J)
 refine ZU (Y1 (e:=.normal) rfl hc21 rfl rfl (by intro h;cases h) rfl) rfl ?_
 refine Qe<|Q4<|Q5<|Q0<|rR J J J (Q6 Wb J J J)<|rA J J J<|Q3<|Q4<|QD ?_
 have e:=sI h0;subst e
 exact QL (fun _ _ h=>h) J (QC J .nil) (.cons (.one (.app _ _ _)) .nil)
end Go.Proofs.Ytafddfoefeploaa
namespace Go.Proofs.Ytafddfoefeploaa
open Go.RowKit Go.Shelf
def m77_l0 (a0:List Bs) (a1:Bs) (s1:Int):Option (LO Int (Unit⊕Bool)) :=
 cond (decide (s1 < (a0.length:Int)))
   (Option.bind (JC a0 s1) fun (x3:Bs) =>
 cond (x3==a1)
   (some (.done (.inr true)))
   (some (.next (J9 (s1+1)))))
   (some (.done (.inl ())))
def m77 (a0:List Bs) (a1:Bs):Option Bool :=
 Option.bind (Qp (m77_l0 a0 a1) QF 0) (Sum.elim (fun (o1:Unit)=>some false) (fun o=>some o))
def m33_l0 (a0:List Bs) (a1:Bs) (s1:Int):Option (LO Int (Unit⊕Bool)) :=
 cond (decide (s1 < (a0.length:Int)))
   (Option.bind (JC a0 s1) fun (x3:Bs) =>
 cond (x3==a1)
   (some (.done (.inr true)))
   (some (.next (J9 (s1+1)))))
   (some (.done (.inl ())))
def DK (a0:List Bs) (a1:Bs):Option Bool :=
 Option.bind (Qp (m33_l0 a0 a1) QF 0) (Sum.elim (fun (o1:Unit)=>some false) (fun o=>some o))
def m23_l0 (a0:Dcl) (s1:(List Bs)×Int):Option (LO ((List Bs)×Int) (((List Bs)))) :=
 cond (decide (s1.2 < (a0.ctors.length:Int)))
   (Option.bind (JC a0.ctors s1.2) fun (x6:Ctr) =>
 Jd (Nat.ble (s1.1.length+([x6.name]).length) 1000000000)
 (some (.next ((s1.1++([x6.name])),(J9 (s1.2+1))))))
   (some (.done s1.1))
def m23_l1 (a0:Dcl) (s1:(List Bs)×Int):Option (LO ((List Bs)×Int) (((List Bs)))) :=
 cond (decide (s1.2 < (a0.funs.length:Int)))
   (Option.bind (JC a0.funs s1.2) fun (x14:Fn) =>
 Jd (Nat.ble (s1.1.length+([x14.name]).length) 1000000000)
 (some (.next ((s1.1++([x14.name])),(J9 (s1.2+1))))))
   (some (.done s1.1))
def m23 (a0:Dcl):Option ((List Bs)) :=
 Option.bind (cond (a0.kind==0)
   (some (a0.kind==0))
   (cond (a0.kind==1)
   (some (a0.kind==1))
   (some (a0.kind==2)))) (fun (v1:Bool)=>cond v1
   (some ([a0.name]))
   (cond (a0.kind==3)
   (Option.bind (Qp (m23_l0 a0) QF ([a0.name],0)) (fun (o4:(List Bs))=>Jd (Nat.ble (a0.name.length+([46,114,101,99]:List UInt8).length) 1000000000)
 (Jd (Nat.ble (o4.length+([(a0.name++([46,114,101,99]:List UInt8))]).length) 1000000000)
 (some (o4++([(a0.name++([46,114,101,99]:List UInt8))]))))))
   (cond (a0.kind==4)
   (Option.bind (Qp (m23_l1 a0) QF (([]:List Bs),0)) (fun (o12:(List Bs))=>some o12))
   (some ([]:List Bs)))))
end Go.Proofs.Ytafddfoefeploaa
