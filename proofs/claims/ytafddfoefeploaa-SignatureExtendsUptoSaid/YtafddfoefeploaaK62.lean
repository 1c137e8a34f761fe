/- Part 2 of the proof: rules, mirrors and plain laws. The statement SignatureExtendsUpto is proved here: for every list of declarations and every name the law returns true, and what it is given reads behind the call ars it did before; condition: the arguments are of bulk at most 1048576 (the second form). -/
import Derived.Test.YtafddfoefeploaaK61
import Derived.Lib.Bytes
import Derived.Laws.Cover3
import Derived.Laws.BytesArg
import Derived.Shelf.Abstract
set_option maxRecDepth 100000
set_option maxHeartbeats 2000000
set_option linter.unusedSimpArgs false
set_option linter.unusedVariables false
set_option linter.unusedSectionVars false
namespace Go.Proofs.Ytafddfoefeploaa
open Go.RowKit
abbrev DW (x:Int):CA:=.d (.v (.int .i64 x))
abbrev DX (b:Bool):CA:=.d (.v (.bool b))
abbrev DU {α:Type} [Enc α] (l:List α):CA:=.d (.sl (Enc.sz α) (Enc.encL l))
abbrev DY {α:Type} [Enc α] (n:Nat) (l:List α):CA:=.app n (Enc.sz α) (Enc.encL l)
abbrev DV:CA:=.d (.v (.slice none 0 0))
abbrev DZ {α:Type} [Enc α] (x:α):List CA:=(Enc.enc x).map CA.d
def WS {α:Type} [Enc α] (l:List α):List CA:=(Enc.encL l).flatten.map CA.d
class EncLen (α:Type) [Enc α]:Prop where
 len:∀ x:α,(Enc.enc x).length=Enc.sz α
 pos:0 < Enc.sz α
instance:EncLen Lvl:=⟨fun _=>rfl,by decide⟩
instance:EncLen LV:=⟨fun _=>rfl,by decide⟩
instance:EncLen Int:=⟨fun _=>rfl,by decide⟩
instance:EncLen Bnd:=⟨fun _=>rfl,by decide⟩
section
variable {α:Type} [Enc α] [EncLen α]
theorem encL_lens (l:List α):∀ e∈Enc.encL l,e.length=Enc.sz α:=by
 intro e he
 rw [Enc.map] at he
 obtain ⟨x,-,rfl⟩:=List.mem_map.1 he
 exact EncLen.len x
theorem flatE_len (l:List α):(WS l).length=l.length * Enc.sz α:=by
 unfold WS;rw [List.length_map,YJ _ (encL_lens l),Enc.len]
theorem flatE_get {l:List α} {k j:Nat} {x:α} (h:l[k]?=some x) (hj:j < Enc.sz α):(WS l)[k * Enc.sz α+j]?=((Enc.enc x)[j]?).map CA.d:=by
 unfold WS;rw [List.getElem?_map,flat_get _ (encL_lens l) k j _ (Enc.get h) hj]
end
section
variable {α:Type} [Enc α]
end
theorem setL_app:∀ (ys ars xs:List CA) (off:Nat),setL (ars++xs) (ars.length+off) ys=ars++setL xs off ys
 | [],ars,xs,off=>rfl
 | y::ys,ars,xs,off=>by
  simp only [setL]
  rw [List.set_append_right _ _ (by omega),Nat.add_sub_cancel_left,Nat.add_assoc,setL_app ys]
theorem Ko:∀ (ys ars xs:List CA),ars.length=ys.length→setL (ars++xs) 0 ys=ys++xs
 | [],[],xs,_=>rfl
 | y::ys,a::ars,xs,h=>by
  have h2:=setL_app ys [y] (ars++xs) 0
  simp only [List.length_singleton] at h2
  simp only [setL,List.cons_append,List.set_cons_zero]
  rw [show (y::(ars++xs))=[y]++(ars++xs) from rfl,show 0+1=1+0 from rfl,h2,Ko ys ars xs (by simpa using h)];rfl
section
variable {E:Env} {st:St} {dd d:Option Tmp} {ty:TypeId} {pos:String} {af:Array Edge} {g:Option (Nat×Bool)}
theorem RO.sliceTo {α:Type} [Enc α] {t e:Nat} {o hi:Operand} {y:CA} {l:List α} {m:Int} (ht:Jn E.P t=some (e,Enc.sz α)) (hx:ev st.tm o=some (.v (.one y))) (hs:SlE y l) (hhi:ev st.tm hi=some (TI m)) (hm:(cond (decide (0≤m)) (Nat.ble m.toNat l.length) false)=true) :
  RO E ⟨d,.slice t o none (some hi) none,ty,pos,af,g⟩ st (.v (.one (.d (.sl (Enc.sz α) (Enc.encL (l.take m.toNat)))))):=by
 have h0:0≤m:=of_decide_eq_true (cond_left hm)
 have hb:=cond_right hm
 obtain ⟨k,rfl⟩:∃ k:Nat,m=(k:Int):=⟨m.toNat,(Int.toNat_of_nonneg h0).symm⟩
 simp only [Int.toNat_natCast] at hb ⊢
 have:=RO.sliceE (E:=E) (st:=st) (d:=d) (ty:=ty) (pos:=pos) (af:=af) (g:=g) (a:=0) (b:=k) ht hx hs (lo:=none) (hi:=some hi) (mx:=none) (by
  have:ev st.tm hi=some (.v (.one (.d (.v (.int .i64 (.ofNat k)))))):=hhi
  simp only [Xa,hiOf,loOf,this,hb,cond_true])
 rw [List.drop_zero,Nat.sub_zero] at this
 exact this
end
inductive ORen (b:Nat):List AV→List AV→Prop
 | nil:ORen b [] []
 | osl {off n c:Nat} {xs ys:List AV} (t:ORen b xs ys):ORen b (.one (.osl b off n c)::xs) (.one (.osl 0 off n c)::ys)
 | one {x:CA} {c:C} {xs ys:List AV} (h:CSub x c) (t:ORen b xs ys):ORen b (.one x::xs) (.one (.d c)::ys)
 | agg {x y:List CA} {xs ys:List AV} (h:LSub x y) (t:ORen b xs ys):ORen b (.agg x::xs) (.agg y::ys)
theorem Dy {tm:List (Nat×TV)}:tmLe tm []:=trivial
theorem hZ {hp:List (Nat×HB)}:hpLe hp []:=trivial
theorem DQ {hp r:List (Nat×HB)} {t:Nat} {y:HB} (h:DL hp t=some y) (l:hpLe hp r):hpLe hp ((t,y)::r):=⟨⟨y,h,.refl y⟩,l⟩
theorem hC {hp r:List (Nat×HB)} {t:Nat} {T:TypeId} {xs ys:List CA} (h:DL hp t=some (.cells T xs)) (k:CLs xs ys) (l:hpLe hp r):hpLe hp ((t,.cells T ys)::r):=⟨⟨_,h,.cells k⟩,l⟩
theorem DN {tk:List (Nat×Option Tok)}:tkLe tk []:=trivial
theorem bZ {m:Nat}:hpBelow m []:=trivial
theorem bB {m i:Nat} {x:HB} {r:List (Nat×HB)} (h:Nat.blt i m=true) (k:x.belowB m=true) (l:hpBelow m r):hpBelow m ((i,x)::r):=⟨GL h,HB.belowB_ok k,l⟩
theorem QH {E:Env} {st st':St} (h1:tmLe st.tm st'.tm) (h2:hpLe st.hp st'.hp) (h3:tkLe st.tk st'.tk) (h4:Nat.ble st'.nx st.nx=true) (h5:E.V0.nx≤st'.nx) (h6:st.nt=st'.nt) (h7:st.df=st'.df)
  (h8:(st'.tm.all fun p=>p.2.belowB st'.nx)=true) (h9:hpBelow st'.nx st'.hp) (h10:(st'.tk.all fun p=>Nat.blt p.1 st'.nx)=true) (h11:(st'.df.take 1).all (fun i=>Nat.blt i st'.nx)=true):StLe E st st':=by
 refine ⟨h1,h2,h3,DM h4,h5,h6,h7,?_,h9,?_,fun i hi=>GL (List.all_eq_true.1 h11 i (by cases hd:st'.df with
  | nil=>rw [hd] at hi;cases hi
  | cons x l=>rw [hd] at hi;cases hi;simp))⟩
 ·have:∀ l:List (Nat×TV),(l.all fun p=>p.2.belowB st'.nx)=true→tmBelow st'.nx l:=by
   intro l
   induction l with
   | nil=>intro _;trivial
   | cons p l ih=>intro h;simp only [List.all_cons,Bool.and_eq_true] at h;exact ⟨TV.belowB_ok h.1,ih h.2⟩
  exact this _ h8
 ·have:∀ l:List (Nat×Option Tok),(l.all fun p=>Nat.blt p.1 st'.nx)=true→tkBelow st'.nx l:=by
   intro l
   induction l with
   | nil=>intro _;trivial
   | cons p l ih=>intro h;simp only [List.all_cons,Bool.and_eq_true] at h;exact ⟨GL h.1,ih h.2⟩
  exact this _ h10
theorem W7 {α β γ:Type} {y:α⊕β} {f:α→Option γ} {g:β→Option γ} {r:γ} {G:Prop} {C:α⊕β→Prop} (hc:C y) (h:Sum.elim f g y=some r) (k1:∀ a,C (.inl a)→f a=some r→G) (k2:∀ b,C (.inr b)→g b=some r→G):G:=by
 cases y with
 | inl a=>exact k1 a hc h
 | inr b=>exact k2 b hc h
theorem Jc {P:Program} {f:FuncId} {fn:Func} {c:Code} {args:List AV} {m:Mem} (stf:St) {xs:List AV} (hf:P.funcs[f]?=some fn) (hb:fn.body=some c) (hen:J4 P f) (hnt:args.length≤fn.ntmps)
  (hdf:stf.df=[]) (hres:RAs P stf fn.results.toList xs)
  (h:∀ (w0:World) (M:Nat→Prop) (V0:Vu) (Q:Exit→Act→World→Prop),V0.nx≤m.nx →
   (∀ (e:Exit) (st':St) (hp':List (Nat×HB)),(e=.normal∨e=.ret)→G6 st'.df st'.hp=some hp'→StLe ⟨P,w0,M,V0⟩ ⟨st'.tm,hp',st'.tk,st'.nx,st'.nt,[]⟩ stf→XQ ⟨P,w0,M,V0⟩ Q e st')→XC ⟨P,w0,M,V0⟩ none 0 Q c ⟨Jb 0 args,m.hp,m.tk,m.nx,fn.ntmps,[]⟩) (hP0:P=Try.prog:=by rfl) :
  CallM P f args m (QP xs) ⟨stf.hp,stf.tk,stf.nx⟩:=by
 refine ⟨hen,fun E V w vs hP H hn hargs=>?_⟩
 refine (callsIn_wide (n:=0)).1 (callsIn_of_wpV (F:=Fence.wide) (vf_of hP0 hf) hf hb trivial ?_)
 have hR0:Rel (E.at V w) V ⟨Jb 0 args,m.hp,m.tk,m.nx,fn.ntmps,[]⟩ { tmps:=vs++Array.replicate (fn.ntmps - vs.size) undef,defers:=[]} w:=by
  refine ⟨H.rebase,hn,by simp [hargs.1];omega,dfRel.nil,fun t x hx=>?_⟩
  obtain ⟨k,y,h1,h2,rfl⟩:=X8 args 0 t x hx
  obtain ⟨u,hu,hy⟩:=hargs.2 k y h2
  have hk:k < vs.size:=(Array.getElem?_eq_some_iff.1 hu).1
  have:(vs++Array.replicate (fn.ntmps - vs.size) undef).getD t undef=u:=by
   rw [show t=k by omega,Array.getD_eq_getD_getElem?,Array.getElem?_append_left hk,hu];rfl
  rw [this];exact hy
 have key:∀ (st':St) (hp':List (Nat×HB)) (V1:Vu) (a1:Act) (w1:World),G6 st'.df st'.hp=some hp'→StLe (E.at V w) ⟨st'.tm,hp',st'.tk,st'.nx,st'.nt,[]⟩ stf→Rel (E.at V w) V1 st' a1 w1 →
   LeavesInM Fence.wide 0 P fn a1.tmps (fun e w'=>∃ v V',e=.returned v∧HRel E V' stf.hp stf.tk w'∧V'.nx=stf.nx∧V.Le V' w w'∧(QP xs).rel V' w' v) a1.defers .returning w1:=by
  intro st' hp' V1 a1 w1 htm hle hr1
  refine leaves_marks st'.df a1.defers st'.hp hp' w1 hr1.h hr1.df htm (fun w' V1' H' hn' L'=>?_)
  have hr':Rel (E.at V w) V1' ⟨st'.tm,hp',st'.tk,st'.nx,st'.nt,[]⟩ { tmps:=a1.tmps,defers:=[]} w':=⟨H',hn'.trans hr1.nx,hr1.nt,dfRel.nil,fun t x hx=>(hr1.tm t x hx).keep L'⟩
  obtain ⟨V2,hr2⟩:=hr'.less hle
  obtain ⟨v,h1,h2⟩:=results_run (E:=E.at V w) hres hP hr2
  obtain ⟨H5,L5⟩:=H.back hr2.h
  exact ⟨v,h1,v,V2,Z,H5,hr2.nx,L5,h2⟩
 have hgo:∀ E':Env,E'=E.at V w→E'.P=P→E'.V0=V→XC E' none 0 (bodyPostM Fence.wide 0 P fn (fun e w'=>∃ v V',e=.returned v∧HRel E V' stf.hp stf.tk w'∧V'.nx=stf.nx∧V.Le V' w w'∧(QP xs).rel V' w' v)) c ⟨Jb 0 args,m.hp,m.tk,m.nx,fn.ntmps,[]⟩:=by
  rintro ⟨P',w0,M,V0⟩ he hP' hV'
  dsimp only at hP' hV'
  subst hP'
  refine h w0 M V0 _ (by rw [hV',hn];exact Nat.le_refl _) ?_
  rintro e st' hp' (rfl | rfl) htm hle
  ·intro V1 a1 w1 hr1;rw [he] at hr1 hle;exact key st' hp' V1 a1 w1 htm hle hr1
  ·intro V1 a1 w1 hr1;rw [he] at hr1 hle;exact key st' hp' V1 a1 w1 htm hle hr1
 have:=hgo (E.at V w) rfl hP rfl V _ w hR0
 rw [show (E.at V w).P=P from hP] at this
 exact this
theorem CallM.of_bodyS {P:Program} {f:FuncId} {fn:Func} {c:Code} {args:List AV} {m:Mem} {Y:Type} (y:Y) (stf:Y→St) {xs:List AV} (hf:P.funcs[f]?=some fn) (hb:fn.body=some c) (hen:J4 P f) (hnt:args.length≤fn.ntmps)
  (hdf:∀ y,(stf y).df=[]) (hres:∀ y,RAs P (stf y) fn.results.toList xs)
  (h:∀ (w0:World) (M:Nat→Prop) (V0:Vu) (Q:Exit→Act→World→Prop),V0.nx≤m.nx →
   (∀ (e:Exit) (st':St) (hp':List (Nat×HB)),(e=.normal∨e=.ret)→G6 st'.df st'.hp=some hp'→StLe ⟨P,w0,M,V0⟩ ⟨st'.tm,hp',st'.tk,st'.nx,st'.nt,[]⟩ (stf y)→XQ ⟨P,w0,M,V0⟩ Q e st')→XC ⟨P,w0,M,V0⟩ none 0 Q c ⟨Jb 0 args,m.hp,m.tk,m.nx,fn.ntmps,[]⟩) (hP0:P=Try.prog:=by rfl) :
  CallM P f args m (QP xs) ⟨(stf y).hp,(stf y).tk,(stf y).nx⟩:=Jc (stf y) hf hb hen hnt (hdf y) (hres y) h hP0
section
variable {E:Env} {ro:Option Nat} {n:Nat} {Q:Exit→Act→World→Prop} {st:St} {c:Code}
end
end Go.Proofs.Ytafddfoefeploaa
namespace Go.Proofs.Ytafddfoefeploaa
open Go.RowKit
def Dg {β:Type} (l:List (Nat×β)):List (Nat×β)→List (Option β)
  | []=>[]
  | (t,_)::r=>DL l t::Dg l r
def Wz {β:Type}:List (Nat×β)→List (Option β)
  | []=>[]
  | (_,y)::r=>some y::Wz r
theorem Dz {tm:List (Nat×TV)}:∀ {r:List (Nat×TV)},Dg tm r=Wz r→tmLe tm r
  | [],_=>trivial
  | (_,_)::_,h=>⟨⟨_,(List.cons.inj h).1,.refl _⟩,Dz (List.cons.inj h).2⟩
theorem hA {hp:List (Nat×HB)}:∀ {r:List (Nat×HB)},Dg hp r=Wz r→hpLe hp r
  | [],_=>trivial
  | (_,_)::_,h=>⟨⟨_,(List.cons.inj h).1,.refl _⟩,hA (List.cons.inj h).2⟩
theorem DO {tk:List (Nat×Option Tok)}:∀ {r:List (Nat×Option Tok)},Dg tk r=Wz r→tkLe tk r
  | [],_=>trivial
  | (_,_)::_,h=>⟨fun T e=>by rw [(List.cons.inj h).1,e],DO (List.cons.inj h).2⟩
def belA (m:Nat):List (Nat×HB)→Bool
  | []=>true
  | (i,x)::r=>Nat.blt i m&&(x.belowB m&&belA m r)
theorem bA {m:Nat}:∀ {r:List (Nat×HB)},belA m r=true→hpBelow m r
  | [],_=>trivial
  | (_,_)::_,h=>by
    have a:=Bool.and_eq_true_iff.1 h
    have b:=Bool.and_eq_true_iff.1 a.2
    exact ⟨GL a.1,HB.belowB_ok b.1,bA b.2⟩
theorem DA {E:Env} {st st':St} (h5:E.V0.nx≤st'.nx) (h1:Dg st.tm st'.tm=Wz st'.tm) (h2:Dg st.hp st'.hp=Wz st'.hp) (h3:Dg st.tk st'.tk=Wz st'.tk) (h6:(st.nt,st.df)=(st'.nt,st'.df))
  (h4:(Nat.ble st'.nx st.nx&&((st'.tm.all fun p=>p.2.belowB st'.nx)&&(belA st'.nx st'.hp&&((st'.tk.all fun p=>Nat.blt p.1 st'.nx)&&(st'.df.take 1).all (fun i=>Nat.blt i st'.nx)))))=true):StLe E st st':=by
 have a:=Bool.and_eq_true_iff.1 h4
 have b:=Bool.and_eq_true_iff.1 a.2
 have c:=Bool.and_eq_true_iff.1 b.2
 have d:=Bool.and_eq_true_iff.1 c.2
 exact QH (Dz h1) (hA h2) (DO h3) a.1 h5 (Prod.mk.inj h6).1 (Prod.mk.inj h6).2 b.1 (bA c.1) d.1 d.2
end Go.Proofs.Ytafddfoefeploaa
namespace Go.Proofs.Ytafddfoefeploaa
open Go.RowKit
theorem ownsRow_same {w w':World} {b e s n:Nat} {v:Value} {xs:List Value} (h:w.ownsRow b e s v n xs) (hs:∀ g,v.ownBlock=some g→w'.heap[g]?=w.heap[g]?):w'.ownsRow b e s v n xs:=by
 obtain ⟨h1,h2⟩:=h
 refine ⟨h1,h2.imp id ?_⟩
 rintro ⟨g,cap,cur,rfl,h3,h4,h5⟩
 exact ⟨g,cap,cur,Z,h3,(hs g Z).trans h4,h5⟩
def Xo (V:Vu) (hp:List (Nat×HB)) (tk:List (Nat×Option Tok)) (k:Nat):Prop :=
 (∃ i B,DL hp i=some B∧V.ι i=k)∨∃ i T,DL tk i=some (some T)∧(V.κ i T.n).ownBlock=some k
theorem lk_app {α:Type}:∀ (a b:List (Nat×α)) (i:Nat),DL (a++b) i=match DL a i with
    | some x=>some x
    | none=>DL b i
  | [],b,i=>rfl
  | (k,x)::a,b,i=>by
    rw [List.cons_append,QZ,QZ]
    split
    · rfl
    · exact lk_app a b i
theorem Yy {α:Type} {a b:List (Nat×α)} {i:Nat} {x:α} (h:DL (a++b) i=some x):DL a i=some x∨DL b i=some x:=by
 rw [lk_app] at h
 cases h1:DL a i with
 | none=>rw [h1] at h;exact .inr h
 | some y=>rw [h1] at h;exact .inl h
theorem lk_memF {α:Type}:∀ {a:List (Nat×α)} {i:Nat} {x:α},DL a i=some x→(i,x)∈a
  | [],i,x,h=>by cases h
  | (k,y)::a,i,x,h=>by
    rw [QZ] at h
    split at h
    · rename_i e;subst e;cases h;exact List.mem_cons_self
    · exact List.mem_cons_of_mem _ (lk_memF h)
def Wr:List Nat→Nat→Nat→Nat
 | [],n,i=>n+i
 | j::_,_,0=>j
 | _::r,n,i+1=>Wr r n i
theorem rho_lt:∀ {rs:List Nat} {n i:Nat},i < rs.length→∃ j,rs[i]?=some j∧Wr rs n i=j
 | [],n,i,h=>by simp at h
 | j::r,n,0,h=>⟨j,rfl,rfl⟩
 | j::r,n,i+1,h=>rho_lt (rs:=r) (n:=n) (i:=i) (by simpa using h)
theorem Xv:∀ {rs:List Nat} {n i:Nat},rs.length≤i→Wr rs n i=n+(i - rs.length)
 | [],n,i,h=>rfl
 | j::r,n,0,h=>by simp at h
 | j::r,n,i+1,h=>by
  have h1:r.length≤i:=by simpa using h
  have h2:=Xv (rs:=r) (n:=n) (i:=i) h1
  simp only [Wr,List.length_cons]
  omega
theorem KJ {rs:List Nat} {n i:Nat} (h:i < rs.length):Wr rs n i∈rs:=by
 obtain ⟨j,h1,h2⟩:=rho_lt (n:=n) h
 rw [h2];exact List.mem_of_getElem? h1
theorem nodup_get {α:Type}:∀ {l:List α} {i j:Nat} {a:α},l.Nodup→l[i]?=some a→l[j]?=some a→i=j
 | [],i,j,a,_,h,_=>by simp at h
 | x::l,0,0,a,_,_,_=>rfl
 | x::l,0,j+1,a,hn,h1,h2=>by
  simp at h1 h2
  subst h1
  exact absurd (List.mem_of_getElem? h2) (List.nodup_cons.1 hn).1
 | x::l,i+1,0,a,hn,h1,h2=>by
  simp at h1 h2
  subst h2
  exact absurd (List.mem_of_getElem? h1) (List.nodup_cons.1 hn).1
 | x::l,i+1,j+1,a,hn,h1,h2=>by
  simp at h1 h2
  rw [nodup_get (List.nodup_cons.1 hn).2 h1 h2]
theorem rho_inj {rs:List Nat} {n:Nat} (hnd:rs.Nodup) (hlt:∀ j∈rs,j < n) {i j:Nat} (h:Wr rs n i=Wr rs n j):i=j:=by
 by_cases h1:i < rs.length <;> by_cases h2:j < rs.length
 ·obtain ⟨a,h3,h4⟩:=rho_lt (n:=n) h1
  obtain ⟨b,h5,h6⟩:=rho_lt (n:=n) h2
  rw [h4,h6] at h
  subst h
  exact nodup_get hnd h3 h5
 ·have:=hlt _ (KJ (n:=n) h1)
  rw [h,Xv (Nat.le_of_not_lt h2)] at this;omega
 ·have:=hlt _ (KJ (n:=n) h2)
  rw [← h,Xv (Nat.le_of_not_lt h1)] at this;omega
 ·rw [Xv (Nat.le_of_not_lt h1),Xv (Nat.le_of_not_lt h2)] at h;omega
def CA.ren (ρ:Nat→Nat):CA→CA
 | .d c=>.d c
 | .ptr i off=>.ptr (ρ i) off
 | .pel e off=>.pel e off
 | .fn f caps=>.fn f (caps.map fun p=>(ρ p.1,p.2))
 | .app i sz es=>.app (ρ i) sz es
 | .apv i sz n es=>.apv (ρ i) sz n es
 | .tp i n off=>.tp (ρ i) n off
 | .osl i off len cap=>.osl (ρ i) off len cap
 | .mp i=>.mp (ρ i)
 | .yld i=>.yld (ρ i)
 | .clo f caps=>.clo f caps
 | .any=>.any
def AV.ren (ρ:Nat→Nat):AV→AV
 | .one x=>.one (x.ren ρ)
 | .agg xs=>.agg (xs.map (CA.ren ρ))
def TV.ren (ρ:Nat→Nat):TV→TV
 | .v x=>.v (x.ren ρ)
 | .tup xs=>.tup (xs.map (AV.ren ρ))
 | .unk=>.unk
def HB.ren (ρ:Nat→Nat):HB→HB
 | .cells T xs=>.cells T (xs.map (CA.ren ρ))
 | .obj o=>.obj o
 | .loop s p tm nt ps assign body D=>.loop s p (tm.map fun q=>(q.1,q.2.ren ρ)) nt ps assign body (ρ D)
 | .mp es c=>.mp (es.map fun e=>(e.1,e.2.1.ren ρ,e.2.2)) c
def YD (ρ:Nat→Nat) (l:List (Nat×HB)):List (Nat×HB):=l.map fun p=>(ρ p.1,p.2.ren ρ)
def Zp (ρ:Nat→Nat) (l:List (Nat×Option Tok)):List (Nat×Option Tok):=l.map fun p=>(ρ p.1,p.2)
theorem lk_map2 {α β:Type} (f:α→β):∀ (l:List (Nat×α)) (t:Nat),DL (l.map fun q=>(q.1,f q.2)) t=(DL l t).map f
  | [],t=>rfl
  | (k,x)::l,t=>by
    rw [List.map_cons,QZ,QZ]
    split
    · rfl
    · exact lk_map2 f l t
theorem lk_ren {α β:Type} {ρ:Nat→Nat} {f:α→β} (inj:∀ i j,ρ i=ρ j→i=j):∀ (l:List (Nat×α)) (i:Nat),DL (l.map fun p=>(ρ p.1,f p.2)) (ρ i)=(DL l i).map f
  | [],i=>rfl
  | (k,x)::l,i=>by
    rw [List.map_cons,QZ,QZ]
    by_cases h:k=i
    · subst h;rw [if_pos rfl,if_pos rfl];rfl
    · rw [if_neg h,if_neg (fun e=>h (inj _ _ e))];exact lk_ren inj l i
theorem lk_ren_inv {α β:Type} {ρ:Nat→Nat} {f:α→β} (inj:∀ i j,ρ i=ρ j→i=j) {l:List (Nat×α)} {j:Nat} {y:β} (h:DL (l.map fun p=>(ρ p.1,f p.2)) j=some y):∃ i x,ρ i=j∧DL l i=some x∧y=f x:=by
 obtain ⟨p,h1,h2⟩:=List.mem_map.1 (lk_memF h)
 have h3:ρ p.1=j:=(Prod.mk.inj h2).1
 subst h3
 rw [lk_ren inj] at h
 cases h4:DL l p.1 with
 | none=>rw [h4] at h;cases h
 | some x=>rw [h4] at h;cases h;exact ⟨p.1,x,rfl,h4,rfl⟩
def pull (ρ:Nat→Nat) (V:Vu) (m:Nat):Vu:=⟨m,fun i=>V.ι (ρ i),fun i=>V.κ (ρ i),fun i=>V.cu (ρ i),V.S⟩
theorem CA.rel.pull {ρ:Nat→Nat} {V:Vu} {w:World} {m:Nat} {x:CA} {v:Value} (h:(x.ren ρ).rel V w v) (hb:x.below m):x.rel (pull ρ V m) w v:=by
 cases x with
 | ptr i off=>exact ⟨hb,h.2⟩
 | fn f caps =>
  have:=h.2
  rw [List.map_map] at this
  exact ⟨hb,this⟩
 | app i sz es=>exact ⟨hb,h.2⟩
 | apv i sz n es=>exact ⟨hb,h.2⟩
 | tp i n off=>exact ⟨hb,h.2⟩
 | osl i off len cap=>exact ⟨hb,h.2⟩
 | mp i=>exact ⟨hb,h.2⟩
 | yld i=>exact ⟨hb,h.2⟩
 | d c=>exact h
 | pel e off=>exact h
 | clo f caps=>exact h
 | any=>exact h
theorem rels.pull {ρ:Nat→Nat} {V:Vu} {w:World} {m:Nat} {xs:List CA} {vs:Array Value} (h:rels V w (xs.map (CA.ren ρ)) vs) (hb:∀ x∈xs,x.below m):rels (pull ρ V m) w xs vs :=
 ⟨by simpa using h.1,fun i x hx=>let ⟨u,h1,h2⟩:=h.2 i (x.ren ρ) (by rw [List.getElem?_map,hx];rfl);⟨u,h1,h2.pull (hb x (List.mem_of_getElem? hx))⟩⟩
theorem AV.rel.pull {ρ:Nat→Nat} {V:Vu} {w:World} {m:Nat} {x:AV} {v:Value} (h:(x.ren ρ).rel V w v) (hb:x.below m):x.rel (pull ρ V m) w v:=by
 cases x with
 | one x=>exact CA.rel.pull h hb
 | agg xs=>obtain ⟨vs,h1,h2⟩:=h;exact ⟨vs,h1,h2.pull hb⟩
theorem TV.rel.pull {ρ:Nat→Nat} {V:Vu} {w:World} {m:Nat} {x:TV} {v:Value} (h:(x.ren ρ).rel V w v) (hb:x.below m):x.rel (pull ρ V m) w v:=by
 cases x with
 | v x=>exact AV.rel.pull h hb
 | tup xs =>
  obtain ⟨vs,h1,h2,h3⟩:=h
  exact ⟨vs,h1,by simpa using h2,fun i x hx=>let ⟨u,h4,h5⟩:=h3 i (x.ren ρ) (by rw [List.getElem?_map,hx];rfl);⟨u,h4,h5.pull (hb x (List.mem_of_getElem? hx))⟩⟩
 | unk=>trivial
theorem HB.rel.pull {ρ:Nat→Nat} {V:Vu} {w:World} {m:Nat} {x:HB} {o:Obj} (h:(x.ren ρ).rel V w o) (hb:x.below m):x.rel (pull ρ V m) w o:=by
 cases x with
 | cells T xs=>obtain ⟨vs,h3,h4⟩:=h;exact ⟨vs,h3,h4.pull hb⟩
 | obj o'=>exact h
 | loop s p tm nt ps assign body D =>
  obtain ⟨-,fn,tmps,h3,h4,h5⟩:=h
  exact ⟨hb.1,fn,tmps,h3,h4,fun t x hx=>(h5 t (x.ren ρ) (by rw [lk_map2,hx];rfl)).pull (hb.2 t x hx)⟩
 | mp es clock =>
  obtain ⟨ents,h3,h4,h5⟩:=h
  exact ⟨ents,h3,by simpa using h4,fun i k x b hi=>let ⟨v,h6,h7⟩:=h5 i k (x.ren ρ) b (by rw [List.getElem?_map,hi];rfl);⟨v,h6,h7.pull (hb _ (List.mem_of_getElem? hi))⟩⟩
structure Via (ρ:Nat→Nat) (V1 V2:Vu):Prop where
 ι:∀ i,i < V1.nx→ρ i < V2.nx∧V2.ι (ρ i)=V1.ι i
 cu:∀ i,i < V1.nx→V2.cu (ρ i)=V1.cu i
 κ:∀ i,i < V1.nx→V2.κ (ρ i)=V1.κ i
 S:∀ b o,V1.S b o→V2.S b o
section
variable {ρ:Nat→Nat} {V1 V2:Vu} {w:World}
theorem CA.rel.via (hV:Via ρ V1 V2) {x:CA} {v:Value} (h:x.rel V1 w v):(x.ren ρ).rel V2 w v:=by
 cases x with
 | ptr i off=>exact ⟨(hV.ι i h.1).1,by rw [(hV.ι i h.1).2];exact h.2⟩
 | fn f caps =>
  refine ⟨fun p hp=>?_,?_⟩
  ·obtain ⟨q,hq,rfl⟩:=List.mem_map.1 hp
   exact (hV.ι _ (h.1 q hq)).1
  ·rw [h.2,List.map_map]
   congr 2
   exact List.map_congr_left fun p hp=>by show _=Value.pointer (some ⟨V2.ι (ρ p.1),p.2,none⟩);rw [(hV.ι _ (h.1 p hp)).2]
 | app i sz es=>exact ⟨(hV.ι i h.1).1,by rw [hV.cu i h.1];exact h.2.1,by rw [hV.κ i h.1];exact h.2.2.1,Reads.mono hV.S (fun _ _ _=>rfl) h.2.2.2⟩
 | apv i sz n es =>
  obtain ⟨h1,h2,h3,a,cap,h4,h5,h6⟩:=h
  exact ⟨(hV.ι i h1).1,by rw [hV.cu i h1];exact h2,by rw [hV.κ i h1];exact h3,a,cap,h4,h5,Reads.mono hV.S (fun _ _ _=>rfl) h6⟩
 | tp i n off =>
  obtain ⟨h1,h2,g,cap,h3,h4⟩:=h
  exact ⟨(hV.ι i h1).1,by rw [hV.cu i h1];exact h2,g,cap,by rw [hV.κ i h1];exact h3,h4⟩
 | osl i off len cap=>exact ⟨(hV.ι i h.1).1,by rw [(hV.ι i h.1).2];exact h.2⟩
 | mp i=>exact ⟨(hV.ι i h.1).1,by rw [(hV.ι i h.1).2];exact h.2⟩
 | yld i=>exact ⟨(hV.ι i h.1).1,by rw [(hV.ι i h.1).2];exact h.2⟩
 | d c=>exact Reads.mono hV.S (fun _ _ _=>rfl) h
 | pel e off=>exact pelRel.mono hV.S (fun _ _ _=>rfl) h
 | clo f caps =>
  obtain ⟨ps,h1,h2,h3⟩:=h
  exact ⟨ps,h1,h2,fun i e off hi=>let ⟨p,h4,h5⟩:=h3 i e off hi;⟨p,h4,h5.mono hV.S (fun _ _ _=>rfl)⟩⟩
 | any=>exact h
theorem rels.via (hV:Via ρ V1 V2) {xs:List CA} {vs:Array Value} (h:rels V1 w xs vs):rels V2 w (xs.map (CA.ren ρ)) vs :=
 ⟨by simpa using h.1,fun i x hx=>by
  rw [List.getElem?_map] at hx
  cases h1:xs[i]? with
  | none=>rw [h1] at hx;cases hx
  | some y=>rw [h1] at hx;cases hx;obtain ⟨u,h2,h3⟩:=h.2 i y h1;exact ⟨u,h2,h3.via hV⟩⟩
theorem AV.rel.via (hV:Via ρ V1 V2) {x:AV} {v:Value} (h:x.rel V1 w v):(x.ren ρ).rel V2 w v:=by
 cases x with
 | one x=>exact CA.rel.via hV h
 | agg xs=>obtain ⟨vs,h1,h2⟩:=h;exact ⟨vs,h1,h2.via hV⟩
theorem TV.rel.via (hV:Via ρ V1 V2) {x:TV} {v:Value} (h:x.rel V1 w v):(x.ren ρ).rel V2 w v:=by
 cases x with
 | v x=>exact AV.rel.via hV h
 | tup xs =>
  obtain ⟨vs,h1,h2,h3⟩:=h
  refine ⟨vs,h1,by simpa using h2,fun i x hx=>?_⟩
  rw [List.getElem?_map] at hx
  cases h4:xs[i]? with
  | none=>rw [h4] at hx;cases hx
  | some y=>rw [h4] at hx;cases hx;obtain ⟨u,h5,h6⟩:=h3 i y h4;exact ⟨u,h5,h6.via hV⟩
 | unk=>trivial
theorem HB.rel.via (hV:Via ρ V1 V2) {x:HB} {o:Obj} (h:x.rel V1 w o):(x.ren ρ).rel V2 w o:=by
 cases x with
 | cells T xs=>obtain ⟨vs,h3,h4⟩:=h;exact ⟨vs,h3,h4.via hV⟩
 | obj o'=>exact h
 | loop s p tm nt ps assign body D =>
  obtain ⟨h1,fn,tmps,h3,h4,h5⟩:=h
  refine ⟨(hV.ι D h1).1,fn,tmps,by rw [(hV.ι D h1).2];exact h3,h4,fun t x hx=>?_⟩
  rw [lk_map2] at hx
  cases h6:DL tm t with
  | none=>rw [h6] at hx;cases hx
  | some y=>rw [h6] at hx;cases hx;exact (h5 t y h6).via hV
 | mp es clock =>
  obtain ⟨ents,h3,h4,h5⟩:=h
  refine ⟨ents,h3,by simpa using h4,fun i k x b hi=>?_⟩
  rw [List.getElem?_map] at hi
  cases h6:es[i]? with
  | none=>rw [h6] at hi;cases hi
  | some y =>
   obtain ⟨k',x',b'⟩:=y
   rw [h6] at hi;cases hi
   obtain ⟨v,h7,h8⟩:=h5 i _ _ _ h6
   exact ⟨v,h7,h8.via hV⟩
end
open Classical in
noncomputable def KE (ρ:Nat→Nat) (V V1:Vu) (n:Nat):Vu :=
 ⟨n,fun j=>if h:∃ i,ρ i=j then V1.ι h.choose else V.ι j,fun j=>if h:∃ i,ρ i=j then V1.κ h.choose else V.κ j,fun j=>if h:∃ i,ρ i=j then V1.cu h.choose else V.cu j,V1.S⟩
section
open Classical
variable {ρ:Nat→Nat} {V V1:Vu} {n:Nat}
theorem choose_ren (inj:∀ i j,ρ i=ρ j→i=j) {i:Nat} (h:∃ k,ρ k=ρ i):h.choose=i:=inj _ _ h.choose_spec
theorem Zz (inj:∀ i j,ρ i=ρ j→i=j) (i:Nat):(KE ρ V V1 n).ι (ρ i)=V1.ι i:=by
 have h:∃ k,ρ k=ρ i:=⟨i,rfl⟩
 show (if h:∃ k,ρ k=ρ i then V1.ι h.choose else V.ι (ρ i))=_
 rw [dif_pos h,choose_ren inj h]
theorem Gs (inj:∀ i j,ρ i=ρ j→i=j) (i:Nat):(KE ρ V V1 n).κ (ρ i)=V1.κ i:=by
 have h:∃ k,ρ k=ρ i:=⟨i,rfl⟩
 show (if h:∃ k,ρ k=ρ i then V1.κ h.choose else V.κ (ρ i))=_
 rw [dif_pos h,choose_ren inj h]
theorem backV_cu (inj:∀ i j,ρ i=ρ j→i=j) (i:Nat):(KE ρ V V1 n).cu (ρ i)=V1.cu i:=by
 have h:∃ k,ρ k=ρ i:=⟨i,rfl⟩
 show (if h:∃ k,ρ k=ρ i then V1.cu h.choose else V.cu (ρ i))=_
 rw [dif_pos h,choose_ren inj h]
theorem Zl {j:Nat} (h:¬ ∃ i,ρ i=j):(KE ρ V V1 n).ι j=V.ι j:=dif_neg h
theorem Kl {j:Nat} (h:¬ ∃ i,ρ i=j):(KE ρ V V1 n).κ j=V.κ j:=dif_neg h
theorem backV_cu' {j:Nat} (h:¬ ∃ i,ρ i=j):(KE ρ V V1 n).cu j=V.cu j:=dif_neg h
end
section
variable {E:Env} {V V1:Vu} {hp hp0 hp1 hpF:List (Nat×HB)} {tk tk0 tk1 tkF:List (Nat×Option Tok)} {w w':World} {ρ:Nat→Nat} {nx0 n:Nat}
theorem HRel.part (inj:∀ i j,ρ i=ρ j→i=j) (h:HRel E V (YD ρ hp0) (Zp ρ tk0) w) (b0:hpBelow nx0 hp0) (c0:tkBelow nx0 tk0) :
  HRel ⟨E.P,w,Xo V (YD ρ hp0) (Zp ρ tk0),pull ρ V nx0⟩ (pull ρ V nx0) hp0 tk0 w:=by
 have eH:∀ i B,DL hp0 i=some B→DL (YD ρ hp0) (ρ i)=some (B.ren ρ):=fun i B hi=>by
  have:=lk_ren (f:=HB.ren ρ) inj hp0 i
  rw [hi] at this;exact this
 have eT:∀ i T,DL tk0 i=some T→DL (Zp ρ tk0) (ρ i)=some T:=fun i T hi=>by
  have:=lk_ren (f:=fun x:Option Tok=>x) inj tk0 i
  rw [hi] at this;exact this
 refine ⟨ExtM.refl _ _,Vu.Le.refl _ _,h.sz,fun b o hs=>.inl hs,fun i B hi=>?_,fun i j A B hi hj e=>?_,fun i B hi=>⟨.inr (.inl ⟨ρ i,_,eH i B hi,Z⟩),(h.new _ _ (eH i B hi)).2⟩,fun i T hi=>?_,fun i j T U g hi hj ei ej=>?_⟩
 ·obtain ⟨h1,h2⟩:=b0.get i B hi
  obtain ⟨-,o,h3,h4⟩:=h.own _ _ (eH i B hi)
  exact ⟨h1,o,h3,h4.pull h2⟩
 ·exact inj _ _ (h.inj _ _ _ _ (eH i A hi) (eH j B hj) e)
 ·obtain ⟨-,h2,xs,h3,h4⟩:=h.tok _ _ (eT i _ hi)
  exact ⟨c0.get i _ hi,h2,xs,h3,fun g hg=>⟨.inr (.inr ⟨ρ i,T,eT i _ hi,hg⟩),(h4 g hg).2.1,fun j B hj=>(h4 g hg).2.2 _ _ (eH j B hj)⟩⟩
 ·exact inj _ _ (h.tki _ _ T U g (eT i _ hi) (eT j _ hj) ei ej)
theorem HRel.turn (inj:∀ i j,ρ i=ρ j→i=j) (h:HRel E V hp tk w) (hh:hpLe hp (YD ρ hp0)) (ht:tkLe tk (Zp ρ tk0)) (hhF:hpLe hp hpF) (htF:tkLe tk tkF)
  (old:∀ i,i < nx0→ρ i < V.nx) (new:∀ i,nx0≤i→ρ i=V.nx+(i - nx0)) (dF:∀ i B,DL hpF i=some B→∀ k,k < nx0→ρ k ≠ i) (dT:∀ i T,DL tkF i=some (some T)→∀ k,k < nx0→ρ k ≠ i)
  (b0:hpBelow nx0 hp0) (c0:tkBelow nx0 tk0) (hn:V1.nx+V.nx=n+nx0) (hle:nx0≤V1.nx)
  (H:HRel ⟨E.P,w,Xo V (YD ρ hp0) (Zp ρ tk0),pull ρ V nx0⟩ V1 hp1 tk1 w') :
  HRel E (KE ρ V V1 n) (YD ρ hp1++hpF) (Zp ρ tk1++tkF) w'∧V.Le (KE ρ V V1 n) w w'∧Via ρ V1 (KE ρ V V1 n):=by
 have L:=H.le0
 have h0:=h.forgetLe hh ht
 have hF:=h.forgetLe hhF htF
 have eHi:∀ {l:List (Nat×HB)} {j B},DL (YD ρ l) j=some B→∃ i x,ρ i=j∧DL l i=some x∧B=x.ren ρ:=fun hj=>lk_ren_inv inj hj
 have eTi:∀ {l:List (Nat×Option Tok)} {j T},DL (Zp ρ l) j=some T→∃ i x,ρ i=j∧DL l i=some x∧T=x:=fun hj=>lk_ren_inv (f:=fun x:Option Tok=>x) inj hj
 have pE:∀ k,Xo V (YD ρ hp0) (Zp ρ tk0) k→E.w0.heap.size≤k∨E.M k:=by
  rintro k (⟨i,B,hi,rfl⟩ | ⟨i,T,hi,hg⟩)
  ·exact (h0.new i B hi).1
  ·obtain ⟨-,-,xs,-,h4⟩:=h0.tok i T hi
   exact (h4 k hg).1
 have Fl:∀ i B,DL hpF i=some B→V.ι i < w.heap.size:=fun i B hi=>by
  obtain ⟨-,o,ho,-⟩:=hF.own i B hi
  exact Z1 ho
 have Tl:∀ i T g,DL tkF i=some (some T)→(V.κ i T.n).ownBlock=some g→g < w.heap.size:=fun i T g hi hg=>by
  obtain ⟨-,-,xs,h3,-⟩:=hF.tok i T hi
  exact (h3.1.lt g hg).2
 have nF:∀ i,i < V.nx→(∀ k,k < nx0→ρ k ≠ i)→¬ ∃ k,ρ k=i:=by
  rintro i hi hk ⟨k,hk2⟩
  rcases Nat.lt_or_ge k nx0 with h1 | h1
  ·exact hk k h1 hk2
  ·rw [new k h1] at hk2;omega
 have Fn:∀ i B,DL hpF i=some B→¬ ∃ k,ρ k=i:=fun i B hi=>nF i (hF.own i B hi).1 (dF i B hi)
 have Tn:∀ i T,DL tkF i=some (some T)→¬ ∃ k,ρ k=i:=fun i T hi=>nF i (hF.tok i T hi).1 (dT i T hi)
 have Fp:∀ i B,DL hpF i=some B→¬ Xo V (YD ρ hp0) (Zp ρ tk0) (V.ι i):=by
  rintro i B hi (⟨j,C,hj,e⟩ | ⟨j,T,hj,hg⟩)
  ·obtain ⟨x,hx,-⟩:=hh.get j C hj
   obtain ⟨y,hy,-⟩:=hhF.get i B hi
   have:=h.inj j i x y hx hy e
   subst this
   obtain ⟨k,-,hk,-⟩:=eHi hj
   exact Fn _ B hi ⟨k,hk⟩
  ·obtain ⟨y,hy,-⟩:=hhF.get i B hi
   obtain ⟨-,-,xs,-,h4⟩:=h.tok j T (ht.get j T hj)
   exact (h4 _ hg).2.2 i y hy Z
 have Tp:∀ i T g,DL tkF i=some (some T)→(V.κ i T.n).ownBlock=some g→¬ Xo V (YD ρ hp0) (Zp ρ tk0) g:=by
  rintro i T g hi hg (⟨j,C,hj,e⟩ | ⟨j,U,hj,hg'⟩)
  ·obtain ⟨x,hx,-⟩:=hh.get j C hj
   obtain ⟨-,-,xs,-,h4⟩:=h.tok i T (htF.get i T hi)
   exact (h4 _ hg).2.2 j x hx e
  ·have:=h.tki i j T U g (htF.get i T hi) (ht.get j U hj) hg hg'
   subst this
   obtain ⟨k,-,hk,-⟩:=eTi hj
   exact Tn _ T hi ⟨k,hk⟩
 have S1:∀ b o,V1.S b o→V.S b o∨w.heap.size≤b∨Xo V (YD ρ hp0) (Zp ρ tk0) b:=H.sub
 have nn:∀ i,i < V1.nx→ρ i < n:=fun i hi=>by
  rcases Nat.lt_or_ge i nx0 with h1 | h1
  ·have:=old i h1;omega
  ·rw [new i h1];omega
 have A2:Via ρ V1 (KE ρ V V1 n):=⟨fun i hi=>⟨nn i hi,Zz inj i⟩,fun i hi=>backV_cu inj i,fun i hi=>Gs inj i,fun b o hs=>hs⟩
 have isNew:∀ k,ρ k < V.nx→k < nx0:=fun k hk=>by
  rcases Nat.lt_or_ge k nx0 with h1 | h1
  ·exact h1
  ·rw [new k h1] at hk;omega
 have A1:V.Le (KE ρ V V1 n) w w':=by
  refine ⟨by show V.nx≤n;omega,fun i hi=>?_,fun i hi=>?_,fun i hi m hm=>?_,L.S,L.cell,L.dk⟩
  ·by_cases hq:∃ k,ρ k=i
   ·obtain ⟨k,rfl⟩:=hq
    rw [Zz inj];exact L.ι k (isNew k hi)
   ·exact Zl hq
  ·by_cases hq:∃ k,ρ k=i
   ·obtain ⟨k,rfl⟩:=hq
    rw [backV_cu inj];exact L.cu k (isNew k hi)
   ·rw [backV_cu' hq];exact Nat.le_refl _
  ·by_cases hq:∃ k,ρ k=i
   ·obtain ⟨k,rfl⟩:=hq
    rw [Gs inj];exact L.κ k (isNew k hi) m hm
   ·rw [Kl hq]
 have hsize:w.heap.size≤w'.heap.size:=H.ext.size
 have keep:∀ k,k < w.heap.size→¬ Xo V (YD ρ hp0) (Zp ρ tk0) k→w'.heap[k]?=w.heap[k]?:=H.ext.block
 have inE:∀ k,(w.heap.size≤k∨Xo V (YD ρ hp0) (Zp ρ tk0) k)→E.w0.heap.size≤k∨E.M k:=fun k hk=>by
  rcases hk with h1 | h1
  ·exact .inl (Nat.le_trans h.ext.size h1)
  ·exact pE k h1
 refine ⟨⟨?_,h.le0.trans A1,H.sz,?_,?_,?_,?_,?_,?_⟩,A1,A2⟩
 ·refine ⟨H.ext.os.trans h.ext.os,H.ext.tape.trans h.ext.tape,H.ext.output.trans h.ext.output,Nat.le_trans h.ext.size hsize,fun k hk hM=>?_⟩
  refine (keep k (Nat.lt_of_lt_of_le hk h.ext.size) fun hp=>?_).trans (h.ext.block k hk hM)
  rcases pE k hp with h1 | h1
  ·omega
  ·exact hM h1
 ·intro b o hs
  rcases S1 b o hs with h1 | h1
  ·exact h.sub b o h1
  ·exact .inr (inE b h1)
 ·intro i B hi
  rcases Yy hi with hi | hi
  ·obtain ⟨k,x,rfl,hk,rfl⟩:=eHi hi
   obtain ⟨h1,o,h3,h4⟩:=H.own k x hk
   exact ⟨nn k h1,o,by rw [Zz inj];exact h3,h4.via A2⟩
  ·obtain ⟨h1,o,h3,h4⟩:=hF.own i B hi
   exact ⟨by show i < n;omega,o,by rw [Zl (Fn i B hi),keep _ (Fl i B hi) (Fp i B hi)];exact h3,h4.mono A1⟩
 ·have mix:∀ i j A B,DL (YD ρ hp1) i=some A→DL hpF j=some B→(KE ρ V V1 n).ι i=(KE ρ V V1 n).ι j→False:=fun i j A B hi hj e=>by
   obtain ⟨k,x,rfl,hk,-⟩:=eHi hi
   rw [Zz inj,Zl (Fn j B hj)] at e
   rcases (H.new k x hk).1 with h2 | h2
   ·rw [e] at h2
    exact absurd h2 (Nat.not_le.2 (Fl j B hj))
   ·rw [e] at h2
    exact Fp j B hj h2
  intro i j A B hi hj e
  rcases Yy hi with hi | hi <;> rcases Yy hj with hj | hj
  ·obtain ⟨k,x,rfl,hk,-⟩:=eHi hi
   obtain ⟨k',x',rfl,hk',-⟩:=eHi hj
   rw [Zz inj,Zz inj] at e
   rw [H.inj k k' x x' hk hk' e]
  ·exact (mix i j A B hi hj e).elim
  ·exact (mix j i B A hj hi e.symm).elim
  ·rw [Zl (Fn i A hi),Zl (Fn j B hj)] at e
   exact hF.inj i j A B hi hj e
 ·intro i B hi
  rcases Yy hi with hi | hi
  ·obtain ⟨k,x,rfl,hk,-⟩:=eHi hi
   obtain ⟨h2,h3⟩:=H.new k x hk
   rw [Zz inj]
   exact ⟨inE _ h2,h3⟩
  ·obtain ⟨h2,h3⟩:=hF.new i B hi
   rw [Zl (Fn i B hi)]
   refine ⟨h2,fun o hs=>?_⟩
   rcases S1 _ o hs with h4 | h4 | h4
   ·exact h3 o h4
   ·exact absurd h4 (Nat.not_le.2 (Fl i B hi))
   ·exact Fp i B hi h4
 ·intro i T hi
  rcases Yy hi with hi | hi
  ·obtain ⟨k,x,rfl,hk,e⟩:=eTi hi
   subst e
   obtain ⟨h1,h2,xs,h3,h4⟩:=H.tok k T hk
   refine ⟨nn k h1,by rw [backV_cu inj];exact h2,xs,⟨by rw [Gs inj];exact h3.1,h3.2⟩,fun g hg=>?_⟩
   rw [Gs inj] at hg
   obtain ⟨h5,h6,h7⟩:=h4 g hg
   refine ⟨inE g h5,h6,fun j B hj=>?_⟩
   rcases Yy hj with hj | hj
   ·obtain ⟨k',x',rfl,hk',-⟩:=eHi hj
    rw [Zz inj];exact h7 k' x' hk'
   ·intro e
    rw [Zl (Fn j B hj)] at e
    rcases h5 with h5 | h5
    ·have:=Fl j B hj
     rw [e] at this
     exact absurd h5 (Nat.not_le.2 this)
    ·exact Fp j B hj (by rw [e];exact h5)
  ·have hq:=Tn i T hi
   obtain ⟨h1,h2,xs,h3,h4⟩:=hF.tok i T hi
   refine ⟨by show i < n;omega,by rw [backV_cu' hq];exact h2,xs,?_,fun g hg=>?_⟩
   ·exact h3.keepW (congrFun (Kl hq) T.n) (ownsRow_same h3.1 fun g hg=>keep g (Tl i T g hi hg) (Tp i T g hi hg)) A1.lx
   ·rw [Kl hq] at hg
    obtain ⟨h5,h6,h7⟩:=h4 g hg
    refine ⟨h5,fun o hs=>?_,fun j B hj=>?_⟩
    ·rcases S1 _ o hs with h8 | h8 | h8
     ·exact h6 o h8
     ·exact absurd h8 (Nat.not_le.2 (Tl i T g hi hg))
     ·exact absurd h8 (Tp i T g hi hg)
    ·rcases Yy hj with hj | hj
     ·intro e
      obtain ⟨k',x',rfl,hk',-⟩:=eHi hj
      rw [Zz inj] at e
      rcases (H.new k' x' hk').1 with h9 | h9
      ·rw [e] at h9
       exact absurd h9 (Nat.not_le.2 (Tl i T g hi hg))
      ·rw [e] at h9
       exact Tp i T g hi hg h9
     ·rw [Zl (Fn j B hj)];exact h7 j B hj
 ·have mix:∀ i j T U g,DL (Zp ρ tk1) i=some (some T)→DL tkF j=some (some U)→((KE ρ V V1 n).κ i T.n).ownBlock=some g→((KE ρ V V1 n).κ j U.n).ownBlock=some g→False:=fun i j T U g hi hj ei ej=>by
   obtain ⟨k,x,rfl,hk,e⟩:=eTi hi
   subst e
   rw [Gs inj] at ei
   rw [Kl (Tn j U hj)] at ej
   obtain ⟨-,-,xs,-,h4⟩:=H.tok k T hk
   rcases (h4 g ei).1 with h5 | h5
   ·exact absurd h5 (Nat.not_le.2 (Tl j U g hj ej))
   ·exact Tp j U g hj ej h5
  intro i j T U g hi hj ei ej
  rcases Yy hi with hi | hi <;> rcases Yy hj with hj | hj
  ·obtain ⟨k,x,rfl,hk,e⟩:=eTi hi
   subst e
   obtain ⟨k',x',rfl,hk',e⟩:=eTi hj
   subst e
   rw [Gs inj] at ei ej
   rw [H.tki k k' T U g hk hk' ei ej]
  ·exact (mix i j T U g hi hj ei ej).elim
  ·exact (mix j i U T g hj hi ej ei).elim
  ·rw [Kl (Tn i T hi)] at ei
   rw [Kl (Tn j U hj)] at ej
   exact hF.tki i j T U g hi hj ei ej
end
theorem tkBelow_all {m:Nat}:∀ {l:List (Nat×Option Tok)},(l.all fun p=>Nat.blt p.1 m)=true→tkBelow m l
  | [],_=>trivial
  | (i,x)::l,h=>by
    rw [List.all_cons,Bool.and_eq_true] at h
    exact ⟨GL h.1,tkBelow_all h.2⟩
def WB:List Nat→Bool
 | []=>true
 | x::l=>cond (l.any fun y=>Nat.beq x y) false (WB l)
theorem nodupN_ok:∀ {l:List Nat},WB l=true→l.Nodup
 | [],_=>List.nodup_nil
 | x::l,h=>by
  unfold WB at h
  cases h1:(l.any fun y=>Nat.beq x y) with
  | true=>rw [h1] at h;cases h
  | false =>
   rw [h1] at h
   refine List.nodup_cons.2 ⟨fun hm=>?_,nodupN_ok h⟩
   have:=List.any_eq_false.1 h1 x hm
   simp at this
def WW {α:Type} (rs:List Nat) (l:List (Nat×α)):Bool:=l.all fun p=>rs.all fun q=>cond (Nat.beq q p.1) false true
theorem apartB_ok {α:Type} {rs:List Nat} {l:List (Nat×α)} (h:WW rs l=true) {i:Nat} {x:α} (hi:DL l i=some x):i∉rs:=fun hm=>by
 have h1:=List.all_eq_true.1 (List.all_eq_true.1 h _ (lk_memF hi)) i hm
 have h2:Nat.beq i i=true:=by simp
 dsimp only at h1
 rw [h2] at h1;cases h1
theorem Jp {E:Env} {st:St} {dd:Option Tmp} {ty:TypeId} {pos:String} {af:Array Edge} {g:Option (Nat×Bool)} {x:Operand} {f:FuncId} {caps:List (Nat×Nat)} {ars:Array Operand} {args args0:List AV} {ats:Array TypeId} {res res2:TV} {hp0 hp1 hp1' hpF:List (Nat×HB)} {tk0 tk1 tk1' tkF:List (Nat×Option Tok)} {nx0 nx1 nx2 n:Nat}
  (rs:List Nat) (hx:ev st.tm x=some (.v (.one (.fn f caps)))) (ha:Zh st.tm ars.toList=some args)
  (hc:CallM E.P f args0 ⟨hp0,tk0,nx0⟩ res ⟨hp1,tk1,nx1⟩) (hst:st.nx=n) (he:args++XS caps=args0.map (AV.ren (Wr rs n))) (e3:YD (Wr rs n) hp1=hp1') (e4:Zp (Wr rs n) tk1=tk1') (e5:res.ren (Wr rs n)=res2)
  (hh:hpLe st.hp (YD (Wr rs n) hp0)) (ht:tkLe st.tk (Zp (Wr rs n) tk0)) (hhF:hpLe st.hp hpF) (htF:tkLe st.tk tkF) (hl:Nat.beq rs.length nx0=true) (hnd:WB rs=true) (hlt:(rs.all fun j=>Nat.blt j n)=true) (d1:WW rs hpF=true) (d2:WW rs tkF=true)
  (b0:hpBelow nx0 hp0) (c0:(tk0.all fun p=>Nat.blt p.1 nx0)=true) (ba:(args0.all fun y=>y.belowB nx0)=true) (hle:Nat.ble nx0 nx1=true) (hn:Nat.beq (nx1+n) (nx2+nx0)=true) :
  OpOK E ⟨dd,.call { callee:=.value x,args:=ars,argTypes:=ats },ty,pos,af,g⟩ st res2 ⟨hp1'++hpF,tk1'++tkF,nx2⟩:=by
 subst hst e3 e4 e5
 have c0':=tkBelow_all c0
 have hl':rs.length=nx0:=Nat.eq_of_beq_eq_true hl
 have hlt':∀ j∈rs,j < st.nx:=fun j hj=>GL (List.all_eq_true.1 hlt j hj)
 have inj:∀ i j,Wr rs st.nx i=Wr rs st.nx j→i=j:=fun i j h=>rho_inj (nodupN_ok hnd) hlt' h
 intro V a w hr ro n K Q hK
 refine ⟨fun _ _=>trivial,?_⟩
 rw [Oper.semAt_eq _ _ _ (by intro c h;cases h)]
 obtain ⟨hv1,hv2⟩:=hr.ev hx
 have hrun:(execOp a.eval ⟨dd,.call { callee:=.value x,args:=ars,argTypes:=ats },ty,pos,af,g⟩).run E.P w=.ok (.enter f (ars.map a.eval++(caps.map fun p=>Value.pointer (some ⟨V.ι p.1,p.2,none⟩)).toArray)) w:=by
  have:=hc.1 (ars.map a.eval++(caps.map fun p=>Value.pointer (some ⟨V.ι p.1,p.2,none⟩)).toArray) w
  simp [execOp,resolve,hv2,Deferred.ofValue,invoke]
  simpa using this
 rw [hrun]
 refine ⟨(by intro h;cases h),?_⟩
 have h0:=(hr.h.forgetLe hh ht).part inj b0 c0'
 have har:argsRel (pull (Wr rs st.nx) V nx0) w args0 (ars.map a.eval++(caps.map fun p=>Value.pointer (some ⟨V.ι p.1,p.2,none⟩)).toArray):=by
  obtain ⟨h1,h2⟩:=(Zb hr ha).append (G7 hv1)
  rw [he] at h1 h2
  refine ⟨by simpa using h1,fun i y hy=>?_⟩
  obtain ⟨u,hu,hyu⟩:=h2 i (y.ren _) (by rw [List.getElem?_map,hy];rfl)
  exact ⟨u,hu,hyu.pull (ZB (List.all_eq_true.1 ba y (List.mem_of_getElem? hy)))⟩
 have hc':CallsIn Fence.wide (n - 1) E.P f _ w _:=callsIn_wide.2 (hc.2 ⟨E.P,w,Xo V _ _,pull (Wr rs st.nx) V nx0⟩ _ w _ rfl h0 rfl har)
 refine CallsIn.mono (F:=FR ro) hc' ?_
 rintro e w' ⟨v,V1,rfl,H,hn1,L,hres⟩
 have hn2:=Nat.eq_of_beq_eq_true hn
 have hnx:=hr.nx
 dsimp only at hn1
 obtain ⟨H2,L2,L3⟩:=hr.h.turn (n:=nx2) inj hh ht hhF htF (fun i hi=>by rw [hnx];exact hlt' _ (KJ (by omega))) (fun i hi=>by rw [Xv (by omega),hnx,hl'])
  (fun i B hi k hk e=>apartB_ok d1 hi (by rw [← e];exact KJ (by omega))) (fun i T hi k hk e=>apartB_ok d2 hi (by rw [← e];exact KJ (by omega))) b0 c0' (by rw [hn1,hnx];exact hn2) (by rw [hn1];exact Nat.le_of_ble_eq_true hle) H
 exact hK _ w' v H2 Z L2 (hres.via L3)
theorem DG {ρ:Nat→Nat}:YD ρ []=[]:=rfl
theorem DI {ρ:Nat→Nat} {i j:Nat} {x y:HB} {r r':List (Nat×HB)} (h1:ρ i=j) (h2:x.ren ρ=y) (h:YD ρ r=r'):YD ρ ((i,x)::r)=(j,y)::r':=by
 subst h1 h2 h;rfl
section
variable {ρ:Nat→Nat} {hp:List (Nat×HB)} {tk:List (Nat×Option Tok)}
theorem DR:hpLe hp (YD ρ []):=trivial
theorem DS {i:Nat} {x:HB} {r:List (Nat×HB)} (h:DL hp (ρ i)=some (x.ren ρ)) (l:hpLe hp (YD ρ r)):hpLe hp (YD ρ ((i,x)::r)):=⟨⟨_,h,.refl _⟩,l⟩
theorem DP:tkLe tk (Zp ρ []):=trivial
end
def JE {σ β:Type} (F:(σ→Option β)→σ→Option β):Nat→σ→Option β
 | 0,_=>none
 | n+1,u=>F (JE F n) u
theorem Z9 {σ β:Type} {F:(σ→Option β)→σ→Option β} {C:σ→β→Prop} (h:∀ rc:σ→Option β,(∀ u y,rc u=some y→C u y)→∀ u y,F rc u=some y→C u y):∀ (n:Nat) (u:σ) (y:β),JE F n u=some y→C u y
 | 0,u,y,e=>by cases e
 | n+1,u,y,e=>h _ (Z9 h n) u y e
end Go.Proofs.Ytafddfoefeploaa
namespace Go.Proofs.Ytafddfoefeploaa
open Go.RowKit
def DC (l:List UInt8):ByteArray:=⟨l.toArray⟩
theorem XR (l:List UInt8):(DC l).size=l.length:=by simp [DC,ByteArray.size]
theorem sB_toList (l:List UInt8):(DC l).toList=l:=by rw [Go.Lib.toList_data];rfl
theorem sB_append (a b:List UInt8):DC a++DC b=DC (a++b):=by
 apply ByteArray.ext
 simp [DC,ByteArray.data_append]
theorem sB_get (l:List UInt8) (k:Nat):(DC l)[k]?=l[k]?:=by
 by_cases h:k < l.length
 ·rw [List.getElem?_eq_getElem h,getElem?_pos (DC l) k (by rw [XR];exact h)]
  simp [DC,ByteArray.get,ByteArray.getElem_eq_getElem_data]
 ·rw [List.getElem?_eq_none (by omega),getElem?_neg (DC l) k (by rw [XR];exact h)]
def strL (s:List UInt8):List C:=[.v (.string (DC s))]
instance:Enc (List UInt8):=⟨1,strL,fun l=>l.map strL,rfl,fun a b=>List.map_append,fun _=>rfl⟩
abbrev Jl (l:List UInt8):CA:=.d (.v (.string (DC l)))
abbrev TS (l:List UInt8):TV:=Xr (.string (DC l))
section
variable {E:Env} {st:St} {d:Option Tmp} {ty:TypeId} {pos:String} {af:Array Edge} {g:Option (Nat×Bool)}
theorem Xj {t t':TypeId} {x y:Operand} {a b:List UInt8} (hx:ev st.tm x=some (TS a)) (hy:ev st.tm y=some (TS b)) (hg:Nat.ble (a.length+b.length) 1000000000=true):RO E ⟨d,.binOp .add t x y t',ty,pos,af,g⟩ st (TS (a++b)):=by
 have:=RO.binStr (E:=E) (d:=d) (ty:=ty) (pos:=pos) (af:=af) (g:=g) (t:=t) (t':=t') (op:=.add) hx hy (v:=.string (DC a++DC b)) (by
  have h1:=Nat.le_of_ble_eq_true hg
  have h2:decide ((((DC a).size+(DC b).size:Nat):Int) > IntKind.i64.max)=false:=by
   rw [XR,XR]
   refine decide_eq_false ?_
   have:IntKind.i64.max=9223372036854775807:=by decide
   omega
  simp only [W8,h2,cond_false])
 rw [sB_append] at this
 exact this
theorem GJ {t t':TypeId} {x y:Operand} {a b:List UInt8} (hx:ev st.tm x=some (TS a)) (hy:ev st.tm y=some (TS b)):RO E ⟨d,.binOp .eql t x y t',ty,pos,af,g⟩ st (TB (a==b)):=by
 have:=RO.binStr (E:=E) (d:=d) (ty:=ty) (pos:=pos) (af:=af) (g:=g) (t:=t) (t':=t') (op:=.eql) hx hy (v:=.bool (a==b)) (by simp only [W8,sB_toList])
 exact this
theorem RO.neS {t t':TypeId} {x y:Operand} {a b:List UInt8} (hx:ev st.tm x=some (TS a)) (hy:ev st.tm y=some (TS b)):RO E ⟨d,.binOp .neq t x y t',ty,pos,af,g⟩ st (TB (!(a==b))):=by
 have:=RO.binStr (E:=E) (d:=d) (ty:=ty) (pos:=pos) (af:=af) (g:=g) (t:=t) (t':=t') (op:=.neq) hx hy (v:=.bool (!(a==b))) (by simp only [W8,sB_toList])
 exact this
theorem GI {t:TypeId} {x:Operand} {a:List UInt8} (ht:KP E.P t=true) (hx:ev st.tm x=some (TS a)):RO E ⟨d,.call { callee:=.builtin .len,args:=#[x],argTypes:=#[t]},ty,pos,af,g⟩ st (TI a.length):=by
 have:=RO.lenStr (E:=E) (d:=d) (ty:=ty) (pos:=pos) (af:=af) (g:=g) ht hx
 rw [XR] at this
 exact this
theorem RO.ixS {t:TypeId} {x y:Operand} {a:List UInt8} {k:IntKind} {m:Int} {b:UInt8} (ht:KP E.P t=true) (hx:ev st.tm x=some (TS a)) (hy:ev st.tm y=some (Xr (.int k m))) (hv:Jx a m=some b):RO E ⟨d,.index t x y,ty,pos,af,g⟩ st (Xr (.int .u8 b.toNat)):=by
 obtain ⟨j,hj,hl⟩:=idxS hv
 exact RO.indexStr ht hx hy hj (by rw [sB_get];exact hl)
end
end Go.Proofs.Ytafddfoefeploaa
namespace Go.Proofs.Ytafddfoefeploaa
open Go.RowKit
noncomputable section
abbrev Bs:=List UInt8
inductive Tm where
 | mk (kind index:Int) (name:Bs) (levels:List Lvl) (kids:List Tm)
def Tm.kind:Tm→Int | .mk k _ _ _ _=>k
def Tm.index:Tm→Int | .mk _ i _ _ _=>i
def Tm.name:Tm→Bs | .mk _ _ n _ _=>n
def Tm.levels:Tm→List Lvl | .mk _ _ _ l _=>l
def Tm.kids:Tm→List Tm | .mk _ _ _ _ ks=>ks
theorem Tm.kids_lt (t:Tm):SizeOf.sizeOf t.kids < SizeOf.sizeOf t:=by
 cases t
 simp only [Tm.kids,Tm.mk.sizeOf_spec]
 omega
def Dj:Nat→List Tm→List (List C)
 | 0,_=>[]
 | n+1,l=>l.map fun t=>[.v (.int .i64 t.kind),.v (.int .i64 t.index),.v (.string (DC t.name)),.sl 2 (Enc.encL t.levels),.sl 5 (Dj n t.kids)]
theorem tmF_eq:∀ (n m:Nat) (l:List Tm),SizeOf.sizeOf l≤n→SizeOf.sizeOf l≤m→Dj n l=Dj m l
 | 0,_,l,h,_=>by cases l <;> simp at h
 | _,0,l,_,h=>by cases l <;> simp at h
 | n+1,m+1,l,h1,h2=>by
  unfold Dj
  refine List.map_congr_left fun t ht=>?_
  have h3:=List.sizeOf_lt_of_mem ht
  have h4:=t.kids_lt
  rw [tmF_eq n m t.kids (by omega) (by omega)]
def tmL (l:List Tm):List (List C):=Dj (SizeOf.sizeOf l) l
def tmC (t:Tm):List C:=[.v (.int .i64 t.kind),.v (.int .i64 t.index),.v (.string (DC t.name)),.sl 2 (Enc.encL t.levels),.sl 5 (tmL t.kids)]
theorem XO (l:List Tm):tmL l=l.map tmC:=by
 unfold tmL
 have hpos:0 < SizeOf.sizeOf l:=by cases l <;> simp <;> omega
 obtain ⟨k,hk⟩:∃ k,SizeOf.sizeOf l=k+1:=⟨SizeOf.sizeOf l - 1,by omega⟩
 rw [hk]
 unfold Dj tmC
 refine List.map_congr_left fun t ht=>?_
 have h3:=List.sizeOf_lt_of_mem ht
 have h4:=t.kids_lt
 rw [tmF_eq k (SizeOf.sizeOf t.kids) t.kids (by omega) (Nat.le_refl _)]
 rfl
instance:Enc Tm:=⟨5,tmC,tmL,XO [],fun a b=>by rw [XO,XO,XO,List.map_append],fun x=>XO [x]⟩
structure BrF (α:Type) where
 ctor:Bs
 absurd:Bool
 tree:α
inductive Tr where
 | mk (kind:Int) (body:Tm) (var:Int) (branches:List (BrF Tr))
abbrev Br:=BrF Tr
def Tr.kind:Tr→Int | .mk k _ _ _=>k
def Tr.body:Tr→Tm | .mk _ b _ _=>b
def Tr.var:Tr→Int | .mk _ _ v _=>v
def Tr.branches:Tr→List Br | .mk _ _ _ l=>l
theorem Tr.branches_lt (t:Tr):SizeOf.sizeOf t.branches < SizeOf.sizeOf t:=by
 cases t
 simp only [Tr.branches,Tr.mk.sizeOf_spec]
 omega
theorem BrF.tree_lt (b:Br):SizeOf.sizeOf b.tree < SizeOf.sizeOf b:=by
 cases b
 simp only [BrF.mk.sizeOf_spec]
 omega
def Do:Nat→List Br→List (List C)
 | 0,_=>[]
 | n+1,l=>l.map fun b=>[.v (.string (DC b.ctor)),.v (.bool b.absurd),.v (.int .i64 b.tree.kind),.v (.int .i64 b.tree.body.kind),.v (.int .i64 b.tree.body.index),.v (.string (DC b.tree.body.name)),.sl 2 (Enc.encL b.tree.body.levels),.sl 5 (Enc.encL b.tree.body.kids),.v (.int .i64 b.tree.var),.sl 10 (Do n b.tree.branches)]
theorem brF_eq:∀ (n m:Nat) (l:List Br),SizeOf.sizeOf l≤n→SizeOf.sizeOf l≤m→Do n l=Do m l
 | 0,_,l,h,_=>by cases l <;> simp at h
 | _,0,l,_,h=>by cases l <;> simp at h
 | n+1,m+1,l,h1,h2=>by
  unfold Do
  refine List.map_congr_left fun t ht=>?_
  have h3:=List.sizeOf_lt_of_mem ht
  have h4:=t.tree_lt
  have h5:=t.tree.branches_lt
  rw [brF_eq n m t.tree.branches (by omega) (by omega)]
def brL (l:List Br):List (List C):=Do (SizeOf.sizeOf l) l
def brC (b:Br):List C:=[.v (.string (DC b.ctor)),.v (.bool b.absurd),.v (.int .i64 b.tree.kind),.v (.int .i64 b.tree.body.kind),.v (.int .i64 b.tree.body.index),.v (.string (DC b.tree.body.name)),.sl 2 (Enc.encL b.tree.body.levels),.sl 5 (Enc.encL b.tree.body.kids),.v (.int .i64 b.tree.var),.sl 10 (brL b.tree.branches)]
theorem W4 (l:List Br):brL l=l.map brC:=by
 unfold brL
 have hpos:0 < SizeOf.sizeOf l:=by cases l <;> simp <;> omega
 obtain ⟨k,hk⟩:∃ k,SizeOf.sizeOf l=k+1:=⟨SizeOf.sizeOf l - 1,by omega⟩
 rw [hk]
 unfold Do brC
 refine List.map_congr_left fun t ht=>?_
 have h3:=List.sizeOf_lt_of_mem ht
 have h4:=t.tree_lt
 have h5:=t.tree.branches_lt
 rw [brF_eq k (SizeOf.sizeOf t.tree.branches) t.tree.branches (by omega) (Nat.le_refl _)]
 rfl
instance:Enc Br:=⟨10,brC,brL,W4 [],fun a b=>by rw [W4,W4,W4,List.map_append],fun x=>W4 [x]⟩
def trC (t:Tr):List C:=[.v (.int .i64 t.kind),.v (.int .i64 t.body.kind),.v (.int .i64 t.body.index),.v (.string (DC t.body.name)),.sl 2 (Enc.encL t.body.levels),.sl 5 (Enc.encL t.body.kids),.v (.int .i64 t.var),.sl 10 (Enc.encL t.branches)]
instance:Enc Tr:=⟨8,trC,fun l=>l.map trC,rfl,fun a b=>List.map_append,fun _=>rfl⟩
structure Ctr where
 name:Bs
 ty:Tm
def ctrC (c:Ctr):List C:=[.v (.string (DC c.name)),.v (.int .i64 c.ty.kind),.v (.int .i64 c.ty.index),.v (.string (DC c.ty.name)),.sl 2 (Enc.encL c.ty.levels),.sl 5 (Enc.encL c.ty.kids)]
instance:Enc Ctr:=⟨6,ctrC,fun l=>l.map ctrC,rfl,fun a b=>List.map_append,fun _=>rfl⟩
structure Rcr where
 params:Int
 ty:Tm
 rules:List Tm
def rcrC (r:Rcr):List C:=[.v (.int .i64 r.params),.v (.int .i64 r.ty.kind),.v (.int .i64 r.ty.index),.v (.string (DC r.ty.name)),.sl 2 (Enc.encL r.ty.levels),.sl 5 (Enc.encL r.ty.kids),.sl 5 (Enc.encL r.rules)]
instance:Enc Rcr:=⟨7,rcrC,fun l=>l.map rcrC,rfl,fun a b=>List.map_append,fun _=>rfl⟩
structure Fn where
 name:Bs
 ty:Tm
 arity:Int
 tree:Tr
def fnC (f:Fn):List C:=[.v (.string (DC f.name)),.v (.int .i64 f.ty.kind),.v (.int .i64 f.ty.index),.v (.string (DC f.ty.name)),.sl 2 (Enc.encL f.ty.levels),.sl 5 (Enc.encL f.ty.kids),.v (.int .i64 f.arity),
 .v (.int .i64 f.tree.kind),.v (.int .i64 f.tree.body.kind),.v (.int .i64 f.tree.body.index),.v (.string (DC f.tree.body.name)),.sl 2 (Enc.encL f.tree.body.levels),.sl 5 (Enc.encL f.tree.body.kids),.v (.int .i64 f.tree.var),.sl 10 (Enc.encL f.tree.branches)]
instance:Enc Fn:=⟨15,fnC,fun l=>l.map fnC,rfl,fun a b=>List.map_append,fun _=>rfl⟩
structure Dcl where
 kind:Int
 name:Bs
 params:Int
 ty:Tm
 value:Tm
 fixed:Int
 ctors:List Ctr
 rcr:Rcr
 funs:List Fn
def UP (d:Dcl):List C:=[.v (.int .i64 d.kind),.v (.string (DC d.name)),.v (.int .i64 d.params),
 .v (.int .i64 d.ty.kind),.v (.int .i64 d.ty.index),.v (.string (DC d.ty.name)),.sl 2 (Enc.encL d.ty.levels),.sl 5 (Enc.encL d.ty.kids),
 .v (.int .i64 d.value.kind),.v (.int .i64 d.value.index),.v (.string (DC d.value.name)),.sl 2 (Enc.encL d.value.levels),.sl 5 (Enc.encL d.value.kids),
 .v (.int .i64 d.fixed),.sl 6 (Enc.encL d.ctors),
 .v (.int .i64 d.rcr.params),.v (.int .i64 d.rcr.ty.kind),.v (.int .i64 d.rcr.ty.index),.v (.string (DC d.rcr.ty.name)),.sl 2 (Enc.encL d.rcr.ty.levels),.sl 5 (Enc.encL d.rcr.ty.kids),.sl 5 (Enc.encL d.rcr.rules),.sl 15 (Enc.encL d.funs)]
instance:Enc Dcl:=⟨23,UP,fun l=>l.map UP,rfl,fun a b=>List.map_append,fun _=>rfl⟩
structure Ent where
 kind:Int
 decl:Int
 item:Int
 params:Int
 ty:Tm
def entC (e:Ent):List C:=[.v (.int .i64 e.kind),.v (.int .i64 e.decl),.v (.int .i64 e.item),.v (.int .i64 e.params),.v (.int .i64 e.ty.kind),.v (.int .i64 e.ty.index),.v (.string (DC e.ty.name)),.sl 2 (Enc.encL e.ty.levels),.sl 5 (Enc.encL e.ty.kids)]
instance:Enc Ent:=⟨9,entC,fun l=>l.map entC,rfl,fun a b=>List.map_append,fun _=>rfl⟩
def UD:Tm:=.mk 0 0 [] [] []
def ent0:Ent:=⟨0,0,0,0,UD⟩
end
end Go.Proofs.Ytafddfoefeploaa
namespace Go.Proofs.Ytafddfoefeploaa
open Go.RowKit
class MK (κ:Type) extends BEq κ where
 ib:Bool
 val:κ→Value
 key:∀ a,Gp ib (val a)=true
 eq:∀ a b,Xp (val a) (val b)=some (a==b)
class MV (β:Type) where
 av:β→AV
 z:β
 ren:∀ ρ x,(av x).ren ρ=av x
 below:∀ m x,(av x).below m
instance:MK Int:={ ib:=true,val:=fun n=>.int .i64 n,key:=fun _=>rfl,eq:=fun _ _=>rfl }
theorem sB_eq (a b:List UInt8):Xp (.string (DC a)) (.string (DC b))=some (a==b):=by
 show some (DC a==DC b)=some (a==b)
 congr 1
 show (a.toArray==b.toArray)=(a==b)
 rw [Bool.eq_iff_iff,beq_iff_eq,beq_iff_eq]
 exact ⟨fun h=>by have:=congrArg Array.toList h;simpa using this,fun h=>by rw [h]⟩
instance:MK (List UInt8):={ ib:=false,val:=fun s=>.string (DC s),key:=fun _=>rfl,eq:=sB_eq }
instance:MV Bool:=⟨fun b=>.one (DX b),false,fun _ _=>rfl,fun _ _=>trivial⟩
instance:MV Int:=⟨fun n=>.one (DW n),0,fun _ _=>rfl,fun _ _=>trivial⟩
noncomputable instance:MV Ent:=⟨fun e=>.agg (DZ e),ent0,fun _ _=>rfl,fun m x y hy=>by
 obtain ⟨c,-,rfl⟩:=List.mem_map.1 hy
 trivial⟩
abbrev Qc (κ β:Type):=List (κ×β×Nat)×Nat
section
variable {κ β:Type} [MK κ] [MV β]
def QT (l:List (κ×β×Nat)):List (Value×AV×Nat):=l.map fun e=>(MK.val e.1,MV.av e.2.1,e.2.2)
def Yd (k:κ):List (κ×β×Nat)→Nat→Option (Nat×β)
 | [],_=>none
 | e::l,i=>cond (k==e.1) (some (i,e.2.1)) (Yd k l (i+1))
def ZT (M:Qc κ β) (k:κ):Option β:=(Yd k M.1 0).map (·.2)
def Qm (M:Qc κ β) (k:κ):β:=(ZT M k).getD MV.z
def Yt (M:Qc κ β) (k:κ):Bool:=(ZT M k).isSome
def J3 (M:Qc κ β) (k:κ) (v:β):Qc κ β:=match Yd k M.1 0 with
 | some (j,_)=>(M.1.modify j fun e=>(k,v,e.2.2),M.2)
 | none=>(M.1++[(k,v,M.2)],M.2+1)
def gmNil:Qc κ β:=([],0)
theorem mpBelow_gm {m:Nat} {l:List (κ×β×Nat)}:mpBelow m (QT l):=fun e he=>by
 obtain ⟨x,-,rfl⟩:=List.mem_map.1 he
 exact MV.below m x.2.1
theorem findE_gm (k:κ):∀ (l:List (κ×β×Nat)) (i:Nat),WT (MK.val k) (QT l) i=some ((Yd k l i).map fun p=>(p.1,MV.av p.2))
 | [],i=>rfl
 | e::l,i=>by
  have ih:=findE_gm k l (i+1)
  simp only [QT] at ih
  simp only [QT,List.map_cons,WT,MK.eq,Yd]
  cases h:k==e.1 with
  | true=>rfl
  | false=>simp only [cond_false];exact ih
theorem gmE_modify (l:List (κ×β×Nat)) (j:Nat) (k:κ) (v:β):QT (l.modify j fun e=>(k,v,e.2.2))=(QT l).modify j fun e=>(MK.val k,MV.av v,e.2.2):=by
 unfold QT
 apply List.ext_getElem?
 intro i
 rw [List.getElem?_map,List.getElem?_modify,List.getElem?_modify,List.getElem?_map]
 cases l[i]? with
 | none=>by_cases h:j=i <;> simp [h]
 | some e=>by_cases h:j=i <;> simp [h]
theorem gmE_ren (ρ:Nat→Nat) (l:List (κ×β×Nat)):(QT l).map (fun e=>(e.1,e.2.1.ren ρ,e.2.2))=QT l:=by
 unfold QT
 rw [List.map_map]
 refine List.map_congr_left fun e _=>?_
 show (MK.val e.1,(MV.av e.2.1).ren ρ,e.2.2)=_
 rw [MV.ren]
section
variable {E:Env} {st:St} {dd:Option Tmp} {ty:TypeId} {pos:String} {af:Array Edge} {g:Option (Nat×Bool)}
theorem RO.subV {o:Oper} {x y:AV} (h:RO E o st (.v x)) (hs:∀ V w v,x.rel V w v→y.rel V w v):RO E o st (.v y):=⟨h.1,fun V a w hr=>let ⟨v,h1,h2⟩:=h.2 V a w hr;⟨v,h1,hs V w v h2⟩⟩
theorem RO.subT {o:Oper} {x y z:AV} (h:RO E o st (.tup [x,z])) (hs:∀ V w v,x.rel V w v→y.rel V w v):RO E o st (.tup [y,z]):=⟨h.1,fun V a w hr=>by
 obtain ⟨v,h1,vs,h2,h3,h4⟩:=h.2 V a w hr
 refine ⟨v,h1,vs,h2,h3,fun i u hu=>?_⟩
 match i,hu with
 | 0,hu =>
  cases hu
  obtain ⟨q,h5,h6⟩:=h4 0 _ rfl
  exact ⟨q,h5,hs V w q h6⟩
 | 1,hu =>
  cases hu
  exact h4 1 _ Z⟩
def Dx (β:Type) [MV β] (z:AV):Prop:=∀ V w v,z.rel V w v→(MV.av (MV.z:β)).rel V w v
theorem Zm {t:TypeId} {z:AV} {o1 o2:Operand} {i:Nat} {M:Qc κ β} {k:κ} (ht:Xn E.P t=some (MK.ib κ,z)) (hz:Dx β z) (h1:ev st.tm o1=some (.v (.one (.mp i)))) (h2:ev st.tm o2=some (Xr (MK.val k))) (hi:DL st.hp i=some (.mp (QT M.1) M.2)) :
  RO E ⟨dd,.lookup t o1 o2 true,ty,pos,af,g⟩ st (.tup [MV.av (Qm M k),.one (.d (.v (.bool (Yt M k))))]):=by
 have hf:=findE_gm k M.1 0
 unfold Qm Yt ZT
 cases h:Yd k M.1 0 with
 | none=>rw [h] at hf;exact RO.subT (RO.lookup (E:=E) (dd:=dd) (ty:=ty) (pos:=pos) (af:=af) (g:=g) ht h1 h2 (MK.key k) hi hf true) hz
 | some p=>rw [h] at hf;exact RO.lookup (E:=E) (dd:=dd) (ty:=ty) (pos:=pos) (af:=af) (g:=g) ht h1 h2 (MK.key k) hi hf true
theorem RO.lookupGF {t:TypeId} {z:AV} {o1 o2:Operand} {i:Nat} {M:Qc κ β} {k:κ} (ht:Xn E.P t=some (MK.ib κ,z)) (hz:Dx β z) (h1:ev st.tm o1=some (.v (.one (.mp i)))) (h2:ev st.tm o2=some (Xr (MK.val k))) (hi:DL st.hp i=some (.mp (QT M.1) M.2)) :
  RO E ⟨dd,.lookup t o1 o2 false,ty,pos,af,g⟩ st (.v (MV.av (Qm M k))):=by
 have hf:=findE_gm k M.1 0
 unfold Qm ZT
 cases h:Yd k M.1 0 with
 | none=>rw [h] at hf;exact RO.subV (RO.lookup (E:=E) (dd:=dd) (ty:=ty) (pos:=pos) (af:=af) (g:=g) ht h1 h2 (MK.key k) hi hf false) hz
 | some p=>rw [h] at hf;exact RO.lookup (E:=E) (dd:=dd) (ty:=ty) (pos:=pos) (af:=af) (g:=g) ht h1 h2 (MK.key k) hi hf false
theorem Jk {t:TypeId} {z:AV} {o1 o2 o3:Operand} {i:Nat} {M:Qc κ β} {k:κ} {v:β} (ht:Xn E.P t=some (MK.ib κ,z)) (h1:ev st.tm o1=some (.v (.one (.mp i)))) (h2:ev st.tm o2=some (Xr (MK.val k))) (h3:ev st.tm o3=some (.v (MV.av v))) (hi:DL st.hp i=some (.mp (QT M.1) M.2)) (hdd:dd=none) :
  OpOK E ⟨dd,.mapUpdate t o1 o2 o3,ty,pos,af,g⟩ st (.tup []) ⟨(i,.mp (QT (J3 M k v).1) (J3 M k v).2)::Y2 i st.hp,st.tk,st.nx⟩:=by
 have hf:=findE_gm k M.1 0
 unfold J3
 cases h:Yd k M.1 0 with
 | none =>
  rw [h] at hf
  have e:QT (M.1++[(k,v,M.2)])=QT M.1++[(MK.val k,MV.av v,M.2)]:=by simp [QT]
  dsimp only
  rw [e];exact OpOK.mapUpdate (E:=E) (dd:=dd) (ty:=ty) (pos:=pos) (af:=af) (g:=g) ht h1 h2 h3 (MK.key k) hi hf hdd
 | some p =>
  rw [h] at hf
  dsimp only
  rw [gmE_modify];exact OpOK.mapUpdate (E:=E) (dd:=dd) (ty:=ty) (pos:=pos) (af:=af) (g:=g) ht h1 h2 h3 (MK.key k) hi hf hdd
theorem OpOK.makeMapG (κ β:Type) [MK κ] [MV β] {t:TypeId}:OpOK E ⟨dd,.makeMap t none,ty,pos,af,g⟩ st (.v (.one (.mp st.nx))) ⟨(st.nx,.mp (QT (gmNil:Qc κ β).1) (gmNil:Qc κ β).2)::st.hp,st.tk,st.nx+1⟩:=OpOK.makeMap
end
theorem bG {m i c:Nat} {xs:List (κ×β×Nat)} {r:List (Nat×HB)} (h:Nat.blt i m=true) (l:hpBelow m r):hpBelow m ((i,.mp (QT xs) c)::r):=⟨GL h,mpBelow_gm,l⟩
theorem DH {ρ:Nat→Nat} {i j c:Nat} {xs:List (κ×β×Nat)} {r r':List (Nat×HB)} (h1:ρ i=j) (h:YD ρ r=r'):YD ρ ((i,.mp (QT xs) c)::r)=(j,.mp (QT xs) c)::r' :=
 DI h1 (by show HB.mp ((QT xs).map _) c=_;rw [gmE_ren]) h
theorem DT {ρ:Nat→Nat} {hp:List (Nat×HB)} {i c:Nat} {xs:List (κ×β×Nat)} {r:List (Nat×HB)} (h:DL hp (ρ i)=some (.mp (QT xs) c)) (l:hpLe hp (YD ρ r)):hpLe hp (YD ρ ((i,.mp (QT xs) c)::r)) :=
 DS (by show _=some (HB.mp ((QT xs).map _) c);rw [gmE_ren];exact h) l
end
theorem zok_bool:Dx Bool (.one (.d (.v (.bool false)))):=fun _ _ _ h=>h
theorem asub_zok {β:Type} [MV β] {z:AV} (h:ASub z (MV.av (MV.z:β))):Dx β z:=fun V w v hv=>(h.rel hv).mono (of_le (V:=V))
inductive Parts (st:St):List (Nat×Operand)→List (Nat×AV)→Prop
 | nil:Parts st [] []
 | cons {i:Nat} {o:Operand} {x:AV} {ps:List (Nat×Operand)} {xs:List (Nat×AV)} (h:ev st.tm o=some (.v x)) (t:Parts st ps xs):Parts st ((i,o)::ps) ((i,x)::xs)
theorem Parts.spec {st:St} {ps:List (Nat×Operand)} {xs:List (Nat×AV)} (h:Parts st ps xs):ps.length=xs.length∧∀ (j i:Nat) (x:AV),xs[j]?=some (i,x)→∃ o,ps[j]?=some (i,o)∧ev st.tm o=some (.v x):=by
 induction h with
 | nil=>exact ⟨rfl,fun j i x hx=>by simp at hx⟩
 | cons h t ih =>
  refine ⟨by simp [ih.1],fun j i x hx=>?_⟩
  cases j with
  | zero=>simp at hx;obtain ⟨rfl,rfl⟩:=hx;exact ⟨_,rfl,h⟩
  | succ j=>exact ih.2 j i x (by simpa using hx)
section
variable {E:Env} {st:St} {dd:Option Tmp} {ty:TypeId} {pos:String} {af:Array Edge} {g:Option (Nat×Bool)}
theorem JR {t:TypeId} {pl:List (Nat×Nat)} {zs:List Value} {parts:Array (Nat×Operand)} {avs:List (Nat×AV)} {ys:List CA} (ht:Y6 E.P t pl zs) (hz:zs.all (·.oneCell')=true) (hp:Parts st parts.toList avs) (hf:YX pl (zs.map fun z=>.d (.v z)) avs=some ys) :
  RO E ⟨dd,.build t parts,ty,pos,af,g⟩ st (.v (.agg ys)):=Xc ht hz hp.spec.1 hp.spec.2 hf
end
end Go.Proofs.Ytafddfoefeploaa
namespace Go.Proofs.Ytafddfoefeploaa
open Go.RowKit
instance:EncLen Tm:=⟨fun t=>by cases t;rfl,Nat.succ_pos 4⟩
instance:EncLen Br:=⟨fun t=>by cases t;rfl,Nat.succ_pos 9⟩
instance:EncLen Tr:=⟨fun t=>rfl,Nat.succ_pos 7⟩
instance:EncLen Ctr:=⟨fun t=>rfl,Nat.succ_pos 5⟩
instance:EncLen Rcr:=⟨fun t=>rfl,Nat.succ_pos 6⟩
instance:EncLen Fn:=⟨fun t=>rfl,Nat.succ_pos 14⟩
instance:EncLen Dcl:=⟨fun t=>rfl,Nat.succ_pos 22⟩
instance:EncLen Ent:=⟨fun t=>rfl,Nat.succ_pos 8⟩
instance:EncLen (List UInt8):=⟨fun _=>rfl,Nat.succ_pos 0⟩
instance:EncLen Bool:=⟨fun _=>rfl,Nat.succ_pos 0⟩
instance {α:Type} [Enc α]:EncLen (List α):=⟨fun _=>rfl,Nat.succ_pos 0⟩
section
variable {E:Env} {st:St} {dd:Option Tmp} {ty:TypeId} {pos:String} {af:Array Edge} {g:Option (Nat×Bool)} {α:Type} [Enc α] [EncLen α]
theorem QM {t i:Nat} {T:TypeId} {x:Operand} (v:α) (ht:Jz E.P t=some (true,Enc.sz α)) (hx:ev st.tm x=some (.v (.one (.ptr i 0)))) (hi:DL st.hp i=some (.cells T (DZ v))):RO E ⟨dd,.load t x,ty,pos,af,g⟩ st (.v (.agg (DZ v))):=by
 have hl:(DZ v).length=Enc.sz α:=by rw [List.length_map,EncLen.len]
 exact Qk ht hx hi (by rw [List.drop_zero,List.take_of_length_le (Nat.le_of_eq hl)]) hl
theorem Qt {t:Nat} {x:Operand} (v:α) (ht:Jz E.P t=some (true,Enc.sz α)) (hx:ev st.tm x=some (.v (.one (.pel (Enc.enc v) 0)))):RO E ⟨dd,.load t x,ty,pos,af,g⟩ st (.v (.agg (DZ v))) :=
 YR ht hx (by rw [List.drop_zero,List.take_of_length_le (Nat.le_of_eq (EncLen.len v))]) (EncLen.len v)
theorem QC {t i:Nat} {ag:Bool} {T:TypeId} {xs:List CA} {o1 o2:Operand} (v:α) (ht:Jz E.P t=some (ag,Enc.sz α)) (h1:ev st.tm o1=some (.v (.one (.ptr i 0)))) (h2:ev st.tm o2=some (.v (.agg (DZ v)))) (hi:DL st.hp i=some (.cells T xs)) (hl:xs.length=Enc.sz α) (hdd:dd=none) :
  OpOK E ⟨dd,.store t o1 o2,ty,pos,af,g⟩ st (.tup []) ⟨(i,.cells T (DZ v))::Y2 i st.hp,st.tk,st.nx⟩:=by
 have hc:(AV.agg (DZ v)).cells.length=Enc.sz α:=by show (DZ v).length=_;rw [List.length_map,EncLen.len]
 have:=Qv (dd:=dd) (ty:=ty) (pos:=pos) (af:=af) (g:=g) ht h1 h2 hi hc (by omega) hdd
 have e1:setL xs 0 (AV.agg (DZ v)).cells=DZ v:=by
  have:=Ko (AV.agg (DZ v)).cells xs [] (by rw [hc,hl])
  rw [List.append_nil,List.append_nil] at this
  exact this
 rw [e1] at this
 exact this
theorem csubs_all:∀ cs:List C,CSubs (cs.map CA.d) cs
 | []=>.nil
 | c::cs=>.cons (.d _) (csubs_all cs)
theorem fill1 {zs:List Value} (v:α) (hzl:zs.length=Enc.sz α):YX (Ju (Enc.sz α) 1) (Jq zs 1) [(0,.agg (DZ v))]=some (DZ v):=by
 have h0:(Jq zs 1).length=Enc.sz α:=by simp [Jq,hzl]
 have h1:(DZ v).length=Enc.sz α:=by rw [List.length_map,EncLen.len]
 have h2:(Ju (Enc.sz α) 1)[0]?=some (0,Enc.sz α):=by simp [Ju]
 have h3:setL (Jq zs 1) 0 (DZ v)=DZ v:=by
  have:=Ko (DZ v) (Jq zs 1) [] (by rw [h0,h1])
  rwa [List.append_nil,List.append_nil] at this
 simp only [YX,h2]
 show cond (Nat.beq (DZ v).length (Enc.sz α)&&Nat.ble (0+Enc.sz α) (Jq zs 1).length) (some (setL (Jq zs 1) 0 (DZ v))) none=some (DZ v)
 rw [h1,h0,h3,Nat.zero_add,Nat.beq_refl,Nat.ble_eq_true_of_le (Nat.le_refl _)]
 rfl
theorem OpOK.lit1CE (v:α) {t e:Nat} {zs:List Value} {o1:Operand} (ht:Jn E.P t=some (e,Enc.sz α)) (hze:Jy E.P e=some zs) (hzl:zs.length=Enc.sz α) (hz:zs.all (·.oneCell')=true) (hlen:1 * Enc.sz α≤16777216)
  (h1:ev st.tm o1=some (.v (.agg (DZ v)))) :
  OpOK E ⟨dd,.buildSlice t 1 #[(0,o1)],ty,pos,af,g⟩ st (.v (.one (.app st.nx (Enc.sz α) (Enc.encL [v])))) ⟨st.hp,(st.nx,some ⟨e,Enc.sz α,(Enc.encL [v]).length,[]⟩)::st.tk,st.nx+1⟩ :=
 Yq v ht hze hzl hz EncLen.pos hlen h1 (fill1 v hzl) (csubs_all _) (EncLen.len v)
theorem OpOK.data1CE (v:α) {t e:Nat} {zs:List Value} {o1:Operand} (ht:Jn E.P t=some (e,Enc.sz α)) (hze:Jy E.P e=some zs) (hzl:zs.length=Enc.sz α) (hz:zs.all (·.oneCell')=true) (hlen:1 * Enc.sz α≤16777216)
  (h1:ev st.tm o1=some (.v (.agg (DZ v)))) :
  OpOK E ⟨dd,.buildSlice t 1 #[(0,o1)],ty,pos,af,g⟩ st (.v (.one (.d (.sl (Enc.sz α) (Enc.encL [v]))))) ⟨st.hp,st.tk,st.nx⟩ :=
 OpOK.data1E (E:=E) (st:=st) (d:=dd) (ty:=ty) (pos:=pos) (af:=af) (g:=g) v ht hze hzl hz hlen h1 (fill1 v hzl) (csubs_all _) (EncLen.len v)
end
end Go.Proofs.Ytafddfoefeploaa
namespace Go.Proofs.Ytafddfoefeploaa
open Go.RowKit
structure SwInv (E:Env) (ops:Array Oper) (st:St) (fx:List (Nat×TV)) (effs:List Nat) (dns:List (List Nat)) (ms:List Mem) (listed:Array Bool) (a:Act) (w:World) (V:Vu) (j:Nat) (d:List Nat) (m:Mem):Prop where
 size:listed.size=ops.size
 closed:∀ i,listed.getD i false=true→∀ k∈Ys ops i,listed.getD k false=true
 stage:dns[j]?=some d
 done:∀ e∈d,listed.getD e false=true
 todo:∀ e∈effs,e∉d→listed.getD e false=false
 mem:ms[j]?=some m
 rel:Rel E V ⟨XK (WU ops) st.tm,m.hp,m.tk,m.nx,st.nt,st.df⟩ a w
 fact:∀ i,listed.getD i false=true→∀ d x,Zy ops i=some d→DL fx i=some x→x.rel V w (a.tmps.getD d undef)
 old:∀ t x,DL st.tm t=some x→(∀ k,Zy ops k=some t→listed.getD k false=false)→x.rel V w (a.tmps.getD t undef)
section
variable {E:Env} {ops:Array Oper} {st:St} {fx:List (Nat×TV)} {effs:List Nat} {dns:List (List Nat)} {ms:List Mem} {listed:Array Bool} {a:Act} {w:World} {V:Vu} {j:Nat} {d:List Nat} {m:Mem}
end
section
variable {E:Env} {ops:Array Oper} {st:St} {effs:List Nat} {dns:List (List Nat)}
end
end Go.Proofs.Ytafddfoefeploaa
namespace Go.Proofs.Ytafddfoefeploaa
open Go.RowKit
section
variable {E:Env} {st:St} {dd d:Option Tmp} {ty:TypeId} {pos:String} {af:Array Edge} {g:Option (Nat×Bool)}
theorem RO.indexA {t n sz i off:Nat} {x y:Operand} {m:Int} (ht:Wy E.P t=some (n,sz)) (hx:ev st.tm x=some (.v (.one (.ptr i off)))) (hy:ev st.tm y=some (TI m)) (hm:(cond (decide (0≤m)) (Nat.blt m.toNat n) false)=true) :
  RO E ⟨d,.indexAddr t x y,ty,pos,af,g⟩ st (.v (.one (.ptr i (off+m.toNat * sz)))) :=
 RO.indexArrOwn ht hx hy (Int.toNat_of_nonneg (of_decide_eq_true (cond_left hm))).symm (GL (cond_right hm))
theorem OpOK.data2E {α:Type} [Enc α] (v1 v2:α) {t e:Nat} {zs:List Value} {o1 o2:Operand} {x1 x2:AV} {ys:List CA} (ht:Jn E.P t=some (e,Enc.sz α)) (hze:Jy E.P e=some zs) (hzl:zs.length=Enc.sz α) (hz:zs.all (·.oneCell')=true) (hlen:2 * Enc.sz α≤16777216)
  (h1:ev st.tm o1=some (.v x1)) (h2:ev st.tm o2=some (.v x2)) (hf:YX (Ju (Enc.sz α) 2) (Jq zs 2) [(0,x1),(1,x2)]=some ys) (hs:CSubs ys (Enc.enc v1++Enc.enc v2)) (hel:(Enc.enc v1).length=Enc.sz α∧(Enc.enc v2).length=Enc.sz α) :
  OpOK E ⟨d,.buildSlice t 2 #[(0,o1),(1,o2)],ty,pos,af,g⟩ st (.v (.one (.d (.sl (Enc.sz α) (Enc.encL [v1,v2]))))) ⟨st.hp,st.tk,st.nx⟩ :=
 OpOK.litData (avs:=[(0,x1),(1,x2)]) (Enc.encL [v1,v2]) ht hze hzl hz hlen rfl (fun j i x hx=>by
  match j,hx with
  | 0,hx=>cases hx;exact ⟨o1,rfl,h1⟩
  | 1,hx=>cases hx;exact ⟨o2,rfl,h2⟩) hf (by rw [Enc.cons,Enc.one];simpa using hs) (fun x hx=>by
   rw [Enc.cons,Enc.one] at hx;simp at hx
   rcases hx with rfl | rfl
   ·exact hel.1
   ·exact hel.2) (by rw [Enc.len];rfl)
end
end Go.Proofs.Ytafddfoefeploaa
namespace Go.Proofs.Ytafddfoefeploaa
open Go.RowKit
structure Byt where
 n:Int
def bytC (b:Byt):List C:=[.v (.int .u8 b.n)]
instance:Enc Byt:=⟨1,bytC,fun l=>l.map bytC,rfl,fun a b=>List.map_append,fun _=>rfl⟩
instance:EncLen Byt:=⟨fun _=>rfl,by decide⟩
section
variable {E:Env} {st:St} {d:Option Tmp} {ty:TypeId} {pos:String} {af:Array Edge} {g:Option (Nat×Bool)}
end
end Go.Proofs.Ytafddfoefeploaa
namespace Go.Proofs.Ytafddfoefeploaa
open Go.RowKit
section
variable {E:Env} {st:St} {dd:Option Tmp} {ty:TypeId} {pos:String} {af:Array Edge} {g:Option (Nat×Bool)}
end
section
variable {E:Env} {st:St} {Q:Exit→Act→World→Prop} {ex:Exit}
end
section
variable {E:Env} {st:St} {dd:Option Tmp} {ty:TypeId} {pos:String} {af:Array Edge} {g:Option (Nat×Bool)} {α:Type} [Enc α] [EncLen α]
end
section
variable {E:Env} {st:St} {dd:Option Tmp} {ty:TypeId} {pos:String} {af:Array Edge} {g:Option (Nat×Bool)}
theorem RO.loadCol {t b m0 sz f:Nat} {T:TypeId} {xs:List CA} {x:Operand} {col:List Int} {m v:Int} (ht:Jz E.P t=some (false,m0)) (hx:ev st.tm x=some (.v (.one (.ptr b (0+m.toNat * sz+f))))) (hb:DL st.hp b=some (.cells T xs))
  (hc:(List.range col.length).map (fun j=>xs[j * sz+f]?)=col.map fun n=>some (DW n)) (hv:Jx col m=some v):RO E ⟨dd,.load t x,ty,pos,af,g⟩ st (TI v):=by
 obtain ⟨k,rfl,hk⟩:=idxS hv
 have h1:=congrArg (fun l:List (Option CA)=>l[k]?) hc
 have hlt:=(List.getElem?_eq_some_iff.1 hk).1
 rw [List.getElem?_map,List.getElem?_map,List.getElem?_range hlt,hk] at h1
 have h2:=Option.some.inj h1
 refine Q5 (y:=DW v) ht hx hb ?_
 rw [Int.toNat_natCast,Nat.zero_add]
 exact h2
end
section
variable {E:Env} {st:St} {dd:Option Tmp} {ty:TypeId} {pos:String} {af:Array Edge} {g:Option (Nat×Bool)}
theorem OpOK.lit2E {α:Type} [Enc α] (v0 v1:α) {t e:Nat} {zs:List Value} {o0 o1:Operand} {x0 x1:AV} {ys:List CA} (ht:Jn E.P t=some (e,Enc.sz α)) (hze:Jy E.P e=some zs) (hzl:zs.length=Enc.sz α) (hz:zs.all (·.oneCell')=true) (hpos:0 < Enc.sz α) (hlen:2 * Enc.sz α≤16777216)
  (h0:ev st.tm o0=some (.v x0)) (h1:ev st.tm o1=some (.v x1)) (hf:YX (Ju (Enc.sz α) 2) (Jq zs 2) [(0,x0),(1,x1)]=some ys) (hs:CSubs ys (Enc.enc v0++Enc.enc v1)) (hel:(Enc.enc v0).length=Enc.sz α∧(Enc.enc v1).length=Enc.sz α) :
  OpOK E ⟨dd,.buildSlice t 2 #[(0,o0),(1,o1)],ty,pos,af,g⟩ st (.v (.one (.app st.nx (Enc.sz α) (Enc.encL [v0,v1])))) ⟨st.hp,(st.nx,some ⟨e,Enc.sz α,(Enc.encL [v0,v1]).length,[]⟩)::st.tk,st.nx+1⟩ :=
 OpOK.litApp (avs:=[(0,x0),(1,x1)]) (Enc.encL [v0,v1]) ht hze hzl hz hpos hlen rfl (fun j i x hx=>by
  match j,hx with
  | 0,hx=>cases hx;exact ⟨o0,rfl,h0⟩
  | 1,hx=>cases hx;exact ⟨o1,rfl,h1⟩) hf (by rw [Enc.map];simpa using hs) (fun x hx=>by
  rw [Enc.map] at hx
  obtain ⟨y,hy,rfl⟩:=List.mem_map.1 hx
  simp at hy
  rcases hy with rfl | rfl
  ·exact hel.1
  ·exact hel.2) (by rw [Enc.len];rfl)
theorem OpOK.lit3E {α:Type} [Enc α] (v0 v1 v2:α) {t e:Nat} {zs:List Value} {o0 o1 o2:Operand} {x0 x1 x2:AV} {ys:List CA} (ht:Jn E.P t=some (e,Enc.sz α)) (hze:Jy E.P e=some zs) (hzl:zs.length=Enc.sz α) (hz:zs.all (·.oneCell')=true) (hpos:0 < Enc.sz α) (hlen:3 * Enc.sz α≤16777216)
  (h0:ev st.tm o0=some (.v x0)) (h1:ev st.tm o1=some (.v x1)) (h2:ev st.tm o2=some (.v x2)) (hf:YX (Ju (Enc.sz α) 3) (Jq zs 3) [(0,x0),(1,x1),(2,x2)]=some ys) (hs:CSubs ys (Enc.enc v0++Enc.enc v1++Enc.enc v2)) (hel:(Enc.enc v0).length=Enc.sz α∧(Enc.enc v1).length=Enc.sz α∧(Enc.enc v2).length=Enc.sz α) :
  OpOK E ⟨dd,.buildSlice t 3 #[(0,o0),(1,o1),(2,o2)],ty,pos,af,g⟩ st (.v (.one (.app st.nx (Enc.sz α) (Enc.encL [v0,v1,v2])))) ⟨st.hp,(st.nx,some ⟨e,Enc.sz α,(Enc.encL [v0,v1,v2]).length,[]⟩)::st.tk,st.nx+1⟩ :=
 OpOK.litApp (avs:=[(0,x0),(1,x1),(2,x2)]) (Enc.encL [v0,v1,v2]) ht hze hzl hz hpos hlen rfl (fun j i x hx=>by
  match j,hx with
  | 0,hx=>cases hx;exact ⟨o0,rfl,h0⟩
  | 1,hx=>cases hx;exact ⟨o1,rfl,h1⟩
  | 2,hx=>cases hx;exact ⟨o2,rfl,h2⟩) hf (by rw [Enc.map];simpa using hs) (fun x hx=>by
  rw [Enc.map] at hx
  obtain ⟨y,hy,rfl⟩:=List.mem_map.1 hx
  simp at hy
  rcases hy with rfl | rfl | rfl
  ·exact hel.1
  ·exact hel.2.1
  ·exact hel.2.2) (by rw [Enc.len];rfl)
theorem RO.makeFunc3 {f:FuncId} {o1 o2 o3:Operand} {i1 k1 i2 k2 i3 k3:Nat} {dd:Option Tmp} (h1:ev st.tm o1=some (.v (.one (.ptr i1 k1)))) (h2:ev st.tm o2=some (.v (.one (.ptr i2 k2)))) (h3:ev st.tm o3=some (.v (.one (.ptr i3 k3)))):RO E ⟨dd,.makeFunc (.func f) #[] #[o1,o2,o3],ty,pos,af,g⟩ st (.v (.one (.fn f [(i1,k1),(i2,k2),(i3,k3)]))) :=
 RO.makeFunc rfl (fun k p hk=>by
  match k,hk with
  | 0,hk=>cases hk;exact ⟨o1,rfl,h1⟩
  | 1,hk=>cases hk;exact ⟨o2,rfl,h2⟩
  | 2,hk=>cases hk;exact ⟨o3,rfl,h3⟩)
end
section
variable {E:Env} {st:St}
end
end Go.Proofs.Ytafddfoefeploaa
namespace Go.Proofs.Ytafddfoefeploaa
open Go.RowKit
def Xs (P:Program) (f:FuncId) (args:List AV) (m:Mem) (pv:Value) (m':Mem):Prop :=
 J4 P f∧∀ (E:Env) (V:Vu) (w:World) (vs:Array Value),E.P=P→HRel E V m.hp m.tk w→V.nx=m.nx→argsRel V w args vs →
  Calls P f vs w fun e w'=>∃ V',e=.panicked (Jr pv)∧HRel E V' m'.hp m'.tk w'∧V'.nx=m'.nx∧V.Le V' w w'
inductive EK where
 | ret (xs:List AV)
 | pan (v:Value)
def CallE (P:Program) (f:FuncId) (args:List AV) (m:Mem) (k:EK) (m':Mem):Prop:=match k with
 | .ret xs=>CallM P f args m (QP xs) m'
 | .pan v=>Xs P f args m v m'
def EK.ok (P:Program) (st:St) (rs:List ResultVar):EK→Prop
 | .ret xs=>RAs P st rs xs
 | .pan _=>True
def EK.by:EK→Exit→Prop
 | .ret _,e=>e=.normal∨e=.ret
 | .pan v,e=>e=.panic (Jr v)
theorem D6 {xs:List AV}:EK.by (.ret xs) .normal:=.inl rfl
theorem UV {xs:List AV}:EK.by (.ret xs) .ret:=.inr rfl
theorem ZC {v:Value}:EK.by (.pan v) (.panic (Jr v)):=rfl
theorem UE {P:Program} {st:St} {rs:List ResultVar} {v:Value}:EK.ok P st rs (.pan v):=trivial
theorem Uu {P:Program} {st:St} {rs:List ResultVar} {xs:List AV} (h:RAs P st rs xs):EK.ok P st rs (.ret xs):=h
theorem CallE.m {P:Program} {f:FuncId} {args:List AV} {m m':Mem} {xs:List AV} (h:CallE P f args m (.ret xs) m'):CallM P f args m (QP xs) m':=h
theorem CallE.d {P:Program} {f:FuncId} {args:List AV} {m m':Mem} {v:Value} (h:CallE P f args m (.pan v) m'):Xs P f args m v m':=h
theorem Kp {α β γ:Type} {f:α→Option γ} {g:β→Option γ} {a:α} {r:Option γ} (h:Sum.elim f g (.inl a)=r):f a=r:=h
theorem KY {α β γ:Type} {f:α→Option γ} {g:β→Option γ} {b:β} {r:Option γ} (h:Sum.elim f g (.inr b)=r):g b=r:=h
theorem JL {α β γ δ:Type} (ι:α⊕β→δ) {o:Option δ} {y:α⊕β} {f:α→Option γ} {g:β→Option γ} {r:γ} {G:Prop} (ho:o=some (ι y)) (h:Sum.elim f g y=some r) (k1:∀ a,o=some (ι (.inl a))→f a=some r→G) (k2:∀ b,o=some (ι (.inr b))→g b=some r→G):G:=by
 cases y with
 | inl a=>exact k1 a ho h
 | inr b=>exact k2 b ho h
def OpD (E:Env) (o:Oper) (st:St) (pv:Value) (m:Mem):Prop:=∀ V a w,Rel E V st a w→∀ (ro:Option Nat) (n:Nat) (K:Act→World→Prop) (Q:Exit→Act→World→Prop),
 (∀ V' w',HRel E V' m.hp m.tk w'→V'.nx=m.nx→V.Le V' w w'→Q (.panic (Jr pv)) a w')→o.wpIn (FR ro) n E.P a w K Q
section
variable {E:Env} {ro:Option Nat} {n:Nat} {ops:Array Oper} {Q:Exit→Act→World→Prop} {rest:List Oper} {st:St} {o:Oper} {x:TV} {d dd:Option Tmp} {ty:TypeId} {pos:String} {af:Array Edge} {g:Option (Nat×Bool)}
theorem J6 {pv:Value} {hp:List (Nat×HB)} {tk:List (Nat×Option Tok)} {nx:Nat} (hg:Y7 ops st.tm o=some true) (ho:OpD E o st pv ⟨hp,tk,nx⟩) (k:XQ E Q (.panic (Jr pv)) ⟨st.tm,hp,tk,nx,st.nt,st.df⟩):XL E ro n ops Q (o::rest) st:=by
 intro V a w h
 unfold wpListIn
 rw [if_pos (ZF h hg)]
 exact ho V a w h ro n _ Q (fun V' w' H hn L=>k V' a w' (h.mem H hn L))
theorem DieOp.mk {fx:List (Nat×TV)} {i:Nat} {m m':Mem} {pv:Value} (ho:ops[i]?=some o) (hw:Y7 ops (Yo ops st fx i m).tm o=some true) (h:OpD E o (Yo ops st fx i m) pv m') (k:XQ E Q (.panic (Jr pv)) ⟨(Yo ops st fx i m).tm,m'.hp,m'.tk,m'.nx,st.nt,st.df⟩):DieOp E Q ops st fx i m :=
 ⟨o,ho,hw,fun V a w hr ro n K=>h V a w hr ro n K Q (fun V' w' H hn L=>k V' a w' (hr.mem H hn L))⟩
theorem Ji {Q':Exit→Act→World→Prop} {e:Exit} (h:XQ E Q e st) (hq:∀ a w,Q e a w→Q' e a w):XQ E Q' e st:=fun V a w hr=>hq a w (h V a w hr)
def tyStruct (P:Program) (t:TypeId):Bool:=match P.underlying t with
 | some (.struct _)=>true
 | _=>false
theorem RO.wrong {T:TypeId} {x:Operand} {e:Int} (ht:tyStruct E.P T=true) (hx:ev st.tm x=some (.v (.agg [DW e]))):RO E ⟨d,.makeInterface T x,ty,pos,af,g⟩ st (Xr (QG T e)):=by
 refine ⟨(fun _ h=>nomatch h),fun V a w hr=>⟨QG T e,?_,K0 Z⟩⟩
 obtain ⟨vs,h1,h2,h3⟩:=hr.ev hx
 obtain ⟨u,h4,h5⟩:=h3 0 _ rfl
 have e1:u=.int .i64 e:=by cases h5;rfl
 subst e1
 have e2:vs=#[.int .i64 e]:=by
  apply Array.ext'
  have h6:vs.toList.length=1:=by simpa using h2
  match hv:vs.toList,h6 with
  | [y],_ =>
   have:vs[0]?=some y:=by rw [← Array.getElem?_toList,hv];rfl
   rw [h4] at this;cases this;rfl
 unfold tyStruct at ht
 split at ht
 ·rename_i fs hu
  simp [execOp,Instr.makeInterface,run_underlying hu,h1,e2,QG]
 ·cases ht
theorem OpD.panic {x:Operand} {v:Value} {T:TypeId} (hx:ev st.tm x=some (Xr (.iface T v))):OpD E ⟨dd,.panic x,ty,pos,af,g⟩ st (.iface T v) st.mem:=by
 intro V a w hr ro n K Q hK
 refine ⟨fun _ _=>trivial,?_⟩
 rw [Oper.semAt_eq _ _ _ (by intro c h;cases h)]
 have h1:=Ym (hr.ev hx)
 have h2:(execOp a.eval ⟨dd,.panic x,ty,pos,af,g⟩).run E.P w=.halt (.panic (.iface T v)) w:=by
  simp [execOp,Instr.panic,h1,goPanic]
 rw [h2]
 exact hK V w hr.h hr.nx (Vu.Le.refl _ _)
theorem Yl {x:Operand} {f:FuncId} {caps:List (Nat×Nat)} {ars:Array Operand} {args args0:List AV} {ats:Array TypeId} {pv:Value} {hp0 hp1 hp1' hpF:List (Nat×HB)} {tk0 tk1 tk1' tkF:List (Nat×Option Tok)} {nx0 nx1 nx2 n:Nat}
  (rs:List Nat) (hx:ev st.tm x=some (.v (.one (.fn f caps)))) (ha:Zh st.tm ars.toList=some args)
  (hc:Xs E.P f args0 ⟨hp0,tk0,nx0⟩ pv ⟨hp1,tk1,nx1⟩) (hst:st.nx=n) (he:args++XS caps=args0.map (AV.ren (Wr rs n))) (e3:YD (Wr rs n) hp1=hp1') (e4:Zp (Wr rs n) tk1=tk1')
  (hh:hpLe st.hp (YD (Wr rs n) hp0)) (ht:tkLe st.tk (Zp (Wr rs n) tk0)) (hhF:hpLe st.hp hpF) (htF:tkLe st.tk tkF) (hl:Nat.beq rs.length nx0=true) (hnd:WB rs=true) (hlt:(rs.all fun j=>Nat.blt j n)=true) (d1:WW rs hpF=true) (d2:WW rs tkF=true)
  (b0:hpBelow nx0 hp0) (c0:(tk0.all fun p=>Nat.blt p.1 nx0)=true) (ba:(args0.all fun y=>y.belowB nx0)=true) (hle:Nat.ble nx0 nx1=true) (hn:Nat.beq (nx1+n) (nx2+nx0)=true) :
  OpD E ⟨dd,.call { callee:=.value x,args:=ars,argTypes:=ats },ty,pos,af,g⟩ st pv ⟨hp1'++hpF,tk1'++tkF,nx2⟩:=by
 subst hst e3 e4
 have c0':=tkBelow_all c0
 have hl':rs.length=nx0:=Nat.eq_of_beq_eq_true hl
 have hlt':∀ j∈rs,j < st.nx:=fun j hj=>GL (List.all_eq_true.1 hlt j hj)
 have inj:∀ i j,Wr rs st.nx i=Wr rs st.nx j→i=j:=fun i j h=>rho_inj (nodupN_ok hnd) hlt' h
 intro V a w hr ro n K Q hK
 refine ⟨fun _ _=>trivial,?_⟩
 rw [Oper.semAt_eq _ _ _ (by intro c h;cases h)]
 obtain ⟨hv1,hv2⟩:=hr.ev hx
 have hrun:(execOp a.eval ⟨dd,.call { callee:=.value x,args:=ars,argTypes:=ats },ty,pos,af,g⟩).run E.P w=.ok (.enter f (ars.map a.eval++(caps.map fun p=>Value.pointer (some ⟨V.ι p.1,p.2,none⟩)).toArray)) w:=by
  have:=hc.1 (ars.map a.eval++(caps.map fun p=>Value.pointer (some ⟨V.ι p.1,p.2,none⟩)).toArray) w
  simp [execOp,resolve,hv2,Deferred.ofValue,invoke]
  simpa using this
 rw [hrun]
 refine ⟨(by intro h;cases h),?_⟩
 have h0:=(hr.h.forgetLe hh ht).part inj b0 c0'
 have har:argsRel (pull (Wr rs st.nx) V nx0) w args0 (ars.map a.eval++(caps.map fun p=>Value.pointer (some ⟨V.ι p.1,p.2,none⟩)).toArray):=by
  obtain ⟨h1,h2⟩:=(Zb hr ha).append (G7 hv1)
  rw [he] at h1 h2
  refine ⟨by simpa using h1,fun i y hy=>?_⟩
  obtain ⟨u,hu,hyu⟩:=h2 i (y.ren _) (by rw [List.getElem?_map,hy];rfl)
  exact ⟨u,hu,hyu.pull (ZB (List.all_eq_true.1 ba y (List.mem_of_getElem? hy)))⟩
 have hc':CallsIn Fence.wide (n - 1) E.P f _ w _:=callsIn_wide.2 (hc.2 ⟨E.P,w,Xo V _ _,pull (Wr rs st.nx) V nx0⟩ _ w _ rfl h0 rfl har)
 refine CallsIn.mono (F:=FR ro) hc' ?_
 rintro e w' ⟨V1,rfl,H,hn1,L⟩
 have hn2:=Nat.eq_of_beq_eq_true hn
 have hnx:=hr.nx
 dsimp only at hn1
 obtain ⟨H2,L2,L3⟩:=hr.h.turn (n:=nx2) inj hh ht hhF htF (fun i hi=>by rw [hnx];exact hlt' _ (KJ (by omega))) (fun i hi=>by rw [Xv (by omega),hnx,hl'])
  (fun i B hi k hk e=>apartB_ok d1 hi (by rw [← e];exact KJ (by omega))) (fun i T hi k hk e=>apartB_ok d2 hi (by rw [← e];exact KJ (by omega))) b0 c0' (by rw [hn1,hnx];exact hn2) (by rw [hn1];exact Nat.le_of_ble_eq_true hle) H
 exact hK _ w' H2 Z L2
theorem QF {x:Operand} {f:FuncId} {ars:Array Operand} {args args':List AV} {ats:Array TypeId} {pv:Value} {m1:Mem} (hx:ev st.tm x=some (.v (.one (.fn f [])))) (ha:Zh st.tm ars.toList=some args) (hs:U7 args=some args')
  (hc:Xs E.P f args' mem0 pv m1):OpD E ⟨dd,.call { callee:=.value x,args:=ars,argTypes:=ats },ty,pos,af,g⟩ st pv st.mem:=by
 intro V a w hr ro n K Q hK
 refine ⟨fun _ _=>trivial,?_⟩
 rw [Oper.semAt_eq _ _ _ (by intro c h;cases h)]
 rw [call_enters (by have:=(hr.ev hx).2;simpa using this) hc.1]
 refine ⟨(by intro h;cases h),?_⟩
 have har:argsRel (ZZ V.S) w args' (ars.map a.eval):=by
  obtain ⟨h1,h2⟩:=Zb hr ha
  obtain ⟨h3,h4⟩:=asAVs_spec hs
  refine ⟨by omega,fun i y hy=>?_⟩
  obtain ⟨x,hx',hxy⟩:=h4 i y hy
  obtain ⟨u,hu,hxu⟩:=h2 i x hx'
  exact ⟨u,hu,hxy.rel hxu⟩
 have hc':CallsIn Fence.wide (n - 1) E.P f _ w _:=callsIn_wide.2 (hc.2 (UA E.P w V.S) (ZZ V.S) w _ rfl (Uk hr.h.sz) rfl har)
 refine CallsIn.mono (F:=FR ro) hc' ?_
 rintro e w' ⟨V1,rfl,H,hn,L⟩
 have hg:V.Grow { V with S:=V1.S } w w':=⟨Nat.le_refl _,fun _ _=>rfl,fun _ _=>rfl,fun _ _ _ _=>rfl,H.le0.S,fun b o h=>by
  rcases H.sub b o h with h1 | h1 | h1
  ·exact .inl h1
  ·exact .inr h1
  ·exact h1.elim,H.sz⟩
 have hx':Xd w w':=H.ext
 exact hK { V with S:=V1.S } w' (hr.h.later hx' hg) hr.nx (hr.h.le hx' hg)
theorem OpD.callW {x:Operand} {f:FuncId} {caps:List (Nat×Nat)} {ars:Array Operand} {args args':List AV} {ats:Array TypeId} {pv:Value} {m':Mem} {hp0:List (Nat×HB)} {tk0:List (Nat×Option Tok)} {nx0:Nat} (hx:ev st.tm x=some (.v (.one (.fn f caps)))) (ha:Zh st.tm ars.toList=some args) (he:args++XS caps=args')
  (hc:Xs E.P f args' ⟨hp0,tk0,nx0⟩ pv m') (hn0:st.nx=nx0) (hh:hpLe st.hp hp0) (ht:tkLe st.tk tk0):OpD E ⟨dd,.call { callee:=.value x,args:=ars,argTypes:=ats },ty,pos,af,g⟩ st pv m':=by
 subst hn0;subst he
 intro V a w hr ro n K Q hK
 refine ⟨fun _ _=>trivial,?_⟩
 rw [Oper.semAt_eq _ _ _ (by intro c h;cases h)]
 obtain ⟨hv1,hv2⟩:=hr.ev hx
 have hrun:(execOp a.eval ⟨dd,.call { callee:=.value x,args:=ars,argTypes:=ats },ty,pos,af,g⟩).run E.P w=.ok (.enter f (ars.map a.eval++(caps.map fun p=>Value.pointer (some ⟨V.ι p.1,p.2,none⟩)).toArray)) w:=by
  have:=hc.1 (ars.map a.eval++(caps.map fun p=>Value.pointer (some ⟨V.ι p.1,p.2,none⟩)).toArray) w
  simp [execOp,resolve,hv2,Deferred.ofValue,invoke]
  simpa using this
 rw [hrun]
 refine ⟨(by intro h;cases h),?_⟩
 have hc':CallsIn Fence.wide (n - 1) E.P f _ w _:=callsIn_wide.2 (hc.2 E V w _ rfl (hr.h.forgetLe hh ht) hr.nx ((Zb hr ha).append (G7 hv1)))
 refine CallsIn.mono (F:=FR ro) hc' ?_
 rintro e w' ⟨V',rfl,H,hn,L⟩
 exact hK V' w' H hn L
end
theorem leaves_then {E:Env} {hp:List (Nat×HB)} {tk:List (Nat×Option Tok)} {F:Fence} {n:Nat} {P:Program} {fn:Func} {tmps:Array Value} {R:Ending→World→Prop} {u:FrameMode} (hu:u ≠ .run) {rest:List Deferred}:∀ (bs:List Nat) (w:World) (V:Vu),HRel E V hp tk w→bs.Nodup →
  (∀ b∈bs,V.S b 0∧w.heap[b]?=some (.deferred (some []))∧∀ o,¬ E.V0.S b o) →
  (∀ w' V',HRel E V' hp tk w'→V'.nx=V.nx→V'.ι=V.ι→V.Lx V' w w'→(∀ b o,b∉bs→V.S b o→V'.S b o)→(∀ b,b∉bs→w'.heap[b]?=w.heap[b]?)→LeavesInM F n P fn tmps R rest u w') →
  LeavesInM F n P fn tmps R (bs.map (fun b=>{ target:=.collected b,args:=#[]})++rest) u w
 | [],w,V,h,_,_,hK=>hK w V h rfl rfl (Vu.Lx.refl _ _) (fun _ _ _ h=>h) (fun _ _=>rfl)
 | b::bs,w,V,h,hn,hb,hK=>by
  obtain ⟨h1,h2,h3⟩:=hb b (by simp)
  obtain ⟨h4,h5⟩:=List.nodup_cons.1 hn
  obtain ⟨H,L⟩:=h.take h1 h2 h3
  refine ⟨hu,.inl ⟨b,_,Z,run_takeDeferred h2,?_⟩⟩
  refine leaves_then hu bs _ _ H h5 (fun b' hb'=>?_) (fun w' V' hw' hn' hι' L' hS' hh'=>hK w' V' hw' hn' hι' (L.trans L') (fun b' o hm hs=>hS' b' o (fun h=>hm (by simp [h])) ⟨hs,fun e=>hm (by simp [e])⟩) (fun b' hm=>(hh' b' (fun h=>hm (by simp [h]))).trans (World.putObj_heap_other (fun e=>hm (by simp [e])))))
  obtain ⟨h6,h7,h8⟩:=hb b' (by simp [hb'])
  have hne:b' ≠ b:=fun e=>h4 (by rw [← e];exact hb')
  exact ⟨⟨h6,hne⟩,(World.putObj_heap_other hne).trans h7,h8⟩
theorem leaves_pan {E:Env} {V:Vu} {st:St} {a:Act} {w:World} (hr:Rel E V st a w) (hd:st.df=[]) {F:Fence} {n:Nat} {P:Program} {fn:Func} {tmps:Array Value} {R:Ending→World→Prop} {ch:List PanicEntry}
  (hK:∀ w' V',HRel E V' st.hp st.tk w'→V'.nx=V.nx→V.Lx V' w w'→R (.panicked ch) w'):LeavesInM F n P fn tmps R a.defers (.panicking ch) w:=by
 obtain ⟨bs,h1,h2,h3⟩:=hr.df.of_nil hd
 rw [h1,← List.append_nil (List.map _ bs)]
 exact leaves_then (by simp) bs w V hr.h h2 h3 (fun w' V' H hn hι L _ _=>hK w' V' H hn L)
section
variable {E:Env} {st:St} {dd:Option Nat} {ty:TypeId} {pos:String} {af:Array Edge} {g:Option (Nat×Bool)}
theorem OpD.yield {x:Operand} {L:Nat} {ars:Array Operand} {args:List AV} {ats:Array TypeId} {p0 p1:Option Code} {UD tm1:List (Nat×TV)} {nt0 nt1:Nat} {ps0 ps1:Array Nat} {as0 as1 bd0 bd1:Code} {D0 D1:Nat} {sa sb:St} {pv:Value}
  (hx:ev st.tm x=some (.v (.one (.yld L)))) (ha:Zh st.tm ars.toList=some args) (hL:DL st.hp L=some (.loop .ready p0 UD nt0 ps0 as0 bd0 D0)) (hlen:ars.size=ps0.size) (hps:ps0.toList.all (fun t=>Nat.blt t nt0)=true)
  (h1:ExecOK E.P (some L) as0 ⟨K9 ps0.toList args UD,st.hp,st.tk,st.nx,nt0,[]⟩ .normal sa)
  (h2:DL sa.hp L=some (.loop .ready p1 tm1 nt1 ps1 as1 bd1 D1))
  (h3:ExecOK E.P (some L) bd0 ⟨sa.tm,(L,.loop .busy p1 tm1 nt1 ps1 as1 bd1 D1)::Y2 L sa.hp,sa.tk,sa.nx,sa.nt,sa.df⟩ (.panic (Jr pv)) sb) (hdf:sb.df=[]) (hP0:E.P=Try.prog:=by rfl) :
  OpD E ⟨dd,.call { callee:=.value x,args:=ars,argTypes:=ats },ty,pos,af,g⟩ st pv ⟨sb.hp,sb.tk,sb.nx⟩:=by
 intro V a w hr ro n K Q hK
 refine ⟨fun _ _=>trivial,?_⟩
 rw [Oper.semAt_eq _ _ _ (by intro c h;cases h)]
 obtain ⟨hLnx,hv⟩:=hr.ev hx
 obtain ⟨-,ob,hob,hD,fn,tmps,rfl,hsz,htm⟩:=hr.h.own L _ hL
 rw [run_yieldOp rfl hv hob hlen]
 refine ⟨(by intro h;cases h),?_⟩
 have har:=Zb hr ha
 obtain ⟨hal,-⟩:=evArgs_spec ha
 have hput:=putArgs_rel (V:=V) (w:=w) ps0.toList args (ars.map a.eval).toList UD tmps (by simpa using hal.symm) (fun i y hy=>by
  obtain ⟨u,hu1,hu2⟩:=har.2 i y hy
  exact ⟨u,by simpa using hu1,hu2⟩) (fun t ht=>by rw [hsz];exact Nat.le_of_ble_eq_true (List.all_eq_true.1 hps t ht)) htm
 have hfold:(ps0.zip (ars.map a.eval)).foldl (fun tmps (x:Nat×Value)=>tmps.setIfInBounds x.1 x.2) tmps=(ps0.toList.zip (ars.map a.eval).toList).foldl (fun tmps (p:Nat×Value)=>tmps.setIfInBounds p.1 p.2) tmps:=by
  rw [← Array.foldl_toList,Array.toList_zip]
 refine roundIn_of_wpV (F:=FR ro) fn.2 trivial ?_
 have hR0:Rel (E.at V w) V ⟨K9 ps0.toList args UD,st.hp,st.tk,st.nx,nt0,[]⟩ { tmps:=(ps0.zip (ars.map a.eval)).foldl (fun tmps (x:Nat×Value)=>tmps.setIfInBounds x.1 x.2) tmps,defers:=[]} w :=
  ⟨hr.h.rebase,hr.nx,by rw [hfold,hput.1];exact hsz,dfRel.nil,fun t y hy=>by rw [hfold];exact hput.2 t y hy⟩
 refine h1 (E.at V w) (some (V.ι L)) (n - 1) _ Z ⟨hLnx,Z⟩ ?_ V _ w hR0
 intro V1 a1 w1 hr1
 obtain ⟨hL1,ob1,hob1,hD1,fn1,tmps1,rfl,hsz1,htm1⟩:=hr1.h.own L _ h2
 have hι1:V1.ι L=V.ι L:=hr1.h.le0.ι L hLnx
 have hb:=run_beginRound (P:=E.P) hob1 rfl
 rw [hι1] at hb hob1
 refine ⟨_,hb,?_⟩
 obtain ⟨H2,L2⟩:=hr1.h.putObj (o':=.loop { state:=.busy,pending:=p1,fn:=fn1,tmps:=tmps1,params:=ps1,assign:=as1,body:=bd1,defers:=V1.ι D1 }) (B':=.loop .busy p1 tm1 nt1 ps1 as1 bd1 D1) h2 (fun hle=>⟨hD1,fn1,tmps1,rfl,hsz1,fun t y hy=>(htm1 t y hy).mono hle⟩)
 rw [hι1] at H2 L2
 have hR1:Rel (E.at V w) V1 ⟨sa.tm,(L,.loop .busy p1 tm1 nt1 ps1 as1 bd1 D1)::Y2 L sa.hp,sa.tk,sa.nx,sa.nt,sa.df⟩ a1 _ :=
  ⟨H2.congr (fun j=>G3 L _ sa.hp j) (fun _=>rfl),hr1.nx,hr1.nt,hr1.df.le L2,fun t y hy=>(hr1.tm t y hy).mono L2⟩
 refine h3 (E.at V w) (some (V.ι L)) (n - 1) _ Z ⟨hLnx,Z⟩ ?_ V1 a1 _ hR1
 intro V3 a3 w3 hr3
 obtain ⟨fd,hfd⟩:∃ fd,E.P.funcs[fn.1]?=some fd:=by rw [hP0];exact Option.isSome_iff_exists.1 fn.2
 refine ⟨fd,hfd,leaves_pan hr3 hdf (fun w' V' H hn L=>⟨Z,?_⟩)⟩
 obtain ⟨H5,L5⟩:=hr.h.back H
 exact hK V' w' H5 (hn.trans hr3.nx) L5
end
theorem rangeFunc_outD {P:Program} {g:Operand} {ps:Array Nat} {assign body:Code} {st:St} {gf:FuncId} {caps:List (Nat×Nat)} {m2:Mem} {pv:Value}
  (hg:ev st.tm g=some (.v (.one (.fn gf caps))))
  (hc:Xs P gf (.one (.yld (st.nx+1))::XS caps) ⟨(st.nx+1,.loop .ready none st.tm st.nt ps assign body st.nx)::(st.nx,.obj (.deferred (some [])))::st.hp,st.tk,st.nx+2⟩ pv m2)
  (hD:DL m2.hp st.nx=some (.obj (.deferred (some [])))) :
  ExecOK P none (.rangeFunc g ps assign body) st (.panic (Jr pv)) ⟨st.tm,Y2 st.nx (Y2 (st.nx+1) m2.hp),m2.tk,m2.nx,st.nt,st.df⟩:=by
 intro E ro n Q hP hro hQ V a w hr
 subst hP
 cases hro
 refine wpV_rangeFunc (fun fn _=>?_)
 obtain ⟨hv1,hv2⟩:=hr.ev hg
 have H1:=hr.h.addOwn (.deferred (some [])) (.obj (.deferred (some []))) rfl
 have L1:=hr.h.le (w':=w.alloc (.deferred (some []))) ⟨rfl,rfl,rfl,by simp,fun k hk _=>Below.heap_alloc w _ k hk⟩ (V.add_grow w.heap.size hr.h.sz ⟨rfl,rfl,rfl,by simp,fun k hk _=>Below.heap_alloc w _ k hk⟩)
 have L2:=H1.le (w':=(w.alloc (.deferred (some []))).alloc (.loop { state:=.ready,pending:=none,fn:=fn,tmps:=a.tmps,params:=ps,assign:=assign,body:=body,defers:=w.heap.size })) ⟨rfl,rfl,rfl,by simp,fun k hk _=>Below.heap_alloc _ _ k hk⟩ (Vu.add_grow _ (w.alloc (.deferred (some []))).heap.size H1.sz ⟨rfl,rfl,rfl,by simp,fun k hk _=>Below.heap_alloc _ _ k hk⟩)
 have hι:((V.add w.heap.size).add (w.alloc (.deferred (some []))).heap.size).ι V.nx=w.heap.size:=by
  rw [L2.ι V.nx (Nat.lt_succ_self _),V.add_at]
 have H2:=H1.addOwn (.loop { state:=.ready,pending:=none,fn:=fn,tmps:=a.tmps,params:=ps,assign:=assign,body:=body,defers:=w.heap.size }) (.loop .ready none st.tm st.nt ps assign body V.nx)
  ⟨Nat.lt_of_lt_of_le (Nat.lt_succ_self _) (Nat.le_succ _),fn,a.tmps,by rw [hι],hr.nt,fun t x hx=>((hr.tm t x hx).mono L1).mono L2⟩
 have L12:=L1.trans L2
 generalize hV2:(V.add w.heap.size).add (w.alloc (.deferred (some []))).heap.size=V2 at H2 L2 L12 hι
 have hnx2:V2.nx=st.nx+2:=by rw [← hV2];show V.nx+1+1=_;rw [hr.nx]
 have hιL:V2.ι (V.nx+1)=w.heap.size+1:=by
  rw [← hV2]
  have:=(V.add w.heap.size).add_at (w.alloc (.deferred (some []))).heap.size
  rw [World.size_alloc] at this
  rw [World.size_alloc];exact this
 have hcl:(V.add w.heap.size).nx=V.nx+1:=rfl
 rw [hcl] at H2
 rw [hr.nx] at H2 hιL hι
 obtain ⟨W2,hW2⟩:∃ W2,(w.alloc (.deferred (some []))).alloc (.loop { state:=.ready,pending:=none,fn:=fn,tmps:=a.tmps,params:=ps,assign:=assign,body:=body,defers:=w.heap.size })=W2:=⟨_,rfl⟩
 rw [hW2] at H2 L12
 refine ⟨w.heap.size+1,[{ target:=.collected w.heap.size,args:=#[]}],W2,{ target:=.fn (.func gf) (caps.map fun p=>Value.pointer (some ⟨V.ι p.1,p.2,none⟩)).toArray,args:=#[.func (.yield (w.heap.size+1)) #[] #[]]},W2,gf,
  #[.func (.yield (w.heap.size+1)) #[] #[]]++(caps.map fun p=>Value.pointer (some ⟨V.ι p.1,p.2,none⟩)).toArray,W2,?_,?_,?_,?_,(by intro h;cases h),?_⟩
 ·rw [← hW2];exact run_enterLoop_outer fn.1 a.tmps ps assign body
 ·simp only [resolve,hv2]
  simp [go_sem]
 ·exact fun _ _=>trivial
 ·have:=hc.1 (#[.func (.yield (w.heap.size+1)) #[] #[]]++(caps.map fun p=>Value.pointer (some ⟨V.ι p.1,p.2,none⟩)).toArray) W2
  simp only [invoke];exact this
 ·have hargs:argsRel V2 W2 (.one (.yld (st.nx+1))::XS caps) (#[.func (.yield (w.heap.size+1)) #[] #[]]++(caps.map fun p=>Value.pointer (some ⟨V.ι p.1,p.2,none⟩)).toArray):=by
   have h1:argsRel V2 W2 [.one (.yld (st.nx+1))] #[.func (.yield (w.heap.size+1)) #[] #[]]:=⟨rfl,fun i y hy=>by
    match i,hy with
    | 0,hy=>cases hy;exact ⟨_,rfl,by rw [hnx2];omega,by rw [hιL];rfl⟩⟩
   have h2:argsRel V2 W2 (XS caps) (caps.map fun p=>Value.pointer (some ⟨V.ι p.1,p.2,none⟩)).toArray:=by
    have h3:=G7 (V:=V2) (w:=W2) (caps:=caps) (fun p hp=>Nat.lt_of_lt_of_le (hv1 p hp) L12.nx)
    rw [List.map_congr_left (g:=fun p=>Value.pointer (some ⟨V.ι p.1,p.2,none⟩)) (fun p hp=>by rw [L12.ι p.1 (hv1 p hp)])] at h3
    exact h3
   exact h1.append h2
  have hcall:=hc.2 E V2 W2 _ rfl H2 hnx2 hargs
  have hcall':CallsIn Fence.wide (n - 1) E.P gf _ W2 _:=callsIn_wide.2 hcall
  refine CallsIn.mono (F:=FR none) hcall' ?_
  rintro e' w3 ⟨V3,rfl,H3,hn3,L3⟩
  have L:=L12.trans L3
  have H5:=H3.drop (st.nx+1)
  have hD5:DL (Y2 (st.nx+1) m2.hp) st.nx=some (.obj (.deferred (some []))):=by
   rw [KB,if_neg (by omega)];exact hD
  obtain ⟨H6,L6⟩:=H5.freeze hD5
  have e1:V3.ι st.nx=w.heap.size:=by rw [L3.ι _ (by rw [hnx2];omega)];exact hι
  obtain ⟨-,oD,hoD,hDr⟩:=H5.own _ _ hD5
  have hoD':oD=.deferred (some []):=hDr
  rw [hoD',e1] at hoD
  obtain ⟨V6,hV6⟩:∃ V6:Vu,{ V3 with S:=fun b o=>V3.S b o∨b=V3.ι st.nx }=V6:=⟨_,rfl⟩
  have hS6:V6.S w.heap.size 0:=by rw [← hV6];exact .inr e1.symm
  have hn6:V6.nx=m2.nx:=by rw [← hV6];exact hn3
  rw [hV6] at H6 L6
  have LL:=L.trans L6
  exact hQ V6 _ _ ⟨H6,hn6,hr.nt,hr.df.push LL (Nat.le_refl _) hS6 hoD (fun o hs=>(H5.new _ _ hD5).2 o (by rw [e1];exact H5.le0.S _ _ hs)),fun t x hx=>(hr.tm t x hx).mono LL⟩
theorem JG {P:Program} {f:FuncId} {fn:Func} {c:Code} {args:List AV} {m:Mem} {Y:Type} (y:Y) (stf:Y→St) (kf:Y→EK) (hf:P.funcs[f]?=some fn) (hb:fn.body=some c) (hen:J4 P f) (hnt:args.length≤fn.ntmps)
  (hdf:∀ y,(stf y).df=[]) (hres:∀ y,(kf y).ok P (stf y) fn.results.toList)
  (h:∀ (w0:World) (M:Nat→Prop) (V0:Vu) (Q:Exit→Act→World→Prop),V0.nx≤m.nx →
   (∀ (e:Exit) (st':St),(kf y).by e→st'.df=[]→StLe ⟨P,w0,M,V0⟩ st' (stf y)→XQ ⟨P,w0,M,V0⟩ Q e st')→XC ⟨P,w0,M,V0⟩ none 0 Q c ⟨Jb 0 args,m.hp,m.tk,m.nx,fn.ntmps,[]⟩) (hP0:P=Try.prog:=by rfl) :
  CallE P f args m (kf y) ⟨(stf y).hp,(stf y).tk,(stf y).nx⟩:=by
 have hd:=hdf y
 have hr:=hres y
 generalize stf y=st1 at hd hr h ⊢
 cases hk:kf y with
 | ret xs =>
  rw [hk] at hr
  refine Jc st1 hf hb hen hnt hd hr (fun w0 M V0 Q hv hQ=>h w0 M V0 Q hv (fun e st' he hdf' hle=>?_)) hP0
  rw [hk] at he
  exact hQ e st' st'.hp he (by rw [hdf'];rfl) (by cases st';dsimp only at hdf';subst hdf';exact hle)
 | pan pv =>
  refine ⟨hen,fun E V w vs hP H hn hargs=>?_⟩
  refine (callsIn_wide (n:=0)).1 (callsIn_of_wpV (F:=Fence.wide) (vf_of hP0 hf) hf hb trivial ?_)
  have hR0:Rel (E.at V w) V ⟨Jb 0 args,m.hp,m.tk,m.nx,fn.ntmps,[]⟩ { tmps:=vs++Array.replicate (fn.ntmps - vs.size) undef,defers:=[]} w:=by
   refine ⟨H.rebase,hn,by simp [hargs.1];omega,dfRel.nil,fun t x hx=>?_⟩
   obtain ⟨k,y,h1,h2,rfl⟩:=X8 args 0 t x hx
   obtain ⟨u,hu,hy⟩:=hargs.2 k y h2
   have hk:k < vs.size:=(Array.getElem?_eq_some_iff.1 hu).1
   have:(vs++Array.replicate (fn.ntmps - vs.size) undef).getD t undef=u:=by
    rw [show t=k by omega,Array.getD_eq_getD_getElem?,Array.getElem?_append_left hk,hu];rfl
   rw [this];exact hy
  have hgo:∀ E':Env,E'=E.at V w→E'.P=P→E'.V0=V→XC E' none 0 (bodyPostM Fence.wide 0 P fn (fun e w'=>∃ V',e=.panicked (Jr pv)∧HRel E V' st1.hp st1.tk w'∧V'.nx=st1.nx∧V.Le V' w w')) c ⟨Jb 0 args,m.hp,m.tk,m.nx,fn.ntmps,[]⟩:=by
   rintro ⟨P',w0,M,V0⟩ he hP' hV'
   dsimp only at hP' hV'
   subst hP'
   refine h w0 M V0 _ (by rw [hV',hn];exact Nat.le_refl _) ?_
   intro e st' hby hdf' hle
   rw [hk] at hby
   cases (show e=.panic (Jr pv) from hby)
   intro V1 a1 w1 hr1
   rw [he] at hr1 hle
   obtain ⟨V2,hr2⟩:=hr1.less hle
   refine leaves_pan hr2 hd (fun w' V' H' hn' L'=>?_)
   obtain ⟨H5,L5⟩:=H.back H'
   exact ⟨V',Z,H5,hn'.trans hr2.nx,L5⟩
  have:=hgo (E.at V w) rfl hP rfl V _ w hR0
  rw [show (E.at V w).P=P from hP] at this
  exact this
theorem grow_same {E:Env} {V:Vu} {hp:List (Nat×HB)} {tk:List (Nat×Option Tok)} {w w1:World} (h:HRel E V hp tk w) (hx:ExtM (fun _=>False) w w1):V.Grow V w w1 :=
 ⟨Nat.le_refl _,fun _ _=>rfl,fun _ _=>rfl,fun _ _ _ _=>rfl,fun _ _ h=>h,fun _ _ h=>.inl h,fun b o hs=>Nat.lt_of_lt_of_le (h.sz b o hs) hx.size⟩
theorem XL.defer {E:Env} {n:Nat} {ops:Array Oper} {Q:Exit→Act→World→Prop} {rest:List Oper} {st:St} {pos:String} {af:Array Edge} {ty:TypeId} {x:Operand} {ats:Array TypeId} {f T i:Nat} (hc:Catch E.P f T) (hx:ev st.tm x=some (.v (.one (.fn f [(i,0)])))) (hdf:st.df=[])
  (k:XL E none n ops Q rest ⟨st.tm,st.hp,st.tk,st.nx,st.nt,[i,f,T]⟩):XL E none n ops Q (⟨none,.defer { callee:=.value x,args:=#[],argTypes:=ats },ty,pos,af,none⟩::rest) st:=by
 intro V a w hr
 unfold wpListIn
 rw [if_pos (by simp [Region.wanted])]
 refine ⟨fun _ _=>trivial,?_⟩
 obtain ⟨hv1,hv2⟩:=hr.ev hx
 have hrun:(Oper.semAt (FR none).round a.eval ⟨none,.defer { callee:=.value x,args:=#[],argTypes:=ats },ty,pos,af,none⟩).run E.P w=.ok (.defer (closeD f ⟨V.ι i,0,none⟩)) w:=by
  simp [FR,Oper.semAt_none,execOp,resolve,hv2,Deferred.ofValue]
 rw [hrun]
 refine k V _ w ⟨hr.h,hr.nx,hr.nt,?_,hr.tm⟩
 obtain ⟨bs,h1,h2,h3⟩:=hr.df.of_nil hdf
 exact .inr ⟨i,f,T,[],bs,rfl,hv1 (i,0) (by simp),hc,by simp only [List.map_nil,List.nil_append];rw [← h1];rfl,by simpa using ⟨h2,h3⟩⟩
def CEnd (E:Env) (stf:St) (i g T:Nat) (e:Exit) (st':St):Prop :=
 ((e=.normal∨e=.ret)∧StLe E ⟨st'.tm,st'.hp,st'.tk,st'.nx,st'.nt,[]⟩ stf) ∨
 ∃ (x:Int) (Tc:TypeId) (c0:CA),e=.panic (Jr (QG T x))∧DL st'.hp i=some (.cells Tc [c0])∧StLe E ⟨st'.tm,(i,.cells Tc [DW x])::Y2 i st'.hp,st'.tk,st'.nx,st'.nt,[]⟩ stf
theorem cendN {E:Env} {stf st':St} {i g T:Nat} {e:Exit} (he:e=.normal∨e=.ret) (hle:StLe E ⟨st'.tm,st'.hp,st'.tk,st'.nx,st'.nt,[]⟩ stf):CEnd E stf i g T e st':=.inl ⟨he,hle⟩
theorem WV {E:Env} {stf st':St} {i g T:Nat} (x:Int) (Tc:TypeId) (c0:CA) (hc:DL st'.hp i=some (.cells Tc [c0])) (hle:StLe E ⟨st'.tm,(i,.cells Tc [DW x])::Y2 i st'.hp,st'.tk,st'.nx,st'.nt,[]⟩ stf):CEnd E stf i g T (.panic (Jr (QG T x))) st':=.inr ⟨x,Tc,c0,rfl,hc,hle⟩
theorem CallM.of_bodyC {P:Program} {f:FuncId} {fn:Func} {c:Code} {args:List AV} {m:Mem} (stf:St) {xs:List AV} (i g T:Nat) (hf:P.funcs[f]?=some fn) (hb:fn.body=some c) (hen:J4 P f) (hnt:args.length≤fn.ntmps)
  (hdf:stf.df=[]) (hres:RAs P stf fn.results.toList xs)
  (h:∀ (w0:World) (M:Nat→Prop) (V0:Vu) (Q:Exit→Act→World→Prop),V0.nx≤m.nx →
   (∀ (e:Exit) (st':St),st'.df=[i,g,T]→CEnd ⟨P,w0,M,V0⟩ stf i g T e st'→XQ ⟨P,w0,M,V0⟩ Q e st')→XC ⟨P,w0,M,V0⟩ none 0 Q c ⟨Jb 0 args,m.hp,m.tk,m.nx,fn.ntmps,[]⟩) (hP0:P=Try.prog:=by rfl) :
  CallM P f args m (QP xs) ⟨stf.hp,stf.tk,stf.nx⟩:=by
 refine ⟨hen,fun E V w vs hP H hn hargs=>?_⟩
 refine (callsIn_wide (n:=0)).1 (callsIn_of_wpV (F:=Fence.wide) (vf_of hP0 hf) hf hb trivial ?_)
 have hR0:Rel (E.at V w) V ⟨Jb 0 args,m.hp,m.tk,m.nx,fn.ntmps,[]⟩ { tmps:=vs++Array.replicate (fn.ntmps - vs.size) undef,defers:=[]} w:=by
  refine ⟨H.rebase,hn,by simp [hargs.1];omega,dfRel.nil,fun t x hx=>?_⟩
  obtain ⟨k,y,h1,h2,rfl⟩:=X8 args 0 t x hx
  obtain ⟨u,hu,hy⟩:=hargs.2 k y h2
  have hk:k < vs.size:=(Array.getElem?_eq_some_iff.1 hu).1
  have:(vs++Array.replicate (fn.ntmps - vs.size) undef).getD t undef=u:=by
   rw [show t=k by omega,Array.getD_eq_getD_getElem?,Array.getElem?_append_left hk,hu];rfl
  rw [this];exact hy
 obtain ⟨R,DQ⟩:∃ R:Ending→World→Prop,R=fun e w'=>∃ v V',e=.returned v∧HRel E V' stf.hp stf.tk w'∧V'.nx=stf.nx∧V.Le V' w w'∧(QP xs).rel V' w' v:=⟨_,rfl⟩
 have fin:∀ (tm:List (Nat×TV)) (hp:List (Nat×HB)) (tk:List (Nat×Option Tok)) (nx nt:Nat) (V1:Vu) (tmps:Array Value) (w1:World) (bs0:List Nat),StLe (E.at V w) ⟨tm,hp,tk,nx,nt,[]⟩ stf→HRel (E.at V w) V1 hp tk w1→V1.nx=nx→tmps.size=nt→(∀ t x,DL tm t=some x→x.rel V1 w1 (tmps.getD t undef))→marksOK (E.at V w) V1 w1 bs0 →
   LeavesInM Fence.wide 0 P fn tmps R (bs0.map fun b=>{ target:=.collected b,args:=#[]}) .returning w1:=by
  intro tm hp tk nx nt V1 tmps w1 bs0 hle H1 hn1 hnt1 htm1 hm
  refine leaves_bs bs0 w1 V1 H1 hm.1 hm.2 (fun w' V1' H' hn' L'=>?_)
  have hr':Rel (E.at V w) V1' ⟨tm,hp,tk,nx,nt,[]⟩ { tmps:=tmps,defers:=[]} w':=⟨H',hn'.trans hn1,hnt1,dfRel.nil,fun t x hx=>(htm1 t x hx).keep L'⟩
  obtain ⟨V2,hr2⟩:=hr'.less hle
  obtain ⟨v,h1,h2⟩:=results_run (E:=E.at V w) hres hP hr2
  obtain ⟨H5,L5⟩:=H.back hr2.h
  exact ⟨v,h1,by rw [DQ];exact ⟨v,V2,rfl,H5,hr2.nx,L5,h2⟩⟩
 have key:∀ (e:Exit) (st':St) (V1:Vu) (a1:Act) (w1:World),st'.df=[i,g,T]→CEnd (E.at V w) stf i g T e st'→Rel (E.at V w) V1 st' a1 w1→bodyPostM Fence.wide 0 P fn R e a1 w1:=by
  intro e st' V1 a1 w1 hd hend hr1
  obtain ⟨bs,bs0,hi,hcat,hds,hm1,hm2⟩:∃ bs bs0,i < V1.nx∧Catch P g T∧a1.defers=bs.map (fun b=>{ target:=.collected b,args:=#[]})++closeD g ⟨V1.ι i,0,none⟩::bs0.map (fun b=>{ target:=.collected b,args:=#[]})∧marksOK (E.at V w) V1 w1 (bs++bs0):=by
   rcases hr1.df with ⟨h0,-⟩ | ⟨i',g',T',bs,bs0,h0,h1,h2,h3,h4⟩
   ·rw [hd] at h0;cases h0
   ·rw [hd] at h0;cases h0
    exact ⟨bs,bs0,h1,by rw [← hP];exact h2,h3,h4⟩
  obtain ⟨hn1,hn2,hn3⟩:=List.nodup_append.1 hm1
  have hinv:∀ w:World,(invoke (.fn (.func g) #[.pointer (some ⟨V1.ι i,0,none⟩)]) #[]).run P w=.ok (.enter g #[.pointer (some ⟨V1.ι i,0,none⟩)]) w:=fun w=>by
   have:=hcat.enters (#[]++#[.pointer (some ⟨V1.ι i,0,none⟩)]) w
   simp only [invoke];simpa using this
  rcases hend with ⟨he,hle⟩ | ⟨x,Tc,c0,rfl,hcell,hle⟩
  ·have hb:LeavesInM Fence.wide 0 P fn a1.tmps R a1.defers .returning w1:=by
    rw [hds]
    refine leaves_then (by simp) bs w1 V1 hr1.h hn1 (fun b hb=>hm2 b (by simp [hb])) (fun w' V' H' hn' hι' L' hS' hh'=>?_)
    refine ⟨by simp,.inr ⟨(by intro h;cases h),.func g,_,g,_,rfl,hinv w',(fun _ _=>trivial),?_⟩⟩
    refine (hcat.idle 0 _ w').mono ?_
    rintro e' u' w'' ⟨⟨v,rfl⟩,rfl,rfl⟩
    exact fin st'.tm st'.hp st'.tk st'.nx st'.nt V' a1.tmps w'' bs0 hle H' (hn'.trans hr1.nx) hr1.nt (fun t x hx=>(hr1.tm t x hx).keep L')
     ⟨hn2,fun b hb=>⟨hS' b 0 (fun h=>hn3 b h b hb rfl) (hm2 b (by simp [hb])).1,(hh' b (fun h=>hn3 b h b hb rfl)).trans (hm2 b (by simp [hb])).2.1,(hm2 b (by simp [hb])).2.2⟩⟩
   rcases he with rfl | rfl
   ·exact hb
   ·exact hb
  ·show LeavesInM Fence.wide 0 P fn a1.tmps R a1.defers (.panicking (Jr (QG T x))) w1
   rw [hds]
   refine leaves_then (by simp) bs w1 V1 hr1.h hn1 (fun b hb=>hm2 b (by simp [hb])) (fun w' V' H' hn' hι' L' hS' hh'=>?_)
   refine ⟨by simp,.inr ⟨(by intro h;cases h),.func g,_,g,_,rfl,hinv w',(fun _ _=>trivial),?_⟩⟩
   obtain ⟨-,o,ho,vs',rfl,hvs'⟩:=H'.own i _ hcell
   obtain ⟨u,hu,-⟩:=hvs'.2 0 _ rfl
   have hmk:marksOK (E.at V w) V' w' bs0:=⟨hn2,fun b hb=>⟨hS' b 0 (fun h=>hn3 b h b hb rfl) (hm2 b (by simp [hb])).1,(hh' b (fun h=>hn3 b h b hb rfl)).trans (hm2 b (by simp [hb])).2.1,(hm2 b (by simp [hb])).2.2⟩⟩
   rw [← hι']
   refine (hcat.caught 0 ⟨V'.ι i,0,none⟩ x u w' ((Y4 ho 0).trans hu) (free_of_own ho 0)).mono ?_
   rintro e' u' w'' ⟨⟨v,rfl⟩,rfl,w1,hx1,rfl⟩
   have hg1:=grow_same H' hx1
   have Hx:=H'.later hx1 hg1
   have Lx:=H'.le hx1 hg1
   obtain ⟨H2,L2⟩:=Hx.store hcell 0 (x:=DW x) (u:=.int .i64 x) (Reads.v _ rfl)
   have H3:HRel (E.at V w) V' ((i,.cells Tc [DW x])::Y2 i st'.hp) st'.tk _:=H2.congr (fun j=>G3 i _ st'.hp j) (fun _=>rfl)
   exact fin st'.tm _ st'.tk st'.nx st'.nt V' a1.tmps _ bs0 hle H3 (hn'.trans hr1.nx) hr1.nt (fun t y hy=>(((hr1.tm t y hy).keep L').mono Lx).mono L2) ((hmk.le Lx).le L2)
 have hgo:∀ E':Env,E'=E.at V w→E'.P=P→E'.V0=V→XC E' none 0 (bodyPostM Fence.wide 0 P fn R) c ⟨Jb 0 args,m.hp,m.tk,m.nx,fn.ntmps,[]⟩:=by
  rintro ⟨P',w0,M,V0⟩ he hP' hV'
  dsimp only at hP' hV'
  subst hP'
  refine h w0 M V0 _ (by rw [hV',hn];exact Nat.le_refl _) ?_
  intro e st' hd hend V1 a1 w1 hr1
  rw [he] at hr1 hend
  exact key e st' V1 a1 w1 hd hend hr1
 have:=hgo (E.at V w) rfl hP rfl V _ w hR0
 rw [show (E.at V w).P=P from hP,DQ] at this
 exact this
end Go.Proofs.Ytafddfoefeploaa
namespace Go.Proofs.Ytafddfoefeploaa
open Go.RowKit
noncomputable section
structure Use where
 index:Bool
 name:Bool
 levels:Int
 kids:Int
 below:Int
def useC (u:Use):List C:=[.v (.bool u.index),.v (.bool u.name),.v (.int .i64 u.levels),.v (.int .i64 u.kids),.v (.int .i64 u.below)]
instance:Enc Use:=⟨5,useC,fun l=>l.map useC,rfl,fun a b=>List.map_append,fun _=>rfl⟩
instance:EncLen Use:=⟨fun _=>rfl,by decide⟩
structure Scp where
 vars:Int
 params:Int
 metas:Int
 levels:Int
def scpC (u:Scp):List C:=[.v (.int .i64 u.vars),.v (.int .i64 u.params),.v (.int .i64 u.metas),.v (.int .i64 u.levels)]
instance:Enc Scp:=⟨4,scpC,fun l=>l.map scpC,rfl,fun a b=>List.map_append,fun _=>rfl⟩
instance:EncLen Scp:=⟨fun _=>rfl,by decide⟩
end
theorem K7:Dx Ent (.agg [DW 0,DW 0,DW 0,DW 0,DW 0,DW 0,.d (.v (.string (DC []))),DV,DV]) :=
 asub_zok (.agg (.cons (.d _) (.cons (.d _) (.cons (.d _) (.cons (.d _) (.cons (.d _) (.cons (.d _) (.cons (.d _) (.cons (.nil _) (.cons (.nil _) .nil))))))))))
section
variable {E:Env} {st:St} {d:Option Tmp} {ty:TypeId} {pos:String} {af:Array Edge} {g:Option (Nat×Bool)}
theorem OpOK.callFunV {x:Operand} {f:FuncId} {ars:Array Operand} {args ys:List AV} {ats:Array TypeId} {res:TV} (hx:ev st.tm x=some (.v (.one (.fn f [])))) (hF:Fun E.P f ys res) (ha:Zh st.tm ars.toList=some args) (hs:ASubL args ys) :
  OpOK E ⟨d,.call { callee:=.value x,args:=ars,argTypes:=ats },ty,pos,af,g⟩ st res ⟨st.hp,st.tk,st.nx⟩:=by
 intro V a w hr ro n K Q hK
 refine ⟨fun _ _=>trivial,?_⟩
 rw [Oper.semAt_eq _ _ _ (by intro c h;cases h)]
 rw [call_enters (by have:=(hr.ev hx).2;simpa using this) hF.1]
 refine ⟨(by intro h;cases h),?_⟩
 have har:argsRel (ZZ V.S) w ys (ars.map a.eval):=by
  obtain ⟨h1,h2⟩:=Zb hr ha
  obtain ⟨h3,h4⟩:=hs.spec
  refine ⟨by omega,fun i y hy=>?_⟩
  obtain ⟨x,hx',hxy⟩:=h4 i y hy
  obtain ⟨u,hu,hxu⟩:=h2 i x hx'
  exact ⟨u,hu,hxy.rel hxu⟩
 have hc':CallsIn Fence.wide (n - 1) E.P f _ w _:=callsIn_wide.2 (hF.2 V.S w _ hr.h.sz har)
 refine CallsIn.mono (F:=FR ro) hc' ?_
 rintro e w' ⟨v,S',rfl,hx,hS,hS',hv⟩
 have hg:V.Grow { V with S:=S' } w w':=⟨Nat.le_refl _,fun _ _=>rfl,fun _ _=>rfl,fun _ _ _ _=>rfl,hS,fun b o h=>(hS' b o h).1,fun b o h=>(hS' b o h).2⟩
 exact hK { V with S:=S' } w' v (hr.h.later hx hg) hr.nx (hr.h.le hx hg) (hv.mono (of_le (V:={ V with S:=S' })))
def tyArrS (P:Program) (t:TypeId):Option (Nat×Nat):=match P.underlying t with
 | some (.array n e)=>match Jz P e with
  | some (true,sz)=>some (n,sz)
  | _=>none
 | _=>none
theorem RO.indexAgg {α:Type} [Enc α] [EncLen α] {t n:Nat} {x y:Operand} {xs:List CA} {tbl:List α} {m:Int} {v:α} (ht:tyArrS E.P t=some (n,Enc.sz α)) (hx:ev st.tm x=some (.v (.agg xs))) (hxs:xs=WS tbl) (hn:Nat.beq tbl.length n=true) (hy:ev st.tm y=some (TI m)) (hv:Jx tbl m=some v) :
  RO E ⟨d,.index t x y,ty,pos,af,g⟩ st (.v (.agg (DZ v))):=by
 refine ⟨(fun _ h=>nomatch h),fun V a w hr=>?_⟩
 obtain ⟨k,rfl,hk⟩:=idxS hv
 obtain ⟨vs,h1,h2,h3⟩:=hr.ev hx
 subst hxs
 have hlt:k < tbl.length:=(List.getElem?_eq_some_iff.1 hk).1
 have hn':=Nat.eq_of_beq_eq_true hn
 unfold tyArrS at ht
 split at ht
 ·rename_i n' e hu
  split at ht
  ·rename_i sz ha
   cases ht
   obtain ⟨h4,h5⟩:=Kn ha w
   have hsz:vs.size=tbl.length * Enc.sz α:=by rw [h2,flatE_len]
   refine ⟨.agg (vs.extract (k * Enc.sz α) (k * Enc.sz α+Enc.sz α)),?_,_,Z,?_,fun i c hc=>?_⟩
   ·have h6:(k:Int) < (n:Int):=by omega
    have h7:¬ n≤k:=by omega
    simp [execOp,Instr.index,h1,Ym (hr.ev hy),asIntOf,run_underlying hu,part,h4,h5,h6,h7]
   ·have:k * Enc.sz α+Enc.sz α≤vs.size:=by rw [hsz,← Nat.succ_mul];exact Nat.mul_le_mul_right _ hlt
    rw [Array.size_extract,List.length_map,EncLen.len];omega
   ·have hi:i < Enc.sz α:=by have:=(List.getElem?_eq_some_iff.1 hc).1;rw [List.length_map,EncLen.len] at this;exact this
    have hc':(WS tbl)[k * Enc.sz α+i]?=some c:=by rw [flatE_get hk hi,← List.getElem?_map];exact hc
    obtain ⟨u,h6,h7⟩:=h3 _ c hc'
    refine ⟨u,?_,h7⟩
    rw [Array.getElem?_extract]
    have:k * Enc.sz α+Enc.sz α≤vs.size:=by rw [hsz,← Nat.succ_mul];exact Nat.mul_le_mul_right _ hlt
    rw [if_pos (by omega)];exact h6
  ·cases ht
 ·cases ht
end
end Go.Proofs.Ytafddfoefeploaa
namespace Go.Proofs.Ytafddfoefeploaa
open Go.RowKit
noncomputable section
structure Rsc where
 env:List Dcl
 own:List (List UInt8)
 d:Dcl
def rscC (s:Rsc):List C:=.sl 23 (Enc.encL s.env)::.sl 1 (Enc.encL s.own)::UP s.d
instance:Enc Rsc:=⟨25,rscC,fun l=>l.map rscC,rfl,fun a b=>List.map_append,fun _=>rfl⟩
instance:EncLen Rsc:=⟨fun _=>rfl,by decide⟩
end
section
variable {E:Env} {st:St} {dd:Option Tmp} {ty:TypeId} {pos:String} {af:Array Edge} {g:Option (Nat×Bool)}
theorem YS {t i n:Nat} {ag:Bool} {T:TypeId} {xs ys:List CA} {o1 o2:Operand} (ht:Jz E.P t=some (ag,n)) (h1:ev st.tm o1=some (.v (.one (.ptr i 0)))) (h2:ev st.tm o2=some (.v (.agg ys)))
  (hi:DL st.hp i=some (.cells T xs)) (hl:ys.length=n) (hx:xs.length=n) (hdd:dd=none) :
  OpOK E ⟨dd,.store t o1 o2,ty,pos,af,g⟩ st (.tup []) ⟨(i,.cells T ys)::Y2 i st.hp,st.tk,st.nx⟩:=by
 have:=Qv (dd:=dd) (ty:=ty) (pos:=pos) (af:=af) (g:=g) ht h1 h2 hi hl (by omega) hdd
 have e1:setL xs 0 (AV.agg ys).cells=ys:=by
  have:=Ko ys xs [] (by omega)
  rw [List.append_nil,List.append_nil] at this
  exact this
 rw [e1] at this
 exact this
variable {α:Type} [Enc α] [EncLen α]
theorem fill2 {zs:List Value} (v0 v1:α) (hzl:zs.length=Enc.sz α):YX (Ju (Enc.sz α) 2) (Jq zs 2) [(0,.agg (DZ v0)),(1,.agg (DZ v1))]=some (DZ v0++DZ v1):=by
 have h0:(Jq zs 2).length=Enc.sz α+Enc.sz α:=by simp [Jq,hzl];omega
 have k0:(DZ v0).length=Enc.sz α:=by rw [List.length_map,EncLen.len]
 have k1:(DZ v1).length=Enc.sz α:=by rw [List.length_map,EncLen.len]
 have p0:(Ju (Enc.sz α) 2)[0]?=some (0,Enc.sz α):=by simp [Ju]
 have p1:(Ju (Enc.sz α) 2)[1]?=some (Enc.sz α,Enc.sz α):=by simp [Ju]
 obtain ⟨a,b,hab,ha,hb⟩:∃ a b,Jq zs 2=a++b∧a.length=Enc.sz α∧b.length=Enc.sz α :=
  ⟨(Jq zs 2).take (Enc.sz α),(Jq zs 2).drop (Enc.sz α),(List.take_append_drop _ _).symm,by rw [List.length_take,h0];omega,by rw [List.length_drop,h0];omega⟩
 rw [hab]
 have s0:setL (a++b) 0 (DZ v0)=DZ v0++b:=Ko (DZ v0) a b (by omega)
 have s1:setL (DZ v0++b) (Enc.sz α) (DZ v1)=DZ v0++DZ v1:=by
  have x:=setL_app (DZ v1) (DZ v0) b 0
  have y:=Ko (DZ v1) b [] (by omega)
  rw [List.append_nil,List.append_nil] at y
  rw [y,k0,Nat.add_zero] at x
  exact x
 simp only [YX,p0,p1]
 show cond (Nat.beq (DZ v0).length (Enc.sz α)&&Nat.ble (0+Enc.sz α) (a++b).length) (cond (Nat.beq (DZ v1).length (Enc.sz α)&&Nat.ble (Enc.sz α+Enc.sz α) (setL (a++b) 0 (DZ v0)).length) (some (setL (setL (a++b) 0 (DZ v0)) (Enc.sz α) (DZ v1))) none) none=_
 rw [s0,s1,k0,k1,Nat.beq_refl,Nat.ble_eq_true_of_le (show 0+Enc.sz α≤(a++b).length by rw [List.length_append];omega),Nat.ble_eq_true_of_le (show Enc.sz α+Enc.sz α≤(DZ v0++b).length by rw [List.length_append,k0];omega)]
 rfl
theorem OpOK.lit2CE (v0 v1:α) {t e:Nat} {zs:List Value} {o0 o1:Operand} (ht:Jn E.P t=some (e,Enc.sz α)) (hze:Jy E.P e=some zs) (hzl:zs.length=Enc.sz α) (hz:zs.all (·.oneCell')=true) (hlen:2 * Enc.sz α≤16777216)
  (h0:ev st.tm o0=some (.v (.agg (DZ v0)))) (h1:ev st.tm o1=some (.v (.agg (DZ v1)))) :
  OpOK E ⟨dd,.buildSlice t 2 #[(0,o0),(1,o1)],ty,pos,af,g⟩ st (.v (.one (.app st.nx (Enc.sz α) (Enc.encL [v0,v1])))) ⟨st.hp,(st.nx,some ⟨e,Enc.sz α,(Enc.encL [v0,v1]).length,[]⟩)::st.tk,st.nx+1⟩ :=
 OpOK.lit2E v0 v1 ht hze hzl hz EncLen.pos hlen h0 h1 (fill2 v0 v1 hzl) (by
  have a:=csubs_all (Enc.enc v0++Enc.enc v1)
  rw [List.map_append] at a
  exact a) ⟨EncLen.len v0,EncLen.len v1⟩
end
end Go.Proofs.Ytafddfoefeploaa
namespace Go.Proofs.Ytafddfoefeploaa
open Go.RowKit Go.Shelf
theorem Yr:QU Try.prog 33 0=some 0:=by kernel_rfl
theorem ZN:QU Try.prog 33 2=some 2:=by kernel_rfl
theorem JJ:QU Try.prog 33 4=some 4:=by kernel_rfl
theorem fo_134_4:QU Try.prog 134 4=some 4:=by kernel_rfl
theorem QN:Jz Try.prog 3=some (false,1):=by kernel_rfl
theorem JT:Jz Try.prog 9=some (false,1):=by kernel_rfl
theorem Yj:Jz Try.prog 31=some (false,1):=by kernel_rfl
theorem QX:Jz Try.prog 33=some (true,5):=by kernel_rfl
theorem ag_132:Jz Try.prog 132=some (false,1):=by kernel_rfl
theorem WX:Jz Try.prog 135=some (true,65):=by kernel_rfl
theorem ag_137:Jz Try.prog 137=some (false,1):=by kernel_rfl
theorem JC:Jn Try.prog 31=some (33,5):=by kernel_rfl
theorem Z7:Jn Try.prog 51=some (9,1):=by kernel_rfl
theorem Di:Jy Try.prog 9=some [.string ByteArray.empty]:=by kernel_rfl
theorem G4:Jy Try.prog 33=some [.int .i64 0,.int .i64 0,.string ByteArray.empty,.slice none 0 0,.slice none 0 0]:=by kernel_rfl
theorem z_135:Jy Try.prog 135=some [.bool false,.bool false,.int .i64 0,.int .i64 0,.int .i64 0,.bool false,.bool false,.int .i64 0,.int .i64 0,.int .i64 0,.bool false,.bool false,.int .i64 0,.int .i64 0,.int .i64 0,.bool false,.bool false,.int .i64 0,.int .i64 0,.int .i64 0,.bool false,.bool false,.int .i64 0,.int .i64 0,.int .i64 0,.bool false,.bool false,.int .i64 0,.int .i64 0,.int .i64 0,.bool false,.bool false,.int .i64 0,.int .i64 0,.int .i64 0,.bool false,.bool false,.int .i64 0,.int .i64 0,.int .i64 0,.bool false,.bool false,.int .i64 0,.int .i64 0,.int .i64 0,.bool false,.bool false,.int .i64 0,.int .i64 0,.int .i64 0,.bool false,.bool false,.int .i64 0,.int .i64 0,.int .i64 0,.bool false,.bool false,.int .i64 0,.int .i64 0,.int .i64 0,.bool false,.bool false,.int .i64 0,.int .i64 0,.int .i64 0]:=by kernel_rfl
theorem z_137:Jy Try.prog 137=some [.nilFunc]:=by kernel_rfl
theorem Y5:Y6 Try.prog 134 [(0,1),(1,1),(2,1),(3,1),(4,1)] [.bool false,.bool false,.int .i64 0,.int .i64 0,.int .i64 0]:=⟨by kernel_rfl,by kernel_rfl⟩
theorem bd_135:Y6 Try.prog 135 [(0,5),(5,5),(10,5),(15,5),(20,5),(25,5),(30,5),(35,5),(40,5),(45,5),(50,5),(55,5),(60,5)] [.bool false,.bool false,.int .i64 0,.int .i64 0,.int .i64 0,.bool false,.bool false,.int .i64 0,.int .i64 0,.int .i64 0,.bool false,.bool false,.int .i64 0,.int .i64 0,.int .i64 0,.bool false,.bool false,.int .i64 0,.int .i64 0,.int .i64 0,.bool false,.bool false,.int .i64 0,.int .i64 0,.int .i64 0,.bool false,.bool false,.int .i64 0,.int .i64 0,.int .i64 0,.bool false,.bool false,.int .i64 0,.int .i64 0,.int .i64 0,.bool false,.bool false,.int .i64 0,.int .i64 0,.int .i64 0,.bool false,.bool false,.int .i64 0,.int .i64 0,.int .i64 0,.bool false,.bool false,.int .i64 0,.int .i64 0,.int .i64 0,.bool false,.bool false,.int .i64 0,.int .i64 0,.int .i64 0,.bool false,.bool false,.int .i64 0,.int .i64 0,.int .i64 0,.bool false,.bool false,.int .i64 0,.int .i64 0,.int .i64 0]:=⟨by kernel_rfl,by kernel_rfl⟩
theorem UO:Km Try.prog 9=some (1,16):=by kernel_rfl
theorem arr_135:Wy Try.prog 135=some (13,5):=by kernel_rfl
theorem mp_80:Xn Try.prog 80=some (false,.one (.d (.v (.bool false)))):=by kernel_rfl
theorem en_74:J4 Try.prog 74:=enters_of Try.func74 (by kernel_rfl) rfl
theorem en_89:J4 Try.prog 89:=enters_of Try.func89 (by kernel_rfl) rfl
theorem en_90:J4 Try.prog 90:=enters_of Try.func90 (by kernel_rfl) rfl
theorem en_91:J4 Try.prog 91:=enters_of Try.func91 (by kernel_rfl) rfl
end Go.Proofs.Ytafddfoefeploaa
namespace Go.Proofs.Ytafddfoefeploaa
open Go.RowKit Go.Shelf
theorem Yg:QU Try.prog 45 0=some 0:=by kernel_rfl
theorem Yb:QU Try.prog 45 1=some 1:=by kernel_rfl
theorem fo_45_5:QU Try.prog 45 5=some 13:=by kernel_rfl
theorem Yz:QU Try.prog 45 6=some 14:=by kernel_rfl
theorem YF:QU Try.prog 45 8=some 22:=by kernel_rfl
theorem KT:QU Try.prog 71 0=some 0:=by kernel_rfl
theorem KS:QU Try.prog 71 1=some 1:=by kernel_rfl
theorem Xh:QU Try.prog 76 0=some 0:=by kernel_rfl
theorem ZY:Jz Try.prog 40=some (false,1):=by kernel_rfl
theorem K6:Jz Try.prog 43=some (false,1):=by kernel_rfl
theorem K5:Jz Try.prog 71=some (true,6):=by kernel_rfl
theorem K4:Jz Try.prog 76=some (true,15):=by kernel_rfl
theorem YL:Jn Try.prog 40=some (71,6):=by kernel_rfl
theorem YT:Jn Try.prog 43=some (76,15):=by kernel_rfl
theorem U9:Jy Try.prog 71=some [.string ByteArray.empty,.int .i64 0,.int .i64 0,.string ByteArray.empty,.slice none 0 0,.slice none 0 0]:=by kernel_rfl
theorem Ue:Jy Try.prog 76=some [.string ByteArray.empty,.int .i64 0,.int .i64 0,.string ByteArray.empty,.slice none 0 0,.slice none 0 0,.int .i64 0,.int .i64 0,.int .i64 0,.int .i64 0,.string ByteArray.empty,.slice none 0 0,.slice none 0 0,.int .i64 0,.slice none 0 0]:=by kernel_rfl
theorem el_33:Km Try.prog 33=some (5,80):=by kernel_rfl
theorem en_20:J4 Try.prog 20:=enters_of Try.func20 (by kernel_rfl) rfl
theorem en_64:J4 Try.prog 64:=enters_of Try.func64 (by kernel_rfl) rfl
theorem en_68:J4 Try.prog 68:=enters_of Try.func68 (by kernel_rfl) rfl
theorem YU:Try.prog.follows .mixedOrders=true:=by kernel_rfl
def m64_l0  (s1:(List Tm)×Int×Int×Bs×(List Lvl)×(List Tm)):Option (LO ((List Tm)×Int×Int×Bs×(List Lvl)×(List Tm)) (((List Tm)×Int×Int×Bs×(List Lvl)×(List Tm)))) :=
 Option.bind (cond (s1.2.1==6)
   (some ((s1.2.2.2.2.2.length:Int)==2))
   (some false)) (fun (v2:Bool)=>cond v2
   (Option.bind (Jx s1.2.2.2.2.2 0) fun (x4:Tm) =>
 Jh (Nat.ble (s1.1.length+([x4]).length) 1000000000)
 (Option.bind (Jx s1.2.2.2.2.2 1) fun (x6:Tm) =>
 some (.next ((s1.1++([x4])),x6.kind,x6.index,x6.name,x6.levels,x6.kids))))
   (some (.done (s1.1,s1.2.1,s1.2.2.1,s1.2.2.2.1,s1.2.2.2.2.1,s1.2.2.2.2.2))))
noncomputable abbrev m64_h0 (p0_:(List Tm)×Int×Int×Bs×(List Lvl)×(List Tm)):HB :=
 .cells 33 [DW p0_.2.1,DW p0_.2.2.1,Jl p0_.2.2.2.1,DU p0_.2.2.2.2.1,DU p0_.2.2.2.2.2]
noncomputable abbrev m64_h1 (p0_:(List Tm)×Int×Int×Bs×(List Lvl)×(List Tm)):List (Nat×HB) :=
 [(0,m64_h0 p0_),(1,.cells 33 [DW 0,DW 0,Jl ([]:List UInt8),DV,DV])]
def Dt (a0:Tm):Option ((List Tm)×Tm) :=
 Option.bind (Qq (m64_l0) QI (([]:List Tm),a0.kind,a0.index,a0.name,a0.levels,a0.kids)) (fun (o1:(List Tm)×Int×Int×Bs×(List Lvl)×(List Tm))=>some (o1.1,(Tm.mk o1.2.1 o1.2.2.1 o1.2.2.2.1 o1.2.2.2.2.1 o1.2.2.2.2.2)))
theorem m64_ok (a0:Tm) (r:(List Tm)×Tm) (h0:Dt a0=some r):Fun Try.prog 64 [.agg (DZ a0)] (QP [.one (DU r.1),.agg (DZ r.2)]):=by
 unfold Dt at h0
 refine QS 9 27 Try.func64 Z en_64 Z (DM Z) (fun S w=>?_)
 simp only [Jb]
 refine Q6<|Q0<|Q9 Z Z (DM Z) (QV Z)<|DF Z Z Z<|Q9 Z Z (DM Z) (Ql G4 Z)<|Q3<|Q4<|Q6<|Q0<|DF Z Z Z<|Q3<|Q4<|Q6<|Qh ?_
 refine J2 0 (fun (o1:(List Tm)×Int×Int×Bs×(List Lvl)×(List Tm))=>⟨[(1,.v (.one (.ptr 0 0))),(3,.v (.one (.ptr 1 0))),(4,.v (.one (DY 2 o1.1)))],[(0,.cells 33 [DW o1.2.1,DW o1.2.2.1,Jl o1.2.2.2.1,DU o1.2.2.2.2.1,DU o1.2.2.2.2.2]),(1,.cells 33 [DW 0,DW 0,Jl ([]:List UInt8),DV,DV])],[(2,some ⟨33,5,(Enc.encL o1.1).length,[]⟩)],3,27,[]⟩) (fun (o1:(List Tm)×Int×Int×Bs×(List Lvl)×(List Tm))=>(some (o1.1,(Tm.mk o1.2.1 o1.2.2.1 o1.2.2.2.1 o1.2.2.2.2.1 o1.2.2.2.2.2)))=some r) ?_ ?_
 refine XC.adoptT (t:=4) 33 5 Z ?_
 refine Qd h0 (fun o2 hl1 h0=>?_)
 refine J1 (m64_l0) (fun s1=>⟨[(1,.v (.one (.ptr 0 0))),(3,.v (.one (.ptr 1 0))),(4,.v (.one (DY 2 s1.1)))],[(0,.cells 33 [DW s1.2.1,DW s1.2.2.1,Jl s1.2.2.2.1,DU s1.2.2.2.2.1,DU s1.2.2.2.2.2]),(1,.cells 33 [DW 0,DW 0,Jl ([]:List UInt8),DV,DV])],[(2,some ⟨33,5,(Enc.encL s1.1).length,[]⟩)],3,27,[]⟩) (([]:List Tm),a0.kind,a0.index,a0.name,a0.levels,a0.kids) o2 (DA (Nat.zero_le _) Z Z Z Z Z) hl1 (fun s1 n1 oo1 h1 ho1=>?_)
 unfold m64_l0 at h1
 refine Q6<|Q6 ?_
 refine QO (fun (v3:Bool)=>⟨[(1,.v (.one (.ptr 0 0))),(3,.v (.one (.ptr 1 0))),(4,.v (.one (DY 2 s1.1))),(13,.v (.one (DX v3)))],m64_h1 s1,[(2,some ⟨33,5,(Enc.encL s1.1).length,[]⟩)],3,27,[]⟩) (fun (v3:Bool)=>(cond v3
     (Option.bind (Jx s1.2.2.2.2.2 0) fun (x5:Tm) =>
   Jh (Nat.ble (s1.1.length+([x5]).length) 1000000000)
   (Option.bind (Jx s1.2.2.2.2.2 1) fun (x7:Tm) =>
   some (.next ((s1.1++([x5])),x7.kind,x7.index,x7.name,x7.levels,x7.kids))))
     (some (.done (s1.1,s1.2.1,s1.2.2.1,s1.2.2.2.1,s1.2.2.2.2.1,s1.2.2.2.2.2))))=some oo1) ?_ ?_
 refine Qd h1 (fun w2_ h2 h1=>?_)
 refine Q0<|DD Z Z Z (Q2 Yr Z)<|DD Z Z Z (Q5 QN Z Z Z)<|DD Z Z Z (Q8 Z Z Z)<|DE Z Z Z ?_
 refine QA (d:=8) (c:=(s1.2.1==6)) Z (fun c4=>?_) (fun c4=>?_)
 replace h2:=Qi c4 h2
 refine DD Z Z Z (Q2 JJ Z)<|DD Z Z Z (Q5 Yj Z Z Z)<|DD Z Z Z (QD (α:=Tm) JC Z (.d _))<|DD Z Z Z (Q8 Z Z Z)<|DD Z Z Z (Qe Z Z)<|Q3 ?_
 have e:=DB h2;subst e
 exact Qb ((s1.2.2.2.2.2.length:Int)==2) (DA (Nat.zero_le _) Z Z Z Z Z) h1
 replace h2:=Qj c4 h2
 refine Q7 Z Z<|Q7 Z Z<|Q7 Z Z<|Q7 Z Z<|DD Z Z Z (Qa Z Z)<|Q3 ?_
 have e:=DB h2;subst e
 exact Qb false (DA (Nat.zero_le _) Z Z Z Z Z) h1
 intro v3 h1
 refine Q4 ?_
 refine Qg (b:=v3) Z (fun c5=>?_) (fun c5=>?_)
 replace h1:=Qi c5 h1
 refine Qn<|Q4<|Qh<|Q6<|Q0<|DE Z Z Z<|DD Z Z Z (Q2 JJ Z)<|DD Z Z Z (Q5 Yj Z Z Z) ?_
 refine Qd h1 (fun x6 hx6 h1=>?_)
 refine DD Z Z Z (Qy (α:=Tm) JC Z (.d _) Z hx6)<|DD Z Z Z (Qt (x6:Tm) QX Z)<|Q9 Z Z (DM Z) (Yq (α:=Tm) (x6) JC G4 Z Z (DM Z) (DM Z) Z Z (.cons (.d _) (.cons (.d _) (.cons (.d _) (.cons (.d _) (.cons (.d _) .nil))))) Z) ?_
 refine YI h1 (fun g7 h1=>?_)
 refine Q9 Z Z (DM Z) (Yh (α:=Tm) JC el_33 Z Z Z Z Z (.app _ _) g7)<|DF Z Z Z<|Q3<|Q4<|Q0<|DD Z Z Z (Q2 JJ Z)<|DD Z Z Z (Q5 Yj Z Z Z) ?_
 refine Qd h1 (fun x8 hx8 h1=>?_)
 refine DD Z Z Z (Qy (α:=Tm) JC Z (.d _) Z hx8)<|DD Z Z Z (Qt (x8:Tm) QX Z)<|Qz Z Z (QC (x8:Tm) QX Z Z Z Z Z)<|Q3<|Qf ?_
 have e:=DB h1;subst e
 refine QW ((s1.1++([x6])),x8.kind,x8.index,x8.name,x8.levels,x8.kids) (DA (Nat.zero_le _) Z Z Z Z Z) ho1
 replace h1:=Qj c5 h1
 refine J8<|Qr<|Qr ?_
 have e:=DB h1;subst e
 have e_:_=_:=ho1
 subst e_
 exact J0 (s1.1,s1.2.1,s1.2.2.1,s1.2.2.2.1,s1.2.2.2.2.1,s1.2.2.2.2.2) (DA (Nat.zero_le _) Z Z Z Z Z) h0
 intro o1 h0
 refine QQ<|Q4<|Q6 ?_
 refine Js [3] [] YU (by kernel_rfl) (by kernel_rfl) (by kernel_rfl) ?_
 refine RunA.rd Z Z Z (Q1 (Qp Z)) Z<|RunA.rd Z Z Z (Q1 (Qk QX Z Z Z Z)) Z<|RunA.rd Z Z Z (Q1 (JD Z)) Z<|RunA.eff Z Z Z (Qv QX Z Z Z Z (DM Z) Z) Z ?_
 refine RunA.nil ⟨?ex,_,_,Z,?_⟩
 case ex=>exact trivial
 refine JV (st':=⟨[(2,.v (.one (DY 2 o1.1))),(3,.v (.one (.ptr 1 0)))],[(0,m64_h0 o1),(1,m64_h0 o1)],[(2,some ⟨33,5,(Enc.encL o1.1).length,[]⟩)],3,27,[]⟩) (DA (Nat.zero_le _) Z Z Z Z Z)<|Q4<|QE ?_
 have e:=DB h0;subst e
 exact QJ (fun _ _ h=>h) Z (QB Z (Z4 QX Z Z Z Z .nil)) (.cons (.one (.app _ _ _)) (.cons (.agg (.cons (.d _) (.cons (.d _) (.cons (.d _) (.cons (.d _) (.cons (.d _) .nil)))))) .nil))
def XG (a0:Dcl) (s1:(List Bs)×Int):Option (LO ((List Bs)×Int) (((List Bs)))) :=
 cond (decide (s1.2 < (a0.ctors.length:Int)))
   (Option.bind (Jx a0.ctors s1.2) fun (x8:Ctr) =>
 Jh (Nat.ble (s1.1.length+([x8.name]).length) 1000000000)
 (some (.next ((s1.1++([x8.name])),(Ja (s1.2+1))))))
   (some (.done s1.1))
def XF (a0:Dcl) (s1:(List Bs)×Int):Option (LO ((List Bs)×Int) (((List Bs)))) :=
 cond (decide (s1.2 < (a0.funs.length:Int)))
   (Option.bind (Jx a0.funs s1.2) fun (x16:Fn) =>
 Jh (Nat.ble (s1.1.length+([x16.name]).length) 1000000000)
 (some (.next ((s1.1++([x16.name])),(Ja (s1.2+1))))))
   (some (.done s1.1))
def De (a0:Dcl):Option ((List Bs)) :=
 Option.bind (cond (a0.kind==0)
   (some (a0.kind==0))
   (cond (a0.kind==1)
   (some (a0.kind==1))
   (some (a0.kind==2)))) (fun (v1:Bool)=>cond v1
   (Jh (Nat.ble ([a0.name]).length 1000000000)
 (some ([a0.name])))
   (cond (a0.kind==3)
   (Jh (Nat.ble ([a0.name]).length 1000000000)
 (Option.bind (Qq (XG a0) QI ([a0.name],0)) (fun (o6:(List Bs))=>Jh (Nat.ble (a0.name.length+([46,114,101,99]:List UInt8).length) 1000000000)
 (Jh (Nat.ble (o6.length+([(a0.name++([46,114,101,99]:List UInt8))]).length) 1000000000)
 (some (o6++([(a0.name++([46,114,101,99]:List UInt8))])))))))
   (cond (a0.kind==4)
   (Option.bind (Qq (XF a0) QI (([]:List Bs),0)) (fun (o14:(List Bs))=>some o14))
   (some ([]:List Bs)))))
theorem m20_ok (a0:Dcl) (r:(List Bs)) (h0:De a0=some r):Fun Try.prog 20 [.agg (DZ a0)] (QP [.one (DU r)]):=by
 unfold De at h0
 refine QS 9 61 Try.func20 Z en_20 Z (DM Z) (fun S w=>?_)
 simp only [Jb]
 refine Q6<|Q0<|Q9 Z Z (DM Z) (QV Z)<|DF Z Z Z<|Q3<|Q4<|Q6<|Q0<|DF Z Z Z<|Q3<|Q4<|Q6<|Q6<|Q0 ?_
 refine DD Z Z Z (Q2 Yg Z)<|DD Z Z Z (Q5 QN Z Z Z)<|Q3<|Q4<|Qh<|Q6<|Q6<|Q0<|DD Z Z Z (Q8 Z Z Z)<|DF Z Z Z<|Q3<|Q4 ?_
 refine QO (fun (v1:Bool)=>⟨[(1,.v (.one (.ptr 0 0))),(3,.v (.one (DV))),(9,.v (.one (DW a0.kind))),(10,.v (.one (DX v1)))],[(0,.cells 45 (DZ a0))],[],1,61,[]⟩) (fun (v1:Bool)=>(cond v1
     (Jh (Nat.ble ([a0.name]).length 1000000000)
   (some ([a0.name])))
     (cond (a0.kind==3)
     (Jh (Nat.ble ([a0.name]).length 1000000000)
   (Option.bind (Qq (XG a0) QI ([a0.name],0)) (fun (o6:(List Bs))=>Jh (Nat.ble (a0.name.length+([46,114,101,99]:List UInt8).length) 1000000000)
   (Jh (Nat.ble (o6.length+([(a0.name++([46,114,101,99]:List UInt8))]).length) 1000000000)
   (some (o6++([(a0.name++([46,114,101,99]:List UInt8))])))))))
     (cond (a0.kind==4)
     (Option.bind (Qq (XF a0) QI (([]:List Bs),0)) (fun (o14:(List Bs))=>some o14))
     (some ([]:List Bs)))))=some r) ?_ ?_
 refine Qd h0 (fun w1_ h1 h0=>?_)
 refine Qg (b:=(a0.kind==0)) Z (fun c2=>?_) (fun c2=>?_)
 replace h1:=Qi c2 h1
 refine Qn ?_
 have e:=DB h1;subst e
 exact Qb (a0.kind==0) (DA (Nat.zero_le _) Z Z Z Z Z) h0
 replace h1:=Qj c2 h1
 refine Q6<|Q0<|DD Z Z Z (Q8 Z Z Z)<|DF Z Z Z<|Q3<|Q4 ?_
 refine Qg (b:=(a0.kind==1)) Z (fun c3=>?_) (fun c3=>?_)
 replace h1:=Qi c3 h1
 refine Qn ?_
 have e:=DB h1;subst e
 exact Qb (a0.kind==1) (DA (Nat.zero_le _) Z Z Z Z Z) h0
 replace h1:=Qj c3 h1
 refine Q0<|DD Z Z Z (Q8 Z Z Z)<|DF Z Z Z<|Q3 ?_
 have e:=DB h1;subst e
 exact Qb (a0.kind==2) (DA (Nat.zero_le _) Z Z Z Z Z) h0
 intro v1 h0
 refine Q4 ?_
 refine Qg (b:=v1) Z (fun c4=>?_) (fun c4=>?_)
 replace h0:=Qi c4 h0
 refine Q0<|DE Z Z Z<|DD Z Z Z (Q2 Yb Z)<|DD Z Z Z (Q5 JT Z Z Z)<|Q9 Z Z (DM Z) (Yq (α:=Bs) (a0.name) Z7 Di Z Z (DM Z) (DM Z) Z Z (.cons (.d _) .nil) Z) ?_
 refine YI h0 (fun g5 h0=>?_)
 refine Q9 Z Z (DM Z) (OpOK.appendNilE (α:=Bs) Z7 UO Z Z Z (.app _ _) g5)<|DF Z Z Z<|Q3<|Qf<|Q4<|Q6<|Q0<|DE Z Z Z<|DF Z Z Z<|Q3<|Q4<|QE ?_
 have e:=DB h0;subst e
 exact QJ (fun _ _ h=>h) Z (QB Z .nil) (.cons (.one (.app _ _ _)) .nil)
 replace h0:=Qj c4 h0
 refine Q6<|Q0<|DD Z Z Z (Q8 Z Z Z)<|DF Z Z Z<|Q3<|Q4 ?_
 refine Qg (b:=(a0.kind==3)) Z (fun c6=>?_) (fun c6=>?_)
 replace h0:=Qi c6 h0
 refine Q6<|Q0<|DE Z Z Z<|DD Z Z Z (Q2 Yb Z)<|DD Z Z Z (Q5 JT Z Z Z)<|Q9 Z Z (DM Z) (Yq (α:=Bs) (a0.name) Z7 Di Z Z (DM Z) (DM Z) Z Z (.cons (.d _) .nil) Z) ?_
 refine YI h0 (fun g7 h0=>?_)
 refine Q9 Z Z (DM Z) (OpOK.appendNilE (α:=Bs) Z7 UO Z Z Z (.app _ _) g7)<|DF Z Z Z<|Q3<|Q4<|Q6<|Q6<|Q0<|DD Z Z Z (Q2 Yz Z)<|DD Z Z Z (Q5 ZY Z Z Z)<|DD Z Z Z (QD (α:=Ctr) YL Z (.d _))<|DE Z Z Z<|Q3<|Q4<|Qh ?_
 refine J2 1 (fun (o8:(List Bs))=>⟨[(1,.v (.one (.ptr 0 0))),(3,.v (.one (DY 2 o8)))],[(0,.cells 45 (DZ a0))],[(1,some ⟨9,1,(Enc.encL ([a0.name]:List Bs)).length,[]⟩),(2,some ⟨9,1,(Enc.encL o8).length,[]⟩)],3,61,[]⟩) (fun (o8:(List Bs))=>(Jh (Nat.ble (a0.name.length+([46,114,101,99]:List UInt8).length) 1000000000)
   (Jh (Nat.ble (o8.length+([(a0.name++([46,114,101,99]:List UInt8))]).length) 1000000000)
   (some (o8++([(a0.name++([46,114,101,99]:List UInt8))])))))=some r) ?_ ?_
 refine Qd h0 (fun o9 hl1 h0=>?_)
 refine J1 (XG a0) (fun s1=>⟨[(1,.v (.one (.ptr 0 0))),(3,.v (.one (DY 2 s1.1))),(27,.v (.one (DU a0.ctors))),(28,.v (.one (DW (a0.ctors.length:Int)))),(29,.v (.one (DW s1.2)))],[(0,.cells 45 (DZ a0))],[(1,some ⟨9,1,(Enc.encL ([a0.name]:List Bs)).length,[]⟩),(2,some ⟨9,1,(Enc.encL s1.1).length,[]⟩)],3,61,[]⟩) ([a0.name],0) o9 (DA (Nat.zero_le _) Z Z Z Z Z) hl1 (fun s1 n1 oo1 h1 ho1=>?_)
 unfold XG at h1
 refine Q6<|Q0<|DD Z Z Z (Q8 Z Z Z)<|Q3<|Q4<|Q6 ?_
 refine Qg (b:=(decide (s1.2 < (a0.ctors.length:Int)))) Z (fun c10=>?_) (fun c10=>?_)
 replace h1:=Qi c10 h1
 refine Qn<|Q4<|Q6<|Qh<|Q6<|Q0 ?_
 refine Qd h1 (fun x11 hx11 h1=>?_)
 refine DD Z Z Z (Qy (α:=Ctr) YL Z (.d _) Z hx11)<|DD Z Z Z (Qt (x11:Ctr) K5 Z)<|Q9 Z Z (DM Z) (Ql U9 Z)<|Qz Z Z (QC (x11:Ctr) K5 Z Z Z Z Z)<|Q3<|Q4<|Q0<|DE Z Z Z<|DD Z Z Z (Q2 KT Z)<|DD Z Z Z (Q5 JT Z Z Z)<|Q9 Z Z (DM Z) (Yq (α:=Bs) (x11.name) Z7 Di Z Z (DM Z) (DM Z) Z Z (.cons (.d _) .nil) Z) ?_
 refine YI h1 (fun g12 h1=>?_)
 refine Q9 Z Z (DM Z) (Yh (α:=Bs) Z7 UO Z Z Z Z Z (.app _ _) g12)<|DF Z Z Z<|Q3<|Qf<|Q4<|Q0<|DD Z Z Z (Q8 Z Z Z)<|DE Z Z Z<|Q3 ?_
 have e:=DB h1;subst e
 refine QW ((s1.1++([x11.name])),(Ja (s1.2+1))) (DA (Nat.zero_le _) Z Z Z Z Z) ho1
 replace h1:=Qj c10 h1
 refine J8<|Qr<|Qr ?_
 have e:=DB h1;subst e
 have e_:_=_:=ho1
 subst e_
 exact J0 s1.1 (DA (Nat.zero_le _) Z Z Z Z Z) h0
 intro o8 h0
 refine QQ<|Q4<|Q0<|DE Z Z Z<|DD Z Z Z (Q2 Yb Z)<|DD Z Z Z (Q5 JT Z Z Z) ?_
 refine YI h0 (fun g13 h0=>?_)
 refine DD Z Z Z (Xj Z Z g13)<|Q9 Z Z (DM Z) (Yq (α:=Bs) ((a0.name++([46,114,101,99]:List UInt8))) Z7 Di Z Z (DM Z) (DM Z) Z Z (.cons (.d _) .nil) Z) ?_
 refine YI h0 (fun g14 h0=>?_)
 refine Q9 Z Z (DM Z) (Yh (α:=Bs) Z7 UO Z Z Z Z Z (.app _ _) g14)<|DF Z Z Z<|Q3<|Qf<|Q4<|Q6<|Q0<|DE Z Z Z<|DF Z Z Z<|Q3<|Q4<|QE ?_
 have e:=DB h0;subst e
 exact QJ (fun _ _ h=>h) Z (QB Z .nil) (.cons (.one (.app _ _ _)) .nil)
 replace h0:=Qj c6 h0
 refine Q6<|Q0<|DD Z Z Z (Q8 Z Z Z)<|DF Z Z Z<|Q3<|Q4 ?_
 refine Qg (b:=(a0.kind==4)) Z (fun c15=>?_) (fun c15=>?_)
 replace h0:=Qi c15 h0
 refine Q6<|Q0<|DD Z Z Z (Q2 YF Z)<|DD Z Z Z (Q5 K6 Z Z Z)<|DD Z Z Z (QD (α:=Fn) YT Z (.d _))<|DE Z Z Z<|Q3<|Q4<|Qh ?_
 refine J2 3 (fun (o16:(List Bs))=>⟨[(3,.v (.one (DY 1 o16)))],[(0,.cells 45 (DZ a0))],[(1,some ⟨9,1,(Enc.encL o16).length,[]⟩)],2,61,[]⟩) (fun (o16:(List Bs))=>(some o16)=some r) ?_ ?_
 refine XC.adoptT (t:=3) 9 1 Z ?_
 refine Qd h0 (fun o17 hl1 h0=>?_)
 refine J1 (XF a0) (fun s1=>⟨[(3,.v (.one (DY 1 s1.1))),(48,.v (.one (DU a0.funs))),(49,.v (.one (DW (a0.funs.length:Int)))),(50,.v (.one (DW s1.2)))],[(0,.cells 45 (DZ a0))],[(1,some ⟨9,1,(Enc.encL s1.1).length,[]⟩)],2,61,[]⟩) (([]:List Bs),0) o17 (DA (Nat.zero_le _) Z Z Z Z Z) hl1 (fun s1 n1 oo1 h1 ho1=>?_)
 unfold XF at h1
 refine Q6<|Q0<|DD Z Z Z (Q8 Z Z Z)<|Q3<|Q4<|Q6 ?_
 refine Qg (b:=(decide (s1.2 < (a0.funs.length:Int)))) Z (fun c18=>?_) (fun c18=>?_)
 replace h1:=Qi c18 h1
 refine Qn<|Q4<|Q6<|Qh<|Q6<|Q0 ?_
 refine Qd h1 (fun x19 hx19 h1=>?_)
 refine DD Z Z Z (Qy (α:=Fn) YT Z (.d _) Z hx19)<|DD Z Z Z (Qt (x19:Fn) K4 Z)<|Q9 Z Z (DM Z) (Ql Ue Z)<|Qz Z Z (QC (x19:Fn) K4 Z Z Z Z Z)<|Q3<|Q4<|Q0<|DE Z Z Z<|DD Z Z Z (Q2 Xh Z)<|DD Z Z Z (Q5 JT Z Z Z)<|Q9 Z Z (DM Z) (Yq (α:=Bs) (x19.name) Z7 Di Z Z (DM Z) (DM Z) Z Z (.cons (.d _) .nil) Z) ?_
 refine YI h1 (fun g20 h1=>?_)
 refine Q9 Z Z (DM Z) (Yh (α:=Bs) Z7 UO Z Z Z Z Z (.app _ _) g20)<|DF Z Z Z<|Q3<|Qf<|Q4<|Q0<|DD Z Z Z (Q8 Z Z Z)<|DE Z Z Z<|Q3 ?_
 have e:=DB h1;subst e
 refine QW ((s1.1++([x19.name])),(Ja (s1.2+1))) (DA (Nat.zero_le _) Z Z Z Z Z) ho1
 replace h1:=Qj c18 h1
 refine J8<|Qr<|Qr ?_
 have e:=DB h1;subst e
 have e_:_=_:=ho1
 subst e_
 exact J0 s1.1 (DA (Nat.zero_le _) Z Z Z Z Z) h0
 intro o16 h0
 refine QQ<|Qf<|Q4<|Q6<|Q0<|DE Z Z Z<|DF Z Z Z<|Q3<|Q4<|QE ?_
 have e:=DB h0;subst e
 exact QJ (fun _ _ h=>h) Z (QB Z .nil) (.cons (.one (.app _ _ _)) .nil)
 replace h0:=Qj c15 h0
 refine Qn<|Qf<|Q4<|Q6<|Q0<|DE Z Z Z<|DF Z Z Z<|Q3<|Q4<|QE ?_
 have e:=DB h0;subst e
 exact QJ (fun _ _ h=>h) Z (QB Z .nil) (.cons (.one (.nil _)) .nil)
def Dr (a0:Dcl) (a1:Int):Option Int :=
 Option.bind (Jx a0.ctors a1) fun (x1:Ctr) =>
 Option.bind (Dt x1.ty) fun (x2:(List Tm)×Tm) =>
 some (max 0 (Ja ((x2.1.length:Int) - a0.fixed)))
theorem m68_ok (a0:Dcl) (a1:Int) (r:Int) (h0:Dr a0 a1=some r):Fun Try.prog 68 [.agg (DZ a0),.one (DW a1)] (QP [.one (DW r)]):=by
 unfold Dr at h0
 refine QS 9 23 Try.func68 Z en_68 Z (DM Z) (fun S w=>?_)
 simp only [Jb]
 refine Q6<|Q0<|Q9 Z Z (DM Z) (QV Z)<|DF Z Z Z<|Q3<|Q4<|Q6<|Q0<|DD Z Z Z (Q2 Yz Z)<|DD Z Z Z (Q5 ZY Z Z Z)<|DE Z Z Z ?_
 refine Qd h0 (fun x1 hx1 h0=>?_)
 refine DD Z Z Z (Qy (α:=Ctr) YL Z (.d _) Z hx1)<|DD Z Z Z (YB KS Z)<|DD Z Z Z (YR QX Z Z Z) ?_
 refine Qd h0 (fun x2 hx2 h0=>?_)
 refine Q9 Z Z (DM Z) (Qo (m64_ok x1.ty x2 hx2) Z (.cons (.agg (.cons (.d _) (.cons (.d _) (.cons (.d _) (.cons (.d _) (.cons (.d _) .nil)))))) .nil))<|DE Z Z Z<|DD Z Z Z (QR Z Z)<|DD Z Z Z (QR Z Z)<|Q9 Z Z (DM Z) (Ql G4 Z)<|DF Z Z Z<|Qz Z Z (QC (x2.2:Tm) QX Z Z Z Z Z)<|Q3<|Q4<|Q6<|Q0<|DE Z Z Z<|DD Z Z Z (QD (α:=Tm) JC Z (.d _))<|DD Z Z Z (Q2 fo_45_5 Z) ?_
 refine DD Z Z Z (Q5 QN Z Z Z)<|DD Z Z Z (Q8 Z Z Z)<|DD Z Z Z (GH Z Z)<|DF Z Z Z<|Q3<|Q4<|QE ?_
 have e:=DB h0;subst e
 exact QJ (fun _ _ h=>h) Z (QB Z .nil) (.cons (.one (.d _)) .nil)
end Go.Proofs.Ytafddfoefeploaa
namespace Go.Proofs.Ytafddfoefeploaa
open Go.RowKit Go.Shelf
theorem GF:QU Try.prog 42 1=some 1:=by kernel_rfl
theorem GE:QU Try.prog 42 2=some 6:=by kernel_rfl
theorem KU:QU Try.prog 45 3=some 3:=by kernel_rfl
theorem fo_45_4:QU Try.prog 45 4=some 8:=by kernel_rfl
theorem JU:QU Try.prog 45 7=some 15:=by kernel_rfl
theorem fo_74_0:QU Try.prog 74 0=some 0:=by kernel_rfl
theorem fo_74_1:QU Try.prog 74 1=some 1:=by kernel_rfl
theorem KR:QU Try.prog 74 3=some 7:=by kernel_rfl
theorem Xg:QU Try.prog 76 1=some 1:=by kernel_rfl
theorem fo_76_3:QU Try.prog 76 3=some 7:=by kernel_rfl
theorem fo_101_0:QU Try.prog 101 0=some 0:=by kernel_rfl
theorem fo_101_1:QU Try.prog 101 1=some 1:=by kernel_rfl
theorem fo_101_2:QU Try.prog 101 2=some 2:=by kernel_rfl
theorem ag_4:Jz Try.prog 4=some (false,1):=by kernel_rfl
theorem JK:Jz Try.prog 45=some (true,23):=by kernel_rfl
theorem Wu:Jz Try.prog 72=some (false,1):=by kernel_rfl
theorem U8:Jz Try.prog 74=some (true,8):=by kernel_rfl
theorem ag_101:Jz Try.prog 101=some (true,10):=by kernel_rfl
theorem XP:Jn Try.prog 72=some (101,10):=by kernel_rfl
theorem z_101:Jy Try.prog 101=some [.string ByteArray.empty,.bool false,.int .i64 0,.int .i64 0,.int .i64 0,.string ByteArray.empty,.slice none 0 0,.slice none 0 0,.int .i64 0,.slice none 0 0]:=by kernel_rfl
end Go.Proofs.Ytafddfoefeploaa
namespace Go.Proofs.Ytafddfoefeploaa
open Go.RowKit Go.Shelf
def m77_l0 (a0:List Bs) (a1:Bs) (s1:Int):Option (LO Int (Unit⊕Bool)) :=
 cond (decide (s1 < (a0.length:Int)))
   (Option.bind (Jx a0 s1) fun (x3:Bs) =>
 cond (x3==a1)
   (some (.done (.inr true)))
   (some (.next (Ja (s1+1)))))
   (some (.done (.inl ())))
def m77 (a0:List Bs) (a1:Bs):Option Bool :=
 Option.bind (Qq (m77_l0 a0 a1) QI 0) (Sum.elim (fun (o1:Unit)=>some false) (fun o=>some o))
def m33_l0 (a0:List Bs) (a1:Bs) (s1:Int):Option (LO Int (Unit⊕Bool)) :=
 cond (decide (s1 < (a0.length:Int)))
   (Option.bind (Jx a0 s1) fun (x3:Bs) =>
 cond (x3==a1)
   (some (.done (.inr true)))
   (some (.next (Ja (s1+1)))))
   (some (.done (.inl ())))
def UB (a0:List Bs) (a1:Bs):Option Bool :=
 Option.bind (Qq (m33_l0 a0 a1) QI 0) (Sum.elim (fun (o1:Unit)=>some false) (fun o=>some o))
def m23_l0 (a0:Dcl) (s1:(List Bs)×Int):Option (LO ((List Bs)×Int) (((List Bs)))) :=
 cond (decide (s1.2 < (a0.ctors.length:Int)))
   (Option.bind (Jx a0.ctors s1.2) fun (x6:Ctr) =>
 Jh (Nat.ble (s1.1.length+([x6.name]).length) 1000000000)
 (some (.next ((s1.1++([x6.name])),(Ja (s1.2+1))))))
   (some (.done s1.1))
def m23_l1 (a0:Dcl) (s1:(List Bs)×Int):Option (LO ((List Bs)×Int) (((List Bs)))) :=
 cond (decide (s1.2 < (a0.funs.length:Int)))
   (Option.bind (Jx a0.funs s1.2) fun (x14:Fn) =>
 Jh (Nat.ble (s1.1.length+([x14.name]).length) 1000000000)
 (some (.next ((s1.1++([x14.name])),(Ja (s1.2+1))))))
   (some (.done s1.1))
def Dd (a0:Dcl):Option ((List Bs)) :=
 Option.bind (cond (a0.kind==0)
   (some (a0.kind==0))
   (cond (a0.kind==1)
   (some (a0.kind==1))
   (some (a0.kind==2)))) (fun (v1:Bool)=>cond v1
   (some ([a0.name]))
   (cond (a0.kind==3)
   (Option.bind (Qq (m23_l0 a0) QI ([a0.name],0)) (fun (o4:(List Bs))=>Jh (Nat.ble (a0.name.length+([46,114,101,99]:List UInt8).length) 1000000000)
 (Jh (Nat.ble (o4.length+([(a0.name++([46,114,101,99]:List UInt8))]).length) 1000000000)
 (some (o4++([(a0.name++([46,114,101,99]:List UInt8))]))))))
   (cond (a0.kind==4)
   (Option.bind (Qq (m23_l1 a0) QI (([]:List Bs),0)) (fun (o12:(List Bs))=>some o12))
   (some ([]:List Bs)))))
end Go.Proofs.Ytafddfoefeploaa
namespace Go.Proofs.Ytafddfoefeploaa
open Go.RowKit
theorem W6 {n:Int} (h1:-9223372036854775808≤n) (h2:n≤9223372036854775807):Ja n=n:=IntWalk.i64_in n ⟨h1,h2⟩
theorem Wx {k:Nat} (h:k≤1000000000):Ja ((k:Int)+1)=((k+1:Nat):Int):=by rw [W6 (by omega) (by omega)];rfl
theorem idx_at {α:Type} {l:List α} {k:Nat} {x:α} (h:l[k]?=some x):Jx l (k:Int)=some x:=h
theorem JF {α:Type} (a:List α) (x:α) (b:List α):Jx (a++x::b) (a.length:Int)=some x:=by
 show (a++x::b)[a.length]?=some x
 simp
theorem JS {α:Type} (a:List α) (x:α) (b:List α):decide ((a.length:Int) < ((a++x::b).length:Int))=true:=by
 rw [decide_eq_true_eq,List.length_append,List.length_cons];omega
theorem GP {α:Type} {l a b:List α} {x:α} (h:l=a++x::b):a.length < l.length:=by rw [h,List.length_append,List.length_cons];omega
theorem Yk (a b:Int):(a==b)=decide (a=b):=by
 by_cases h:a=b
 ·rw [decide_eq_true h];exact beq_iff_eq.2 h
 ·rw [decide_eq_false h,Bool.eq_false_iff];exact fun h'=>h (beq_iff_eq.1 h')
theorem J9 {α:Type} (a:List α):decide ((a.length:Int) < (a.length:Int))=false:=by simp
theorem JI {α:Type} {a b:Nat} {x:Option α} (h:a≤b):Jh (Nat.ble a b) x=x:=by
 rw [Nat.ble_eq_true_of_le h];rfl
theorem Y3 {α σ τ β:Type} {step:τ→Option (LO τ β)} (l:List α) (mk:Int→σ→τ) (I:List α→σ→Prop) (Q:β→Prop) (hlen:l.length≤900000000)
  (hin:∀ (a:List α) (x:α) (b:List α) (s:σ),l=a++x::b→I a s →
   (∃ r,step (mk (a.length:Int) s)=some (.done r)∧Q r)∨∃ s',step (mk (a.length:Int) s)=some (.next (mk (Ja ((a.length:Int)+1)) s'))∧I (a++[x]) s')
  (hout:∀ s,I l s→∃ r,step (mk (l.length:Int) s)=some (.done r)∧Q r) (s0:σ) (h0:I [] s0):∃ r,Qq step QI (mk 0 s0)=some r∧Q r:=by
 have key:∀ (b a:List α) (s:σ) (n:Nat),l=a++b→b.length < n→I a s→∃ r,Qq step n (mk (a.length:Int) s)=some r∧Q r:=by
  intro b
  induction b with
  | nil =>
   intro a s n hl hn hI
   rw [List.append_nil] at hl
   subst hl
   obtain ⟨r,h1,h2⟩:=hout s hI
   cases n with
   | zero=>omega
   | succ n=>exact ⟨r,by simp only [Qq,h1],h2⟩
  | cons x b ih =>
   intro a s n hl hn hI
   cases n with
   | zero=>omega
   | succ n =>
    rcases hin a x b s hl hI with ⟨r,h1,h2⟩ | ⟨s',h1,h2⟩
    ·exact ⟨r,by simp only [Qq,h1],h2⟩
    ·have hal:a.length≤900000000:=by rw [hl,List.length_append] at hlen;omega
     rw [Wx (by omega)] at h1
     obtain ⟨r,h3,h4⟩:=ih (a++[x]) s' n (by rw [hl,List.append_assoc];rfl) (by simp only [List.length_cons] at hn;omega) h2
     refine ⟨r,?_,h4⟩
     simp only [Qq,h1]
     rw [List.length_append] at h3
     exact h3
 exact key l [] s0 QI rfl (by unfold QI;omega) h0
theorem loop_fold {α σ τ β:Type} {step:τ→Option (LO τ β)} (l:List α) (mk:Int→σ→τ) (f:σ→α→σ) (s0:σ) (fin:β) (hlen:l.length≤900000000)
  (hin:∀ (a:List α) (x:α) (b:List α),l=a++x::b→step (mk (a.length:Int) (a.foldl f s0))=some (.next (mk (Ja ((a.length:Int)+1)) (f (a.foldl f s0) x))))
  (hout:step (mk (l.length:Int) (l.foldl f s0))=some (.done fin)):Qq step QI (mk 0 s0)=some fin:=by
 obtain ⟨r,h1,h2⟩:=Y3 (step:=step) l mk (fun a s=>s=a.foldl f s0) (fun r=>r=fin) hlen (fun a x b s hl hs=>.inr ⟨f (a.foldl f s0) x,by rw [hs];exact hin a x b hl,by rw [List.foldl_append];rfl⟩)
  (fun s hs=>⟨fin,by rw [hs];exact hout,rfl⟩) s0 rfl
 rw [h1,h2]
section
variable {κ β:Type} [MK κ] [MV β]
theorem gmFind_shift (k:κ):∀ (l:List (κ×β×Nat)) (i:Nat),(Yd k l i).map (·.2)=(Yd k l 0).map (·.2)
 | [],i=>rfl
 | e::l,i=>by
  simp only [Yd]
  cases (k==e.1) with
  | true=>rfl
  | false=>simp only [cond_false];rw [gmFind_shift k l (i+1),gmFind_shift k l (0+1)]
theorem gmFind_idx (k:κ):∀ (l:List (κ×β×Nat)) (i:Nat),∀ j v,Yd k l i=some (j,v)→∃ n e,j=i+n∧l[n]?=some e∧(k==e.1)=true∧e.2.1=v
 | [],i,j,v,h=>by cases h
 | e::l,i,j,v,h=>by
  simp only [Yd] at h
  cases hk:(k==e.1) with
  | true=>rw [hk] at h;cases h;exact ⟨0,e,rfl,rfl,hk,rfl⟩
  | false =>
   rw [hk] at h
   obtain ⟨n,e',h1,h2,h3,h4⟩:=gmFind_idx k l (i+1) j v h
   exact ⟨n+1,e',by omega,h2,h3,h4⟩
end
section
variable {β:Type} [MV β]
theorem GD (k:Bs) (e:Bs×β×Nat) (l:List (Bs×β×Nat)) (i:Nat):(Yd k (e::l) i).map (·.2)=if k=e.1 then some e.2.1 else (Yd k l 0).map (·.2):=by
 simp only [Yd]
 by_cases h:k=e.1
 ·rw [if_pos h,show (k==e.1)=true from beq_iff_eq.2 h];rfl
 ·rw [if_neg h,show (k==e.1)=false from by rw [Bool.eq_false_iff];exact fun h'=>h (beq_iff_eq.1 h')]
  simp only [cond_false];exact gmFind_shift k l (i+1)
theorem gf_app (k:Bs) (x:Bs×β×Nat):∀ (l:List (Bs×β×Nat)) (i:Nat),(Yd k (l++[x]) i).map (·.2)=match (Yd k l 0).map (·.2) with
  | some v=>some v
  | none=>if k=x.1 then some x.2.1 else none
 | [],i=>by rw [List.nil_append,GD];rfl
 | e::l,i=>by
  rw [List.cons_append,GD,GD]
  by_cases h:k=e.1
  ·rw [if_pos h,if_pos h]
  ·rw [if_neg h,if_neg h];exact gf_app k x l 0
theorem gf_mod (k k':Bs) (v:β):∀ (l:List (Bs×β×Nat)) (i j:Nat) (u:β),Yd k l i=some (i+j,u)→(Yd k' (l.modify j fun e=>(k,v,e.2.2)) 0).map (·.2)=if k'=k then some v else (Yd k' l 0).map (·.2)
 | [],i,j,u,h=>by cases h
 | e::l,i,j,u,h=>by
  simp only [Yd] at h
  by_cases hk:k=e.1
  ·rw [show (k==e.1)=true from beq_iff_eq.2 hk] at h
   simp only [cond_true,Option.some.injEq,Prod.mk.injEq] at h
   obtain rfl:j=0:=by omega
   rw [show (e::l).modify 0 (fun e=>(k,v,e.2.2))=(k,v,e.2.2)::l from rfl,GD,GD,← hk]
   by_cases h2:k'=k <;> simp [h2]
  ·rw [show (k==e.1)=false from by rw [Bool.eq_false_iff];exact fun h'=>hk (beq_iff_eq.1 h')] at h
   simp only [cond_false] at h
   cases j with
   | zero =>
    obtain ⟨n,e',h1,-⟩:=gmFind_idx k l (i+1) _ u h
    omega
   | succ j =>
    have ih:=gf_mod k k' v l (i+1) j u (by rw [h];congr 2;omega)
    rw [show (e::l).modify (j+1) (fun e=>(k,v,e.2.2))=e::l.modify j (fun e=>(k,v,e.2.2)) from rfl,GD,GD,ih]
    by_cases h2:k'=k
    ·rw [if_pos h2,if_pos h2,if_neg (fun h3=>hk (h2▸h3))]
    ·rw [if_neg h2,if_neg h2]
theorem Kj (M:Qc Bs β) (k k':Bs) (v:β):ZT (J3 M k v) k'=if k'=k then some v else ZT M k':=by
 unfold J3
 split
 ·rename_i j u h
  exact gf_mod k k' v M.1 0 j u (by rw [h,Nat.zero_add])
 ·rename_i h
  show (Yd k' (M.1++[(k,v,M.2)]) 0).map (·.2)=_
  rw [gf_app]
  by_cases h2:k'=k
  ·subst h2;rw [h];simp
  ·rw [if_neg h2,if_neg h2,show ZT M k'=(Yd k' M.1 0).map (·.2) from rfl]
   cases (Yd k' M.1 0).map (·.2) with
   | none=>rfl
   | some v=>rfl
end
theorem gmVal_set {β:Type} [MV β] (M:Qc Bs β) (k k':Bs) (v:β):Qm (J3 M k v) k'=if k'=k then v else Qm M k':=by
 unfold Qm
 rw [Kj]
 by_cases h:k'=k <;> simp [h]
theorem Zc {α:Type} (f:α→Nat) {x:α}:∀ {l:List α},x∈l→f x≤(l.map f).sum
 | y::l,h=>by
  rw [List.map_cons,List.sum_cons]
  rcases List.mem_cons.1 h with rfl | h
  ·omega
  ·have:=Zc f h;omega
def lvz (l:Lvl):Nat:=1+(l.vs.map fun _=>1).sum
def Tm.size:Tm→Nat
 | .mk _ _ n ls ks=>1+n.length+(ls.map lvz).sum+(ks.attach.map fun k=>Tm.size k.1).sum
termination_by t=>SizeOf.sizeOf t
decreasing_by
 have:=List.sizeOf_lt_of_mem k.2
 simp only [Tm.mk.sizeOf_spec];omega
theorem Tm.size_eq (t:Tm):t.size=1+t.name.length+(t.levels.map lvz).sum+(t.kids.map Tm.size).sum:=by
 cases t
 rw [Tm.size,List.attach_map_val];rfl
theorem YA {t k:Tm} (h:k∈t.kids):k.size < t.size:=by
 have:=Zc Tm.size h
 rw [t.size_eq];omega
theorem Tm.ind {C:Tm→Prop} (h:∀ t:Tm,(∀ k∈t.kids,C k)→C t) (t:Tm):C t:=by
 have:∀ n (t:Tm),t.size≤n→C t:=by
  intro n
  induction n with
  | zero=>intro t ht;rw [t.size_eq] at ht;omega
  | succ n ih=>exact fun t ht=>h t fun k hk=>ih k (by have:=YA hk;omega)
 exact this _ t (Nat.le_refl _)
theorem Gn (t:Tm):t.kids.length < t.size:=by
 rw [t.size_eq]
 have:∀ l:List Tm,l.length≤(l.map Tm.size).sum:=by
  intro l
  induction l with
  | nil=>exact Nat.le_refl _
  | cons x l ih =>
   rw [List.map_cons,List.sum_cons,List.length_cons]
   have:=x.size_eq
   omega
 have:=this t.kids
 omega
theorem sum_split {α:Type} (f:α→Nat) (a:List α) (x:α) (b:List α):((a++x::b).map f).sum=(a.map f).sum+f x+(b.map f).sum:=by simp;omega
theorem WY (a b:Bs):(a==b)=decide (a=b):=by
 by_cases h:a=b
 ·rw [decide_eq_true h];exact beq_iff_eq.2 h
 ·rw [decide_eq_false h,Bool.eq_false_iff];exact fun h'=>h (beq_iff_eq.1 h')
theorem m77_eq (l:List Bs) (s:Bs) (h:l.length≤900000000):m77 l s=some (decide (s∈l)):=by
 unfold m77
 obtain ⟨r,e,h2⟩:=Y3 (step:=m77_l0 l s) l (fun i (_:Unit)=>i) (fun a _=>s∉a) (fun r=>(r=.inl ()∧s∉l)∨(r=.inr true∧s∈l)) h
  (fun a x b _ hl hs=>by
   unfold m77_l0
   rw [hl,JS,JF]
   simp only [cond_true,Option.bind_some,WY]
   by_cases e:x=s
   ·subst e
    exact .inl ⟨.inr true,by simp,.inr ⟨rfl,by simp⟩⟩
   ·refine .inr ⟨(),by simp [e],?_⟩
    intro h'
    rcases List.mem_append.1 h' with h' | h'
    ·exact hs h'
    ·exact e (List.mem_singleton.1 h').symm)
  (fun _ hs=>⟨.inl (),by unfold m77_l0;rw [J9];rfl,.inl ⟨rfl,hs⟩⟩) () (by simp)
 rw [e]
 rcases h2 with ⟨rfl,h2⟩ | ⟨rfl,h2⟩
 ·simp [h2]
 ·simp [h2]
theorem m33_eq (l:List Bs) (s:Bs) (h:l.length≤900000000):UB l s=some (decide (s∈l)):=m77_eq l s h
end Go.Proofs.Ytafddfoefeploaa
namespace Go.Proofs.Ytafddfoefeploaa
open Go.RowKit
def Tr.size:Tr→Nat
 | .mk _ b _ brs=>1+b.size+(brs.attach.map fun x=>1+x.1.ctor.length+Tr.size x.1.tree).sum
termination_by t=>SizeOf.sizeOf t
decreasing_by
 have h1:=List.sizeOf_lt_of_mem x.2
 have h2:=BrF.tree_lt x.1
 simp only [Tr.mk.sizeOf_spec];omega
def bsz (b:Br):Nat:=1+b.ctor.length+b.tree.size
theorem Tr.size_eq (t:Tr):t.size=1+t.body.size+(t.branches.map bsz).sum:=by
 cases t with
 | mk k b v brs =>
  rw [Tr.size]
  show _=1+b.size+(brs.map bsz).sum
  rw [← List.attach_map_val (l:=brs) (f:=bsz)];rfl
theorem Tr.kid_size {t:Tr} {b:Br} (h:b∈t.branches):b.tree.size < t.size:=by
 have:=Zc bsz h
 have e:bsz b=1+b.ctor.length+b.tree.size:=rfl
 rw [t.size_eq];omega
theorem ZL {α:Type} (g:α→Nat) (hg:∀ x,1≤g x):∀ l:List α,l.length≤(l.map g).sum
 | []=>Nat.le_refl _
 | x::l=>by
  rw [List.map_cons,List.sum_cons,List.length_cons]
  have:=hg x
  have:=ZL g hg l
  omega
theorem branches_len (t:Tr):t.branches.length < t.size:=by
 have:=ZL bsz (fun b=>by unfold bsz;omega) t.branches
 rw [t.size_eq];omega
def csz (c:Ctr):Nat:=1+c.name.length+c.ty.size
def fsz (f:Fn):Nat:=1+f.name.length+f.ty.size+f.tree.size
def Dcl.size (d:Dcl):Nat:=1+d.name.length+d.ty.size+d.value.size+(d.ctors.map csz).sum+d.rcr.ty.size+(d.rcr.rules.map Tm.size).sum+(d.funs.map fsz).sum
theorem YK (d:Dcl):d.ctors.length < d.size:=by
 have:=ZL csz (fun b=>by unfold csz;omega) d.ctors
 unfold Dcl.size;omega
theorem Zx (d:Dcl):d.funs.length < d.size:=by
 have:=ZL fsz (fun b=>by unfold fsz;omega) d.funs
 unfold Dcl.size;omega
theorem rules_len (d:Dcl):d.rcr.rules.length < d.size:=by
 have:=ZL Tm.size (fun b=>by rw [b.size_eq];omega) d.rcr.rules
 unfold Dcl.size;omega
def Je (d:Dcl):List Bs :=
 if d.kind=0∨d.kind=1∨d.kind=2 then [d.name] else
 if d.kind=3 then (d.name::d.ctors.map (·.name))++[d.name++[46,114,101,99]] else
 if d.kind=4 then d.funs.map (·.name) else []
theorem G8 (d:Dcl):(Je d).length≤d.size+1:=by
 have h1:=YK d
 have h2:=Zx d
 unfold Je
 split
 ·simp
 ·split
  ·simp;omega
  ·split
   ·simp;omega
   ·simp
theorem Z2 {α:Type} (f:α→Bs):∀ (l:List α) (s:List Bs),l.foldl (fun s x=>s++[f x]) s=s++l.map f
 | [],s=>by simp
 | x::l,s=>by rw [List.foldl_cons,Z2 f l];simp
theorem kinds_eq (k:Int):(cond (k==0) (some (k==0)) (cond (k==1) (some (k==1)) (some (k==2))))=some (decide (k=0∨k=1∨k=2)):=by
 by_cases h0:k=0
 ·subst h0;rfl
 ·by_cases h1:k=1
  ·subst h1;rfl
  ·by_cases h2:k=2
   ·subst h2;rfl
   ·simp [Yk,h0,h1,h2]
theorem m20_eq (d:Dcl) (h:d.size≤900000000):De d=some (Je d):=by
 have h1:=YK d
 have h2:=Zx d
 have hn:d.name.length < d.size:=by unfold Dcl.size;omega
 unfold De
 rw [kinds_eq,Option.bind_some]
 unfold Je
 by_cases hk:d.kind=0∨d.kind=1∨d.kind=2
 ·rw [if_pos hk,decide_eq_true hk];rfl
 rw [if_neg hk,decide_eq_false hk]
 by_cases h3:d.kind=3
 ·rw [if_pos h3,h3,loop_fold (step:=XG d) d.ctors (fun i (s:List Bs)=>(s,i)) (fun s c=>s++[c.name]) [d.name] ((d.name::d.ctors.map (·.name))) (by omega)
   (fun a x b hl=>by
    rw [Z2]
    unfold XG
    dsimp only
    have:a.length < d.ctors.length:=GP hl
    rw [hl,JS,JF]
    simp only [cond_true,Option.bind_some]
    rw [JI (by simp;omega)])
   (by unfold XG;dsimp only;rw [J9,Z2];rfl)]
  simp only [cond_false,Option.bind_some,beq_self_eq_true,cond_true]
  rw [JI (by simp),JI (by simp;omega),JI (by simp;omega)]
 rw [if_neg h3,show (d.kind==3)=false from beq_eq_false_iff_ne.2 h3]
 by_cases h4:d.kind=4
 ·rw [if_pos h4,h4,loop_fold (step:=XF d) d.funs (fun i (s:List Bs)=>(s,i)) (fun s c=>s++[c.name]) [] (d.funs.map (·.name)) (by omega)
   (fun a x b hl=>by
    rw [Z2]
    unfold XF
    dsimp only
    have:a.length < d.funs.length:=GP hl
    rw [hl,JS,JF]
    simp only [cond_true,Option.bind_some]
    rw [JI (by simp;omega)])
   (by unfold XF;dsimp only;rw [J9,Z2];rfl)]
  rfl
 rw [if_neg h4,show (d.kind==4)=false from beq_eq_false_iff_ne.2 h4];rfl
theorem Wj (d:Dcl) (h:d.size≤900000000):Dd d=some (Je d):=by
 have h1:=YK d
 have h2:=Zx d
 have hn:d.name.length < d.size:=by unfold Dcl.size;omega
 unfold Dd
 rw [kinds_eq,Option.bind_some]
 unfold Je
 by_cases hk:d.kind=0∨d.kind=1∨d.kind=2
 ·rw [if_pos hk,decide_eq_true hk];rfl
 rw [if_neg hk,decide_eq_false hk]
 by_cases h3:d.kind=3
 ·rw [if_pos h3,h3,loop_fold (step:=m23_l0 d) d.ctors (fun i (s:List Bs)=>(s,i)) (fun s c=>s++[c.name]) [d.name] ((d.name::d.ctors.map (·.name))) (by omega)
   (fun a x b hl=>by
    rw [Z2]
    unfold m23_l0
    dsimp only
    have:a.length < d.ctors.length:=GP hl
    rw [hl,JS,JF]
    simp only [cond_true,Option.bind_some]
    rw [JI (by simp;omega)])
   (by unfold m23_l0;dsimp only;rw [J9,Z2];rfl)]
  simp only [cond_false,Option.bind_some,beq_self_eq_true,cond_true]
  rw [JI (by simp;omega),JI (by simp;omega)]
 rw [if_neg h3,show (d.kind==3)=false from beq_eq_false_iff_ne.2 h3]
 by_cases h4:d.kind=4
 ·rw [if_pos h4,h4,loop_fold (step:=m23_l1 d) d.funs (fun i (s:List Bs)=>(s,i)) (fun s c=>s++[c.name]) [] (d.funs.map (·.name)) (by omega)
   (fun a x b hl=>by
    rw [Z2]
    unfold m23_l1
    dsimp only
    have:a.length < d.funs.length:=GP hl
    rw [hl,JS,JF]
    simp only [cond_true,Option.bind_some]
    rw [JI (by simp;omega)])
   (by unfold m23_l1;dsimp only;rw [J9,Z2];rfl)]
  rfl
 rw [if_neg h4,show (d.kind==4)=false from beq_eq_false_iff_ne.2 h4];rfl
def K8 (d:Dcl):List Tm:=[d.ty,d.value]++d.ctors.map (·.ty)++[d.rcr.ty]++d.rcr.rules++d.funs.map (·.ty)
theorem sum_le {α:Type} (f g:α→Nat) (h:∀ x,f x≤g x):∀ l:List α,(l.map f).sum≤(l.map g).sum
 | []=>Nat.le_refl _
 | x::l=>by
  simp only [List.map_cons,List.sum_cons]
  have:=h x
  have:=sum_le f g h l
  omega
theorem terms_sum (d:Dcl):((K8 d).map Tm.size).sum+(d.funs.map fun f=>f.tree.size).sum < d.size:=by
 unfold K8 Dcl.size
 simp only [List.map_append,List.map_cons,List.map_nil,List.sum_append,List.sum_cons,List.sum_nil,List.map_map]
 have h1:=sum_le (Tm.size ∘ fun c:Ctr=>c.ty) csz (fun c=>by show c.ty.size≤csz c;unfold csz;omega) d.ctors
 have h2:(d.funs.map (Tm.size ∘ fun f:Fn=>f.ty)).sum+(d.funs.map fun f=>f.tree.size).sum≤(d.funs.map fsz).sum:=by
  induction d.funs with
  | nil=>exact Nat.le_refl _
  | cons f l ih =>
   simp only [List.map_cons,List.sum_cons]
   have:fsz f=1+f.name.length+f.ty.size+f.tree.size:=rfl
   have:(Tm.size ∘ fun f:Fn=>f.ty) f=f.ty.size:=rfl
   omega
 omega
theorem G5 {d:Dcl} {t:Tm} (h:t∈K8 d):t.size < d.size:=by
 have:=Zc Tm.size h
 have:=terms_sum d
 omega
theorem fun_mem {d:Dcl} {f:Fn} (h:f∈d.funs):f.tree.size < d.size:=by
 have:=Zc (fun f:Fn=>f.tree.size) h
 have:=terms_sum d
 omega
end Go.Proofs.Ytafddfoefeploaa
namespace Go.Proofs.Ytafddfoefeploaa
open Go.RowKit Go.Shelf
theorem JW:Jn Try.prog 22=some (45,23):=by kernel_rfl
theorem Uf:KP Try.prog 9=true:=by kernel_rfl
theorem en_9:J4 Try.prog 9:=enters_of Try.func9 (by kernel_rfl) rfl
theorem en_21:J4 Try.prog 21:=enters_of Try.func21 (by kernel_rfl) rfl
theorem en_37:J4 Try.prog 37:=enters_of Try.func37 (by kernel_rfl) rfl
theorem en_38:J4 Try.prog 38:=enters_of Try.func38 (by kernel_rfl) rfl
theorem en_55:J4 Try.prog 55:=enters_of Try.func55 (by kernel_rfl) rfl
theorem en_56:J4 Try.prog 56:=enters_of Try.func56 (by kernel_rfl) rfl
def KZ (a0:Tm) (rc:Tm→Option Int) (s1:Int×Int):Option (LO (Int×Int) Int) :=
 cond (decide (s1.2 < (a0.kids.length:Int)))
   (Option.bind (Jx a0.kids s1.2) fun (x3:Tm) =>
 Option.bind (rc x3) fun (x4:Int) =>
 some (.next ((Ja (s1.1+x4)),(Ja (s1.2+1)))))
   (some (.done s1.1))
def Ua (rc:Tm→Option Int) (a0:Tm):Option Int :=
 Option.bind (Qq (KZ a0 rc) QI (1,0)) (fun (o1:Int)=>some o1)
def Ub (rc:Tm→Option Int) (u:Tm):Option Int:=Ua rc u
def Db (a0:Tm):Option Int:=JE Ub QI a0
theorem m55s_ok (rc:Tm→Option Int) (H:∀ (a0:Tm) (r:Int),rc a0=some r→Fun Try.prog 55 [.agg (DZ a0)] (QP [.one (DW r)])) (a0:Tm) (r:Int) (h0:Ua rc a0=some r):Fun Try.prog 55 [.agg (DZ a0)] (QP [.one (DW r)]):=by
 unfold Ua at h0
 refine QS 9 21 Try.func55 Z en_55 Z (DM Z) (fun S w=>?_)
 simp only [Jb]
 refine Q6<|Q0<|Q9 Z Z (DM Z) (QV Z)<|DF Z Z Z<|Q3<|Q4<|Q6<|Q0<|DF Z Z Z<|Q3<|Q4<|Q6<|Q6<|Q0 ?_
 refine DF Z Z Z<|Q3<|Q4<|Qh ?_
 refine J2 0 (fun (o1:Int)=>⟨[(3,.v (.one (DW o1)))],[(0,.cells 33 (DZ a0))],[],1,21,[]⟩) (fun (o1:Int)=>(some o1)=some r) ?_ ?_
 refine Qd h0 (fun o2 hl1 h0=>?_)
 refine J1 (KZ a0 rc) (fun s1=>⟨[(1,.v (.one (.ptr 0 0))),(3,.v (.one (DW s1.1))),(4,.v (.one (DW s1.2)))],[(0,.cells 33 (DZ a0))],[],1,21,[]⟩) (1,0) o2 (DA (Nat.zero_le _) Z Z Z Z Z) hl1 (fun s1 n1 oo1 h1 ho1=>?_)
 unfold KZ at h1
 refine Q6<|Q6<|Q0<|DE Z Z Z<|DD Z Z Z (Q2 JJ Z)<|DD Z Z Z (Q5 Yj Z Z Z)<|DD Z Z Z (QD (α:=Tm) JC Z (.d _))<|DD Z Z Z (Q8 Z Z Z)<|Q3<|Q4 ?_
 refine Qg (b:=(decide (s1.2 < (a0.kids.length:Int)))) Z (fun c3=>?_) (fun c3=>?_)
 replace h1:=Qi c3 h1
 refine Qn<|Q4<|Q6<|Qh<|Q0<|DE Z Z Z<|DD Z Z Z (Q2 JJ Z)<|DD Z Z Z (Q5 Yj Z Z Z)<|DE Z Z Z ?_
 refine Qd h1 (fun x4 hx4 h1=>?_)
 refine DD Z Z Z (Qy (α:=Tm) JC Z (.d _) Z hx4)<|DD Z Z Z (Qt (x4:Tm) QX Z) ?_
 refine Qd h1 (fun x5 hx5 h1=>?_)
 refine Q9 Z Z (DM Z) (Qo (H x4 x5 hx5) Z (.cons (.agg (.cons (.d _) (.cons (.d _) (.cons (.d _) (.cons (.d _) (.cons (.d _) .nil)))))) .nil))<|DD Z Z Z (Q8 Z Z Z)<|DF Z Z Z<|Q3<|Qf<|Q4<|Q0<|DE Z Z Z<|DD Z Z Z (Q8 Z Z Z)<|DF Z Z Z<|Q3 ?_
 have e:=DB h1;subst e
 refine QW ((Ja (s1.1+x5)),(Ja (s1.2+1))) (DA (Nat.zero_le _) Z Z Z Z Z) ho1
 replace h1:=Qj c3 h1
 refine J8<|Qr<|Qr ?_
 have e:=DB h1;subst e
 have e_:_=_:=ho1
 subst e_
 exact J0 s1.1 (DA (Nat.zero_le _) Z Z Z Z Z) h0
 intro o1 h0
 refine QQ<|Q4<|Q6<|Q0<|DE Z Z Z<|DF Z Z Z<|Q3<|Q4<|QE ?_
 have e:=DB h0;subst e
 exact QJ (fun _ _ h=>h) Z (QB Z .nil) (.cons (.one (.d _)) .nil)
theorem m55_all (n:Nat) (u:Tm) (r:Int) (h0:JE Ub n u=some r):Fun Try.prog 55 [.agg (DZ u)] (QP [.one (DW r)]) :=
 Z9 (C:=fun u r=>Fun Try.prog 55 [.agg (DZ u)] (QP [.one (DW r)])) (fun rc H u r h=>m55s_ok rc (fun a0 r h=>H a0 r h) u r h) n u r h0
theorem m55_ok (a0:Tm) (r:Int) (h0:Db a0=some r):Fun Try.prog 55 [.agg (DZ a0)] (QP [.one (DW r)]):=m55_all QI a0 r h0
def Wf (a0:Tm) (rc:Tm→Option Int) (s1:Int×Int):Option (LO (Int×Int) Int) :=
 cond (decide (s1.2 < (a0.kids.length:Int)))
   (Option.bind (Jx a0.kids s1.2) fun (x3:Tm) =>
 Option.bind (rc x3) fun (x4:Int) =>
 some (.next ((max s1.1 x4),(Ja (s1.2+1)))))
   (some (.done s1.1))
def Up (rc:Tm→Option Int) (a0:Tm):Option Int :=
 Option.bind (Qq (Wf a0 rc) QI (0,0)) (fun (o1:Int)=>some (Ja (o1+1)))
def UI (rc:Tm→Option Int) (u:Tm):Option Int:=Up rc u
def m56 (a0:Tm):Option Int:=JE UI QI a0
theorem m56s_ok (rc:Tm→Option Int) (H:∀ (a0:Tm) (r:Int),rc a0=some r→Fun Try.prog 56 [.agg (DZ a0)] (QP [.one (DW r)])) (a0:Tm) (r:Int) (h0:Up rc a0=some r):Fun Try.prog 56 [.agg (DZ a0)] (QP [.one (DW r)]):=by
 unfold Up at h0
 refine QS 9 22 Try.func56 Z en_56 Z (DM Z) (fun S w=>?_)
 simp only [Jb]
 refine Q6<|Q0<|Q9 Z Z (DM Z) (QV Z)<|DF Z Z Z<|Q3<|Q4<|Q6<|Q0<|DF Z Z Z<|Q3<|Q4<|Q6<|Q6<|Q0 ?_
 refine DF Z Z Z<|Q3<|Q4<|Qh ?_
 refine J2 0 (fun (o1:Int)=>⟨[(3,.v (.one (DW o1)))],[(0,.cells 33 (DZ a0))],[],1,22,[]⟩) (fun (o1:Int)=>(some (Ja (o1+1)))=some r) ?_ ?_
 refine Qd h0 (fun o2 hl1 h0=>?_)
 refine J1 (Wf a0 rc) (fun s1=>⟨[(1,.v (.one (.ptr 0 0))),(3,.v (.one (DW s1.1))),(4,.v (.one (DW s1.2)))],[(0,.cells 33 (DZ a0))],[],1,22,[]⟩) (0,0) o2 (DA (Nat.zero_le _) Z Z Z Z Z) hl1 (fun s1 n1 oo1 h1 ho1=>?_)
 unfold Wf at h1
 refine Q6<|Q6<|Q0<|DE Z Z Z<|DD Z Z Z (Q2 JJ Z)<|DD Z Z Z (Q5 Yj Z Z Z)<|DD Z Z Z (QD (α:=Tm) JC Z (.d _))<|DD Z Z Z (Q8 Z Z Z)<|Q3<|Q4 ?_
 refine Qg (b:=(decide (s1.2 < (a0.kids.length:Int)))) Z (fun c3=>?_) (fun c3=>?_)
 replace h1:=Qi c3 h1
 refine Qn<|Q4<|Q6<|Qh<|Q0<|DE Z Z Z<|DD Z Z Z (Q2 JJ Z)<|DD Z Z Z (Q5 Yj Z Z Z)<|DE Z Z Z ?_
 refine Qd h1 (fun x4 hx4 h1=>?_)
 refine DD Z Z Z (Qy (α:=Tm) JC Z (.d _) Z hx4)<|DD Z Z Z (Qt (x4:Tm) QX Z) ?_
 refine Qd h1 (fun x5 hx5 h1=>?_)
 refine Q9 Z Z (DM Z) (Qo (H x4 x5 hx5) Z (.cons (.agg (.cons (.d _) (.cons (.d _) (.cons (.d _) (.cons (.d _) (.cons (.d _) .nil)))))) .nil))<|DD Z Z Z (GH Z Z)<|DF Z Z Z<|Q3<|Qf<|Q4<|Q0<|DE Z Z Z<|DD Z Z Z (Q8 Z Z Z)<|DF Z Z Z<|Q3 ?_
 have e:=DB h1;subst e
 refine QW ((max s1.1 x5),(Ja (s1.2+1))) (DA (Nat.zero_le _) Z Z Z Z Z) ho1
 replace h1:=Qj c3 h1
 refine J8<|Qr<|Qr ?_
 have e:=DB h1;subst e
 have e_:_=_:=ho1
 subst e_
 exact J0 s1.1 (DA (Nat.zero_le _) Z Z Z Z Z) h0
 intro o1 h0
 refine QQ<|Q4<|Q6<|Q0<|DE Z Z Z<|DD Z Z Z (Q8 Z Z Z)<|DF Z Z Z<|Q3<|Q4<|QE ?_
 have e:=DB h0;subst e
 exact QJ (fun _ _ h=>h) Z (QB Z .nil) (.cons (.one (.d _)) .nil)
theorem m56_all (n:Nat) (u:Tm) (r:Int) (h0:JE UI n u=some r):Fun Try.prog 56 [.agg (DZ u)] (QP [.one (DW r)]) :=
 Z9 (C:=fun u r=>Fun Try.prog 56 [.agg (DZ u)] (QP [.one (DW r)])) (fun rc H u r h=>m56s_ok rc (fun a0 r h=>H a0 r h) u r h) n u r h0
theorem m56_ok (a0:Tm) (r:Int) (h0:m56 a0=some r):Fun Try.prog 56 [.agg (DZ a0)] (QP [.one (DW r)]):=m56_all QI a0 r h0
def UL (a0:Tm):Option Bool :=
 Option.bind (Option.bind (Db a0) fun (x2:Int) =>
 cond (decide (x2≤400))
   (Option.bind (m56 a0) fun (x4:Int) =>
 some (decide (x4≤150)))
   (some false)) (fun (v1:Bool)=>some v1)
theorem XE (a0:Tm) (r:Bool) (h0:UL a0=some r):Fun Try.prog 37 [.agg (DZ a0)] (QP [.one (DX r)]):=by
 unfold UL at h0
 refine QS 9 11 Try.func37 Z en_37 Z (DM Z) (fun S w=>?_)
 simp only [Jb]
 refine Q6<|Q0<|Q9 Z Z (DM Z) (QV Z)<|DF Z Z Z<|Q3<|Q4<|Q6 ?_
 refine QO (fun (v1:Bool)=>⟨[(2,.v (.one (DX v1)))],[(0,.cells 33 (DZ a0))],[],1,11,[]⟩) (fun (v1:Bool)=>(some v1)=some r) ?_ ?_
 refine Qd h0 (fun w1_ h1 h0=>?_)
 refine Q0<|DD Z Z Z (QM (a0:Tm) QX Z Z) ?_
 refine Qd h1 (fun x2 hx2 h1=>?_)
 refine Q9 Z Z (DM Z) (Qo (m55_ok a0 x2 hx2) Z (.cons (.agg (.cons (.d _) (.cons (.d _) (.cons (.d _) (.cons (.d _) (.cons (.d _) .nil)))))) .nil))<|DD Z Z Z (Q8 Z Z Z)<|DE Z Z Z ?_
 refine QA (d:=6) (c:=(decide (x2≤400))) Z (fun c3=>?_) (fun c3=>?_)
 replace h1:=Qi c3 h1
 refine DD Z Z Z (QM (a0:Tm) QX Z Z) ?_
 refine Qd h1 (fun x4 hx4 h1=>?_)
 refine Q9 Z Z (DM Z) (Qo (m56_ok a0 x4 hx4) Z (.cons (.agg (.cons (.d _) (.cons (.d _) (.cons (.d _) (.cons (.d _) (.cons (.d _) .nil)))))) .nil))<|DD Z Z Z (Q8 Z Z Z)<|DD Z Z Z (Qe Z Z)<|DF Z Z Z<|Q3 ?_
 have e:=DB h1;subst e
 exact Qb (decide (x4≤150)) (DA (Nat.zero_le _) Z Z Z Z Z) h0
 replace h1:=Qj c3 h1
 refine Q7 Z Z<|Q7 Z Z<|Q7 Z Z<|DD Z Z Z (Qa Z Z)<|DF Z Z Z<|Q3 ?_
 have e:=DB h1;subst e
 exact Qb false (DA (Nat.zero_le _) Z Z Z Z Z) h0
 intro v1 h0
 refine Q4<|QE ?_
 have e:=DB h0;subst e
 exact QJ (fun _ _ h=>h) Z (QB Z .nil) (.cons (.one (.d _)) .nil)
def XD (a0:Tr) (rc:Tr×Int→Option Bool) (a1:Int) (s1:Int):Option (LO Int (Unit⊕Bool)) :=
 cond (decide (s1 < (a0.branches.length:Int)))
   (Option.bind (Option.bind (Jx a0.branches s1) fun (x6:Br) =>
 Option.bind (rc (x6.tree,(Ja (a1+1)))) fun (x7:Bool) =>
 cond (!x7)
   (some true)
   (Option.bind (Jx a0.branches s1) fun (x9:Br) =>
 some (decide (200 < (x9.ctor.length:Int))))) (fun (v5:Bool)=>cond v5
   (some (.done (.inr false)))
   (some (.next (Ja (s1+1))))))
   (some (.done (.inl ())))
def UJ (rc:Tr×Int→Option Bool) (a0:Tr) (a1:Int):Option Bool :=
 Option.bind (cond (decide (40 < a1))
   (some true)
   (cond (decide (40 < (a0.branches.length:Int)))
   (some true)
   (Option.bind (UL a0.body) fun (x4:Bool) =>
 some (!x4)))) (fun (v1:Bool)=>cond v1
   (some false)
   (Option.bind (Qq (XD a0 rc a1) QI 0) (Sum.elim (fun (o3:Unit)=>some true) (fun o=>some o))))
def UK (rc:Tr×Int→Option Bool) (u:Tr×Int):Option Bool:=UJ rc u.1 u.2
def m38 (a0:Tr) (a1:Int):Option Bool:=JE UK QI (a0,a1)
theorem m38s_ok (rc:Tr×Int→Option Bool) (H:∀ (a0:Tr) (a1:Int) (r:Bool),rc (a0,a1)=some r→Fun Try.prog 38 [.agg (DZ a0),.one (DW a1)] (QP [.one (DX r)])) (a0:Tr) (a1:Int) (r:Bool) (h0:UJ rc a0 a1=some r):Fun Try.prog 38 [.agg (DZ a0),.one (DW a1)] (QP [.one (DX r)]):=by
 unfold UJ at h0
 refine QS 9 47 Try.func38 Z en_38 Z (DM Z) (fun S w=>?_)
 simp only [Jb]
 refine Q6<|Q0<|Q9 Z Z (DM Z) (QV Z)<|DF Z Z Z<|Q3<|Q4<|Q6<|Q6 ?_
 refine QO (fun (v1:Bool)=>⟨[(1,.v (.one (DW a1))),(2,.v (.one (.ptr 0 0))),(19,.v (.one (DX v1)))],[(0,.cells 74 (DZ a0))],[],1,47,[]⟩) (fun (v1:Bool)=>(cond v1
     (some false)
     (Option.bind (Qq (XD a0 rc a1) QI 0) (Sum.elim (fun (o3:Unit)=>some true) (fun o=>some o))))=some r) ?_ ?_
 refine Qd h0 (fun w1_ h1 h0=>?_)
 refine Q0<|DE Z Z Z<|DD Z Z Z (Q8 Z Z Z)<|DE Z Z Z ?_
 refine QA (d:=8) (c:=(decide (40 < a1))) Z (fun c2=>?_) (fun c2=>?_)
 replace h1:=Qi c2 h1
 refine Q7 Z Z<|Q7 Z Z<|Q7 Z Z<|Q7 Z Z<|DD Z Z Z (Qe Z Z)<|DE Z Z Z<|Q7 Z Z<|Q7 Z Z<|Q7 Z Z<|Q7 Z Z<|DD Z Z Z (Qe Z Z)<|Q3 ?_
 have e:=DB h1;subst e
 exact Qb true (DA (Nat.zero_le _) Z Z Z Z Z) h0
 replace h1:=Qj c2 h1
 refine DD Z Z Z (Q2 KR Z)<|DD Z Z Z (Q5 Wu Z Z Z)<|DD Z Z Z (QD (α:=Br) XP Z (.d _))<|DD Z Z Z (Q8 Z Z Z)<|DD Z Z Z (Qa Z Z)<|DE Z Z Z ?_
 refine QA (d:=14) (c:=(decide (40 < (a0.branches.length:Int)))) Z (fun c3=>?_) (fun c3=>?_)
 replace h1:=Qi c3 h1
 refine Q7 Z Z<|Q7 Z Z<|Q7 Z Z<|Q7 Z Z<|DD Z Z Z (Qe Z Z)<|Q3 ?_
 have e:=DB h1;subst e
 exact Qb true (DA (Nat.zero_le _) Z Z Z Z Z) h0
 replace h1:=Qj c3 h1
 refine DD Z Z Z (Q2 fo_74_1 Z)<|DD Z Z Z (Qk QX Z Z Z Z) ?_
 refine Qd h1 (fun x4 hx4 h1=>?_)
 refine Q9 Z Z (DM Z) (Qo (XE a0.body x4 hx4) Z (.cons (.agg (.cons (.d _) (.cons (.d _) (.cons (.d _) (.cons (.d _) (.cons (.d _) .nil)))))) .nil))<|DD Z Z Z (Jj Z)<|DD Z Z Z (Qa Z Z)<|Q3 ?_
 have e:=DB h1;subst e
 exact Qb (!x4) (DA (Nat.zero_le _) Z Z Z Z Z) h0
 intro v1 h0
 refine Q4 ?_
 refine Qg (b:=v1) Z (fun c5=>?_) (fun c5=>?_)
 replace h0:=Qi c5 h0
 refine Q6<|Q0<|DF Z Z Z<|Q3<|Q4<|QE ?_
 have e:=DB h0;subst e
 exact QJ (fun _ _ h=>h) Z (QB Z .nil) (.cons (.one (.d _)) .nil)
 replace h0:=Qj c5 h0
 refine Qn<|Q4<|Q6<|Q6<|Q0<|DF Z Z Z<|Q3<|Q4<|Qh ?_
 refine J2 0 (fun (o6:Unit)=>⟨[],[(0,.cells 74 (DZ a0))],[],1,47,[]⟩) (fun (o6:Unit)=>(some true)=some r) ?_ ?_
 refine Qd h0 (fun o7 hl1 h0=>?_)
 refine J1 (XD a0 rc a1) (fun s1=>⟨[(1,.v (.one (DW a1))),(2,.v (.one (.ptr 0 0))),(5,.v (.one (DW s1)))],[(0,.cells 74 (DZ a0))],[],1,47,[]⟩) 0 o7 (DA (Nat.zero_le _) Z Z Z Z Z) hl1 (fun s1 n1 oo1 h1 ho1=>?_)
 unfold XD at h1
 refine Q6<|Q6<|Q0<|DE Z Z Z<|DD Z Z Z (Q2 KR Z)<|DD Z Z Z (Q5 Wu Z Z Z)<|DD Z Z Z (QD (α:=Br) XP Z (.d _))<|DD Z Z Z (Q8 Z Z Z)<|Q3<|Q4 ?_
 refine Qg (b:=(decide (s1 < (a0.branches.length:Int)))) Z (fun c8=>?_) (fun c8=>?_)
 replace h1:=Qi c8 h1
 refine Qn<|Q4<|Q6<|Qh<|Q6 ?_
 refine QO (fun (v9:Bool)=>⟨[(1,.v (.one (DW a1))),(2,.v (.one (.ptr 0 0))),(5,.v (.one (DW s1))),(46,.v (.one (DX v9)))],[(0,.cells 74 (DZ a0))],[],1,47,[]⟩) (fun (v9:Bool)=>(cond v9
     (some (.done (.inr false)))
     (some (.next (Ja (s1+1)))))=some oo1) ?_ ?_
 refine Qd h1 (fun w2_ h2 h1=>?_)
 refine Q0<|DD Z Z Z (Q2 KR Z)<|DD Z Z Z (Q5 Wu Z Z Z)<|DE Z Z Z ?_
 refine Qd h2 (fun x10 hx10 h2=>?_)
 refine DD Z Z Z (Qy (α:=Br) XP Z (.d _) Z hx10)<|DD Z Z Z (YB fo_101_2 Z)<|DD Z Z Z (YR U8 Z Z Z)<|DE Z Z Z<|DD Z Z Z (Q8 Z Z Z) ?_
 refine Qd h2 (fun x11 hx11 h2=>?_)
 refine Q9 Z Z (DM Z) (Qo (H x10.tree (Ja (a1+1)) x11 hx11) Z (.cons (.agg (.cons (.d _) (.cons (.d _) (.cons (.d _) (.cons (.d _) (.cons (.d _) (.cons (.d _) (.cons (.d _) (.cons (.d _) .nil))))))))) (.cons (.one (.d _)) .nil)))<|DD Z Z Z (Jj Z)<|DE Z Z Z ?_
 refine QA (d:=37) (c:=(!x11)) Z (fun c12=>?_) (fun c12=>?_)
 replace h2:=Qi c12 h2
 refine Q7 Z Z<|Q7 Z Z<|Q7 Z Z<|Q7 Z Z<|Q7 Z Z<|Q7 Z Z<|Q7 Z Z<|Q7 Z Z<|DD Z Z Z (Qe Z Z)<|Q3 ?_
 have e:=DB h2;subst e
 exact Qb true (DA (Nat.zero_le _) Z Z Z Z Z) h1
 replace h2:=Qj c12 h2
 refine DD Z Z Z (Q2 KR Z)<|DD Z Z Z (Q5 Wu Z Z Z)<|DE Z Z Z ?_
 refine Qd h2 (fun x13 hx13 h2=>?_)
 refine DD Z Z Z (Qy (α:=Br) XP Z (.d _) Z hx13)<|DD Z Z Z (YB fo_101_0 Z)<|DD Z Z Z (Y1 JT Z Z)<|DD Z Z Z (GI Uf Z)<|DD Z Z Z (Q8 Z Z Z)<|DD Z Z Z (Qa Z Z)<|Q3 ?_
 have e:=DB h2;subst e
 exact Qb (decide (200 < (x13.ctor.length:Int))) (DA (Nat.zero_le _) Z Z Z Z Z) h1
 intro v9 h1
 refine Q4 ?_
 refine Qg (b:=v9) Z (fun c14=>?_) (fun c14=>?_)
 replace h1:=Qi c14 h1
 refine Q6<|Q0<|DF Z Z Z<|Q3<|Q4<|QE ?_
 have e:=DB h1;subst e
 have e_:_=_:=ho1
 subst e_
 try dsimp only [Sum.elim_inl,Sum.elim_inr] at h0
 have e:=DB h0;subst e
 exact QJ (fun _ _ h=>h) Z (QB Z .nil) (.cons (.one (.d _)) .nil)
 replace h1:=Qj c14 h1
 refine Qn<|Qf<|Q4<|Q0<|DE Z Z Z<|DD Z Z Z (Q8 Z Z Z)<|DF Z Z Z<|Q3 ?_
 have e:=DB h1;subst e
 refine QW (Ja (s1+1)) (DA (Nat.zero_le _) Z Z Z Z Z) ho1
 replace h1:=Qj c8 h1
 refine J8<|Qr<|Qr ?_
 have e:=DB h1;subst e
 have e_:_=_:=ho1
 subst e_
 exact J0 () (DA (Nat.zero_le _) Z Z Z Z Z) h0
 intro o6 h0
 refine QQ<|Q4<|Q6<|Q0<|DF Z Z Z<|Q3<|Q4<|QE ?_
 have e:=DB h0;subst e
 exact QJ (fun _ _ h=>h) Z (QB Z .nil) (.cons (.one (.d _)) .nil)
theorem m38_all (n:Nat) (u:Tr×Int) (r:Bool) (h0:JE UK n u=some r):Fun Try.prog 38 [.agg (DZ u.1),.one (DW u.2)] (QP [.one (DX r)]) :=
 Z9 (C:=fun u r=>Fun Try.prog 38 [.agg (DZ u.1),.one (DW u.2)] (QP [.one (DX r)])) (fun rc H u r h=>m38s_ok rc (fun a0 a1 r h=>H (a0,a1) r h) u.1 u.2 r h) n u r h0
theorem m38_ok (a0:Tr) (a1:Int) (r:Bool) (h0:m38 a0 a1=some r):Fun Try.prog 38 [.agg (DZ a0),.one (DW a1)] (QP [.one (DX r)]):=m38_all QI (a0,a1) r h0
def X0 (a0:Dcl) (s1:Int):Option (LO Int (Unit⊕Bool)) :=
 cond (decide (s1 < (a0.ctors.length:Int)))
   (Option.bind (Option.bind (Jx a0.ctors s1) fun (x6:Ctr) =>
 cond (decide (200 < (x6.name.length:Int)))
   (some true)
   (Option.bind (Jx a0.ctors s1) fun (x8:Ctr) =>
 Option.bind (UL x8.ty) fun (x9:Bool) =>
 some (!x9))) (fun (v5:Bool)=>cond v5
   (some (.done (.inr false)))
   (some (.next (Ja (s1+1))))))
   (some (.done (.inl ())))
def Gz (a0:Dcl) (s1:Int):Option (LO Int (Unit⊕Bool)) :=
 cond (decide (s1 < (a0.rcr.rules.length:Int)))
   (Option.bind (Jx a0.rcr.rules s1) fun (x6:Tm) =>
 Option.bind (UL x6) fun (x7:Bool) =>
 cond (!x7)
   (some (.done (.inr false)))
   (some (.next (Ja (s1+1)))))
   (some (.done (.inl ())))
def G2 (a0:Dcl) (s1:Int):Option (LO Int (Unit⊕Bool)) :=
 cond (decide (s1 < (a0.funs.length:Int)))
   (Option.bind (Option.bind (Jx a0.funs s1) fun (x8:Fn) =>
 cond (decide (200 < (x8.name.length:Int)))
   (some true)
   (Option.bind (Jx a0.funs s1) fun (x10:Fn) =>
 Option.bind (UL x10.ty) fun (x11:Bool) =>
 cond (!x11)
   (some true)
   (Option.bind (Jx a0.funs s1) fun (x13:Fn) =>
 Option.bind (m38 x13.tree 0) fun (x14:Bool) =>
 some (!x14)))) (fun (v7:Bool)=>cond v7
   (some (.done (.inr false)))
   (some (.next (Ja (s1+1))))))
   (some (.done (.inl ())))
def Dn (a0:Dcl):Option Bool :=
 Option.bind (cond (decide (200 < (a0.name.length:Int)))
   (some true)
   (Option.bind (UL a0.ty) fun (x3:Bool) =>
 cond (!x3)
   (some true)
   (Option.bind (UL a0.value) fun (x5:Bool) =>
 cond (!x5)
   (some true)
   (cond (decide (40 < (a0.ctors.length:Int)))
   (some true)
   (cond (decide (12 < (a0.funs.length:Int)))
   (some true)
   (Option.bind (UL a0.rcr.ty) fun (x9:Bool) =>
 cond (!x9)
   (some true)
   (some (decide (40 < (a0.rcr.rules.length:Int)))))))))) (fun (v1:Bool)=>cond v1
   (some false)
   (Option.bind (Qq (X0 a0) QI 0) (Sum.elim (fun (o3:Unit)=>Option.bind (Qq (Gz a0) QI 0) (Sum.elim (fun (o4:Unit)=>Option.bind (Qq (G2 a0) QI 0) (Sum.elim (fun (o5:Unit)=>some true) (fun o=>some o))) (fun o=>some o))) (fun o=>some o))))
theorem m21_ok (a0:Dcl) (r:Bool) (h0:Dn a0=some r):Fun Try.prog 21 [.agg (DZ a0)] (QP [.one (DX r)]):=by
 unfold Dn at h0
 refine QS 9 124 Try.func21 Z en_21 Z (DM Z) (fun S w=>?_)
 simp only [Jb]
 refine Q6<|Q0<|Q9 Z Z (DM Z) (QV Z)<|DF Z Z Z<|Q3<|Q4<|Q6<|Q6 ?_
 refine QO (fun (v1:Bool)=>⟨[(1,.v (.one (.ptr 0 0))),(47,.v (.one (DX v1)))],[(0,.cells 45 (DZ a0))],[],1,124,[]⟩) (fun (v1:Bool)=>(cond v1
     (some false)
     (Option.bind (Qq (X0 a0) QI 0) (Sum.elim (fun (o3:Unit)=>Option.bind (Qq (Gz a0) QI 0) (Sum.elim (fun (o4:Unit)=>Option.bind (Qq (G2 a0) QI 0) (Sum.elim (fun (o5:Unit)=>some true) (fun o=>some o))) (fun o=>some o))) (fun o=>some o))))=some r) ?_ ?_
 refine Qd h0 (fun w1_ h1 h0=>?_)
 refine Q0<|DD Z Z Z (Q2 Yb Z)<|DD Z Z Z (Q5 JT Z Z Z)<|DD Z Z Z (GI Uf Z)<|DD Z Z Z (Q8 Z Z Z)<|DE Z Z Z ?_
 refine QA (d:=10) (c:=(decide (200 < (a0.name.length:Int)))) Z (fun c2=>?_) (fun c2=>?_)
 replace h1:=Qi c2 h1
 refine Q7 Z Z<|Q7 Z Z<|Q7 Z Z<|Q7 Z Z<|DD Z Z Z (Qe Z Z)<|DE Z Z Z<|Q7 Z Z<|Q7 Z Z<|Q7 Z Z<|Q7 Z Z<|DD Z Z Z (Qe Z Z)<|DE Z Z Z<|Q7 Z Z<|Q7 Z Z ?_
 refine Q7 Z Z<|Q7 Z Z<|DD Z Z Z (Qe Z Z)<|DE Z Z Z<|Q7 Z Z<|Q7 Z Z<|Q7 Z Z<|Q7 Z Z<|DD Z Z Z (Qe Z Z)<|DE Z Z Z<|Q7 Z Z<|Q7 Z Z<|Q7 Z Z<|Q7 Z Z ?_
 refine Q7 Z Z<|DD Z Z Z (Qe Z Z)<|DE Z Z Z<|Q7 Z Z<|Q7 Z Z<|Q7 Z Z<|Q7 Z Z<|Q7 Z Z<|DD Z Z Z (Qe Z Z)<|Q3 ?_
 have e:=DB h1;subst e
 exact Qb true (DA (Nat.zero_le _) Z Z Z Z Z) h0
 replace h1:=Qj c2 h1
 refine DD Z Z Z (Q2 KU Z)<|DD Z Z Z (Qk QX Z Z Z Z) ?_
 refine Qd h1 (fun x3 hx3 h1=>?_)
 refine Q9 Z Z (DM Z) (Qo (XE a0.ty x3 hx3) Z (.cons (.agg (.cons (.d _) (.cons (.d _) (.cons (.d _) (.cons (.d _) (.cons (.d _) .nil)))))) .nil))<|DD Z Z Z (Jj Z)<|DD Z Z Z (Qa Z Z)<|DE Z Z Z ?_
 refine QA (d:=16) (c:=(!x3)) Z (fun c4=>?_) (fun c4=>?_)
 replace h1:=Qi c4 h1
 refine Q7 Z Z<|Q7 Z Z<|Q7 Z Z<|Q7 Z Z<|DD Z Z Z (Qe Z Z)<|DE Z Z Z<|Q7 Z Z<|Q7 Z Z<|Q7 Z Z<|Q7 Z Z<|DD Z Z Z (Qe Z Z)<|DE Z Z Z<|Q7 Z Z<|Q7 Z Z ?_
 refine Q7 Z Z<|Q7 Z Z<|DD Z Z Z (Qe Z Z)<|DE Z Z Z<|Q7 Z Z<|Q7 Z Z<|Q7 Z Z<|Q7 Z Z<|Q7 Z Z<|DD Z Z Z (Qe Z Z)<|DE Z Z Z<|Q7 Z Z<|Q7 Z Z<|Q7 Z Z ?_
 refine Q7 Z Z<|Q7 Z Z<|DD Z Z Z (Qe Z Z)<|Q3 ?_
 have e:=DB h1;subst e
 exact Qb true (DA (Nat.zero_le _) Z Z Z Z Z) h0
 replace h1:=Qj c4 h1
 refine DD Z Z Z (Q2 fo_45_4 Z)<|DD Z Z Z (Qk QX Z Z Z Z) ?_
 refine Qd h1 (fun x5 hx5 h1=>?_)
 refine Q9 Z Z (DM Z) (Qo (XE a0.value x5 hx5) Z (.cons (.agg (.cons (.d _) (.cons (.d _) (.cons (.d _) (.cons (.d _) (.cons (.d _) .nil)))))) .nil))<|DD Z Z Z (Jj Z)<|DD Z Z Z (Qa Z Z)<|DE Z Z Z ?_
 refine QA (d:=22) (c:=(!x5)) Z (fun c6=>?_) (fun c6=>?_)
 replace h1:=Qi c6 h1
 refine Q7 Z Z<|Q7 Z Z<|Q7 Z Z<|Q7 Z Z<|DD Z Z Z (Qe Z Z)<|DE Z Z Z<|Q7 Z Z<|Q7 Z Z<|Q7 Z Z<|Q7 Z Z<|DD Z Z Z (Qe Z Z)<|DE Z Z Z<|Q7 Z Z<|Q7 Z Z ?_
 refine Q7 Z Z<|Q7 Z Z<|Q7 Z Z<|DD Z Z Z (Qe Z Z)<|DE Z Z Z<|Q7 Z Z<|Q7 Z Z<|Q7 Z Z<|Q7 Z Z<|Q7 Z Z<|DD Z Z Z (Qe Z Z)<|Q3 ?_
 have e:=DB h1;subst e
 exact Qb true (DA (Nat.zero_le _) Z Z Z Z Z) h0
 replace h1:=Qj c6 h1
 refine DD Z Z Z (Q2 Yz Z)<|DD Z Z Z (Q5 ZY Z Z Z)<|DD Z Z Z (QD (α:=Ctr) YL Z (.d _))<|DD Z Z Z (Q8 Z Z Z)<|DD Z Z Z (Qa Z Z)<|DE Z Z Z ?_
 refine QA (d:=28) (c:=(decide (40 < (a0.ctors.length:Int)))) Z (fun c7=>?_) (fun c7=>?_)
 replace h1:=Qi c7 h1
 refine Q7 Z Z<|Q7 Z Z<|Q7 Z Z<|Q7 Z Z<|DD Z Z Z (Qe Z Z)<|DE Z Z Z<|Q7 Z Z<|Q7 Z Z<|Q7 Z Z<|Q7 Z Z<|Q7 Z Z<|DD Z Z Z (Qe Z Z)<|DE Z Z Z<|Q7 Z Z ?_
 refine Q7 Z Z<|Q7 Z Z<|Q7 Z Z<|Q7 Z Z<|DD Z Z Z (Qe Z Z)<|Q3 ?_
 have e:=DB h1;subst e
 exact Qb true (DA (Nat.zero_le _) Z Z Z Z Z) h0
 replace h1:=Qj c7 h1
 refine DD Z Z Z (Q2 YF Z)<|DD Z Z Z (Q5 K6 Z Z Z)<|DD Z Z Z (QD (α:=Fn) YT Z (.d _))<|DD Z Z Z (Q8 Z Z Z)<|DD Z Z Z (Qa Z Z)<|DE Z Z Z ?_
 refine QA (d:=34) (c:=(decide (12 < (a0.funs.length:Int)))) Z (fun c8=>?_) (fun c8=>?_)
 replace h1:=Qi c8 h1
 refine Q7 Z Z<|Q7 Z Z<|Q7 Z Z<|Q7 Z Z<|Q7 Z Z<|DD Z Z Z (Qe Z Z)<|DE Z Z Z<|Q7 Z Z<|Q7 Z Z<|Q7 Z Z<|Q7 Z Z<|Q7 Z Z<|DD Z Z Z (Qe Z Z)<|Q3 ?_
 have e:=DB h1;subst e
 exact Qb true (DA (Nat.zero_le _) Z Z Z Z Z) h0
 replace h1:=Qj c8 h1
 refine DD Z Z Z (Q2 JU Z)<|DD Z Z Z (Q2 GF Z)<|DD Z Z Z (Qk QX Z Z Z Z) ?_
 refine Qd h1 (fun x9 hx9 h1=>?_)
 refine Q9 Z Z (DM Z) (Qo (XE a0.rcr.ty x9 hx9) Z (.cons (.agg (.cons (.d _) (.cons (.d _) (.cons (.d _) (.cons (.d _) (.cons (.d _) .nil)))))) .nil))<|DD Z Z Z (Jj Z)<|DD Z Z Z (Qa Z Z)<|DE Z Z Z ?_
 refine QA (d:=41) (c:=(!x9)) Z (fun c10=>?_) (fun c10=>?_)
 replace h1:=Qi c10 h1
 refine Q7 Z Z<|Q7 Z Z<|Q7 Z Z<|Q7 Z Z<|Q7 Z Z<|DD Z Z Z (Qe Z Z)<|Q3 ?_
 have e:=DB h1;subst e
 exact Qb true (DA (Nat.zero_le _) Z Z Z Z Z) h0
 replace h1:=Qj c10 h1
 refine DD Z Z Z (Q2 JU Z)<|DD Z Z Z (Q2 GE Z)<|DD Z Z Z (Q5 Yj Z Z Z)<|DD Z Z Z (QD (α:=Tm) JC Z (.d _))<|DD Z Z Z (Q8 Z Z Z)<|DD Z Z Z (Qa Z Z)<|Q3 ?_
 have e:=DB h1;subst e
 exact Qb (decide (40 < (a0.rcr.rules.length:Int))) (DA (Nat.zero_le _) Z Z Z Z Z) h0
 intro v1 h0
 refine Q4 ?_
 refine Qg (b:=v1) Z (fun c11=>?_) (fun c11=>?_)
 replace h0:=Qi c11 h0
 refine Q6<|Q0<|DF Z Z Z<|Q3<|Q4<|QE ?_
 have e:=DB h0;subst e
 exact QJ (fun _ _ h=>h) Z (QB Z .nil) (.cons (.one (.d _)) .nil)
 replace h0:=Qj c11 h0
 refine Qn<|Q4<|Q6<|Q6<|Q0<|DF Z Z Z<|Q3<|Q4<|Qh ?_
 refine J2 0 (fun (o12:Unit)=>⟨[(1,.v (.one (.ptr 0 0)))],[(0,.cells 45 (DZ a0))],[],1,124,[]⟩) (fun (o12:Unit)=>(Option.bind (Qq (Gz a0) QI 0) (Sum.elim (fun (o13:Unit)=>Option.bind (Qq (G2 a0) QI 0) (Sum.elim (fun (o14:Unit)=>some true) (fun o=>some o))) (fun o=>some o)))=some r) ?_ ?_
 refine Qd h0 (fun o13 hl1 h0=>?_)
 refine J1 (X0 a0) (fun s1=>⟨[(1,.v (.one (.ptr 0 0))),(3,.v (.one (DW s1)))],[(0,.cells 45 (DZ a0))],[],1,124,[]⟩) 0 o13 (DA (Nat.zero_le _) Z Z Z Z Z) hl1 (fun s1 n1 oo1 h1 ho1=>?_)
 unfold X0 at h1
 refine Q6<|Q6<|Q0<|DE Z Z Z<|DD Z Z Z (Q2 Yz Z)<|DD Z Z Z (Q5 ZY Z Z Z)<|DD Z Z Z (QD (α:=Ctr) YL Z (.d _))<|DD Z Z Z (Q8 Z Z Z)<|Q3<|Q4 ?_
 refine Qg (b:=(decide (s1 < (a0.ctors.length:Int)))) Z (fun c14=>?_) (fun c14=>?_)
 replace h1:=Qi c14 h1
 refine Qn<|Q4<|Q6<|Qh<|Q6 ?_
 refine QO (fun (v15:Bool)=>⟨[(1,.v (.one (.ptr 0 0))),(3,.v (.one (DW s1))),(72,.v (.one (DX v15)))],[(0,.cells 45 (DZ a0))],[],1,124,[]⟩) (fun (v15:Bool)=>(cond v15
     (some (.done (.inr false)))
     (some (.next (Ja (s1+1)))))=some oo1) ?_ ?_
 refine Qd h1 (fun w2_ h2 h1=>?_)
 refine Q0<|DD Z Z Z (Q2 Yz Z)<|DD Z Z Z (Q5 ZY Z Z Z)<|DE Z Z Z ?_
 refine Qd h2 (fun x16 hx16 h2=>?_)
 refine DD Z Z Z (Qy (α:=Ctr) YL Z (.d _) Z hx16)<|DD Z Z Z (YB KT Z)<|DD Z Z Z (Y1 JT Z Z)<|DD Z Z Z (GI Uf Z)<|DD Z Z Z (Q8 Z Z Z)<|DE Z Z Z ?_
 refine QA (d:=63) (c:=(decide (200 < (x16.name.length:Int)))) Z (fun c17=>?_) (fun c17=>?_)
 replace h2:=Qi c17 h2
 refine Q7 Z Z<|Q7 Z Z<|Q7 Z Z<|Q7 Z Z<|Q7 Z Z<|Q7 Z Z<|Q7 Z Z<|Q7 Z Z<|DD Z Z Z (Qe Z Z)<|Q3 ?_
 have e:=DB h2;subst e
 exact Qb true (DA (Nat.zero_le _) Z Z Z Z Z) h1
 replace h2:=Qj c17 h2
 refine DD Z Z Z (Q2 Yz Z)<|DD Z Z Z (Q5 ZY Z Z Z)<|DE Z Z Z ?_
 refine Qd h2 (fun x18 hx18 h2=>?_)
 refine DD Z Z Z (Qy (α:=Ctr) YL Z (.d _) Z hx18)<|DD Z Z Z (YB KS Z)<|DD Z Z Z (YR QX Z Z Z) ?_
 refine Qd h2 (fun x19 hx19 h2=>?_)
 refine Q9 Z Z (DM Z) (Qo (XE x18.ty x19 hx19) Z (.cons (.agg (.cons (.d _) (.cons (.d _) (.cons (.d _) (.cons (.d _) (.cons (.d _) .nil)))))) .nil))<|DD Z Z Z (Jj Z)<|DD Z Z Z (Qa Z Z)<|Q3 ?_
 have e:=DB h2;subst e
 exact Qb (!x19) (DA (Nat.zero_le _) Z Z Z Z Z) h1
 intro v15 h1
 refine Q4 ?_
 refine Qg (b:=v15) Z (fun c20=>?_) (fun c20=>?_)
 replace h1:=Qi c20 h1
 refine Q6<|Q0<|DF Z Z Z<|Q3<|Q4<|QE ?_
 have e:=DB h1;subst e
 have e_:_=_:=ho1
 subst e_
 try dsimp only [Sum.elim_inl,Sum.elim_inr] at h0
 have e:=DB h0;subst e
 exact QJ (fun _ _ h=>h) Z (QB Z .nil) (.cons (.one (.d _)) .nil)
 replace h1:=Qj c20 h1
 refine Qn<|Qf<|Q4<|Q0<|DE Z Z Z<|DD Z Z Z (Q8 Z Z Z)<|DF Z Z Z<|Q3 ?_
 have e:=DB h1;subst e
 refine QW (Ja (s1+1)) (DA (Nat.zero_le _) Z Z Z Z Z) ho1
 replace h1:=Qj c14 h1
 refine J8<|Qr<|Qr ?_
 have e:=DB h1;subst e
 have e_:_=_:=ho1
 subst e_
 exact J0 () (DA (Nat.zero_le _) Z Z Z Z Z) h0
 intro o12 h0
 refine QQ<|Q4<|Q6<|Q6<|Q0<|DF Z Z Z<|Q3<|Q4<|Qh ?_
 refine J2 2 (fun (o21:Unit)=>⟨[(1,.v (.one (.ptr 0 0)))],[(0,.cells 45 (DZ a0))],[],1,124,[]⟩) (fun (o21:Unit)=>(Option.bind (Qq (G2 a0) QI 0) (Sum.elim (fun (o22:Unit)=>some true) (fun o=>some o)))=some r) ?_ ?_
 refine Qd h0 (fun o22 hl1 h0=>?_)
 refine J1 (Gz a0) (fun s1=>⟨[(1,.v (.one (.ptr 0 0))),(4,.v (.one (DW s1)))],[(0,.cells 45 (DZ a0))],[],1,124,[]⟩) 0 o22 (DA (Nat.zero_le _) Z Z Z Z Z) hl1 (fun s1 n1 oo1 h1 ho1=>?_)
 unfold Gz at h1
 refine Q6<|Q6<|Q0<|DE Z Z Z<|DD Z Z Z (Q2 JU Z)<|DD Z Z Z (Q2 GE Z)<|DD Z Z Z (Q5 Yj Z Z Z)<|DD Z Z Z (QD (α:=Tm) JC Z (.d _))<|DD Z Z Z (Q8 Z Z Z)<|Q3<|Q4 ?_
 refine Qg (b:=(decide (s1 < (a0.rcr.rules.length:Int)))) Z (fun c23=>?_) (fun c23=>?_)
 replace h1:=Qi c23 h1
 refine Qn<|Q4<|Q6<|Qh<|Q6<|Q0<|DD Z Z Z (Q2 JU Z)<|DD Z Z Z (Q2 GE Z)<|DD Z Z Z (Q5 Yj Z Z Z)<|DE Z Z Z ?_
 refine Qd h1 (fun x24 hx24 h1=>?_)
 refine DD Z Z Z (Qy (α:=Tm) JC Z (.d _) Z hx24)<|DD Z Z Z (Qt (x24:Tm) QX Z) ?_
 refine Qd h1 (fun x25 hx25 h1=>?_)
 refine Q9 Z Z (DM Z) (Qo (XE x24 x25 hx25) Z (.cons (.agg (.cons (.d _) (.cons (.d _) (.cons (.d _) (.cons (.d _) (.cons (.d _) .nil)))))) .nil))<|DD Z Z Z (Jj Z)<|Q3<|Q4 ?_
 refine Qg (b:=(!x25)) Z (fun c26=>?_) (fun c26=>?_)
 replace h1:=Qi c26 h1
 refine Q6<|Q0<|DF Z Z Z<|Q3<|Q4<|QE ?_
 have e:=DB h1;subst e
 have e_:_=_:=ho1
 subst e_
 try dsimp only [Sum.elim_inl,Sum.elim_inr] at h0
 have e:=DB h0;subst e
 exact QJ (fun _ _ h=>h) Z (QB Z .nil) (.cons (.one (.d _)) .nil)
 replace h1:=Qj c26 h1
 refine Qn<|Qf<|Q4<|Q0<|DE Z Z Z<|DD Z Z Z (Q8 Z Z Z)<|DF Z Z Z<|Q3 ?_
 have e:=DB h1;subst e
 refine QW (Ja (s1+1)) (DA (Nat.zero_le _) Z Z Z Z Z) ho1
 replace h1:=Qj c23 h1
 refine J8<|Qr<|Qr ?_
 have e:=DB h1;subst e
 have e_:_=_:=ho1
 subst e_
 exact J0 () (DA (Nat.zero_le _) Z Z Z Z Z) h0
 intro o21 h0
 refine QQ<|Q4<|Q6<|Q6<|Q0<|DF Z Z Z<|Q3<|Q4<|Qh ?_
 refine J2 4 (fun (o27:Unit)=>⟨[],[(0,.cells 45 (DZ a0))],[],1,124,[]⟩) (fun (o27:Unit)=>(some true)=some r) ?_ ?_
 refine Qd h0 (fun o28 hl1 h0=>?_)
 refine J1 (G2 a0) (fun s1=>⟨[(1,.v (.one (.ptr 0 0))),(5,.v (.one (DW s1)))],[(0,.cells 45 (DZ a0))],[],1,124,[]⟩) 0 o28 (DA (Nat.zero_le _) Z Z Z Z Z) hl1 (fun s1 n1 oo1 h1 ho1=>?_)
 unfold G2 at h1
 refine Q6<|Q6<|Q0<|DE Z Z Z<|DD Z Z Z (Q2 YF Z)<|DD Z Z Z (Q5 K6 Z Z Z)<|DD Z Z Z (QD (α:=Fn) YT Z (.d _))<|DD Z Z Z (Q8 Z Z Z)<|Q3<|Q4 ?_
 refine Qg (b:=(decide (s1 < (a0.funs.length:Int)))) Z (fun c29=>?_) (fun c29=>?_)
 replace h1:=Qi c29 h1
 refine Qn<|Q4<|Q6<|Qh<|Q6 ?_
 refine QO (fun (v30:Bool)=>⟨[(1,.v (.one (.ptr 0 0))),(5,.v (.one (DW s1))),(123,.v (.one (DX v30)))],[(0,.cells 45 (DZ a0))],[],1,124,[]⟩) (fun (v30:Bool)=>(cond v30
     (some (.done (.inr false)))
     (some (.next (Ja (s1+1)))))=some oo1) ?_ ?_
 refine Qd h1 (fun w2_ h2 h1=>?_)
 refine Q0<|DD Z Z Z (Q2 YF Z)<|DD Z Z Z (Q5 K6 Z Z Z)<|DE Z Z Z ?_
 refine Qd h2 (fun x31 hx31 h2=>?_)
 refine DD Z Z Z (Qy (α:=Fn) YT Z (.d _) Z hx31)<|DD Z Z Z (YB Xh Z)<|DD Z Z Z (Y1 JT Z Z)<|DD Z Z Z (GI Uf Z)<|DD Z Z Z (Q8 Z Z Z)<|DE Z Z Z ?_
 refine QA (d:=104) (c:=(decide (200 < (x31.name.length:Int)))) Z (fun c32=>?_) (fun c32=>?_)
 replace h2:=Qi c32 h2
 refine Q7 Z Z<|Q7 Z Z<|Q7 Z Z<|Q7 Z Z<|Q7 Z Z<|Q7 Z Z<|Q7 Z Z<|Q7 Z Z<|DD Z Z Z (Qe Z Z)<|DE Z Z Z<|Q7 Z Z<|Q7 Z Z<|Q7 Z Z<|Q7 Z Z ?_
 refine Q7 Z Z<|Q7 Z Z<|Q7 Z Z<|Q7 Z Z<|DD Z Z Z (Qe Z Z)<|Q3 ?_
 have e:=DB h2;subst e
 exact Qb true (DA (Nat.zero_le _) Z Z Z Z Z) h1
 replace h2:=Qj c32 h2
 refine DD Z Z Z (Q2 YF Z)<|DD Z Z Z (Q5 K6 Z Z Z)<|DE Z Z Z ?_
 refine Qd h2 (fun x33 hx33 h2=>?_)
 refine DD Z Z Z (Qy (α:=Fn) YT Z (.d _) Z hx33)<|DD Z Z Z (YB Xg Z)<|DD Z Z Z (YR QX Z Z Z) ?_
 refine Qd h2 (fun x34 hx34 h2=>?_)
 refine Q9 Z Z (DM Z) (Qo (XE x33.ty x34 hx34) Z (.cons (.agg (.cons (.d _) (.cons (.d _) (.cons (.d _) (.cons (.d _) (.cons (.d _) .nil)))))) .nil))<|DD Z Z Z (Jj Z)<|DD Z Z Z (Qa Z Z)<|DE Z Z Z ?_
 refine QA (d:=114) (c:=(!x34)) Z (fun c35=>?_) (fun c35=>?_)
 replace h2:=Qi c35 h2
 refine Q7 Z Z<|Q7 Z Z<|Q7 Z Z<|Q7 Z Z<|Q7 Z Z<|Q7 Z Z<|Q7 Z Z<|Q7 Z Z<|DD Z Z Z (Qe Z Z)<|Q3 ?_
 have e:=DB h2;subst e
 exact Qb true (DA (Nat.zero_le _) Z Z Z Z Z) h1
 replace h2:=Qj c35 h2
 refine DD Z Z Z (Q2 YF Z)<|DD Z Z Z (Q5 K6 Z Z Z)<|DE Z Z Z ?_
 refine Qd h2 (fun x36 hx36 h2=>?_)
 refine DD Z Z Z (Qy (α:=Fn) YT Z (.d _) Z hx36)<|DD Z Z Z (YB fo_76_3 Z)<|DD Z Z Z (YR U8 Z Z Z) ?_
 refine Qd h2 (fun x37 hx37 h2=>?_)
 refine Q9 Z Z (DM Z) (Qo (m38_ok x36.tree 0 x37 hx37) Z (.cons (.agg (.cons (.d _) (.cons (.d _) (.cons (.d _) (.cons (.d _) (.cons (.d _) (.cons (.d _) (.cons (.d _) (.cons (.d _) .nil))))))))) (.cons (.one (.d _)) .nil)))<|DD Z Z Z (Jj Z)<|DD Z Z Z (Qa Z Z)<|Q3 ?_
 have e:=DB h2;subst e
 exact Qb (!x37) (DA (Nat.zero_le _) Z Z Z Z Z) h1
 intro v30 h1
 refine Q4 ?_
 refine Qg (b:=v30) Z (fun c38=>?_) (fun c38=>?_)
 replace h1:=Qi c38 h1
 refine Q6<|Q0<|DF Z Z Z<|Q3<|Q4<|QE ?_
 have e:=DB h1;subst e
 have e_:_=_:=ho1
 subst e_
 try dsimp only [Sum.elim_inl,Sum.elim_inr] at h0
 have e:=DB h0;subst e
 exact QJ (fun _ _ h=>h) Z (QB Z .nil) (.cons (.one (.d _)) .nil)
 replace h1:=Qj c38 h1
 refine Qn<|Qf<|Q4<|Q0<|DE Z Z Z<|DD Z Z Z (Q8 Z Z Z)<|DF Z Z Z<|Q3 ?_
 have e:=DB h1;subst e
 refine QW (Ja (s1+1)) (DA (Nat.zero_le _) Z Z Z Z Z) ho1
 replace h1:=Qj c29 h1
 refine J8<|Qr<|Qr ?_
 have e:=DB h1;subst e
 have e_:_=_:=ho1
 subst e_
 exact J0 () (DA (Nat.zero_le _) Z Z Z Z Z) h0
 intro o27 h0
 refine QQ<|Q4<|Q6<|Q0<|DF Z Z Z<|Q3<|Q4<|QE ?_
 have e:=DB h0;subst e
 exact QJ (fun _ _ h=>h) Z (QB Z .nil) (.cons (.one (.d _)) .nil)
def WZ (a0:List Dcl) (s1:Int):Option (LO Int (Unit⊕Bool)) :=
 Option.bind (cond (decide (s1 < (a0.length:Int)))
   (some (decide (s1 < 80)))
   (some false)) (fun (v2:Bool)=>cond v2
   (Option.bind (Jx a0 s1) fun (x4:Dcl) =>
 Option.bind (Dn x4) fun (x5:Bool) =>
 cond (!x5)
   (some (.done (.inr false)))
   (some (.next (Ja (s1+1)))))
   (some (.done (.inl ()))))
def DJ (a0:List Dcl):Option Bool :=
 Option.bind (Qq (WZ a0) QI 0) (Sum.elim (fun (o1:Unit)=>some (decide ((a0.length:Int)≤70))) (fun o=>some o))
theorem m9_ok (a0:List Dcl) (r:Bool) (h0:DJ a0=some r):Fun Try.prog 9 [.one (DU a0)] (QP [.one (DX r)]):=by
 unfold DJ at h0
 refine QS 9 23 Try.func9 Z en_9 Z (DM Z) (fun S w=>?_)
 simp only [Jb]
 refine Q6<|Q0<|DF Z Z Z<|Q3<|Q4<|Q6<|Q6<|Q0<|DF Z Z Z<|Q3<|Q4<|Qh ?_
 refine J2 0 (fun (o1:Unit)=>⟨[(0,.v (.one (DU a0)))],[],[],0,23,[]⟩) (fun (o1:Unit)=>(some (decide ((a0.length:Int)≤70)))=some r) ?_ ?_
 refine Qd h0 (fun o2 hl1 h0=>?_)
 refine J1 (WZ a0) (fun s1=>⟨[(0,.v (.one (DU a0))),(3,.v (.one (DW s1)))],[],[],0,23,[]⟩) 0 o2 (DA (Nat.zero_le _) Z Z Z Z Z) hl1 (fun s1 n1 oo1 h1 ho1=>?_)
 unfold WZ at h1
 refine Q6<|Q6 ?_
 refine QO (fun (v3:Bool)=>⟨[(0,.v (.one (DU a0))),(3,.v (.one (DW s1))),(11,.v (.one (DX v3)))],[],[],0,23,[]⟩) (fun (v3:Bool)=>(cond v3
     (Option.bind (Jx a0 s1) fun (x5:Dcl) =>
   Option.bind (Dn x5) fun (x6:Bool) =>
   cond (!x6)
     (some (.done (.inr false)))
     (some (.next (Ja (s1+1)))))
     (some (.done (.inl ()))))=some oo1) ?_ ?_
 refine Qd h1 (fun w2_ h2 h1=>?_)
 refine Q0<|DE Z Z Z<|DE Z Z Z<|DD Z Z Z (QD (α:=Dcl) JW Z (.d _))<|DD Z Z Z (Q8 Z Z Z)<|DE Z Z Z ?_
 refine QA (d:=8) (c:=(decide (s1 < (a0.length:Int)))) Z (fun c4=>?_) (fun c4=>?_)
 replace h2:=Qi c4 h2
 refine DE Z Z Z<|DD Z Z Z (Q8 Z Z Z)<|DD Z Z Z (Qe Z Z)<|Q3 ?_
 have e:=DB h2;subst e
 exact Qb (decide (s1 < 80)) (DA (Nat.zero_le _) Z Z Z Z Z) h1
 replace h2:=Qj c4 h2
 refine Q7 Z Z<|Q7 Z Z<|DD Z Z Z (Qa Z Z)<|Q3 ?_
 have e:=DB h2;subst e
 exact Qb false (DA (Nat.zero_le _) Z Z Z Z Z) h1
 intro v3 h1
 refine Q4 ?_
 refine Qg (b:=v3) Z (fun c5=>?_) (fun c5=>?_)
 replace h1:=Qi c5 h1
 refine Qn<|Q4<|Q6<|Qh<|Q6<|Q0<|DE Z Z Z<|DE Z Z Z ?_
 refine Qd h1 (fun x6 hx6 h1=>?_)
 refine DD Z Z Z (Qy (α:=Dcl) JW Z (.d _) Z hx6)<|DD Z Z Z (Qt (x6:Dcl) JK Z) ?_
 refine Qd h1 (fun x7 hx7 h1=>?_)
 refine Q9 Z Z (DM Z) (Qo (m21_ok x6 x7 hx7) Z (.cons (.agg (.cons (.d _) (.cons (.d _) (.cons (.d _) (.cons (.d _) (.cons (.d _) (.cons (.d _) (.cons (.d _) (.cons (.d _) (.cons (.d _) (.cons (.d _) (.cons (.d _) (.cons (.d _) (.cons (.d _) (.cons (.d _) (.cons (.d _) (.cons (.d _) (.cons (.d _) (.cons (.d _) (.cons (.d _) (.cons (.d _) (.cons (.d _) (.cons (.d _) (.cons (.d _) .nil)))))))))))))))))))))))) .nil))<|DD Z Z Z (Jj Z)<|Q3<|Q4 ?_
 refine Qg (b:=(!x7)) Z (fun c8=>?_) (fun c8=>?_)
 replace h1:=Qi c8 h1
 refine Q6<|Q0<|DF Z Z Z<|Q3<|Q4<|QE ?_
 have e:=DB h1;subst e
 have e_:_=_:=ho1
 subst e_
 try dsimp only [Sum.elim_inl,Sum.elim_inr] at h0
 have e:=DB h0;subst e
 exact QJ (fun _ _ h=>h) Z (QB Z .nil) (.cons (.one (.d _)) .nil)
 replace h1:=Qj c8 h1
 refine Qn<|Qf<|Q4<|Q0<|DE Z Z Z<|DD Z Z Z (Q8 Z Z Z)<|DF Z Z Z<|Q3 ?_
 have e:=DB h1;subst e
 refine QW (Ja (s1+1)) (DA (Nat.zero_le _) Z Z Z Z Z) ho1
 replace h1:=Qj c5 h1
 refine J8<|Qr<|Qr ?_
 have e:=DB h1;subst e
 have e_:_=_:=ho1
 subst e_
 exact J0 () (DA (Nat.zero_le _) Z Z Z Z Z) h0
 intro o1 h0
 refine QQ<|Q4<|Q6<|Q0<|DE Z Z Z<|DD Z Z Z (QD (α:=Dcl) JW Z (.d _))<|DD Z Z Z (Q8 Z Z Z)<|DF Z Z Z<|Q3<|Q4<|QE ?_
 have e:=DB h0;subst e
 exact QJ (fun _ _ h=>h) Z (QB Z .nil) (.cons (.one (.d _)) .nil)
end Go.Proofs.Ytafddfoefeploaa
namespace Go.Proofs.Ytafddfoefeploaa
open Go.RowKit Go.Lib
def Yc (env:List Dcl):Nat:=(env.map Dcl.size).sum
theorem Xe {env:List Dcl} {d:Dcl} (h:d∈env):d.size≤Yc env:=Zc Dcl.size h
theorem W0 (env:List Dcl):env.length≤Yc env:=ZL Dcl.size (fun d=>by unfold Dcl.size;omega) env
theorem Gl {α σ τ β:Type} {step:τ→Option (LO τ β)} (l:List α) (mk:Int→σ→τ) (hlen:l.length≤900000000)
  (hin:∀ (a:List α) (x:α) (b:List α) (s:σ),l=a++x::b→(∃ r,step (mk (a.length:Int) s)=some (.done r))∨∃ s',step (mk (a.length:Int) s)=some (.next (mk (Ja ((a.length:Int)+1)) s')))
  (hout:∀ s,∃ r,step (mk (l.length:Int) s)=some (.done r)) (s0:σ):∃ r,Qq step QI (mk 0 s0)=some r:=by
 obtain ⟨r,h,-⟩:=Y3 l mk (fun _ _=>True) (fun _=>True) hlen (fun a x b s e _=>(hin a x b s e).elim (fun ⟨r,h⟩=>.inl ⟨r,h,trivial⟩) (fun ⟨s',h⟩=>.inr ⟨s',h,trivial⟩)) (fun s _=>let ⟨r,h⟩:=hout s;⟨r,h,trivial⟩) s0 trivial
 exact ⟨r,h⟩
theorem size_some:∀ (n:Nat) (t:Tm),t.size≤n→t.size≤900000000→∃ r,JE Ub n t=some r
 | 0,t,h,_=>by rw [t.size_eq] at h;omega
 | n+1,t,h,h2=>by
  show ∃ r,Ua (JE Ub n) t=some r
  unfold Ua
  have hl:=Gn t
  obtain ⟨r,e⟩:=Gl (step:=KZ t (JE Ub n)) t.kids (fun i (s:Int)=>(s,i)) (by omega)
   (fun a x b s e=>by
    have hx:=YA (t:=t) (k:=x) (by rw [e];simp)
    obtain ⟨r,hr⟩:=size_some n x (by omega) (by omega)
    refine .inr ⟨Ja (s+r),?_⟩
    unfold KZ
    dsimp only
    rw [e,JS,JF]
    simp only [cond_true,Option.bind_some]
    rw [hr];rfl) (fun s=>⟨s,by unfold KZ;dsimp only;rw [J9];rfl⟩) 1
  rw [e];exact ⟨r,rfl⟩
theorem depth_some:∀ (n:Nat) (t:Tm),t.size≤n→t.size≤900000000→∃ r,JE UI n t=some r
 | 0,t,h,_=>by rw [t.size_eq] at h;omega
 | n+1,t,h,h2=>by
  show ∃ r,Up (JE UI n) t=some r
  unfold Up
  have hl:=Gn t
  obtain ⟨r,e⟩:=Gl (step:=Wf t (JE UI n)) t.kids (fun i (s:Int)=>(s,i)) (by omega)
   (fun a x b s e=>by
    have hx:=YA (t:=t) (k:=x) (by rw [e];simp)
    obtain ⟨r,hr⟩:=depth_some n x (by omega) (by omega)
    refine .inr ⟨max s r,?_⟩
    unfold Wf
    dsimp only
    rw [e,JS,JF]
    simp only [cond_true,Option.bind_some]
    rw [hr];rfl) (fun s=>⟨s,by unfold Wf;dsimp only;rw [J9];rfl⟩) 0
  rw [e];exact ⟨_,rfl⟩
theorem Kv (t:Tm) (h:t.size≤900000000):∃ b,UL t=some b:=by
 unfold UL
 obtain ⟨r,e⟩:=size_some QI t (by unfold QI;omega) h
 obtain ⟨r2,e2⟩:=depth_some QI t (by unfold QI;omega) h
 unfold Db m56
 rw [e,e2]
 simp only [Option.bind_some]
 cases decide (r≤400) <;> exact ⟨_,rfl⟩
theorem tree_some:∀ (n:Nat) (t:Tr) (d:Int),t.size≤n→t.size≤900000000→∃ r,JE UK n (t,d)=some r
 | 0,t,d,h,_=>by rw [t.size_eq] at h;omega
 | n+1,t,d,h,h2=>by
  show ∃ r,UJ (JE UK n) t d=some r
  unfold UJ
  have hl:=branches_len t
  have hsz:=t.size_eq
  obtain ⟨b,hb⟩:=Kv t.body (by omega)
  obtain ⟨r,e⟩:=Gl (step:=XD t (JE UK n) d) t.branches (fun i (s:Unit)=>i) (by omega)
   (fun a x c s e=>by
    have hx:=Tr.kid_size (t:=t) (b:=x) (by rw [e];simp)
    obtain ⟨r,hr⟩:=tree_some n x.tree (Ja (d+1)) (by omega) (by omega)
    unfold XD
    rw [e,JS,JF]
    simp only [cond_true,Option.bind_some]
    rw [hr]
    cases r with
    | false=>exact .inl ⟨_,rfl⟩
    | true =>
     simp only [Option.bind_some,Bool.not_true,cond_false]
     cases decide (200 < (x.ctor.length:Int)) with
     | true=>exact .inl ⟨_,rfl⟩
     | false=>exact .inr ⟨(),rfl⟩) (fun s=>⟨_,by unfold XD;rw [J9];rfl⟩) ()
  rw [e,hb]
  cases decide (40 < d) with
  | true=>exact ⟨_,rfl⟩
  | false =>
   cases decide (40 < (t.branches.length:Int)) with
   | true=>exact ⟨_,rfl⟩
   | false =>
    cases b with
    | false=>exact ⟨_,rfl⟩
    | true =>
     cases r with
     | inl u=>exact ⟨_,rfl⟩
     | inr u=>exact ⟨_,rfl⟩
theorem m21_some (d:Dcl) (h:d.size≤900000000):∃ b,Dn d=some b:=by
 have h1:=YK d
 have h2:=Zx d
 have h3:=rules_len d
 have hty:=G5 (d:=d) (t:=d.ty) (by unfold K8;simp)
 have hval:=G5 (d:=d) (t:=d.value) (by unfold K8;simp)
 have hrt:=G5 (d:=d) (t:=d.rcr.ty) (by unfold K8;simp)
 obtain ⟨b1,e1⟩:=Kv d.ty (by omega)
 obtain ⟨b2,e2⟩:=Kv d.value (by omega)
 obtain ⟨b3,e3⟩:=Kv d.rcr.ty (by omega)
 obtain ⟨r1,l1⟩:=Gl (step:=X0 d) d.ctors (fun i (s:Unit)=>i) (by omega)
  (fun a x c s e=>by
   have hx:=G5 (d:=d) (t:=x.ty) (by unfold K8;rw [e];simp)
   obtain ⟨r,hr⟩:=Kv x.ty (by omega)
   unfold X0
   rw [e,JS,JF]
   simp only [cond_true,Option.bind_some]
   cases decide (200 < (x.name.length:Int)) with
   | true=>exact .inl ⟨_,rfl⟩
   | false =>
    simp only [cond_false]
    rw [hr]
    cases r with
    | false=>exact .inl ⟨_,rfl⟩
    | true=>exact .inr ⟨(),rfl⟩) (fun s=>⟨_,by unfold X0;rw [J9];rfl⟩) ()
 obtain ⟨r2,l2⟩:=Gl (step:=Gz d) d.rcr.rules (fun i (s:Unit)=>i) (by omega)
  (fun a x c s e=>by
   have hx:=G5 (d:=d) (t:=x) (by unfold K8;rw [e];simp)
   obtain ⟨r,hr⟩:=Kv x (by omega)
   unfold Gz
   rw [e,JS,JF]
   simp only [cond_true,Option.bind_some]
   rw [hr]
   cases r with
   | false=>exact .inl ⟨_,rfl⟩
   | true=>exact .inr ⟨(),rfl⟩) (fun s=>⟨_,by unfold Gz;rw [J9];rfl⟩) ()
 obtain ⟨r3,l3⟩:=Gl (step:=G2 d) d.funs (fun i (s:Unit)=>i) (by omega)
  (fun a x c s e=>by
   have hx:=G5 (d:=d) (t:=x.ty) (by unfold K8;rw [e];simp)
   have hf:=fun_mem (d:=d) (f:=x) (by rw [e];simp)
   obtain ⟨r,hr⟩:=Kv x.ty (by omega)
   obtain ⟨q,hq⟩:=tree_some QI x.tree 0 (by unfold QI;omega) (by omega)
   unfold G2
   rw [e,JS,JF]
   simp only [cond_true,Option.bind_some]
   cases decide (200 < (x.name.length:Int)) with
   | true=>exact .inl ⟨_,rfl⟩
   | false =>
    simp only [cond_false]
    rw [hr]
    cases r with
    | false=>exact .inl ⟨_,rfl⟩
    | true =>
     simp only [Option.bind_some,Bool.not_true,cond_false]
     unfold m38
     rw [hq]
     cases q with
     | false=>exact .inl ⟨_,rfl⟩
     | true=>exact .inr ⟨(),rfl⟩) (fun s=>⟨_,by unfold G2;rw [J9];rfl⟩) ()
 have tail:∃ b,Option.bind (Qq (X0 d) QI 0) (Sum.elim (fun (o3:Unit)=>Option.bind (Qq (Gz d) QI 0) (Sum.elim (fun (o4:Unit)=>Option.bind (Qq (G2 d) QI 0) (Sum.elim (fun (o5:Unit)=>some true) (fun o=>some o))) (fun o=>some o))) (fun o=>some o))=some b:=by
  rw [l1,l2,l3]
  cases r1 with
  | inr u=>exact ⟨_,rfl⟩
  | inl u =>
   cases r2 with
   | inr u=>exact ⟨_,rfl⟩
   | inl u =>
    cases r3 with
    | inr u=>exact ⟨_,rfl⟩
    | inl u=>exact ⟨_,rfl⟩
 obtain ⟨bt,ht⟩:=tail
 unfold Dn
 rw [e1,e2,e3,ht]
 cases decide (200 < (d.name.length:Int)) with
 | true=>exact ⟨_,rfl⟩
 | false =>
  cases b1 with
  | false=>exact ⟨_,rfl⟩
  | true =>
   cases b2 with
   | false=>exact ⟨_,rfl⟩
   | true =>
    cases decide (40 < (d.ctors.length:Int)) with
    | true=>exact ⟨_,rfl⟩
    | false =>
     cases decide (12 < (d.funs.length:Int)) with
     | true=>exact ⟨_,rfl⟩
     | false =>
      cases b3 with
      | false=>exact ⟨_,rfl⟩
      | true =>
       cases h7:decide (40 < (d.rcr.rules.length:Int)) with
       | true=>exact ⟨false,by simp [h7]⟩
       | false=>exact ⟨bt,by simp [h7]⟩
theorem m9_some (env:List Dcl) (h:Yc env≤900000000):∃ b,DJ env=some b∧(b=true→env.length≤70):=by
 have hel:=W0 env
 obtain ⟨r,e,hr⟩:=Y3 (step:=WZ env) env (fun i (s:Unit)=>i) (fun _ _=>True) (fun r=>r=.inl ()∨r=.inr false) (by omega)
  (fun a x c s e _=>by
   have hx:=Xe (env:=env) (d:=x) (by rw [e];simp)
   obtain ⟨r,hr⟩:=m21_some x (by omega)
   unfold WZ
   rw [e,JS,JF]
   simp only [cond_true,Option.bind_some]
   cases decide ((a.length:Int) < 80) with
   | false=>exact .inl ⟨_,rfl,.inl rfl⟩
   | true =>
    simp only [cond_true]
    rw [hr]
    cases r with
    | false=>exact .inl ⟨_,rfl,.inr rfl⟩
    | true=>exact .inr ⟨(),rfl,trivial⟩) (fun s _=>⟨_,by unfold WZ;rw [J9];rfl,.inl rfl⟩) () trivial
 unfold DJ
 rw [e]
 rcases hr with rfl | rfl
 ·exact ⟨_,rfl,fun hb=>by have:=of_decide_eq_true hb;omega⟩
 ·exact ⟨false,rfl,fun hb=>by cases hb⟩
end Go.Proofs.Ytafddfoefeploaa
namespace Go.Proofs.Ytafddfoefeploaa
open Go.RowKit Go.Shelf
theorem YW:QU Try.prog 35 0=some 0:=by kernel_rfl
theorem KW:QU Try.prog 35 1=some 1:=by kernel_rfl
theorem Xi:QU Try.prog 35 2=some 2:=by kernel_rfl
theorem KV:QU Try.prog 42 0=some 0:=by kernel_rfl
theorem Ya:QU Try.prog 45 2=some 2:=by kernel_rfl
theorem ZE:Jz Try.prog 25=some (false,1):=by kernel_rfl
theorem Jg:Jz Try.prog 35=some (true,9):=by kernel_rfl
theorem Wq:Jn Try.prog 97=some (3,1):=by kernel_rfl
theorem Dp:Jy Try.prog 3=some [.int .i64 0]:=by kernel_rfl
theorem z_25:Jy Try.prog 25=some [.int .i64 0]:=by kernel_rfl
theorem YZ:Jy Try.prog 35=some [.int .i64 0,.int .i64 0,.int .i64 0,.int .i64 0,.int .i64 0,.int .i64 0,.string ByteArray.empty,.slice none 0 0,.slice none 0 0]:=by kernel_rfl
theorem Xk:Jy Try.prog 45=some [.int .i64 0,.string ByteArray.empty,.int .i64 0,.int .i64 0,.int .i64 0,.string ByteArray.empty,.slice none 0 0,.slice none 0 0,.int .i64 0,.int .i64 0,.string ByteArray.empty,.slice none 0 0,.slice none 0 0,.int .i64 0,.slice none 0 0,.int .i64 0,.int .i64 0,.int .i64 0,.string ByteArray.empty,.slice none 0 0,.slice none 0 0,.slice none 0 0,.slice none 0 0]:=by kernel_rfl
theorem ZX:Y6 Try.prog 35 [(0,1),(1,1),(2,1),(3,1),(4,5)] [.int .i64 0,.int .i64 0,.int .i64 0,.int .i64 0,.int .i64 0,.int .i64 0,.string ByteArray.empty,.slice none 0 0,.slice none 0 0]:=⟨by kernel_rfl,by kernel_rfl⟩
theorem bd_45:Y6 Try.prog 45 [(0,1),(1,1),(2,1),(3,5),(8,5),(13,1),(14,1),(15,7),(22,1)] [.int .i64 0,.string ByteArray.empty,.int .i64 0,.int .i64 0,.int .i64 0,.string ByteArray.empty,.slice none 0 0,.slice none 0 0,.int .i64 0,.int .i64 0,.string ByteArray.empty,.slice none 0 0,.slice none 0 0,.int .i64 0,.slice none 0 0,.int .i64 0,.int .i64 0,.int .i64 0,.string ByteArray.empty,.slice none 0 0,.slice none 0 0,.slice none 0 0,.slice none 0 0]:=⟨by kernel_rfl,by kernel_rfl⟩
theorem en_14:J4 Try.prog 14:=enters_of Try.func14 (by kernel_rfl) rfl
theorem en_16:J4 Try.prog 16:=enters_of Try.func16 (by kernel_rfl) rfl
theorem en_31:J4 Try.prog 31:=enters_of Try.func31 (by kernel_rfl) rfl
theorem en_49:J4 Try.prog 49:=enters_of Try.func49 (by kernel_rfl) rfl
noncomputable def K2:Code:=(cA (cA (cB (cB (cA (cA (cB (cB (cA (cA (cB (cA (cB (GK Try.f14))))))))))))))
noncomputable def Y0:Code:=(cB (cA (cB (cB (cA (cA (cB (cB (cA (cA (cB (cA (cB (GK Try.f14))))))))))))))
def X2 (x3:Dcl) (a1:Bs) (s3:Int):Option (LO Int (Unit⊕(Unit⊕(Int×Int×Int×Int×Int×Bs×(List Lvl)×(List Tm))))) :=
 cond (decide (s3 < (x3.ctors.length:Int)))
   (Option.bind (Jx x3.ctors s3) fun (x28:Ctr) =>
 Option.bind (cond (x28.name==a1)
   (some (.inr ()))
   (some (.inl ()))) (Sum.elim (fun (y29:Unit)=>some (.next (Ja (s3+1)))) (fun (y30:Unit)=>some (.done (.inr (.inr (4,s3,x3.params,x28.ty.kind,x28.ty.index,x28.ty.name,x28.ty.levels,x28.ty.kids)))))))
   (some (.done (.inl ())))
def WN (p0_:Dcl) (p1_:Bs):Option (Unit⊕(Int×Int×Int×Int×Int×Bs×(List Lvl)×(List Tm))) :=
 Jh (Nat.ble (p0_.name.length+([46,114,101,99]:List UInt8).length) 1000000000)
 (Option.bind (cond ((p0_.name++([46,114,101,99]:List UInt8))==p1_)
   (some (.inr ()))
   (some (.inl ()))) (Sum.elim (fun (b0_:Unit)=>some (.inl ())) (fun (b1_:Unit)=>some (.inr (5,0,p0_.rcr.params,p0_.rcr.ty.kind,p0_.rcr.ty.index,p0_.rcr.ty.name,p0_.rcr.ty.levels,p0_.rcr.ty.kids)))))
def X1 (x3:Dcl) (a1:Bs) (s3:Int):Option (LO Int (Unit⊕(Unit⊕(Int×Int×Int×Int×Int×Bs×(List Lvl)×(List Tm))))) :=
 cond (decide (s3 < (x3.funs.length:Int)))
   (Option.bind (Jx x3.funs s3) fun (x46:Fn) =>
 Option.bind (cond (x46.name==a1)
   (some (.inr ()))
   (some (.inl ()))) (Sum.elim (fun (y47:Unit)=>some (.next (Ja (s3+1)))) (fun (y48:Unit)=>some (.done (.inr (.inr (6,s3,x3.params,x46.ty.kind,x46.ty.index,x46.ty.name,x46.ty.levels,x46.ty.kids)))))))
   (some (.done (.inl ())))
def XH (p0_:Bool) (p1_:Dcl) (p2_:Bs):Option (Unit⊕(Int×Int×Int×Int×Int×Bs×(List Lvl)×(List Tm))) :=
 cond p0_
   (Option.bind (Jx ([0,1,2]) p1_.kind) fun (b0_:Int) =>
 Option.bind (cond (p1_.name==p2_)
   (some (.inr ()))
   (some (.inl ()))) (Sum.elim (fun (b1_:Unit)=>some (.inl ())) (fun (b2_:Unit)=>some (.inr (b0_,0,p1_.params,p1_.ty.kind,p1_.ty.index,p1_.ty.name,p1_.ty.levels,p1_.ty.kids)))))
   (cond (p1_.kind==3)
   (Option.bind (cond (p1_.name==p2_)
   (some (.inr ()))
   (some (.inl ()))) (Sum.elim (fun (b3_:Unit)=>Option.bind (Qq (X2 p1_ p2_) QI 0) (Sum.elim (fun (b4_:Unit)=>WN p1_ p2_) (fun o=>some o))) (fun (b5_:Unit)=>some (.inr (3,0,p1_.params,p1_.ty.kind,p1_.ty.index,p1_.ty.name,p1_.ty.levels,p1_.ty.kids)))))
   (cond (p1_.kind==4)
   (Option.bind (Qq (X1 p1_ p2_) QI 0) (Sum.elim (fun (b6_:Unit)=>some (.inl ())) (fun o=>some o)))
   (some (.inl ()))))
def WM (a0:List Dcl) (a1:Bs) (s1:Int):Option (LO Int (Unit⊕(Ent×Int))) :=
 cond (decide (s1 < (a0.length:Int)))
   (Option.bind (Jx a0 s1) fun (x3:Dcl) =>
 Option.bind (some ()) (fun (y4:Unit)=>Option.bind (Option.bind (cond (x3.kind==0)
   (some (x3.kind==0))
   (cond (x3.kind==1)
   (some (x3.kind==1))
   (some (x3.kind==2)))) (fun (v10:Bool)=>XH v10 x3 a1)) (Sum.elim (fun (y6:Unit)=>some (.next (Ja (s1+1)))) (fun (y7:Int×Int×Int×Int×Int×Bs×(List Lvl)×(List Tm))=>some (.done (.inr ((⟨y7.1,s1,y7.2.1,y7.2.2.1,(Tm.mk y7.2.2.2.1 y7.2.2.2.2.1 y7.2.2.2.2.2.1 y7.2.2.2.2.2.2.1 y7.2.2.2.2.2.2.2)⟩:Ent),0)))))))
   (some (.done (.inl ())))
noncomputable abbrev Yf :HB :=
 .cells 35 [DW 0,DW 0,DW 0,DW 0,DW 0,DW 0,Jl ([]:List UInt8),DV,DV]
noncomputable abbrev m14_h1 (p0_:Bs) (p1_:Dcl):List (Nat×HB) :=
 [(0,.cells 9 [Jl p0_]),(1,Yf),(2,.cells 25 [DW 0]),(3,.cells 45 (DZ p1_))]
noncomputable abbrev m14_h2 (p0_:Bs) (p1_:Dcl) (p2_:Int):List (Nat×HB) :=
 [(0,.cells 9 [Jl p0_]),(1,Yf),(2,.cells 25 [DW 0]),(3,.cells 45 (DZ p1_)),(4,.cells 45 (DZ p1_)),(5,.cells 3 [DW p2_])]
noncomputable abbrev KA (p0_:List Dcl) (p1_:Int):HB :=
 .loop .ready none [(3,.v (.one (.ptr 0 0))),(4,.v (.one (.ptr 1 0))),(5,.v (.one (.ptr 2 0))),(10,.v (.one (DU p0_))),(11,.v (.one (DW (p0_.length:Int)))),(12,.v (.one (DW p1_))),(19,.v (.one (.fn 49 [(5,0),(4,0)])))] 28 #[20,21] K2 Y0 6
noncomputable abbrev K1 (p0_:Bs) (p1_:Dcl) (p2_:Int) (p3_:List Dcl):List (Nat×HB) :=
 [(0,.cells 9 [Jl p0_]),(1,Yf),(2,.cells 25 [DW 0]),(3,.cells 45 (DZ p1_)),(4,.cells 45 (DZ p1_)),(5,.cells 3 [DW p2_]),(6,.obj (.deferred (some []))),(7,KA p3_ p2_)]
noncomputable abbrev m14_h5 (p0_:Int×Int×Int×Int×Int×Bs×(List Lvl)×(List Tm)) (p1_:Int):HB :=
 .cells 35 [DW p0_.1,DW p1_,DW p0_.2.1,DW p0_.2.2.1,DW p0_.2.2.2.1,DW p0_.2.2.2.2.1,Jl p0_.2.2.2.2.2.1,DU p0_.2.2.2.2.2.2.1,DU p0_.2.2.2.2.2.2.2]
noncomputable abbrev Wm (p0_:List Dcl) (p1_:Int):HB :=
 .loop .done (some .ret) [(3,.v (.one (.ptr 0 0))),(4,.v (.one (.ptr 1 0))),(5,.v (.one (.ptr 2 0))),(10,.v (.one (DU p0_))),(11,.v (.one (DW (p0_.length:Int)))),(12,.v (.one (DW p1_))),(19,.v (.one (.fn 49 [(5,0),(4,0)])))] 28 #[20,21] K2 Y0 6
noncomputable abbrev X3 (p0_:Bs) (p1_:Int×Int×Int×Int×Int×Bs×(List Lvl)×(List Tm)) (p2_:Int) (p3_:Dcl) (p4_:List Dcl):List (Nat×HB) :=
 [(0,.cells 9 [Jl p0_]),(1,m14_h5 p1_ p2_),(2,.cells 25 [DW 0]),(3,.cells 45 (DZ p3_)),(4,.cells 45 (DZ p3_)),(5,.cells 3 [DW p2_]),(6,.obj (.deferred (some []))),(7,Wm p4_ p2_)]
noncomputable abbrev Wl (p0_:Int) (p1_:Dcl):HB :=
 .cells 35 [DW 0,DW p0_,DW 0,DW p1_.params,DW p1_.ty.kind,DW p1_.ty.index,Jl p1_.ty.name,DU p1_.ty.levels,DU p1_.ty.kids]
noncomputable abbrev m14_h9 (p0_:Bs) (p1_:Dcl) (p2_:Int) (p3_:List Dcl):List (Nat×HB) :=
 [(0,.cells 9 [Jl p0_]),(1,Yf),(2,.cells 25 [DW 0]),(3,.cells 45 (DZ p1_)),(4,.cells 45 (DZ p1_)),(5,.cells 3 [DW p2_]),(6,.obj (.deferred (some []))),(7,KA p3_ p2_),(8,Wl p2_ p1_)]
noncomputable abbrev Ka (p0_:Int) (p1_:Int) (p2_:Dcl):HB :=
 .cells 35 [DW p0_,DW p1_,DW 0,DW p2_.params,DW p2_.ty.kind,DW p2_.ty.index,Jl p2_.ty.name,DU p2_.ty.levels,DU p2_.ty.kids]
noncomputable abbrev m14_h11 (p0_:Bs) (p1_:Dcl) (p2_:Int) (p3_:List Dcl) (p4_:Int):List (Nat×HB) :=
 [(0,.cells 9 [Jl p0_]),(1,Yf),(2,.cells 25 [DW 0]),(3,.cells 45 (DZ p1_)),(4,.cells 45 (DZ p1_)),(5,.cells 3 [DW p2_]),(6,.obj (.deferred (some []))),(7,KA p3_ p2_),(8,Ka p4_ p2_ p1_)]
noncomputable abbrev YV (p0_:List Dcl) (p1_:Int):HB :=
 .loop .busy none [(3,.v (.one (.ptr 0 0))),(4,.v (.one (.ptr 1 0))),(5,.v (.one (.ptr 2 0))),(10,.v (.one (DU p0_))),(11,.v (.one (DW (p0_.length:Int)))),(12,.v (.one (DW p1_))),(19,.v (.one (.fn 49 [(5,0),(4,0)])))] 28 #[20,21] K2 Y0 6
noncomputable abbrev m14_h13 (p0_:Bs) (p1_:Dcl) (p2_:Int) (p3_:List Dcl) (p4_:Int):List (Nat×HB) :=
 [(0,.cells 9 [Jl p0_]),(1,Yf),(2,.cells 25 [DW 0]),(3,.cells 45 (DZ p1_)),(4,.cells 45 (DZ p1_)),(5,.cells 3 [DW p2_]),(6,.obj (.deferred (some []))),(7,YV p3_ p2_),(8,Ka p4_ p2_ p1_),(10,Ka p4_ p2_ p1_)]
noncomputable abbrev m14_h14 (p0_:Bs) (p1_:Dcl) (p2_:Int) (p3_:List Dcl) (p4_:Int):List (Nat×HB) :=
 [(0,.cells 9 [Jl p0_]),(1,Yf),(2,.cells 25 [DW 0]),(3,.cells 45 (DZ p1_)),(4,.cells 45 (DZ p1_)),(5,.cells 3 [DW p2_]),(6,.obj (.deferred (some []))),(7,KA p3_ p2_),(8,Ka p4_ p2_ p1_),(10,Ka p4_ p2_ p1_)]
noncomputable abbrev m14_h15 (p0_:Bs) (p1_:Dcl) (p2_:Int) (p3_:List Dcl) (p4_:Int):List (Nat×HB) :=
 [(0,.cells 9 [Jl p0_]),(1,Yf),(2,.cells 25 [DW 0]),(3,.cells 45 (DZ p1_)),(4,.cells 45 (DZ p1_)),(5,.cells 3 [DW p2_]),(6,.obj (.deferred (some []))),(7,YV p3_ p2_),(8,Ka p4_ p2_ p1_)]
noncomputable abbrev m14_h16 (p0_:Bs) (p1_:Int) (p2_:Int) (p3_:Dcl) (p4_:List Dcl):List (Nat×HB) :=
 [(0,.cells 9 [Jl p0_]),(1,Ka p1_ p2_ p3_),(2,.cells 25 [DW 0]),(3,.cells 45 (DZ p3_)),(4,.cells 45 (DZ p3_)),(5,.cells 3 [DW p2_]),(6,.obj (.deferred (some []))),(7,YV p4_ p2_),(8,Ka p1_ p2_ p3_)]
noncomputable abbrev m14_h17 (p0_:Bs) (p1_:Int) (p2_:Int) (p3_:Dcl) (p4_:List Dcl):List (Nat×HB) :=
 [(0,.cells 9 [Jl p0_]),(1,Ka p1_ p2_ p3_),(2,.cells 25 [DW 0]),(3,.cells 45 (DZ p3_)),(4,.cells 45 (DZ p3_)),(5,.cells 3 [DW p2_]),(6,.obj (.deferred (some []))),(7,Wm p4_ p2_)]
noncomputable abbrev Yx (p0_:Int) (p1_:Dcl):HB :=
 .cells 35 [DW 3,DW p0_,DW 0,DW p1_.params,DW p1_.ty.kind,DW p1_.ty.index,Jl p1_.ty.name,DU p1_.ty.levels,DU p1_.ty.kids]
noncomputable abbrev m14_h19 (p0_:Bs) (p1_:Dcl) (p2_:Int) (p3_:List Dcl):List (Nat×HB) :=
 [(0,.cells 9 [Jl p0_]),(1,Yf),(2,.cells 25 [DW 0]),(3,.cells 45 (DZ p1_)),(4,.cells 45 (DZ p1_)),(5,.cells 3 [DW p2_]),(6,.obj (.deferred (some []))),(7,KA p3_ p2_),(8,Yx p2_ p1_)]
noncomputable abbrev m14_h20 (p0_:Bs) (p1_:Dcl) (p2_:Int) (p3_:List Dcl):List (Nat×HB) :=
 [(0,.cells 9 [Jl p0_]),(1,Yf),(2,.cells 25 [DW 0]),(3,.cells 45 (DZ p1_)),(4,.cells 45 (DZ p1_)),(5,.cells 3 [DW p2_]),(6,.obj (.deferred (some []))),(7,YV p3_ p2_),(8,Yx p2_ p1_),(9,Yx p2_ p1_)]
noncomputable abbrev m14_h21 (p0_:Bs) (p1_:Dcl) (p2_:Int) (p3_:List Dcl):List (Nat×HB) :=
 [(0,.cells 9 [Jl p0_]),(1,Yf),(2,.cells 25 [DW 0]),(3,.cells 45 (DZ p1_)),(4,.cells 45 (DZ p1_)),(5,.cells 3 [DW p2_]),(6,.obj (.deferred (some []))),(7,KA p3_ p2_),(8,Yx p2_ p1_),(9,Yx p2_ p1_)]
noncomputable abbrev KM (p0_:Bs) (p1_:Dcl) (p2_:Int) (p3_:List Dcl):List (Nat×HB) :=
 [(0,.cells 9 [Jl p0_]),(1,Yf),(2,.cells 25 [DW 0]),(3,.cells 45 (DZ p1_)),(4,.cells 45 (DZ p1_)),(5,.cells 3 [DW p2_]),(6,.obj (.deferred (some []))),(7,YV p3_ p2_),(8,Yx p2_ p1_)]
noncomputable abbrev m14_h23 (p0_:Bs) (p1_:Int) (p2_:Dcl) (p3_:List Dcl):List (Nat×HB) :=
 [(0,.cells 9 [Jl p0_]),(1,Yx p1_ p2_),(2,.cells 25 [DW 0]),(3,.cells 45 (DZ p2_)),(4,.cells 45 (DZ p2_)),(5,.cells 3 [DW p1_]),(6,.obj (.deferred (some []))),(7,YV p3_ p1_),(8,Yx p1_ p2_)]
noncomputable abbrev m14_h24 (p0_:Bs) (p1_:Dcl) (p2_:Int) (p3_:List Dcl) (p4_:Ctr):List (Nat×HB) :=
 [(0,.cells 9 [Jl p0_]),(1,Yf),(2,.cells 25 [DW 0]),(3,.cells 45 (DZ p1_)),(4,.cells 45 (DZ p1_)),(5,.cells 3 [DW p2_]),(6,.obj (.deferred (some []))),(7,KA p3_ p2_),(8,Yx p2_ p1_),(10,.cells 71 (DZ p4_))]
noncomputable abbrev m14_h25 (p0_:Int) (p1_:Int) (p2_:Dcl) (p3_:Ctr):HB :=
 .cells 35 [DW 4,DW p0_,DW p1_,DW p2_.params,DW p3_.ty.kind,DW p3_.ty.index,Jl p3_.ty.name,DU p3_.ty.levels,DU p3_.ty.kids]
noncomputable abbrev m14_h26 (p0_:Bs) (p1_:Dcl) (p2_:Int) (p3_:List Dcl) (p4_:Ctr) (p5_:Int):List (Nat×HB) :=
 [(0,.cells 9 [Jl p0_]),(1,Yf),(2,.cells 25 [DW 0]),(3,.cells 45 (DZ p1_)),(4,.cells 45 (DZ p1_)),(5,.cells 3 [DW p2_]),(6,.obj (.deferred (some []))),(7,YV p3_ p2_),(8,Yx p2_ p1_),(10,.cells 71 (DZ p4_)),(11,m14_h25 p2_ p5_ p1_ p4_)]
noncomputable abbrev m14_h27 (p0_:Bs) (p1_:Dcl) (p2_:Int) (p3_:List Dcl) (p4_:Ctr) (p5_:Int):List (Nat×HB) :=
 [(0,.cells 9 [Jl p0_]),(1,Yf),(2,.cells 25 [DW 0]),(3,.cells 45 (DZ p1_)),(4,.cells 45 (DZ p1_)),(5,.cells 3 [DW p2_]),(6,.obj (.deferred (some []))),(7,KA p3_ p2_),(8,Yx p2_ p1_),(10,.cells 71 (DZ p4_)),(11,m14_h25 p2_ p5_ p1_ p4_)]
noncomputable abbrev m14_h28 (p0_:Bs) (p1_:Dcl) (p2_:Int) (p3_:List Dcl) (p4_:Ctr):List (Nat×HB) :=
 [(0,.cells 9 [Jl p0_]),(1,Yf),(2,.cells 25 [DW 0]),(3,.cells 45 (DZ p1_)),(4,.cells 45 (DZ p1_)),(5,.cells 3 [DW p2_]),(6,.obj (.deferred (some []))),(7,YV p3_ p2_),(8,Yx p2_ p1_),(10,.cells 71 (DZ p4_))]
noncomputable abbrev m14_h29 (p0_:Bs) (p1_:Int) (p2_:Int) (p3_:Dcl) (p4_:Ctr) (p5_:List Dcl):List (Nat×HB) :=
 [(0,.cells 9 [Jl p0_]),(1,m14_h25 p1_ p2_ p3_ p4_),(2,.cells 25 [DW 0]),(3,.cells 45 (DZ p3_)),(4,.cells 45 (DZ p3_)),(5,.cells 3 [DW p1_]),(6,.obj (.deferred (some []))),(7,YV p5_ p1_),(8,Yx p1_ p3_),(10,.cells 71 (DZ p4_))]
noncomputable abbrev m14_h30 (p0_:Bs) (p1_:Int) (p2_:Int) (p3_:Dcl) (p4_:Ctr) (p5_:List Dcl):List (Nat×HB) :=
 [(0,.cells 9 [Jl p0_]),(1,m14_h25 p1_ p2_ p3_ p4_),(2,.cells 25 [DW 0]),(3,.cells 45 (DZ p3_)),(4,.cells 45 (DZ p3_)),(5,.cells 3 [DW p1_]),(6,.obj (.deferred (some []))),(7,Wm p5_ p1_)]
noncomputable abbrev m14_h31 (p0_:Int) (p1_:Dcl):HB :=
 .cells 35 [DW 5,DW p0_,DW 0,DW p1_.rcr.params,DW p1_.rcr.ty.kind,DW p1_.rcr.ty.index,Jl p1_.rcr.ty.name,DU p1_.rcr.ty.levels,DU p1_.rcr.ty.kids]
noncomputable abbrev m14_h32 (p0_:Bs) (p1_:Dcl) (p2_:Int) (p3_:List Dcl):List (Nat×HB) :=
 [(0,.cells 9 [Jl p0_]),(1,Yf),(2,.cells 25 [DW 0]),(3,.cells 45 (DZ p1_)),(4,.cells 45 (DZ p1_)),(5,.cells 3 [DW p2_]),(6,.obj (.deferred (some []))),(7,YV p3_ p2_),(8,Yx p2_ p1_),(10,m14_h31 p2_ p1_)]
noncomputable abbrev m14_h33 (p0_:Bs) (p1_:Dcl) (p2_:Int) (p3_:List Dcl):List (Nat×HB) :=
 [(0,.cells 9 [Jl p0_]),(1,Yf),(2,.cells 25 [DW 0]),(3,.cells 45 (DZ p1_)),(4,.cells 45 (DZ p1_)),(5,.cells 3 [DW p2_]),(6,.obj (.deferred (some []))),(7,KA p3_ p2_),(8,Yx p2_ p1_),(10,m14_h31 p2_ p1_)]
noncomputable abbrev m14_h34 (p0_:Bs) (p1_:Int) (p2_:Dcl) (p3_:List Dcl):List (Nat×HB) :=
 [(0,.cells 9 [Jl p0_]),(1,m14_h31 p1_ p2_),(2,.cells 25 [DW 0]),(3,.cells 45 (DZ p2_)),(4,.cells 45 (DZ p2_)),(5,.cells 3 [DW p1_]),(6,.obj (.deferred (some []))),(7,YV p3_ p1_),(8,Yx p1_ p2_)]
noncomputable abbrev m14_h35 (p0_:Bs) (p1_:Int) (p2_:Dcl) (p3_:List Dcl):List (Nat×HB) :=
 [(0,.cells 9 [Jl p0_]),(1,m14_h31 p1_ p2_),(2,.cells 25 [DW 0]),(3,.cells 45 (DZ p2_)),(4,.cells 45 (DZ p2_)),(5,.cells 3 [DW p1_]),(6,.obj (.deferred (some []))),(7,Wm p3_ p1_)]
noncomputable abbrev m14_h36 (p0_:Bs) (p1_:Int) (p2_:Dcl) (p3_:List Dcl):List (Nat×HB) :=
 [(0,.cells 9 [Jl p0_]),(1,Yx p1_ p2_),(2,.cells 25 [DW 0]),(3,.cells 45 (DZ p2_)),(4,.cells 45 (DZ p2_)),(5,.cells 3 [DW p1_]),(6,.obj (.deferred (some []))),(7,Wm p3_ p1_)]
noncomputable abbrev m14_h37 (p0_:Bs) (p1_:Dcl) (p2_:Int) (p3_:List Dcl) (p4_:Fn):List (Nat×HB) :=
 [(0,.cells 9 [Jl p0_]),(1,Yf),(2,.cells 25 [DW 0]),(3,.cells 45 (DZ p1_)),(4,.cells 45 (DZ p1_)),(5,.cells 3 [DW p2_]),(6,.obj (.deferred (some []))),(7,KA p3_ p2_),(8,Wl p2_ p1_),(9,.cells 76 (DZ p4_))]
noncomputable abbrev m14_h38 (p0_:Int) (p1_:Int) (p2_:Dcl) (p3_:Fn):HB :=
 .cells 35 [DW 6,DW p0_,DW p1_,DW p2_.params,DW p3_.ty.kind,DW p3_.ty.index,Jl p3_.ty.name,DU p3_.ty.levels,DU p3_.ty.kids]
noncomputable abbrev m14_h39 (p0_:Bs) (p1_:Dcl) (p2_:Int) (p3_:List Dcl) (p4_:Fn) (p5_:Int):List (Nat×HB) :=
 [(0,.cells 9 [Jl p0_]),(1,Yf),(2,.cells 25 [DW 0]),(3,.cells 45 (DZ p1_)),(4,.cells 45 (DZ p1_)),(5,.cells 3 [DW p2_]),(6,.obj (.deferred (some []))),(7,YV p3_ p2_),(8,Wl p2_ p1_),(9,.cells 76 (DZ p4_)),(10,m14_h38 p2_ p5_ p1_ p4_)]
noncomputable abbrev m14_h40 (p0_:Bs) (p1_:Dcl) (p2_:Int) (p3_:List Dcl) (p4_:Fn) (p5_:Int):List (Nat×HB) :=
 [(0,.cells 9 [Jl p0_]),(1,Yf),(2,.cells 25 [DW 0]),(3,.cells 45 (DZ p1_)),(4,.cells 45 (DZ p1_)),(5,.cells 3 [DW p2_]),(6,.obj (.deferred (some []))),(7,KA p3_ p2_),(8,Wl p2_ p1_),(9,.cells 76 (DZ p4_)),(10,m14_h38 p2_ p5_ p1_ p4_)]
noncomputable abbrev m14_h41 (p0_:Bs) (p1_:Dcl) (p2_:Int) (p3_:List Dcl) (p4_:Fn):List (Nat×HB) :=
 [(0,.cells 9 [Jl p0_]),(1,Yf),(2,.cells 25 [DW 0]),(3,.cells 45 (DZ p1_)),(4,.cells 45 (DZ p1_)),(5,.cells 3 [DW p2_]),(6,.obj (.deferred (some []))),(7,YV p3_ p2_),(8,Wl p2_ p1_),(9,.cells 76 (DZ p4_))]
noncomputable abbrev m14_h42 (p0_:Bs) (p1_:Int) (p2_:Int) (p3_:Dcl) (p4_:Fn) (p5_:List Dcl):List (Nat×HB) :=
 [(0,.cells 9 [Jl p0_]),(1,m14_h38 p1_ p2_ p3_ p4_),(2,.cells 25 [DW 0]),(3,.cells 45 (DZ p3_)),(4,.cells 45 (DZ p3_)),(5,.cells 3 [DW p1_]),(6,.obj (.deferred (some []))),(7,YV p5_ p1_),(8,Wl p1_ p3_),(9,.cells 76 (DZ p4_))]
noncomputable abbrev m14_h43 (p0_:Bs) (p1_:Int) (p2_:Int) (p3_:Dcl) (p4_:Fn) (p5_:List Dcl):List (Nat×HB) :=
 [(0,.cells 9 [Jl p0_]),(1,m14_h38 p1_ p2_ p3_ p4_),(2,.cells 25 [DW 0]),(3,.cells 45 (DZ p3_)),(4,.cells 45 (DZ p3_)),(5,.cells 3 [DW p1_]),(6,.obj (.deferred (some []))),(7,Wm p5_ p1_)]
def Un (a0:List Dcl) (a1:Bs):Option (Ent×Int) :=
 Option.bind (Qq (WM a0 a1) QI 0) (Sum.elim (fun (o1:Unit)=>some ((⟨0,0,0,0,(Tm.mk 0 0 ([]:List UInt8) ([]:List Lvl) ([]:List Tm))⟩:Ent),9)) (fun o=>some o))
theorem Wk (a0:List Dcl) (a1:Bs) (r:Ent×Int) (h0:Un a0 a1=some r):Fun Try.prog 14 [.one (DU a0),.one (Jl a1)] (QP [.agg (DZ r.1),.one (DW r.2)]):=by
 unfold Un at h0
 refine QS 9 28 Try.func14 Z en_14 Z (DM Z) (fun S w=>?_)
 simp only [Jb]
 refine Q6<|Q0<|Q9 Z Z (DM Z) (QV Z)<|Q9 Z Z (DM Z) (Ql YZ Z)<|Q9 Z Z (DM Z) (Ql z_25 Z)<|Q3<|Q4<|Q6<|Q6<|Q0<|DE Z Z Z<|DD Z Z Z (QD (α:=Dcl) JW Z (.d _))<|DE Z Z Z<|Q3 ?_
 refine Q4<|Qh ?_
 refine J2 0 (fun (o1:Unit)=>⟨[(4,.v (.one (.ptr 1 0))),(5,.v (.one (.ptr 2 0)))],[(0,.cells 9 [Jl a1]),(1,Yf),(2,.cells 25 [DW 0])],[],3,28,[]⟩) (fun (o1:Unit)=>(some ((⟨0,0,0,0,(Tm.mk 0 0 ([]:List UInt8) ([]:List Lvl) ([]:List Tm))⟩:Ent),9))=some r) ?_ ?_
 refine Qd h0 (fun o2 hl1 h0=>?_)
 refine J1 (WM a0 a1) (fun s1=>⟨[(3,.v (.one (.ptr 0 0))),(4,.v (.one (.ptr 1 0))),(5,.v (.one (.ptr 2 0))),(10,.v (.one (DU a0))),(11,.v (.one (DW (a0.length:Int)))),(12,.v (.one (DW s1)))],[(0,.cells 9 [Jl a1]),(1,Yf),(2,.cells 25 [DW 0])],[],3,28,[]⟩) 0 o2 (DA (Nat.zero_le _) Z Z Z Z Z) hl1 (fun s1 n1 oo1 h1 ho1=>?_)
 unfold WM at h1
 refine Q6<|Q0<|DD Z Z Z (Q8 Z Z Z)<|Q3<|Q4<|Q6 ?_
 refine Qg (b:=(decide (s1 < (a0.length:Int)))) Z (fun c3=>?_) (fun c3=>?_)
 replace h1:=Qi c3 h1
 refine Qn<|Q4<|Q6<|Qh<|Q6<|Q0<|DE Z Z Z ?_
 refine Qd h1 (fun x4 hx4 h1=>?_)
 refine DD Z Z Z (Qy (α:=Dcl) JW Z (.d _) Z hx4)<|DD Z Z Z (Qt (x4:Dcl) JK Z)<|Q9 Z Z (DM Z) (Ql Xk Z)<|DF Z Z Z<|Qz Z Z (QC (x4:Dcl) JK Z Z Z Z Z)<|Q3<|Q4<|Q6<|Q0<|DD Z Z Z (QM (x4:Dcl) JK Z Z)<|DE Z Z Z ?_
 refine Qd h1 (fun y5 h2 h1=>?_)
 have hc6:CallM Try.prog 31 [.agg (DZ x4),.one (DW s1)] ⟨m14_h1 a1 x4,[],4⟩ (QP [.one (.fn 49 [(5,0),(4,0)])]) ⟨m14_h2 a1 x4 s1,[],6⟩:=by
  refine Jc ⟨[(4,.v (.one (.fn 49 [(5,0),(4,0)])))],m14_h2 a1 x4 s1,[],6,6,[]⟩ Z Z en_31 (DM Z) Z (QB Z .nil) (fun w0 M V0 Q hv2 hQ2=>?_)
  simp only [Jb]
  refine Q6<|Q0<|Q9 Z Z (DM Z) (QV Z)<|Q9 Z Z (DM Z) (QV Z)<|DF Z Z Z<|Q3<|Q4<|Q6<|Q0<|DD Z Z Z (RO.makeFunc2 Z Z)<|DF Z Z Z<|Q3<|Q4<|QE ?_
  have e:=DB h2;subst e
  exact hQ2 _ _ _ (.inr Z) Z (DA (Nat.le_trans hv2 (DM Z)) Z Z Z Z Z)
 refine Q9 Z Z (DM Z) (JO Z Z Z hc6 Z (hA Z) DN)<|Q3<|Q4<|Qh<|GG (st':=⟨[(3,.v (.one (.ptr 0 0))),(4,.v (.one (.ptr 1 0))),(5,.v (.one (.ptr 2 0))),(10,.v (.one (DU a0))),(11,.v (.one (DW (a0.length:Int)))),(12,.v (.one (DW s1))),(19,.v (.one (.fn 49 [(5,0),(4,0)])))],m14_h2 a1 x4 s1,[],6,28,[]⟩) (DA (Nat.zero_le _) Z Z Z Z Z) ?_
 refine Qd h1 (fun y10 h2 h1=>?_)
 have hc9:CallM Try.prog 49 [.one (.yld 7),.one (.ptr 5 0),.one (.ptr 4 0)] ⟨[(7,.loop .ready none [(3,.v (.one (.ptr 0 0))),(4,.v (.one (.ptr 1 0))),(5,.v (.one (.ptr 2 0))),(10,.v (.one (DU a0))),(11,.v (.one (DW (a0.length:Int)))),(12,.v (.one (DW s1))),(19,.v (.one (.fn 49 [(5,0),(4,0)])))] 28 #[20,21] K2 Y0 6),(6,.obj (.deferred (some []))),(0,.cells 9 [Jl a1]),(1,.cells 35 [DW 0,DW 0,DW 0,DW 0,DW 0,DW 0,Jl ([]:List UInt8),DV,DV]),(2,.cells 25 [DW 0]),(3,.cells 45 (DZ x4)),(4,.cells 45 (DZ x4)),(5,.cells 3 [DW s1])],[],8⟩ (QP []) ⟨(((Sum.elim (fun (y7:Unit)=>(⟨[],K1 a1 x4 s1 a0,[],9,98,[]⟩:St)) (fun (y8:Int×Int×Int×Int×Int×Bs×(List Lvl)×(List Tm))=>(⟨[],X3 a1 y8 s1 x4 a0,[],10,98,[]⟩:St)))) y10).hp,(((Sum.elim (fun (y7:Unit)=>(⟨[],K1 a1 x4 s1 a0,[],9,98,[]⟩:St)) (fun (y8:Int×Int×Int×Int×Int×Bs×(List Lvl)×(List Tm))=>(⟨[],X3 a1 y8 s1 x4 a0,[],10,98,[]⟩:St)))) y10).tk,(((Sum.elim (fun (y7:Unit)=>(⟨[],K1 a1 x4 s1 a0,[],9,98,[]⟩:St)) (fun (y8:Int×Int×Int×Int×Int×Bs×(List Lvl)×(List Tm))=>(⟨[],X3 a1 y8 s1 x4 a0,[],10,98,[]⟩:St)))) y10).nx⟩:=by
  refine CallM.of_bodyS y10 ((Sum.elim (fun (y7:Unit)=>(⟨[],K1 a1 x4 s1 a0,[],9,98,[]⟩:St)) (fun (y8:Int×Int×Int×Int×Int×Bs×(List Lvl)×(List Tm))=>(⟨[],X3 a1 y8 s1 x4 a0,[],10,98,[]⟩:St)))) rfl rfl en_49 (DM rfl) (fun z_=>by cases z_ <;> rfl) (fun z_=>.nil) (fun w0 M V0 Q hv2 hQ2=>?_)
  simp only [Jb]
  refine Q6<|Q0<|DD Z Z Z (Q5 QN Z Z Z)<|DD Z Z Z (Q2 Ya Z)<|DD Z Z Z (Q5 QN Z Z Z)<|DD Z Z Z (Q2 KU Z)<|DD Z Z Z (Qk QX Z Z Z Z)<|DD Z Z Z (Zn ZX Z Z Z Z Z)<|Q9 Z Z (DM Z) (Ql YZ Z)<|Qz Z Z (Qv Jg Z Z Z Z (DM Z) Z)<|Q3<|Q4<|Q6<|Q0 ?_
  refine DD Z Z Z (Q2 Yg Z)<|DD Z Z Z (Q5 QN Z Z Z)<|Q3<|Q4<|Qh<|Q6<|Q6<|Q0<|DD Z Z Z (Q8 Z Z Z)<|DF Z Z Z<|Q3<|Q4 ?_
  refine QO (fun (v11:Bool)=>⟨[(0,.v (.one (.yld 7))),(1,.v (.one (.ptr 5 0))),(2,.v (.one (.ptr 4 0))),(4,.v (.one (.ptr 8 0))),(16,.v (.one (DW x4.kind))),(17,.v (.one (DX v11)))],m14_h9 a1 x4 s1 a0,[],9,98,[]⟩) (fun (v11:Bool)=>(XH v11 x4 a1)=some y10) ?_ ?_
  refine Qd h2 (fun w3_ h3 h2=>?_)
  refine Qg (b:=(x4.kind==0)) Z (fun c12=>?_) (fun c12=>?_)
  replace h3:=Qi c12 h3
  refine Qn ?_
  have e:=DB h3;subst e
  exact Qb (x4.kind==0) (DA (Nat.le_trans hv2 (DM Z)) Z Z Z Z Z) h2
  replace h3:=Qj c12 h3
  refine Q6<|Q0<|DD Z Z Z (Q8 Z Z Z)<|DF Z Z Z<|Q3<|Q4 ?_
  refine Qg (b:=(x4.kind==1)) Z (fun c13=>?_) (fun c13=>?_)
  replace h3:=Qi c13 h3
  refine Qn ?_
  have e:=DB h3;subst e
  exact Qb (x4.kind==1) (DA (Nat.le_trans hv2 (DM Z)) Z Z Z Z Z) h2
  replace h3:=Qj c13 h3
  refine Q0<|DD Z Z Z (Q8 Z Z Z)<|DF Z Z Z<|Q3 ?_
  have e:=DB h3;subst e
  exact Qb (x4.kind==2) (DA (Nat.le_trans hv2 (DM Z)) Z Z Z Z Z) h2
  intro v11 h2
  unfold XH at h2
  refine Q4 ?_
  refine Qg (b:=v11) Z (fun c14=>?_) (fun c14=>?_)
  replace h2:=Qi c14 h2
  refine Q6<|Q0<|Q9 Z Z (DM Z) (OpOK.lit3E (α:=Int) 0 1 2 Wq Dp Z Z (DM Z) (DM Z) Z Z Z Z (.cons (.d _) (.cons (.d _) (.cons (.d _) .nil))) ⟨Z,Z,Z⟩)<|DD Z Z Z (Q2 Yg Z)<|DD Z Z Z (Q5 QN Z Z Z) ?_
  refine Qd h2 (fun x15 hx15 h2=>?_)
  refine DD Z Z Z (Qy (α:=Int) Wq Z (.app _ _) Z hx15)<|DD Z Z Z (Y1 QN Z Z)<|DD Z Z Z (Q2 YW Z)<|Qz Z Z (Qv QN Z Z Z Z (DM Z) Z)<|Q3<|Q4<|Q0<|DE Z Z Z<|DD Z Z Z (Q2 Yb Z)<|DD Z Z Z (Q5 JT Z Z Z)<|DD Z Z Z (Qk Jg Z Z Z Z) ?_
  refine Qd h2 (fun y18 h3 h2=>?_)
  have ha19:ExecOK Try.prog (some 7) K2 ⟨[(3,.v (.one (.ptr 0 0))),(4,.v (.one (.ptr 1 0))),(5,.v (.one (.ptr 2 0))),(10,.v (.one (DU a0))),(11,.v (.one (DW (a0.length:Int)))),(12,.v (.one (DW s1))),(19,.v (.one (.fn 49 [(5,0),(4,0)]))),(20,.v (.one (Jl x4.name))),(21,.v (.agg [DW x15,DW s1,DW 0,DW x4.params,DW x4.ty.kind,DW x4.ty.index,Jl x4.ty.name,DU x4.ty.levels,DU x4.ty.kids]))],m14_h11 a1 x4 s1 a0 x15,[(9,some ⟨3,1,(Enc.encL ([0,1,2]:List Int)).length,[]⟩)],10,28,[]⟩ .normal ⟨[(3,.v (.one (.ptr 0 0))),(4,.v (.one (.ptr 1 0))),(5,.v (.one (.ptr 2 0))),(8,.v (.one (Jl x4.name))),(9,.v (.one (.ptr 10 0)))],m14_h14 a1 x4 s1 a0 x15,[(9,some ⟨3,1,(Enc.encL ([0,1,2]:List Int)).length,[]⟩)],11,28,[]⟩:=by
   refine QK (fun w0 M V0 ro n Q hv3 hro3 hQn3=>?_)
   refine Q6<|Q0<|DF Z Z Z<|Q3<|Q4<|Q0<|Q9 Z Z (DM Z) (Ql YZ Z)<|Qz Z Z (Qv Jg Z Z Z Z (DM Z) Z)<|Q3 ?_
   exact Jw hQn3 (DA (Nat.le_trans hv3 (DM Z)) Z Z Z Z Z)
  have hb20:ExecOK Try.prog (some 7) Y0 ⟨[(3,.v (.one (.ptr 0 0))),(4,.v (.one (.ptr 1 0))),(5,.v (.one (.ptr 2 0))),(8,.v (.one (Jl x4.name))),(9,.v (.one (.ptr 10 0)))],m14_h13 a1 x4 s1 a0 x15,[(9,some ⟨3,1,(Enc.encL ([0,1,2]:List Int)).length,[]⟩)],11,28,[]⟩ ((Sum.elim (fun (_:Unit)=>(.normal:Exit)) (fun (_:Unit)=>(.ret:Exit))) y18) ((Sum.elim (fun (y16:Unit)=>(⟨[],m14_h15 a1 x4 s1 a0 x15,[(9,some ⟨3,1,(Enc.encL ([0,1,2]:List Int)).length,[]⟩)],11,28,[]⟩:St)) (fun (y17:Unit)=>(⟨[],m14_h16 a1 x15 s1 x4 a0,[(9,some ⟨3,1,(Enc.encL ([0,1,2]:List Int)).length,[]⟩)],11,28,[]⟩:St))) y18):=by
   refine QK (fun w0 M V0 ro n Q hv3 hro3 hQn3=>?_)
   refine Qh<|Q6<|Q0<|DE Z Z Z<|DD Z Z Z (Q5 JT Z Z Z)<|DD Z Z Z (GJ Z Z)<|Q3<|Q4 ?_
   refine Qg (b:=(x4.name==a1)) Z (fun c21=>?_) (fun c21=>?_)
   replace h3:=Qi c21 h3
   refine Q6<|Q0<|DD Z Z Z (Qk Jg Z Z Z Z)<|Qz Z Z (Qv Jg Z Z Z Z (DM Z) Z)<|Qz Z Z (Qv ZE Z Z Z Z (DM Z) Z)<|Q3<|Q4<|QE ?_
   have e:=DB h3;subst e
   exact Jw (e:=.ret) (st':=⟨[],m14_h16 a1 x15 s1 x4 a0,[(9,some ⟨3,1,(Enc.encL ([0,1,2]:List Int)).length,[]⟩)],11,28,[]⟩) hQn3 (DA (Nat.le_trans hv3 (DM Z)) Z Z Z Z Z)
   replace h3:=Qj c21 h3
   refine Qn<|Qf ?_
   have e:=DB h3;subst e
   exact Jw (e:=.normal) (st':=⟨[],m14_h15 a1 x4 s1 a0 x15,[(9,some ⟨3,1,(Enc.encL ([0,1,2]:List Int)).length,[]⟩)],11,28,[]⟩) hQn3 (DA (Nat.le_trans hv3 (DM Z)) Z Z Z Z Z)
  refine W7 (C:=fun q_=>ExecOK Try.prog (some 7) Y0 ⟨[(3,.v (.one (.ptr 0 0))),(4,.v (.one (.ptr 1 0))),(5,.v (.one (.ptr 2 0))),(8,.v (.one (Jl x4.name))),(9,.v (.one (.ptr 10 0)))],m14_h13 a1 x4 s1 a0 x15,[(9,some ⟨3,1,(Enc.encL ([0,1,2]:List Int)).length,[]⟩)],11,28,[]⟩ ((Sum.elim (fun (_:Unit)=>(.normal:Exit)) (fun (_:Unit)=>(.ret:Exit))) q_) ((Sum.elim (fun (y16:Unit)=>(⟨[],m14_h15 a1 x4 s1 a0 x15,[(9,some ⟨3,1,(Enc.encL ([0,1,2]:List Int)).length,[]⟩)],11,28,[]⟩:St)) (fun (y17:Unit)=>(⟨[],m14_h16 a1 x15 s1 x4 a0,[(9,some ⟨3,1,(Enc.encL ([0,1,2]:List Int)).length,[]⟩)],11,28,[]⟩:St))) q_)) hb20 h2 (fun y16 hb20 h2=>?_) (fun y17 hb20 h2=>?_)
  replace hb20:ExecOK Try.prog (some 7) Y0 ⟨[(3,.v (.one (.ptr 0 0))),(4,.v (.one (.ptr 1 0))),(5,.v (.one (.ptr 2 0))),(8,.v (.one (Jl x4.name))),(9,.v (.one (.ptr 10 0)))],m14_h13 a1 x4 s1 a0 x15,[(9,some ⟨3,1,(Enc.encL ([0,1,2]:List Int)).length,[]⟩)],11,28,[]⟩ .normal ⟨[],m14_h15 a1 x4 s1 a0 x15,[(9,some ⟨3,1,(Enc.encL ([0,1,2]:List Int)).length,[]⟩)],11,28,[]⟩:=hb20
  refine Q9 Z Z (DM Z) (Jd (jump:=none) Z Z Z Z Z (Qw ha19 (fun E hv=>(DA (Nat.le_trans hv (DM Z)) Z Z Z Z Z))) Z (Qw hb20 (fun E hv=>(DA (Nat.le_trans hv (DM Z)) Z Z Z Z Z))) Z Z) ?_
  refine Q3<|Qf ?_
  have e:=DB h2;subst e
  exact hQ2 _ _ _ (.inl Z) Z (show StLe _ _ ⟨[],K1 a1 x4 s1 a0,[],9,98,[]⟩ from (DA (Nat.le_trans hv2 (DM Z)) Z Z Z Z Z))
  replace hb20:ExecOK Try.prog (some 7) Y0 ⟨[(3,.v (.one (.ptr 0 0))),(4,.v (.one (.ptr 1 0))),(5,.v (.one (.ptr 2 0))),(8,.v (.one (Jl x4.name))),(9,.v (.one (.ptr 10 0)))],m14_h13 a1 x4 s1 a0 x15,[(9,some ⟨3,1,(Enc.encL ([0,1,2]:List Int)).length,[]⟩)],11,28,[]⟩ .ret ⟨[],m14_h16 a1 x15 s1 x4 a0,[(9,some ⟨3,1,(Enc.encL ([0,1,2]:List Int)).length,[]⟩)],11,28,[]⟩:=hb20
  refine Q9 Z Z (DM Z) (Jd (jump:=(some .ret)) Z Z Z Z Z (Qw ha19 (fun E hv=>(DA (Nat.le_trans hv (DM Z)) Z Z Z Z Z))) Z (Qw hb20 (fun E hv=>(DA (Nat.le_trans hv (DM Z)) Z Z Z Z Z))) Z Z) ?_
  refine Q3<|Qf ?_
  have e:=DB h2;subst e
  exact hQ2 _ _ _ (.inl Z) Z (show StLe _ _ ⟨[],m14_h17 a1 x15 s1 x4 a0,[],10,98,[]⟩ from (DA (Nat.le_trans hv2 (DM Z)) Z Z Z Z Z))
  replace h2:=Qj c14 h2
  refine Q6<|Q0<|DD Z Z Z (Q8 Z Z Z)<|DF Z Z Z<|Q3<|Q4 ?_
  refine Qg (b:=(x4.kind==3)) Z (fun c22=>?_) (fun c22=>?_)
  replace h2:=Qi c22 h2
  refine Q6<|Q0<|DD Z Z Z (Q2 YW Z)<|Qz Z Z (Qv QN Z Z Z Z (DM Z) Z)<|Q3<|Q4<|Q6<|Q6<|Q0<|DE Z Z Z<|DD Z Z Z (Q2 Yb Z)<|DD Z Z Z (Q5 JT Z Z Z)<|DD Z Z Z (Qk Jg Z Z Z Z) ?_
  refine Qd h2 (fun y25 h3 h2=>?_)
  have ha26:ExecOK Try.prog (some 7) K2 ⟨[(3,.v (.one (.ptr 0 0))),(4,.v (.one (.ptr 1 0))),(5,.v (.one (.ptr 2 0))),(10,.v (.one (DU a0))),(11,.v (.one (DW (a0.length:Int)))),(12,.v (.one (DW s1))),(19,.v (.one (.fn 49 [(5,0),(4,0)]))),(20,.v (.one (Jl x4.name))),(21,.v (.agg [DW 3,DW s1,DW 0,DW x4.params,DW x4.ty.kind,DW x4.ty.index,Jl x4.ty.name,DU x4.ty.levels,DU x4.ty.kids]))],m14_h19 a1 x4 s1 a0,[],9,28,[]⟩ .normal ⟨[(3,.v (.one (.ptr 0 0))),(4,.v (.one (.ptr 1 0))),(5,.v (.one (.ptr 2 0))),(8,.v (.one (Jl x4.name))),(9,.v (.one (.ptr 9 0)))],m14_h21 a1 x4 s1 a0,[],10,28,[]⟩:=by
   refine QK (fun w0 M V0 ro n Q hv3 hro3 hQn3=>?_)
   refine Q6<|Q0<|DF Z Z Z<|Q3<|Q4<|Q0<|Q9 Z Z (DM Z) (Ql YZ Z)<|Qz Z Z (Qv Jg Z Z Z Z (DM Z) Z)<|Q3 ?_
   exact Jw hQn3 (DA (Nat.le_trans hv3 (DM Z)) Z Z Z Z Z)
  have hb27:ExecOK Try.prog (some 7) Y0 ⟨[(3,.v (.one (.ptr 0 0))),(4,.v (.one (.ptr 1 0))),(5,.v (.one (.ptr 2 0))),(8,.v (.one (Jl x4.name))),(9,.v (.one (.ptr 9 0)))],m14_h20 a1 x4 s1 a0,[],10,28,[]⟩ ((Sum.elim (fun (_:Unit)=>(.normal:Exit)) (fun (_:Unit)=>(.ret:Exit))) y25) ((Sum.elim (fun (y23:Unit)=>(⟨[],KM a1 x4 s1 a0,[],10,28,[]⟩:St)) (fun (y24:Unit)=>(⟨[],m14_h23 a1 s1 x4 a0,[],10,28,[]⟩:St))) y25):=by
   refine QK (fun w0 M V0 ro n Q hv3 hro3 hQn3=>?_)
   refine Qh<|Q6<|Q0<|DE Z Z Z<|DD Z Z Z (Q5 JT Z Z Z)<|DD Z Z Z (GJ Z Z)<|Q3<|Q4 ?_
   refine Qg (b:=(x4.name==a1)) Z (fun c28=>?_) (fun c28=>?_)
   replace h3:=Qi c28 h3
   refine Q6<|Q0<|DD Z Z Z (Qk Jg Z Z Z Z)<|Qz Z Z (Qv Jg Z Z Z Z (DM Z) Z)<|Qz Z Z (Qv ZE Z Z Z Z (DM Z) Z)<|Q3<|Q4<|QE ?_
   have e:=DB h3;subst e
   exact Jw (e:=.ret) (st':=⟨[],m14_h23 a1 s1 x4 a0,[],10,28,[]⟩) hQn3 (DA (Nat.le_trans hv3 (DM Z)) Z Z Z Z Z)
   replace h3:=Qj c28 h3
   refine Qn<|Qf ?_
   have e:=DB h3;subst e
   exact Jw (e:=.normal) (st':=⟨[],KM a1 x4 s1 a0,[],10,28,[]⟩) hQn3 (DA (Nat.le_trans hv3 (DM Z)) Z Z Z Z Z)
  refine W7 (C:=fun q_=>ExecOK Try.prog (some 7) Y0 ⟨[(3,.v (.one (.ptr 0 0))),(4,.v (.one (.ptr 1 0))),(5,.v (.one (.ptr 2 0))),(8,.v (.one (Jl x4.name))),(9,.v (.one (.ptr 9 0)))],m14_h20 a1 x4 s1 a0,[],10,28,[]⟩ ((Sum.elim (fun (_:Unit)=>(.normal:Exit)) (fun (_:Unit)=>(.ret:Exit))) q_) ((Sum.elim (fun (y23:Unit)=>(⟨[],KM a1 x4 s1 a0,[],10,28,[]⟩:St)) (fun (y24:Unit)=>(⟨[],m14_h23 a1 s1 x4 a0,[],10,28,[]⟩:St))) q_)) hb27 h2 (fun y23 hb27 h2=>?_) (fun y24 hb27 h2=>?_)
  replace hb27:ExecOK Try.prog (some 7) Y0 ⟨[(3,.v (.one (.ptr 0 0))),(4,.v (.one (.ptr 1 0))),(5,.v (.one (.ptr 2 0))),(8,.v (.one (Jl x4.name))),(9,.v (.one (.ptr 9 0)))],m14_h20 a1 x4 s1 a0,[],10,28,[]⟩ .normal ⟨[],KM a1 x4 s1 a0,[],10,28,[]⟩:=hb27
  refine Q9 Z Z (DM Z) (Jd (jump:=none) Z Z Z Z Z (Qw ha26 (fun E hv=>(DA (Nat.le_trans hv (DM Z)) Z Z Z Z Z))) Z (Qw hb27 (fun E hv=>(DA (Nat.le_trans hv (DM Z)) Z Z Z Z Z))) Z Z) ?_
  refine DD Z Z Z (Jj Z)<|Q3<|Q4 ?_
  refine Qg Z (fun h=>nomatch h) (fun _=>?_)
  refine Qn<|Q4<|Q6<|Q6<|Q0<|DD Z Z Z (Q2 Yz Z)<|DD Z Z Z (Q5 ZY Z Z Z)<|DD Z Z Z (QD (α:=Ctr) YL Z (.d _))<|DE Z Z Z<|Q3<|Q4<|Qh ?_
  refine J2 1 (fun (o29:Unit)=>⟨[(0,.v (.one (.yld 7))),(1,.v (.one (.ptr 5 0))),(2,.v (.one (.ptr 4 0)))],m14_h19 a1 x4 s1 a0,[],10,98,[]⟩) (fun (o29:Unit)=>(WN x4 a1)=some y10) ?_ ?_
  refine Qd h2 (fun o30 hl3 h2=>?_)
  refine J1 (X2 x4 a1) (fun s3=>⟨[(0,.v (.one (.yld 7))),(1,.v (.one (.ptr 5 0))),(2,.v (.one (.ptr 4 0))),(42,.v (.one (DU x4.ctors))),(43,.v (.one (DW (x4.ctors.length:Int)))),(44,.v (.one (DW s3)))],m14_h19 a1 x4 s1 a0,[],10,98,[]⟩) 0 o30 (DA (Nat.le_trans hv2 (DM Z)) Z Z Z Z Z) hl3 (fun s3 n3 oo3 h3 ho3=>?_)
  unfold X2 at h3
  refine Q6<|Q0<|DD Z Z Z (Q8 Z Z Z)<|Q3<|Q4<|Q6 ?_
  refine Qg (b:=(decide (s3 < (x4.ctors.length:Int)))) Z (fun c31=>?_) (fun c31=>?_)
  replace h3:=Qi c31 h3
  refine Qn<|Q4<|Q6<|Qh<|Q6<|Q0<|DE Z Z Z ?_
  refine Qd h3 (fun x32 hx32 h3=>?_)
  refine DD Z Z Z (Qy (α:=Ctr) YL Z (.d _) Z hx32)<|DD Z Z Z (Qt (x32:Ctr) K5 Z)<|Q9 Z Z (DM Z) (Ql U9 Z)<|DF Z Z Z<|Qz Z Z (QC (x32:Ctr) K5 Z Z Z Z Z)<|Q3<|Q4<|Q6<|Q0<|DE Z Z Z<|DD Z Z Z (Q2 KT Z)<|DD Z Z Z (Q5 JT Z Z Z)<|DD Z Z Z (Q5 QN Z Z Z)<|DE Z Z Z ?_
  refine DD Z Z Z (Q2 Ya Z)<|DD Z Z Z (Q5 QN Z Z Z)<|DD Z Z Z (Q2 KS Z)<|DD Z Z Z (Qk QX Z Z Z Z)<|DD Z Z Z (JR ZX Z (.cons Z (.cons Z (.cons Z (.cons Z (.cons Z .nil))))) Z) ?_
  refine Qd h3 (fun y35 h4 h3=>?_)
  have ha36:ExecOK Try.prog (some 7) K2 ⟨[(3,.v (.one (.ptr 0 0))),(4,.v (.one (.ptr 1 0))),(5,.v (.one (.ptr 2 0))),(10,.v (.one (DU a0))),(11,.v (.one (DW (a0.length:Int)))),(12,.v (.one (DW s1))),(19,.v (.one (.fn 49 [(5,0),(4,0)]))),(20,.v (.one (Jl x32.name))),(21,.v (.agg [DW 4,DW s1,DW s3,DW x4.params,DW x32.ty.kind,DW x32.ty.index,Jl x32.ty.name,DU x32.ty.levels,DU x32.ty.kids]))],m14_h24 a1 x4 s1 a0 x32,[],11,28,[]⟩ .normal ⟨[(3,.v (.one (.ptr 0 0))),(4,.v (.one (.ptr 1 0))),(5,.v (.one (.ptr 2 0))),(8,.v (.one (Jl x32.name))),(9,.v (.one (.ptr 11 0)))],m14_h27 a1 x4 s1 a0 x32 s3,[],12,28,[]⟩:=by
   refine QK (fun w0 M V0 ro n Q hv4 hro4 hQn4=>?_)
   refine Q6<|Q0<|DF Z Z Z<|Q3<|Q4<|Q0<|Q9 Z Z (DM Z) (Ql YZ Z)<|Qz Z Z (Qv Jg Z Z Z Z (DM Z) Z)<|Q3 ?_
   exact Jw hQn4 (DA (Nat.le_trans hv4 (DM Z)) Z Z Z Z Z)
  have hb37:ExecOK Try.prog (some 7) Y0 ⟨[(3,.v (.one (.ptr 0 0))),(4,.v (.one (.ptr 1 0))),(5,.v (.one (.ptr 2 0))),(8,.v (.one (Jl x32.name))),(9,.v (.one (.ptr 11 0)))],m14_h26 a1 x4 s1 a0 x32 s3,[],12,28,[]⟩ ((Sum.elim (fun (_:Unit)=>(.normal:Exit)) (fun (_:Unit)=>(.ret:Exit))) y35) ((Sum.elim (fun (y33:Unit)=>(⟨[],m14_h28 a1 x4 s1 a0 x32,[],12,28,[]⟩:St)) (fun (y34:Unit)=>(⟨[],m14_h29 a1 s1 s3 x4 x32 a0,[],12,28,[]⟩:St))) y35):=by
   refine QK (fun w0 M V0 ro n Q hv4 hro4 hQn4=>?_)
   refine Qh<|Q6<|Q0<|DE Z Z Z<|DD Z Z Z (Q5 JT Z Z Z)<|DD Z Z Z (GJ Z Z)<|Q3<|Q4 ?_
   refine Qg (b:=(x32.name==a1)) Z (fun c38=>?_) (fun c38=>?_)
   replace h4:=Qi c38 h4
   refine Q6<|Q0<|DD Z Z Z (Qk Jg Z Z Z Z)<|Qz Z Z (Qv Jg Z Z Z Z (DM Z) Z)<|Qz Z Z (Qv ZE Z Z Z Z (DM Z) Z)<|Q3<|Q4<|QE ?_
   have e:=DB h4;subst e
   exact Jw (e:=.ret) (st':=⟨[],m14_h29 a1 s1 s3 x4 x32 a0,[],12,28,[]⟩) hQn4 (DA (Nat.le_trans hv4 (DM Z)) Z Z Z Z Z)
   replace h4:=Qj c38 h4
   refine Qn<|Qf ?_
   have e:=DB h4;subst e
   exact Jw (e:=.normal) (st':=⟨[],m14_h28 a1 x4 s1 a0 x32,[],12,28,[]⟩) hQn4 (DA (Nat.le_trans hv4 (DM Z)) Z Z Z Z Z)
  refine W7 (C:=fun q_=>ExecOK Try.prog (some 7) Y0 ⟨[(3,.v (.one (.ptr 0 0))),(4,.v (.one (.ptr 1 0))),(5,.v (.one (.ptr 2 0))),(8,.v (.one (Jl x32.name))),(9,.v (.one (.ptr 11 0)))],m14_h26 a1 x4 s1 a0 x32 s3,[],12,28,[]⟩ ((Sum.elim (fun (_:Unit)=>(.normal:Exit)) (fun (_:Unit)=>(.ret:Exit))) q_) ((Sum.elim (fun (y33:Unit)=>(⟨[],m14_h28 a1 x4 s1 a0 x32,[],12,28,[]⟩:St)) (fun (y34:Unit)=>(⟨[],m14_h29 a1 s1 s3 x4 x32 a0,[],12,28,[]⟩:St))) q_)) hb37 h3 (fun y33 hb37 h3=>?_) (fun y34 hb37 h3=>?_)
  replace hb37:ExecOK Try.prog (some 7) Y0 ⟨[(3,.v (.one (.ptr 0 0))),(4,.v (.one (.ptr 1 0))),(5,.v (.one (.ptr 2 0))),(8,.v (.one (Jl x32.name))),(9,.v (.one (.ptr 11 0)))],m14_h26 a1 x4 s1 a0 x32 s3,[],12,28,[]⟩ .normal ⟨[],m14_h28 a1 x4 s1 a0 x32,[],12,28,[]⟩:=hb37
  refine Q9 Z Z (DM Z) (Jd (jump:=none) Z Z Z Z Z (Qw ha36 (fun E hv=>(DA (Nat.le_trans hv (DM Z)) Z Z Z Z Z))) Z (Qw hb37 (fun E hv=>(DA (Nat.le_trans hv (DM Z)) Z Z Z Z Z))) Z Z) ?_
  refine DD Z Z Z (Jj Z)<|Q3<|Q4 ?_
  refine Qg Z (fun h=>nomatch h) (fun _=>?_)
  refine Qn<|Qf<|Q4<|Q0<|DD Z Z Z (Q8 Z Z Z)<|DE Z Z Z<|Q3 ?_
  have e:=DB h3;subst e
  refine QW (Ja (s3+1)) (DA (Nat.le_trans hv2 (DM Z)) Z Z Z Z Z) ho3
  replace hb37:ExecOK Try.prog (some 7) Y0 ⟨[(3,.v (.one (.ptr 0 0))),(4,.v (.one (.ptr 1 0))),(5,.v (.one (.ptr 2 0))),(8,.v (.one (Jl x32.name))),(9,.v (.one (.ptr 11 0)))],m14_h26 a1 x4 s1 a0 x32 s3,[],12,28,[]⟩ .ret ⟨[],m14_h29 a1 s1 s3 x4 x32 a0,[],12,28,[]⟩:=hb37
  refine Q9 Z Z (DM Z) (Jd (jump:=(some .ret)) Z Z Z Z Z (Qw ha36 (fun E hv=>(DA (Nat.le_trans hv (DM Z)) Z Z Z Z Z))) Z (Qw hb37 (fun E hv=>(DA (Nat.le_trans hv (DM Z)) Z Z Z Z Z))) Z Z) ?_
  refine DD Z Z Z (Jj Z)<|Q3<|Q4 ?_
  refine Qg Z (fun _=>?_) (fun h=>nomatch h)
  refine QE ?_
  have e:=DB h3;subst e
  have e_:_=_:=ho3
  subst e_
  try dsimp only [Sum.elim_inl,Sum.elim_inr] at h2
  have e:=DB h2;subst e
  exact hQ2 _ _ _ (.inr Z) Z (show StLe _ _ ⟨[],m14_h30 a1 s1 s3 x4 x32 a0,[],10,98,[]⟩ from (DA (Nat.le_trans hv2 (DM Z)) Z Z Z Z Z))
  replace h3:=Qj c31 h3
  refine J8<|Qr<|Qr ?_
  have e:=DB h3;subst e
  have e_:_=_:=ho3
  subst e_
  exact J0 () (DA (Nat.le_trans hv2 (DM Z)) Z Z Z Z Z) h2
  intro o29 h2
  unfold WN at h2
  refine QQ<|Q4<|Q0<|DE Z Z Z<|DD Z Z Z (Q2 Yb Z)<|DD Z Z Z (Q5 JT Z Z Z) ?_
  refine YI h2 (fun g39 h2=>?_)
  refine DD Z Z Z (Xj Z Z g39)<|DD Z Z Z (Q5 QN Z Z Z)<|DD Z Z Z (Q2 JU Z)<|DD Z Z Z (Q2 KV Z)<|DD Z Z Z (Q5 QN Z Z Z)<|DD Z Z Z (Q2 JU Z)<|DD Z Z Z (Q2 GF Z)<|DD Z Z Z (Qk QX Z Z Z Z)<|DD Z Z Z (JR ZX Z (.cons Z (.cons Z (.cons Z (.cons Z .nil)))) Z) ?_
  refine Qd h2 (fun y42 h3 h2=>?_)
  have ha43:ExecOK Try.prog (some 7) K2 ⟨[(3,.v (.one (.ptr 0 0))),(4,.v (.one (.ptr 1 0))),(5,.v (.one (.ptr 2 0))),(10,.v (.one (DU a0))),(11,.v (.one (DW (a0.length:Int)))),(12,.v (.one (DW s1))),(19,.v (.one (.fn 49 [(5,0),(4,0)]))),(20,.v (.one (Jl (x4.name++([46,114,101,99]:List UInt8))))),(21,.v (.agg [DW 5,DW s1,DW 0,DW x4.rcr.params,DW x4.rcr.ty.kind,DW x4.rcr.ty.index,Jl x4.rcr.ty.name,DU x4.rcr.ty.levels,DU x4.rcr.ty.kids]))],m14_h19 a1 x4 s1 a0,[],10,28,[]⟩ .normal ⟨[(3,.v (.one (.ptr 0 0))),(4,.v (.one (.ptr 1 0))),(5,.v (.one (.ptr 2 0))),(8,.v (.one (Jl (x4.name++([46,114,101,99]:List UInt8))))),(9,.v (.one (.ptr 10 0)))],m14_h33 a1 x4 s1 a0,[],11,28,[]⟩:=by
   refine QK (fun w0 M V0 ro n Q hv3 hro3 hQn3=>?_)
   refine Q6<|Q0<|DF Z Z Z<|Q3<|Q4<|Q0<|Q9 Z Z (DM Z) (Ql YZ Z)<|Qz Z Z (Qv Jg Z Z Z Z (DM Z) Z)<|Q3 ?_
   exact Jw hQn3 (DA (Nat.le_trans hv3 (DM Z)) Z Z Z Z Z)
  have hb44:ExecOK Try.prog (some 7) Y0 ⟨[(3,.v (.one (.ptr 0 0))),(4,.v (.one (.ptr 1 0))),(5,.v (.one (.ptr 2 0))),(8,.v (.one (Jl (x4.name++([46,114,101,99]:List UInt8))))),(9,.v (.one (.ptr 10 0)))],m14_h32 a1 x4 s1 a0,[],11,28,[]⟩ ((Sum.elim (fun (_:Unit)=>(.normal:Exit)) (fun (_:Unit)=>(.ret:Exit))) y42) ((Sum.elim (fun (y40:Unit)=>(⟨[],KM a1 x4 s1 a0,[],11,28,[]⟩:St)) (fun (y41:Unit)=>(⟨[],m14_h34 a1 s1 x4 a0,[],11,28,[]⟩:St))) y42):=by
   refine QK (fun w0 M V0 ro n Q hv3 hro3 hQn3=>?_)
   refine Qh<|Q6<|Q0<|DE Z Z Z<|DD Z Z Z (Q5 JT Z Z Z)<|DD Z Z Z (GJ Z Z)<|Q3<|Q4 ?_
   refine Qg (b:=((x4.name++([46,114,101,99]:List UInt8))==a1)) Z (fun c45=>?_) (fun c45=>?_)
   replace h3:=Qi c45 h3
   refine Q6<|Q0<|DD Z Z Z (Qk Jg Z Z Z Z)<|Qz Z Z (Qv Jg Z Z Z Z (DM Z) Z)<|Qz Z Z (Qv ZE Z Z Z Z (DM Z) Z)<|Q3<|Q4<|QE ?_
   have e:=DB h3;subst e
   exact Jw (e:=.ret) (st':=⟨[],m14_h34 a1 s1 x4 a0,[],11,28,[]⟩) hQn3 (DA (Nat.le_trans hv3 (DM Z)) Z Z Z Z Z)
   replace h3:=Qj c45 h3
   refine Qn<|Qf ?_
   have e:=DB h3;subst e
   exact Jw (e:=.normal) (st':=⟨[],KM a1 x4 s1 a0,[],11,28,[]⟩) hQn3 (DA (Nat.le_trans hv3 (DM Z)) Z Z Z Z Z)
  refine W7 (C:=fun q_=>ExecOK Try.prog (some 7) Y0 ⟨[(3,.v (.one (.ptr 0 0))),(4,.v (.one (.ptr 1 0))),(5,.v (.one (.ptr 2 0))),(8,.v (.one (Jl (x4.name++([46,114,101,99]:List UInt8))))),(9,.v (.one (.ptr 10 0)))],m14_h32 a1 x4 s1 a0,[],11,28,[]⟩ ((Sum.elim (fun (_:Unit)=>(.normal:Exit)) (fun (_:Unit)=>(.ret:Exit))) q_) ((Sum.elim (fun (y40:Unit)=>(⟨[],KM a1 x4 s1 a0,[],11,28,[]⟩:St)) (fun (y41:Unit)=>(⟨[],m14_h34 a1 s1 x4 a0,[],11,28,[]⟩:St))) q_)) hb44 h2 (fun y40 hb44 h2=>?_) (fun y41 hb44 h2=>?_)
  replace hb44:ExecOK Try.prog (some 7) Y0 ⟨[(3,.v (.one (.ptr 0 0))),(4,.v (.one (.ptr 1 0))),(5,.v (.one (.ptr 2 0))),(8,.v (.one (Jl (x4.name++([46,114,101,99]:List UInt8))))),(9,.v (.one (.ptr 10 0)))],m14_h32 a1 x4 s1 a0,[],11,28,[]⟩ .normal ⟨[],KM a1 x4 s1 a0,[],11,28,[]⟩:=hb44
  refine Q9 Z Z (DM Z) (Jd (jump:=none) Z Z Z Z Z (Qw ha43 (fun E hv=>(DA (Nat.le_trans hv (DM Z)) Z Z Z Z Z))) Z (Qw hb44 (fun E hv=>(DA (Nat.le_trans hv (DM Z)) Z Z Z Z Z))) Z Z) ?_
  refine Q3<|Qf ?_
  have e:=DB h2;subst e
  exact hQ2 _ _ _ (.inl Z) Z (show StLe _ _ ⟨[],K1 a1 x4 s1 a0,[],9,98,[]⟩ from (DA (Nat.le_trans hv2 (DM Z)) Z Z Z Z Z))
  replace hb44:ExecOK Try.prog (some 7) Y0 ⟨[(3,.v (.one (.ptr 0 0))),(4,.v (.one (.ptr 1 0))),(5,.v (.one (.ptr 2 0))),(8,.v (.one (Jl (x4.name++([46,114,101,99]:List UInt8))))),(9,.v (.one (.ptr 10 0)))],m14_h32 a1 x4 s1 a0,[],11,28,[]⟩ .ret ⟨[],m14_h34 a1 s1 x4 a0,[],11,28,[]⟩:=hb44
  refine Q9 Z Z (DM Z) (Jd (jump:=(some .ret)) Z Z Z Z Z (Qw ha43 (fun E hv=>(DA (Nat.le_trans hv (DM Z)) Z Z Z Z Z))) Z (Qw hb44 (fun E hv=>(DA (Nat.le_trans hv (DM Z)) Z Z Z Z Z))) Z Z) ?_
  refine Q3<|Qf ?_
  have e:=DB h2;subst e
  exact hQ2 _ _ _ (.inl Z) Z (show StLe _ _ ⟨[],m14_h35 a1 s1 x4 a0,[],10,98,[]⟩ from (DA (Nat.le_trans hv2 (DM Z)) Z Z Z Z Z))
  replace hb27:ExecOK Try.prog (some 7) Y0 ⟨[(3,.v (.one (.ptr 0 0))),(4,.v (.one (.ptr 1 0))),(5,.v (.one (.ptr 2 0))),(8,.v (.one (Jl x4.name))),(9,.v (.one (.ptr 9 0)))],m14_h20 a1 x4 s1 a0,[],10,28,[]⟩ .ret ⟨[],m14_h23 a1 s1 x4 a0,[],10,28,[]⟩:=hb27
  refine Q9 Z Z (DM Z) (Jd (jump:=(some .ret)) Z Z Z Z Z (Qw ha26 (fun E hv=>(DA (Nat.le_trans hv (DM Z)) Z Z Z Z Z))) Z (Qw hb27 (fun E hv=>(DA (Nat.le_trans hv (DM Z)) Z Z Z Z Z))) Z Z) ?_
  refine DD Z Z Z (Jj Z)<|Q3<|Q4 ?_
  refine Qg Z (fun _=>?_) (fun h=>nomatch h)
  refine QE ?_
  have e:=DB h2;subst e
  exact hQ2 _ _ _ (.inr Z) Z (show StLe _ _ ⟨[],m14_h36 a1 s1 x4 a0,[],10,98,[]⟩ from (DA (Nat.le_trans hv2 (DM Z)) Z Z Z Z Z))
  replace h2:=Qj c22 h2
  refine Q6<|Q0<|DD Z Z Z (Q8 Z Z Z)<|DF Z Z Z<|Q3<|Q4 ?_
  refine Qg (b:=(x4.kind==4)) Z (fun c46=>?_) (fun c46=>?_)
  replace h2:=Qi c46 h2
  refine Q6<|Q0<|DD Z Z Z (Q2 YF Z)<|DD Z Z Z (Q5 K6 Z Z Z)<|DD Z Z Z (QD (α:=Fn) YT Z (.d _))<|DE Z Z Z<|Q3<|Q4<|Qh ?_
  refine J2 3 (fun (o47:Unit)=>⟨[],m14_h9 a1 x4 s1 a0,[],9,98,[]⟩) (fun (o47:Unit)=>(some (.inl ()))=some y10) ?_ ?_
  refine Qd h2 (fun o48 hl3 h2=>?_)
  refine J1 (X1 x4 a1) (fun s3=>⟨[(0,.v (.one (.yld 7))),(1,.v (.one (.ptr 5 0))),(2,.v (.one (.ptr 4 0))),(78,.v (.one (DU x4.funs))),(79,.v (.one (DW (x4.funs.length:Int)))),(80,.v (.one (DW s3)))],m14_h9 a1 x4 s1 a0,[],9,98,[]⟩) 0 o48 (DA (Nat.le_trans hv2 (DM Z)) Z Z Z Z Z) hl3 (fun s3 n3 oo3 h3 ho3=>?_)
  unfold X1 at h3
  refine Q6<|Q0<|DD Z Z Z (Q8 Z Z Z)<|Q3<|Q4<|Q6 ?_
  refine Qg (b:=(decide (s3 < (x4.funs.length:Int)))) Z (fun c49=>?_) (fun c49=>?_)
  replace h3:=Qi c49 h3
  refine Qn<|Q4<|Q6<|Qh<|Q6<|Q0<|DE Z Z Z ?_
  refine Qd h3 (fun x50 hx50 h3=>?_)
  refine DD Z Z Z (Qy (α:=Fn) YT Z (.d _) Z hx50)<|DD Z Z Z (Qt (x50:Fn) K4 Z)<|Q9 Z Z (DM Z) (Ql Ue Z)<|DF Z Z Z<|Qz Z Z (QC (x50:Fn) K4 Z Z Z Z Z)<|Q3<|Q4<|Q6<|Q0<|DE Z Z Z<|DD Z Z Z (Q2 Xh Z)<|DD Z Z Z (Q5 JT Z Z Z)<|DD Z Z Z (Q5 QN Z Z Z)<|DE Z Z Z ?_
  refine DD Z Z Z (Q2 Ya Z)<|DD Z Z Z (Q5 QN Z Z Z)<|DD Z Z Z (Q2 Xg Z)<|DD Z Z Z (Qk QX Z Z Z Z)<|DD Z Z Z (JR ZX Z (.cons Z (.cons Z (.cons Z (.cons Z (.cons Z .nil))))) Z) ?_
  refine Qd h3 (fun y53 h4 h3=>?_)
  have ha54:ExecOK Try.prog (some 7) K2 ⟨[(3,.v (.one (.ptr 0 0))),(4,.v (.one (.ptr 1 0))),(5,.v (.one (.ptr 2 0))),(10,.v (.one (DU a0))),(11,.v (.one (DW (a0.length:Int)))),(12,.v (.one (DW s1))),(19,.v (.one (.fn 49 [(5,0),(4,0)]))),(20,.v (.one (Jl x50.name))),(21,.v (.agg [DW 6,DW s1,DW s3,DW x4.params,DW x50.ty.kind,DW x50.ty.index,Jl x50.ty.name,DU x50.ty.levels,DU x50.ty.kids]))],m14_h37 a1 x4 s1 a0 x50,[],10,28,[]⟩ .normal ⟨[(3,.v (.one (.ptr 0 0))),(4,.v (.one (.ptr 1 0))),(5,.v (.one (.ptr 2 0))),(8,.v (.one (Jl x50.name))),(9,.v (.one (.ptr 10 0)))],m14_h40 a1 x4 s1 a0 x50 s3,[],11,28,[]⟩:=by
   refine QK (fun w0 M V0 ro n Q hv4 hro4 hQn4=>?_)
   refine Q6<|Q0<|DF Z Z Z<|Q3<|Q4<|Q0<|Q9 Z Z (DM Z) (Ql YZ Z)<|Qz Z Z (Qv Jg Z Z Z Z (DM Z) Z)<|Q3 ?_
   exact Jw hQn4 (DA (Nat.le_trans hv4 (DM Z)) Z Z Z Z Z)
  have hb55:ExecOK Try.prog (some 7) Y0 ⟨[(3,.v (.one (.ptr 0 0))),(4,.v (.one (.ptr 1 0))),(5,.v (.one (.ptr 2 0))),(8,.v (.one (Jl x50.name))),(9,.v (.one (.ptr 10 0)))],m14_h39 a1 x4 s1 a0 x50 s3,[],11,28,[]⟩ ((Sum.elim (fun (_:Unit)=>(.normal:Exit)) (fun (_:Unit)=>(.ret:Exit))) y53) ((Sum.elim (fun (y51:Unit)=>(⟨[],m14_h41 a1 x4 s1 a0 x50,[],11,28,[]⟩:St)) (fun (y52:Unit)=>(⟨[],m14_h42 a1 s1 s3 x4 x50 a0,[],11,28,[]⟩:St))) y53):=by
   refine QK (fun w0 M V0 ro n Q hv4 hro4 hQn4=>?_)
   refine Qh<|Q6<|Q0<|DE Z Z Z<|DD Z Z Z (Q5 JT Z Z Z)<|DD Z Z Z (GJ Z Z)<|Q3<|Q4 ?_
   refine Qg (b:=(x50.name==a1)) Z (fun c56=>?_) (fun c56=>?_)
   replace h4:=Qi c56 h4
   refine Q6<|Q0<|DD Z Z Z (Qk Jg Z Z Z Z)<|Qz Z Z (Qv Jg Z Z Z Z (DM Z) Z)<|Qz Z Z (Qv ZE Z Z Z Z (DM Z) Z)<|Q3<|Q4<|QE ?_
   have e:=DB h4;subst e
   exact Jw (e:=.ret) (st':=⟨[],m14_h42 a1 s1 s3 x4 x50 a0,[],11,28,[]⟩) hQn4 (DA (Nat.le_trans hv4 (DM Z)) Z Z Z Z Z)
   replace h4:=Qj c56 h4
   refine Qn<|Qf ?_
   have e:=DB h4;subst e
   exact Jw (e:=.normal) (st':=⟨[],m14_h41 a1 x4 s1 a0 x50,[],11,28,[]⟩) hQn4 (DA (Nat.le_trans hv4 (DM Z)) Z Z Z Z Z)
  refine W7 (C:=fun q_=>ExecOK Try.prog (some 7) Y0 ⟨[(3,.v (.one (.ptr 0 0))),(4,.v (.one (.ptr 1 0))),(5,.v (.one (.ptr 2 0))),(8,.v (.one (Jl x50.name))),(9,.v (.one (.ptr 10 0)))],m14_h39 a1 x4 s1 a0 x50 s3,[],11,28,[]⟩ ((Sum.elim (fun (_:Unit)=>(.normal:Exit)) (fun (_:Unit)=>(.ret:Exit))) q_) ((Sum.elim (fun (y51:Unit)=>(⟨[],m14_h41 a1 x4 s1 a0 x50,[],11,28,[]⟩:St)) (fun (y52:Unit)=>(⟨[],m14_h42 a1 s1 s3 x4 x50 a0,[],11,28,[]⟩:St))) q_)) hb55 h3 (fun y51 hb55 h3=>?_) (fun y52 hb55 h3=>?_)
  replace hb55:ExecOK Try.prog (some 7) Y0 ⟨[(3,.v (.one (.ptr 0 0))),(4,.v (.one (.ptr 1 0))),(5,.v (.one (.ptr 2 0))),(8,.v (.one (Jl x50.name))),(9,.v (.one (.ptr 10 0)))],m14_h39 a1 x4 s1 a0 x50 s3,[],11,28,[]⟩ .normal ⟨[],m14_h41 a1 x4 s1 a0 x50,[],11,28,[]⟩:=hb55
  refine Q9 Z Z (DM Z) (Jd (jump:=none) Z Z Z Z Z (Qw ha54 (fun E hv=>(DA (Nat.le_trans hv (DM Z)) Z Z Z Z Z))) Z (Qw hb55 (fun E hv=>(DA (Nat.le_trans hv (DM Z)) Z Z Z Z Z))) Z Z) ?_
  refine DD Z Z Z (Jj Z)<|Q3<|Q4 ?_
  refine Qg Z (fun h=>nomatch h) (fun _=>?_)
  refine Qn<|Qf<|Q4<|Q0<|DD Z Z Z (Q8 Z Z Z)<|DE Z Z Z<|Q3 ?_
  have e:=DB h3;subst e
  refine QW (Ja (s3+1)) (DA (Nat.le_trans hv2 (DM Z)) Z Z Z Z Z) ho3
  replace hb55:ExecOK Try.prog (some 7) Y0 ⟨[(3,.v (.one (.ptr 0 0))),(4,.v (.one (.ptr 1 0))),(5,.v (.one (.ptr 2 0))),(8,.v (.one (Jl x50.name))),(9,.v (.one (.ptr 10 0)))],m14_h39 a1 x4 s1 a0 x50 s3,[],11,28,[]⟩ .ret ⟨[],m14_h42 a1 s1 s3 x4 x50 a0,[],11,28,[]⟩:=hb55
  refine Q9 Z Z (DM Z) (Jd (jump:=(some .ret)) Z Z Z Z Z (Qw ha54 (fun E hv=>(DA (Nat.le_trans hv (DM Z)) Z Z Z Z Z))) Z (Qw hb55 (fun E hv=>(DA (Nat.le_trans hv (DM Z)) Z Z Z Z Z))) Z Z) ?_
  refine DD Z Z Z (Jj Z)<|Q3<|Q4 ?_
  refine Qg Z (fun _=>?_) (fun h=>nomatch h)
  refine QE ?_
  have e:=DB h3;subst e
  have e_:_=_:=ho3
  subst e_
  try dsimp only [Sum.elim_inl,Sum.elim_inr] at h2
  have e:=DB h2;subst e
  exact hQ2 _ _ _ (.inr Z) Z (show StLe _ _ ⟨[],m14_h43 a1 s1 s3 x4 x50 a0,[],10,98,[]⟩ from (DA (Nat.le_trans hv2 (DM Z)) Z Z Z Z Z))
  replace h3:=Qj c49 h3
  refine J8<|Qr<|Qr ?_
  have e:=DB h3;subst e
  have e_:_=_:=ho3
  subst e_
  exact J0 () (DA (Nat.le_trans hv2 (DM Z)) Z Z Z Z Z) h2
  intro o47 h2
  refine QQ<|Qf ?_
  have e:=DB h2;subst e
  exact hQ2 _ _ _ (.inl Z) Z (show StLe _ _ ⟨[],K1 a1 x4 s1 a0,[],9,98,[]⟩ from (DA (Nat.le_trans hv2 (DM Z)) Z Z Z Z Z))
  replace h2:=Qj c46 h2
  refine Qn<|Qf ?_
  have e:=DB h2;subst e
  exact hQ2 _ _ _ (.inl Z) Z (show StLe _ _ ⟨[],K1 a1 x4 s1 a0,[],9,98,[]⟩ from (DA (Nat.le_trans hv2 (DM Z)) Z Z Z Z Z))
 refine W7 (C:=fun q_=>CallM Try.prog 49 [.one (.yld 7),.one (.ptr 5 0),.one (.ptr 4 0)] ⟨[(7,.loop .ready none [(3,.v (.one (.ptr 0 0))),(4,.v (.one (.ptr 1 0))),(5,.v (.one (.ptr 2 0))),(10,.v (.one (DU a0))),(11,.v (.one (DW (a0.length:Int)))),(12,.v (.one (DW s1))),(19,.v (.one (.fn 49 [(5,0),(4,0)])))] 28 #[20,21] K2 Y0 6),(6,.obj (.deferred (some []))),(0,.cells 9 [Jl a1]),(1,.cells 35 [DW 0,DW 0,DW 0,DW 0,DW 0,DW 0,Jl ([]:List UInt8),DV,DV]),(2,.cells 25 [DW 0]),(3,.cells 45 (DZ x4)),(4,.cells 45 (DZ x4)),(5,.cells 3 [DW s1])],[],8⟩ (QP []) ⟨(((Sum.elim (fun (y7:Unit)=>(⟨[],K1 a1 x4 s1 a0,[],9,98,[]⟩:St)) (fun (y8:Int×Int×Int×Int×Int×Bs×(List Lvl)×(List Tm))=>(⟨[],X3 a1 y8 s1 x4 a0,[],10,98,[]⟩:St)))) q_).hp,(((Sum.elim (fun (y7:Unit)=>(⟨[],K1 a1 x4 s1 a0,[],9,98,[]⟩:St)) (fun (y8:Int×Int×Int×Int×Int×Bs×(List Lvl)×(List Tm))=>(⟨[],X3 a1 y8 s1 x4 a0,[],10,98,[]⟩:St)))) q_).tk,(((Sum.elim (fun (y7:Unit)=>(⟨[],K1 a1 x4 s1 a0,[],9,98,[]⟩:St)) (fun (y8:Int×Int×Int×Int×Int×Bs×(List Lvl)×(List Tm))=>(⟨[],X3 a1 y8 s1 x4 a0,[],10,98,[]⟩:St)))) q_).nx⟩) hc9 h1 (fun y7 hc9 h1=>?_) (fun y8 hc9 h1=>?_)
 replace hc9:CallM Try.prog 49 [.one (.yld 7),.one (.ptr 5 0),.one (.ptr 4 0)] ⟨[(7,.loop .ready none [(3,.v (.one (.ptr 0 0))),(4,.v (.one (.ptr 1 0))),(5,.v (.one (.ptr 2 0))),(10,.v (.one (DU a0))),(11,.v (.one (DW (a0.length:Int)))),(12,.v (.one (DW s1))),(19,.v (.one (.fn 49 [(5,0),(4,0)])))] 28 #[20,21] K2 Y0 6),(6,.obj (.deferred (some []))),(0,.cells 9 [Jl a1]),(1,.cells 35 [DW 0,DW 0,DW 0,DW 0,DW 0,DW 0,Jl ([]:List UInt8),DV,DV]),(2,.cells 25 [DW 0]),(3,.cells 45 (DZ x4)),(4,.cells 45 (DZ x4)),(5,.cells 3 [DW s1])],[],8⟩ (QP []) ⟨K1 a1 x4 s1 a0,[],9⟩:=hc9
 refine Kb (Yi (e:=.normal) rfl hc9 rfl rfl (by intro h;cases h) rfl) rfl ?_
 refine Qf<|Qf<|Q4<|Q0<|DD Z Z Z (Q8 Z Z Z)<|DE Z Z Z<|Q3 ?_
 have e:=DB h1;subst e
 refine QW (Ja (s1+1)) (DA (Nat.zero_le _) Z Z Z Z Z) ho1
 replace hc9:CallM Try.prog 49 [.one (.yld 7),.one (.ptr 5 0),.one (.ptr 4 0)] ⟨[(7,.loop .ready none [(3,.v (.one (.ptr 0 0))),(4,.v (.one (.ptr 1 0))),(5,.v (.one (.ptr 2 0))),(10,.v (.one (DU a0))),(11,.v (.one (DW (a0.length:Int)))),(12,.v (.one (DW s1))),(19,.v (.one (.fn 49 [(5,0),(4,0)])))] 28 #[20,21] K2 Y0 6),(6,.obj (.deferred (some []))),(0,.cells 9 [Jl a1]),(1,.cells 35 [DW 0,DW 0,DW 0,DW 0,DW 0,DW 0,Jl ([]:List UInt8),DV,DV]),(2,.cells 25 [DW 0]),(3,.cells 45 (DZ x4)),(4,.cells 45 (DZ x4)),(5,.cells 3 [DW s1])],[],8⟩ (QP []) ⟨X3 a1 y8 s1 x4 a0,[],10⟩:=hc9
 refine Kb (Yi (e:=.ret) rfl hc9 rfl rfl (by intro h;cases h) rfl) rfl ?_
 have e:=DB h1;subst e
 have e_:_=_:=ho1
 subst e_
 try dsimp only [Sum.elim_inl,Sum.elim_inr] at h0
 have e:=DB h0;subst e
 exact QJ (fun _ _ h=>h) Z (Z4 Jg Z Z Z Z (KH ZE Z Z Z .nil)) (.cons (.agg (.cons (.d _) (.cons (.d _) (.cons (.d _) (.cons (.d _) (.cons (.d _) (.cons (.d _) (.cons (.d _) (.cons (.d _) (.cons (.d _) .nil)))))))))) (.cons (.one (.d _)) .nil))
 replace h1:=Qj c3 h1
 refine J8<|Qr<|Qr ?_
 have e:=DB h1;subst e
 have e_:_=_:=ho1
 subst e_
 exact J0 () (DA (Nat.zero_le _) Z Z Z Z Z) h0
 intro o1 h0
 refine QQ<|Q4<|Q6<|Q0<|DD Z Z Z (Gu ZX Z )<|Qz Z Z (Qv Jg Z Z Z Z (DM Z) Z)<|Qz Z Z (Qv ZE Z Z Z Z (DM Z) Z)<|Q3<|Q4<|QE ?_
 have e:=DB h0;subst e
 exact QJ (fun _ _ h=>h) Z (Z4 Jg Z Z Z Z (KH ZE Z Z Z .nil)) (.cons (.agg (.cons (.d _) (.cons (.d _) (.cons (.d _) (.cons (.d _) (.cons (.d _) (.cons (.d _) (.cons (.d _) (.cons (.nil _) (.cons (.nil _) .nil)))))))))) (.cons (.one (.d _)) .nil))
def m16 (a0:List Dcl) (a1:Bs):Option (Dcl×Int×Bool) :=
 Option.bind (Un a0 a1) fun (x1:Ent×Int) =>
 cond (x1.2 != 0)
   (some ((⟨0,([]:List UInt8),0,(Tm.mk 0 0 ([]:List UInt8) ([]:List Lvl) ([]:List Tm)),(Tm.mk 0 0 ([]:List UInt8) ([]:List Lvl) ([]:List Tm)),0,([]:List Ctr),(⟨0,(Tm.mk 0 0 ([]:List UInt8) ([]:List Lvl) ([]:List Tm)),([]:List Tm)⟩:Rcr),([]:List Fn)⟩:Dcl),0,false))
   (cond (x1.1.kind==3)
   (Option.bind (Jx a0 x1.1.decl) fun (x4:Dcl) =>
 some (x4,(-1),true))
   (cond (x1.1.kind==4)
   (Option.bind (Jx a0 x1.1.decl) fun (x6:Dcl) =>
 some (x6,x1.1.item,true))
   (cond (x1.1.kind==5)
   (Option.bind (Jx a0 x1.1.decl) fun (x8:Dcl) =>
 some (x8,(-2),true))
   (some ((⟨0,([]:List UInt8),0,(Tm.mk 0 0 ([]:List UInt8) ([]:List Lvl) ([]:List Tm)),(Tm.mk 0 0 ([]:List UInt8) ([]:List Lvl) ([]:List Tm)),0,([]:List Ctr),(⟨0,(Tm.mk 0 0 ([]:List UInt8) ([]:List Lvl) ([]:List Tm)),([]:List Tm)⟩:Rcr),([]:List Fn)⟩:Dcl),0,false)))))
theorem m16_ok (a0:List Dcl) (a1:Bs) (r:Dcl×Int×Bool) (h0:m16 a0 a1=some r):Fun Try.prog 16 [.one (DU a0),.one (Jl a1)] (QP [.agg (DZ r.1),.one (DW r.2.1),.one (DX r.2.2)]):=by
 unfold m16 at h0
 refine QS 9 44 Try.func16 Z en_16 Z (DM Z) (fun S w=>?_)
 simp only [Jb]
 refine Q6<|Q0<|Q9 Z Z (DM Z) (Ql Xk Z)<|DF Z Z Z<|DF Z Z Z<|Q3<|Q4<|Q6<|Q0<|DE Z Z Z<|DE Z Z Z ?_
 refine Qd h0 (fun x1 hx1 h0=>?_)
 refine Q9 Z Z (DM Z) (Qo (Wk a0 a1 x1 hx1) Z (.cons (.one (.d _)) (.cons (.one (.d _)) .nil)))<|DE Z Z Z<|DD Z Z Z (QR Z Z)<|DD Z Z Z (QR Z Z)<|Q9 Z Z (DM Z) (Ql YZ Z)<|Qz Z Z (QC (x1.1:Ent) Jg Z Z Z Z Z)<|DF Z Z Z<|Q3<|Q4<|Q6<|Q6<|Q0<|DE Z Z Z<|DD Z Z Z (Q8 Z Z Z) ?_
 refine Q3<|Q4 ?_
 refine Qg (b:=(x1.2 != 0)) Z (fun c2=>?_) (fun c2=>?_)
 replace h0:=Qi c2 h0
 refine Q6<|Q0<|DD Z Z Z (Gu bd_45 Z )<|Qz Z Z (YS JK Z Z Z Z Z Z)<|DF Z Z Z<|DF Z Z Z<|Q3<|Q4<|QE ?_
 have e:=DB h0;subst e
 exact QJ (fun _ _ h=>h) Z (Z4 JK Z Z Z Z (QB Z (QB Z .nil))) (.cons (.agg (.cons (.d _) (.cons (.d _) (.cons (.d _) (.cons (.d _) (.cons (.d _) (.cons (.d _) (.cons (.nil _) (.cons (.nil _) (.cons (.d _) (.cons (.d _) (.cons (.d _) (.cons (.nil _) (.cons (.nil _) (.cons (.d _) (.cons (.nil _) (.cons (.d _) (.cons (.d _) (.cons (.d _) (.cons (.d _) (.cons (.nil _) (.cons (.nil _) (.cons (.nil _) (.cons (.nil _) .nil)))))))))))))))))))))))) (.cons (.one (.d _)) (.cons (.one (.d _)) .nil)))
 replace h0:=Qj c2 h0
 refine Qn<|Q4<|Q6<|Q6<|Q0<|DD Z Z Z (Q2 YW Z)<|DD Z Z Z (Q5 QN Z Z Z)<|Q3<|Q4<|Qh<|Q6<|Q0<|DD Z Z Z (Q8 Z Z Z)<|DF Z Z Z ?_
 refine Q3<|Q4 ?_
 refine Qg (b:=(x1.1.kind==3)) Z (fun c3=>?_) (fun c3=>?_)
 replace h0:=Qi c3 h0
 refine Q6<|Q0<|DE Z Z Z<|DD Z Z Z (Q2 KW Z)<|DD Z Z Z (Q5 QN Z Z Z) ?_
 refine Qd h0 (fun x4 hx4 h0=>?_)
 refine DD Z Z Z (Qy (α:=Dcl) JW Z (.d _) Z hx4)<|DD Z Z Z (Qt (x4:Dcl) JK Z)<|Qz Z Z (QC (x4:Dcl) JK Z Z Z Z Z)<|DF Z Z Z<|DF Z Z Z<|Q3<|Q4<|QE ?_
 have e:=DB h0;subst e
 exact QJ (fun _ _ h=>h) Z (Z4 JK Z Z Z Z (QB Z (QB Z .nil))) (.cons (.agg (.cons (.d _) (.cons (.d _) (.cons (.d _) (.cons (.d _) (.cons (.d _) (.cons (.d _) (.cons (.d _) (.cons (.d _) (.cons (.d _) (.cons (.d _) (.cons (.d _) (.cons (.d _) (.cons (.d _) (.cons (.d _) (.cons (.d _) (.cons (.d _) (.cons (.d _) (.cons (.d _) (.cons (.d _) (.cons (.d _) (.cons (.d _) (.cons (.d _) (.cons (.d _) .nil)))))))))))))))))))))))) (.cons (.one (.d _)) (.cons (.one (.d _)) .nil)))
 replace h0:=Qj c3 h0
 refine Q6<|Q0<|DD Z Z Z (Q8 Z Z Z)<|DF Z Z Z<|Q3<|Q4 ?_
 refine Qg (b:=(x1.1.kind==4)) Z (fun c5=>?_) (fun c5=>?_)
 replace h0:=Qi c5 h0
 refine Q6 ?_
 refine Js [7] [(5,1),(6,1)] YU (by kernel_rfl) (by kernel_rfl) (by kernel_rfl) ?_
 refine RunA.rd Z Z Z (Q1 (Qp Z)) Z<|RunA.rd Z Z Z (Q1 (Q2 KW Z)) Z<|RunA.rd Z Z Z (Q1 (Q5 QN Z Z Z)) Z ?_
 refine Qd h0 (fun x6 hx6 h0=>?_)
 refine RunA.rd Z Z Z (Q1 (Qy (α:=Dcl) JW Z (.d _) Z hx6)) Z<|RunA.rd Z Z Z (Q1 (Qt (x6:Dcl) JK Z)) Z<|RunA.rd Z Z Z (Q1 (Q2 Xi Z)) Z<|RunA.rd Z Z Z (Q1 (Q5 QN Z Z Z)) Z<|RunA.eff Z Z Z (QC (x6:Dcl) JK Z Z Z Z Z) Z<|RunA.rd Z Z Z (Q1 (JD Z)) Z<|RunA.rd Z Z Z (Q1 (JD Z)) Z ?_
 refine RunA.nil ⟨?ex,_,_,Z,?_⟩
 case ex=>exact ⟨⟨_,rfl,_,_,rfl,rfl,rfl,.inl ⟨rfl,_,Q1 (Q2 Xi rfl),rfl⟩⟩,⟨_,rfl,_,_,rfl,rfl,rfl,.inl ⟨rfl,_,Q1 (Q5 QN rfl rfl rfl),rfl⟩⟩,trivial⟩
 refine JV (st':=⟨[(4,.v (.one (.ptr 0 0))),(5,.v (.one (DW x1.1.item))),(6,.v (.one (DX true)))],[(0,.cells 45 (DZ x6)),(1,.cells 35 (DZ x1.1))],[],2,44,[]⟩) (DA (Nat.zero_le _) Z Z Z Z Z)<|Q4<|QE ?_
 have e:=DB h0;subst e
 exact QJ (fun _ _ h=>h) Z (Z4 JK Z Z Z Z (QB Z (QB Z .nil))) (.cons (.agg (.cons (.d _) (.cons (.d _) (.cons (.d _) (.cons (.d _) (.cons (.d _) (.cons (.d _) (.cons (.d _) (.cons (.d _) (.cons (.d _) (.cons (.d _) (.cons (.d _) (.cons (.d _) (.cons (.d _) (.cons (.d _) (.cons (.d _) (.cons (.d _) (.cons (.d _) (.cons (.d _) (.cons (.d _) (.cons (.d _) (.cons (.d _) (.cons (.d _) (.cons (.d _) .nil)))))))))))))))))))))))) (.cons (.one (.d _)) (.cons (.one (.d _)) .nil)))
 replace h0:=Qj c5 h0
 refine Q6<|Q0<|DD Z Z Z (Q8 Z Z Z)<|DF Z Z Z<|Q3<|Q4 ?_
 refine Qg (b:=(x1.1.kind==5)) Z (fun c7=>?_) (fun c7=>?_)
 replace h0:=Qi c7 h0
 refine Q6<|Q0<|DE Z Z Z<|DD Z Z Z (Q2 KW Z)<|DD Z Z Z (Q5 QN Z Z Z) ?_
 refine Qd h0 (fun x8 hx8 h0=>?_)
 refine DD Z Z Z (Qy (α:=Dcl) JW Z (.d _) Z hx8)<|DD Z Z Z (Qt (x8:Dcl) JK Z)<|Qz Z Z (QC (x8:Dcl) JK Z Z Z Z Z)<|DF Z Z Z<|DF Z Z Z<|Q3<|Q4<|QE ?_
 have e:=DB h0;subst e
 exact QJ (fun _ _ h=>h) Z (Z4 JK Z Z Z Z (QB Z (QB Z .nil))) (.cons (.agg (.cons (.d _) (.cons (.d _) (.cons (.d _) (.cons (.d _) (.cons (.d _) (.cons (.d _) (.cons (.d _) (.cons (.d _) (.cons (.d _) (.cons (.d _) (.cons (.d _) (.cons (.d _) (.cons (.d _) (.cons (.d _) (.cons (.d _) (.cons (.d _) (.cons (.d _) (.cons (.d _) (.cons (.d _) (.cons (.d _) (.cons (.d _) (.cons (.d _) (.cons (.d _) .nil)))))))))))))))))))))))) (.cons (.one (.d _)) (.cons (.one (.d _)) .nil)))
 replace h0:=Qj c7 h0
 refine Qn<|Qf<|Q4<|Q6<|Q0<|DD Z Z Z (Gu bd_45 Z )<|Qz Z Z (YS JK Z Z Z Z Z Z)<|DF Z Z Z<|DF Z Z Z<|Q3<|Q4<|QE ?_
 have e:=DB h0;subst e
 exact QJ (fun _ _ h=>h) Z (Z4 JK Z Z Z Z (QB Z (QB Z .nil))) (.cons (.agg (.cons (.d _) (.cons (.d _) (.cons (.d _) (.cons (.d _) (.cons (.d _) (.cons (.d _) (.cons (.nil _) (.cons (.nil _) (.cons (.d _) (.cons (.d _) (.cons (.d _) (.cons (.nil _) (.cons (.nil _) (.cons (.d _) (.cons (.nil _) (.cons (.d _) (.cons (.d _) (.cons (.d _) (.cons (.d _) (.cons (.nil _) (.cons (.nil _) (.cons (.nil _) (.cons (.nil _) .nil)))))))))))))))))))))))) (.cons (.one (.d _)) (.cons (.one (.d _)) .nil)))
end Go.Proofs.Ytafddfoefeploaa
namespace Go.Proofs.Ytafddfoefeploaa
open Go.RowKit Go.Shelf
theorem Z3:QU Try.prog 33 1=some 1:=by kernel_rfl
theorem Ze:QU Try.prog 33 3=some 3:=by kernel_rfl
theorem fo_35_3:QU Try.prog 35 3=some 3:=by kernel_rfl
theorem fo_35_4:QU Try.prog 35 4=some 4:=by kernel_rfl
theorem fo_74_2:QU Try.prog 74 2=some 6:=by kernel_rfl
theorem fo_76_2:QU Try.prog 76 2=some 6:=by kernel_rfl
theorem KQ:QU Try.prog 87 0=some 0:=by kernel_rfl
theorem Zd:QU Try.prog 87 1=some 1:=by kernel_rfl
theorem GN:Jz Try.prog 30=some (false,1):=by kernel_rfl
theorem GM:Jz Try.prog 85=some (false,1):=by kernel_rfl
theorem K3:Jz Try.prog 87=some (true,2):=by kernel_rfl
theorem KF:Jz Try.prog 124=some (true,2):=by kernel_rfl
theorem Z8:Jn Try.prog 30=some (87,2):=by kernel_rfl
theorem Zo:Jn Try.prog 85=some (124,2):=by kernel_rfl
theorem ip_124:X9 Try.prog 124=true:=by kernel_rfl
theorem en_18:J4 Try.prog 18:=enters_of Try.func18 (by kernel_rfl) rfl
theorem en_22:J4 Try.prog 22:=enters_of Try.func22 (by kernel_rfl) rfl
theorem en_27:J4 Try.prog 27:=enters_of Try.func27 (by kernel_rfl) rfl
theorem en_42:J4 Try.prog 42:=enters_of Try.func42 (by kernel_rfl) rfl
theorem en_61:J4 Try.prog 61:=enters_of Try.func61 (by kernel_rfl) rfl
def We (a0:Lvl) (a1:Lvl) (s1:Int):Option (LO Int (Unit⊕Bool)) :=
 cond (decide (s1 < (a0.vs.length:Int)))
   (Option.bind (Jx a0.vs s1) fun (x5:LV) =>
 Option.bind (Jx a1.vs s1) fun (x6:LV) =>
 cond (!((x5.1==x6.1)&&(x5.2==x6.2)))
   (some (.done (.inr false)))
   (some (.next (Ja (s1+1)))))
   (some (.done (.inl ())))
def Du (a0:Lvl) (a1:Lvl):Option Bool :=
 Option.bind (cond (a0.c != a1.c)
   (some true)
   (some ((a0.vs.length:Int) != (a1.vs.length:Int)))) (fun (v1:Bool)=>cond v1
   (some false)
   (Option.bind (Qq (We a0 a1) QI 0) (Sum.elim (fun (o3:Unit)=>some true) (fun o=>some o))))
theorem m61_ok (a0:Lvl) (a1:Lvl) (r:Bool) (h0:Du a0 a1=some r):Fun Try.prog 61 [.agg (DZ a0),.agg (DZ a1)] (QP [.one (DX r)]):=by
 unfold Du at h0
 refine QS 9 38 Try.func61 Z en_61 Z (DM Z) (fun S w=>?_)
 simp only [Jb]
 refine Q6<|Q0<|Q9 Z Z (DM Z) (QV Z)<|Q9 Z Z (DM Z) (QV Z)<|DF Z Z Z<|Q3<|Q4<|Q6<|Q6 ?_
 refine QO (fun (v1:Bool)=>⟨[(2,.v (.one (.ptr 0 0))),(3,.v (.one (.ptr 1 0))),(19,.v (.one (DX v1)))],[(0,.cells 87 (DZ a0)),(1,.cells 87 (DZ a1))],[],2,38,[]⟩) (fun (v1:Bool)=>(cond v1
     (some false)
     (Option.bind (Qq (We a0 a1) QI 0) (Sum.elim (fun (o3:Unit)=>some true) (fun o=>some o))))=some r) ?_ ?_
 refine Qd h0 (fun w1_ h1 h0=>?_)
 refine Q0<|DD Z Z Z (Q2 KQ Z)<|DD Z Z Z (Q5 QN Z Z Z)<|DD Z Z Z (Q2 KQ Z)<|DD Z Z Z (Q5 QN Z Z Z)<|DD Z Z Z (Q8 Z Z Z)<|DE Z Z Z ?_
 refine QA (d:=11) (c:=(a0.c != a1.c)) Z (fun c2=>?_) (fun c2=>?_)
 replace h1:=Qi c2 h1
 refine Q7 Z Z<|Q7 Z Z<|Q7 Z Z<|Q7 Z Z<|Q7 Z Z<|Q7 Z Z<|Q7 Z Z<|DD Z Z Z (Qe Z Z)<|Q3 ?_
 have e:=DB h1;subst e
 exact Qb true (DA (Nat.zero_le _) Z Z Z Z Z) h0
 replace h1:=Qj c2 h1
 refine DD Z Z Z (Q2 Zd Z)<|DD Z Z Z (Q5 GM Z Z Z)<|DD Z Z Z (QD (α:=LV) Zo Z (.d _))<|DD Z Z Z (Q2 Zd Z)<|DD Z Z Z (Q5 GM Z Z Z)<|DD Z Z Z (QD (α:=LV) Zo Z (.d _))<|DD Z Z Z (Q8 Z Z Z)<|DD Z Z Z (Qa Z Z)<|Q3 ?_
 have e:=DB h1;subst e
 exact Qb ((a0.vs.length:Int) != (a1.vs.length:Int)) (DA (Nat.zero_le _) Z Z Z Z Z) h0
 intro v1 h0
 refine Q4 ?_
 refine Qg (b:=v1) Z (fun c3=>?_) (fun c3=>?_)
 replace h0:=Qi c3 h0
 refine Q6<|Q0<|DF Z Z Z<|Q3<|Q4<|QE ?_
 have e:=DB h0;subst e
 exact QJ (fun _ _ h=>h) Z (QB Z .nil) (.cons (.one (.d _)) .nil)
 replace h0:=Qj c3 h0
 refine Qn<|Q4<|Q6<|Q6<|Q0<|DF Z Z Z<|Q3<|Q4<|Qh ?_
 refine J2 0 (fun (o4:Unit)=>⟨[],[(0,.cells 87 (DZ a0)),(1,.cells 87 (DZ a1))],[],2,38,[]⟩) (fun (o4:Unit)=>(some true)=some r) ?_ ?_
 refine Qd h0 (fun o5 hl1 h0=>?_)
 refine J1 (We a0 a1) (fun s1=>⟨[(2,.v (.one (.ptr 0 0))),(3,.v (.one (.ptr 1 0))),(5,.v (.one (DW s1)))],[(0,.cells 87 (DZ a0)),(1,.cells 87 (DZ a1))],[],2,38,[]⟩) 0 o5 (DA (Nat.zero_le _) Z Z Z Z Z) hl1 (fun s1 n1 oo1 h1 ho1=>?_)
 unfold We at h1
 refine Q6<|Q6<|Q0<|DE Z Z Z<|DD Z Z Z (Q2 Zd Z)<|DD Z Z Z (Q5 GM Z Z Z)<|DD Z Z Z (QD (α:=LV) Zo Z (.d _))<|DD Z Z Z (Q8 Z Z Z)<|Q3<|Q4 ?_
 refine Qg (b:=(decide (s1 < (a0.vs.length:Int)))) Z (fun c6=>?_) (fun c6=>?_)
 replace h1:=Qi c6 h1
 refine Qn<|Q4<|Q6<|Qh<|Q6 ?_
 refine Js [] [] YU (by kernel_rfl) (by kernel_rfl) (by kernel_rfl) ?_
 refine RunA.rd Z Z Z (Q1 (Q2 Zd Z)) Z<|RunA.rd Z Z Z (Q1 (Q5 GM Z Z Z)) Z<|RunA.rd Z Z Z (Q1 (Qp Z)) Z ?_
 refine Qd h1 (fun x7 hx7 h1=>?_)
 refine RunA.rd Z Z Z (Q1 (Qy (α:=LV) Zo Z (.d _) Z hx7)) Z<|RunA.rd Z Z Z (Q1 (Qt (x7:LV) KF Z)) Z<|RunA.rd Z Z Z (Q1 (Q2 Zd Z)) Z<|RunA.rd Z Z Z (Q1 (Q5 GM Z Z Z)) Z<|RunA.rd Z Z Z (Q1 (Qp Z)) Z ?_
 refine Qd h1 (fun x8 hx8 h1=>?_)
 refine RunA.rd Z Z Z (Q1 (Qy (α:=LV) Zo Z (.d _) Z hx8)) Z<|RunA.rd Z Z Z (Q1 (Qt (x8:LV) KF Z)) Z<|RunA.rd Z Z Z (Q1 (RO.neqPair ip_124 Z Z)) Z ?_
 refine RunA.nil ⟨?ex,_,_,Z,?_⟩
 case ex=>exact trivial
 refine JV (st':=⟨[(2,.v (.one (.ptr 0 0))),(3,.v (.one (.ptr 1 0))),(5,.v (.one (DW s1))),(37,.v (.one (DX (!((x7.1==x8.1)&&(x7.2==x8.2))))))],[(0,.cells 87 (DZ a0)),(1,.cells 87 (DZ a1))],[],2,38,[]⟩) (DA (Nat.zero_le _) Z Z Z Z Z)<|Q4 ?_
 refine Qg (b:=(!((x7.1==x8.1)&&(x7.2==x8.2)))) Z (fun c9=>?_) (fun c9=>?_)
 replace h1:=Qi c9 h1
 refine Q6<|Q0<|DF Z Z Z<|Q3<|Q4<|QE ?_
 have e:=DB h1;subst e
 have e_:_=_:=ho1
 subst e_
 try dsimp only [Sum.elim_inl,Sum.elim_inr] at h0
 have e:=DB h0;subst e
 exact QJ (fun _ _ h=>h) Z (QB Z .nil) (.cons (.one (.d _)) .nil)
 replace h1:=Qj c9 h1
 refine Qn<|Qf<|Q4<|Q0<|DE Z Z Z<|DD Z Z Z (Q8 Z Z Z)<|DF Z Z Z<|Q3 ?_
 have e:=DB h1;subst e
 refine QW (Ja (s1+1)) (DA (Nat.zero_le _) Z Z Z Z Z) ho1
 replace h1:=Qj c6 h1
 refine J8<|Qr<|Qr ?_
 have e:=DB h1;subst e
 have e_:_=_:=ho1
 subst e_
 exact J0 () (DA (Nat.zero_le _) Z Z Z Z Z) h0
 intro o4 h0
 refine QQ<|Q4<|Q6<|Q0<|DF Z Z Z<|Q3<|Q4<|QE ?_
 have e:=DB h0;subst e
 exact QJ (fun _ _ h=>h) Z (QB Z .nil) (.cons (.one (.d _)) .nil)
def Wi (a0:List Lvl) (a1:List Lvl) (s1:Int):Option (LO Int (Unit⊕Bool)) :=
 cond (decide (s1 < (a0.length:Int)))
   (Option.bind (Jx a0 s1) fun (x4:Lvl) =>
 Option.bind (Jx a1 s1) fun (x5:Lvl) =>
 Option.bind (Du x4 x5) fun (x6:Bool) =>
 cond (!x6)
   (some (.done (.inr false)))
   (some (.next (Ja (s1+1)))))
   (some (.done (.inl ())))
def D5 (a0:List Lvl) (a1:List Lvl):Option Bool :=
 cond ((a0.length:Int) != (a1.length:Int))
   (some false)
   (Option.bind (Qq (Wi a0 a1) QI 0) (Sum.elim (fun (o2:Unit)=>some true) (fun o=>some o)))
theorem m42_ok (a0:List Lvl) (a1:List Lvl) (r:Bool) (h0:D5 a0 a1=some r):Fun Try.prog 42 [.one (DU a0),.one (DU a1)] (QP [.one (DX r)]):=by
 unfold D5 at h0
 refine QS 9 27 Try.func42 Z en_42 Z (DM Z) (fun S w=>?_)
 simp only [Jb]
 refine Q6<|Q0<|DF Z Z Z<|Q3<|Q4<|Q6<|Q6<|Q0<|DE Z Z Z<|DD Z Z Z (QD (α:=Lvl) Z8 Z (.d _))<|DE Z Z Z<|DD Z Z Z (QD (α:=Lvl) Z8 Z (.d _))<|DD Z Z Z (Q8 Z Z Z)<|Q3 ?_
 refine Q4 ?_
 refine Qg (b:=((a0.length:Int) != (a1.length:Int))) Z (fun c1=>?_) (fun c1=>?_)
 replace h0:=Qi c1 h0
 refine Q6<|Q0<|DF Z Z Z<|Q3<|Q4<|QE ?_
 have e:=DB h0;subst e
 exact QJ (fun _ _ h=>h) Z (QB Z .nil) (.cons (.one (.d _)) .nil)
 replace h0:=Qj c1 h0
 refine Qn<|Q4<|Q6<|Q6<|Q0<|DF Z Z Z<|Q3<|Q4<|Qh ?_
 refine J2 0 (fun (o2:Unit)=>⟨[],[],[],0,27,[]⟩) (fun (o2:Unit)=>(some true)=some r) ?_ ?_
 refine Qd h0 (fun o3 hl1 h0=>?_)
 refine J1 (Wi a0 a1) (fun s1=>⟨[(0,.v (.one (DU a0))),(1,.v (.one (DU a1))),(5,.v (.one (DW s1)))],[],[],0,27,[]⟩) 0 o3 (DA (Nat.zero_le _) Z Z Z Z Z) hl1 (fun s1 n1 oo1 h1 ho1=>?_)
 unfold Wi at h1
 refine Q6<|Q6<|Q0<|DE Z Z Z<|DE Z Z Z<|DD Z Z Z (QD (α:=Lvl) Z8 Z (.d _))<|DD Z Z Z (Q8 Z Z Z)<|Q3<|Q4 ?_
 refine Qg (b:=(decide (s1 < (a0.length:Int)))) Z (fun c4=>?_) (fun c4=>?_)
 replace h1:=Qi c4 h1
 refine Qn<|Q4<|Q6<|Qh<|Q6 ?_
 refine Js [] [] YU (by kernel_rfl) (by kernel_rfl) (by kernel_rfl) ?_
 refine RunA.rd Z Z Z (Q1 (Qp Z)) Z<|RunA.rd Z Z Z (Q1 (Qp Z)) Z ?_
 refine Qd h1 (fun x5 hx5 h1=>?_)
 refine RunA.rd Z Z Z (Q1 (Qy (α:=Lvl) Z8 Z (.d _) Z hx5)) Z<|RunA.rd Z Z Z (Q1 (Qt (x5:Lvl) K3 Z)) Z<|RunA.rd Z Z Z (Q1 (Qp Z)) Z<|RunA.rd Z Z Z (Q1 (Qp Z)) Z ?_
 refine Qd h1 (fun x6 hx6 h1=>?_)
 refine RunA.rd Z Z Z (Q1 (Qy (α:=Lvl) Z8 Z (.d _) Z hx6)) Z<|RunA.rd Z Z Z (Q1 (Qt (x6:Lvl) K3 Z)) Z ?_
 refine Qd h1 (fun x7 hx7 h1=>?_)
 refine RunA.rd Z Z Z (Qo (m61_ok x5 x6 x7 hx7) Z (.cons (.agg (.cons (.d _) (.cons (.d _) .nil))) (.cons (.agg (.cons (.d _) (.cons (.d _) .nil))) .nil))) Z<|RunA.rd Z Z Z (Q1 (Jj Z)) Z ?_
 refine RunA.nil ⟨?ex,_,_,Z,?_⟩
 case ex=>exact trivial
 refine JV (st':=⟨[(0,.v (.one (DU a0))),(1,.v (.one (DU a1))),(5,.v (.one (DW s1))),(26,.v (.one (DX (!x7))))],[],[],0,27,[]⟩) (DA (Nat.zero_le _) Z Z Z Z Z)<|Q4 ?_
 refine Qg (b:=(!x7)) Z (fun c8=>?_) (fun c8=>?_)
 replace h1:=Qi c8 h1
 refine Q6<|Q0<|DF Z Z Z<|Q3<|Q4<|QE ?_
 have e:=DB h1;subst e
 have e_:_=_:=ho1
 subst e_
 try dsimp only [Sum.elim_inl,Sum.elim_inr] at h0
 have e:=DB h0;subst e
 exact QJ (fun _ _ h=>h) Z (QB Z .nil) (.cons (.one (.d _)) .nil)
 replace h1:=Qj c8 h1
 refine Qn<|Qf<|Q4<|Q0<|DE Z Z Z<|DD Z Z Z (Q8 Z Z Z)<|DF Z Z Z<|Q3 ?_
 have e:=DB h1;subst e
 refine QW (Ja (s1+1)) (DA (Nat.zero_le _) Z Z Z Z Z) ho1
 replace h1:=Qj c4 h1
 refine J8<|Qr<|Qr ?_
 have e:=DB h1;subst e
 have e_:_=_:=ho1
 subst e_
 exact J0 () (DA (Nat.zero_le _) Z Z Z Z Z) h0
 intro o2 h0
 refine QQ<|Q4<|Q6<|Q0<|DF Z Z Z<|Q3<|Q4<|QE ?_
 have e:=DB h0;subst e
 exact QJ (fun _ _ h=>h) Z (QB Z .nil) (.cons (.one (.d _)) .nil)
def Gy (a0:Tm) (a1:Tm) (rc:Tm×Tm→Option Bool) (s1:Int):Option (LO Int (Unit⊕Bool)) :=
 cond (decide (s1 < (a0.kids.length:Int)))
   (Option.bind (Jx a0.kids s1) fun (x5:Tm) =>
 Option.bind (Jx a1.kids s1) fun (x6:Tm) =>
 Option.bind (rc (x5,x6)) fun (x7:Bool) =>
 cond (!x7)
   (some (.done (.inr false)))
   (some (.next (Ja (s1+1)))))
   (some (.done (.inl ())))
def Uq (rc:Tm×Tm→Option Bool) (a0:Tm) (a1:Tm):Option Bool :=
 Option.bind (cond (a0.kind != a1.kind)
   (some true)
   (cond (a0.index != a1.index)
   (some true)
   (cond (!(a0.name==a1.name))
   (some true)
   (Option.bind (D5 a0.levels a1.levels) fun (x5:Bool) =>
 cond (!x5)
   (some true)
   (some ((a0.kids.length:Int) != (a1.kids.length:Int))))))) (fun (v1:Bool)=>cond v1
   (some false)
   (Option.bind (Qq (Gy a0 a1 rc) QI 0) (Sum.elim (fun (o3:Unit)=>some true) (fun o=>some o))))
def m27F (rc:Tm×Tm→Option Bool) (u:Tm×Tm):Option Bool:=Uq rc u.1 u.2
def Ur (a0:Tm) (a1:Tm):Option Bool:=JE m27F QI (a0,a1)
theorem m27s_ok (rc:Tm×Tm→Option Bool) (H:∀ (a0:Tm) (a1:Tm) (r:Bool),rc (a0,a1)=some r→Fun Try.prog 27 [.agg (DZ a0),.agg (DZ a1)] (QP [.one (DX r)])) (a0:Tm) (a1:Tm) (r:Bool) (h0:Uq rc a0 a1=some r):Fun Try.prog 27 [.agg (DZ a0),.agg (DZ a1)] (QP [.one (DX r)]):=by
 unfold Uq at h0
 refine QS 9 61 Try.func27 Z en_27 Z (DM Z) (fun S w=>?_)
 simp only [Jb]
 refine Q6<|Q0<|Q9 Z Z (DM Z) (QV Z)<|Q9 Z Z (DM Z) (QV Z)<|DF Z Z Z<|Q3<|Q4<|Q6<|Q6 ?_
 refine QO (fun (v1:Bool)=>⟨[(2,.v (.one (.ptr 0 0))),(3,.v (.one (.ptr 1 0))),(41,.v (.one (DX v1)))],[(0,.cells 33 (DZ a0)),(1,.cells 33 (DZ a1))],[],2,61,[]⟩) (fun (v1:Bool)=>(cond v1
     (some false)
     (Option.bind (Qq (Gy a0 a1 rc) QI 0) (Sum.elim (fun (o3:Unit)=>some true) (fun o=>some o))))=some r) ?_ ?_
 refine Qd h0 (fun w1_ h1 h0=>?_)
 refine Q0<|DD Z Z Z (Q2 Yr Z)<|DD Z Z Z (Q5 QN Z Z Z)<|DD Z Z Z (Q2 Yr Z)<|DD Z Z Z (Q5 QN Z Z Z)<|DD Z Z Z (Q8 Z Z Z)<|DE Z Z Z ?_
 refine QA (d:=11) (c:=(a0.kind != a1.kind)) Z (fun c2=>?_) (fun c2=>?_)
 replace h1:=Qi c2 h1
 refine Q7 Z Z<|Q7 Z Z<|Q7 Z Z<|Q7 Z Z<|Q7 Z Z<|DD Z Z Z (Qe Z Z)<|DE Z Z Z<|Q7 Z Z<|Q7 Z Z<|Q7 Z Z<|Q7 Z Z<|Q7 Z Z<|DD Z Z Z (Qe Z Z)<|DE Z Z Z ?_
 refine Q7 Z Z<|Q7 Z Z<|Q7 Z Z<|Q7 Z Z<|Q7 Z Z<|Q7 Z Z<|DD Z Z Z (Qe Z Z)<|DE Z Z Z<|Q7 Z Z<|Q7 Z Z<|Q7 Z Z<|Q7 Z Z<|Q7 Z Z<|Q7 Z Z ?_
 refine Q7 Z Z<|DD Z Z Z (Qe Z Z)<|Q3 ?_
 have e:=DB h1;subst e
 exact Qb true (DA (Nat.zero_le _) Z Z Z Z Z) h0
 replace h1:=Qj c2 h1
 refine DD Z Z Z (Q2 Z3 Z)<|DD Z Z Z (Q5 QN Z Z Z)<|DD Z Z Z (Q2 Z3 Z)<|DD Z Z Z (Q5 QN Z Z Z)<|DD Z Z Z (Q8 Z Z Z)<|DD Z Z Z (Qa Z Z)<|DE Z Z Z ?_
 refine QA (d:=18) (c:=(a0.index != a1.index)) Z (fun c3=>?_) (fun c3=>?_)
 replace h1:=Qi c3 h1
 refine Q7 Z Z<|Q7 Z Z<|Q7 Z Z<|Q7 Z Z<|Q7 Z Z<|DD Z Z Z (Qe Z Z)<|DE Z Z Z<|Q7 Z Z<|Q7 Z Z<|Q7 Z Z<|Q7 Z Z<|Q7 Z Z<|Q7 Z Z<|DD Z Z Z (Qe Z Z) ?_
 refine DE Z Z Z<|Q7 Z Z<|Q7 Z Z<|Q7 Z Z<|Q7 Z Z<|Q7 Z Z<|Q7 Z Z<|Q7 Z Z<|DD Z Z Z (Qe Z Z)<|Q3 ?_
 have e:=DB h1;subst e
 exact Qb true (DA (Nat.zero_le _) Z Z Z Z Z) h0
 replace h1:=Qj c3 h1
 refine DD Z Z Z (Q2 ZN Z)<|DD Z Z Z (Q5 JT Z Z Z)<|DD Z Z Z (Q2 ZN Z)<|DD Z Z Z (Q5 JT Z Z Z)<|DD Z Z Z (RO.neS Z Z)<|DD Z Z Z (Qa Z Z)<|DE Z Z Z ?_
 refine QA (d:=25) (c:=(!(a0.name==a1.name))) Z (fun c4=>?_) (fun c4=>?_)
 replace h1:=Qi c4 h1
 refine Q7 Z Z<|Q7 Z Z<|Q7 Z Z<|Q7 Z Z<|Q7 Z Z<|Q7 Z Z<|DD Z Z Z (Qe Z Z)<|DE Z Z Z<|Q7 Z Z<|Q7 Z Z<|Q7 Z Z<|Q7 Z Z<|Q7 Z Z<|Q7 Z Z ?_
 refine Q7 Z Z<|DD Z Z Z (Qe Z Z)<|Q3 ?_
 have e:=DB h1;subst e
 exact Qb true (DA (Nat.zero_le _) Z Z Z Z Z) h0
 replace h1:=Qj c4 h1
 refine DD Z Z Z (Q2 Ze Z)<|DD Z Z Z (Q5 GN Z Z Z)<|DD Z Z Z (Q2 Ze Z)<|DD Z Z Z (Q5 GN Z Z Z) ?_
 refine Qd h1 (fun x5 hx5 h1=>?_)
 refine Q9 Z Z (DM Z) (Qo (m42_ok a0.levels a1.levels x5 hx5) Z (.cons (.one (.d _)) (.cons (.one (.d _)) .nil)))<|DD Z Z Z (Jj Z)<|DD Z Z Z (Qa Z Z)<|DE Z Z Z ?_
 refine QA (d:=33) (c:=(!x5)) Z (fun c6=>?_) (fun c6=>?_)
 replace h1:=Qi c6 h1
 refine Q7 Z Z<|Q7 Z Z<|Q7 Z Z<|Q7 Z Z<|Q7 Z Z<|Q7 Z Z<|Q7 Z Z<|DD Z Z Z (Qe Z Z)<|Q3 ?_
 have e:=DB h1;subst e
 exact Qb true (DA (Nat.zero_le _) Z Z Z Z Z) h0
 replace h1:=Qj c6 h1
 refine DD Z Z Z (Q2 JJ Z)<|DD Z Z Z (Q5 Yj Z Z Z)<|DD Z Z Z (QD (α:=Tm) JC Z (.d _))<|DD Z Z Z (Q2 JJ Z)<|DD Z Z Z (Q5 Yj Z Z Z)<|DD Z Z Z (QD (α:=Tm) JC Z (.d _))<|DD Z Z Z (Q8 Z Z Z)<|DD Z Z Z (Qa Z Z)<|Q3 ?_
 have e:=DB h1;subst e
 exact Qb ((a0.kids.length:Int) != (a1.kids.length:Int)) (DA (Nat.zero_le _) Z Z Z Z Z) h0
 intro v1 h0
 refine Q4 ?_
 refine Qg (b:=v1) Z (fun c7=>?_) (fun c7=>?_)
 replace h0:=Qi c7 h0
 refine Q6<|Q0<|DF Z Z Z<|Q3<|Q4<|QE ?_
 have e:=DB h0;subst e
 exact QJ (fun _ _ h=>h) Z (QB Z .nil) (.cons (.one (.d _)) .nil)
 replace h0:=Qj c7 h0
 refine Qn<|Q4<|Q6<|Q6<|Q0<|DF Z Z Z<|Q3<|Q4<|Qh ?_
 refine J2 0 (fun (o8:Unit)=>⟨[],[(0,.cells 33 (DZ a0)),(1,.cells 33 (DZ a1))],[],2,61,[]⟩) (fun (o8:Unit)=>(some true)=some r) ?_ ?_
 refine Qd h0 (fun o9 hl1 h0=>?_)
 refine J1 (Gy a0 a1 rc) (fun s1=>⟨[(2,.v (.one (.ptr 0 0))),(3,.v (.one (.ptr 1 0))),(5,.v (.one (DW s1)))],[(0,.cells 33 (DZ a0)),(1,.cells 33 (DZ a1))],[],2,61,[]⟩) 0 o9 (DA (Nat.zero_le _) Z Z Z Z Z) hl1 (fun s1 n1 oo1 h1 ho1=>?_)
 unfold Gy at h1
 refine Q6<|Q6<|Q0<|DE Z Z Z<|DD Z Z Z (Q2 JJ Z)<|DD Z Z Z (Q5 Yj Z Z Z)<|DD Z Z Z (QD (α:=Tm) JC Z (.d _))<|DD Z Z Z (Q8 Z Z Z)<|Q3<|Q4 ?_
 refine Qg (b:=(decide (s1 < (a0.kids.length:Int)))) Z (fun c10=>?_) (fun c10=>?_)
 replace h1:=Qi c10 h1
 refine Qn<|Q4<|Q6<|Qh<|Q6 ?_
 refine Js [] [] YU (by kernel_rfl) (by kernel_rfl) (by kernel_rfl) ?_
 refine RunA.rd Z Z Z (Q1 (Q2 JJ Z)) Z<|RunA.rd Z Z Z (Q1 (Q5 Yj Z Z Z)) Z<|RunA.rd Z Z Z (Q1 (Qp Z)) Z ?_
 refine Qd h1 (fun x11 hx11 h1=>?_)
 refine RunA.rd Z Z Z (Q1 (Qy (α:=Tm) JC Z (.d _) Z hx11)) Z<|RunA.rd Z Z Z (Q1 (Qt (x11:Tm) QX Z)) Z<|RunA.rd Z Z Z (Q1 (Q2 JJ Z)) Z<|RunA.rd Z Z Z (Q1 (Q5 Yj Z Z Z)) Z<|RunA.rd Z Z Z (Q1 (Qp Z)) Z ?_
 refine Qd h1 (fun x12 hx12 h1=>?_)
 refine RunA.rd Z Z Z (Q1 (Qy (α:=Tm) JC Z (.d _) Z hx12)) Z<|RunA.rd Z Z Z (Q1 (Qt (x12:Tm) QX Z)) Z ?_
 refine Qd h1 (fun x13 hx13 h1=>?_)
 refine RunA.rd Z Z Z (Qo (H x11 x12 x13 hx13) Z (.cons (.agg (.cons (.d _) (.cons (.d _) (.cons (.d _) (.cons (.d _) (.cons (.d _) .nil)))))) (.cons (.agg (.cons (.d _) (.cons (.d _) (.cons (.d _) (.cons (.d _) (.cons (.d _) .nil)))))) .nil))) Z<|RunA.rd Z Z Z (Q1 (Jj Z)) Z ?_
 refine RunA.nil ⟨?ex,_,_,Z,?_⟩
 case ex=>exact trivial
 refine JV (st':=⟨[(2,.v (.one (.ptr 0 0))),(3,.v (.one (.ptr 1 0))),(5,.v (.one (DW s1))),(60,.v (.one (DX (!x13))))],[(0,.cells 33 (DZ a0)),(1,.cells 33 (DZ a1))],[],2,61,[]⟩) (DA (Nat.zero_le _) Z Z Z Z Z)<|Q4 ?_
 refine Qg (b:=(!x13)) Z (fun c14=>?_) (fun c14=>?_)
 replace h1:=Qi c14 h1
 refine Q6<|Q0<|DF Z Z Z<|Q3<|Q4<|QE ?_
 have e:=DB h1;subst e
 have e_:_=_:=ho1
 subst e_
 try dsimp only [Sum.elim_inl,Sum.elim_inr] at h0
 have e:=DB h0;subst e
 exact QJ (fun _ _ h=>h) Z (QB Z .nil) (.cons (.one (.d _)) .nil)
 replace h1:=Qj c14 h1
 refine Qn<|Qf<|Q4<|Q0<|DE Z Z Z<|DD Z Z Z (Q8 Z Z Z)<|DF Z Z Z<|Q3 ?_
 have e:=DB h1;subst e
 refine QW (Ja (s1+1)) (DA (Nat.zero_le _) Z Z Z Z Z) ho1
 replace h1:=Qj c10 h1
 refine J8<|Qr<|Qr ?_
 have e:=DB h1;subst e
 have e_:_=_:=ho1
 subst e_
 exact J0 () (DA (Nat.zero_le _) Z Z Z Z Z) h0
 intro o8 h0
 refine QQ<|Q4<|Q6<|Q0<|DF Z Z Z<|Q3<|Q4<|QE ?_
 have e:=DB h0;subst e
 exact QJ (fun _ _ h=>h) Z (QB Z .nil) (.cons (.one (.d _)) .nil)
theorem m27_all (n:Nat) (u:Tm×Tm) (r:Bool) (h0:JE m27F n u=some r):Fun Try.prog 27 [.agg (DZ u.1),.agg (DZ u.2)] (QP [.one (DX r)]) :=
 Z9 (C:=fun u r=>Fun Try.prog 27 [.agg (DZ u.1),.agg (DZ u.2)] (QP [.one (DX r)])) (fun rc H u r h=>m27s_ok rc (fun a0 a1 r h=>H (a0,a1) r h) u.1 u.2 r h) n u r h0
theorem m27_ok (a0:Tm) (a1:Tm) (r:Bool) (h0:Ur a0 a1=some r):Fun Try.prog 27 [.agg (DZ a0),.agg (DZ a1)] (QP [.one (DX r)]):=m27_all QI (a0,a1) r h0
def m54_l0 (a0:List Tm) (a1:List Tm) (s1:Int):Option (LO Int (Unit⊕Bool)) :=
 cond (decide (s1 < (a0.length:Int)))
   (Option.bind (Jx a0 s1) fun (x4:Tm) =>
 Option.bind (Jx a1 s1) fun (x5:Tm) =>
 Option.bind (Ur x4 x5) fun (x6:Bool) =>
 cond (!x6)
   (some (.done (.inr false)))
   (some (.next (Ja (s1+1)))))
   (some (.done (.inl ())))
def m54 (a0:List Tm) (a1:List Tm):Option Bool :=
 cond ((a0.length:Int) != (a1.length:Int))
   (some false)
   (Option.bind (Qq (m54_l0 a0 a1) QI 0) (Sum.elim (fun (o2:Unit)=>some true) (fun o=>some o)))
def m35 (a0:Rcr) (a1:Rcr):Option Bool :=
 Option.bind (cond (a0.params==a1.params)
   (Option.bind (Ur a0.ty a1.ty) fun (x3:Bool) =>
 cond x3
   (Option.bind (m54 a0.rules a1.rules) fun (x5:Bool) =>
 some x5)
   (some false))
   (some false)) (fun (v1:Bool)=>some v1)
def m36_l0 (a0:Tr) (a1:Tr) (rc:Tr×Tr→Option Bool) (s1:Int):Option (LO Int (Unit⊕Bool)) :=
 cond (decide (s1 < (a0.branches.length:Int)))
   (Option.bind (Jx a0.branches s1) fun (x5:Br) =>
 Option.bind (Jx a1.branches s1) fun (x6:Br) =>
 Option.bind (cond (!(x5.ctor==x6.ctor))
   (some true)
   (cond (!(x5.absurd==x6.absurd))
   (some true)
   (Option.bind (rc (x5.tree,x6.tree)) fun (x10:Bool) =>
 some (!x10)))) (fun (v7:Bool)=>cond v7
   (some (.done (.inr false)))
   (some (.next (Ja (s1+1))))))
   (some (.done (.inl ())))
def m36s (rc:Tr×Tr→Option Bool) (a0:Tr) (a1:Tr):Option Bool :=
 Option.bind (cond (a0.kind != a1.kind)
   (some true)
   (cond (a0.var != a1.var)
   (some true)
   (Option.bind (Ur a0.body a1.body) fun (x4:Bool) =>
 cond (!x4)
   (some true)
   (some ((a0.branches.length:Int) != (a1.branches.length:Int)))))) (fun (v1:Bool)=>cond v1
   (some false)
   (Option.bind (Qq (m36_l0 a0 a1 rc) QI 0) (Sum.elim (fun (o3:Unit)=>some true) (fun o=>some o))))
def m36F (rc:Tr×Tr→Option Bool) (u:Tr×Tr):Option Bool:=m36s rc u.1 u.2
def Dv (a0:Tr) (a1:Tr):Option Bool:=JE m36F QI (a0,a1)
def m19_l0 (a0:Dcl) (a1:Dcl) (s1:Int):Option (LO Int (Unit⊕Bool)) :=
 cond (decide (s1 < (a0.ctors.length:Int)))
   (Option.bind (Option.bind (Jx a0.ctors s1) fun (x8:Ctr) =>
 Option.bind (Jx a1.ctors s1) fun (x9:Ctr) =>
 cond (!(x8.name==x9.name))
   (some true)
   (Option.bind (Jx a0.ctors s1) fun (x11:Ctr) =>
 Option.bind (Jx a1.ctors s1) fun (x12:Ctr) =>
 Option.bind (Ur x11.ty x12.ty) fun (x13:Bool) =>
 some (!x13))) (fun (v7:Bool)=>cond v7
   (some (.done (.inr false)))
   (some (.next (Ja (s1+1))))))
   (some (.done (.inl ())))
def m19_l1 (a0:Dcl) (a1:Dcl) (s1:Int):Option (LO Int (Unit⊕Bool)) :=
 cond (decide (s1 < (a0.funs.length:Int)))
   (Option.bind (Jx a0.funs s1) fun (x8:Fn) =>
 Option.bind (Jx a1.funs s1) fun (x9:Fn) =>
 Option.bind (cond (!(x8.name==x9.name))
   (some true)
   (cond (x8.arity != x9.arity)
   (some true)
   (Option.bind (Ur x8.ty x9.ty) fun (x13:Bool) =>
 cond (!x13)
   (some true)
   (Option.bind (Dv x8.tree x9.tree) fun (x15:Bool) =>
 some (!x15))))) (fun (v10:Bool)=>cond v10
   (some (.done (.inr false)))
   (some (.next (Ja (s1+1))))))
   (some (.done (.inl ())))
def m19 (a0:Dcl) (a1:Dcl):Option Bool :=
 Option.bind (cond (a0.kind != a1.kind)
   (some true)
   (cond (!(a0.name==a1.name))
   (some true)
   (cond (a0.params != a1.params)
   (some true)
   (cond (a0.fixed != a1.fixed)
   (some true)
   (Option.bind (Ur a0.ty a1.ty) fun (x6:Bool) =>
 cond (!x6)
   (some true)
   (Option.bind (Ur a0.value a1.value) fun (x8:Bool) =>
 some (!x8))))))) (fun (v1:Bool)=>cond v1
   (some false)
   (Option.bind (cond ((a0.ctors.length:Int) != (a1.ctors.length:Int))
   (some true)
   (cond ((a0.funs.length:Int) != (a1.funs.length:Int))
   (some true)
   (Option.bind (m35 a0.rcr a1.rcr) fun (x6:Bool) =>
 some (!x6)))) (fun (v3:Bool)=>cond v3
   (some false)
   (Option.bind (Qq (m19_l0 a0 a1) QI 0) (Sum.elim (fun (o5:Unit)=>Option.bind (Qq (m19_l1 a0 a1) QI 0) (Sum.elim (fun (o6:Unit)=>some true) (fun o=>some o))) (fun o=>some o))))))
def Df (a0:Ent) (a1:Ent):Option Bool :=
 Option.bind (cond (a0.kind==a1.kind)
   (cond (a0.decl==a1.decl)
   (cond (a0.item==a1.item)
   (cond (a0.params==a1.params)
   (Option.bind (Ur a0.ty a1.ty) fun (x6:Bool) =>
 some x6)
   (some false))
   (some false))
   (some false))
   (some false)) (fun (v1:Bool)=>some v1)
theorem m18_ok (a0:Ent) (a1:Ent) (r:Bool) (h0:Df a0 a1=some r):Fun Try.prog 18 [.agg (DZ a0),.agg (DZ a1)] (QP [.one (DX r)]):=by
 unfold Df at h0
 refine QS 9 38 Try.func18 Z en_18 Z (DM Z) (fun S w=>?_)
 simp only [Jb]
 refine Q6<|Q0<|Q9 Z Z (DM Z) (QV Z)<|Q9 Z Z (DM Z) (QV Z)<|DF Z Z Z<|Q3<|Q4<|Q6 ?_
 refine QO (fun (v1:Bool)=>⟨[(4,.v (.one (DX v1)))],[(0,.cells 35 (DZ a0)),(1,.cells 35 (DZ a1))],[],2,38,[]⟩) (fun (v1:Bool)=>(some v1)=some r) ?_ ?_
 refine Qd h0 (fun w1_ h1 h0=>?_)
 refine Q0<|DD Z Z Z (Q2 YW Z)<|DD Z Z Z (Q5 QN Z Z Z)<|DD Z Z Z (Q2 YW Z)<|DD Z Z Z (Q5 QN Z Z Z)<|DD Z Z Z (Q8 Z Z Z)<|DE Z Z Z ?_
 refine QA (d:=10) (c:=(a0.kind==a1.kind)) Z (fun c2=>?_) (fun c2=>?_)
 replace h1:=Qi c2 h1
 refine DD Z Z Z (Q2 KW Z)<|DD Z Z Z (Q5 QN Z Z Z)<|DD Z Z Z (Q2 KW Z)<|DD Z Z Z (Q5 QN Z Z Z)<|DD Z Z Z (Q8 Z Z Z)<|DD Z Z Z (Qe Z Z)<|DE Z Z Z ?_
 refine QA (d:=17) (c:=(a0.decl==a1.decl)) Z (fun c3=>?_) (fun c3=>?_)
 replace h1:=Qi c3 h1
 refine DD Z Z Z (Q2 Xi Z)<|DD Z Z Z (Q5 QN Z Z Z)<|DD Z Z Z (Q2 Xi Z)<|DD Z Z Z (Q5 QN Z Z Z)<|DD Z Z Z (Q8 Z Z Z)<|DD Z Z Z (Qe Z Z)<|DE Z Z Z ?_
 refine QA (d:=24) (c:=(a0.item==a1.item)) Z (fun c4=>?_) (fun c4=>?_)
 replace h1:=Qi c4 h1
 refine DD Z Z Z (Q2 fo_35_3 Z)<|DD Z Z Z (Q5 QN Z Z Z)<|DD Z Z Z (Q2 fo_35_3 Z)<|DD Z Z Z (Q5 QN Z Z Z)<|DD Z Z Z (Q8 Z Z Z)<|DD Z Z Z (Qe Z Z)<|DE Z Z Z ?_
 refine QA (d:=31) (c:=(a0.params==a1.params)) Z (fun c5=>?_) (fun c5=>?_)
 replace h1:=Qi c5 h1
 refine DD Z Z Z (Q2 fo_35_4 Z)<|DD Z Z Z (Qk QX Z Z Z Z)<|DD Z Z Z (Q2 fo_35_4 Z)<|DD Z Z Z (Qk QX Z Z Z Z) ?_
 refine Qd h1 (fun x6 hx6 h1=>?_)
 refine Q9 Z Z (DM Z) (Qo (m27_ok a0.ty a1.ty x6 hx6) Z (.cons (.agg (.cons (.d _) (.cons (.d _) (.cons (.d _) (.cons (.d _) (.cons (.d _) .nil)))))) (.cons (.agg (.cons (.d _) (.cons (.d _) (.cons (.d _) (.cons (.d _) (.cons (.d _) .nil)))))) .nil)))<|DD Z Z Z (Qe Z Z)<|DF Z Z Z<|Q3 ?_
 have e:=DB h1;subst e
 exact Qb x6 (DA (Nat.zero_le _) Z Z Z Z Z) h0
 replace h1:=Qj c5 h1
 refine Q7 Z Z<|Q7 Z Z<|Q7 Z Z<|Q7 Z Z<|Q7 Z Z<|DD Z Z Z (Qa Z Z)<|DF Z Z Z<|Q3 ?_
 have e:=DB h1;subst e
 exact Qb false (DA (Nat.zero_le _) Z Z Z Z Z) h0
 replace h1:=Qj c4 h1
 refine Q7 Z Z<|Q7 Z Z<|Q7 Z Z<|Q7 Z Z<|Q7 Z Z<|DD Z Z Z (Qa Z Z)<|DE Z Z Z<|Q7 Z Z<|Q7 Z Z<|Q7 Z Z<|Q7 Z Z<|Q7 Z Z<|DD Z Z Z (Qa Z Z)<|DF Z Z Z ?_
 refine Q3 ?_
 have e:=DB h1;subst e
 exact Qb false (DA (Nat.zero_le _) Z Z Z Z Z) h0
 replace h1:=Qj c3 h1
 refine Q7 Z Z<|Q7 Z Z<|Q7 Z Z<|Q7 Z Z<|Q7 Z Z<|DD Z Z Z (Qa Z Z)<|DE Z Z Z<|Q7 Z Z<|Q7 Z Z<|Q7 Z Z<|Q7 Z Z<|Q7 Z Z<|DD Z Z Z (Qa Z Z)<|DE Z Z Z ?_
 refine Q7 Z Z<|Q7 Z Z<|Q7 Z Z<|Q7 Z Z<|Q7 Z Z<|DD Z Z Z (Qa Z Z)<|DF Z Z Z<|Q3 ?_
 have e:=DB h1;subst e
 exact Qb false (DA (Nat.zero_le _) Z Z Z Z Z) h0
 replace h1:=Qj c2 h1
 refine Q7 Z Z<|Q7 Z Z<|Q7 Z Z<|Q7 Z Z<|Q7 Z Z<|DD Z Z Z (Qa Z Z)<|DE Z Z Z<|Q7 Z Z<|Q7 Z Z<|Q7 Z Z<|Q7 Z Z<|Q7 Z Z<|DD Z Z Z (Qa Z Z)<|DE Z Z Z ?_
 refine Q7 Z Z<|Q7 Z Z<|Q7 Z Z<|Q7 Z Z<|Q7 Z Z<|DD Z Z Z (Qa Z Z)<|DE Z Z Z<|Q7 Z Z<|Q7 Z Z<|Q7 Z Z<|Q7 Z Z<|Q7 Z Z<|DD Z Z Z (Qa Z Z)<|DF Z Z Z ?_
 refine Q3 ?_
 have e:=DB h1;subst e
 exact Qb false (DA (Nat.zero_le _) Z Z Z Z Z) h0
 intro v1 h0
 refine Q4<|QE ?_
 have e:=DB h0;subst e
 exact QJ (fun _ _ h=>h) Z (QB Z .nil) (.cons (.one (.d _)) .nil)
def m22_l0 (a0:List Bs) (a1:List Bs) (s1:Int):Option (LO Int (Unit⊕Bool)) :=
 cond (decide (s1 < (a0.length:Int)))
   (Option.bind (Jx a0 s1) fun (x4:Bs) =>
 Option.bind (Jx a1 s1) fun (x5:Bs) =>
 cond (!(x4==x5))
   (some (.done (.inr false)))
   (some (.next (Ja (s1+1)))))
   (some (.done (.inl ())))
def m22 (a0:List Bs) (a1:List Bs):Option Bool :=
 cond ((a0.length:Int) != (a1.length:Int))
   (some false)
   (Option.bind (Qq (m22_l0 a0 a1) QI 0) (Sum.elim (fun (o2:Unit)=>some true) (fun o=>some o)))
theorem m22_ok (a0:List Bs) (a1:List Bs) (r:Bool) (h0:m22 a0 a1=some r):Fun Try.prog 22 [.one (DU a0),.one (DU a1)] (QP [.one (DX r)]):=by
 unfold m22 at h0
 refine QS 9 26 Try.func22 Z en_22 Z (DM Z) (fun S w=>?_)
 simp only [Jb]
 refine Q6<|Q0<|DF Z Z Z<|Q3<|Q4<|Q6<|Q6<|Q0<|DE Z Z Z<|DD Z Z Z (QD (α:=Bs) Z7 Z (.d _))<|DE Z Z Z<|DD Z Z Z (QD (α:=Bs) Z7 Z (.d _))<|DD Z Z Z (Q8 Z Z Z)<|Q3 ?_
 refine Q4 ?_
 refine Qg (b:=((a0.length:Int) != (a1.length:Int))) Z (fun c1=>?_) (fun c1=>?_)
 replace h0:=Qi c1 h0
 refine Q6<|Q0<|DF Z Z Z<|Q3<|Q4<|QE ?_
 have e:=DB h0;subst e
 exact QJ (fun _ _ h=>h) Z (QB Z .nil) (.cons (.one (.d _)) .nil)
 replace h0:=Qj c1 h0
 refine Qn<|Q4<|Q6<|Q6<|Q0<|DF Z Z Z<|Q3<|Q4<|Qh ?_
 refine J2 0 (fun (o2:Unit)=>⟨[],[],[],0,26,[]⟩) (fun (o2:Unit)=>(some true)=some r) ?_ ?_
 refine Qd h0 (fun o3 hl1 h0=>?_)
 refine J1 (m22_l0 a0 a1) (fun s1=>⟨[(0,.v (.one (DU a0))),(1,.v (.one (DU a1))),(5,.v (.one (DW s1)))],[],[],0,26,[]⟩) 0 o3 (DA (Nat.zero_le _) Z Z Z Z Z) hl1 (fun s1 n1 oo1 h1 ho1=>?_)
 unfold m22_l0 at h1
 refine Q6<|Q6<|Q0<|DE Z Z Z<|DE Z Z Z<|DD Z Z Z (QD (α:=Bs) Z7 Z (.d _))<|DD Z Z Z (Q8 Z Z Z)<|Q3<|Q4 ?_
 refine Qg (b:=(decide (s1 < (a0.length:Int)))) Z (fun c4=>?_) (fun c4=>?_)
 replace h1:=Qi c4 h1
 refine Qn<|Q4<|Q6<|Qh<|Q6 ?_
 refine Js [] [] YU (by kernel_rfl) (by kernel_rfl) (by kernel_rfl) ?_
 refine RunA.rd Z Z Z (Q1 (Qp Z)) Z<|RunA.rd Z Z Z (Q1 (Qp Z)) Z ?_
 refine Qd h1 (fun x5 hx5 h1=>?_)
 refine RunA.rd Z Z Z (Q1 (Qy (α:=Bs) Z7 Z (.d _) Z hx5)) Z<|RunA.rd Z Z Z (Q1 (Y1 JT Z Z)) Z<|RunA.rd Z Z Z (Q1 (Qp Z)) Z<|RunA.rd Z Z Z (Q1 (Qp Z)) Z ?_
 refine Qd h1 (fun x6 hx6 h1=>?_)
 refine RunA.rd Z Z Z (Q1 (Qy (α:=Bs) Z7 Z (.d _) Z hx6)) Z<|RunA.rd Z Z Z (Q1 (Y1 JT Z Z)) Z<|RunA.rd Z Z Z (Q1 (RO.neS Z Z)) Z ?_
 refine RunA.nil ⟨?ex,_,_,Z,?_⟩
 case ex=>exact trivial
 refine JV (st':=⟨[(0,.v (.one (DU a0))),(1,.v (.one (DU a1))),(5,.v (.one (DW s1))),(25,.v (.one (DX (!(x5==x6)))))],[],[],0,26,[]⟩) (DA (Nat.zero_le _) Z Z Z Z Z)<|Q4 ?_
 refine Qg (b:=(!(x5==x6))) Z (fun c7=>?_) (fun c7=>?_)
 replace h1:=Qi c7 h1
 refine Q6<|Q0<|DF Z Z Z<|Q3<|Q4<|QE ?_
 have e:=DB h1;subst e
 have e_:_=_:=ho1
 subst e_
 try dsimp only [Sum.elim_inl,Sum.elim_inr] at h0
 have e:=DB h0;subst e
 exact QJ (fun _ _ h=>h) Z (QB Z .nil) (.cons (.one (.d _)) .nil)
 replace h1:=Qj c7 h1
 refine Qn<|Qf<|Q4<|Q0<|DE Z Z Z<|DD Z Z Z (Q8 Z Z Z)<|DF Z Z Z<|Q3 ?_
 have e:=DB h1;subst e
 refine QW (Ja (s1+1)) (DA (Nat.zero_le _) Z Z Z Z Z) ho1
 replace h1:=Qj c4 h1
 refine J8<|Qr<|Qr ?_
 have e:=DB h1;subst e
 have e_:_=_:=ho1
 subst e_
 exact J0 () (DA (Nat.zero_le _) Z Z Z Z Z) h0
 intro o2 h0
 refine QQ<|Q4<|Q6<|Q0<|DF Z Z Z<|Q3<|Q4<|QE ?_
 have e:=DB h0;subst e
 exact QJ (fun _ _ h=>h) Z (QB Z .nil) (.cons (.one (.d _)) .nil)
end Go.Proofs.Ytafddfoefeploaa
namespace Go.Proofs.Ytafddfoefeploaa
open Go.RowKit Go.Shelf
def WK (a0:Dcl) (a2:Bs) (a1:Int) (s1:Int):Option (LO Int (Unit⊕Ent)) :=
 cond (decide (s1 < (a0.ctors.length:Int)))
   (Option.bind (Jx a0.ctors s1) fun (x8:Ctr) =>
 cond (x8.name==a2)
   (Option.bind (Jx a0.ctors s1) fun (x10:Ctr) =>
 some (.done (.inr (⟨4,a1,s1,a0.params,x10.ty⟩:Ent))))
   (some (.next (Ja (s1+1)))))
   (some (.done (.inl ())))
def WJ (a0:Dcl) (a2:Bs) (a1:Int) (s1:Int):Option (LO Int (Unit⊕Ent)) :=
 cond (decide (s1 < (a0.funs.length:Int)))
   (Option.bind (Jx a0.funs s1) fun (x14:Fn) =>
 cond (x14.name==a2)
   (Option.bind (Jx a0.funs s1) fun (x16:Fn) =>
 some (.done (.inr (⟨6,a1,s1,a0.params,x16.ty⟩:Ent))))
   (some (.next (Ja (s1+1)))))
   (some (.done (.inl ())))
def Dm (a0:Dcl) (a1:Int) (a2:Bs):Option Ent :=
 cond (a0.kind==0)
   (some (⟨0,a1,0,a0.params,a0.ty⟩:Ent))
   (cond (a0.kind==1)
   (some (⟨1,a1,0,a0.params,a0.ty⟩:Ent))
   (cond (a0.kind==2)
   (some (⟨2,a1,0,a0.params,a0.ty⟩:Ent))
   (cond (a0.kind==3)
   (cond (a2==a0.name)
   (some (⟨3,a1,0,a0.params,a0.ty⟩:Ent))
   (Option.bind (Qq (WK a0 a2 a1) QI 0) (Sum.elim (fun (o6:Unit)=>some (⟨5,a1,0,a0.rcr.params,a0.rcr.ty⟩:Ent)) (fun o=>some o))))
   (Option.bind (Qq (WJ a0 a2 a1) QI 0) (Sum.elim (fun (o12:Unit)=>some (⟨0,a1,0,a0.params,a0.ty⟩:Ent)) (fun o=>some o))))))
def m15_l0 (a0:List Dcl) (a1:Bs) (s1:Int):Option (LO Int (Unit⊕(Ent×Int))) :=
 cond (decide (s1 < (a0.length:Int)))
   (Option.bind (Jx a0 s1) fun (x3:Dcl) =>
 Option.bind (Dd x3) fun (x4:(List Bs)) =>
 Option.bind (UB x4 a1) fun (x5:Bool) =>
 cond x5
   (Option.bind (Jx a0 s1) fun (x7:Dcl) =>
 Option.bind (Dm x7 s1 a1) fun (x8:Ent) =>
 some (.done (.inr (x8,0))))
   (some (.next (Ja (s1+1)))))
   (some (.done (.inl ())))
def UX (a0:List Dcl) (a1:Bs):Option (Ent×Int) :=
 Option.bind (Qq (m15_l0 a0 a1) QI 0) (Sum.elim (fun (o1:Unit)=>some ((⟨0,0,0,0,(Tm.mk 0 0 ([]:List UInt8) ([]:List Lvl) ([]:List Tm))⟩:Ent),9)) (fun o=>some o))
def m17 (a0:List Dcl) (a1:Bs):Option (Dcl×Int×Bool) :=
 Option.bind (UX a0 a1) fun (x1:Ent×Int) =>
 cond (x1.2 != 0)
   (some ((⟨0,([]:List UInt8),0,(Tm.mk 0 0 ([]:List UInt8) ([]:List Lvl) ([]:List Tm)),(Tm.mk 0 0 ([]:List UInt8) ([]:List Lvl) ([]:List Tm)),0,([]:List Ctr),(⟨0,(Tm.mk 0 0 ([]:List UInt8) ([]:List Lvl) ([]:List Tm)),([]:List Tm)⟩:Rcr),([]:List Fn)⟩:Dcl),0,false))
   (cond (x1.1.kind==3)
   (Option.bind (Jx a0 x1.1.decl) fun (x4:Dcl) =>
 some (x4,(-1),true))
   (cond (x1.1.kind==4)
   (Option.bind (Jx a0 x1.1.decl) fun (x6:Dcl) =>
 some (x6,x1.1.item,true))
   (cond (x1.1.kind==5)
   (Option.bind (Jx a0 x1.1.decl) fun (x8:Dcl) =>
 some (x8,(-2),true))
   (some ((⟨0,([]:List UInt8),0,(Tm.mk 0 0 ([]:List UInt8) ([]:List Lvl) ([]:List Tm)),(Tm.mk 0 0 ([]:List UInt8) ([]:List Lvl) ([]:List Tm)),0,([]:List Ctr),(⟨0,(Tm.mk 0 0 ([]:List UInt8) ([]:List Lvl) ([]:List Tm)),([]:List Tm)⟩:Rcr),([]:List Fn)⟩:Dcl),0,false)))))
end Go.Proofs.Ytafddfoefeploaa
