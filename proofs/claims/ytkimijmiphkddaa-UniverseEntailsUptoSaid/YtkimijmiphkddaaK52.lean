/- Part 2 of the proof: rules, mirrors and plain laws. The statement UniverseEntailsUpto is proved here: for every list of bounds and every bound the law returns true, and what it is given reads behind the call as it did before; condition: the arguments are of bulk at most 1048576 (the second form). -/
import Derived.Test.YtkimijmiphkddaaK51
import Derived.Lib.Bytes
import Derived.Laws.Cover3
import Derived.Laws.BytesArg
import Derived.Shelf.Abstract
import Derived.Shelf.SlIterI.Sorted
import Derived.Shelf.SlIterI.Collect
import Derived.Shelf.SortM.Plain
import Derived.Shelf.SortM.SortNone
import Derived.Ground.GgzProg
import Derived.Ground.SlgmProg
import Derived.Test.YtkimijmiphkddaaProg
set_option maxRecDepth 100000
set_option maxHeartbeats 2000000
set_option linter.unusedSimpArgs false
set_option linter.unusedVariables false
set_option linter.unusedSectionVars false
namespace Go.Proofs.Ytkimijmiphkddaa
open Go.RowKit
instance:Enc LV:=⟨2,lvC,fun l=>l.map lvC,rfl,fun a b=>List.map_append,fun _=>rfl⟩
instance:Enc Lvl:=⟨2,lvlC,fun l=>l.map lvlC,rfl,fun a b=>List.map_append,fun _=>rfl⟩
instance:Enc Bnd:=⟨4,bndC,fun l=>l.map bndC,rfl,fun a b=>List.map_append,fun _=>rfl⟩
instance:Enc Int:=⟨1,intC,fun l=>l.map intC,rfl,fun a b=>List.map_append,fun _=>rfl⟩
def strC (s:ByteArray):List C:=[.v (.string s)]
instance:Enc ByteArray:=⟨1,strC,fun l=>l.map strC,rfl,fun a b=>List.map_append,fun _=>rfl⟩
def boolC (b:Bool):List C:=[.v (.bool b)]
instance:Enc Bool:=⟨1,boolC,fun l=>l.map boolC,rfl,fun a b=>List.map_append,fun _=>rfl⟩
def slC {α:Type} [Enc α] (l:List α):List C:=[.sl (Enc.sz α) (Enc.encL l)]
instance {α:Type} [Enc α]:Enc (List α):=⟨1,slC,fun l=>l.map slC,rfl,fun a b=>List.map_append,fun _=>rfl⟩
structure Edg where
 fr:Int
 to:Int
 by_:Int
def edgC (e:Edg):List C:=[.v (.int .i64 e.fr),.v (.int .i64 e.to),.v (.int .i64 e.by_)]
instance:Enc Edg:=⟨3,edgC,fun l=>l.map edgC,rfl,fun a b=>List.map_append,fun _=>rfl⟩
end Go.Proofs.Ytkimijmiphkddaa
namespace Go.Proofs.Ytkimijmiphkddaa
open Go.RowKit
section
variable {E:Env} {ro:Option Nat} {n:Nat} {Q:Exit→Act→World→Prop} {st:St} {c:Code}
theorem XC.begin (h:E.V0.nx≤st.nx→XC E ro n Q c st):XC E ro n Q c st:=fun V a w hr=>h (by rw [← hr.nx];exact hr.h.le0.nx) V a w hr
theorem XQ.of {st':St} {e:Exit} (hQ:XQ E Q e st') (hl:StLe E st st'):XQ E Q e st:=XQ.less hl hQ
theorem XC.exec {st':St} {e:Exit} {rn:Option Nat} (h:ExecOK E.P rn c st e st') (hro:RoundOf E rn ro) (k:XQ E Q e st'):XC E ro n Q c st:=h E ro n Q rfl hro k
end
theorem CallM.of_body {P:Program} {f:FuncId} {fn:Func} {c:Code} {args:List AV} {m:Mem} (st':St) {hp':List (Nat×HB)} {xs:List AV} (hf:P.funcs[f]?=some fn) (hb:fn.body=some c) (hen:Enters P f) (hnt:args.length≤fn.ntmps)
  (hdf:takeMarks st'.df st'.hp=some hp') (hres:RAs P ⟨st'.tm,hp',st'.tk,st'.nx,st'.nt,[]⟩ fn.results.toList xs)
  (h:∀ (w0:World) (M:Nat→Prop) (V0:Vu) (Q:Exit→Act→World→Prop),V0.nx≤m.nx→XQ ⟨P,w0,M,V0⟩ Q .normal st'→XQ ⟨P,w0,M,V0⟩ Q .ret st'→XC ⟨P,w0,M,V0⟩ none 0 Q c ⟨entry 0 args,m.hp,m.tk,m.nx,fn.ntmps,[]⟩) (hP0:P=Try.prog:=by rfl) :
  CallM P f args m (resOf xs) ⟨hp',st'.tk,st'.nx⟩:=by
 refine ⟨hen,fun E V w vs hP H hn hargs=>?_⟩
 refine (callsIn_wide (n:=0)).1 (callsIn_of_wpV (F:=Fence.wide) (vf_of hP0 hf) hf hb trivial ?_)
 have hR0:Rel (E.at V w) V ⟨entry 0 args,m.hp,m.tk,m.nx,fn.ntmps,[]⟩ { tmps:=vs++Array.replicate (fn.ntmps - vs.size) undef,defers:=[]} w:=by
  refine ⟨H.rebase,hn,by simp [hargs.1];omega,dfRel.nil,fun t x hx=>?_⟩
  obtain ⟨k,y,h1,h2,rfl⟩:=lk_entry args 0 t x hx
  obtain ⟨u,hu,hy⟩:=hargs.2 k y h2
  have hk:k < vs.size:=(Array.getElem?_eq_some_iff.1 hu).1
  have:(vs++Array.replicate (fn.ntmps - vs.size) undef).getD t undef=u:=by
   rw [show t=k by omega,Array.getD_eq_getD_getElem?,Array.getElem?_append_left hk,hu];rfl
  rw [this];exact hy
 have key:∀ (V1:Vu) (a1:Act) (w1:World),Rel (E.at V w) V1 st' a1 w1→LeavesInM Fence.wide 0 P fn a1.tmps (fun e w'=>∃ v V',e=.returned v∧HRel E V' hp' st'.tk w'∧V'.nx=st'.nx∧V.Le V' w w'∧(resOf xs).rel V' w' v) a1.defers .returning w1:=by
  intro V1 a1 w1 hr1
  refine leaves_marks st'.df a1.defers st'.hp hp' w1 hr1.h hr1.df hdf (fun w' V1' H' hn' L'=>?_)
  have hr':Rel (E.at V w) V1' ⟨st'.tm,hp',st'.tk,st'.nx,st'.nt,[]⟩ { tmps:=a1.tmps,defers:=[]} w':=⟨H',hn'.trans hr1.nx,hr1.nt,dfRel.nil,fun t x hx=>(hr1.tm t x hx).keep L'⟩
  obtain ⟨v,h1,h2⟩:=results_run (E:=E.at V w) hres hP hr'
  obtain ⟨H5,L5⟩:=H.back H'
  exact ⟨v,h1,v,V1',Z,H5,hn'.trans hr1.nx,L5,h2⟩
 have hgo:∀ E':Env,E'=E.at V w→E'.P=P→E'.V0=V→XC E' none 0 (bodyPostM Fence.wide 0 P fn (fun e w'=>∃ v V',e=.returned v∧HRel E V' hp' st'.tk w'∧V'.nx=st'.nx∧V.Le V' w w'∧(resOf xs).rel V' w' v)) c ⟨entry 0 args,m.hp,m.tk,m.nx,fn.ntmps,[]⟩:=by
  rintro ⟨P',w0,M,V0⟩ he hP' hV'
  dsimp only at hP' hV'
  subst hP'
  refine h w0 M V0 _ (by rw [hV',hn];exact Nat.le_refl _) ?_ ?_
  ·rw [he];exact key
  ·rw [he];exact key
 have:=hgo (E.at V w) rfl hP rfl V _ w hR0
 rw [show (E.at V w).P=P from hP] at this
 exact this
theorem OpOK.callW {E:Env} {st:St} {dd:Option Tmp} {ty:TypeId} {pos:String} {af:Array Edge} {g:Option (Nat×Bool)} {x:Operand} {f:FuncId} {caps:List (Nat×Nat)} {ars:Array Operand} {args args':List AV} {ats:Array TypeId} {res:TV} {m':Mem} {hp0:List (Nat×HB)} {tk0:List (Nat×Option Tok)} {nx0:Nat} (hx:ev st.tm x=some (.v (.one (.fn f caps)))) (ha:evArgs st.tm ars.toList=some args) (he:args++ptrs caps=args')
  (hc:CallM E.P f args' ⟨hp0,tk0,nx0⟩ res m') (hn0:st.nx=nx0) (hh:hpLe st.hp hp0) (ht:tkLe st.tk tk0):OpOK E ⟨dd,.call { callee:=.value x,args:=ars,argTypes:=ats },ty,pos,af,g⟩ st res m':=by
 subst hn0;subst he
 intro V a w hr
 have hr':Rel E V { st with hp:=hp0,tk:=tk0 } a w:=⟨hr.h.forgetLe hh ht,hr.nx,hr.nt,hr.df,hr.tm⟩
 exact OpOK.call (st:={ st with hp:=hp0,tk:=tk0 }) hx ha hc V a w hr'
theorem ExecOK.walk {P:Program} {rn:Option Nat} {c:Code} {st st':St} {e:Exit}
  (h:∀ (w0:World) (M:Nat→Prop) (V0:Vu) (ro:Option Nat) (n:Nat) (Q:Exit→Act→World→Prop),V0.nx≤st.nx→RoundOf ⟨P,w0,M,V0⟩ rn ro→XQ ⟨P,w0,M,V0⟩ Q e st'→XC ⟨P,w0,M,V0⟩ ro n Q c st):ExecOK P rn c st e st':=by
 rintro ⟨P',w0,M,V0⟩ ro n Q hP hro hQ
 dsimp only at hP
 subst hP
 exact XC.begin (fun hv=>h w0 M V0 ro n Q hv hro hQ)
theorem ExecOK.from {P:Program} {rn:Option Nat} {c:Code} {st st1 st':St} {e:Exit} (h:ExecOK P rn c st1 e st') (hl:∀ E:Env,E.V0.nx≤st.nx→StLe E st st1):ExecOK P rn c st e st':=by
 intro E ro n Q hP hro hQ
 exact XC.begin (fun hv=>XC.less (hl E hv) (h E ro n Q hP hro hQ))
def cA:Code→Code
 | .seq a _=>a
 | .cond _ a _=>a
 | .block _ a=>a
 | .loop a=>a
 | .rangeFunc _ _ a _=>a
 | c=>c
def cB:Code→Code
 | .seq _ b=>b
 | .cond _ _ b=>b
 | .rangeFunc _ _ _ b=>b
 | c=>c
def bodyC (f:Func):Code:=f.body.getD .skip
theorem cond_left {a b:Bool} (h:cond a b false=true):a=true:=by cases a <;> simp_all
theorem cond_right {a b:Bool} (h:cond a b false=true):b=true:=by cases a <;> simp_all
section
variable {E:Env} {st:St} {d:Option Tmp} {ty:TypeId} {pos:String} {af:Array Edge} {g:Option (Nat×Bool)}
end
end Go.Proofs.Ytkimijmiphkddaa
namespace Go.Proofs.Ytkimijmiphkddaa
section
open Go.RowKit
abbrev IMap:=List (Int×Int×Nat)×Nat
def imE (l:List (Int×Int×Nat)):List (Value×AV×Nat):=l.map fun e=>(.int .i64 e.1,.one (.d (.v (.int .i64 e.2.1))),e.2.2)
def imFind (k:Int):List (Int×Int×Nat)→Nat→Option (Nat×Int)
 | [],_=>none
 | e::l,i=>cond (k==e.1) (some (i,e.2.1)) (imFind k l (i+1))
def imGet (M:IMap) (k:Int):Option Int:=(imFind k M.1 0).map (·.2)
def imVal (M:IMap) (k:Int):Int:=(imGet M k).getD 0
def imHas (M:IMap) (k:Int):Bool:=(imGet M k).isSome
def imSet (M:IMap) (k v:Int):IMap:=match imFind k M.1 0 with
 | some (j,_)=>(M.1.modify j fun e=>(k,v,e.2.2),M.2)
 | none=>(M.1++[(k,v,M.2)],M.2+1)
def imNil:IMap:=([],0)
theorem mpBelow_im {m:Nat} {l:List (Int×Int×Nat)}:mpBelow m (imE l)=True:=by
 refine eq_true fun e he=>?_
 obtain ⟨x,-,rfl⟩:=List.mem_map.1 he
 trivial
theorem findE_im (k:Int):∀ (l:List (Int×Int×Nat)) (i:Nat),findE (.int .i64 k) (imE l) i=some ((imFind k l i).map fun p=>(p.1,.one (.d (.v (.int .i64 p.2)))))
 | [],i=>rfl
 | e::l,i=>by
  have ih:=findE_im k l (i+1)
  simp only [imE] at ih
  simp only [imE,List.map_cons,findE,keyEq,decide_true,cond_true,imFind]
  cases h:k==e.1 with
  | true=>rfl
  | false=>simp only [cond_false];exact ih
theorem imE_modify (l:List (Int×Int×Nat)) (j:Nat) (k v:Int):imE (l.modify j fun e=>(k,v,e.2.2))=(imE l).modify j fun e=>(.int .i64 k,.one (.d (.v (.int .i64 v))),e.2.2):=by
 unfold imE
 apply List.ext_getElem?
 intro i
 rw [List.getElem?_map,List.getElem?_modify,List.getElem?_modify,List.getElem?_map]
 cases l[i]? with
 | none=>by_cases h:j=i <;> simp [h]
 | some e=>by_cases h:j=i <;> simp [h]
section
variable {E:Env} {st:St} {dd:Option Tmp} {ty:TypeId} {pos:String} {af:Array Edge} {g:Option (Nat×Bool)}
theorem RO.lookupT {t:TypeId} {o1 o2:Operand} {i:Nat} {M:IMap} {k:Int} (ht:tyMap E.P t=some (true,.one (.d (.v (.int .i64 0))))) (h1:ev st.tm o1=some (.v (.one (.mp i)))) (h2:ev st.tm o2=some (TI k)) (hi:lk st.hp i=some (.mp (imE M.1) M.2)) :
  RO E ⟨dd,.lookup t o1 o2 true,ty,pos,af,g⟩ st (.tup [.one (.d (.v (.int .i64 (imVal M k)))),.one (.d (.v (.bool (imHas M k))))]):=by
 have hf:=findE_im k M.1 0
 unfold imVal imHas imGet
 cases h:imFind k M.1 0 with
 | none=>rw [h] at hf;exact RO.lookup (E:=E) (dd:=dd) (ty:=ty) (pos:=pos) (af:=af) (g:=g) ht h1 h2 rfl hi hf true
 | some p=>rw [h] at hf;exact RO.lookup (E:=E) (dd:=dd) (ty:=ty) (pos:=pos) (af:=af) (g:=g) ht h1 h2 rfl hi hf true
theorem RO.lookupF {t:TypeId} {o1 o2:Operand} {i:Nat} {M:IMap} {k:Int} (ht:tyMap E.P t=some (true,.one (.d (.v (.int .i64 0))))) (h1:ev st.tm o1=some (.v (.one (.mp i)))) (h2:ev st.tm o2=some (TI k)) (hi:lk st.hp i=some (.mp (imE M.1) M.2)) :
  RO E ⟨dd,.lookup t o1 o2 false,ty,pos,af,g⟩ st (TI (imVal M k)):=by
 have hf:=findE_im k M.1 0
 unfold imVal imGet
 cases h:imFind k M.1 0 with
 | none=>rw [h] at hf;exact RO.lookup (E:=E) (dd:=dd) (ty:=ty) (pos:=pos) (af:=af) (g:=g) ht h1 h2 rfl hi hf false
 | some p=>rw [h] at hf;exact RO.lookup (E:=E) (dd:=dd) (ty:=ty) (pos:=pos) (af:=af) (g:=g) ht h1 h2 rfl hi hf false
theorem OpOK.mapSetI {t:TypeId} {o1 o2 o3:Operand} {i:Nat} {M:IMap} {k v:Int} (ht:tyMap E.P t=some (true,.one (.d (.v (.int .i64 0))))) (h1:ev st.tm o1=some (.v (.one (.mp i)))) (h2:ev st.tm o2=some (TI k)) (h3:ev st.tm o3=some (TI v)) (hi:lk st.hp i=some (.mp (imE M.1) M.2)) (hdd:dd=none) :
  OpOK E ⟨dd,.mapUpdate t o1 o2 o3,ty,pos,af,g⟩ st (.tup []) ⟨(i,.mp (imE (imSet M k v).1) (imSet M k v).2)::dropK i st.hp,st.tk,st.nx⟩:=by
 have hf:=findE_im k M.1 0
 unfold imSet
 cases h:imFind k M.1 0 with
 | none =>
  rw [h] at hf
  have e:imE (M.1++[(k,v,M.2)])=imE M.1++[(.int .i64 k,.one (.d (.v (.int .i64 v))),M.2)]:=by simp [imE]
  dsimp only
  rw [e];exact OpOK.mapUpdate (E:=E) (dd:=dd) (ty:=ty) (pos:=pos) (af:=af) (g:=g) ht h1 h2 h3 rfl hi hf hdd
 | some p =>
  rw [h] at hf
  dsimp only
  rw [imE_modify];exact OpOK.mapUpdate (E:=E) (dd:=dd) (ty:=ty) (pos:=pos) (af:=af) (g:=g) ht h1 h2 h3 rfl hi hf hdd
theorem OpOK.makeMapI {t:TypeId}:OpOK E ⟨dd,.makeMap t none,ty,pos,af,g⟩ st (.v (.one (.mp st.nx))) ⟨(st.nx,.mp (imE imNil.1) imNil.2)::st.hp,st.tk,st.nx+1⟩:=OpOK.makeMap
end
end
section
open Go.RowKit
def nodupB {α:Type} [BEq α]:List α→Bool
 | []=>true
 | x::l=>cond (l.any fun y=>x==y) false (nodupB l)
theorem nodupB_ok {α:Type} [BEq α] [LawfulBEq α]:∀ {l:List α},nodupB l=true→l.Nodup
 | [],_=>List.nodup_nil
 | x::l,h=>by
  simp only [nodupB] at h
  cases h1:l.any fun y=>x==y with
  | true=>rw [h1] at h;cases h
  | false =>
   rw [h1] at h
   refine List.nodup_cons.2 ⟨fun hx=>?_,nodupB_ok h⟩
   have:(l.any fun y=>x==y)=true:=List.any_eq_true.2 ⟨x,hx,by simp⟩
   rw [h1] at this;cases this
def insZ (x:Int):List Int→List Int
 | []=>[x]
 | y::l=>cond (decide (x≤y)) (x::y::l) (y::insZ x l)
def sortZ (l:List Int):List Int:=l.foldr insZ []
theorem insZ_perm (x:Int):∀ l:List Int,(insZ x l).Perm (x::l)
 | []=>.refl _
 | y::l=>by
  simp only [insZ]
  cases decide (x≤y) with
  | true=>exact .refl _
  | false=>exact ((insZ_perm x l).cons y).trans (.swap x y l)
theorem sortZ_perm:∀ l:List Int,(sortZ l).Perm l
 | []=>.refl _
 | x::l=>(insZ_perm x _).trans ((sortZ_perm l).cons x)
theorem insZ_sorted (x:Int):∀ l:List Int,l.Pairwise (·≤·)→(insZ x l).Pairwise (·≤·)
 | [],_=>by simp [insZ]
 | y::l,h=>by
  obtain ⟨h1,h2⟩:=List.pairwise_cons.1 h
  simp only [insZ]
  cases hd:decide (x≤y) with
  | true =>
   have hxy:x≤y:=of_decide_eq_true hd
   refine List.pairwise_cons.2 ⟨fun z hz=>?_,h⟩
   rcases List.mem_cons.1 hz with rfl | hz
   ·exact hxy
   ·exact Int.le_trans hxy (h1 z hz)
  | false =>
   have hxy:¬ x≤y:=of_decide_eq_false hd
   refine List.pairwise_cons.2 ⟨fun z hz=>?_,insZ_sorted x l h2⟩
   rcases List.mem_cons.1 ((insZ_perm x l).mem_iff.1 hz) with rfl | hz
   ·omega
   ·exact h1 z hz
theorem sortZ_sorted:∀ l:List Int,(sortZ l).Pairwise (·≤·)
 | []=>.nil
 | x::l=>insZ_sorted x _ (sortZ_sorted l)
theorem mergeSort_sortZ {l l':List Int} (h:l.Perm l'):(l.mergeSort fun x y=>decide (x≤y))=sortZ l':=by
 have tr:∀ a b c:Int,(fun x y:Int=>decide (x≤y)) a b=true→(fun x y:Int=>decide (x≤y)) b c=true→(fun x y:Int=>decide (x≤y)) a c=true:=fun a b c h1 h2=>by simp only [decide_eq_true_eq] at *;exact Int.le_trans h1 h2
 have to:∀ a b:Int,((fun x y:Int=>decide (x≤y)) a b||(fun x y:Int=>decide (x≤y)) b a)=true:=fun a b=>by simp only [Bool.or_eq_true,decide_eq_true_eq];exact Int.le_total a b
 refine List.Perm.eq_of_pairwise (le:=fun a b:Int=>a≤b) (fun a b _ _ h1 h2=>Int.le_antisymm h1 h2) ?_ (sortZ_sorted l') (((List.mergeSort_perm l _).trans h).trans (sortZ_perm l').symm)
 exact (List.pairwise_mergeSort tr to l).imp (fun h=>by simpa using h)
def imKeys (M:IMap):List Int:=sortZ (M.1.map fun e=>e.1)
def imOk (M:IMap):Bool:=cond (Nat.ble M.1.length 1000000) (cond (M.1.all fun e=>cond (Nat.ble (e.2.2+1) M.2) (cond (decide (-9223372036854775808≤e.1)) (decide (e.1≤9223372036854775807)) false) false) (cond (nodupB (M.1.map fun e=>e.2.2)) (nodupB (M.1.map fun e=>e.1)) false) false) false
end
end Go.Proofs.Ytkimijmiphkddaa
namespace Go.Proofs.Ytkimijmiphkddaa
open Go.RowKit
abbrev dI (x:Int):CA:=.d (.v (.int .i64 x))
abbrev dB (b:Bool):CA:=.d (.v (.bool b))
abbrev dS {α:Type} [Enc α] (l:List α):CA:=.d (.sl (Enc.sz α) (Enc.encL l))
abbrev dA {α:Type} [Enc α] (n:Nat) (l:List α):CA:=.app n (Enc.sz α) (Enc.encL l)
abbrev dN:CA:=.d (.v (.slice none 0 0))
abbrev cE {α:Type} [Enc α] (x:α):List CA:=(Enc.enc x).map CA.d
def flatE {α:Type} [Enc α] (l:List α):List CA:=(Enc.encL l).flatten.map CA.d
class EncLen (α:Type) [Enc α]:Prop where
 len:∀ x:α,(Enc.enc x).length=Enc.sz α
 pos:0 < Enc.sz α
instance:EncLen Lvl:=⟨fun _=>rfl,by decide⟩
instance:EncLen LV:=⟨fun _=>rfl,by decide⟩
instance:EncLen Int:=⟨fun _=>rfl,by decide⟩
instance:EncLen Bnd:=⟨fun _=>rfl,by decide⟩
section
variable {α:Type} [Enc α] [EncLen α]
theorem encL_lens (l:List α):∀ e∈Enc.encL l,e.length=Enc.sz α:=by
 intro e he
 rw [Enc.map] at he
 obtain ⟨x,-,rfl⟩:=List.mem_map.1 he
 exact EncLen.len x
theorem flatE_len (l:List α):(flatE l).length=l.length * Enc.sz α:=by
 unfold flatE;rw [List.length_map,flat_len _ (encL_lens l),Enc.len]
theorem flatE_get {l:List α} {k j:Nat} {x:α} (h:l[k]?=some x) (hj:j < Enc.sz α):(flatE l)[k * Enc.sz α+j]?=((Enc.enc x)[j]?).map CA.d:=by
 unfold flatE;rw [List.getElem?_map,flat_get _ (encL_lens l) k j _ (Enc.get h) hj]
end
section
variable {α:Type} [Enc α]
theorem flatE_cons (x:α) (l:List α):flatE (x::l)=(Enc.enc x).map CA.d++flatE l:=by
 unfold flatE;rw [Enc.cons,List.flatten_cons,List.map_append]
theorem flatE_nil:flatE ([]:List α)=[]:=by unfold flatE;rw [Enc.nil];rfl
end
theorem flatE_mem {α:Type} [Enc α] {l:List α} {x:CA} (h:x∈flatE l):∃ c:C,True∧CA.d c=x:=by
 obtain ⟨c,-,rfl⟩:=List.mem_map.1 h
 exact ⟨c,trivial,Z⟩
theorem setL_app:∀ (ys ars xs:List CA) (off:Nat),setL (ars++xs) (ars.length+off) ys=ars++setL xs off ys
 | [],ars,xs,off=>rfl
 | y::ys,ars,xs,off=>by
  simp only [setL]
  rw [List.set_append_right _ _ (by omega),Nat.add_sub_cancel_left,Nat.add_assoc,setL_app ys]
theorem setL_all:∀ (ys ars xs:List CA),ars.length=ys.length→setL (ars++xs) 0 ys=ys++xs
 | [],[],xs,_=>rfl
 | y::ys,a::ars,xs,h=>by
  have h2:=setL_app ys [y] (ars++xs) 0
  simp only [List.length_singleton] at h2
  simp only [setL,List.cons_append,List.set_cons_zero]
  rw [show (y::(ars++xs))=[y]++(ars++xs) from rfl,show 0+1=1+0 from rfl,h2,setL_all ys ars xs (by simpa using h)];rfl
theorem setL_flat {α:Type} [Enc α] [EncLen α]:∀ (l:List α) (k:Nat) (v:α),k < l.length→setL (flatE l) (k * Enc.sz α) ((Enc.enc v).map CA.d)=flatE (l.set k v)
 | x::l,0,v,_=>by
  rw [Nat.zero_mul,flatE_cons,List.set_cons_zero,flatE_cons,setL_all _ _ _ (by simp [EncLen.len])]
 | x::l,k+1,v,h=>by
  rw [flatE_cons,List.set_cons_succ,flatE_cons,← setL_flat l k v (by simpa using h)]
  have:=setL_app ((Enc.enc v).map CA.d) ((Enc.enc x).map CA.d) (flatE l) (k * Enc.sz α)
  rw [List.length_map,EncLen.len] at this
  rw [← this,Nat.succ_mul,Nat.add_comm]
section
variable {E:Env} {st:St} {dd d:Option Tmp} {ty:TypeId} {pos:String} {af:Array Edge} {g:Option (Nat×Bool)}
theorem RO.indexO {α:Type} [Enc α] {t e i n:Nat} {x y:Operand} {m:Int} {l:List α} {v:α} (ht:tySlice E.P t=some (e,Enc.sz α)) (hx:ev st.tm x=some (.v (.one (.osl i 0 n n)))) (hy:ev st.tm y=some (TI m)) (hv:idx l m=some v) (hn:Nat.beq l.length n=true) :
  RO E ⟨d,.indexAddr t x y,ty,pos,af,g⟩ st (.v (.one (.ptr i (m.toNat * Enc.sz α)))):=by
 obtain ⟨k,rfl,hk⟩:=idxS hv
 have hl:l.length=n:=Nat.eq_of_beq_eq_true hn
 have:=RO.indexOsl (E:=E) (st:=st) (d:=d) (ty:=ty) (pos:=pos) (af:=af) (g:=g) (k:=k) ht hx hy rfl (by rw [← hl];exact (List.getElem?_eq_some_iff.1 hk).1)
 rw [Nat.zero_add] at this;exact this
theorem RO.loadOE {α:Type} [Enc α] [EncLen α] {t i:Nat} {T:TypeId} {x:Operand} {m:Int} {l:List α} {v:α} {ys:List CA} (ht:tyAgg E.P t=some (true,Enc.sz α)) (hx:ev st.tm x=some (.v (.one (.ptr i (m.toNat * Enc.sz α))))) (hi:lk st.hp i=some (.cells T (flatE l))) (hv:idx l m=some v) (hy:(Enc.enc v).map CA.d=ys) :
  RO E ⟨d,.load t x,ty,pos,af,g⟩ st (.v (.agg ys)):=by
 subst hy
 obtain ⟨k,rfl,hk⟩:=idxS hv
 simp only [Int.toNat_natCast] at hx
 refine RO.loadOwnAgg ht hx hi ?_ (by rw [List.length_map,EncLen.len])
 apply List.ext_getElem?
 intro j
 rw [List.getElem?_take]
 split
 ·rename_i hj
  rw [List.getElem?_drop,flatE_get hk hj,List.getElem?_map]
 ·rename_i hj
  rw [List.getElem?_map,List.getElem?_eq_none (by rw [EncLen.len];omega)];rfl
theorem RO.loadOF {α:Type} [Enc α] [EncLen α] {t i n f:Nat} {T:TypeId} {x:Operand} {m:Int} {l:List α} {v:α} {c:C} (ht:tyAgg E.P t=some (false,n)) (hx:ev st.tm x=some (.v (.one (.ptr i (m.toNat * Enc.sz α+f))))) (hi:lk st.hp i=some (.cells T (flatE l))) (hv:idx l m=some v) (hc:(Enc.enc v)[f]?=some c) :
  RO E ⟨d,.load t x,ty,pos,af,g⟩ st (.v (.one (.d c))):=by
 obtain ⟨k,rfl,hk⟩:=idxS hv
 simp only [Int.toNat_natCast] at hx
 refine RO.loadOwn ht hx hi ?_
 rw [flatE_get hk (by have:=(List.getElem?_eq_some_iff.1 hc).1;rw [EncLen.len] at this;exact this),hc];rfl
theorem OpOK.storeS {t n i off:Nat} {ag:Bool} {T:TypeId} {xs:List CA} {o1 o2:Operand} {y y':AV} (ht:tyAgg E.P t=some (ag,n)) (h1:ev st.tm o1=some (.v (.one (.ptr i off)))) (h2:ev st.tm o2=some (.v y)) (hs:ASub y y')
  (hi:lk st.hp i=some (.cells T xs)) (hn:y'.cells.length=n) (hle:off+n≤xs.length) (hdd:dd=none) :
  OpOK E ⟨dd,.store t o1 o2,ty,pos,af,g⟩ st (.tup []) ⟨(i,.cells T (setL xs off y'.cells))::dropK i st.hp,st.tk,st.nx⟩:=by
 intro V a w hr ro n' K Q hK
 refine ⟨fun _ _=>trivial,?_⟩
 rw [Oper.semAt_eq _ _ _ (by intro c h;cases h)]
 have e1:=hr.ev h1
 have e2:=(hs.rel (hr.ev h2)).cells
 obtain ⟨-,hsz⟩:=tyAgg_spec ht w
 obtain ⟨w',hw',H,L⟩:=HRel.storeL (T:=T) y'.cells (a.eval o2).cells.toList 0 off xs st.hp w hr.h hi (by simpa [hn] using hle) (by simpa using e2.1) (fun j z hz=>by
  obtain ⟨u,hu,hz'⟩:=e2.2 j z hz
  exact ⟨u,by simpa using hu,hz'.mono of_le⟩)
 have hrun:(execOp a.eval ⟨dd,.store t o1 o2,ty,pos,af,g⟩).run E.P w=.ok .skip w':=by
  have hs2:(a.eval o2).cells.size=n:=by rw [e2.1,hn]
  simp only [execOp,e1.2,Instr.storeAt,Instr.sureAddr,storeVar,Sem.run_bind,Sem.run_pure,Result.andThen_ok,hsz,hs2]
  simp [hw']
 rw [hrun]
 subst hdd
 exact hK V w' undef (H.congr (fun j=>lk_put i _ st.hp j) (fun _=>rfl)) hr.nx L und_rel
theorem OpOK.storeOE {α:Type} [Enc α] [EncLen α] {t i:Nat} {ag:Bool} {T:TypeId} {o1 o2:Operand} {y y':AV} {m:Int} {l:List α} {v0 v:α} (ht:tyAgg E.P t=some (ag,Enc.sz α)) (h1:ev st.tm o1=some (.v (.one (.ptr i (m.toNat * Enc.sz α))))) (h2:ev st.tm o2=some (.v y)) (hs:ASub y y') (he:y'.cells=(Enc.enc v).map CA.d)
  (hi:lk st.hp i=some (.cells T (flatE l))) (hv:idx l m=some v0) (hdd:dd=none) :
  OpOK E ⟨dd,.store t o1 o2,ty,pos,af,g⟩ st (.tup []) ⟨(i,.cells T (flatE (l.set m.toNat v)))::dropK i st.hp,st.tk,st.nx⟩:=by
 obtain ⟨k,rfl,hk⟩:=idxS hv
 have hlt:k < l.length:=(List.getElem?_eq_some_iff.1 hk).1
 have hlen:y'.cells.length=Enc.sz α:=by rw [he,List.length_map,EncLen.len]
 have:=OpOK.storeS (E:=E) (st:=st) (dd:=dd) (ty:=ty) (pos:=pos) (af:=af) (g:=g) ht h1 h2 hs hi hlen (by
  rw [flatE_len,Int.toNat_natCast,← Nat.succ_mul];exact Nat.mul_le_mul_right _ hlt) hdd
 rw [he,Int.toNat_natCast,setL_flat l k v hlt] at this
 rw [Int.toNat_natCast];exact this
theorem HRel.swapLe {V:Vu} {i:Nat} {B B':HB} {hp:List (Nat×HB)} {tk:List (Nat×Option Tok)} {w:World} (h:HRel E V ((i,B)::hp) tk w) (hb:BLe B B'):HRel E V ((i,B')::hp) tk w:=by
 have hh:∀ j A,lk ((i,B')::hp) j=some A→∃ A0,lk ((i,B)::hp) j=some A0∧BLe A0 A:=fun j A hj=>by
  rw [lk_cons] at hj ⊢
  split at hj
  ·rename_i e;cases hj;rw [if_pos e];exact ⟨_,rfl,hb⟩
  ·rename_i e;rw [if_neg e];exact ⟨_,hj,.refl _⟩
 refine ⟨h.ext,h.le0,h.sz,h.sub,fun j A hj=>?_,fun j k A A' hj hk=>?_,fun j A hj=>?_,fun j T hj=>?_,h.tki⟩
 ·obtain ⟨A0,h1,h2⟩:=hh j A hj
  obtain ⟨h3,o,h4,h5⟩:=h.own j A0 h1
  exact ⟨h3,o,h4,h2.rel h5⟩
 ·obtain ⟨A0,h1,-⟩:=hh j A hj
  obtain ⟨A1,h2,-⟩:=hh k A' hk
  exact h.inj j k _ _ h1 h2
 ·obtain ⟨A0,h1,-⟩:=hh j A hj
  exact h.new j A0 h1
 ·obtain ⟨h1,h2,xs,h3,h4⟩:=h.tok j T hj
  refine ⟨h1,h2,xs,h3,fun g hg=>⟨(h4 g hg).1,(h4 g hg).2.1,fun k A hk=>?_⟩⟩
  obtain ⟨A0,h5,-⟩:=hh k A hk
  exact (h4 g hg).2.2 k A0 h5
theorem CLs.app {ars bs xs ys:List CA} (h:CLs ars bs) (k:CLs xs ys):CLs (ars++xs) (bs++ys):=by
 induction h with
 | nil=>exact k
 | cons h t ih=>exact .cons h ih
theorem zeroRow_flat (zs:List Value) (n:Nat):zeroRow zs n=(List.replicate n (zs.map fun z=>CA.d (.v z))).flatten:=by
 have hl:∀ e∈List.replicate n (zs.map fun z=>CA.d (.v z)),e.length=zs.length:=fun e he=>by rw [(List.mem_replicate.1 he).2,List.length_map]
 apply List.ext_getElem?
 intro k
 unfold zeroRow
 rw [List.getElem?_map]
 rcases Nat.lt_or_ge k (n * zs.length) with h | h
 ·have hpos:0 < zs.length:=by
   rcases Nat.eq_zero_or_pos zs.length with h0 | h0
   ·rw [h0] at h;simp at h
   ·exact h0
  have hq:k / zs.length < n:=(Nat.div_lt_iff_lt_mul hpos).2 h
  have hr:k % zs.length < zs.length:=Nat.mod_lt _ hpos
  have:=flat_get _ hl (k / zs.length) (k % zs.length) _ (by rw [List.getElem?_replicate,if_pos hq]) hr
  rw [show k / zs.length * zs.length+k % zs.length=k by rw [Nat.mul_comm];exact Nat.div_add_mod k zs.length] at this
  rw [this,List.getElem?_map,List.getElem?_range h]
  simp [List.getElem?_eq_getElem hr,List.getD_eq_getElem?_getD]
 ·rw [List.getElem?_eq_none (by simpa using h),List.getElem?_eq_none (by rw [flat_len _ hl,List.length_replicate];exact h)];rfl
theorem zeroRow_le {α:Type} [Enc α] (zs:List Value) (z:α) (h:CLs (zs.map fun z=>CA.d (.v z)) ((Enc.enc z).map CA.d)):∀ n,CLs (zeroRow zs n) (flatE (List.replicate n z)):=by
 intro n
 rw [zeroRow_flat]
 induction n with
 | zero=>unfold flatE;rw [List.replicate_zero,List.replicate_zero,Enc.nil];exact .nil
 | succ n ih =>
  rw [List.replicate_succ,List.replicate_succ,List.flatten_cons]
  have:flatE (z::List.replicate n z)=(Enc.enc z).map CA.d++flatE (List.replicate n z):=by
   unfold flatE;rw [Enc.cons,List.flatten_cons,List.map_append]
  rw [this];exact h.app ih
theorem OpOK.makeO {α:Type} [Enc α] {t e by_:Nat} {zs:List Value} {z:α} {o1 o2:Operand} {m:Int} (ht:tySlice E.P t=some (e,Enc.sz α)) (hze:tyZero E.P e=some zs) (hzl:zs.length=Enc.sz α) (hz:zs.all (·.oneCell')=true) (hel:tyElem E.P e=some (Enc.sz α,by_))
  (h1:ev st.tm o1=some (TI m)) (h2:ev st.tm o2=some (TI m)) (hm:(cond (decide (0≤m)) (Nat.ble (by_ * m.toNat) 281474976710656) false)=true) (hby:Nat.ble 1 by_=true)
  (hzz:CLs (zs.map fun z=>CA.d (.v z)) ((Enc.enc z).map CA.d)) :
  OpOK E ⟨dd,.makeSlice t o1 o2,ty,pos,af,g⟩ st (.v (.one (.osl st.nx 0 m.toNat m.toNat))) ⟨(st.nx,.cells e (flatE (List.replicate m.toNat z)))::st.hp,st.tk,st.nx+1⟩:=by
 have h0:0≤m:=of_decide_eq_true (cond_left hm)
 have hb:by_ * m.toNat≤281474976710656:=Nat.le_of_ble_eq_true (cond_right hm)
 have hb1:1≤by_:=Nat.le_of_ble_eq_true hby
 obtain ⟨k,rfl⟩:∃ k:Nat,m=(k:Int):=⟨m.toNat,(Int.toNat_of_nonneg h0).symm⟩
 simp only [Int.toNat_natCast] at hb ⊢
 have hk:k≤281474976710656:=Nat.le_trans (by have:=Nat.mul_le_mul_right k hb1;omega) hb
 have:=OpOK.makeSlice (E:=E) (st:=st) (dd:=dd) (ty:=ty) (pos:=pos) (af:=af) (g:=g) ht hze hzl hz hel h1 h2 (Nat.le_refl _) hb (by omega)
 intro V a w hr ro n K Q hK
 exact this V a w hr ro n K Q (fun V' w' v H hn L hx=>hK V' w' v (H.swapLe (.cells (zeroRow_le zs z hzz k))) hn L hx)
theorem RO.sliceFrom {α:Type} [Enc α] {t e:Nat} {o lo:Operand} {y:CA} {l:List α} {m:Int} (ht:tySlice E.P t=some (e,Enc.sz α)) (hx:ev st.tm o=some (.v (.one y))) (hs:SlE y l) (hlo:ev st.tm lo=some (TI m)) (hm:(cond (decide (0≤m)) (Nat.ble m.toNat l.length) false)=true) :
  RO E ⟨d,.slice t o (some lo) none none,ty,pos,af,g⟩ st (.v (.one (.d (.sl (Enc.sz α) (Enc.encL (l.drop m.toNat)))))):=by
 have h0:0≤m:=of_decide_eq_true (cond_left hm)
 have hb:=cond_right hm
 obtain ⟨k,rfl⟩:∃ k:Nat,m=(k:Int):=⟨m.toNat,(Int.toNat_of_nonneg h0).symm⟩
 simp only [Int.toNat_natCast] at hb ⊢
 have:=RO.sliceE (E:=E) (st:=st) (d:=d) (ty:=ty) (pos:=pos) (af:=af) (g:=g) (a:=k) (b:=l.length) ht hx hs (lo:=some lo) (hi:=none) (mx:=none) (by
  have:ev st.tm lo=some (.v (.one (.d (.v (.int .i64 (.ofNat k)))))):=hlo
  simp only [boundsOf,hiOf,loOf,this,hb,cond_true])
 rw [List.take_of_length_le (by rw [List.length_drop];exact Nat.le_refl _)] at this
 exact this
end
theorem reads_flat {α:Type} [Enc α] [EncLen α] {S:Nat→Nat→Prop} {V:Vu} {w:World} {b n:Nat} {T:TypeId} {l:List α} {vs:Array Value} (hb:w.heap[b]?=some (.cells vs T (0,0))) (hv:rels V w (flatE l) vs) (hn:l.length=n) (hS:∀ o,S b o) (hVS:∀ b o,V.S b o→S b o) :
  Reads S w (.sl (Enc.sz α) (Enc.encL l)) (.slice (some ⟨b,0,none⟩) n n):=by
 have hget:∀ (i:Nat) (e:List C) (j:Nat) (c:C),(Enc.encL l)[i]?=some e→e[j]?=some c→∃ u,vs[i * Enc.sz α+j]?=some u∧Reads V.S w c u:=fun i e j c hi hj=>by
  rw [Enc.map,List.getElem?_map] at hi
  cases hx:l[i]? with
  | none=>rw [hx] at hi;cases hi
  | some x =>
   rw [hx] at hi;cases hi
   have hlt:j < Enc.sz α:=by have:=(List.getElem?_eq_some_iff.1 hj).1;rw [EncLen.len] at this;exact this
   exact hv.2 _ _ (by rw [flatE_get hx hlt,hj];rfl)
 have hcell:∀ (i:Nat) (e:List C) (j:Nat) (c:C),(Enc.encL l)[i]?=some e→e[j]?=some c→w.cell? ⟨b,0+i * Enc.sz α+j,none⟩=some (vs.getD (i * Enc.sz α+j) undef):=fun i e j c hi hj=>by
  obtain ⟨u,hu,-⟩:=hget i e j c hi hj
  simp only [World.cell?,hb,Option.isSome_none,Bool.false_eq_true,if_false,Nat.zero_add]
  rw [hu,Array.getD_eq_getD_getElem?,hu];rfl
 have:=Reads.sl (S:=S) (w:=w) (Enc.sz α) (Enc.encL l) (some ⟨b,0,none⟩) n b 0 (fun i j=>vs.getD (i * Enc.sz α+j) undef) (by rw [Enc.len,hn];exact Nat.le_refl _) (fun _=>rfl)
  (fun i e hi=>encL_lens l e (List.mem_of_getElem? hi)) hcell (fun i e j c hi hj=>hS _)
  (fun i e j c hi hj=>by
   obtain ⟨u,hu,hr⟩:=hget i e j c hi hj
   rw [Array.getD_eq_getD_getElem?,hu]
   exact hr.mono hVS (fun _ _ _=>rfl))
 rw [Enc.len,hn] at this;exact this
theorem XQ.freezeT {E:Env} {Q:Exit→Act→World→Prop} {st:St} {e:Exit} {α:Type} [Enc α] [EncLen α] {t i n:Nat} {T:TypeId} {l:List α} (ht:lk st.tm t=some (.v (.one (.osl i 0 n n)))) (hi:lk st.hp i=some (.cells T (flatE l))) (hn:Nat.beq l.length n=true)
  (k:XQ E Q e ⟨(t,.v (.one (.d (.sl (Enc.sz α) (Enc.encL l)))))::st.tm,dropK i st.hp,st.tk,st.nx,st.nt,st.df⟩):XQ E Q e st:=by
 intro V a w hr
 obtain ⟨H,L⟩:=hr.h.freeze hi
 obtain ⟨-,o,ho,vs,rfl,hvs⟩:=hr.h.own i _ hi
 refine k _ a w ⟨H,hr.nx,hr.nt,hr.df.le L,fun t' x hx=>?_⟩
 dsimp only at hx
 rw [lk_cons] at hx
 split at hx
 ·rename_i e1;subst e1;cases hx
  have h1:=(hr.tm _ _ ht).2
  rw [h1]
  exact reads_flat ho hvs (Nat.eq_of_beq_eq_true hn) (fun o=>.inr Z) (fun _ _ h=>.inl h)
 ·exact (hr.tm t' x hx).mono L
inductive ORen (b:Nat):List AV→List AV→Prop
 | nil:ORen b [] []
 | osl {off n c:Nat} {xs ys:List AV} (t:ORen b xs ys):ORen b (.one (.osl b off n c)::xs) (.one (.osl 0 off n c)::ys)
 | one {x:CA} {c:C} {xs ys:List AV} (h:CSub x c) (t:ORen b xs ys):ORen b (.one x::xs) (.one (.d c)::ys)
 | agg {x y:List CA} {xs ys:List AV} (h:LSub x y) (t:ORen b xs ys):ORen b (.agg x::xs) (.agg y::ys)
theorem tZ {tm:List (Nat×TV)}:tmLe tm []:=trivial
theorem hZ {hp:List (Nat×HB)}:hpLe hp []:=trivial
theorem hR {hp r:List (Nat×HB)} {t:Nat} {y:HB} (h:lk hp t=some y) (l:hpLe hp r):hpLe hp ((t,y)::r):=⟨⟨y,h,.refl y⟩,l⟩
theorem hC {hp r:List (Nat×HB)} {t:Nat} {T:TypeId} {xs ys:List CA} (h:lk hp t=some (.cells T xs)) (k:CLs xs ys) (l:hpLe hp r):hpLe hp ((t,.cells T ys)::r):=⟨⟨_,h,.cells k⟩,l⟩
theorem kZ {tk:List (Nat×Option Tok)}:tkLe tk []:=trivial
theorem bZ {m:Nat}:hpBelow m []:=trivial
theorem bB {m i:Nat} {x:HB} {r:List (Nat×HB)} (h:Nat.blt i m=true) (k:x.belowB m=true) (l:hpBelow m r):hpBelow m ((i,x)::r):=⟨blt_t h,HB.belowB_ok k,l⟩
theorem bF {m i:Nat} {T:TypeId} {α:Type} [Enc α] {xs:List α} {r:List (Nat×HB)} (h:Nat.blt i m=true) (l:hpBelow m r):hpBelow m ((i,.cells T (flatE xs))::r):=⟨blt_t h,(fun x hx=>by obtain ⟨c,-,rfl⟩:=flatE_mem hx;trivial),l⟩
theorem bM {m i c:Nat} {xs:List (Int×Int×Nat)} {r:List (Nat×HB)} (h:Nat.blt i m=true) (l:hpBelow m r):hpBelow m ((i,.mp (imE xs) c)::r):=⟨blt_t h,(by show mpBelow m (imE xs);rw [mpBelow_im];trivial),l⟩
theorem stle {E:Env} {st st':St} (h1:tmLe st.tm st'.tm) (h2:hpLe st.hp st'.hp) (h3:tkLe st.tk st'.tk) (h4:Nat.ble st'.nx st.nx=true) (h5:E.V0.nx≤st'.nx) (h6:st.nt=st'.nt) (h7:st.df=st'.df)
  (h8:(st'.tm.all fun p=>p.2.belowB st'.nx)=true) (h9:hpBelow st'.nx st'.hp) (h10:(st'.tk.all fun p=>Nat.blt p.1 st'.nx)=true) (h11:(st'.df.take 1).all (fun i=>Nat.blt i st'.nx)=true):StLe E st st':=by
 refine ⟨h1,h2,h3,lb h4,h5,h6,h7,?_,h9,?_,fun i hi=>blt_t (List.all_eq_true.1 h11 i (by cases hd:st'.df with
  | nil=>rw [hd] at hi;cases hi
  | cons x l=>rw [hd] at hi;cases hi;simp))⟩
 ·have:∀ l:List (Nat×TV),(l.all fun p=>p.2.belowB st'.nx)=true→tmBelow st'.nx l:=by
   intro l
   induction l with
   | nil=>intro _;trivial
   | cons p l ih=>intro h;simp only [List.all_cons,Bool.and_eq_true] at h;exact ⟨TV.belowB_ok h.1,ih h.2⟩
  exact this _ h8
 ·have:∀ l:List (Nat×Option Tok),(l.all fun p=>Nat.blt p.1 st'.nx)=true→tkBelow st'.nx l:=by
   intro l
   induction l with
   | nil=>intro _;trivial
   | cons p l ih=>intro h;simp only [List.all_cons,Bool.and_eq_true] at h;exact ⟨blt_t h.1,ih h.2⟩
  exact this _ h10
theorem sumK {α β γ:Type} {y:α⊕β} {f:α→Option γ} {g:β→Option γ} {r:γ} {G:Prop} {C:α⊕β→Prop} (hc:C y) (h:Sum.elim f g y=some r) (k1:∀ a,C (.inl a)→f a=some r→G) (k2:∀ b,C (.inr b)→g b=some r→G):G:=by
 cases y with
 | inl a=>exact k1 a hc h
 | inr b=>exact k2 b hc h
theorem CallM.of_bodyD {P:Program} {f:FuncId} {fn:Func} {c:Code} {args:List AV} {m:Mem} (stf:St) {xs:List AV} (hf:P.funcs[f]?=some fn) (hb:fn.body=some c) (hen:Enters P f) (hnt:args.length≤fn.ntmps)
  (hdf:stf.df=[]) (hres:RAs P stf fn.results.toList xs)
  (h:∀ (w0:World) (M:Nat→Prop) (V0:Vu) (Q:Exit→Act→World→Prop),V0.nx≤m.nx →
   (∀ (e:Exit) (st':St) (hp':List (Nat×HB)),(e=.normal∨e=.ret)→takeMarks st'.df st'.hp=some hp'→StLe ⟨P,w0,M,V0⟩ ⟨st'.tm,hp',st'.tk,st'.nx,st'.nt,[]⟩ stf→XQ ⟨P,w0,M,V0⟩ Q e st')→XC ⟨P,w0,M,V0⟩ none 0 Q c ⟨entry 0 args,m.hp,m.tk,m.nx,fn.ntmps,[]⟩) (hP0:P=Try.prog:=by rfl) :
  CallM P f args m (resOf xs) ⟨stf.hp,stf.tk,stf.nx⟩:=by
 refine ⟨hen,fun E V w vs hP H hn hargs=>?_⟩
 refine (callsIn_wide (n:=0)).1 (callsIn_of_wpV (F:=Fence.wide) (vf_of hP0 hf) hf hb trivial ?_)
 have hR0:Rel (E.at V w) V ⟨entry 0 args,m.hp,m.tk,m.nx,fn.ntmps,[]⟩ { tmps:=vs++Array.replicate (fn.ntmps - vs.size) undef,defers:=[]} w:=by
  refine ⟨H.rebase,hn,by simp [hargs.1];omega,dfRel.nil,fun t x hx=>?_⟩
  obtain ⟨k,y,h1,h2,rfl⟩:=lk_entry args 0 t x hx
  obtain ⟨u,hu,hy⟩:=hargs.2 k y h2
  have hk:k < vs.size:=(Array.getElem?_eq_some_iff.1 hu).1
  have:(vs++Array.replicate (fn.ntmps - vs.size) undef).getD t undef=u:=by
   rw [show t=k by omega,Array.getD_eq_getD_getElem?,Array.getElem?_append_left hk,hu];rfl
  rw [this];exact hy
 have key:∀ (st':St) (hp':List (Nat×HB)) (V1:Vu) (a1:Act) (w1:World),takeMarks st'.df st'.hp=some hp'→StLe (E.at V w) ⟨st'.tm,hp',st'.tk,st'.nx,st'.nt,[]⟩ stf→Rel (E.at V w) V1 st' a1 w1 →
   LeavesInM Fence.wide 0 P fn a1.tmps (fun e w'=>∃ v V',e=.returned v∧HRel E V' stf.hp stf.tk w'∧V'.nx=stf.nx∧V.Le V' w w'∧(resOf xs).rel V' w' v) a1.defers .returning w1:=by
  intro st' hp' V1 a1 w1 htm hle hr1
  refine leaves_marks st'.df a1.defers st'.hp hp' w1 hr1.h hr1.df htm (fun w' V1' H' hn' L'=>?_)
  have hr':Rel (E.at V w) V1' ⟨st'.tm,hp',st'.tk,st'.nx,st'.nt,[]⟩ { tmps:=a1.tmps,defers:=[]} w':=⟨H',hn'.trans hr1.nx,hr1.nt,dfRel.nil,fun t x hx=>(hr1.tm t x hx).keep L'⟩
  obtain ⟨V2,hr2⟩:=hr'.less hle
  obtain ⟨v,h1,h2⟩:=results_run (E:=E.at V w) hres hP hr2
  obtain ⟨H5,L5⟩:=H.back hr2.h
  exact ⟨v,h1,v,V2,Z,H5,hr2.nx,L5,h2⟩
 have hgo:∀ E':Env,E'=E.at V w→E'.P=P→E'.V0=V→XC E' none 0 (bodyPostM Fence.wide 0 P fn (fun e w'=>∃ v V',e=.returned v∧HRel E V' stf.hp stf.tk w'∧V'.nx=stf.nx∧V.Le V' w w'∧(resOf xs).rel V' w' v)) c ⟨entry 0 args,m.hp,m.tk,m.nx,fn.ntmps,[]⟩:=by
  rintro ⟨P',w0,M,V0⟩ he hP' hV'
  dsimp only at hP' hV'
  subst hP'
  refine h w0 M V0 _ (by rw [hV',hn];exact Nat.le_refl _) ?_
  rintro e st' hp' (rfl | rfl) htm hle
  ·intro V1 a1 w1 hr1;rw [he] at hr1 hle;exact key st' hp' V1 a1 w1 htm hle hr1
  ·intro V1 a1 w1 hr1;rw [he] at hr1 hle;exact key st' hp' V1 a1 w1 htm hle hr1
 have:=hgo (E.at V w) rfl hP rfl V _ w hR0
 rw [show (E.at V w).P=P from hP] at this
 exact this
theorem CallM.of_bodyS {P:Program} {f:FuncId} {fn:Func} {c:Code} {args:List AV} {m:Mem} {Y:Type} (y:Y) (stf:Y→St) {xs:List AV} (hf:P.funcs[f]?=some fn) (hb:fn.body=some c) (hen:Enters P f) (hnt:args.length≤fn.ntmps)
  (hdf:∀ y,(stf y).df=[]) (hres:∀ y,RAs P (stf y) fn.results.toList xs)
  (h:∀ (w0:World) (M:Nat→Prop) (V0:Vu) (Q:Exit→Act→World→Prop),V0.nx≤m.nx →
   (∀ (e:Exit) (st':St) (hp':List (Nat×HB)),(e=.normal∨e=.ret)→takeMarks st'.df st'.hp=some hp'→StLe ⟨P,w0,M,V0⟩ ⟨st'.tm,hp',st'.tk,st'.nx,st'.nt,[]⟩ (stf y)→XQ ⟨P,w0,M,V0⟩ Q e st')→XC ⟨P,w0,M,V0⟩ none 0 Q c ⟨entry 0 args,m.hp,m.tk,m.nx,fn.ntmps,[]⟩) (hP0:P=Try.prog:=by rfl) :
  CallM P f args m (resOf xs) ⟨(stf y).hp,(stf y).tk,(stf y).nx⟩:=CallM.of_bodyD (stf y) hf hb hen hnt (hdf y) (hres y) h hP0
def scopeQ (Q:Exit→Act→World→Prop):Exit→Act→World→Prop:=fun e a w=>match e with
 | .goto _=>False
 | e=>Q e a w
section
variable {E:Env} {ro:Option Nat} {n:Nat} {Q:Exit→Act→World→Prop} {st:St} {c:Code}
theorem XC.joinR2 {γ δ:Type} (i1:γ→St) (i2:δ→St) (K1:γ→Prop) (K2:δ→Prop) (h:XC E ro n (JnR E (Sum.elim i1 i2) (Sum.elim K1 K2) Q) c st) (k1:∀ v,K1 v→XQ E Q .normal (i1 v)) (k2:∀ v,K2 v→XQ E Q .normal (i2 v)):XC E ro n Q c st :=
 XC.joinR _ _ h (fun v hv=>by
  cases v with
  | inl v=>exact k1 v hv
  | inr v=>exact k2 v hv)
theorem XQ.joinRl {γ δ:Type} {i1:γ→St} {i2:δ→St} {K1:γ→Prop} {K2:δ→Prop} (v:γ) (hl:StLe E st (i1 v)) (hK:K1 v):XQ E (JnR E (Sum.elim i1 i2) (Sum.elim K1 K2) Q) .normal st:=XQ.joinR (.inl v) hl hK
theorem XQ.joinRr {γ δ:Type} {i1:γ→St} {i2:δ→St} {K1:γ→Prop} {K2:δ→Prop} (v:δ) (hl:StLe E st (i2 v)) (hK:K2 v):XQ E (JnR E (Sum.elim i1 i2) (Sum.elim K1 K2) Q) .normal st:=XQ.joinR (.inr v) hl hK
theorem XC.scope (h:XC E ro n (scopeQ Q) c st):XC E ro n Q (.scope c) st:=fun V a w hr=>wpV_scope (h V a w hr)
theorem XC.label {l:Nat} (h:XQ E Q .normal st):XC E ro n Q (.label l) st:=fun V a w hr=>wpV_of (wpIn_label (h V a w hr))
end
end Go.Proofs.Ytkimijmiphkddaa
namespace Go.Proofs.Ytkimijmiphkddaa
open Go.RowKit
def lkA {β:Type} (l:List (Nat×β)):List (Nat×β)→List (Option β)
  | []=>[]
  | (t,_)::r=>lk l t::lkA l r
def someA {β:Type}:List (Nat×β)→List (Option β)
  | []=>[]
  | (_,y)::r=>some y::someA r
theorem tA {tm:List (Nat×TV)}:∀ {r:List (Nat×TV)},lkA tm r=someA r→tmLe tm r
  | [],_=>trivial
  | (_,_)::_,h=>⟨⟨_,(List.cons.inj h).1,.refl _⟩,tA (List.cons.inj h).2⟩
theorem hA {hp:List (Nat×HB)}:∀ {r:List (Nat×HB)},lkA hp r=someA r→hpLe hp r
  | [],_=>trivial
  | (_,_)::_,h=>⟨⟨_,(List.cons.inj h).1,.refl _⟩,hA (List.cons.inj h).2⟩
theorem kA {tk:List (Nat×Option Tok)}:∀ {r:List (Nat×Option Tok)},lkA tk r=someA r→tkLe tk r
  | [],_=>trivial
  | (_,_)::_,h=>⟨fun T e=>by rw [(List.cons.inj h).1,e],kA (List.cons.inj h).2⟩
def belA (m:Nat):List (Nat×HB)→Bool
  | []=>true
  | (i,x)::r=>Nat.blt i m&&(x.belowB m&&belA m r)
theorem bA {m:Nat}:∀ {r:List (Nat×HB)},belA m r=true→hpBelow m r
  | [],_=>trivial
  | (_,_)::_,h=>by
    have a:=Bool.and_eq_true_iff.1 h
    have b:=Bool.and_eq_true_iff.1 a.2
    exact ⟨blt_t a.1,HB.belowB_ok b.1,bA b.2⟩
theorem sL {E:Env} {st st':St} (h5:E.V0.nx≤st'.nx) (h1:lkA st.tm st'.tm=someA st'.tm) (h2:lkA st.hp st'.hp=someA st'.hp) (h3:lkA st.tk st'.tk=someA st'.tk) (h6:(st.nt,st.df)=(st'.nt,st'.df))
  (h4:(Nat.ble st'.nx st.nx&&((st'.tm.all fun p=>p.2.belowB st'.nx)&&(belA st'.nx st'.hp&&((st'.tk.all fun p=>Nat.blt p.1 st'.nx)&&(st'.df.take 1).all (fun i=>Nat.blt i st'.nx)))))=true):StLe E st st':=by
 have a:=Bool.and_eq_true_iff.1 h4
 have b:=Bool.and_eq_true_iff.1 a.2
 have c:=Bool.and_eq_true_iff.1 b.2
 have d:=Bool.and_eq_true_iff.1 c.2
 exact stle (tA h1) (hA h2) (kA h3) a.1 h5 (Prod.mk.inj h6).1 (Prod.mk.inj h6).2 b.1 (bA c.1) d.1 d.2
end Go.Proofs.Ytkimijmiphkddaa
namespace Go.Proofs.Ytkimijmiphkddaa
open Go.RowKit
theorem ownsRow_same {w w':World} {b e s n:Nat} {v:Value} {xs:List Value} (h:w.ownsRow b e s v n xs) (hs:∀ g,v.ownBlock=some g→w'.heap[g]?=w.heap[g]?):w'.ownsRow b e s v n xs:=by
 obtain ⟨h1,h2⟩:=h
 refine ⟨h1,h2.imp id ?_⟩
 rintro ⟨g,cap,cur,rfl,h3,h4,h5⟩
 exact ⟨g,cap,cur,Z,h3,(hs g Z).trans h4,h5⟩
def partM (V:Vu) (hp:List (Nat×HB)) (tk:List (Nat×Option Tok)) (k:Nat):Prop :=
 (∃ i B,lk hp i=some B∧V.ι i=k)∨∃ i T,lk tk i=some (some T)∧(V.κ i T.n).ownBlock=some k
theorem lk_app {α:Type}:∀ (a b:List (Nat×α)) (i:Nat),lk (a++b) i=match lk a i with
    | some x=>some x
    | none=>lk b i
  | [],b,i=>rfl
  | (k,x)::a,b,i=>by
    rw [List.cons_append,lk_cons,lk_cons]
    split
    · rfl
    · exact lk_app a b i
theorem lk_app_some {α:Type} {a b:List (Nat×α)} {i:Nat} {x:α} (h:lk (a++b) i=some x):lk a i=some x∨lk b i=some x:=by
 rw [lk_app] at h
 cases h1:lk a i with
 | none=>rw [h1] at h;exact .inr h
 | some y=>rw [h1] at h;exact .inl h
theorem lk_memF {α:Type}:∀ {a:List (Nat×α)} {i:Nat} {x:α},lk a i=some x→(i,x)∈a
  | [],i,x,h=>by cases h
  | (k,y)::a,i,x,h=>by
    rw [lk_cons] at h
    split at h
    · rename_i e;subst e;cases h;exact List.mem_cons_self
    · exact List.mem_cons_of_mem _ (lk_memF h)
def rho:List Nat→Nat→Nat→Nat
 | [],n,i=>n+i
 | j::_,_,0=>j
 | _::r,n,i+1=>rho r n i
theorem rho_lt:∀ {rs:List Nat} {n i:Nat},i < rs.length→∃ j,rs[i]?=some j∧rho rs n i=j
 | [],n,i,h=>by simp at h
 | j::r,n,0,h=>⟨j,rfl,rfl⟩
 | j::r,n,i+1,h=>rho_lt (rs:=r) (n:=n) (i:=i) (by simpa using h)
theorem rho_ge:∀ {rs:List Nat} {n i:Nat},rs.length≤i→rho rs n i=n+(i - rs.length)
 | [],n,i,h=>rfl
 | j::r,n,0,h=>by simp at h
 | j::r,n,i+1,h=>by
  have h1:r.length≤i:=by simpa using h
  have h2:=rho_ge (rs:=r) (n:=n) (i:=i) h1
  simp only [rho,List.length_cons]
  omega
theorem rho_mem {rs:List Nat} {n i:Nat} (h:i < rs.length):rho rs n i∈rs:=by
 obtain ⟨j,h1,h2⟩:=rho_lt (n:=n) h
 rw [h2];exact List.mem_of_getElem? h1
theorem nodup_get {α:Type}:∀ {l:List α} {i j:Nat} {a:α},l.Nodup→l[i]?=some a→l[j]?=some a→i=j
 | [],i,j,a,_,h,_=>by simp at h
 | x::l,0,0,a,_,_,_=>rfl
 | x::l,0,j+1,a,hn,h1,h2=>by
  simp at h1 h2
  subst h1
  exact absurd (List.mem_of_getElem? h2) (List.nodup_cons.1 hn).1
 | x::l,i+1,0,a,hn,h1,h2=>by
  simp at h1 h2
  subst h2
  exact absurd (List.mem_of_getElem? h1) (List.nodup_cons.1 hn).1
 | x::l,i+1,j+1,a,hn,h1,h2=>by
  simp at h1 h2
  rw [nodup_get (List.nodup_cons.1 hn).2 h1 h2]
theorem rho_inj {rs:List Nat} {n:Nat} (hnd:rs.Nodup) (hlt:∀ j∈rs,j < n) {i j:Nat} (h:rho rs n i=rho rs n j):i=j:=by
 by_cases h1:i < rs.length <;> by_cases h2:j < rs.length
 ·obtain ⟨a,h3,h4⟩:=rho_lt (n:=n) h1
  obtain ⟨b,h5,h6⟩:=rho_lt (n:=n) h2
  rw [h4,h6] at h
  subst h
  exact nodup_get hnd h3 h5
 ·have:=hlt _ (rho_mem (n:=n) h1)
  rw [h,rho_ge (Nat.le_of_not_lt h2)] at this;omega
 ·have:=hlt _ (rho_mem (n:=n) h2)
  rw [← h,rho_ge (Nat.le_of_not_lt h1)] at this;omega
 ·rw [rho_ge (Nat.le_of_not_lt h1),rho_ge (Nat.le_of_not_lt h2)] at h;omega
def CA.ren (ρ:Nat→Nat):CA→CA
 | .d c=>.d c
 | .ptr i off=>.ptr (ρ i) off
 | .pel e off=>.pel e off
 | .fn f caps=>.fn f (caps.map fun p=>(ρ p.1,p.2))
 | .app i sz es=>.app (ρ i) sz es
 | .apv i sz n es=>.apv (ρ i) sz n es
 | .tp i n off=>.tp (ρ i) n off
 | .osl i off len cap=>.osl (ρ i) off len cap
 | .mp i=>.mp (ρ i)
 | .yld i=>.yld (ρ i)
 | .clo f caps=>.clo f caps
 | .any=>.any
def AV.ren (ρ:Nat→Nat):AV→AV
 | .one x=>.one (x.ren ρ)
 | .agg xs=>.agg (xs.map (CA.ren ρ))
def TV.ren (ρ:Nat→Nat):TV→TV
 | .v x=>.v (x.ren ρ)
 | .tup xs=>.tup (xs.map (AV.ren ρ))
 | .unk=>.unk
def HB.ren (ρ:Nat→Nat):HB→HB
 | .cells T xs=>.cells T (xs.map (CA.ren ρ))
 | .obj o=>.obj o
 | .loop s p tm nt ps assign body D=>.loop s p (tm.map fun q=>(q.1,q.2.ren ρ)) nt ps assign body (ρ D)
 | .mp es c=>.mp (es.map fun e=>(e.1,e.2.1.ren ρ,e.2.2)) c
def renHp (ρ:Nat→Nat) (l:List (Nat×HB)):List (Nat×HB):=l.map fun p=>(ρ p.1,p.2.ren ρ)
def renTk (ρ:Nat→Nat) (l:List (Nat×Option Tok)):List (Nat×Option Tok):=l.map fun p=>(ρ p.1,p.2)
theorem lk_map2 {α β:Type} (f:α→β):∀ (l:List (Nat×α)) (t:Nat),lk (l.map fun q=>(q.1,f q.2)) t=(lk l t).map f
  | [],t=>rfl
  | (k,x)::l,t=>by
    rw [List.map_cons,lk_cons,lk_cons]
    split
    · rfl
    · exact lk_map2 f l t
theorem lk_ren {α β:Type} {ρ:Nat→Nat} {f:α→β} (inj:∀ i j,ρ i=ρ j→i=j):∀ (l:List (Nat×α)) (i:Nat),lk (l.map fun p=>(ρ p.1,f p.2)) (ρ i)=(lk l i).map f
  | [],i=>rfl
  | (k,x)::l,i=>by
    rw [List.map_cons,lk_cons,lk_cons]
    by_cases h:k=i
    · subst h;rw [if_pos rfl,if_pos rfl];rfl
    · rw [if_neg h,if_neg (fun e=>h (inj _ _ e))];exact lk_ren inj l i
theorem lk_ren_inv {α β:Type} {ρ:Nat→Nat} {f:α→β} (inj:∀ i j,ρ i=ρ j→i=j) {l:List (Nat×α)} {j:Nat} {y:β} (h:lk (l.map fun p=>(ρ p.1,f p.2)) j=some y):∃ i x,ρ i=j∧lk l i=some x∧y=f x:=by
 obtain ⟨p,h1,h2⟩:=List.mem_map.1 (lk_memF h)
 have h3:ρ p.1=j:=(Prod.mk.inj h2).1
 subst h3
 rw [lk_ren inj] at h
 cases h4:lk l p.1 with
 | none=>rw [h4] at h;cases h
 | some x=>rw [h4] at h;cases h;exact ⟨p.1,x,rfl,h4,rfl⟩
def pull (ρ:Nat→Nat) (V:Vu) (m:Nat):Vu:=⟨m,fun i=>V.ι (ρ i),fun i=>V.κ (ρ i),fun i=>V.cu (ρ i),V.S⟩
theorem CA.rel.pull {ρ:Nat→Nat} {V:Vu} {w:World} {m:Nat} {x:CA} {v:Value} (h:(x.ren ρ).rel V w v) (hb:x.below m):x.rel (pull ρ V m) w v:=by
 cases x with
 | ptr i off=>exact ⟨hb,h.2⟩
 | fn f caps =>
  have:=h.2
  rw [List.map_map] at this
  exact ⟨hb,this⟩
 | app i sz es=>exact ⟨hb,h.2⟩
 | apv i sz n es=>exact ⟨hb,h.2⟩
 | tp i n off=>exact ⟨hb,h.2⟩
 | osl i off len cap=>exact ⟨hb,h.2⟩
 | mp i=>exact ⟨hb,h.2⟩
 | yld i=>exact ⟨hb,h.2⟩
 | d c=>exact h
 | pel e off=>exact h
 | clo f caps=>exact h
 | any=>exact h
theorem rels.pull {ρ:Nat→Nat} {V:Vu} {w:World} {m:Nat} {xs:List CA} {vs:Array Value} (h:rels V w (xs.map (CA.ren ρ)) vs) (hb:∀ x∈xs,x.below m):rels (pull ρ V m) w xs vs :=
 ⟨by simpa using h.1,fun i x hx=>let ⟨u,h1,h2⟩:=h.2 i (x.ren ρ) (by rw [List.getElem?_map,hx];rfl);⟨u,h1,h2.pull (hb x (List.mem_of_getElem? hx))⟩⟩
theorem AV.rel.pull {ρ:Nat→Nat} {V:Vu} {w:World} {m:Nat} {x:AV} {v:Value} (h:(x.ren ρ).rel V w v) (hb:x.below m):x.rel (pull ρ V m) w v:=by
 cases x with
 | one x=>exact CA.rel.pull h hb
 | agg xs=>obtain ⟨vs,h1,h2⟩:=h;exact ⟨vs,h1,h2.pull hb⟩
theorem TV.rel.pull {ρ:Nat→Nat} {V:Vu} {w:World} {m:Nat} {x:TV} {v:Value} (h:(x.ren ρ).rel V w v) (hb:x.below m):x.rel (pull ρ V m) w v:=by
 cases x with
 | v x=>exact AV.rel.pull h hb
 | tup xs =>
  obtain ⟨vs,h1,h2,h3⟩:=h
  exact ⟨vs,h1,by simpa using h2,fun i x hx=>let ⟨u,h4,h5⟩:=h3 i (x.ren ρ) (by rw [List.getElem?_map,hx];rfl);⟨u,h4,h5.pull (hb x (List.mem_of_getElem? hx))⟩⟩
 | unk=>trivial
theorem HB.rel.pull {ρ:Nat→Nat} {V:Vu} {w:World} {m:Nat} {x:HB} {o:Obj} (h:(x.ren ρ).rel V w o) (hb:x.below m):x.rel (pull ρ V m) w o:=by
 cases x with
 | cells T xs=>obtain ⟨vs,h3,h4⟩:=h;exact ⟨vs,h3,h4.pull hb⟩
 | obj o'=>exact h
 | loop s p tm nt ps assign body D =>
  obtain ⟨-,fn,tmps,h3,h4,h5⟩:=h
  exact ⟨hb.1,fn,tmps,h3,h4,fun t x hx=>(h5 t (x.ren ρ) (by rw [lk_map2,hx];rfl)).pull (hb.2 t x hx)⟩
 | mp es clock =>
  obtain ⟨ents,h3,h4,h5⟩:=h
  exact ⟨ents,h3,by simpa using h4,fun i k x b hi=>let ⟨v,h6,h7⟩:=h5 i k (x.ren ρ) b (by rw [List.getElem?_map,hi];rfl);⟨v,h6,h7.pull (hb _ (List.mem_of_getElem? hi))⟩⟩
structure Via (ρ:Nat→Nat) (V1 V2:Vu):Prop where
 ι:∀ i,i < V1.nx→ρ i < V2.nx∧V2.ι (ρ i)=V1.ι i
 cu:∀ i,i < V1.nx→V2.cu (ρ i)=V1.cu i
 κ:∀ i,i < V1.nx→V2.κ (ρ i)=V1.κ i
 S:∀ b o,V1.S b o→V2.S b o
section
variable {ρ:Nat→Nat} {V1 V2:Vu} {w:World}
theorem CA.rel.via (hV:Via ρ V1 V2) {x:CA} {v:Value} (h:x.rel V1 w v):(x.ren ρ).rel V2 w v:=by
 cases x with
 | ptr i off=>exact ⟨(hV.ι i h.1).1,by rw [(hV.ι i h.1).2];exact h.2⟩
 | fn f caps =>
  refine ⟨fun p hp=>?_,?_⟩
  ·obtain ⟨q,hq,rfl⟩:=List.mem_map.1 hp
   exact (hV.ι _ (h.1 q hq)).1
  ·rw [h.2,List.map_map]
   congr 2
   exact List.map_congr_left fun p hp=>by show _=Value.pointer (some ⟨V2.ι (ρ p.1),p.2,none⟩);rw [(hV.ι _ (h.1 p hp)).2]
 | app i sz es=>exact ⟨(hV.ι i h.1).1,by rw [hV.cu i h.1];exact h.2.1,by rw [hV.κ i h.1];exact h.2.2.1,Reads.mono hV.S (fun _ _ _=>rfl) h.2.2.2⟩
 | apv i sz n es =>
  obtain ⟨h1,h2,h3,a,cap,h4,h5,h6⟩:=h
  exact ⟨(hV.ι i h1).1,by rw [hV.cu i h1];exact h2,by rw [hV.κ i h1];exact h3,a,cap,h4,h5,Reads.mono hV.S (fun _ _ _=>rfl) h6⟩
 | tp i n off =>
  obtain ⟨h1,h2,g,cap,h3,h4⟩:=h
  exact ⟨(hV.ι i h1).1,by rw [hV.cu i h1];exact h2,g,cap,by rw [hV.κ i h1];exact h3,h4⟩
 | osl i off len cap=>exact ⟨(hV.ι i h.1).1,by rw [(hV.ι i h.1).2];exact h.2⟩
 | mp i=>exact ⟨(hV.ι i h.1).1,by rw [(hV.ι i h.1).2];exact h.2⟩
 | yld i=>exact ⟨(hV.ι i h.1).1,by rw [(hV.ι i h.1).2];exact h.2⟩
 | d c=>exact Reads.mono hV.S (fun _ _ _=>rfl) h
 | pel e off=>exact pelRel.mono hV.S (fun _ _ _=>rfl) h
 | clo f caps =>
  obtain ⟨ps,h1,h2,h3⟩:=h
  exact ⟨ps,h1,h2,fun i e off hi=>let ⟨p,h4,h5⟩:=h3 i e off hi;⟨p,h4,h5.mono hV.S (fun _ _ _=>rfl)⟩⟩
 | any=>exact h
theorem rels.via (hV:Via ρ V1 V2) {xs:List CA} {vs:Array Value} (h:rels V1 w xs vs):rels V2 w (xs.map (CA.ren ρ)) vs :=
 ⟨by simpa using h.1,fun i x hx=>by
  rw [List.getElem?_map] at hx
  cases h1:xs[i]? with
  | none=>rw [h1] at hx;cases hx
  | some y=>rw [h1] at hx;cases hx;obtain ⟨u,h2,h3⟩:=h.2 i y h1;exact ⟨u,h2,h3.via hV⟩⟩
theorem AV.rel.via (hV:Via ρ V1 V2) {x:AV} {v:Value} (h:x.rel V1 w v):(x.ren ρ).rel V2 w v:=by
 cases x with
 | one x=>exact CA.rel.via hV h
 | agg xs=>obtain ⟨vs,h1,h2⟩:=h;exact ⟨vs,h1,h2.via hV⟩
theorem TV.rel.via (hV:Via ρ V1 V2) {x:TV} {v:Value} (h:x.rel V1 w v):(x.ren ρ).rel V2 w v:=by
 cases x with
 | v x=>exact AV.rel.via hV h
 | tup xs =>
  obtain ⟨vs,h1,h2,h3⟩:=h
  refine ⟨vs,h1,by simpa using h2,fun i x hx=>?_⟩
  rw [List.getElem?_map] at hx
  cases h4:xs[i]? with
  | none=>rw [h4] at hx;cases hx
  | some y=>rw [h4] at hx;cases hx;obtain ⟨u,h5,h6⟩:=h3 i y h4;exact ⟨u,h5,h6.via hV⟩
 | unk=>trivial
theorem HB.rel.via (hV:Via ρ V1 V2) {x:HB} {o:Obj} (h:x.rel V1 w o):(x.ren ρ).rel V2 w o:=by
 cases x with
 | cells T xs=>obtain ⟨vs,h3,h4⟩:=h;exact ⟨vs,h3,h4.via hV⟩
 | obj o'=>exact h
 | loop s p tm nt ps assign body D =>
  obtain ⟨h1,fn,tmps,h3,h4,h5⟩:=h
  refine ⟨(hV.ι D h1).1,fn,tmps,by rw [(hV.ι D h1).2];exact h3,h4,fun t x hx=>?_⟩
  rw [lk_map2] at hx
  cases h6:lk tm t with
  | none=>rw [h6] at hx;cases hx
  | some y=>rw [h6] at hx;cases hx;exact (h5 t y h6).via hV
 | mp es clock =>
  obtain ⟨ents,h3,h4,h5⟩:=h
  refine ⟨ents,h3,by simpa using h4,fun i k x b hi=>?_⟩
  rw [List.getElem?_map] at hi
  cases h6:es[i]? with
  | none=>rw [h6] at hi;cases hi
  | some y =>
   obtain ⟨k',x',b'⟩:=y
   rw [h6] at hi;cases hi
   obtain ⟨v,h7,h8⟩:=h5 i _ _ _ h6
   exact ⟨v,h7,h8.via hV⟩
end
open Classical in
noncomputable def backV (ρ:Nat→Nat) (V V1:Vu) (n:Nat):Vu :=
 ⟨n,fun j=>if h:∃ i,ρ i=j then V1.ι h.choose else V.ι j,fun j=>if h:∃ i,ρ i=j then V1.κ h.choose else V.κ j,fun j=>if h:∃ i,ρ i=j then V1.cu h.choose else V.cu j,V1.S⟩
section
open Classical
variable {ρ:Nat→Nat} {V V1:Vu} {n:Nat}
theorem choose_ren (inj:∀ i j,ρ i=ρ j→i=j) {i:Nat} (h:∃ k,ρ k=ρ i):h.choose=i:=inj _ _ h.choose_spec
theorem backV_ι (inj:∀ i j,ρ i=ρ j→i=j) (i:Nat):(backV ρ V V1 n).ι (ρ i)=V1.ι i:=by
 have h:∃ k,ρ k=ρ i:=⟨i,rfl⟩
 show (if h:∃ k,ρ k=ρ i then V1.ι h.choose else V.ι (ρ i))=_
 rw [dif_pos h,choose_ren inj h]
theorem backV_κ (inj:∀ i j,ρ i=ρ j→i=j) (i:Nat):(backV ρ V V1 n).κ (ρ i)=V1.κ i:=by
 have h:∃ k,ρ k=ρ i:=⟨i,rfl⟩
 show (if h:∃ k,ρ k=ρ i then V1.κ h.choose else V.κ (ρ i))=_
 rw [dif_pos h,choose_ren inj h]
theorem backV_cu (inj:∀ i j,ρ i=ρ j→i=j) (i:Nat):(backV ρ V V1 n).cu (ρ i)=V1.cu i:=by
 have h:∃ k,ρ k=ρ i:=⟨i,rfl⟩
 show (if h:∃ k,ρ k=ρ i then V1.cu h.choose else V.cu (ρ i))=_
 rw [dif_pos h,choose_ren inj h]
theorem backV_ι' {j:Nat} (h:¬ ∃ i,ρ i=j):(backV ρ V V1 n).ι j=V.ι j:=dif_neg h
theorem backV_κ' {j:Nat} (h:¬ ∃ i,ρ i=j):(backV ρ V V1 n).κ j=V.κ j:=dif_neg h
theorem backV_cu' {j:Nat} (h:¬ ∃ i,ρ i=j):(backV ρ V V1 n).cu j=V.cu j:=dif_neg h
end
section
variable {E:Env} {V V1:Vu} {hp hp0 hp1 hpF:List (Nat×HB)} {tk tk0 tk1 tkF:List (Nat×Option Tok)} {w w':World} {ρ:Nat→Nat} {nx0 n:Nat}
theorem HRel.part (inj:∀ i j,ρ i=ρ j→i=j) (h:HRel E V (renHp ρ hp0) (renTk ρ tk0) w) (b0:hpBelow nx0 hp0) (c0:tkBelow nx0 tk0) :
  HRel ⟨E.P,w,partM V (renHp ρ hp0) (renTk ρ tk0),pull ρ V nx0⟩ (pull ρ V nx0) hp0 tk0 w:=by
 have eH:∀ i B,lk hp0 i=some B→lk (renHp ρ hp0) (ρ i)=some (B.ren ρ):=fun i B hi=>by
  have:=lk_ren (f:=HB.ren ρ) inj hp0 i
  rw [hi] at this;exact this
 have eT:∀ i T,lk tk0 i=some T→lk (renTk ρ tk0) (ρ i)=some T:=fun i T hi=>by
  have:=lk_ren (f:=fun x:Option Tok=>x) inj tk0 i
  rw [hi] at this;exact this
 refine ⟨ExtM.refl _ _,Vu.Le.refl _ _,h.sz,fun b o hs=>.inl hs,fun i B hi=>?_,fun i j A B hi hj e=>?_,fun i B hi=>⟨.inr (.inl ⟨ρ i,_,eH i B hi,Z⟩),(h.new _ _ (eH i B hi)).2⟩,fun i T hi=>?_,fun i j T U g hi hj ei ej=>?_⟩
 ·obtain ⟨h1,h2⟩:=b0.get i B hi
  obtain ⟨-,o,h3,h4⟩:=h.own _ _ (eH i B hi)
  exact ⟨h1,o,h3,h4.pull h2⟩
 ·exact inj _ _ (h.inj _ _ _ _ (eH i A hi) (eH j B hj) e)
 ·obtain ⟨-,h2,xs,h3,h4⟩:=h.tok _ _ (eT i _ hi)
  exact ⟨c0.get i _ hi,h2,xs,h3,fun g hg=>⟨.inr (.inr ⟨ρ i,T,eT i _ hi,hg⟩),(h4 g hg).2.1,fun j B hj=>(h4 g hg).2.2 _ _ (eH j B hj)⟩⟩
 ·exact inj _ _ (h.tki _ _ T U g (eT i _ hi) (eT j _ hj) ei ej)
theorem HRel.turn (inj:∀ i j,ρ i=ρ j→i=j) (h:HRel E V hp tk w) (hh:hpLe hp (renHp ρ hp0)) (ht:tkLe tk (renTk ρ tk0)) (hhF:hpLe hp hpF) (htF:tkLe tk tkF)
  (old:∀ i,i < nx0→ρ i < V.nx) (new:∀ i,nx0≤i→ρ i=V.nx+(i - nx0)) (dF:∀ i B,lk hpF i=some B→∀ k,k < nx0→ρ k ≠ i) (dT:∀ i T,lk tkF i=some (some T)→∀ k,k < nx0→ρ k ≠ i)
  (b0:hpBelow nx0 hp0) (c0:tkBelow nx0 tk0) (hn:V1.nx+V.nx=n+nx0) (hle:nx0≤V1.nx)
  (H:HRel ⟨E.P,w,partM V (renHp ρ hp0) (renTk ρ tk0),pull ρ V nx0⟩ V1 hp1 tk1 w') :
  HRel E (backV ρ V V1 n) (renHp ρ hp1++hpF) (renTk ρ tk1++tkF) w'∧V.Le (backV ρ V V1 n) w w'∧Via ρ V1 (backV ρ V V1 n):=by
 have L:=H.le0
 have h0:=h.forgetLe hh ht
 have hF:=h.forgetLe hhF htF
 have eHi:∀ {l:List (Nat×HB)} {j B},lk (renHp ρ l) j=some B→∃ i x,ρ i=j∧lk l i=some x∧B=x.ren ρ:=fun hj=>lk_ren_inv inj hj
 have eTi:∀ {l:List (Nat×Option Tok)} {j T},lk (renTk ρ l) j=some T→∃ i x,ρ i=j∧lk l i=some x∧T=x:=fun hj=>lk_ren_inv (f:=fun x:Option Tok=>x) inj hj
 have pE:∀ k,partM V (renHp ρ hp0) (renTk ρ tk0) k→E.w0.heap.size≤k∨E.M k:=by
  rintro k (⟨i,B,hi,rfl⟩ | ⟨i,T,hi,hg⟩)
  ·exact (h0.new i B hi).1
  ·obtain ⟨-,-,xs,-,h4⟩:=h0.tok i T hi
   exact (h4 k hg).1
 have Fl:∀ i B,lk hpF i=some B→V.ι i < w.heap.size:=fun i B hi=>by
  obtain ⟨-,o,ho,-⟩:=hF.own i B hi
  exact heap_lt ho
 have Tl:∀ i T g,lk tkF i=some (some T)→(V.κ i T.n).ownBlock=some g→g < w.heap.size:=fun i T g hi hg=>by
  obtain ⟨-,-,xs,h3,-⟩:=hF.tok i T hi
  exact (h3.1.lt g hg).2
 have nF:∀ i,i < V.nx→(∀ k,k < nx0→ρ k ≠ i)→¬ ∃ k,ρ k=i:=by
  rintro i hi hk ⟨k,hk2⟩
  rcases Nat.lt_or_ge k nx0 with h1 | h1
  ·exact hk k h1 hk2
  ·rw [new k h1] at hk2;omega
 have Fn:∀ i B,lk hpF i=some B→¬ ∃ k,ρ k=i:=fun i B hi=>nF i (hF.own i B hi).1 (dF i B hi)
 have Tn:∀ i T,lk tkF i=some (some T)→¬ ∃ k,ρ k=i:=fun i T hi=>nF i (hF.tok i T hi).1 (dT i T hi)
 have Fp:∀ i B,lk hpF i=some B→¬ partM V (renHp ρ hp0) (renTk ρ tk0) (V.ι i):=by
  rintro i B hi (⟨j,C,hj,e⟩ | ⟨j,T,hj,hg⟩)
  ·obtain ⟨x,hx,-⟩:=hh.get j C hj
   obtain ⟨y,hy,-⟩:=hhF.get i B hi
   have:=h.inj j i x y hx hy e
   subst this
   obtain ⟨k,-,hk,-⟩:=eHi hj
   exact Fn _ B hi ⟨k,hk⟩
  ·obtain ⟨y,hy,-⟩:=hhF.get i B hi
   obtain ⟨-,-,xs,-,h4⟩:=h.tok j T (ht.get j T hj)
   exact (h4 _ hg).2.2 i y hy Z
 have Tp:∀ i T g,lk tkF i=some (some T)→(V.κ i T.n).ownBlock=some g→¬ partM V (renHp ρ hp0) (renTk ρ tk0) g:=by
  rintro i T g hi hg (⟨j,C,hj,e⟩ | ⟨j,U,hj,hg'⟩)
  ·obtain ⟨x,hx,-⟩:=hh.get j C hj
   obtain ⟨-,-,xs,-,h4⟩:=h.tok i T (htF.get i T hi)
   exact (h4 _ hg).2.2 j x hx e
  ·have:=h.tki i j T U g (htF.get i T hi) (ht.get j U hj) hg hg'
   subst this
   obtain ⟨k,-,hk,-⟩:=eTi hj
   exact Tn _ T hi ⟨k,hk⟩
 have S1:∀ b o,V1.S b o→V.S b o∨w.heap.size≤b∨partM V (renHp ρ hp0) (renTk ρ tk0) b:=H.sub
 have nn:∀ i,i < V1.nx→ρ i < n:=fun i hi=>by
  rcases Nat.lt_or_ge i nx0 with h1 | h1
  ·have:=old i h1;omega
  ·rw [new i h1];omega
 have A2:Via ρ V1 (backV ρ V V1 n):=⟨fun i hi=>⟨nn i hi,backV_ι inj i⟩,fun i hi=>backV_cu inj i,fun i hi=>backV_κ inj i,fun b o hs=>hs⟩
 have isNew:∀ k,ρ k < V.nx→k < nx0:=fun k hk=>by
  rcases Nat.lt_or_ge k nx0 with h1 | h1
  ·exact h1
  ·rw [new k h1] at hk;omega
 have A1:V.Le (backV ρ V V1 n) w w':=by
  refine ⟨by show V.nx≤n;omega,fun i hi=>?_,fun i hi=>?_,fun i hi m hm=>?_,L.S,L.cell,L.dk⟩
  ·by_cases hq:∃ k,ρ k=i
   ·obtain ⟨k,rfl⟩:=hq
    rw [backV_ι inj];exact L.ι k (isNew k hi)
   ·exact backV_ι' hq
  ·by_cases hq:∃ k,ρ k=i
   ·obtain ⟨k,rfl⟩:=hq
    rw [backV_cu inj];exact L.cu k (isNew k hi)
   ·rw [backV_cu' hq];exact Nat.le_refl _
  ·by_cases hq:∃ k,ρ k=i
   ·obtain ⟨k,rfl⟩:=hq
    rw [backV_κ inj];exact L.κ k (isNew k hi) m hm
   ·rw [backV_κ' hq]
 have hsize:w.heap.size≤w'.heap.size:=H.ext.size
 have keep:∀ k,k < w.heap.size→¬ partM V (renHp ρ hp0) (renTk ρ tk0) k→w'.heap[k]?=w.heap[k]?:=H.ext.block
 have inE:∀ k,(w.heap.size≤k∨partM V (renHp ρ hp0) (renTk ρ tk0) k)→E.w0.heap.size≤k∨E.M k:=fun k hk=>by
  rcases hk with h1 | h1
  ·exact .inl (Nat.le_trans h.ext.size h1)
  ·exact pE k h1
 refine ⟨⟨?_,h.le0.trans A1,H.sz,?_,?_,?_,?_,?_,?_⟩,A1,A2⟩
 ·refine ⟨H.ext.os.trans h.ext.os,H.ext.tape.trans h.ext.tape,H.ext.output.trans h.ext.output,Nat.le_trans h.ext.size hsize,fun k hk hM=>?_⟩
  refine (keep k (Nat.lt_of_lt_of_le hk h.ext.size) fun hp=>?_).trans (h.ext.block k hk hM)
  rcases pE k hp with h1 | h1
  ·omega
  ·exact hM h1
 ·intro b o hs
  rcases S1 b o hs with h1 | h1
  ·exact h.sub b o h1
  ·exact .inr (inE b h1)
 ·intro i B hi
  rcases lk_app_some hi with hi | hi
  ·obtain ⟨k,x,rfl,hk,rfl⟩:=eHi hi
   obtain ⟨h1,o,h3,h4⟩:=H.own k x hk
   exact ⟨nn k h1,o,by rw [backV_ι inj];exact h3,h4.via A2⟩
  ·obtain ⟨h1,o,h3,h4⟩:=hF.own i B hi
   exact ⟨by show i < n;omega,o,by rw [backV_ι' (Fn i B hi),keep _ (Fl i B hi) (Fp i B hi)];exact h3,h4.mono A1⟩
 ·have mix:∀ i j A B,lk (renHp ρ hp1) i=some A→lk hpF j=some B→(backV ρ V V1 n).ι i=(backV ρ V V1 n).ι j→False:=fun i j A B hi hj e=>by
   obtain ⟨k,x,rfl,hk,-⟩:=eHi hi
   rw [backV_ι inj,backV_ι' (Fn j B hj)] at e
   rcases (H.new k x hk).1 with h2 | h2
   ·rw [e] at h2
    exact absurd h2 (Nat.not_le.2 (Fl j B hj))
   ·rw [e] at h2
    exact Fp j B hj h2
  intro i j A B hi hj e
  rcases lk_app_some hi with hi | hi <;> rcases lk_app_some hj with hj | hj
  ·obtain ⟨k,x,rfl,hk,-⟩:=eHi hi
   obtain ⟨k',x',rfl,hk',-⟩:=eHi hj
   rw [backV_ι inj,backV_ι inj] at e
   rw [H.inj k k' x x' hk hk' e]
  ·exact (mix i j A B hi hj e).elim
  ·exact (mix j i B A hj hi e.symm).elim
  ·rw [backV_ι' (Fn i A hi),backV_ι' (Fn j B hj)] at e
   exact hF.inj i j A B hi hj e
 ·intro i B hi
  rcases lk_app_some hi with hi | hi
  ·obtain ⟨k,x,rfl,hk,-⟩:=eHi hi
   obtain ⟨h2,h3⟩:=H.new k x hk
   rw [backV_ι inj]
   exact ⟨inE _ h2,h3⟩
  ·obtain ⟨h2,h3⟩:=hF.new i B hi
   rw [backV_ι' (Fn i B hi)]
   refine ⟨h2,fun o hs=>?_⟩
   rcases S1 _ o hs with h4 | h4 | h4
   ·exact h3 o h4
   ·exact absurd h4 (Nat.not_le.2 (Fl i B hi))
   ·exact Fp i B hi h4
 ·intro i T hi
  rcases lk_app_some hi with hi | hi
  ·obtain ⟨k,x,rfl,hk,e⟩:=eTi hi
   subst e
   obtain ⟨h1,h2,xs,h3,h4⟩:=H.tok k T hk
   refine ⟨nn k h1,by rw [backV_cu inj];exact h2,xs,⟨by rw [backV_κ inj];exact h3.1,h3.2⟩,fun g hg=>?_⟩
   rw [backV_κ inj] at hg
   obtain ⟨h5,h6,h7⟩:=h4 g hg
   refine ⟨inE g h5,h6,fun j B hj=>?_⟩
   rcases lk_app_some hj with hj | hj
   ·obtain ⟨k',x',rfl,hk',-⟩:=eHi hj
    rw [backV_ι inj];exact h7 k' x' hk'
   ·intro e
    rw [backV_ι' (Fn j B hj)] at e
    rcases h5 with h5 | h5
    ·have:=Fl j B hj
     rw [e] at this
     exact absurd h5 (Nat.not_le.2 this)
    ·exact Fp j B hj (by rw [e];exact h5)
  ·have hq:=Tn i T hi
   obtain ⟨h1,h2,xs,h3,h4⟩:=hF.tok i T hi
   refine ⟨by show i < n;omega,by rw [backV_cu' hq];exact h2,xs,?_,fun g hg=>?_⟩
   ·exact h3.keepW (congrFun (backV_κ' hq) T.n) (ownsRow_same h3.1 fun g hg=>keep g (Tl i T g hi hg) (Tp i T g hi hg)) A1.lx
   ·rw [backV_κ' hq] at hg
    obtain ⟨h5,h6,h7⟩:=h4 g hg
    refine ⟨h5,fun o hs=>?_,fun j B hj=>?_⟩
    ·rcases S1 _ o hs with h8 | h8 | h8
     ·exact h6 o h8
     ·exact absurd h8 (Nat.not_le.2 (Tl i T g hi hg))
     ·exact absurd h8 (Tp i T g hi hg)
    ·rcases lk_app_some hj with hj | hj
     ·intro e
      obtain ⟨k',x',rfl,hk',-⟩:=eHi hj
      rw [backV_ι inj] at e
      rcases (H.new k' x' hk').1 with h9 | h9
      ·rw [e] at h9
       exact absurd h9 (Nat.not_le.2 (Tl i T g hi hg))
      ·rw [e] at h9
       exact Tp i T g hi hg h9
     ·rw [backV_ι' (Fn j B hj)];exact h7 j B hj
 ·have mix:∀ i j T U g,lk (renTk ρ tk1) i=some (some T)→lk tkF j=some (some U)→((backV ρ V V1 n).κ i T.n).ownBlock=some g→((backV ρ V V1 n).κ j U.n).ownBlock=some g→False:=fun i j T U g hi hj ei ej=>by
   obtain ⟨k,x,rfl,hk,e⟩:=eTi hi
   subst e
   rw [backV_κ inj] at ei
   rw [backV_κ' (Tn j U hj)] at ej
   obtain ⟨-,-,xs,-,h4⟩:=H.tok k T hk
   rcases (h4 g ei).1 with h5 | h5
   ·exact absurd h5 (Nat.not_le.2 (Tl j U g hj ej))
   ·exact Tp j U g hj ej h5
  intro i j T U g hi hj ei ej
  rcases lk_app_some hi with hi | hi <;> rcases lk_app_some hj with hj | hj
  ·obtain ⟨k,x,rfl,hk,e⟩:=eTi hi
   subst e
   obtain ⟨k',x',rfl,hk',e⟩:=eTi hj
   subst e
   rw [backV_κ inj] at ei ej
   rw [H.tki k k' T U g hk hk' ei ej]
  ·exact (mix i j T U g hi hj ei ej).elim
  ·exact (mix j i U T g hj hi ej ei).elim
  ·rw [backV_κ' (Tn i T hi)] at ei
   rw [backV_κ' (Tn j U hj)] at ej
   exact hF.tki i j T U g hi hj ei ej
end
theorem tkBelow_all {m:Nat}:∀ {l:List (Nat×Option Tok)},(l.all fun p=>Nat.blt p.1 m)=true→tkBelow m l
  | [],_=>trivial
  | (i,x)::l,h=>by
    rw [List.all_cons,Bool.and_eq_true] at h
    exact ⟨blt_t h.1,tkBelow_all h.2⟩
def nodupN:List Nat→Bool
 | []=>true
 | x::l=>cond (l.any fun y=>Nat.beq x y) false (nodupN l)
theorem nodupN_ok:∀ {l:List Nat},nodupN l=true→l.Nodup
 | [],_=>List.nodup_nil
 | x::l,h=>by
  unfold nodupN at h
  cases h1:(l.any fun y=>Nat.beq x y) with
  | true=>rw [h1] at h;cases h
  | false =>
   rw [h1] at h
   refine List.nodup_cons.2 ⟨fun hm=>?_,nodupN_ok h⟩
   have:=List.any_eq_false.1 h1 x hm
   simp at this
def apartB {α:Type} (rs:List Nat) (l:List (Nat×α)):Bool:=l.all fun p=>rs.all fun q=>cond (Nat.beq q p.1) false true
theorem apartB_ok {α:Type} {rs:List Nat} {l:List (Nat×α)} (h:apartB rs l=true) {i:Nat} {x:α} (hi:lk l i=some x):i∉rs:=fun hm=>by
 have h1:=List.all_eq_true.1 (List.all_eq_true.1 h _ (lk_memF hi)) i hm
 have h2:Nat.beq i i=true:=by simp
 dsimp only at h1
 rw [h2] at h1;cases h1
theorem OpOK.callG {E:Env} {st:St} {dd:Option Tmp} {ty:TypeId} {pos:String} {af:Array Edge} {g:Option (Nat×Bool)} {x:Operand} {f:FuncId} {caps:List (Nat×Nat)} {ars:Array Operand} {args args0:List AV} {ats:Array TypeId} {res res2:TV} {hp0 hp1 hp1' hpF:List (Nat×HB)} {tk0 tk1 tk1' tkF:List (Nat×Option Tok)} {nx0 nx1 nx2 n:Nat}
  (rs:List Nat) (hx:ev st.tm x=some (.v (.one (.fn f caps)))) (ha:evArgs st.tm ars.toList=some args)
  (hc:CallM E.P f args0 ⟨hp0,tk0,nx0⟩ res ⟨hp1,tk1,nx1⟩) (hst:st.nx=n) (he:args++ptrs caps=args0.map (AV.ren (rho rs n))) (e3:renHp (rho rs n) hp1=hp1') (e4:renTk (rho rs n) tk1=tk1') (e5:res.ren (rho rs n)=res2)
  (hh:hpLe st.hp (renHp (rho rs n) hp0)) (ht:tkLe st.tk (renTk (rho rs n) tk0)) (hhF:hpLe st.hp hpF) (htF:tkLe st.tk tkF) (hl:Nat.beq rs.length nx0=true) (hnd:nodupN rs=true) (hlt:(rs.all fun j=>Nat.blt j n)=true) (d1:apartB rs hpF=true) (d2:apartB rs tkF=true)
  (b0:hpBelow nx0 hp0) (c0:(tk0.all fun p=>Nat.blt p.1 nx0)=true) (ba:(args0.all fun y=>y.belowB nx0)=true) (hle:Nat.ble nx0 nx1=true) (hn:Nat.beq (nx1+n) (nx2+nx0)=true) :
  OpOK E ⟨dd,.call { callee:=.value x,args:=ars,argTypes:=ats },ty,pos,af,g⟩ st res2 ⟨hp1'++hpF,tk1'++tkF,nx2⟩:=by
 subst hst e3 e4 e5
 have c0':=tkBelow_all c0
 have hl':rs.length=nx0:=Nat.eq_of_beq_eq_true hl
 have hlt':∀ j∈rs,j < st.nx:=fun j hj=>blt_t (List.all_eq_true.1 hlt j hj)
 have inj:∀ i j,rho rs st.nx i=rho rs st.nx j→i=j:=fun i j h=>rho_inj (nodupN_ok hnd) hlt' h
 intro V a w hr ro n K Q hK
 refine ⟨fun _ _=>trivial,?_⟩
 rw [Oper.semAt_eq _ _ _ (by intro c h;cases h)]
 obtain ⟨hv1,hv2⟩:=hr.ev hx
 have hrun:(execOp a.eval ⟨dd,.call { callee:=.value x,args:=ars,argTypes:=ats },ty,pos,af,g⟩).run E.P w=.ok (.enter f (ars.map a.eval++(caps.map fun p=>Value.pointer (some ⟨V.ι p.1,p.2,none⟩)).toArray)) w:=by
  have:=hc.1 (ars.map a.eval++(caps.map fun p=>Value.pointer (some ⟨V.ι p.1,p.2,none⟩)).toArray) w
  simp [execOp,resolve,hv2,Deferred.ofValue,invoke]
  simpa using this
 rw [hrun]
 refine ⟨(by intro h;cases h),?_⟩
 have h0:=(hr.h.forgetLe hh ht).part inj b0 c0'
 have har:argsRel (pull (rho rs st.nx) V nx0) w args0 (ars.map a.eval++(caps.map fun p=>Value.pointer (some ⟨V.ι p.1,p.2,none⟩)).toArray):=by
  obtain ⟨h1,h2⟩:=(args_rel hr ha).append (ptrs_rel hv1)
  rw [he] at h1 h2
  refine ⟨by simpa using h1,fun i y hy=>?_⟩
  obtain ⟨u,hu,hyu⟩:=h2 i (y.ren _) (by rw [List.getElem?_map,hy];rfl)
  exact ⟨u,hu,hyu.pull (AV.belowB_ok (List.all_eq_true.1 ba y (List.mem_of_getElem? hy)))⟩
 have hc':CallsIn Fence.wide (n - 1) E.P f _ w _:=callsIn_wide.2 (hc.2 ⟨E.P,w,partM V _ _,pull (rho rs st.nx) V nx0⟩ _ w _ rfl h0 rfl har)
 refine CallsIn.mono (F:=FR ro) hc' ?_
 rintro e w' ⟨v,V1,rfl,H,hn1,L,hres⟩
 have hn2:=Nat.eq_of_beq_eq_true hn
 have hnx:=hr.nx
 dsimp only at hn1
 obtain ⟨H2,L2,L3⟩:=hr.h.turn (n:=nx2) inj hh ht hhF htF (fun i hi=>by rw [hnx];exact hlt' _ (rho_mem (by omega))) (fun i hi=>by rw [rho_ge (by omega),hnx,hl'])
  (fun i B hi k hk e=>apartB_ok d1 hi (by rw [← e];exact rho_mem (by omega))) (fun i T hi k hk e=>apartB_ok d2 hi (by rw [← e];exact rho_mem (by omega))) b0 c0' (by rw [hn1,hnx];exact hn2) (by rw [hn1];exact Nat.le_of_ble_eq_true hle) H
 exact hK _ w' v H2 Z L2 (hres.via L3)
theorem qZ {ρ:Nat→Nat}:renHp ρ []=[]:=rfl
theorem qB {ρ:Nat→Nat} {i j:Nat} {x y:HB} {r r':List (Nat×HB)} (h1:ρ i=j) (h2:x.ren ρ=y) (h:renHp ρ r=r'):renHp ρ ((i,x)::r)=(j,y)::r':=by
 subst h1 h2 h;rfl
theorem flatE_ren {α:Type} [Enc α] (ρ:Nat→Nat) (l:List α):(flatE l).map (CA.ren ρ)=flatE l:=by
 unfold flatE;rw [List.map_map];rfl
theorem qF {ρ:Nat→Nat} {i j:Nat} {T:TypeId} {α:Type} [Enc α] {xs:List α} {r r':List (Nat×HB)} (h1:ρ i=j) (h:renHp ρ r=r'):renHp ρ ((i,.cells T (flatE xs))::r)=(j,.cells T (flatE xs))::r' :=
 qB h1 (by show HB.cells T ((flatE xs).map (CA.ren ρ))=_;rw [flatE_ren]) h
theorem qM {ρ:Nat→Nat} {i j c:Nat} {xs:List (Int×Int×Nat)} {r r':List (Nat×HB)} (h1:ρ i=j) (h:renHp ρ r=r'):renHp ρ ((i,.mp (imE xs) c)::r)=(j,.mp (imE xs) c)::r' :=
 qB h1 (by show HB.mp ((imE xs).map _) c=_;unfold imE;rw [List.map_map];rfl) h
section
variable {ρ:Nat→Nat} {hp:List (Nat×HB)} {tk:List (Nat×Option Tok)}
theorem gZ:hpLe hp (renHp ρ []):=trivial
theorem gR {i:Nat} {x:HB} {r:List (Nat×HB)} (h:lk hp (ρ i)=some (x.ren ρ)) (l:hpLe hp (renHp ρ r)):hpLe hp (renHp ρ ((i,x)::r)):=⟨⟨_,h,.refl _⟩,l⟩
theorem gF {i:Nat} {T:TypeId} {α:Type} [Enc α] {xs:List α} {r:List (Nat×HB)} (h:lk hp (ρ i)=some (.cells T (flatE xs))) (l:hpLe hp (renHp ρ r)):hpLe hp (renHp ρ ((i,.cells T (flatE xs))::r)) :=
 gR (by show _=some (HB.cells T ((flatE xs).map (CA.ren ρ)));rw [flatE_ren];exact h) l
theorem gM {i c:Nat} {xs:List (Int×Int×Nat)} {r:List (Nat×HB)} (h:lk hp (ρ i)=some (.mp (imE xs) c)) (l:hpLe hp (renHp ρ r)):hpLe hp (renHp ρ ((i,.mp (imE xs) c)::r)) :=
 gR (by show _=some (HB.mp ((imE xs).map _) c);unfold imE at h ⊢;rw [List.map_map];exact h) l
theorem jZ:tkLe tk (renTk ρ []):=trivial
theorem jR {i:Nat} {T:Tok} {r:List (Nat×Option Tok)} (h:lk tk (ρ i)=some (some T)) (l:tkLe tk (renTk ρ r)):tkLe tk (renTk ρ ((i,some T)::r)):=⟨fun T' e=>by cases e;exact h,l⟩
end
end Go.Proofs.Ytkimijmiphkddaa
namespace Go.Proofs.Ytkimijmiphkddaa
open Go.RowKit
def sB (l:List UInt8):ByteArray:=⟨l.toArray⟩
def strL (s:List UInt8):List C:=[.v (.string (sB s))]
instance:Enc (List UInt8):=⟨1,strL,fun l=>l.map strL,rfl,fun a b=>List.map_append,fun _=>rfl⟩
section
variable {E:Env} {st:St} {d:Option Tmp} {ty:TypeId} {pos:String} {af:Array Edge} {g:Option (Nat×Bool)}
end
end Go.Proofs.Ytkimijmiphkddaa
namespace Go.Proofs.Ytkimijmiphkddaa
open Go.RowKit
class MK (κ:Type) extends BEq κ where
 ib:Bool
 val:κ→Value
 key:∀ a,keyOf ib (val a)=true
 eq:∀ a b,keyEq (val a) (val b)=some (a==b)
class MV (β:Type) where
 av:β→AV
 z:β
 ren:∀ ρ x,(av x).ren ρ=av x
 below:∀ m x,(av x).below m
instance:MK Int:={ ib:=true,val:=fun n=>.int .i64 n,key:=fun _=>rfl,eq:=fun _ _=>rfl }
theorem sB_eq (a b:List UInt8):keyEq (.string (sB a)) (.string (sB b))=some (a==b):=by
 show some (sB a==sB b)=some (a==b)
 congr 1
 show (a.toArray==b.toArray)=(a==b)
 rw [Bool.eq_iff_iff,beq_iff_eq,beq_iff_eq]
 exact ⟨fun h=>by have:=congrArg Array.toList h;simpa using this,fun h=>by rw [h]⟩
instance:MK (List UInt8):={ ib:=false,val:=fun s=>.string (sB s),key:=fun _=>rfl,eq:=sB_eq }
instance:MV Bool:=⟨fun b=>.one (dB b),false,fun _ _=>rfl,fun _ _=>trivial⟩
instance:MV Int:=⟨fun n=>.one (dI n),0,fun _ _=>rfl,fun _ _=>trivial⟩
section
variable {κ β:Type} [MK κ] [MV β]
section
variable {E:Env} {st:St} {dd:Option Tmp} {ty:TypeId} {pos:String} {af:Array Edge} {g:Option (Nat×Bool)}
end
end
inductive Parts (st:St):List (Nat×Operand)→List (Nat×AV)→Prop
 | nil:Parts st [] []
 | cons {i:Nat} {o:Operand} {x:AV} {ps:List (Nat×Operand)} {xs:List (Nat×AV)} (h:ev st.tm o=some (.v x)) (t:Parts st ps xs):Parts st ((i,o)::ps) ((i,x)::xs)
section
variable {E:Env} {st:St} {dd:Option Tmp} {ty:TypeId} {pos:String} {af:Array Edge} {g:Option (Nat×Bool)}
end
end Go.Proofs.Ytkimijmiphkddaa
namespace Go.Proofs.Ytkimijmiphkddaa
open Go.RowKit
instance:EncLen (List UInt8):=⟨fun _=>rfl,Nat.succ_pos 0⟩
instance:EncLen Bool:=⟨fun _=>rfl,Nat.succ_pos 0⟩
instance {α:Type} [Enc α]:EncLen (List α):=⟨fun _=>rfl,Nat.succ_pos 0⟩
section
variable {E:Env} {st:St} {dd:Option Tmp} {ty:TypeId} {pos:String} {af:Array Edge} {g:Option (Nat×Bool)} {α:Type} [Enc α] [EncLen α]
theorem RO.loadCE {t i:Nat} {T:TypeId} {x:Operand} (v:α) (ht:tyAgg E.P t=some (true,Enc.sz α)) (hx:ev st.tm x=some (.v (.one (.ptr i 0)))) (hi:lk st.hp i=some (.cells T (cE v))):RO E ⟨dd,.load t x,ty,pos,af,g⟩ st (.v (.agg (cE v))):=by
 have hl:(cE v).length=Enc.sz α:=by rw [List.length_map,EncLen.len]
 exact RO.loadOwnAgg ht hx hi (by rw [List.drop_zero,List.take_of_length_le (Nat.le_of_eq hl)]) hl
theorem RO.loadPelCE {t:Nat} {x:Operand} (v:α) (ht:tyAgg E.P t=some (true,Enc.sz α)) (hx:ev st.tm x=some (.v (.one (.pel (Enc.enc v) 0)))):RO E ⟨dd,.load t x,ty,pos,af,g⟩ st (.v (.agg (cE v))) :=
 RO.loadPelAgg ht hx (by rw [List.drop_zero,List.take_of_length_le (Nat.le_of_eq (EncLen.len v))]) (EncLen.len v)
theorem OpOK.storeCE {t i:Nat} {ag:Bool} {T:TypeId} {xs:List CA} {o1 o2:Operand} (v:α) (ht:tyAgg E.P t=some (ag,Enc.sz α)) (h1:ev st.tm o1=some (.v (.one (.ptr i 0)))) (h2:ev st.tm o2=some (.v (.agg (cE v)))) (hi:lk st.hp i=some (.cells T xs)) (hl:xs.length=Enc.sz α) (hdd:dd=none) :
  OpOK E ⟨dd,.store t o1 o2,ty,pos,af,g⟩ st (.tup []) ⟨(i,.cells T (cE v))::dropK i st.hp,st.tk,st.nx⟩:=by
 have hc:(AV.agg (cE v)).cells.length=Enc.sz α:=by show (cE v).length=_;rw [List.length_map,EncLen.len]
 have:=OpOK.store (dd:=dd) (ty:=ty) (pos:=pos) (af:=af) (g:=g) ht h1 h2 hi hc (by omega) hdd
 have e1:setL xs 0 (AV.agg (cE v)).cells=cE v:=by
  have:=setL_all (AV.agg (cE v)).cells xs [] (by rw [hc,hl])
  rw [List.append_nil,List.append_nil] at this
  exact this
 rw [e1] at this
 exact this
end
end Go.Proofs.Ytkimijmiphkddaa
namespace Go.Proofs.Ytkimijmiphkddaa
open Go.RowKit
structure SwInv (E:Env) (ops:Array Oper) (st:St) (fx:List (Nat×TV)) (effs:List Nat) (dns:List (List Nat)) (ms:List Mem) (listed:Array Bool) (a:Act) (w:World) (V:Vu) (j:Nat) (d:List Nat) (m:Mem):Prop where
 size:listed.size=ops.size
 closed:∀ i,listed.getD i false=true→∀ k∈edgesOf ops i,listed.getD k false=true
 stage:dns[j]?=some d
 done:∀ e∈d,listed.getD e false=true
 todo:∀ e∈effs,e∉d→listed.getD e false=false
 mem:ms[j]?=some m
 rel:Rel E V ⟨dropTm (dstsOf ops) st.tm,m.hp,m.tk,m.nx,st.nt,st.df⟩ a w
 fact:∀ i,listed.getD i false=true→∀ d x,dstOf ops i=some d→lk fx i=some x→x.rel V w (a.tmps.getD d undef)
 old:∀ t x,lk st.tm t=some x→(∀ k,dstOf ops k=some t→listed.getD k false=false)→x.rel V w (a.tmps.getD t undef)
section
variable {E:Env} {ops:Array Oper} {st:St} {fx:List (Nat×TV)} {effs:List Nat} {dns:List (List Nat)} {ms:List Mem} {listed:Array Bool} {a:Act} {w:World} {V:Vu} {j:Nat} {d:List Nat} {m:Mem}
end
section
variable {E:Env} {ops:Array Oper} {st:St} {effs:List Nat} {dns:List (List Nat)}
end
end Go.Proofs.Ytkimijmiphkddaa
namespace Go.Proofs.Ytkimijmiphkddaa
open Go.RowKit
theorem lsub_flat {α:Type} [Enc α] (l:List α):LSub (flatE l) (flatE l):=by
 have:∀ cs:List C,LSub (cs.map CA.d) (cs.map CA.d):=by
  intro cs
  induction cs with
  | nil=>exact .nil
  | cons c cs ih=>exact .cons (.d c) ih
 exact this _
section
variable {E:Env} {st:St} {dd d:Option Tmp} {ty:TypeId} {pos:String} {af:Array Edge} {g:Option (Nat×Bool)}
theorem OpOK.allocA {α:Type} [Enc α] {t:TypeId} {zs:List Value} {l:List α} (h1:tyZero E.P t=some zs) (h2:zs.all (·.oneCell')=true) (hz:zs.map (fun z=>CA.d (.v z))=flatE l) :
  OpOK E ⟨dd,.alloc t,ty,pos,af,g⟩ st (.v (.one (.ptr st.nx 0))) ⟨(st.nx,.cells t (flatE l))::st.hp,st.tk,st.nx+1⟩:=by
 rw [← hz];exact OpOK.alloc h1 h2
theorem RO.indexA {t n sz i off:Nat} {x y:Operand} {m:Int} (ht:tyArr E.P t=some (n,sz)) (hx:ev st.tm x=some (.v (.one (.ptr i off)))) (hy:ev st.tm y=some (TI m)) (hm:(cond (decide (0≤m)) (Nat.blt m.toNat n) false)=true) :
  RO E ⟨d,.indexAddr t x y,ty,pos,af,g⟩ st (.v (.one (.ptr i (off+m.toNat * sz)))) :=
 RO.indexArrOwn ht hx hy (Int.toNat_of_nonneg (of_decide_eq_true (cond_left hm))).symm (blt_t (cond_right hm))
theorem flatI_get {l:List Int} {k:Nat} {v:Int} (h:l[k]?=some v):(flatE l)[k]?=some (.d (.v (.int .i64 v))):=by
 have h2:=flatE_get (l:=l) (k:=k) (j:=0) h (by decide)
 have e:k * Enc.sz Int+0=k:=Nat.mul_one k
 rw [e] at h2;exact h2
theorem RO.loadA {t n i off:Nat} {T:TypeId} {x:Operand} {l:List Int} {v:Int} (ht:tyAgg E.P t=some (false,n)) (hx:ev st.tm x=some (.v (.one (.ptr i off)))) (hi:lk st.hp i=some (.cells T (flatE l))) (hv:l[off]?=some v) :
  RO E ⟨d,.load t x,ty,pos,af,g⟩ st (TI v):=RO.loadOwn ht hx hi (flatI_get hv)
theorem OpOK.storeA {t i off:Nat} {T:TypeId} {o1 o2:Operand} {l:List Int} {v:Int} (ht:tyAgg E.P t=some (false,1)) (h1:ev st.tm o1=some (.v (.one (.ptr i off)))) (h2:ev st.tm o2=some (TI v)) (hi:lk st.hp i=some (.cells T (flatE l))) (hlt:Nat.blt off l.length=true) (hdd:dd=none) :
  OpOK E ⟨dd,.store t o1 o2,ty,pos,af,g⟩ st (.tup []) ⟨(i,.cells T (flatE (l.set off v)))::dropK i st.hp,st.tk,st.nx⟩:=by
 have hlt':off < l.length:=blt_t hlt
 have:=OpOK.store (E:=E) (st:=st) (dd:=dd) (ty:=ty) (pos:=pos) (af:=af) (g:=g) ht h1 h2 hi rfl (by rw [flatE_len];show off+1≤l.length * 1;omega) hdd
 have e:=setL_flat l off v hlt'
 have e2:off * Enc.sz Int=off:=Nat.mul_one off
 rw [e2] at e
 have e3:(AV.cells (.one (.d (.v (.int .i64 v)))))=(Enc.enc v).map CA.d:=rfl
 rw [e3,e] at this
 exact this
theorem RO.loadArr {t n i:Nat} {T:TypeId} {x:Operand} {l:List Int} (ht:tyAgg E.P t=some (true,n)) (hx:ev st.tm x=some (.v (.one (.ptr i 0)))) (hi:lk st.hp i=some (.cells T (flatE l))) (hn:Nat.beq l.length n=true) :
  RO E ⟨d,.load t x,ty,pos,af,g⟩ st (.v (.agg (flatE l))):=by
 have hl:(flatE l).length=n:=by rw [flatE_len];exact (Nat.mul_one _).trans (Nat.eq_of_beq_eq_true hn)
 exact RO.loadOwnAgg ht hx hi (by rw [List.drop_zero,List.take_of_length_le (Nat.le_of_eq hl)]) hl
theorem OpOK.storeArr {t n i:Nat} {T:TypeId} {o1 o2:Operand} {l0 l:List Int} (ht:tyAgg E.P t=some (true,n)) (h1:ev st.tm o1=some (.v (.one (.ptr i 0)))) (h2:ev st.tm o2=some (.v (.agg (flatE l)))) (hi:lk st.hp i=some (.cells T (flatE l0))) (h0:Nat.beq l0.length n=true) (hn:Nat.beq l.length n=true) (hdd:dd=none) :
  OpOK E ⟨dd,.store t o1 o2,ty,pos,af,g⟩ st (.tup []) ⟨(i,.cells T (flatE l))::dropK i st.hp,st.tk,st.nx⟩:=by
 have hl0:(flatE l0).length=n:=by rw [flatE_len];exact (Nat.mul_one _).trans (Nat.eq_of_beq_eq_true h0)
 have hl:(flatE l).length=n:=by rw [flatE_len];exact (Nat.mul_one _).trans (Nat.eq_of_beq_eq_true hn)
 have:=OpOK.store (E:=E) (st:=st) (dd:=dd) (ty:=ty) (pos:=pos) (af:=af) (g:=g) ht h1 h2 hi hl (by omega) hdd
 have e:=setL_all (AV.cells (.agg (flatE l))) (flatE l0) [] (by show (flatE l0).length=(flatE l).length;omega)
 rw [List.append_nil,List.append_nil] at e
 rw [e] at this
 exact this
theorem OpOK.data2E {α:Type} [Enc α] (v1 v2:α) {t e:Nat} {zs:List Value} {o1 o2:Operand} {x1 x2:AV} {ys:List CA} (ht:tySlice E.P t=some (e,Enc.sz α)) (hze:tyZero E.P e=some zs) (hzl:zs.length=Enc.sz α) (hz:zs.all (·.oneCell')=true) (hlen:2 * Enc.sz α≤16777216)
  (h1:ev st.tm o1=some (.v x1)) (h2:ev st.tm o2=some (.v x2)) (hf:fillL (rowPlaces (Enc.sz α) 2) (zeroRow zs 2) [(0,x1),(1,x2)]=some ys) (hs:CSubs ys (Enc.enc v1++Enc.enc v2)) (hel:(Enc.enc v1).length=Enc.sz α∧(Enc.enc v2).length=Enc.sz α) :
  OpOK E ⟨d,.buildSlice t 2 #[(0,o1),(1,o2)],ty,pos,af,g⟩ st (.v (.one (.d (.sl (Enc.sz α) (Enc.encL [v1,v2]))))) ⟨st.hp,st.tk,st.nx⟩ :=
 OpOK.litData (avs:=[(0,x1),(1,x2)]) (Enc.encL [v1,v2]) ht hze hzl hz hlen rfl (fun j i x hx=>by
  match j,hx with
  | 0,hx=>cases hx;exact ⟨o1,rfl,h1⟩
  | 1,hx=>cases hx;exact ⟨o2,rfl,h2⟩) hf (by rw [Enc.cons,Enc.one];simpa using hs) (fun x hx=>by
   rw [Enc.cons,Enc.one] at hx;simp at hx
   rcases hx with rfl | rfl
   ·exact hel.1
   ·exact hel.2) (by rw [Enc.len];rfl)
theorem XQ.lessTm {Q:Exit→Act→World→Prop} {e:Exit} {tm':List (Nat×TV)} (h:tmLe st.tm tm') (k:XQ E Q e ⟨tm',st.hp,st.tk,st.nx,st.nt,st.df⟩):XQ E Q e st:=fun V a w hr =>
 k V a w ⟨hr.h,hr.nx,hr.nt,hr.df,fun t x hx=>let ⟨y,h1,h2⟩:=h.get t x hx;h2.rel (hr.tm t y h1)⟩
theorem HRel.skip {V:Vu} {hp:List (Nat×HB)} {tk:List (Nat×Option Tok)} {w:World} (h:HRel E V hp tk w) (N:Nat) (hN:V.nx≤N):HRel E { V with nx:=N } hp tk w∧V.Le { V with nx:=N } w w:=by
 have hle:V.Le { V with nx:=N } w w:=⟨hN,fun _ _=>rfl,fun _ _=>Nat.le_refl _,fun _ _ _ _=>rfl,fun _ _ h=>h,fun _ _ _=>rfl,fun _ _ _ _ h=>h⟩
 refine ⟨⟨h.ext,h.le0.trans hle,h.sz,h.sub,fun i B hi=>?_,h.inj,h.new,fun i T hi=>?_,h.tki⟩,hle⟩
 ·obtain ⟨h1,o,h2,h3⟩:=h.own i B hi
  exact ⟨Nat.lt_of_lt_of_le h1 hN,o,h2,h3.mono hle⟩
 ·obtain ⟨h1,h2⟩:=h.tok i T hi
  exact ⟨Nat.lt_of_lt_of_le h1 hN,h2⟩
theorem XQ.skipTo {e_:Exit} {Q:Exit→Act→World→Prop} (N:Nat) (hN:st.nx≤N) (k:XQ E Q e_ ⟨st.tm,st.hp,st.tk,N,st.nt,st.df⟩):XQ E Q e_ st:=fun V a w hr=>by
 obtain ⟨H,L⟩:=hr.h.skip N (by rw [hr.nx];exact hN)
 exact k _ a w ⟨H,Z,hr.nt,hr.df.le L,fun t x hx=>(hr.tm t x hx).mono L⟩
theorem XQ.adoptT {e_:Exit} {Q:Exit→Act→World→Prop} {t:Nat} (e sz:Nat) (h:lk st.tm t=some (TVv (.slice none 0 0))) (k:XQ E Q e_ ⟨(t,.v (.one (.app st.nx sz [])))::st.tm,st.hp,(st.nx,some ⟨e,sz,0,[]⟩)::st.tk,st.nx+1,st.nt,st.df⟩):XQ E Q e_ st:=by
 intro V a w hr
 obtain ⟨H,L⟩:=hr.h.tokNil e sz
 refine k (V.tok V.nx 0 (.slice none 0 0) 0 0) a w ⟨by dsimp only;rw [← hr.nx];exact H,?_,hr.nt,hr.df.le L,fun t' x hx=>?_⟩
 ·show max V.nx (V.nx+1)=st.nx+1;rw [hr.nx];omega
 ·dsimp only at hx;rw [lk_cons] at hx
  split at hx
  ·rename_i e1;subst e1;cases hx
   have:=val_of (hr.tm _ _ h)
   rw [this,← hr.nx]
   exact app_nil_rel e sz
  ·exact (hr.tm t' x hx).mono L
theorem XQ.congrTk {Q:Exit→Act→World→Prop} {e:Exit} {tk':List (Nat×Option Tok)} (h:∀ j,lk tk' j=lk st.tk j) (k:XQ E Q e ⟨st.tm,st.hp,tk',st.nx,st.nt,st.df⟩):XQ E Q e st:=fun V a w hr =>
 k V a w ⟨hr.h.congr (fun _=>rfl) h,hr.nx,hr.nt,hr.df,hr.tm⟩
theorem XL.eqNil {ro:Option Nat} {n:Nat} {ops:Array Oper} {Q:Exit→Act→World→Prop} {rest:List Oper} {α:Type} [Enc α] {l:List α} {t e:Nat} {tt:TypeId} {x:Operand} {y:CA} {ty':TypeId} {pos':String} {af':Array Edge} {g':Option (Nat×Bool)}
  (hg:wantedA ops st.tm ⟨some t,.binOp .eql tt x (.const (.slice none 0 0)) ty',ty,pos',af',g'⟩=some true) (hd:t < st.nt) (ht:tySlice E.P tt=some (e,Enc.sz α)) (hx:ev st.tm x=some (.v (.one y))) (hs:SlE y l)
  (k:∀ b:Bool,(b=true→l=[])→XL E ro n ops Q rest ⟨(t,TB b)::st.tm,st.hp,st.tk,st.nx,st.nt,st.df⟩) :
  XL E ro n ops Q (⟨some t,.binOp .eql tt x (.const (.slice none 0 0)) ty',ty,pos',af',g'⟩::rest) st:=by
 intro V a w h
 obtain ⟨hu,-⟩:=tySlice_spec ht
 obtain ⟨-,ad,cap,b,off,us,hval,-,hne,-⟩:=(hs.sl.reads (h.ev hx)).row
 have hb:ad.isNone=true→l=[]:=fun hnone=>by
  cases l with
  | nil=>rfl
  | cons x' l' =>
   have h1:Enc.encL (x'::l') ≠ []:=by rw [Enc.cons];simp
   rw [hne h1] at hnone;cases hnone
 have hrun:(execOp a.eval ⟨some t,.binOp .eql tt x (.const (.slice none 0 0)) ty',ty,pos',af',g'⟩).run E.P w=.ok (.value (.bool ad.isNone)) w:=by
  have he:=run_equal_slice_nil (P:=E.P) w tt e ad (Enc.encL l).length cap hu
  have hc:a.eval (.const (.slice none 0 0))=.slice none 0 0:=rfl
  simp only [execOp,hval,hc,eqGuard,binOp,Sem.run_bind]
  simp [he]
 unfold wpListIn
 rw [if_pos (wanted_of h hg)]
 refine ⟨fun _ _=>trivial,?_⟩
 rw [Oper.semAt_eq _ _ _ (by intro c h;cases h)]
 rw [hrun]
 exact k ad.isNone hb V _ w (h.put (d:=t) hd (rel_of Z))
end
end Go.Proofs.Ytkimijmiphkddaa
namespace Go.Proofs.Ytkimijmiphkddaa
open Go.RowKit
structure Byt where
 n:Int
def bytC (b:Byt):List C:=[.v (.int .u8 b.n)]
instance:Enc Byt:=⟨1,bytC,fun l=>l.map bytC,rfl,fun a b=>List.map_append,fun _=>rfl⟩
instance:EncLen Byt:=⟨fun _=>rfl,by decide⟩
section
variable {E:Env} {st:St} {d:Option Tmp} {ty:TypeId} {pos:String} {af:Array Edge} {g:Option (Nat×Bool)}
end
end Go.Proofs.Ytkimijmiphkddaa
namespace Go.Proofs.Ytkimijmiphkddaa
open Go.RowKit
section
variable {E:Env} {st:St} {dd:Option Tmp} {ty:TypeId} {pos:String} {af:Array Edge} {g:Option (Nat×Bool)}
end
section
variable {E:Env} {st:St} {Q:Exit→Act→World→Prop} {ex:Exit}
end
section
variable {E:Env} {st:St} {dd:Option Tmp} {ty:TypeId} {pos:String} {af:Array Edge} {g:Option (Nat×Bool)} {α:Type} [Enc α] [EncLen α]
end
section
variable {E:Env} {st:St} {dd:Option Tmp} {ty:TypeId} {pos:String} {af:Array Edge} {g:Option (Nat×Bool)}
end
section
variable {E:Env} {st:St} {dd:Option Tmp} {ty:TypeId} {pos:String} {af:Array Edge} {g:Option (Nat×Bool)}
theorem OpOK.lit2E {α:Type} [Enc α] (v0 v1:α) {t e:Nat} {zs:List Value} {o0 o1:Operand} {x0 x1:AV} {ys:List CA} (ht:tySlice E.P t=some (e,Enc.sz α)) (hze:tyZero E.P e=some zs) (hzl:zs.length=Enc.sz α) (hz:zs.all (·.oneCell')=true) (hpos:0 < Enc.sz α) (hlen:2 * Enc.sz α≤16777216)
  (h0:ev st.tm o0=some (.v x0)) (h1:ev st.tm o1=some (.v x1)) (hf:fillL (rowPlaces (Enc.sz α) 2) (zeroRow zs 2) [(0,x0),(1,x1)]=some ys) (hs:CSubs ys (Enc.enc v0++Enc.enc v1)) (hel:(Enc.enc v0).length=Enc.sz α∧(Enc.enc v1).length=Enc.sz α) :
  OpOK E ⟨dd,.buildSlice t 2 #[(0,o0),(1,o1)],ty,pos,af,g⟩ st (.v (.one (.app st.nx (Enc.sz α) (Enc.encL [v0,v1])))) ⟨st.hp,(st.nx,some ⟨e,Enc.sz α,(Enc.encL [v0,v1]).length,[]⟩)::st.tk,st.nx+1⟩ :=
 OpOK.litApp (avs:=[(0,x0),(1,x1)]) (Enc.encL [v0,v1]) ht hze hzl hz hpos hlen rfl (fun j i x hx=>by
  match j,hx with
  | 0,hx=>cases hx;exact ⟨o0,rfl,h0⟩
  | 1,hx=>cases hx;exact ⟨o1,rfl,h1⟩) hf (by rw [Enc.map];simpa using hs) (fun x hx=>by
  rw [Enc.map] at hx
  obtain ⟨y,hy,rfl⟩:=List.mem_map.1 hx
  simp at hy
  rcases hy with rfl | rfl
  ·exact hel.1
  ·exact hel.2) (by rw [Enc.len];rfl)
theorem OpOK.lit3E {α:Type} [Enc α] (v0 v1 v2:α) {t e:Nat} {zs:List Value} {o0 o1 o2:Operand} {x0 x1 x2:AV} {ys:List CA} (ht:tySlice E.P t=some (e,Enc.sz α)) (hze:tyZero E.P e=some zs) (hzl:zs.length=Enc.sz α) (hz:zs.all (·.oneCell')=true) (hpos:0 < Enc.sz α) (hlen:3 * Enc.sz α≤16777216)
  (h0:ev st.tm o0=some (.v x0)) (h1:ev st.tm o1=some (.v x1)) (h2:ev st.tm o2=some (.v x2)) (hf:fillL (rowPlaces (Enc.sz α) 3) (zeroRow zs 3) [(0,x0),(1,x1),(2,x2)]=some ys) (hs:CSubs ys (Enc.enc v0++Enc.enc v1++Enc.enc v2)) (hel:(Enc.enc v0).length=Enc.sz α∧(Enc.enc v1).length=Enc.sz α∧(Enc.enc v2).length=Enc.sz α) :
  OpOK E ⟨dd,.buildSlice t 3 #[(0,o0),(1,o1),(2,o2)],ty,pos,af,g⟩ st (.v (.one (.app st.nx (Enc.sz α) (Enc.encL [v0,v1,v2])))) ⟨st.hp,(st.nx,some ⟨e,Enc.sz α,(Enc.encL [v0,v1,v2]).length,[]⟩)::st.tk,st.nx+1⟩ :=
 OpOK.litApp (avs:=[(0,x0),(1,x1),(2,x2)]) (Enc.encL [v0,v1,v2]) ht hze hzl hz hpos hlen rfl (fun j i x hx=>by
  match j,hx with
  | 0,hx=>cases hx;exact ⟨o0,rfl,h0⟩
  | 1,hx=>cases hx;exact ⟨o1,rfl,h1⟩
  | 2,hx=>cases hx;exact ⟨o2,rfl,h2⟩) hf (by rw [Enc.map];simpa using hs) (fun x hx=>by
  rw [Enc.map] at hx
  obtain ⟨y,hy,rfl⟩:=List.mem_map.1 hx
  simp at hy
  rcases hy with rfl | rfl | rfl
  ·exact hel.1
  ·exact hel.2.1
  ·exact hel.2.2) (by rw [Enc.len];rfl)
end
theorem HRel.adoptC {E:Env} {V:Vu} {hp:List (Nat×HB)} {tk:List (Nat×Option Tok)} {w:World} (H0:HRel E V hp tk w) {i off:Nat} {T:TypeId} {xs:List CA} (e sz:Nat) (hi:lk hp i=some (.cells T xs)) (hx:xs[off]?=some (.d (.v (.slice none 0 0)))) :
  HRel E (V.tok V.nx 0 (.slice none 0 0) 0 0) ((i,.cells T (xs.set off (.app V.nx sz [])))::hp) ((V.nx,some ⟨e,sz,0,[]⟩)::tk) w∧V.Le (V.tok V.nx 0 (.slice none 0 0) 0 0) w w:=by
 obtain ⟨H,L⟩:=H0.tokNil e sz
 have hl:∀ (A:HB) j,j ≠ i→lk ((i,A)::hp) j=lk hp j:=fun A j hj=>by rw [lk_cons,if_neg (fun h=>hj h.symm)]
 obtain ⟨hb,o,ho,vs,hvo,hvs⟩:=H.own i _ hi
 obtain ⟨u,hu,hur⟩:=hvs.2 off _ hx
 have hu0:u=.slice none 0 0:=by cases hur;rfl
 refine ⟨⟨H.ext,H.le0,H.sz,H.sub,?_,?_,?_,?_,?_⟩,L⟩
 ·intro j B hj
  by_cases e1:j=i
  ·subst e1
   rw [lk_cons,if_pos rfl] at hj;cases hj
   refine ⟨hb,o,ho,vs,hvo,by rw [List.length_set];exact hvs.1,fun m y hy=>?_⟩
   rw [List.getElem?_set] at hy
   split at hy
   ·rename_i e2;subst e2
    split at hy
    ·cases hy;exact ⟨u,hu,by rw [hu0];exact app_nil_rel e sz⟩
    ·cases hy
   ·exact hvs.2 m y hy
  ·rw [hl _ j e1] at hj;exact H.own j B hj
 ·intro j m A B hj hm e1
  rw [lk_cons] at hj hm
  split at hj <;> split at hm
  ·rename_i a1 a2;exact a1.symm.trans a2
  ·rename_i a1 a2;subst a1;exact H.inj _ _ _ _ hi hm e1
  ·rename_i a1 a2;subst a2;exact H.inj _ _ _ _ hj hi e1
  ·exact H.inj _ _ _ _ hj hm e1
 ·intro j B hj
  rw [lk_cons] at hj
  split at hj
  ·rename_i a1;subst a1;exact H.new _ _ hi
  ·exact H.new _ _ hj
 ·intro j T' hj
  obtain ⟨b1,b2,ys,b3,b4⟩:=H.tok j T' hj
  refine ⟨b1,b2,ys,b3,fun g' hg'=>⟨(b4 g' hg').1,(b4 g' hg').2.1,fun m B hm=>?_⟩⟩
  rw [lk_cons] at hm
  split at hm
  ·rename_i a1;subst a1;exact (b4 g' hg').2.2 _ _ hi
  ·exact (b4 g' hg').2.2 _ _ hm
 ·exact H.tki
section
variable {E:Env} {st:St}
theorem OpOK.adoptC {o:Oper} {x:TV} {m:Mem} (ok:OpOK E o st x m) {i off:Nat} {T:TypeId} {xs:List CA} (e sz:Nat) (hi:lk m.hp i=some (.cells T xs)) (hx:xs[off]?=some (.d (.v (.slice none 0 0)))) :
  OpOK E o st x ⟨(i,.cells T (xs.set off (.app m.nx sz [])))::m.hp,(m.nx,some ⟨e,sz,0,[]⟩)::m.tk,m.nx+1⟩:=by
 intro V a w hr ro n K Q hK
 refine ok V a w hr ro n K Q (fun V' w' v H hn L hx'=>?_)
 obtain ⟨H2,L2⟩:=H.adoptC e sz hi hx
 rw [hn] at H2 L2
 refine hK _ w' v H2 ?_ (L.trans L2) (hx'.mono L2)
 show max V'.nx (m.nx+1)=m.nx+1
 rw [hn];omega
end
end Go.Proofs.Ytkimijmiphkddaa
namespace Go.Proofs.Ytkimijmiphkddaa
open Go.RowKit
inductive EK where
 | ret (xs:List AV)
 | pan (v:Value)
section
variable {E:Env} {ro:Option Nat} {n:Nat} {ops:Array Oper} {Q:Exit→Act→World→Prop} {rest:List Oper} {st:St} {o:Oper} {x:TV} {d dd:Option Tmp} {ty:TypeId} {pos:String} {af:Array Edge} {g:Option (Nat×Bool)}
end
section
variable {E:Env} {st:St} {dd:Option Nat} {ty:TypeId} {pos:String} {af:Array Edge} {g:Option (Nat×Bool)}
end
end Go.Proofs.Ytkimijmiphkddaa
namespace Go.Proofs.Ytkimijmiphkddaa
open Go.RowKit
noncomputable section
structure Use where
 index:Bool
 name:Bool
 levels:Int
 kids:Int
 below:Int
def useC (u:Use):List C:=[.v (.bool u.index),.v (.bool u.name),.v (.int .i64 u.levels),.v (.int .i64 u.kids),.v (.int .i64 u.below)]
instance:Enc Use:=⟨5,useC,fun l=>l.map useC,rfl,fun a b=>List.map_append,fun _=>rfl⟩
instance:EncLen Use:=⟨fun _=>rfl,by decide⟩
structure Scp where
 vars:Int
 params:Int
 metas:Int
 levels:Int
def scpC (u:Scp):List C:=[.v (.int .i64 u.vars),.v (.int .i64 u.params),.v (.int .i64 u.metas),.v (.int .i64 u.levels)]
instance:Enc Scp:=⟨4,scpC,fun l=>l.map scpC,rfl,fun a b=>List.map_append,fun _=>rfl⟩
instance:EncLen Scp:=⟨fun _=>rfl,by decide⟩
end
section
variable {E:Env} {st:St} {d:Option Tmp} {ty:TypeId} {pos:String} {af:Array Edge} {g:Option (Nat×Bool)}
end
end Go.Proofs.Ytkimijmiphkddaa
namespace Go.Proofs
open Go.Shelf
def Try.keys83_ren:Go.Shelf.Ren:=⟨fun | 7=>83 | 10=>91 | n=>n,fun | 23=>103 | 26=>3 | 3=>3 | 28=>122 | 0=>0 | 27=>121 | 33=>89 | 4=>4 | n=>n,fun | n=>n⟩
theorem Try.keys83:Go.Proofs.SlLaysZI.n7 Try.prog Try.keys83_ren:={
 mixed:=by kernel_rfl
 f7:=⟨Try.f83.name,by decide,Try.func83.trans (congrArg some (by kernel_rfl))⟩
 f10:=⟨Try.f91.name,by decide,Try.func91.trans (congrArg some (by kernel_rfl))⟩
 t0:=Try.underlying0
 a0:=Try.isAgg0
 z0:=Try.sizeOf0
 v0:=Try.zeroValue0
 t4:=Try.underlying4
 a4:=Try.isAgg4
 z4:=Try.sizeOf4
 v4:=Try.zeroValue4
 t23:=Try.underlying103
 a23:=Try.isAgg103
 z23:=Try.sizeOf103
 v23:=Try.zeroValue103
 t26:=Try.underlying3
 a26:=Try.isAgg3
 z26:=Try.sizeOf3
 v26:=Try.zeroValue3
 t27:=Try.underlying121
 a27:=Try.isAgg121
 z27:=Try.sizeOf121
 v27:=Try.zeroValue121
 t28:=Try.underlying122
 a28:=Try.isAgg122
 z28:=Try.sizeOf122
 v28:=Try.zeroValue122
 t33:=Try.underlying89
 a33:=Try.isAgg89
 z33:=Try.sizeOf89
 v33:=Try.zeroValue89 }
def Try.sorted82_ren:Go.Shelf.Ren:=⟨fun | 6=>82 | 8=>89 | 9=>90 | 11=>92 | 13=>94 | 12=>93 | 23=>104 | 24=>105 | 14=>95 | 15=>96 | 16=>97 | 17=>98 | 18=>99 | 19=>100 | 20=>101 | 21=>102 | 22=>103 | 25=>106 | 26=>107 | 27=>108 | 28=>109 | 29=>110 | 30=>111 | 31=>112 | n=>n,fun | 26=>3 | 28=>122 | 24=>66 | 0=>0 | 3=>3 | 37=>132 | 48=>142 | 50=>144 | 4=>4 | 40=>135 | 39=>134 | 45=>119 | 5=>5 | 9=>9 | 51=>145 | 55=>149 | 57=>151 | 58=>28 | 33=>89 | n=>n,fun | n=>n⟩
theorem Try.sorted82:Go.Proofs.SlLaysZI.n6 Try.prog Try.sorted82_ren:={
 mixed:=by kernel_rfl
 f6:=⟨Try.f82.name,by decide,Try.func82.trans (congrArg some (by kernel_rfl))⟩
 f8:=⟨Try.f89.name,by decide,Try.func89.trans (congrArg some (by kernel_rfl))⟩
 f11:=⟨Try.f92.name,by decide,Try.func92.trans (congrArg some (by kernel_rfl))⟩
 t0:=Try.underlying0
 a0:=Try.isAgg0
 z0:=Try.sizeOf0
 v0:=Try.zeroValue0
 t24:=Try.underlying66
 a24:=Try.isAgg66
 z24:=Try.sizeOf66
 v24:=Try.zeroValue66
 t26:=Try.underlying3
 a26:=Try.isAgg3
 z26:=Try.sizeOf3
 v26:=Try.zeroValue3
 t28:=Try.underlying122
 a28:=Try.isAgg122
 z28:=Try.sizeOf122
 v28:=Try.zeroValue122
 i26:=by kernel_rfl }
def Try.sort90_ren:Go.Shelf.Ren:=⟨fun | 5=>90 | 8=>94 | 7=>93 | 19=>104 | 20=>105 | 10=>95 | 11=>96 | 12=>97 | 13=>98 | 14=>99 | 15=>100 | 16=>101 | 17=>102 | 18=>103 | 30=>106 | 31=>107 | 32=>108 | 33=>109 | 34=>110 | 35=>111 | 40=>112 | n=>n,fun | 23=>66 | 25=>3 | 3=>3 | 32=>132 | 22=>66 | 0=>0 | 44=>142 | 46=>144 | 4=>4 | 36=>135 | 35=>134 | 41=>119 | 5=>5 | 9=>9 | 53=>145 | 57=>149 | 63=>151 | 64=>28 | n=>n,fun | n=>n⟩
theorem Try.sort90:Go.Proofs.SlLaysM.n5 Try.prog Try.sort90_ren:={
 mixed:=by kernel_rfl
 f5:=⟨Try.f90.name,by decide,Try.func90.trans (congrArg some (by kernel_rfl))⟩
 f7:=⟨Try.f93.name,by decide,Try.func93.trans (congrArg some (by kernel_rfl))⟩
 f8:=Try.func94.trans (congrArg some (by kernel_rfl))
 f10:=⟨Try.f95.name,by decide,Try.func95.trans (congrArg some (by kernel_rfl))⟩
 f11:=⟨Try.f96.name,by decide,Try.func96.trans (congrArg some (by kernel_rfl))⟩
 f12:=⟨Try.f97.name,by decide,Try.func97.trans (congrArg some (by kernel_rfl))⟩
 f13:=⟨Try.f98.name,by decide,Try.func98.trans (congrArg some (by kernel_rfl))⟩
 f14:=⟨Try.f99.name,by decide,Try.func99.trans (congrArg some (by kernel_rfl))⟩
 f15:=⟨Try.f100.name,by decide,Try.func100.trans (congrArg some (by kernel_rfl))⟩
 f16:=⟨Try.f101.name,by decide,Try.func101.trans (congrArg some (by kernel_rfl))⟩
 f17:=⟨Try.f102.name,by decide,Try.func102.trans (congrArg some (by kernel_rfl))⟩
 f18:=⟨Try.f103.name,by decide,Try.func103.trans (congrArg some (by kernel_rfl))⟩
 f19:=Try.func104.trans (congrArg some (by kernel_rfl))
 f20:=Try.func105.trans (congrArg some (by kernel_rfl))
 f30:=⟨Try.f106.name,by decide,Try.func106.trans (congrArg some (by kernel_rfl))⟩
 f31:=Try.func107.trans (congrArg some (by kernel_rfl))
 f32:=Try.func108.trans (congrArg some (by kernel_rfl))
 f33:=⟨Try.f109.name,by decide,Try.func109.trans (congrArg some (by kernel_rfl))⟩
 f34:=⟨Try.f110.name,by decide,Try.func110.trans (congrArg some (by kernel_rfl))⟩
 f35:=⟨Try.f111.name,by decide,Try.func111.trans (congrArg some (by kernel_rfl))⟩
 f40:=⟨Try.f112.name,by decide,Try.func112.trans (congrArg some (by kernel_rfl))⟩
 t0:=Try.underlying0
 a0:=Try.isAgg0
 z0:=Try.sizeOf0
 v0:=Try.zeroValue0
 t3:=Try.underlying3
 a3:=Try.isAgg3
 z3:=Try.sizeOf3
 v3:=Try.zeroValue3
 t4:=Try.underlying4
 a4:=Try.isAgg4
 z4:=Try.sizeOf4
 v4:=Try.zeroValue4
 t5:=Try.underlying5
 a5:=Try.isAgg5
 z5:=Try.sizeOf5
 v5:=Try.zeroValue5
 t9:=Try.underlying9
 a9:=Try.isAgg9
 z9:=Try.sizeOf9
 v9:=Try.zeroValue9
 t22:=Try.underlying66
 a22:=Try.isAgg66
 z22:=Try.sizeOf66
 v22:=Try.zeroValue66
 t23:=Try.underlying66
 a23:=Try.isAgg66
 z23:=Try.sizeOf66
 v23:=Try.zeroValue66
 t25:=Try.underlying3
 a25:=Try.isAgg3
 z25:=Try.sizeOf3
 v25:=Try.zeroValue3
 t32:=Try.underlying132
 a32:=Try.isAgg132
 z32:=Try.sizeOf132
 v32:=Try.zeroValue132
 t35:=Try.underlying134
 a35:=Try.isAgg134
 z35:=Try.sizeOf134
 v35:=Try.zeroValue134
 t36:=Try.underlying135
 a36:=Try.isAgg135
 z36:=Try.sizeOf135
 v36:=Try.zeroValue135
 t41:=Try.underlying119
 a41:=Try.isAgg119
 z41:=Try.sizeOf119
 v41:=Try.zeroValue119
 t44:=Try.underlying142
 a44:=Try.isAgg142
 z44:=Try.sizeOf142
 v44:=Try.zeroValue142
 t46:=Try.underlying144
 a46:=Try.isAgg144
 z46:=Try.sizeOf144
 v46:=Try.zeroValue144
 t53:=Try.underlying145
 a53:=Try.isAgg145
 z53:=Try.sizeOf145
 v53:=Try.zeroValue145
 t57:=Try.underlying149
 a57:=Try.isAgg149
 z57:=Try.sizeOf149
 v57:=Try.zeroValue149
 t63:=Try.underlying151
 a63:=Try.isAgg151
 z63:=Try.sizeOf151
 v63:=Try.zeroValue151
 t64:=Try.underlying28
 a64:=Try.isAgg28
 z64:=Try.sizeOf28
 v64:=Try.zeroValue28 }
theorem Try.sorts82 (m:Nat):AnyZI.SortsIn Try.prog Try.sorted82_ren Fence.wide m :=
  ⟨fun blk off cap ss W hH hblk hsz=>callsIn_wide.2 (AnyM.slices_Sort_int Try.sort90 blk off cap ss W hH hblk hsz),
   fun p cap W=>callsIn_wide.2 (AnyM.slices_Sort_int_none Try.sort90 p cap W)⟩
end Go.Proofs
namespace Go.Proofs.Ytkimijmiphkddaa
open Go.RowKit Go.Maps Go.Shelf
def EntsOf (ents:Array MapEntry) (l:List (Int×Int×Nat)):Prop:=ents.toList=l.map fun e=>⟨.int .i64 e.1,.int .i64 e.2.1,e.2.2⟩
abbrev R0:Value→Option (DataW Unit×List MemPlace):=fun _=>some (.lit (.bool false),[])
theorem owns_im {P:Program} {w:World} {b:Nat} {M:IMap} {ents:Array MapEntry} (hk:P.underlying 3=some (.int .i64)) (hM:imOk M=true) (hb:w.heap[b]?=some (.map ents M.2)) (he:EntsOf ents M.1) :
  ∃ D,w.ownsMap P 3 R0 b M.1.length D∧(intKeys D).Perm (M.1.map fun e=>e.1)∧Maps.size D=M.1.length:=by
 unfold imOk at hM
 have h1:=cond_left hM;rw [h1] at hM;simp only [cond_true] at hM
 have h2:=cond_left hM;rw [h2] at hM;simp only [cond_true] at hM
 have h3:=cond_left hM;rw [h3] at hM;simp only [cond_true] at hM
 have hlen:M.1.length≤1000000:=Nat.le_of_ble_eq_true h1
 have hall:∀ e∈M.1,e.2.2 < M.2∧-9223372036854775808≤e.1∧e.1≤9223372036854775807:=fun e he=>by
  have:=List.all_eq_true.1 h2 e he
  have a1:=cond_left this;rw [a1] at this;simp only [cond_true] at this
  have a2:=cond_left this;rw [a2] at this;simp only [cond_true] at this
  exact ⟨Nat.le_of_ble_eq_true a1,of_decide_eq_true a2,of_decide_eq_true this⟩
 have hkey:∀ e∈M.1,Go.keyOf P 3 (.int .i64 e.1)=some (.int .i64 e.1):=fun e he=>by
  obtain ⟨-,h4,h5⟩:=hall e he
  exact keyOf_int_mk hk (by show (decide (_≤_)&&decide (_≤_))=true;rw [Bool.and_eq_true];exact ⟨decide_eq_true h4,decide_eq_true h5⟩)
 have hsz:ents.size=M.1.length:=by rw [← Array.length_toList,he,List.length_map]
 have hrd:∀ e∈M.1,Go.WideElems.rd P 3 R0 ⟨.int .i64 e.1,.int .i64 e.2.1,e.2.2⟩=some (.int .i64 e.1,.lit (.bool false)):=fun e he=>by
  simp [Go.WideElems.rd,hkey e he,R0]
 refine ⟨_,⟨ents,M.2,hb,⟨?_,⟨?_,?_,?_⟩,?_⟩,Nat.le_of_eq hsz,Z⟩,?_,?_⟩
 ·rw [hsz];unfold maxLen;omega
 ·intro x hx;rw [he] at hx;obtain ⟨e,h4,rfl⟩:=List.mem_map.1 hx;exact (hall e h4).1
 ·rw [he,List.map_map];exact nodupB_ok h3
 ·rw [he,List.map_map]
  have:=nodupB_ok hM
  rw [show (fun x:MapEntry=>x.key) ∘ (fun e:Int×Int×Nat=>(⟨.int .i64 e.1,.int .i64 e.2.1,e.2.2⟩:MapEntry))=(Value.int .i64) ∘ fun e=>e.1 from rfl,← List.map_map]
  exact List.pairwise_map.2 (this.imp fun hne h=>hne (by cases h;rfl))
 ·intro x hx;rw [he] at hx;obtain ⟨e,h4,rfl⟩:=List.mem_map.1 hx;exact ⟨_,hrd e h4⟩
 ·show (List.map _ _).Perm _
  refine ((WideShapes.sorted_perm _).map _).trans ?_
  rw [he,List.map_map,List.map_map]
  refine .of_eq (List.map_congr_left fun e h4=>?_)
  simp [Go.WideElems.rg,hrd e h4];rfl
 ·simp [Maps.size,length_sorted,hsz]
theorem imOk_len {M:IMap} (hM:imOk M=true):M.1.length≤1000000:=Nat.le_of_ble_eq_true (cond_left hM)
theorem sortedKeys_run {w:World} {Bm b:Nat} {M:IMap} {ents:Array MapEntry} (hM:imOk M=true) (hBm:w.cell? ⟨Bm,0,none⟩=some (.map (some b))) (hlt:Bm < w.heap.size) (hb:w.heap[b]?=some (.map ents M.2)) (he:EntsOf ents M.1) :
  CallsIn Fence.wide 5 Try.prog 82 #[.func (.func 91) #[] #[.pointer (some ⟨Bm,0,none⟩)]] w fun e w'=>∃ v,e=.returned v∧w'.ownsRow w.heap.size 3 1 v (imKeys M).length ((imKeys M).map (Value.int .i64))∧Below w.heap.size w w':=by
 obtain ⟨D,hown,hperm,hsize⟩:=owns_im (P:=Try.prog) (by kernel_rfl) hM hb he
 have hlen:=imOk_len hM
 have hseq:SeqGives Fence.wide 2 Try.prog 91 #[.pointer (some ⟨Bm,0,none⟩)] encZ (fun ss=>ss.Perm (intKeys D)) (Maps.size D) w :=
  AnyZI.keys_gives (ρ:=Try.keys83_ren) { Try.keys83 with } Fence.wide _ trivial rfl (by omega) Bm b _ D w hlt hBm hown
 have hrun:=AnyZI.sorted_in Try.sorted82 Fence.wide 5 trivial trivial trivial trivial rfl (by omega) (Try.sorts82 _) (enters_of Try.func90 (by kernel_rfl) rfl) 91 #[.pointer (some ⟨Bm,0,none⟩)] trivial (enters_of Try.func91 (by kernel_rfl) rfl) _ _ (by rw [hsize];unfold maxLen;omega) (by rw [hsize];omega) _ hseq
 refine CallsIn.mono (show CallsIn _ _ Try.prog 82 _ _ _ from hrun) ?_
 rintro e w' ⟨v,ss,rfl,hS,hrow,-,hbel⟩
 have hp:=hS.trans hperm
 rw [mergeSort_sortZ hp] at hrow
 have hl:ss.length=(imKeys M).length:=hp.length_eq.trans (sortZ_perm _).length_eq.symm
 rw [hl] at hrow
 exact ⟨v,Z,hrow,hbel⟩
theorem reads_row {w:World} {S:Nat→Nat→Prop} {base:Nat} {v:Value} {l:List Int} (h:w.ownsRow base 3 1 v l.length (l.map (Value.int .i64))) (hS:∀ b o,base≤b→b < w.heap.size→S b o):Reads S w (.sl 1 (Enc.encL l)) v:=by
 rcases h.2 with ⟨rfl,h0⟩ | ⟨g,cap,cur,rfl,hg,hcur,hn,-,hsz,htk⟩
 ·have:l=[]:=List.eq_nil_of_length_eq_zero h0
  subst this
  exact .sl 1 [] none 0 0 0 (fun _ _=>undef) (Nat.le_refl _) (fun h=>absurd rfl h) (fun i e h=>by simp at h) (fun i e j c h=>by simp at h) (fun i e j c h=>by simp at h) (fun i e j c h=>by simp at h)
 ·have hlt:g < w.heap.size:=heap_lt hcur
  have hget:∀ (i:Nat) (e:List C),(Enc.encL l)[i]?=some e→∃ x,l[i]?=some x∧e=[.v (.int .i64 x)]:=fun i e hi=>by
   rw [Enc.map,List.getElem?_map] at hi
   cases hx:l[i]? with
   | none=>rw [hx] at hi;cases hi
   | some x=>rw [hx] at hi;cases hi;exact ⟨x,rfl,rfl⟩
  have hcell:∀ (i:Nat) (x:Int),l[i]?=some x→w.cell? ⟨g,i,none⟩=some (.int .i64 x):=fun i x hx=>by
   have hi:i < l.length:=(List.getElem?_eq_some_iff.1 hx).1
   have h1:(cur.toList.take (l.length * 1))[i]?=some (.int .i64 x):=by rw [htk,List.getElem?_map,hx];rfl
   rw [List.getElem?_take] at h1
   rw [if_pos (by omega)] at h1
   simp only [World.cell?,hcur,Option.isSome_none,Bool.false_eq_true,if_false]
   rw [← Array.getElem?_toList];exact h1
  have:=Reads.sl (S:=S) (w:=w) 1 (Enc.encL l) (some ⟨g,0,none⟩) cap g 0 (fun i j=>.int .i64 (l.getD i 0)) (by rw [Enc.len];exact hn) (fun _=>rfl)
   (fun i e hi=>by obtain ⟨x,-,rfl⟩:=hget i e hi;rfl)
   (fun i e j c hi hj=>by
    obtain ⟨x,hx,rfl⟩:=hget i e hi
    cases j with
    | zero=>rw [List.getD_eq_getElem?_getD,hx];simpa using hcell i x hx
    | succ j=>simp at hj)
   (fun i e j c hi hj=>hS _ _ hg hlt)
   (fun i e j c hi hj=>by
    obtain ⟨x,hx,rfl⟩:=hget i e hi
    cases j with
    | zero=>simp at hj;subst hj;rw [List.getD_eq_getElem?_getD,hx];exact Reads.v _ rfl
    | succ j=>simp at hj)
  rw [Enc.len] at this;exact this
theorem sortedKeys_call {m:Mem} {b i:Nat} {T:TypeId} {M:IMap} (hb:lk m.hp b=some (.cells T [.mp i])) (hi:lk m.hp i=some (.mp (imE M.1) M.2)) (hM:imOk M=true) :
  CallM Try.prog 82 [.one (.fn 91 [(b,0)])] m (.v (.one (.d (.sl 1 (Enc.encL (imKeys M)))))) m:=by
 refine ⟨enters_of Try.func82 (by kernel_rfl) rfl,fun E V w vs hP H hn hargs=>?_⟩
 obtain ⟨hbl,o,ho,us,rfl,hus⟩:=H.own b _ hb
 obtain ⟨u,hu,-,rfl⟩:=hus.2 0 _ rfl
 obtain ⟨-,o2,ho2,ents,rfl,hsz,hents⟩:=H.own i _ hi
 obtain ⟨a,ha,-,rfl⟩:=hargs.2 0 _ rfl
 have hvs:vs=#[.func (.func 91) #[] #[.pointer (some ⟨V.ι b,0,none⟩)]]:=by
  have h1:vs.size=1:=hargs.1
  apply Array.ext_getElem?
  intro k
  cases k with
  | zero=>rw [ha];rfl
  | succ k=>simp [h1]
 rw [hvs]
 have hE:EntsOf ents M.1:=by
  have hlen:(imE M.1).length=M.1.length:=by simp [imE]
  apply List.ext_getElem?
  intro k
  rw [List.getElem?_map]
  cases hk:M.1[k]? with
  | none =>
   have:M.1.length≤k:=List.getElem?_eq_none_iff.1 hk
   rw [Option.map_none,List.getElem?_eq_none_iff,Array.length_toList];omega
  | some e =>
   obtain ⟨v,h1,h2⟩:=hents k (.int .i64 e.1) (.one (.d (.v (.int .i64 e.2.1)))) e.2.2 (by simp [imE,hk])
   have hv:v=.int .i64 e.2.1:=by cases h2;rfl
   rw [hv] at h1
   rw [Array.getElem?_toList,h1];rfl
 refine Calls.mono ((callsIn_wide (n:=5)).1 (sortedKeys_run (Bm:=V.ι b) (b:=V.ι i) hM ?_ (heap_lt ho) ho2 hE)) ?_
 ·simp only [World.cell?,ho,Option.isSome_none,Bool.false_eq_true,if_false];exact hu
 ·rintro e w' ⟨v,rfl,hrow,hbel⟩
  have hx:ExtF w w':=⟨hbel.os,hbel.tape,hbel.output,hbel.size,fun k hk _=>hbel.block k hk⟩
  have hg:V.Grow { V with S:=fun b o=>V.S b o∨(w.heap.size≤b∧b < w'.heap.size)} w w':=⟨Nat.le_refl _,fun _ _=>rfl,fun _ _=>rfl,fun _ _ _ _=>rfl,fun b o h=>.inl h,fun b o h=>h.elim .inl fun h=>.inr h.1,
   fun b o h=>h.elim (fun h=>Nat.lt_of_lt_of_le (H.sz b o h) hbel.size) fun h=>h.2⟩
  exact ⟨v,_,Z,H.later hx hg,hn,H.le hx hg,reads_row hrow (fun b o h1 h2=>.inr ⟨h1,h2⟩)⟩
theorem OpOK.sortedKeys {E:Env} {st:St} {dd:Option Tmp} {ty:TypeId} {pos:String} {af:Array Edge} {g:Option (Nat×Bool)} {xs:Array Operand} {ats:Array TypeId} {b i:Nat} {T:TypeId} {M:IMap} (hP:E.P=Try.prog) (ha:evArgs st.tm xs.toList=some [.one (.fn 91 [(b,0)])])
  (hb:lk st.hp b=some (.cells T [.mp i])) (hi:lk st.hp i=some (.mp (imE M.1) M.2)) (hM:imOk M=true) :
  OpOK E ⟨dd,.call { callee:=.value (.func 82),args:=xs,argTypes:=ats },ty,pos,af,g⟩ st (.v (.one (.d (.sl 1 (Enc.encL (imKeys M)))))) ⟨st.hp,st.tk,st.nx⟩ :=
 OpOK.call (E:=E) (st:=st) (dd:=dd) (ty:=ty) (pos:=pos) (af:=af) (g:=g) (x:=.func 82) (caps:=[]) rfl ha (by rw [hP];exact sortedKeys_call hb hi hM)
end Go.Proofs.Ytkimijmiphkddaa
namespace Go.Proofs.Ytkimijmiphkddaa
open Go.RowKit Go.Shelf
theorem sl_22c:tySlice Try.prog 22=some (41,4):=by kernel_rfl
theorem z_41c:tyZero Try.prog 41=some [.int .i64 0,.slice none 0 0,.int .i64 0,.slice none 0 0]:=by kernel_rfl
theorem el_41c:tyElem Try.prog 41=some (4,64):=by kernel_rfl
theorem en_34:Enters Try.prog 34:=enters_of Try.func34 (by kernel_rfl) rfl
theorem clone_call (l:List Bnd) (hl:Nat.ble (([]:List Bnd).length+l.length) 1000000000=true) (m:Mem):CallM Try.prog 34 [.one (.d (.sl 4 (Enc.encL l)))] m (resOf [.one (.app m.nx 4 (Enc.encL l))]) ⟨m.hp,(m.nx,some ⟨41,4,(Enc.encL l).length,[]⟩)::m.tk,m.nx+1⟩:=by
 refine CallM.of_body ⟨[(2,.v (.one (.app m.nx 4 (Enc.encL l))))],m.hp,(m.nx,some ⟨41,4,(Enc.encL l).length,[]⟩)::m.tk,m.nx+1,8,[]⟩ Try.func34 Z en_34 (lb Z) Z (.tmp Z .nil) (fun w0 M V0 Q hv hQn hQr=>?_)
 simp only [entry]
 refine XC.seq<|XC.region<|rA Z Z Z<|XL.nil<|XQ.seq<|XC.seq<|XC.seq<|XC.region<|rM Z Z Z ?_
 refine XL.eqNil (α:=Bnd) (l:=l) Z (lb Z) sl_22c Z (.d _) (fun b hb=>?_)
 refine XL.nil<|XQ.seq ?_
 refine XC.cond (b:=b) Z (fun c=>?_) (fun c=>?_)
 · have e:=hb c
   subst e
   refine XC.seq<|XC.region<|rA Z Z Z<|XL.nil<|XQ.seq<|XC.adoptT (t:=2) 41 4 Z<|XC.ret<|XQ.lessTm (tm':=[(2,.v (.one (.app m.nx 4 (Enc.encL ([]:List Bnd)))))]) (tA Z) ?_
   exact hQr
 · refine XC.skip ?_
   refine XQ.seq<|XC.seq<|XC.region<|XL.put Z Z (lb Z) (OpOK.lit0E (α:=Bnd) sl_22c z_41c Z Z (lb Z))<|rM Z Z Z ?_
   refine XL.put rfl rfl (lb rfl) (OpOK.appendE (α:=Bnd) (l:=[]) (l2:=l) sl_22c el_41c rfl rfl (by simp [lk]) rfl rfl (.d _) hl) ?_
   refine rA Z Z Z<|XL.nil<|XQ.seq<|XC.ret<|XQ.lessTm (tm':=[(2,.v (.one (.app m.nx 4 (Enc.encL l))))]) (tA Z) ?_
   refine XQ.congrTk (tk':=(m.nx,some ⟨41,4,(Enc.encL l).length,[]⟩)::m.tk) (fun j=>?_) ?_
   · dsimp only
     rw [lk_put,lk_cons,lk_cons,lk_cons]
     split
     · rfl
     · rfl
   · exact hQr
theorem OpOK.clone {E:Env} {st:St} {dd:Option Tmp} {ty:TypeId} {pos:String} {af:Array Edge} {g:Option (Nat×Bool)} {xs:Array Operand} {ats:Array TypeId} {l:List Bnd} (hP:E.P=Try.prog) (ha:evArgs st.tm xs.toList=some [.one (.d (.sl 4 (Enc.encL l)))]) (hl:Nat.ble (([]:List Bnd).length+l.length) 1000000000=true) :
   OpOK E ⟨dd,.call { callee:=.value (.func 34),args:=xs,argTypes:=ats },ty,pos,af,g⟩ st (.v (.one (.app st.nx 4 (Enc.encL l)))) ⟨st.hp,(st.nx,some ⟨41,4,(Enc.encL l).length,[]⟩)::st.tk,st.nx+1⟩ :=
 OpOK.call (E:=E) (st:=st) (dd:=dd) (ty:=ty) (pos:=pos) (af:=af) (g:=g) (x:=.func 34) (caps:=[]) rfl ha (by rw [hP];exact clone_call l hl st.mem)
end Go.Proofs.Ytkimijmiphkddaa
namespace Go.Proofs.Ytkimijmiphkddaa
open Go.RowKit Go.Shelf
theorem fo_39_0:fieldOff Try.prog 39 0=some 0:=by kernel_rfl
theorem fo_39_1:fieldOff Try.prog 39 1=some 1:=by kernel_rfl
theorem fo_59_0:fieldOff Try.prog 59 0=some 0:=by kernel_rfl
theorem fo_59_1:fieldOff Try.prog 59 1=some 1:=by kernel_rfl
theorem ag_3:tyAgg Try.prog 3=some (false,1):=by kernel_rfl
theorem ag_37:tyAgg Try.prog 37=some (false,1):=by kernel_rfl
theorem ag_39:tyAgg Try.prog 39=some (true,2):=by kernel_rfl
theorem ag_59:tyAgg Try.prog 59=some (true,2):=by kernel_rfl
theorem ag_66:tyAgg Try.prog 66=some (false,1):=by kernel_rfl
theorem sl_31:tySlice Try.prog 31=some (39,2):=by kernel_rfl
theorem sl_37:tySlice Try.prog 37=some (59,2):=by kernel_rfl
theorem sl_66:tySlice Try.prog 66=some (3,1):=by kernel_rfl
theorem z_3:tyZero Try.prog 3=some [.int .i64 0]:=by kernel_rfl
theorem z_59:tyZero Try.prog 59=some [.int .i64 0,.int .i64 0]:=by kernel_rfl
theorem z_66:tyZero Try.prog 66=some [.slice none 0 0]:=by kernel_rfl
theorem el_3:tyElem Try.prog 3=some (1,8):=by kernel_rfl
theorem en_28:Enters Try.prog 28:=enters_of Try.func28 (by kernel_rfl) rfl
theorem en_38:Enters Try.prog 38:=enters_of Try.func38 (by kernel_rfl) rfl
theorem en_51:Enters Try.prog 51:=enters_of Try.func51 (by kernel_rfl) rfl
theorem en_60:Enters Try.prog 60:=enters_of Try.func60 (by kernel_rfl) rfl
theorem en_65:Enters Try.prog 65:=enters_of Try.func65 (by kernel_rfl) rfl
theorem en_70:Enters Try.prog 70:=enters_of Try.func70 (by kernel_rfl) rfl
theorem en_74:Enters Try.prog 74:=enters_of Try.func74 (by kernel_rfl) rfl
theorem en_79:Enters Try.prog 79:=enters_of Try.func79 (by kernel_rfl) rfl
theorem en_80:Enters Try.prog 80:=enters_of Try.func80 (by kernel_rfl) rfl
theorem en_81:Enters Try.prog 81:=enters_of Try.func81 (by kernel_rfl) rfl
theorem en_84:Enters Try.prog 84:=enters_of Try.func84 (by kernel_rfl) rfl
theorem en_88:Enters Try.prog 88:=enters_of Try.func88 (by kernel_rfl) rfl
theorem mixed:Try.prog.follows .mixedOrders=true:=by kernel_rfl
noncomputable def m38_c0:Code:=(cA (cA (cB (cA (cB (cA (cB (cB (bodyC Try.f38)))))))))
noncomputable def m38_c1:Code:=(cB (cA (cB (cA (cB (cA (cB (cB (bodyC Try.f38)))))))))
def m74f2 (a0:LV) (a1:Lvl):Option Unit :=
 some ()
theorem m74f2_ok (a0:LV) (a1:Lvl) (r:Unit) (h0:m74f2 a0 a1=some r):CallM Try.prog 74 [.agg (cE a0),.one (.ptr 0 0)] ⟨[(0,.cells 39 (cE a1))],[],1⟩ (resOf [.one (dB (decide (a1.c≤a0.2)))]) ⟨[(0,.cells 39 (cE a1))],[],2⟩:=by
 unfold m74f2 at h0
 refine CallM.of_bodyD ⟨[(3,.v (.one (dB (decide (a1.c≤a0.2)))))],[(0,.cells 39 (cE a1))],[],2,9,[]⟩ Z Z en_74 (lb Z) Z (RAs.tmp Z .nil) (fun w0 M V0 Q hv0 hQ0=>?_)
 simp only [entry]
 refine XC.seq<|XC.region<|XL.put Z Z (lb Z) (OpOK.box Z)<|rA Z Z Z<|XL.nil<|XQ.seq<|XC.seq<|XC.region<|rR Z Z Z (RO.fieldOwn fo_59_1 Z)<|rR Z Z Z (RO.loadOwn ag_3 Z Z Z)<|rR Z Z Z (RO.fieldOwn fo_39_0 Z)<|rR Z Z Z (RO.loadOwn ag_3 Z Z Z)<|rR Z Z Z (RO.binInt Z Z Z)<|rA Z Z Z ?_
 refine XL.nil<|XQ.seq<|XC.ret ?_
 have e:=sI h0;subst e
 exact hQ0 _ _ _ (.inr Z) Z (sL (Nat.le_trans hv0 (lb Z)) Z Z Z Z Z)
def m84f1_l0 (a0:List LV) (a1:Lvl) (s1:Int):Option (LO Int (Unit⊕Int)) :=
 cond (decide (s1 < (a0.length:Int)))
   (Option.bind (idx a0 s1) fun (x3:LV) =>
 Option.bind (m74f2 x3 a1) fun (x4:Unit) =>
 cond (decide (a1.c≤x3.2))
   (some (.done (.inr s1)))
   (some (.next (w64 (s1+1)))))
   (some (.done (.inl ())))
def m84f1 (a0:List LV) (a1:Lvl):Option Int :=
 Option.bind (loopN (m84f1_l0 a0 a1) FUEL 0) (Sum.elim (fun (o1:Unit)=>some (-1)) (fun o=>some o))
theorem m84f1_ok (a0:List LV) (a1:Lvl) (r:Int) (h0:m84f1 a0 a1=some r):CallM Try.prog 84 [.one (dS a0),.one (.fn 74 [(0,0)])] ⟨[(0,.cells 39 (cE a1))],[],1⟩ (resOf [.one (dI r)]) ⟨[(0,.cells 39 (cE a1))],[],1⟩:=by
 unfold m84f1 at h0
 refine CallM.of_bodyD ⟨[(4,.v (.one (dI r)))],[(0,.cells 39 (cE a1))],[],1,19,[]⟩ Z Z en_84 (lb Z) Z (RAs.tmp Z .nil) (fun w0 M V0 Q hv0 hQ0=>?_)
 simp only [entry]
 refine XC.seq<|XC.region<|rA Z Z Z<|XL.nil<|XQ.seq<|XC.seq<|XC.seq<|XC.region<|rM Z Z Z<|rR Z Z Z (RO.lenE (α:=LV) sl_37 Z (.d _))<|rM Z Z Z<|XL.nil<|XQ.seq<|XC.block ?_
 refine XC.joinX 0 (fun (o1:Unit)=>⟨[],[(0,.cells 39 (cE a1))],[],1,19,[]⟩) (fun (o1:Unit)=>(some (-1))=some r) ?_ ?_
 refine bindK h0 (fun o2 hl1 h0=>?_)
 refine XC.loopM (m84f1_l0 a0 a1) (fun s1=>⟨[(0,.v (.one (dS a0))),(1,.v (.one (.fn 74 [(0,0)]))),(7,.v (.one (dI (a0.length:Int)))),(8,.v (.one (dI s1)))],[(0,.cells 39 (cE a1))],[],1,19,[]⟩) 0 o2 (sL (Nat.le_trans hv0 (lb Z)) Z Z Z Z Z) hl1 (fun s1 n1 oo1 h1 ho1=>?_)
 unfold m84f1_l0 at h1
 refine XC.seq<|XC.region<|rR Z Z Z (RO.binInt Z Z Z)<|XL.nil<|XQ.seq<|XC.seq ?_
 refine XC.cond (b:=(decide (s1 < (a0.length:Int)))) Z (fun c3=>?_) (fun c3=>?_)
 replace h1:=condT c3 h1
 refine XC.skip<|XQ.seq<|XC.seq<|XC.block<|XC.seq<|XC.region<|rM Z Z Z<|rA Z Z Z<|XL.nil<|XQ.seq<|XC.seq<|XC.region<|rM Z Z Z<|rM Z Z Z ?_
 refine rM Z Z Z ?_
 refine bindK h1 (fun x4 hx4 h1=>?_)
 refine rR Z Z Z (RO.indexE (α:=LV) sl_37 Z (.d _) Z hx4)<|rR Z Z Z (RO.loadPelCE (x4:LV) ag_59 Z) ?_
 refine bindK h1 (fun x5 hx5 h1=>?_)
 refine XL.put Z Z (lb Z) (OpOK.callG (hp1':=[(0,.cells 39 (cE a1))]) (tk1':=[]) (hpF:=[]) (tkF:=[]) (res2:=resOf [.one (dB (decide (a1.c≤x4.2)))]) (nx2:=2) [0] Z Z (m74f2_ok x4 a1 x5 hx5) Z Z (qB Z Z qZ) Z Z (gR Z gZ) jZ hZ kZ Z Z Z Z Z (bA Z) Z Z Z Z)<|XL.nil<|XQ.seq ?_
 refine XC.cond (b:=(decide (a1.c≤x4.2))) Z (fun c6=>?_) (fun c6=>?_)
 replace h1:=condT c6 h1
 refine XC.seq<|XC.region<|rM Z Z Z<|rA Z Z Z<|XL.nil<|XQ.seq<|XC.ret ?_
 have e:=sI h1;subst e
 have e_:_=_:=ho1
 subst e_
 try dsimp only [Sum.elim_inl,Sum.elim_inr] at h0
 have e:=sI h0;subst e
 exact hQ0 _ _ _ (.inr Z) Z (sL (Nat.le_trans hv0 (lb Z)) Z Z Z Z Z)
 replace h1:=condF c6 h1
 refine XC.skip<|XQ.inBlock<|XQ.seq<|XC.region<|rR Z Z Z (RO.binInt Z Z Z)<|rM Z Z Z<|XL.nil ?_
 have e:=sI h1;subst e
 refine XQ.nextM (w64 (s1+1)) (sL (Nat.le_trans hv0 (lb Z)) Z Z Z Z Z) ho1
 replace h1:=condF c3 h1
 refine XC.exit<|XQ.thenE<|XQ.thenE ?_
 have e:=sI h1;subst e
 have e_:_=_:=ho1
 subst e_
 exact XQ.joinX () (sL (Nat.le_trans hv0 (lb Z)) Z Z Z Z Z) h0
 intro o1 h0
 refine XQ.blockX<|XQ.seq<|XC.seq<|XC.region<|rA Z Z Z<|XL.nil<|XQ.seq<|XC.ret ?_
 have e:=sI h0;subst e
 exact hQ0 _ _ _ (.inr Z) Z (sL (Nat.le_trans hv0 (lb Z)) Z Z Z Z Z)
def m70f0 (a0:List LV) (a1:Lvl):Option Bool :=
 Option.bind (m84f1 a0 a1) fun (x1:Int) =>
 some (decide (0≤x1))
theorem m70f0_ok (a0:List LV) (a1:Lvl) (r:Bool) (h0:m70f0 a0 a1=some r):CallM Try.prog 70 [.one (dS a0),.one (.fn 74 [(0,0)])] ⟨[(0,.cells 39 (cE a1))],[],1⟩ (resOf [.one (dB r)]) ⟨[(0,.cells 39 (cE a1))],[],1⟩:=by
 unfold m70f0 at h0
 refine CallM.of_bodyD ⟨[(4,.v (.one (dB r)))],[(0,.cells 39 (cE a1))],[],1,9,[]⟩ Z Z en_70 (lb Z) Z (RAs.tmp Z .nil) (fun w0 M V0 Q hv0 hQ0=>?_)
 simp only [entry]
 refine XC.seq<|XC.region<|rA Z Z Z<|XL.nil<|XQ.seq<|XC.seq<|XC.region<|rM Z Z Z<|rM Z Z Z ?_
 refine bindK h0 (fun x1 hx1 h0=>?_)
 refine XL.put Z Z (lb Z) (OpOK.callG (hp1':=[(0,.cells 39 (cE a1))]) (tk1':=[]) (hpF:=[]) (tkF:=[]) (res2:=resOf [.one (dI x1)]) (nx2:=1) [0] Z Z (m84f1_ok a0 a1 x1 hx1) Z Z (qB Z Z qZ) Z Z (gR Z gZ) jZ hZ kZ Z Z Z Z Z (bA Z) Z Z Z Z)<|rR Z Z Z (RO.binInt Z Z Z)<|rA Z Z Z<|XL.nil<|XQ.seq<|XC.ret ?_
 have e:=sI h0;subst e
 exact hQ0 _ _ _ (.inr Z) Z (sL (Nat.le_trans hv0 (lb Z)) Z Z Z Z Z)
def m28_l0 (a0:Lvl) (s1:Int):Option (LO Int (Unit⊕Bool)) :=
 cond (decide (s1 < (a0.vs.length:Int)))
   (Option.bind (idx a0.vs s1) fun (x5:LV) =>
 Option.bind (cond (decide (x5.1 < (-65536)))
   (some true)
   (cond (decide (7 < x5.1))
   (some true)
   (cond (decide (x5.2 < 0))
   (some true)
   (cond (decide (100 < x5.2))
   (some true)
   (cond (decide (0 < s1))
   (Option.bind (idx a0.vs (w64 (s1 - 1))) fun (x12:LV) =>
 some (decide (x5.1≤x12.1)))
   (some false)))))) (fun (v6:Bool)=>cond v6
   (some (.done (.inr false)))
   (some (.next (w64 (s1+1))))))
   (some (.done (.inl ())))
def m28 (a0:Lvl):Option Bool :=
 Option.bind (cond (decide (a0.c < 0))
   (some true)
   (cond (decide (100 < a0.c))
   (some true)
   (cond (decide (0 < a0.c))
   (Option.bind (Option.bind (m70f0 a0.vs a0) fun (x7:Bool) =>
 some x7) (fun (y5:Bool)=>some y5))
   (some false)))) (fun (v1:Bool)=>cond v1
   (some false)
   (Option.bind (loopN (m28_l0 a0) FUEL 0) (Sum.elim (fun (o3:Unit)=>some true) (fun o=>some o))))
theorem m28_ok (a0:Lvl) (r:Bool) (h0:m28 a0=some r):Fun Try.prog 28 [.agg (cE a0)] (resOf [.one (dB r)]):=by
 unfold m28 at h0
 refine Fun.of_bodyM 9 65 Try.func28 Z en_28 Z (lb Z) (fun S w=>?_)
 simp only [entry]
 refine XC.seq<|XC.region<|XL.put Z Z (lb Z) (OpOK.box Z)<|rA Z Z Z<|XL.nil<|XQ.seq<|XC.seq<|XC.seq ?_
 refine XC.joinR (fun (v1:Bool)=>⟨[(1,.v (.one (.ptr 0 0))),(21,.v (.one (dB v1)))],[(0,.cells 39 (cE a0))],[],1,65,[]⟩) (fun (v1:Bool)=>(cond v1
     (some false)
     (Option.bind (loopN (m28_l0 a0) FUEL 0) (Sum.elim (fun (o3:Unit)=>some true) (fun o=>some o))))=some r) ?_ ?_
 refine bindK h0 (fun w1_ h1 h0=>?_)
 refine XC.region<|rR Z Z Z (RO.fieldOwn fo_39_0 Z)<|rR Z Z Z (RO.loadOwn ag_3 Z Z Z)<|rR Z Z Z (RO.binInt Z Z Z)<|rM Z Z Z ?_
 refine XL.case (d:=8) (c:=(decide (a0.c < 0))) Z (fun c2=>?_) (fun c2=>?_)
 replace h1:=condT c2 h1
 refine XL.no Z Z<|XL.no Z Z<|XL.no Z Z<|rR Z Z Z (RO.pickT Z Z)<|rM Z Z Z<|XL.no Z Z<|XL.no Z Z<|XL.no Z Z<|XL.no Z Z<|XL.no Z Z<|XL.no Z Z<|XL.no Z Z<|rR Z Z Z (RO.pickT Z Z)<|XL.nil ?_
 have e:=sI h1;subst e
 exact XQ.joinR true (sL (Nat.zero_le _) Z Z Z Z Z) h0
 replace h1:=condF c2 h1
 refine rR Z Z Z (RO.fieldOwn fo_39_0 Z)<|rR Z Z Z (RO.loadOwn ag_3 Z Z Z)<|rR Z Z Z (RO.binInt Z Z Z)<|rR Z Z Z (RO.pickF Z Z)<|rM Z Z Z ?_
 refine XL.case (d:=13) (c:=(decide (100 < a0.c))) Z (fun c3=>?_) (fun c3=>?_)
 replace h1:=condT c3 h1
 refine XL.no Z Z<|XL.no Z Z<|XL.no Z Z<|XL.no Z Z<|XL.no Z Z<|XL.no Z Z<|XL.no Z Z<|rR Z Z Z (RO.pickT Z Z)<|XL.nil ?_
 have e:=sI h1;subst e
 exact XQ.joinR true (sL (Nat.zero_le _) Z Z Z Z Z) h0
 replace h1:=condF c3 h1
 refine rR Z Z Z (RO.fieldOwn fo_39_0 Z)<|rR Z Z Z (RO.loadOwn ag_3 Z Z Z)<|rR Z Z Z (RO.binInt Z Z Z)<|rM Z Z Z ?_
 refine XL.case (d:=17) (c:=(decide (0 < a0.c))) Z (fun c4=>?_) (fun c4=>?_)
 replace h1:=condT c4 h1
 refine rR Z Z Z (RO.loadCE (a0:Lvl) ag_39 Z Z) ?_
 refine bindK h1 (fun y5 h2 h1=>?_)
 have hc6:CallM Try.prog 51 [.agg (cE a0)] ⟨[(0,.cells 39 (cE a0))],[],1⟩ (resOf [.one (dB y5)]) ⟨[(0,.cells 39 (cE a0))],[],2⟩:=by
  refine CallM.of_bodyD ⟨[(2,.v (.one (dB y5)))],[(0,.cells 39 (cE a0))],[],2,7,[]⟩ Z Z en_51 (lb Z) Z (RAs.tmp Z .nil) (fun w0 M V0 Q hv2 hQ2=>?_)
  simp only [entry]
  refine XC.seq<|XC.region<|XL.put Z Z (lb Z) (OpOK.box Z)<|rA Z Z Z<|XL.nil<|XQ.seq<|XC.seq<|XC.region<|rR Z Z Z (RO.fieldOwn fo_39_1 Z)<|rR Z Z Z (RO.loadOwn ag_37 Z Z Z)<|rR Z Z Z (RO.makeFunc1 Z) ?_
  refine bindK h2 (fun x7 hx7 h2=>?_)
  refine XL.put Z Z (lb Z) (OpOK.callG (hp1':=[(1,.cells 39 (cE a0))]) (tk1':=[]) (hpF:=[(0,.cells 39 (cE a0))]) (tkF:=[]) (res2:=resOf [.one (dB x7)]) (nx2:=2) [1] Z Z (m70f0_ok a0.vs a0 x7 hx7) Z Z (qB Z Z qZ) Z Z (gR Z gZ) jZ (hA Z) kZ Z Z Z Z Z (bA Z) Z Z Z Z)<|rA Z Z Z<|XL.nil<|XQ.seq<|XC.ret ?_
  have e:=sI h2;subst e
  exact hQ2 _ _ _ (.inr Z) Z (sL (Nat.le_trans hv2 (lb Z)) Z Z Z Z Z)
 refine XL.put Z Z (lb Z) (OpOK.callW Z Z Z hc6 Z (hA Z) kZ)<|rR Z Z Z (RO.pickT Z Z)<|rR Z Z Z (RO.pickF Z Z)<|XL.nil ?_
 have e:=sI h1;subst e
 exact XQ.joinR y5 (sL (Nat.zero_le _) Z Z Z Z Z) h0
 replace h1:=condF c4 h1
 refine XL.no Z Z<|XL.no Z Z<|rR Z Z Z (RO.pickF Z Z)<|rR Z Z Z (RO.pickF Z Z)<|XL.nil ?_
 have e:=sI h1;subst e
 exact XQ.joinR false (sL (Nat.zero_le _) Z Z Z Z Z) h0
 intro v1 h0
 refine XQ.seq ?_
 refine XC.cond (b:=v1) Z (fun c8=>?_) (fun c8=>?_)
 replace h0:=condT c8 h0
 refine XC.seq<|XC.region<|rA Z Z Z<|XL.nil<|XQ.seq<|XC.ret ?_
 have e:=sI h0;subst e
 exact XQ.retF (fun _ _ h=>h) Z (RAs.tmp Z .nil) (.cons (.one (.d _)) .nil)
 replace h0:=condF c8 h0
 refine XC.skip<|XQ.seq<|XC.seq<|XC.seq<|XC.region<|rR Z Z Z (RO.fieldOwn fo_39_1 Z)<|rR Z Z Z (RO.loadOwn ag_37 Z Z Z)<|rR Z Z Z (RO.lenE (α:=LV) sl_37 Z (.d _))<|rM Z Z Z<|XL.nil<|XQ.seq<|XC.block ?_
 refine XC.joinX 0 (fun (o9:Unit)=>⟨[],[(0,.cells 39 (cE a0))],[],1,65,[]⟩) (fun (o9:Unit)=>(some true)=some r) ?_ ?_
 refine bindK h0 (fun o10 hl1 h0=>?_)
 refine XC.loopM (m28_l0 a0) (fun s1=>⟨[(1,.v (.one (.ptr 0 0))),(23,.v (.one (dS a0.vs))),(24,.v (.one (dI (a0.vs.length:Int)))),(25,.v (.one (dI s1)))],[(0,.cells 39 (cE a0))],[],1,65,[]⟩) 0 o10 (sL (Nat.zero_le _) Z Z Z Z Z) hl1 (fun s1 n1 oo1 h1 ho1=>?_)
 unfold m28_l0 at h1
 refine XC.seq<|XC.region<|rR Z Z Z (RO.binInt Z Z Z)<|XL.nil<|XQ.seq<|XC.seq ?_
 refine XC.cond (b:=(decide (s1 < (a0.vs.length:Int)))) Z (fun c11=>?_) (fun c11=>?_)
 replace h1:=condT c11 h1
 refine XC.skip<|XQ.seq<|XC.seq<|XC.block<|XC.seq<|XC.region<|rM Z Z Z ?_
 refine bindK h1 (fun x12 hx12 h1=>?_)
 refine rR Z Z Z (RO.indexE (α:=LV) sl_37 Z (.d _) Z hx12)<|rR Z Z Z (RO.loadPelCE (x12:LV) ag_59 Z)<|XL.put Z Z (lb Z) (OpOK.alloc z_59 Z)<|rA Z Z Z<|XL.eff Z Z (OpOK.storeCE (x12:LV) ag_59 Z Z Z Z Z)<|XL.nil<|XQ.seq<|XC.seq ?_
 refine XC.joinR (fun (v13:Bool)=>⟨[(1,.v (.one (.ptr 0 0))),(23,.v (.one (dS a0.vs))),(24,.v (.one (dI (a0.vs.length:Int)))),(25,.v (.one (dI s1))),(63,.v (.one (dB v13)))],[(0,.cells 39 (cE a0)),(1,.cells 59 (cE x12))],[],2,65,[]⟩) (fun (v13:Bool)=>(cond v13
     (some (.done (.inr false)))
     (some (.next (w64 (s1+1)))))=some oo1) ?_ ?_
 refine bindK h1 (fun w2_ h2 h1=>?_)
 refine XC.anyRun [] [] mixed (by kernel_rfl) (by kernel_rfl) (by kernel_rfl) ?_
 refine RunA.rd Z Z Z (OpOK.of_ro (RO.fieldOwn fo_59_0 Z)) Z<|RunA.rd Z Z Z (OpOK.of_ro (RO.loadOwn ag_3 Z Z Z)) Z<|RunA.rd Z Z Z (OpOK.of_ro (RO.binInt Z Z Z)) Z ?_
 refine RunA.case (c:=(decide (x12.1 < (-65536)))) Z Z Z (OpOK.of_ro (RO.move Z)) Z (fun c14=>?_) (fun c14=>?_)
 replace h2:=condT c14 h2
 refine RunA.no Z Z Z Z<|RunA.no Z Z Z Z<|RunA.no Z Z Z Z<|RunA.rd Z Z Z (OpOK.of_ro (RO.pickT Z Z)) Z<|RunA.rd Z Z Z (OpOK.of_ro (RO.move Z)) Z<|RunA.no Z Z Z Z<|RunA.no Z Z Z Z<|RunA.no Z Z Z Z<|RunA.rd Z Z Z (OpOK.of_ro (RO.pickT Z Z)) Z<|RunA.rd Z Z Z (OpOK.of_ro (RO.move Z)) Z<|RunA.no Z Z Z Z<|RunA.no Z Z Z Z<|RunA.no Z Z Z Z<|RunA.rd Z Z Z (OpOK.of_ro (RO.pickT Z Z)) Z ?_
 refine RunA.rd Z Z Z (OpOK.of_ro (RO.move Z)) Z<|RunA.no Z Z Z Z<|RunA.no Z Z Z Z<|RunA.no Z Z Z Z<|RunA.no Z Z Z Z<|RunA.no Z Z Z Z<|RunA.no Z Z Z Z<|RunA.no Z Z Z Z<|RunA.no Z Z Z Z<|RunA.no Z Z Z Z<|RunA.no Z Z Z Z<|RunA.no Z Z Z Z<|RunA.no Z Z Z Z<|RunA.no Z Z Z Z ?_
 refine RunA.no Z Z Z Z<|RunA.rd Z Z Z (OpOK.of_ro (RO.pickT Z Z)) Z ?_
 refine RunA.nil ⟨?ex,_,_,Z,?_⟩
 case ex=>exact trivial
 have e:=sI h2;subst e
 exact XQ.joinR true (sL (Nat.zero_le _) Z Z Z Z Z) h1
 replace h2:=condF c14 h2
 refine RunA.rd Z Z Z (OpOK.of_ro (RO.fieldOwn fo_59_0 Z)) Z<|RunA.rd Z Z Z (OpOK.of_ro (RO.loadOwn ag_3 Z Z Z)) Z<|RunA.rd Z Z Z (OpOK.of_ro (RO.binInt Z Z Z)) Z<|RunA.rd Z Z Z (OpOK.of_ro (RO.pickF Z Z)) Z ?_
 refine RunA.case (c:=(decide (7 < x12.1))) Z Z Z (OpOK.of_ro (RO.move Z)) Z (fun c15=>?_) (fun c15=>?_)
 replace h2:=condT c15 h2
 refine RunA.no Z Z Z Z<|RunA.no Z Z Z Z<|RunA.no Z Z Z Z<|RunA.rd Z Z Z (OpOK.of_ro (RO.pickT Z Z)) Z<|RunA.rd Z Z Z (OpOK.of_ro (RO.move Z)) Z<|RunA.no Z Z Z Z<|RunA.no Z Z Z Z<|RunA.no Z Z Z Z<|RunA.rd Z Z Z (OpOK.of_ro (RO.pickT Z Z)) Z<|RunA.rd Z Z Z (OpOK.of_ro (RO.move Z)) Z<|RunA.no Z Z Z Z<|RunA.no Z Z Z Z<|RunA.no Z Z Z Z<|RunA.no Z Z Z Z ?_
 refine RunA.no Z Z Z Z<|RunA.no Z Z Z Z<|RunA.no Z Z Z Z<|RunA.no Z Z Z Z<|RunA.no Z Z Z Z<|RunA.no Z Z Z Z<|RunA.no Z Z Z Z<|RunA.no Z Z Z Z<|RunA.no Z Z Z Z<|RunA.no Z Z Z Z<|RunA.rd Z Z Z (OpOK.of_ro (RO.pickT Z Z)) Z ?_
 refine RunA.nil ⟨?ex,_,_,Z,?_⟩
 case ex=>exact trivial
 have e:=sI h2;subst e
 exact XQ.joinR true (sL (Nat.zero_le _) Z Z Z Z Z) h1
 replace h2:=condF c15 h2
 refine RunA.rd Z Z Z (OpOK.of_ro (RO.fieldOwn fo_59_1 Z)) Z<|RunA.rd Z Z Z (OpOK.of_ro (RO.loadOwn ag_3 Z Z Z)) Z<|RunA.rd Z Z Z (OpOK.of_ro (RO.binInt Z Z Z)) Z<|RunA.rd Z Z Z (OpOK.of_ro (RO.pickF Z Z)) Z ?_
 refine RunA.case (c:=(decide (x12.2 < 0))) Z Z Z (OpOK.of_ro (RO.move Z)) Z (fun c16=>?_) (fun c16=>?_)
 replace h2:=condT c16 h2
 refine RunA.no Z Z Z Z<|RunA.no Z Z Z Z<|RunA.no Z Z Z Z<|RunA.rd Z Z Z (OpOK.of_ro (RO.pickT Z Z)) Z<|RunA.rd Z Z Z (OpOK.of_ro (RO.move Z)) Z<|RunA.no Z Z Z Z<|RunA.no Z Z Z Z<|RunA.no Z Z Z Z<|RunA.no Z Z Z Z<|RunA.no Z Z Z Z<|RunA.no Z Z Z Z<|RunA.no Z Z Z Z<|RunA.no Z Z Z Z<|RunA.no Z Z Z Z ?_
 refine RunA.no Z Z Z Z<|RunA.no Z Z Z Z<|RunA.no Z Z Z Z<|RunA.no Z Z Z Z<|RunA.no Z Z Z Z<|RunA.rd Z Z Z (OpOK.of_ro (RO.pickT Z Z)) Z ?_
 refine RunA.nil ⟨?ex,_,_,Z,?_⟩
 case ex=>exact trivial
 have e:=sI h2;subst e
 exact XQ.joinR true (sL (Nat.zero_le _) Z Z Z Z Z) h1
 replace h2:=condF c16 h2
 refine RunA.rd Z Z Z (OpOK.of_ro (RO.fieldOwn fo_59_1 Z)) Z<|RunA.rd Z Z Z (OpOK.of_ro (RO.loadOwn ag_3 Z Z Z)) Z<|RunA.rd Z Z Z (OpOK.of_ro (RO.binInt Z Z Z)) Z<|RunA.rd Z Z Z (OpOK.of_ro (RO.pickF Z Z)) Z ?_
 refine RunA.case (c:=(decide (100 < x12.2))) Z Z Z (OpOK.of_ro (RO.move Z)) Z (fun c17=>?_) (fun c17=>?_)
 replace h2:=condT c17 h2
 refine RunA.no Z Z Z Z<|RunA.no Z Z Z Z<|RunA.no Z Z Z Z<|RunA.no Z Z Z Z<|RunA.no Z Z Z Z<|RunA.no Z Z Z Z<|RunA.no Z Z Z Z<|RunA.no Z Z Z Z<|RunA.no Z Z Z Z<|RunA.no Z Z Z Z<|RunA.no Z Z Z Z<|RunA.no Z Z Z Z<|RunA.no Z Z Z Z<|RunA.no Z Z Z Z ?_
 refine RunA.rd Z Z Z (OpOK.of_ro (RO.pickT Z Z)) Z ?_
 refine RunA.nil ⟨?ex,_,_,Z,?_⟩
 case ex=>exact trivial
 have e:=sI h2;subst e
 exact XQ.joinR true (sL (Nat.zero_le _) Z Z Z Z Z) h1
 replace h2:=condF c17 h2
 refine RunA.rd Z Z Z (OpOK.of_ro (RO.move Z)) Z<|RunA.rd Z Z Z (OpOK.of_ro (RO.binInt Z Z Z)) Z ?_
 refine RunA.case (c:=(decide (0 < s1))) Z Z Z (OpOK.of_ro (RO.move Z)) Z (fun c18=>?_) (fun c18=>?_)
 replace h2:=condT c18 h2
 refine RunA.rd Z Z Z (OpOK.of_ro (RO.fieldOwn fo_39_1 Z)) Z<|RunA.rd Z Z Z (OpOK.of_ro (RO.loadOwn ag_37 Z Z Z)) Z<|RunA.rd Z Z Z (OpOK.of_ro (RO.move Z)) Z<|RunA.rd Z Z Z (OpOK.of_ro (RO.binInt Z Z Z)) Z ?_
 refine bindK h2 (fun x19 hx19 h2=>?_)
 refine RunA.rd Z Z Z (OpOK.of_ro (RO.indexE (α:=LV) sl_37 Z (.d _) Z hx19)) Z<|RunA.rd Z Z Z (OpOK.of_ro (RO.fieldPel fo_59_0 Z)) Z<|RunA.rd Z Z Z (OpOK.of_ro (RO.loadPel ag_3 Z Z)) Z<|RunA.rd Z Z Z (OpOK.of_ro (RO.fieldOwn fo_59_0 Z)) Z<|RunA.rd Z Z Z (OpOK.of_ro (RO.loadOwn ag_3 Z Z Z)) Z<|RunA.rd Z Z Z (OpOK.of_ro (RO.binInt Z Z Z)) Z<|RunA.rd Z Z Z (OpOK.of_ro (RO.pickT Z Z)) Z<|RunA.rd Z Z Z (OpOK.of_ro (RO.pickF Z Z)) Z ?_
 refine RunA.nil ⟨?ex,_,_,Z,?_⟩
 case ex=>exact trivial
 have e:=sI h2;subst e
 exact XQ.joinR (decide (x12.1≤x19.1)) (sL (Nat.zero_le _) Z Z Z Z Z) h1
 replace h2:=condF c18 h2
 refine RunA.no Z Z Z Z<|RunA.no Z Z Z Z<|RunA.no Z Z Z Z<|RunA.no Z Z Z Z<|RunA.no Z Z Z Z<|RunA.no Z Z Z Z<|RunA.no Z Z Z Z<|RunA.no Z Z Z Z<|RunA.no Z Z Z Z<|RunA.no Z Z Z Z<|RunA.rd Z Z Z (OpOK.of_ro (RO.pickF Z Z)) Z<|RunA.rd Z Z Z (OpOK.of_ro (RO.pickF Z Z)) Z ?_
 refine RunA.nil ⟨?ex,_,_,Z,?_⟩
 case ex=>exact trivial
 have e:=sI h2;subst e
 exact XQ.joinR false (sL (Nat.zero_le _) Z Z Z Z Z) h1
 intro v13 h1
 refine XQ.seq ?_
 refine XC.cond (b:=v13) Z (fun c20=>?_) (fun c20=>?_)
 replace h1:=condT c20 h1
 refine XC.seq<|XC.region<|rA Z Z Z<|XL.nil<|XQ.seq<|XC.ret ?_
 have e:=sI h1;subst e
 have e_:_=_:=ho1
 subst e_
 try dsimp only [Sum.elim_inl,Sum.elim_inr] at h0
 have e:=sI h0;subst e
 exact XQ.retF (fun _ _ h=>h) Z (RAs.tmp Z .nil) (.cons (.one (.d _)) .nil)
 replace h1:=condF c20 h1
 refine XC.skip<|XQ.inBlock<|XQ.seq<|XC.region<|rR Z Z Z (RO.binInt Z Z Z)<|rM Z Z Z<|XL.nil ?_
 have e:=sI h1;subst e
 refine XQ.nextM (w64 (s1+1)) (sL (Nat.zero_le _) Z Z Z Z Z) ho1
 replace h1:=condF c11 h1
 refine XC.exit<|XQ.thenE<|XQ.thenE ?_
 have e:=sI h1;subst e
 have e_:_=_:=ho1
 subst e_
 exact XQ.joinX () (sL (Nat.zero_le _) Z Z Z Z Z) h0
 intro o9 h0
 refine XQ.blockX<|XQ.seq<|XC.seq<|XC.region<|rA Z Z Z<|XL.nil<|XQ.seq<|XC.ret ?_
 have e:=sI h0;subst e
 exact XQ.retF (fun _ _ h=>h) Z (RAs.tmp Z .nil) (.cons (.one (.d _)) .nil)
def m38_l0 (a0:Lvl) (s2:Int×(List Int)):Option (LO (Int×(List Int)) (((List Int)))) :=
 cond (decide (0≤s2.1))
   (Option.bind (idx a0.vs s2.1) fun (x9:LV) =>
 Option.bind (cond (decide (x9.1 < 0))
   (guardO (Nat.ble (s2.2.length+([(w64 ((-1) - x9.1))]).length) 1000000000)
 (some (s2.2++([(w64 ((-1) - x9.1))]))))
   (some s2.2)) (fun (y10:(List Int))=>some (.next ((w64 (s2.1 - 1)),y10))))
   (some (.done s2.2))
noncomputable abbrev m38_h0 (p0_:Lvl):List (Nat×HB) :=
 [(0,.cells 39 (cE p0_)),(1,.cells 66 [dN]),(2,.cells 37 [dS p0_.vs])]
noncomputable abbrev m38_h1 (p0_:Lvl):List (Nat×HB) :=
 [(0,.cells 39 (cE p0_)),(1,.cells 66 [dA 3 ([]:List Int)]),(2,.cells 37 [dS p0_.vs])]
noncomputable abbrev m38_h2 :HB :=
 .loop .ready none [(3,.v (.one (.ptr 1 0))),(10,.v (.one (.fn 79 [(2,0)])))] 23 #[11,12] m38_c0 m38_c1 4
noncomputable abbrev m38_h3 (p0_:Lvl) (p1_:(List Int)):List (Nat×HB) :=
 [(0,.cells 39 (cE p0_)),(1,.cells 66 [dA 3 p1_]),(2,.cells 37 [dS p0_.vs]),(4,.obj (.deferred (some []))),(5,m38_h2)]
noncomputable abbrev m38_h4 (p0_:Lvl) (p1_:Int×(List Int)):List (Nat×HB) :=
 [(0,.cells 39 (cE p0_)),(1,.cells 66 [dA 3 p1_.2]),(2,.cells 37 [dS p0_.vs]),(4,.obj (.deferred (some []))),(5,m38_h2)]
noncomputable abbrev m38_h5 :HB :=
 .loop .busy none [(3,.v (.one (.ptr 1 0))),(10,.v (.one (.fn 79 [(2,0)])))] 23 #[11,12] m38_c0 m38_c1 4
noncomputable abbrev m38_h6 (p0_:Lvl) (p1_:Int×(List Int)) (p2_:LV):List (Nat×HB) :=
 [(0,.cells 39 (cE p0_)),(1,.cells 66 [dA 3 p1_.2]),(2,.cells 37 [dS p0_.vs]),(4,.obj (.deferred (some []))),(5,m38_h5),(6,.cells 59 (cE p2_))]
noncomputable abbrev m38_h7 (p0_:Lvl) (p1_:Int×(List Int)) (p2_:LV):List (Nat×HB) :=
 [(0,.cells 39 (cE p0_)),(1,.cells 66 [dA 3 p1_.2]),(2,.cells 37 [dS p0_.vs]),(4,.obj (.deferred (some []))),(5,m38_h2),(6,.cells 59 (cE p2_))]
noncomputable abbrev m38_h8 (p0_:Lvl) (p1_:(List Int)):List (Nat×HB) :=
 [(0,.cells 39 (cE p0_)),(1,.cells 66 [dA 3 p1_]),(2,.cells 37 [dS p0_.vs]),(4,.obj (.deferred (some []))),(5,m38_h5)]
def m38 (a0:Lvl):Option ((List Int)) :=
 Option.bind (m28 a0) fun (x1:Bool) =>
 cond x1
   (Option.bind (some ()) (fun (y3:Unit)=>Option.bind (Option.bind (loopN (m38_l0 a0) FUEL ((w64 ((a0.vs.length:Int) - 1)),[])) (fun (o7:(List Int))=>some o7)) (fun (y5:(List Int))=>some y5)))
   (some ([]:List Int))
theorem m38_ok (a0:Lvl) (r:(List Int)) (h0:m38 a0=some r):Fun Try.prog 38 [.agg (cE a0)] (resOf [.one (dS r)]):=by
 unfold m38 at h0
 refine Fun.of_bodyM 9 23 Try.func38 Z en_38 Z (lb Z) (fun S w=>?_)
 simp only [entry]
 refine XC.seq<|XC.region<|XL.put Z Z (lb Z) (OpOK.box Z)<|rA Z Z Z<|XL.nil<|XQ.seq<|XC.seq<|XC.region<|XL.put Z Z (lb Z) (OpOK.alloc z_66 Z)<|XL.nil<|XQ.seq<|XC.seq<|XC.seq<|XC.region ?_
 refine rR Z Z Z (RO.loadCE (a0:Lvl) ag_39 Z Z) ?_
 refine bindK h0 (fun x1 hx1 h0=>?_)
 refine XL.put Z Z (lb Z) (OpOK.callFun (m28_ok a0 x1 hx1) Z (.cons (.agg (.cons (.d _) (.cons (.d _) .nil))) .nil))<|XL.nil<|XQ.seq ?_
 refine XC.cond (b:=x1) Z (fun c2=>?_) (fun c2=>?_)
 replace h0:=condT c2 h0
 refine XC.seq<|XC.region<|rR Z Z Z (RO.fieldOwn fo_39_1 Z)<|rR Z Z Z (RO.loadOwn ag_37 Z Z Z) ?_
 refine bindK h0 (fun y3 h1 h0=>?_)
 have hc4:CallM Try.prog 60 [.one (dS a0.vs)] ⟨[(0,.cells 39 (cE a0)),(1,.cells 66 [dN])],[],2⟩ (resOf [.one (.fn 79 [(2,0)])]) ⟨m38_h0 a0,[],3⟩:=by
  refine CallM.of_bodyD ⟨[(2,.v (.one (.fn 79 [(2,0)])))],m38_h0 a0,[],3,4,[]⟩ Z Z en_60 (lb Z) Z (RAs.tmp Z .nil) (fun w0 M V0 Q hv1 hQ1=>?_)
  simp only [entry]
  refine XC.seq<|XC.region<|XL.put Z Z (lb Z) (OpOK.box Z)<|rA Z Z Z<|XL.nil<|XQ.seq<|XC.seq<|XC.region<|rR Z Z Z (RO.makeFunc1 Z)<|rA Z Z Z<|XL.nil<|XQ.seq<|XC.ret ?_
  have e:=sI h1;subst e
  exact hQ1 _ _ _ (.inr Z) Z (sL (Nat.le_trans hv1 (lb Z)) Z Z Z Z Z)
 refine XL.put Z Z (lb Z) (OpOK.callW Z Z Z hc4 Z (hA Z) kZ)<|XL.nil<|XQ.seq<|XC.block<|XC.adoptC (i:=1) (off:=0) 3 1 Z Z<|XC.less (st':=⟨[(3,.v (.one (.ptr 1 0))),(10,.v (.one (.fn 79 [(2,0)])))],m38_h1 a0,[(3,some ⟨3,1,(Enc.encL ([]:List Int)).length,[]⟩)],4,23,[]⟩) (sL (Nat.zero_le _) Z Z Z Z Z) ?_
 refine bindK h0 (fun y5 h1 h0=>?_)
 have hc6:CallM Try.prog 79 [.one (.yld 5),.one (.ptr 2 0)] ⟨[(5,.loop .ready none [(3,.v (.one (.ptr 1 0))),(10,.v (.one (.fn 79 [(2,0)])))] 23 #[11,12] m38_c0 m38_c1 4),(4,.obj (.deferred (some []))),(0,.cells 39 (cE a0)),(1,.cells 66 [dA 3 ([]:List Int)]),(2,.cells 37 [dS a0.vs])],[(3,some ⟨3,1,(Enc.encL ([]:List Int)).length,[]⟩)],6⟩ (resOf []) ⟨m38_h3 a0 y5,[(3,some ⟨3,1,(Enc.encL y5).length,[]⟩)],6⟩:=by
  refine CallM.of_bodyD ⟨[],m38_h3 a0 y5,[(3,some ⟨3,1,(Enc.encL y5).length,[]⟩)],6,19,[]⟩ Z Z en_79 (lb Z) Z .nil (fun w0 M V0 Q hv1 hQ1=>?_)
  simp only [entry]
  refine XC.seq<|XC.region<|rR Z Z Z (RO.loadOwn ag_37 Z Z Z)<|rR Z Z Z (RO.lenE (α:=LV) sl_37 Z (.d _))<|rR Z Z Z (RO.binInt Z Z Z)<|rA Z Z Z<|XL.nil<|XQ.seq<|XC.block ?_
  refine XC.joinX 0 (fun (o7:(List Int))=>⟨[],[(0,.cells 39 (cE a0)),(1,.cells 66 [dA 3 o7]),(2,.cells 37 [dS a0.vs]),(4,.obj (.deferred (some []))),(5,m38_h2)],[(3,some ⟨3,1,(Enc.encL o7).length,[]⟩)],6,19,[]⟩) (fun (o7:(List Int))=>(some o7)=some y5) ?_ ?_
  refine bindK h1 (fun o8 hl2 h1=>?_)
  refine XC.loopM (m38_l0 a0) (fun s2=>⟨[(0,.v (.one (.yld 5))),(1,.v (.one (.ptr 2 0))),(3,.v (.one (dI s2.1)))],[(0,.cells 39 (cE a0)),(1,.cells 66 [dA 3 s2.2]),(2,.cells 37 [dS a0.vs]),(4,.obj (.deferred (some []))),(5,m38_h2)],[(3,some ⟨3,1,(Enc.encL s2.2).length,[]⟩)],6,19,[]⟩) ((w64 ((a0.vs.length:Int) - 1)),[]) o8 (sL (Nat.le_trans hv1 (lb Z)) Z Z Z Z Z) hl2 (fun s2 n2 oo2 h2 ho2=>?_)
  unfold m38_l0 at h2
  refine XC.seq<|XC.seq<|XC.region<|rM Z Z Z<|rR Z Z Z (RO.binInt Z Z Z)<|XL.nil<|XQ.seq ?_
  refine XC.cond (b:=(decide (0≤s2.1))) Z (fun c9=>?_) (fun c9=>?_)
  replace h2:=condT c9 h2
  refine XC.skip<|XQ.seq<|XC.seq<|XC.block<|XC.seq<|XC.region<|rM Z Z Z<|rM Z Z Z<|rR Z Z Z (RO.loadOwn ag_37 Z Z Z)<|rM Z Z Z ?_
  refine bindK h2 (fun x10 hx10 h2=>?_)
  refine rR Z Z Z (RO.indexE (α:=LV) sl_37 Z (.d _) Z hx10)<|rR Z Z Z (RO.loadPelCE (x10:LV) ag_59 Z) ?_
  refine bindK h2 (fun y11 h3 h2=>?_)
  have ha12:ExecOK Try.prog (some 5) m38_c0 ⟨[(3,.v (.one (.ptr 1 0))),(10,.v (.one (.fn 79 [(2,0)]))),(11,.v (.one (dI s2.1))),(12,.v (.agg (cE x10)))],m38_h4 a0 s2,[(3,some ⟨3,1,(Enc.encL s2.2).length,[]⟩)],6,23,[]⟩ .normal ⟨[(3,.v (.one (.ptr 1 0))),(5,.v (.one (.ptr 6 0)))],m38_h7 a0 s2 x10,[(3,some ⟨3,1,(Enc.encL s2.2).length,[]⟩)],7,23,[]⟩:=by
   refine ExecOK.walk (fun w0 M V0 ro n Q hv3 hro3 hQn3=>?_)
   refine XC.region<|XL.put Z Z (lb Z) (OpOK.alloc z_59 Z)<|XL.eff Z Z (OpOK.storeCE (x10:LV) ag_59 Z Z Z Z Z)<|XL.nil ?_
   exact XQ.of hQn3 (sL (Nat.le_trans hv3 (lb Z)) Z Z Z Z Z)
  have hb13:ExecOK Try.prog (some 5) m38_c1 ⟨[(3,.v (.one (.ptr 1 0))),(5,.v (.one (.ptr 6 0)))],m38_h6 a0 s2 x10,[(3,some ⟨3,1,(Enc.encL s2.2).length,[]⟩)],7,23,[]⟩ .normal ⟨[],m38_h8 a0 y11,[(3,some ⟨3,1,(Enc.encL y11).length,[]⟩)],7,23,[]⟩:=by
   refine ExecOK.walk (fun w0 M V0 ro n Q hv3 hro3 hQn3=>?_)
   refine XC.block<|XC.seq<|XC.region<|rR Z Z Z (RO.fieldOwn fo_59_0 Z)<|rR Z Z Z (RO.loadOwn ag_3 Z Z Z)<|rR Z Z Z (RO.binInt Z Z Z)<|XL.nil<|XQ.seq ?_
   refine XC.cond (b:=(decide (x10.1 < 0))) Z (fun c14=>?_) (fun c14=>?_)
   replace h3:=condT c14 h3
   refine XC.region<|rR Z Z Z (RO.loadOwn ag_66 Z Z Z)<|rR Z Z Z (RO.fieldOwn fo_59_0 Z)<|rR Z Z Z (RO.loadOwn ag_3 Z Z Z)<|rR Z Z Z (RO.binInt Z Z Z)<|XL.put Z Z (lb Z) (OpOK.lit1E (α:=Int) ((w64 ((-1) - x10.1))) sl_66 z_3 Z Z (lb Z) (lb Z) Z Z (.cons (.d _) .nil) Z) ?_
   refine guardK h3 (fun g15 h3=>?_)
   refine XL.put Z Z (lb Z) (OpOK.appendE (α:=Int) sl_66 el_3 Z Z Z Z Z (.app _ _) g15)<|XL.eff Z Z (OpOK.store ag_66 Z Z Z Z (lb Z) Z)<|XL.nil<|XQ.inBlock ?_
   have e:=sI h3;subst e
   exact XQ.of hQn3 (sL (Nat.le_trans hv3 (lb Z)) Z Z Z Z Z)
   replace h3:=condF c14 h3
   refine XC.skip<|XQ.inBlock ?_
   have e:=sI h3;subst e
   exact XQ.of hQn3 (sL (Nat.le_trans hv3 (lb Z)) Z Z Z Z Z)
  refine XL.put Z Z (lb Z) (OpOK.yield (jump:=none) Z Z Z Z Z (ExecOK.from ha12 (fun E hv=>(sL (Nat.le_trans hv (lb Z)) Z Z Z Z Z))) Z (ExecOK.from hb13 (fun E hv=>(sL (Nat.le_trans hv (lb Z)) Z Z Z Z Z))) Z Z) ?_
  refine rR Z Z Z (RO.not Z)<|XL.nil<|XQ.seq ?_
  refine XC.cond Z (fun h=>nomatch h) (fun _=>?_)
  refine XC.skip<|XQ.inBlock<|XQ.seq<|XC.region<|rM Z Z Z<|rR Z Z Z (RO.binInt Z Z Z)<|rA Z Z Z<|XL.nil ?_
  have e:=sI h2;subst e
  refine XQ.nextM ((w64 (s2.1 - 1)),y11) (sL (Nat.le_trans hv1 (lb Z)) Z Z Z Z Z) ho2
  replace h2:=condF c9 h2
  refine XC.exit<|XQ.thenE<|XQ.thenE ?_
  have e:=sI h2;subst e
  have e_:_=_:=ho2
  subst e_
  exact XQ.joinX s2.2 (sL (Nat.le_trans hv1 (lb Z)) Z Z Z Z Z) h1
  intro o7 h1
  refine XQ.blockX ?_
  have e:=sI h1;subst e
  exact hQ1 _ _ _ (.inl Z) Z (sL (Nat.le_trans hv1 (lb Z)) Z Z Z Z Z)
 refine XC.exec (rangeFunc_out (e:=.normal) rfl hc6 rfl rfl (by intro h;cases h) rfl) rfl ?_
 refine XQ.inBlock<|XQ.seq<|XC.seq<|XC.region<|rR Z Z Z (RO.loadOwn ag_66 Z Z Z)<|rA Z Z Z<|XL.nil<|XQ.seq<|XC.ret ?_
 have e:=sI h0;subst e
 exact XQ.retF (fun _ _ h=>h) Z (RAs.tmp Z .nil) (.cons (.one (.app _ _ _)) .nil)
 replace h0:=condF c2 h0
 refine XC.skip<|XQ.seq<|XC.seq<|XC.region<|rR Z Z Z (RO.loadOwn ag_66 Z Z Z)<|rA Z Z Z<|XL.nil<|XQ.seq<|XC.ret ?_
 have e:=sI h0;subst e
 exact XQ.retF (fun _ _ h=>h) Z (RAs.tmp Z .nil) (.cons (.one (.nil _)) .nil)
end Go.Proofs.Ytkimijmiphkddaa
namespace Go.Proofs.Ytkimijmiphkddaa
open Go.RowKit Go.Shelf
theorem fo_41_0:fieldOff Try.prog 41 0=some 0:=by kernel_rfl
theorem fo_41_1:fieldOff Try.prog 41 1=some 2:=by kernel_rfl
theorem ag_31:tyAgg Try.prog 31=some (false,1):=by kernel_rfl
theorem ag_41:tyAgg Try.prog 41=some (true,4):=by kernel_rfl
theorem sl_22:tySlice Try.prog 22=some (41,4):=by kernel_rfl
theorem z_39:tyZero Try.prog 39=some [.int .i64 0,.slice none 0 0]:=by kernel_rfl
theorem bd_39:IsStruct Try.prog 39 [(0,1),(1,1)] [.int .i64 0,.slice none 0 0]:=⟨by kernel_rfl,by kernel_rfl⟩
theorem el_39:tyElem Try.prog 39=some (2,32):=by kernel_rfl
theorem arr_68:tyArr Try.prog 68=some (9,1):=by kernel_rfl
theorem arr_70:tyArr Try.prog 70=some (9,9):=by kernel_rfl
theorem en_35:Enters Try.prog 35:=enters_of Try.func35 (by kernel_rfl) rfl
theorem en_36:Enters Try.prog 36:=enters_of Try.func36 (by kernel_rfl) rfl
theorem en_37:Enters Try.prog 37:=enters_of Try.func37 (by kernel_rfl) rfl
theorem en_39:Enters Try.prog 39:=enters_of Try.func39 (by kernel_rfl) rfl
theorem en_41:Enters Try.prog 41:=enters_of Try.func41 (by kernel_rfl) rfl
theorem en_42:Enters Try.prog 42:=enters_of Try.func42 (by kernel_rfl) rfl
theorem en_59:Enters Try.prog 59:=enters_of Try.func59 (by kernel_rfl) rfl
theorem en_61:Enters Try.prog 61:=enters_of Try.func61 (by kernel_rfl) rfl
theorem en_62:Enters Try.prog 62:=enters_of Try.func62 (by kernel_rfl) rfl
theorem en_63:Enters Try.prog 63:=enters_of Try.func63 (by kernel_rfl) rfl
noncomputable def m61f24_c0:Code:=(cA (cA (cB (cA (cB (bodyC Try.f61))))))
noncomputable def m61f24_c1:Code:=(cB (cA (cB (cA (cB (bodyC Try.f61))))))
noncomputable def m18_c0:Code:=(cA (cA (cB (cB (cB (cB (cA (cA (cB (cB (cA (cA (cB (cA (cB (cB (cB (cB (cB (cB (bodyC Try.f18)))))))))))))))))))))
noncomputable def m18_c1:Code:=(cB (cA (cB (cB (cB (cB (cA (cA (cB (cB (cA (cA (cB (cA (cB (cB (cB (cB (cB (cB (bodyC Try.f18)))))))))))))))))))))
noncomputable def m18_c2:Code:=(cA (cA (cB (cA (cB (cB (cB (cB (cB (cB (cB (bodyC Try.f18))))))))))))
noncomputable def m18_c3:Code:=(cB (cA (cB (cA (cB (cB (cB (cB (cB (cB (cB (bodyC Try.f18))))))))))))
noncomputable def m18_c4:Code:=(cA (cA (cB (cA (cB (cA (cB (cA (cB (cA (cB (cB (cB (cB (cB (cB (cB (bodyC Try.f18))))))))))))))))))
noncomputable def m18_c5:Code:=(cB (cA (cB (cA (cB (cA (cB (cA (cB (cA (cB (cB (cB (cB (cB (cB (cB (bodyC Try.f18))))))))))))))))))
def m63 (a0:Lvl):Option (Int×Int) :=
 cond ((a0.vs.length:Int)==0)
   (some (0,a0.c))
   (Option.bind (idx a0.vs 0) fun (x2:LV) =>
 Option.bind (idx a0.vs 0) fun (x3:LV) =>
 some ((w64 (x2.1+1)),x3.2))
theorem m63_ok (a0:Lvl) (r:Int×Int) (h0:m63 a0=some r):Fun Try.prog 63 [.agg (cE a0)] (resOf [.one (dI r.1),.one (dI r.2)]):=by
 unfold m63 at h0
 refine Fun.of_bodyM 9 21 Try.func63 Z en_63 Z (lb Z) (fun S w=>?_)
 simp only [entry]
 refine XC.seq<|XC.region<|XL.put Z Z (lb Z) (OpOK.box Z)<|rA Z Z Z<|rA Z Z Z<|XL.nil<|XQ.seq<|XC.seq<|XC.seq<|XC.region<|rR Z Z Z (RO.fieldOwn fo_39_1 Z)<|rR Z Z Z (RO.loadOwn ag_37 Z Z Z)<|rR Z Z Z (RO.lenE (α:=LV) sl_37 Z (.d _))<|rR Z Z Z (RO.binInt Z Z Z) ?_
 refine XL.nil<|XQ.seq ?_
 refine XC.cond (b:=((a0.vs.length:Int)==0)) Z (fun c1=>?_) (fun c1=>?_)
 replace h0:=condT c1 h0
 refine XC.seq ?_
 refine XC.anyRun [] [] mixed (by kernel_rfl) (by kernel_rfl) (by kernel_rfl) ?_
 refine RunA.rd Z Z Z (OpOK.of_ro (RO.fieldOwn fo_39_0 Z)) Z<|RunA.rd Z Z Z (OpOK.of_ro (RO.loadOwn ag_3 Z Z Z)) Z<|RunA.rd Z Z Z (OpOK.of_ro (RO.assign Z)) Z<|RunA.rd Z Z Z (OpOK.of_ro (RO.assign Z)) Z ?_
 refine RunA.nil ⟨?ex,_,_,Z,?_⟩
 case ex=>exact trivial
 refine XQ.less (st':=⟨[(2,.v (.one (dI 0))),(3,.v (.one (dI a0.c)))],[(0,.cells 39 (cE a0))],[],1,21,[]⟩) (sL (Nat.zero_le _) Z Z Z Z Z)<|XQ.seq<|XC.ret ?_
 have e:=sI h0;subst e
 exact XQ.retF (fun _ _ h=>h) Z (RAs.tmp Z (RAs.tmp Z .nil)) (.cons (.one (.d _)) (.cons (.one (.d _)) .nil))
 replace h0:=condF c1 h0
 refine XC.skip<|XQ.seq<|XC.seq ?_
 refine XC.anyRun [] [] mixed (by kernel_rfl) (by kernel_rfl) (by kernel_rfl) ?_
 refine RunA.rd Z Z Z (OpOK.of_ro (RO.fieldOwn fo_39_1 Z)) Z<|RunA.rd Z Z Z (OpOK.of_ro (RO.loadOwn ag_37 Z Z Z)) Z ?_
 refine bindK h0 (fun x2 hx2 h0=>?_)
 refine RunA.rd Z Z Z (OpOK.of_ro (RO.indexE (α:=LV) sl_37 Z (.d _) Z hx2)) Z<|RunA.rd Z Z Z (OpOK.of_ro (RO.fieldPel fo_59_0 Z)) Z<|RunA.rd Z Z Z (OpOK.of_ro (RO.loadPel ag_3 Z Z)) Z<|RunA.rd Z Z Z (OpOK.of_ro (RO.binInt Z Z Z)) Z<|RunA.rd Z Z Z (OpOK.of_ro (RO.fieldOwn fo_39_1 Z)) Z<|RunA.rd Z Z Z (OpOK.of_ro (RO.loadOwn ag_37 Z Z Z)) Z ?_
 refine bindK h0 (fun x3 hx3 h0=>?_)
 refine RunA.rd Z Z Z (OpOK.of_ro (RO.indexE (α:=LV) sl_37 Z (.d _) Z hx3)) Z<|RunA.rd Z Z Z (OpOK.of_ro (RO.fieldPel fo_59_1 Z)) Z<|RunA.rd Z Z Z (OpOK.of_ro (RO.loadPel ag_3 Z Z)) Z<|RunA.rd Z Z Z (OpOK.of_ro (RO.assign Z)) Z<|RunA.rd Z Z Z (OpOK.of_ro (RO.assign Z)) Z ?_
 refine RunA.nil ⟨?ex,_,_,Z,?_⟩
 case ex=>exact trivial
 refine XQ.less (st':=⟨[(2,.v (.one (dI (w64 (x2.1+1))))),(3,.v (.one (dI x3.2)))],[(0,.cells 39 (cE a0))],[],1,21,[]⟩) (sL (Nat.zero_le _) Z Z Z Z Z)<|XQ.seq<|XC.ret ?_
 have e:=sI h0;subst e
 exact XQ.retF (fun _ _ h=>h) Z (RAs.tmp Z (RAs.tmp Z .nil)) (.cons (.one (.d _)) (.cons (.one (.d _)) .nil))
def m42_l0 (s2:Int×(List Int)) (s1:Int×(List Int)) (s3:Int×(List Int)):Option (LO (Int×(List Int)) (((List Int)))) :=
 cond (decide (s3.1 < 9))
   (Option.bind (guardO (cond (decide (0≤s2.1)) (Nat.blt s2.1.toNat 9) false)
 (guardO (cond (decide (0≤s1.1)) (Nat.blt s1.1.toNat 9) false)
 (Option.bind (s3.2[0+s2.1.toNat * 9+s1.1.toNat * 1]?) fun (x10:Int) =>
 cond (decide (x10 < 1048576))
   (guardO (cond (decide (0≤s1.1)) (Nat.blt s1.1.toNat 9) false)
 (guardO (cond (decide (0≤s3.1)) (Nat.blt s3.1.toNat 9) false)
 (Option.bind (s3.2[0+s1.1.toNat * 9+s3.1.toNat * 1]?) fun (x14:Int) =>
 some (decide (x14 < 1048576)))))
   (some false)))) (fun (v7:Bool)=>cond v7
   (guardO (cond (decide (0≤s2.1)) (Nat.blt s2.1.toNat 9) false)
 (guardO (cond (decide (0≤s3.1)) (Nat.blt s3.1.toNat 9) false)
 (Option.bind (s3.2[0+s2.1.toNat * 9+s3.1.toNat * 1]?) fun (x11:Int) =>
 guardO (cond (decide (0≤s2.1)) (Nat.blt s2.1.toNat 9) false)
 (guardO (cond (decide (0≤s1.1)) (Nat.blt s1.1.toNat 9) false)
 (Option.bind (s3.2[0+s2.1.toNat * 9+s1.1.toNat * 1]?) fun (x14:Int) =>
 guardO (cond (decide (0≤s1.1)) (Nat.blt s1.1.toNat 9) false)
 (guardO (cond (decide (0≤s3.1)) (Nat.blt s3.1.toNat 9) false)
 (Option.bind (s3.2[0+s1.1.toNat * 9+s3.1.toNat * 1]?) fun (x17:Int) =>
 guardO (cond (decide (0≤s2.1)) (Nat.blt s2.1.toNat 9) false)
 (guardO (cond (decide (0≤s3.1)) (Nat.blt s3.1.toNat 9) false)
 (guardO (Nat.blt (0+s2.1.toNat * 9+s3.1.toNat * 1) s3.2.length)
 (some (.next ((w64 (s3.1+1)),(s3.2.set (0+s2.1.toNat * 9+s3.1.toNat * 1) (max (-1048576) (min x11 (w64 (x14+x17)))))))))))))))))
   (some (.next ((w64 (s3.1+1)),s3.2)))))
   (some (.done s3.2))
def m42_l1 (s1:Int×(List Int)) (s2:Int×(List Int)):Option (LO (Int×(List Int)) (((List Int)))) :=
 cond (decide (s2.1 < 9))
   (Option.bind (loopN (m42_l0 s2 s1) FUEL (0,s2.2)) (fun (o5:(List Int))=>some (.next ((w64 (s2.1+1)),o5))))
   (some (.done s2.2))
def m42_l2  (s1:Int×(List Int)):Option (LO (Int×(List Int)) (((List Int)))) :=
 cond (decide (s1.1 < 9))
   (Option.bind (loopN (m42_l1 s1) FUEL (0,s1.2)) (fun (o3:(List Int))=>some (.next ((w64 (s1.1+1)),o3))))
   (some (.done s1.2))
def m42_l3 (o1:(List Int)) (s1:Int):Option (LO Int (Unit⊕Bool)) :=
 cond (decide (s1 < 9))
   (guardO (cond (decide (0≤s1)) (Nat.blt s1.toNat 9) false)
 (guardO (cond (decide (0≤s1)) (Nat.blt s1.toNat 9) false)
 (Option.bind (o1[0+s1.toNat * 9+s1.toNat * 1]?) fun (x6:Int) =>
 cond (decide (x6 < 0))
   (some (.done (.inr false)))
   (some (.next (w64 (s1+1)))))))
   (some (.done (.inl ())))
def m42 (a0:List Int):Option Bool :=
 Option.bind (loopN (m42_l2) FUEL (0,a0)) (fun (o1:(List Int))=>Option.bind (loopN (m42_l3 o1) FUEL 0) (Sum.elim (fun (o2:Unit)=>some true) (fun o=>some o)))
theorem m42_ok (a0:List Int) (r:Bool) (h0:m42 a0=some r):Fun Try.prog 42 [.agg (flatE (a0:List Int))] (resOf [.one (dB r)]):=by
 unfold m42 at h0
 refine Fun.of_bodyM 9 65 Try.func42 Z en_42 Z (lb Z) (fun S w=>?_)
 simp only [entry]
 refine XC.seq<|XC.region<|XL.put Z Z (lb Z) (OpOK.box Z)<|rA Z Z Z<|XL.nil<|XQ.seq<|XC.seq<|XC.seq<|XC.region<|rM Z Z Z<|XL.nil<|XQ.seq<|XC.block ?_
 refine XC.joinX 0 (fun (o1:(List Int))=>⟨[(1,.v (.one (.ptr 0 0)))],[(0,.cells 70 (flatE o1))],[],1,65,[]⟩) (fun (o1:(List Int))=>(Option.bind (loopN (m42_l3 o1) FUEL 0) (Sum.elim (fun (o2:Unit)=>some true) (fun o=>some o)))=some r) ?_ ?_
 refine bindK h0 (fun o2 hl1 h0=>?_)
 refine XC.loopM (m42_l2) (fun s1=>⟨[(1,.v (.one (.ptr 0 0))),(7,.v (.one (dI s1.1)))],[(0,.cells 70 (flatE s1.2))],[],1,65,[]⟩) (0,a0) o2 (stle (tA Z) (hA Z) kZ Z (Nat.zero_le _) Z Z Z (bF Z bZ) Z Z) hl1 (fun s1 n1 oo1 h1 ho1=>?_)
 unfold m42_l2 at h1
 refine XC.seq<|XC.region<|rR Z Z Z (RO.binInt Z Z Z)<|XL.nil<|XQ.seq<|XC.seq ?_
 refine XC.cond (b:=(decide (s1.1 < 9))) Z (fun c3=>?_) (fun c3=>?_)
 replace h1:=condT c3 h1
 refine XC.skip<|XQ.seq<|XC.seq<|XC.block<|XC.seq<|XC.region<|rM Z Z Z<|rA Z Z Z<|XL.nil<|XQ.seq<|XC.seq<|XC.region<|rM Z Z Z<|XL.nil ?_
 refine XQ.seq<|XC.block ?_
 refine XC.joinX 2 (fun (o4:(List Int))=>⟨[(1,.v (.one (.ptr 0 0))),(7,.v (.one (dI s1.1)))],[(0,.cells 70 (flatE o4))],[],1,65,[]⟩) (fun (o4:(List Int))=>(some (.next ((w64 (s1.1+1)),o4)))=some oo1) ?_ ?_
 refine bindK h1 (fun o5 hl2 h1=>?_)
 refine XC.loopM (m42_l1 s1) (fun s2=>⟨[(1,.v (.one (.ptr 0 0))),(3,.v (.one (dI s1.1))),(7,.v (.one (dI s1.1))),(10,.v (.one (dI s2.1)))],[(0,.cells 70 (flatE s2.2))],[],1,65,[]⟩) (0,s1.2) o5 (stle (tA Z) (hA Z) kZ Z (Nat.zero_le _) Z Z Z (bF Z bZ) Z Z) hl2 (fun s2 n2 oo2 h2 ho2=>?_)
 unfold m42_l1 at h2
 refine XC.seq<|XC.region<|rR Z Z Z (RO.binInt Z Z Z)<|XL.nil<|XQ.seq<|XC.seq ?_
 refine XC.cond (b:=(decide (s2.1 < 9))) Z (fun c6=>?_) (fun c6=>?_)
 replace h2:=condT c6 h2
 refine XC.skip<|XQ.seq<|XC.seq<|XC.block<|XC.seq<|XC.region<|rM Z Z Z<|rA Z Z Z<|XL.nil<|XQ.seq<|XC.seq<|XC.region<|rM Z Z Z<|XL.nil ?_
 refine XQ.seq<|XC.block ?_
 refine XC.joinX 4 (fun (o7:(List Int))=>⟨[(1,.v (.one (.ptr 0 0))),(3,.v (.one (dI s1.1))),(7,.v (.one (dI s1.1))),(10,.v (.one (dI s2.1)))],[(0,.cells 70 (flatE o7))],[],1,65,[]⟩) (fun (o7:(List Int))=>(some (.next ((w64 (s2.1+1)),o7)))=some oo2) ?_ ?_
 refine bindK h2 (fun o8 hl3 h2=>?_)
 refine XC.loopM (m42_l0 s2 s1) (fun s3=>⟨[(1,.v (.one (.ptr 0 0))),(3,.v (.one (dI s1.1))),(4,.v (.one (dI s2.1))),(7,.v (.one (dI s1.1))),(10,.v (.one (dI s2.1))),(13,.v (.one (dI s3.1)))],[(0,.cells 70 (flatE s3.2))],[],1,65,[]⟩) (0,s2.2) o8 (stle (tA Z) (hA Z) kZ Z (Nat.zero_le _) Z Z Z (bF Z bZ) Z Z) hl3 (fun s3 n3 oo3 h3 ho3=>?_)
 unfold m42_l0 at h3
 refine XC.seq<|XC.region<|rR Z Z Z (RO.binInt Z Z Z)<|XL.nil<|XQ.seq<|XC.seq ?_
 refine XC.cond (b:=(decide (s3.1 < 9))) Z (fun c9=>?_) (fun c9=>?_)
 replace h3:=condT c9 h3
 refine XC.skip<|XQ.seq<|XC.seq<|XC.block<|XC.seq<|XC.region<|rM Z Z Z<|rA Z Z Z<|XL.nil<|XQ.seq<|XC.seq ?_
 refine XC.joinR (fun (v10:Bool)=>⟨[(1,.v (.one (.ptr 0 0))),(3,.v (.one (dI s1.1))),(4,.v (.one (dI s2.1))),(5,.v (.one (dI s3.1))),(7,.v (.one (dI s1.1))),(10,.v (.one (dI s2.1))),(13,.v (.one (dI s3.1))),(29,.v (.one (dB v10)))],[(0,.cells 70 (flatE s3.2))],[],1,65,[]⟩) (fun (v10:Bool)=>(cond v10
     (guardO (cond (decide (0≤s2.1)) (Nat.blt s2.1.toNat 9) false)
   (guardO (cond (decide (0≤s3.1)) (Nat.blt s3.1.toNat 9) false)
   (Option.bind (s3.2[0+s2.1.toNat * 9+s3.1.toNat * 1]?) fun (x14:Int) =>
   guardO (cond (decide (0≤s2.1)) (Nat.blt s2.1.toNat 9) false)
   (guardO (cond (decide (0≤s1.1)) (Nat.blt s1.1.toNat 9) false)
   (Option.bind (s3.2[0+s2.1.toNat * 9+s1.1.toNat * 1]?) fun (x17:Int) =>
   guardO (cond (decide (0≤s1.1)) (Nat.blt s1.1.toNat 9) false)
   (guardO (cond (decide (0≤s3.1)) (Nat.blt s3.1.toNat 9) false)
   (Option.bind (s3.2[0+s1.1.toNat * 9+s3.1.toNat * 1]?) fun (x20:Int) =>
   guardO (cond (decide (0≤s2.1)) (Nat.blt s2.1.toNat 9) false)
   (guardO (cond (decide (0≤s3.1)) (Nat.blt s3.1.toNat 9) false)
   (guardO (Nat.blt (0+s2.1.toNat * 9+s3.1.toNat * 1) s3.2.length)
   (some (.next ((w64 (s3.1+1)),(s3.2.set (0+s2.1.toNat * 9+s3.1.toNat * 1) (max (-1048576) (min x14 (w64 (x17+x20)))))))))))))))))
     (some (.next ((w64 (s3.1+1)),s3.2))))=some oo3) ?_ ?_
 refine bindK h3 (fun w4_ h4 h3=>?_)
 refine XC.region<|rM Z Z Z<|rM Z Z Z ?_
 refine guardK h4 (fun g11 h4=>?_)
 refine rR Z Z Z (RO.indexA arr_70 Z Z g11) ?_
 refine guardK h4 (fun g12 h4=>?_)
 refine rR Z Z Z (RO.indexA arr_68 Z Z g12) ?_
 refine bindK h4 (fun x13 hx13 h4=>?_)
 refine rR Z Z Z (RO.loadA ag_3 Z Z hx13)<|rR Z Z Z (RO.binInt Z Z Z)<|rM Z Z Z ?_
 refine XL.case (d:=22) (c:=(decide (x13 < 1048576))) Z (fun c14=>?_) (fun c14=>?_)
 replace h4:=condT c14 h4
 refine rM Z Z Z<|rM Z Z Z ?_
 refine guardK h4 (fun g15 h4=>?_)
 refine rR Z Z Z (RO.indexA arr_70 Z Z g15) ?_
 refine guardK h4 (fun g16 h4=>?_)
 refine rR Z Z Z (RO.indexA arr_68 Z Z g16) ?_
 refine bindK h4 (fun x17 hx17 h4=>?_)
 refine rR Z Z Z (RO.loadA ag_3 Z Z hx17)<|rR Z Z Z (RO.binInt Z Z Z)<|rR Z Z Z (RO.pickT Z Z)<|XL.nil ?_
 have e:=sI h4;subst e
 exact XQ.joinR (decide (x17 < 1048576)) (stle (tA Z) (hA Z) kZ Z (Nat.zero_le _) Z Z Z (bF Z bZ) Z Z) h3
 replace h4:=condF c14 h4
 refine XL.no Z Z<|XL.no Z Z<|XL.no Z Z<|XL.no Z Z<|XL.no Z Z<|XL.no Z Z<|rR Z Z Z (RO.pickF Z Z)<|XL.nil ?_
 have e:=sI h4;subst e
 exact XQ.joinR false (stle (tA Z) (hA Z) kZ Z (Nat.zero_le _) Z Z Z (bF Z bZ) Z Z) h3
 intro v10 h3
 refine XQ.seq ?_
 refine XC.cond (b:=v10) Z (fun c18=>?_) (fun c18=>?_)
 replace h3:=condT c18 h3
 refine XC.anyRun [22] [] mixed (by kernel_rfl) (by kernel_rfl) (by kernel_rfl) ?_
 refine RunA.rd Z Z Z (OpOK.of_ro (RO.move Z)) Z<|RunA.rd Z Z Z (OpOK.of_ro (RO.move Z)) Z<|RunA.rd Z Z Z (OpOK.of_ro (RO.move Z)) Z<|RunA.rd Z Z Z (OpOK.of_ro (RO.move Z)) Z ?_
 refine guardK h3 (fun g19 h3=>?_)
 refine RunA.rd Z Z Z (OpOK.of_ro (RO.indexA arr_70 Z Z g19)) Z ?_
 refine guardK h3 (fun g20 h3=>?_)
 refine RunA.rd Z Z Z (OpOK.of_ro (RO.indexA arr_68 Z Z g20)) Z ?_
 refine bindK h3 (fun x21 hx21 h3=>?_)
 refine RunA.rd Z Z Z (OpOK.of_ro (RO.loadA ag_3 Z Z hx21)) Z<|RunA.rd Z Z Z (OpOK.of_ro (RO.move Z)) Z<|RunA.rd Z Z Z (OpOK.of_ro (RO.move Z)) Z ?_
 refine guardK h3 (fun g22 h3=>?_)
 refine RunA.rd Z Z Z (OpOK.of_ro (RO.indexA arr_70 Z Z g22)) Z ?_
 refine guardK h3 (fun g23 h3=>?_)
 refine RunA.rd Z Z Z (OpOK.of_ro (RO.indexA arr_68 Z Z g23)) Z ?_
 refine bindK h3 (fun x24 hx24 h3=>?_)
 refine RunA.rd Z Z Z (OpOK.of_ro (RO.loadA ag_3 Z Z hx24)) Z<|RunA.rd Z Z Z (OpOK.of_ro (RO.move Z)) Z<|RunA.rd Z Z Z (OpOK.of_ro (RO.move Z)) Z ?_
 refine guardK h3 (fun g25 h3=>?_)
 refine RunA.rd Z Z Z (OpOK.of_ro (RO.indexA arr_70 Z Z g25)) Z ?_
 refine guardK h3 (fun g26 h3=>?_)
 refine RunA.rd Z Z Z (OpOK.of_ro (RO.indexA arr_68 Z Z g26)) Z ?_
 refine bindK h3 (fun x27 hx27 h3=>?_)
 refine RunA.rd Z Z Z (OpOK.of_ro (RO.loadA ag_3 Z Z hx27)) Z<|RunA.rd Z Z Z (OpOK.of_ro (RO.binInt Z Z Z)) Z<|RunA.rd Z Z Z (OpOK.of_ro (RO.min2 Z Z)) Z<|RunA.rd Z Z Z (OpOK.of_ro (RO.max2 Z Z)) Z ?_
 refine guardK h3 (fun g28 h3=>?_)
 refine RunA.rd Z Z Z (OpOK.of_ro (RO.indexA arr_70 Z Z g28)) Z ?_
 refine guardK h3 (fun g29 h3=>?_)
 refine RunA.rd Z Z Z (OpOK.of_ro (RO.indexA arr_68 Z Z g29)) Z ?_
 refine guardK h3 (fun g30 h3=>?_)
 refine RunA.eff Z Z Z (OpOK.storeA ag_3 Z Z Z g30 Z) Z ?_
 refine RunA.nil ⟨?ex,_,_,Z,?_⟩
 case ex=>exact trivial
 refine XQ.less (st':=⟨[(1,.v (.one (.ptr 0 0))),(3,.v (.one (dI s1.1))),(4,.v (.one (dI s2.1))),(7,.v (.one (dI s1.1))),(10,.v (.one (dI s2.1))),(13,.v (.one (dI s3.1)))],[(0,.cells 70 (flatE ((s3.2.set (0+s2.1.toNat * 9+s3.1.toNat * 1) (max (-1048576) (min x21 (w64 (x24+x27))))):List Int)))],[],1,65,[]⟩) (stle (tA Z) (hA Z) kZ Z (Nat.zero_le _) Z Z Z (bF Z bZ) Z Z)<|XQ.inBlock<|XQ.seq<|XC.region<|rR Z Z Z (RO.binInt Z Z Z)<|rM Z Z Z<|XL.nil ?_
 have e:=sI h3;subst e
 refine XQ.nextM ((w64 (s3.1+1)),(s3.2.set (0+s2.1.toNat * 9+s3.1.toNat * 1) (max (-1048576) (min x21 (w64 (x24+x27)))))) (stle (tA Z) (hA Z) kZ Z (Nat.zero_le _) Z Z Z (bF Z bZ) Z Z) ho3
 replace h3:=condF c18 h3
 refine XC.skip<|XQ.inBlock<|XQ.seq<|XC.region<|rR Z Z Z (RO.binInt Z Z Z)<|rM Z Z Z<|XL.nil ?_
 have e:=sI h3;subst e
 refine XQ.nextM ((w64 (s3.1+1)),s3.2) (stle (tA Z) (hA Z) kZ Z (Nat.zero_le _) Z Z Z (bF Z bZ) Z Z) ho3
 replace h3:=condF c9 h3
 refine XC.exit<|XQ.thenE<|XQ.thenE ?_
 have e:=sI h3;subst e
 have e_:_=_:=ho3
 subst e_
 exact XQ.joinX s3.2 (stle (tA Z) (hA Z) kZ Z (Nat.zero_le _) Z Z Z (bF Z bZ) Z Z) h2
 intro o7 h2
 refine XQ.blockX<|XQ.inBlock<|XQ.seq<|XC.region<|rR Z Z Z (RO.binInt Z Z Z)<|rM Z Z Z<|XL.nil ?_
 have e:=sI h2;subst e
 refine XQ.nextM ((w64 (s2.1+1)),o7) (stle (tA Z) (hA Z) kZ Z (Nat.zero_le _) Z Z Z (bF Z bZ) Z Z) ho2
 replace h2:=condF c6 h2
 refine XC.exit<|XQ.thenE<|XQ.thenE ?_
 have e:=sI h2;subst e
 have e_:_=_:=ho2
 subst e_
 exact XQ.joinX s2.2 (stle (tA Z) (hA Z) kZ Z (Nat.zero_le _) Z Z Z (bF Z bZ) Z Z) h1
 intro o4 h1
 refine XQ.blockX<|XQ.inBlock<|XQ.seq<|XC.region<|rR Z Z Z (RO.binInt Z Z Z)<|rM Z Z Z<|XL.nil ?_
 have e:=sI h1;subst e
 refine XQ.nextM ((w64 (s1.1+1)),o4) (stle (tA Z) (hA Z) kZ Z (Nat.zero_le _) Z Z Z (bF Z bZ) Z Z) ho1
 replace h1:=condF c3 h1
 refine XC.exit<|XQ.thenE<|XQ.thenE ?_
 have e:=sI h1;subst e
 have e_:_=_:=ho1
 subst e_
 exact XQ.joinX s1.2 (stle (tA Z) (hA Z) kZ Z (Nat.zero_le _) Z Z Z (bF Z bZ) Z Z) h0
 intro o1 h0
 refine XQ.blockX<|XQ.seq<|XC.seq<|XC.seq<|XC.region<|rM Z Z Z<|XL.nil<|XQ.seq<|XC.block ?_
 refine XC.joinX 6 (fun (o31:Unit)=>⟨[],[(0,.cells 70 (flatE o1))],[],1,65,[]⟩) (fun (o31:Unit)=>(some true)=some r) ?_ ?_
 refine bindK h0 (fun o32 hl1 h0=>?_)
 refine XC.loopM (m42_l3 o1) (fun s1=>⟨[(1,.v (.one (.ptr 0 0))),(55,.v (.one (dI s1)))],[(0,.cells 70 (flatE o1))],[],1,65,[]⟩) 0 o32 (stle (tA Z) (hA Z) kZ Z (Nat.zero_le _) Z Z Z (bF Z bZ) Z Z) hl1 (fun s1 n1 oo1 h1 ho1=>?_)
 unfold m42_l3 at h1
 refine XC.seq<|XC.region<|rR Z Z Z (RO.binInt Z Z Z)<|XL.nil<|XQ.seq<|XC.seq ?_
 refine XC.cond (b:=(decide (s1 < 9))) Z (fun c33=>?_) (fun c33=>?_)
 replace h1:=condT c33 h1
 refine XC.skip<|XQ.seq<|XC.seq<|XC.block<|XC.seq<|XC.region<|rM Z Z Z<|rA Z Z Z<|XL.nil<|XQ.seq<|XC.seq<|XC.region<|rM Z Z Z<|rM Z Z Z ?_
 refine guardK h1 (fun g34 h1=>?_)
 refine rR Z Z Z (RO.indexA arr_70 Z Z g34) ?_
 refine guardK h1 (fun g35 h1=>?_)
 refine rR Z Z Z (RO.indexA arr_68 Z Z g35) ?_
 refine bindK h1 (fun x36 hx36 h1=>?_)
 refine rR Z Z Z (RO.loadA ag_3 Z Z hx36)<|rR Z Z Z (RO.binInt Z Z Z)<|XL.nil<|XQ.seq ?_
 refine XC.cond (b:=(decide (x36 < 0))) Z (fun c37=>?_) (fun c37=>?_)
 replace h1:=condT c37 h1
 refine XC.seq<|XC.region<|rA Z Z Z<|XL.nil<|XQ.seq<|XC.ret ?_
 have e:=sI h1;subst e
 have e_:_=_:=ho1
 subst e_
 try dsimp only [Sum.elim_inl,Sum.elim_inr] at h0
 have e:=sI h0;subst e
 exact XQ.retF (fun _ _ h=>h) Z (RAs.tmp Z .nil) (.cons (.one (.d _)) .nil)
 replace h1:=condF c37 h1
 refine XC.skip<|XQ.inBlock<|XQ.seq<|XC.region<|rR Z Z Z (RO.binInt Z Z Z)<|rM Z Z Z<|XL.nil ?_
 have e:=sI h1;subst e
 refine XQ.nextM (w64 (s1+1)) (stle (tA Z) (hA Z) kZ Z (Nat.zero_le _) Z Z Z (bF Z bZ) Z Z) ho1
 replace h1:=condF c33 h1
 refine XC.exit<|XQ.thenE<|XQ.thenE ?_
 have e:=sI h1;subst e
 have e_:_=_:=ho1
 subst e_
 exact XQ.joinX () (stle tZ (hA Z) kZ Z (Nat.zero_le _) Z Z Z (bF Z bZ) Z Z) h0
 intro o31 h0
 refine XQ.blockX<|XQ.seq<|XC.seq<|XC.region<|rA Z Z Z<|XL.nil<|XQ.seq<|XC.ret ?_
 have e:=sI h0;subst e
 exact XQ.retF (fun _ _ h=>h) Z (RAs.tmp Z .nil) (.cons (.one (.d _)) .nil)
def m59f20_l0 (a0:List Bnd) (s1:Int):Option (LO Int (Unit⊕Int)) :=
 cond (decide (s1 < (a0.length:Int)))
   (Option.bind (idx a0 s1) fun (x3:Bnd) =>
 Option.bind (Option.bind (Option.bind (m28 x3.lo) fun (x7:Bool) =>
 cond (!x7)
   (some true)
   (Option.bind (m28 x3.hi) fun (x9:Bool) =>
 some (!x9))) (fun (v6:Bool)=>some v6)) (fun (y4:Bool)=>cond y4
   (some (.done (.inr s1)))
   (some (.next (w64 (s1+1))))))
   (some (.done (.inl ())))
def m59f20 (a0:List Bnd):Option Int :=
 Option.bind (loopN (m59f20_l0 a0) FUEL 0) (Sum.elim (fun (o1:Unit)=>some (-1)) (fun o=>some o))
theorem m59f20_ok (a0:List Bnd) (r:Int) (h0:m59f20 a0=some r):CallM Try.prog 59 [.one (dA 0 a0),.one (.fn 36 [])] ⟨[],[(0,some ⟨41,4,(Enc.encL a0).length,[]⟩)],1⟩ (resOf [.one (dI r)]) ⟨[],[(0,some ⟨41,4,(Enc.encL a0).length,[]⟩)],1⟩:=by
 unfold m59f20 at h0
 refine CallM.of_bodyD ⟨[(4,.v (.one (dI r)))],[],[(0,some ⟨41,4,(Enc.encL a0).length,[]⟩)],1,19,[]⟩ Z Z en_59 (lb Z) Z (RAs.tmp Z .nil) (fun w0 M V0 Q hv0 hQ0=>?_)
 simp only [entry]
 refine XC.seq<|XC.region<|rA Z Z Z<|XL.nil<|XQ.seq<|XC.seq<|XC.seq<|XC.region<|rM Z Z Z<|rR Z Z Z (RO.lenE (α:=Bnd) sl_22 Z (.app _ _))<|rM Z Z Z<|XL.nil<|XQ.seq<|XC.block ?_
 refine XC.joinX 0 (fun (o1:Unit)=>⟨[],[],[(0,some ⟨41,4,(Enc.encL a0).length,[]⟩)],1,19,[]⟩) (fun (o1:Unit)=>(some (-1))=some r) ?_ ?_
 refine bindK h0 (fun o2 hl1 h0=>?_)
 refine XC.loopM (m59f20_l0 a0) (fun s1=>⟨[(0,.v (.one (dA 0 a0))),(1,.v (.one (.fn 36 []))),(7,.v (.one (dI (a0.length:Int)))),(8,.v (.one (dI s1)))],[],[(0,some ⟨41,4,(Enc.encL a0).length,[]⟩)],1,19,[]⟩) 0 o2 (sL (Nat.le_trans hv0 (lb Z)) Z Z Z Z Z) hl1 (fun s1 n1 oo1 h1 ho1=>?_)
 unfold m59f20_l0 at h1
 refine XC.seq<|XC.region<|rR Z Z Z (RO.binInt Z Z Z)<|XL.nil<|XQ.seq<|XC.seq ?_
 refine XC.cond (b:=(decide (s1 < (a0.length:Int)))) Z (fun c3=>?_) (fun c3=>?_)
 replace h1:=condT c3 h1
 refine XC.skip<|XQ.seq<|XC.seq<|XC.block<|XC.seq<|XC.region<|rM Z Z Z<|rA Z Z Z<|XL.nil<|XQ.seq<|XC.seq<|XC.region<|rM Z Z Z<|rM Z Z Z ?_
 refine rM Z Z Z ?_
 refine bindK h1 (fun x4 hx4 h1=>?_)
 refine rR Z Z Z (RO.indexE (α:=Bnd) sl_22 Z (.app _ _) Z hx4)<|rR Z Z Z (RO.loadPelCE (x4:Bnd) ag_41 Z) ?_
 refine bindK h1 (fun y5 h2 h1=>?_)
 have hc6:CallM Try.prog 36 [.agg (cE x4)] ⟨[],[(0,some ⟨41,4,(Enc.encL a0).length,[]⟩)],1⟩ (resOf [.one (dB y5)]) ⟨[],[(0,some ⟨41,4,(Enc.encL a0).length,[]⟩)],2⟩:=by
  refine CallM.of_bodyD ⟨[(2,.v (.one (dB y5)))],[],[(0,some ⟨41,4,(Enc.encL a0).length,[]⟩)],2,13,[]⟩ Z Z en_36 (lb Z) Z (RAs.tmp Z .nil) (fun w0 M V0 Q hv2 hQ2=>?_)
  simp only [entry]
  refine XC.seq<|XC.region<|XL.put Z Z (lb Z) (OpOK.box Z)<|rA Z Z Z<|XL.nil<|XQ.seq<|XC.seq ?_
  refine XC.joinR (fun (v7:Bool)=>⟨[(2,.v (.one (dB v7)))],[(1,.cells 41 (cE x4))],[(0,some ⟨41,4,(Enc.encL a0).length,[]⟩)],2,13,[]⟩) (fun (v7:Bool)=>(some v7)=some y5) ?_ ?_
  refine bindK h2 (fun w3_ h3 h2=>?_)
  refine XC.region<|rR Z Z Z (RO.fieldOwn fo_41_0 Z)<|rR Z Z Z (RO.loadOwnAgg ag_39 Z Z Z Z) ?_
  refine bindK h3 (fun x8 hx8 h3=>?_)
  refine XL.put Z Z (lb Z) (OpOK.callFun (m28_ok x4.lo x8 hx8) Z (.cons (.agg (.cons (.d _) (.cons (.d _) .nil))) .nil))<|rR Z Z Z (RO.not Z)<|rM Z Z Z ?_
  refine XL.case (d:=7) (c:=(!x8)) Z (fun c9=>?_) (fun c9=>?_)
  replace h3:=condT c9 h3
  refine XL.no Z Z<|XL.no Z Z<|XL.no Z Z<|XL.no Z Z<|rR Z Z Z (RO.pickT Z Z)<|rA Z Z Z<|XL.nil ?_
  have e:=sI h3;subst e
  exact XQ.joinR true (sL (Nat.le_trans hv2 (lb Z)) Z Z Z Z Z) h2
  replace h3:=condF c9 h3
  refine rR Z Z Z (RO.fieldOwn fo_41_1 Z)<|rR Z Z Z (RO.loadOwnAgg ag_39 Z Z Z Z) ?_
  refine bindK h3 (fun x10 hx10 h3=>?_)
  refine XL.put Z Z (lb Z) (OpOK.callFun (m28_ok x4.hi x10 hx10) Z (.cons (.agg (.cons (.d _) (.cons (.d _) .nil))) .nil))<|rR Z Z Z (RO.not Z)<|rR Z Z Z (RO.pickF Z Z)<|rA Z Z Z<|XL.nil ?_
  have e:=sI h3;subst e
  exact XQ.joinR (!x10) (sL (Nat.le_trans hv2 (lb Z)) Z Z Z Z Z) h2
  intro v7 h2
  refine XQ.seq<|XC.ret ?_
  have e:=sI h2;subst e
  exact hQ2 _ _ _ (.inr Z) Z (sL (Nat.le_trans hv2 (lb Z)) Z Z Z Z Z)
 refine XL.put Z Z (lb Z) (OpOK.callW Z Z Z hc6 Z hZ (kA Z))<|XL.nil<|XQ.seq ?_
 refine XC.cond (b:=y5) Z (fun c11=>?_) (fun c11=>?_)
 replace h1:=condT c11 h1
 refine XC.seq<|XC.region<|rM Z Z Z<|rA Z Z Z<|XL.nil<|XQ.seq<|XC.ret ?_
 have e:=sI h1;subst e
 have e_:_=_:=ho1
 subst e_
 try dsimp only [Sum.elim_inl,Sum.elim_inr] at h0
 have e:=sI h0;subst e
 exact hQ0 _ _ _ (.inr Z) Z (sL (Nat.le_trans hv0 (lb Z)) Z Z Z Z Z)
 replace h1:=condF c11 h1
 refine XC.skip<|XQ.inBlock<|XQ.seq<|XC.region<|rR Z Z Z (RO.binInt Z Z Z)<|rM Z Z Z<|XL.nil ?_
 have e:=sI h1;subst e
 refine XQ.nextM (w64 (s1+1)) (sL (Nat.le_trans hv0 (lb Z)) Z Z Z Z Z) ho1
 replace h1:=condF c3 h1
 refine XC.exit<|XQ.thenE<|XQ.thenE ?_
 have e:=sI h1;subst e
 have e_:_=_:=ho1
 subst e_
 exact XQ.joinX () (sL (Nat.le_trans hv0 (lb Z)) Z Z Z Z Z) h0
 intro o1 h0
 refine XQ.blockX<|XQ.seq<|XC.seq<|XC.region<|rA Z Z Z<|XL.nil<|XQ.seq<|XC.ret ?_
 have e:=sI h0;subst e
 exact hQ0 _ _ _ (.inr Z) Z (sL (Nat.le_trans hv0 (lb Z)) Z Z Z Z Z)
def m35f19 (a0:List Bnd):Option Bool :=
 Option.bind (m59f20 a0) fun (x1:Int) =>
 some (decide (0≤x1))
theorem m35f19_ok (a0:List Bnd) (r:Bool) (h0:m35f19 a0=some r):CallM Try.prog 35 [.one (dA 0 a0),.one (.fn 36 [])] ⟨[],[(0,some ⟨41,4,(Enc.encL a0).length,[]⟩)],1⟩ (resOf [.one (dB r)]) ⟨[],[(0,some ⟨41,4,(Enc.encL a0).length,[]⟩)],1⟩:=by
 unfold m35f19 at h0
 refine CallM.of_bodyD ⟨[(4,.v (.one (dB r)))],[],[(0,some ⟨41,4,(Enc.encL a0).length,[]⟩)],1,9,[]⟩ Z Z en_35 (lb Z) Z (RAs.tmp Z .nil) (fun w0 M V0 Q hv0 hQ0=>?_)
 simp only [entry]
 refine XC.seq<|XC.region<|rA Z Z Z<|XL.nil<|XQ.seq<|XC.seq<|XC.region<|rM Z Z Z<|rM Z Z Z ?_
 refine bindK h0 (fun x1 hx1 h0=>?_)
 refine XL.put Z Z (lb Z) (OpOK.callG (hp1':=[]) (tk1':=[(0,some ⟨41,4,(Enc.encL a0).length,[]⟩)]) (hpF:=[]) (tkF:=[]) (res2:=resOf [.one (dI x1)]) (nx2:=1) [0] Z Z (m59f20_ok a0 x1 hx1) Z Z qZ Z Z gZ (jR Z jZ) hZ kZ Z Z Z Z Z bZ Z Z Z Z)<|rR Z Z Z (RO.binInt Z Z Z)<|rA Z Z Z<|XL.nil<|XQ.seq<|XC.ret ?_
 have e:=sI h0;subst e
 exact hQ0 _ _ _ (.inr Z) Z (sL (Nat.le_trans hv0 (lb Z)) Z Z Z Z Z)
def m59f22_l0 (a0:List Bnd) (s1:Int):Option (LO Int (Unit⊕Int)) :=
 cond (decide (s1 < (a0.length:Int)))
   (Option.bind (idx a0 s1) fun (x3:Bnd) =>
 Option.bind (Option.bind (m38 x3.lo) fun (x6:(List Int)) =>
 Option.bind (m38 x3.hi) fun (x7:(List Int)) =>
 some (decide (0 < (w64 ((x6.length:Int)+(x7.length:Int)))))) (fun (y4:Bool)=>cond y4
   (some (.done (.inr s1)))
   (some (.next (w64 (s1+1))))))
   (some (.done (.inl ())))
def m59f22 (a0:List Bnd):Option Int :=
 Option.bind (loopN (m59f22_l0 a0) FUEL 0) (Sum.elim (fun (o1:Unit)=>some (-1)) (fun o=>some o))
theorem m59f22_ok (a0:List Bnd) (r:Int) (h0:m59f22 a0=some r):CallM Try.prog 59 [.one (dA 0 a0),.one (.fn 37 [])] ⟨[],[(0,some ⟨41,4,(Enc.encL a0).length,[]⟩)],1⟩ (resOf [.one (dI r)]) ⟨[],[(0,some ⟨41,4,(Enc.encL a0).length,[]⟩)],1⟩:=by
 unfold m59f22 at h0
 refine CallM.of_bodyD ⟨[(4,.v (.one (dI r)))],[],[(0,some ⟨41,4,(Enc.encL a0).length,[]⟩)],1,19,[]⟩ Z Z en_59 (lb Z) Z (RAs.tmp Z .nil) (fun w0 M V0 Q hv0 hQ0=>?_)
 simp only [entry]
 refine XC.seq<|XC.region<|rA Z Z Z<|XL.nil<|XQ.seq<|XC.seq<|XC.seq<|XC.region<|rM Z Z Z<|rR Z Z Z (RO.lenE (α:=Bnd) sl_22 Z (.app _ _))<|rM Z Z Z<|XL.nil<|XQ.seq<|XC.block ?_
 refine XC.joinX 0 (fun (o1:Unit)=>⟨[],[],[(0,some ⟨41,4,(Enc.encL a0).length,[]⟩)],1,19,[]⟩) (fun (o1:Unit)=>(some (-1))=some r) ?_ ?_
 refine bindK h0 (fun o2 hl1 h0=>?_)
 refine XC.loopM (m59f22_l0 a0) (fun s1=>⟨[(0,.v (.one (dA 0 a0))),(1,.v (.one (.fn 37 []))),(7,.v (.one (dI (a0.length:Int)))),(8,.v (.one (dI s1)))],[],[(0,some ⟨41,4,(Enc.encL a0).length,[]⟩)],1,19,[]⟩) 0 o2 (sL (Nat.le_trans hv0 (lb Z)) Z Z Z Z Z) hl1 (fun s1 n1 oo1 h1 ho1=>?_)
 unfold m59f22_l0 at h1
 refine XC.seq<|XC.region<|rR Z Z Z (RO.binInt Z Z Z)<|XL.nil<|XQ.seq<|XC.seq ?_
 refine XC.cond (b:=(decide (s1 < (a0.length:Int)))) Z (fun c3=>?_) (fun c3=>?_)
 replace h1:=condT c3 h1
 refine XC.skip<|XQ.seq<|XC.seq<|XC.block<|XC.seq<|XC.region<|rM Z Z Z<|rA Z Z Z<|XL.nil<|XQ.seq<|XC.seq<|XC.region<|rM Z Z Z<|rM Z Z Z ?_
 refine rM Z Z Z ?_
 refine bindK h1 (fun x4 hx4 h1=>?_)
 refine rR Z Z Z (RO.indexE (α:=Bnd) sl_22 Z (.app _ _) Z hx4)<|rR Z Z Z (RO.loadPelCE (x4:Bnd) ag_41 Z) ?_
 refine bindK h1 (fun y5 h2 h1=>?_)
 have hc6:CallM Try.prog 37 [.agg (cE x4)] ⟨[],[(0,some ⟨41,4,(Enc.encL a0).length,[]⟩)],1⟩ (resOf [.one (dB y5)]) ⟨[],[(0,some ⟨41,4,(Enc.encL a0).length,[]⟩)],2⟩:=by
  refine CallM.of_bodyD ⟨[(2,.v (.one (dB y5)))],[],[(0,some ⟨41,4,(Enc.encL a0).length,[]⟩)],2,13,[]⟩ Z Z en_37 (lb Z) Z (RAs.tmp Z .nil) (fun w0 M V0 Q hv2 hQ2=>?_)
  simp only [entry]
  refine XC.seq<|XC.region<|XL.put Z Z (lb Z) (OpOK.box Z)<|rA Z Z Z<|XL.nil<|XQ.seq<|XC.seq ?_
  refine XC.anyRun [] [] mixed (by kernel_rfl) (by kernel_rfl) (by kernel_rfl) ?_
  refine RunA.rd Z Z Z (OpOK.of_ro (RO.fieldOwn fo_41_0 Z)) Z<|RunA.rd Z Z Z (OpOK.of_ro (RO.loadOwnAgg ag_39 Z Z Z Z)) Z ?_
  refine bindK h2 (fun x7 hx7 h2=>?_)
  refine RunA.rd Z Z Z (OpOK.callFun (m38_ok x4.lo x7 hx7) Z (.cons (.agg (.cons (.d _) (.cons (.d _) .nil))) .nil)) Z<|RunA.rd Z Z Z (OpOK.of_ro (RO.lenE (α:=Int) sl_66 Z (.d _))) Z<|RunA.rd Z Z Z (OpOK.of_ro (RO.fieldOwn fo_41_1 Z)) Z<|RunA.rd Z Z Z (OpOK.of_ro (RO.loadOwnAgg ag_39 Z Z Z Z)) Z ?_
  refine bindK h2 (fun x8 hx8 h2=>?_)
  refine RunA.rd Z Z Z (OpOK.callFun (m38_ok x4.hi x8 hx8) Z (.cons (.agg (.cons (.d _) (.cons (.d _) .nil))) .nil)) Z<|RunA.rd Z Z Z (OpOK.of_ro (RO.lenE (α:=Int) sl_66 Z (.d _))) Z<|RunA.rd Z Z Z (OpOK.of_ro (RO.binInt Z Z Z)) Z<|RunA.rd Z Z Z (OpOK.of_ro (RO.binInt Z Z Z)) Z<|RunA.rd Z Z Z (OpOK.of_ro (RO.assign Z)) Z ?_
  refine RunA.nil ⟨?ex,_,_,Z,?_⟩
  case ex=>exact trivial
  refine XQ.less (st':=⟨[(2,.v (.one (dB (decide (0 < (w64 ((x7.length:Int)+(x8.length:Int))))))))],[(1,.cells 41 (cE x4))],[(0,some ⟨41,4,(Enc.encL a0).length,[]⟩)],2,13,[]⟩) (sL (Nat.le_trans hv2 (lb Z)) Z Z Z Z Z)<|XQ.seq<|XC.ret ?_
  have e:=sI h2;subst e
  exact hQ2 _ _ _ (.inr Z) Z (sL (Nat.le_trans hv2 (lb Z)) Z Z Z Z Z)
 refine XL.put Z Z (lb Z) (OpOK.callW Z Z Z hc6 Z hZ (kA Z))<|XL.nil<|XQ.seq ?_
 refine XC.cond (b:=y5) Z (fun c9=>?_) (fun c9=>?_)
 replace h1:=condT c9 h1
 refine XC.seq<|XC.region<|rM Z Z Z<|rA Z Z Z<|XL.nil<|XQ.seq<|XC.ret ?_
 have e:=sI h1;subst e
 have e_:_=_:=ho1
 subst e_
 try dsimp only [Sum.elim_inl,Sum.elim_inr] at h0
 have e:=sI h0;subst e
 exact hQ0 _ _ _ (.inr Z) Z (sL (Nat.le_trans hv0 (lb Z)) Z Z Z Z Z)
 replace h1:=condF c9 h1
 refine XC.skip<|XQ.inBlock<|XQ.seq<|XC.region<|rR Z Z Z (RO.binInt Z Z Z)<|rM Z Z Z<|XL.nil ?_
 have e:=sI h1;subst e
 refine XQ.nextM (w64 (s1+1)) (sL (Nat.le_trans hv0 (lb Z)) Z Z Z Z Z) ho1
 replace h1:=condF c3 h1
 refine XC.exit<|XQ.thenE<|XQ.thenE ?_
 have e:=sI h1;subst e
 have e_:_=_:=ho1
 subst e_
 exact XQ.joinX () (sL (Nat.le_trans hv0 (lb Z)) Z Z Z Z Z) h0
 intro o1 h0
 refine XQ.blockX<|XQ.seq<|XC.seq<|XC.region<|rA Z Z Z<|XL.nil<|XQ.seq<|XC.ret ?_
 have e:=sI h0;subst e
 exact hQ0 _ _ _ (.inr Z) Z (sL (Nat.le_trans hv0 (lb Z)) Z Z Z Z Z)
def m35f21 (a0:List Bnd):Option Bool :=
 Option.bind (m59f22 a0) fun (x1:Int) =>
 some (decide (0≤x1))
theorem m35f21_ok (a0:List Bnd) (r:Bool) (h0:m35f21 a0=some r):CallM Try.prog 35 [.one (dA 0 a0),.one (.fn 37 [])] ⟨[],[(0,some ⟨41,4,(Enc.encL a0).length,[]⟩)],1⟩ (resOf [.one (dB r)]) ⟨[],[(0,some ⟨41,4,(Enc.encL a0).length,[]⟩)],1⟩:=by
 unfold m35f21 at h0
 refine CallM.of_bodyD ⟨[(4,.v (.one (dB r)))],[],[(0,some ⟨41,4,(Enc.encL a0).length,[]⟩)],1,9,[]⟩ Z Z en_35 (lb Z) Z (RAs.tmp Z .nil) (fun w0 M V0 Q hv0 hQ0=>?_)
 simp only [entry]
 refine XC.seq<|XC.region<|rA Z Z Z<|XL.nil<|XQ.seq<|XC.seq<|XC.region<|rM Z Z Z<|rM Z Z Z ?_
 refine bindK h0 (fun x1 hx1 h0=>?_)
 refine XL.put Z Z (lb Z) (OpOK.callG (hp1':=[]) (tk1':=[(0,some ⟨41,4,(Enc.encL a0).length,[]⟩)]) (hpF:=[]) (tkF:=[]) (res2:=resOf [.one (dI x1)]) (nx2:=1) [0] Z Z (m59f22_ok a0 x1 hx1) Z Z qZ Z Z gZ (jR Z jZ) hZ kZ Z Z Z Z Z bZ Z Z Z Z)<|rR Z Z Z (RO.binInt Z Z Z)<|rA Z Z Z<|XL.nil<|XQ.seq<|XC.ret ?_
 have e:=sI h0;subst e
 exact hQ0 _ _ _ (.inr Z) Z (sL (Nat.le_trans hv0 (lb Z)) Z Z Z Z Z)
def m61f24_l0 (a0:Lvl) (s2:Int×(List Lvl)):Option (LO (Int×(List Lvl)) (((List Lvl)))) :=
 cond (decide (s2.1 < (a0.vs.length:Int)))
   (Option.bind (idx a0.vs s2.1) fun (x6:LV) =>
 Option.bind (guardO (Nat.ble (s2.2.length+([(⟨0,[x6]⟩:Lvl)]).length) 1000000000)
 (some ())) (fun (y7:Unit)=>some (.next ((w64 (s2.1+1)),(s2.2++([(⟨0,[x6]⟩:Lvl)]))))))
   (some (.done s2.2))
noncomputable abbrev m61f24_h0 (p0_:Lvl):List (Nat×HB) :=
 [(0,.cells 39 (cE p0_)),(1,.cells 31 [dA 2 ([]:List Lvl)])]
noncomputable abbrev m61f24_h1 :HB :=
 .loop .ready none [(2,.v (.one (.ptr 1 0))),(6,.v (.one (.fn 62 [(0,0)])))] 13 #[7] m61f24_c0 m61f24_c1 3
noncomputable abbrev m61f24_h2 (p0_:Lvl) (p1_:(List Lvl)):List (Nat×HB) :=
 [(0,.cells 39 (cE p0_)),(1,.cells 31 [dA 2 p1_]),(3,.obj (.deferred (some []))),(4,m61f24_h1)]
noncomputable abbrev m61f24_h3 (p0_:Lvl):List (Nat×HB) :=
 [(0,.cells 39 (cE p0_)),(1,.cells 31 [dA 2 ([]:List Lvl)]),(3,.obj (.deferred (some []))),(4,m61f24_h1)]
noncomputable abbrev m61f24_h4 :HB :=
 .loop .busy none [(2,.v (.one (.ptr 1 0))),(6,.v (.one (.fn 62 [(0,0)])))] 13 #[7] m61f24_c0 m61f24_c1 3
noncomputable abbrev m61f24_h5 (p0_:Lvl):List (Nat×HB) :=
 [(0,.cells 39 (cE p0_)),(1,.cells 31 [dA 2 ([]:List Lvl)]),(3,.obj (.deferred (some []))),(4,m61f24_h4),(5,.cells 39 [dI p0_.c,dN])]
noncomputable abbrev m61f24_h6 (p0_:Lvl):List (Nat×HB) :=
 [(0,.cells 39 (cE p0_)),(1,.cells 31 [dA 2 ([]:List Lvl)]),(3,.obj (.deferred (some []))),(4,m61f24_h1),(5,.cells 39 [dI p0_.c,dN])]
noncomputable abbrev m61f24_h7 (p0_:Lvl):HB :=
 .cells 31 [dA 2 ((([]:List Lvl)++([(⟨p0_.c,([]:List LV)⟩:Lvl)])):List Lvl)]
noncomputable abbrev m61f24_h8 (p0_:Lvl):List (Nat×HB) :=
 [(0,.cells 39 (cE p0_)),(1,m61f24_h7 p0_),(3,.obj (.deferred (some []))),(4,m61f24_h4)]
noncomputable abbrev m61f24_h9 (p0_:Lvl) (p1_:Int×(List Lvl)) (p2_:LV):List (Nat×HB) :=
 [(0,.cells 39 (cE p0_)),(1,.cells 31 [dA 2 p1_.2]),(3,.obj (.deferred (some []))),(4,m61f24_h1),(5,.cells 59 (cE p2_))]
noncomputable abbrev m61f24_h10 (p0_:Lvl) (p1_:Int×(List Lvl)) (p2_:LV):List (Nat×HB) :=
 [(0,.cells 39 (cE p0_)),(1,.cells 31 [dA 2 p1_.2]),(3,.obj (.deferred (some []))),(4,m61f24_h4),(5,.cells 59 (cE p2_)),(7,.cells 39 [dI 0,dA 6 ([p2_]:List LV)])]
noncomputable abbrev m61f24_h11 (p0_:Lvl) (p1_:Int×(List Lvl)) (p2_:LV):List (Nat×HB) :=
 [(0,.cells 39 (cE p0_)),(1,.cells 31 [dA 2 p1_.2]),(3,.obj (.deferred (some []))),(4,m61f24_h1),(5,.cells 59 (cE p2_)),(7,.cells 39 [dI 0,dA 6 ([p2_]:List LV)])]
noncomputable abbrev m61f24_h12 (p0_:Int×(List Lvl)) (p1_:LV):HB :=
 .cells 31 [dA 2 ((p0_.2++([(⟨0,[p1_]⟩:Lvl)])):List Lvl)]
noncomputable abbrev m61f24_h13 (p0_:Lvl) (p1_:Int×(List Lvl)) (p2_:LV):List (Nat×HB) :=
 [(0,.cells 39 (cE p0_)),(1,m61f24_h12 p1_ p2_),(3,.obj (.deferred (some []))),(4,m61f24_h4),(5,.cells 59 (cE p2_))]
def m61f24 (a0:Lvl):Option (((List Lvl))) :=
 Option.bind (Option.bind (cond (decide (0 < a0.c))
   (Option.bind (guardO (Nat.ble (([]:List Lvl).length+([(⟨a0.c,([]:List LV)⟩:Lvl)]).length) 1000000000)
 (some ())) (fun (y5:Unit)=>some (([]:List Lvl)++([(⟨a0.c,([]:List LV)⟩:Lvl)]))))
   (cond ((a0.vs.length:Int)==0)
   (Option.bind (guardO (Nat.ble (([]:List Lvl).length+([(⟨a0.c,([]:List LV)⟩:Lvl)]).length) 1000000000)
 (some ())) (fun (y10:Unit)=>some (([]:List Lvl)++([(⟨a0.c,([]:List LV)⟩:Lvl)]))))
   (some ([])))) (fun (v3:(List Lvl))=>Option.bind (loopN (m61f24_l0 a0) FUEL (0,v3)) (fun (o4:(List Lvl))=>some o4))) (fun (y1:(List Lvl))=>some y1)
theorem m61f24_ok (a0:Lvl) (r:((List Lvl))) (h0:m61f24 a0=some r):CallM Try.prog 61 [.one (dN),.one (.fn 62 [(0,0)])] ⟨[(0,.cells 39 (cE a0))],[],1⟩ (resOf [.one (dA 2 r)]) ⟨[(0,.cells 39 (cE a0))],[(2,some ⟨39,2,(Enc.encL r).length,[]⟩)],5⟩:=by
 unfold m61f24 at h0
 refine CallM.of_bodyD ⟨[(4,.v (.one (dA 2 r)))],[(0,.cells 39 (cE a0))],[(2,some ⟨39,2,(Enc.encL r).length,[]⟩)],5,13,[]⟩ Z Z en_61 (lb Z) Z (RAs.tmp Z .nil) (fun w0 M V0 Q hv0 hQ0=>?_)
 simp only [entry]
 refine XC.seq<|XC.region<|XL.put Z Z (lb Z) (OpOK.box Z)<|rA Z Z Z<|XL.nil<|XQ.seq<|XC.seq<|XC.seq<|XC.region<|rM Z Z Z<|XL.nil<|XQ.seq<|XC.block<|XC.adoptC (i:=1) (off:=0) 39 2 Z Z ?_
 refine XC.less (st':=⟨[(2,.v (.one (.ptr 1 0))),(6,.v (.one (.fn 62 [(0,0)])))],m61f24_h0 a0,[(2,some ⟨39,2,(Enc.encL ([]:List Lvl)).length,[]⟩)],3,13,[]⟩) (sL (Nat.le_trans hv0 (lb Z)) Z Z Z Z Z) ?_
 refine bindK h0 (fun y1 h1 h0=>?_)
 have hc2:CallM Try.prog 62 [.one (.yld 4),.one (.ptr 0 0)] ⟨[(4,.loop .ready none [(2,.v (.one (.ptr 1 0))),(6,.v (.one (.fn 62 [(0,0)])))] 13 #[7] m61f24_c0 m61f24_c1 3),(3,.obj (.deferred (some []))),(0,.cells 39 (cE a0)),(1,.cells 31 [dA 2 ([]:List Lvl)])],[(2,some ⟨39,2,(Enc.encL ([]:List Lvl)).length,[]⟩)],5⟩ (resOf []) ⟨m61f24_h2 a0 y1,[(2,some ⟨39,2,(Enc.encL y1).length,[]⟩)],5⟩:=by
  refine CallM.of_bodyD ⟨[],m61f24_h2 a0 y1,[(2,some ⟨39,2,(Enc.encL y1).length,[]⟩)],5,36,[]⟩ Z Z en_62 (lb Z) Z .nil (fun w0 M V0 Q hv1 hQ1=>?_)
  simp only [entry]
  refine XC.seq<|XC.seq ?_
  refine XC.joinR (fun (v3:(List Lvl))=>⟨[(0,.v (.one (.yld 4))),(1,.v (.one (.ptr 0 0))),(21,.v (.one (dB false)))],[(0,.cells 39 (cE a0)),(1,.cells 31 [dA 2 v3]),(3,.obj (.deferred (some []))),(4,m61f24_h1)],[(2,some ⟨39,2,(Enc.encL v3).length,[]⟩)],5,36,[]⟩) (fun (v3:(List Lvl))=>(Option.bind (loopN (m61f24_l0 a0) FUEL (0,v3)) (fun (o4:(List Lvl))=>some o4))=some y1) ?_ ?_
  refine bindK h1 (fun w2_ h2 h1=>?_)
  refine XC.region<|rR Z Z Z (RO.fieldOwn fo_39_0 Z)<|rR Z Z Z (RO.loadOwn ag_3 Z Z Z)<|rR Z Z Z (RO.binInt Z Z Z)<|rM Z Z Z ?_
  refine XL.case (d:=8) (c:=(decide (0 < a0.c))) Z (fun c4=>?_) (fun c4=>?_)
  replace h2:=condT c4 h2
  refine XL.no Z Z<|XL.no Z Z<|XL.no Z Z<|XL.no Z Z<|rR Z Z Z (RO.pickT Z Z)<|rM Z Z Z<|rM Z Z Z<|rR Z Z Z (RO.fieldOwn fo_39_0 Z)<|rR Z Z Z (RO.loadOwn ag_3 Z Z Z)<|rR Z Z Z (RO.build1 bd_39 Z Z Z) ?_
  refine bindK h2 (fun y5 h3 h2=>?_)
  have ha6:ExecOK Try.prog (some 4) m61f24_c0 ⟨[(2,.v (.one (.ptr 1 0))),(6,.v (.one (.fn 62 [(0,0)]))),(7,.v (.agg [dI a0.c,dN]))],m61f24_h3 a0,[(2,some ⟨39,2,(Enc.encL ([]:List Lvl)).length,[]⟩)],5,13,[]⟩ .normal ⟨[(2,.v (.one (.ptr 1 0))),(5,.v (.one (.ptr 5 0)))],m61f24_h6 a0,[(2,some ⟨39,2,(Enc.encL ([]:List Lvl)).length,[]⟩)],6,13,[]⟩:=by
   refine ExecOK.walk (fun w0 M V0 ro n Q hv3 hro3 hQn3=>?_)
   refine XC.region<|XL.put Z Z (lb Z) (OpOK.alloc z_39 Z)<|XL.eff Z Z (OpOK.store ag_39 Z Z Z Z (lb Z) Z)<|XL.nil ?_
   exact XQ.of hQn3 (sL (Nat.le_trans hv3 (lb Z)) Z Z Z Z Z)
  have hb7:ExecOK Try.prog (some 4) m61f24_c1 ⟨[(2,.v (.one (.ptr 1 0))),(5,.v (.one (.ptr 5 0)))],m61f24_h5 a0,[(2,some ⟨39,2,(Enc.encL ([]:List Lvl)).length,[]⟩)],6,13,[]⟩ .normal ⟨[],m61f24_h8 a0,[(2,some ⟨39,2,(Enc.encL ((([]:List Lvl)++([(⟨a0.c,([]:List LV)⟩:Lvl)])):List Lvl)).length,[]⟩)],7,13,[]⟩:=by
   refine ExecOK.walk (fun w0 M V0 ro n Q hv3 hro3 hQn3=>?_)
   refine XC.block<|XC.region<|rR Z Z Z (RO.loadOwn ag_31 Z Z Z)<|rR Z Z Z (RO.loadOwnAgg ag_39 Z Z Z Z)<|XL.put Z Z (lb Z) (OpOK.lit1E (α:=Lvl) ((⟨a0.c,([]:List LV)⟩:Lvl)) sl_31 z_39 Z Z (lb Z) (lb Z) Z Z (.cons (.d _) (.cons (.nil _) .nil)) Z) ?_
   refine guardK h3 (fun g8 h3=>?_)
   refine XL.put Z Z (lb Z) (OpOK.appendE (α:=Lvl) sl_31 el_39 Z Z Z Z Z (.app _ _) g8)<|XL.eff Z Z (OpOK.store ag_31 Z Z Z Z (lb Z) Z)<|XL.nil<|XQ.inBlock ?_
   have e:=sI h3;subst e
   exact XQ.of hQn3 (sL (Nat.le_trans hv3 (lb Z)) Z Z Z Z Z)
  refine XL.put Z Z (lb Z) (OpOK.yield (jump:=none) Z Z Z Z Z (ExecOK.from ha6 (fun E hv=>(sL (Nat.le_trans hv (lb Z)) Z Z Z Z Z))) Z (ExecOK.from hb7 (fun E hv=>(sL (Nat.le_trans hv (lb Z)) Z Z Z Z Z))) Z Z) ?_
  refine rR Z Z Z (RO.not Z)<|rR Z Z Z (RO.pickT Z Z)<|XL.nil ?_
  have e:=sI h2;subst e
  exact XQ.joinR (([]:List Lvl)++([(⟨a0.c,([]:List LV)⟩:Lvl)])) (sL (Nat.le_trans hv1 (lb Z)) Z Z Z Z Z) h1
  replace h2:=condF c4 h2
  refine rR Z Z Z (RO.fieldOwn fo_39_1 Z)<|rR Z Z Z (RO.loadOwn ag_37 Z Z Z)<|rR Z Z Z (RO.lenE (α:=LV) sl_37 Z (.d _))<|rR Z Z Z (RO.binInt Z Z Z)<|rR Z Z Z (RO.pickF Z Z)<|rM Z Z Z ?_
  refine XL.case (d:=14) (c:=((a0.vs.length:Int)==0)) Z (fun c9=>?_) (fun c9=>?_)
  replace h2:=condT c9 h2
  refine rM Z Z Z<|rR Z Z Z (RO.fieldOwn fo_39_0 Z)<|rR Z Z Z (RO.loadOwn ag_3 Z Z Z)<|rR Z Z Z (RO.build1 bd_39 Z Z Z) ?_
  refine bindK h2 (fun y10 h3 h2=>?_)
  have ha11:ExecOK Try.prog (some 4) m61f24_c0 ⟨[(2,.v (.one (.ptr 1 0))),(6,.v (.one (.fn 62 [(0,0)]))),(7,.v (.agg [dI a0.c,dN]))],m61f24_h3 a0,[(2,some ⟨39,2,(Enc.encL ([]:List Lvl)).length,[]⟩)],5,13,[]⟩ .normal ⟨[(2,.v (.one (.ptr 1 0))),(5,.v (.one (.ptr 5 0)))],m61f24_h6 a0,[(2,some ⟨39,2,(Enc.encL ([]:List Lvl)).length,[]⟩)],6,13,[]⟩:=by
   refine ExecOK.walk (fun w0 M V0 ro n Q hv3 hro3 hQn3=>?_)
   refine XC.region<|XL.put Z Z (lb Z) (OpOK.alloc z_39 Z)<|XL.eff Z Z (OpOK.store ag_39 Z Z Z Z (lb Z) Z)<|XL.nil ?_
   exact XQ.of hQn3 (sL (Nat.le_trans hv3 (lb Z)) Z Z Z Z Z)
  have hb12:ExecOK Try.prog (some 4) m61f24_c1 ⟨[(2,.v (.one (.ptr 1 0))),(5,.v (.one (.ptr 5 0)))],m61f24_h5 a0,[(2,some ⟨39,2,(Enc.encL ([]:List Lvl)).length,[]⟩)],6,13,[]⟩ .normal ⟨[],m61f24_h8 a0,[(2,some ⟨39,2,(Enc.encL ((([]:List Lvl)++([(⟨a0.c,([]:List LV)⟩:Lvl)])):List Lvl)).length,[]⟩)],7,13,[]⟩:=by
   refine ExecOK.walk (fun w0 M V0 ro n Q hv3 hro3 hQn3=>?_)
   refine XC.block<|XC.region<|rR Z Z Z (RO.loadOwn ag_31 Z Z Z)<|rR Z Z Z (RO.loadOwnAgg ag_39 Z Z Z Z)<|XL.put Z Z (lb Z) (OpOK.lit1E (α:=Lvl) ((⟨a0.c,([]:List LV)⟩:Lvl)) sl_31 z_39 Z Z (lb Z) (lb Z) Z Z (.cons (.d _) (.cons (.nil _) .nil)) Z) ?_
   refine guardK h3 (fun g13 h3=>?_)
   refine XL.put Z Z (lb Z) (OpOK.appendE (α:=Lvl) sl_31 el_39 Z Z Z Z Z (.app _ _) g13)<|XL.eff Z Z (OpOK.store ag_31 Z Z Z Z (lb Z) Z)<|XL.nil<|XQ.inBlock ?_
   have e:=sI h3;subst e
   exact XQ.of hQn3 (sL (Nat.le_trans hv3 (lb Z)) Z Z Z Z Z)
  refine XL.put Z Z (lb Z) (OpOK.yield (jump:=none) Z Z Z Z Z (ExecOK.from ha11 (fun E hv=>(sL (Nat.le_trans hv (lb Z)) Z Z Z Z Z))) Z (ExecOK.from hb12 (fun E hv=>(sL (Nat.le_trans hv (lb Z)) Z Z Z Z Z))) Z Z) ?_
  refine rR Z Z Z (RO.not Z)<|rR Z Z Z (RO.pickT Z Z)<|XL.nil ?_
  have e:=sI h2;subst e
  exact XQ.joinR (([]:List Lvl)++([(⟨a0.c,([]:List LV)⟩:Lvl)])) (sL (Nat.le_trans hv1 (lb Z)) Z Z Z Z Z) h1
  replace h2:=condF c9 h2
  refine XL.no Z Z<|XL.no Z Z<|XL.no Z Z<|XL.no Z Z<|XL.no Z Z<|XL.no Z Z<|rR Z Z Z (RO.pickF Z Z)<|XL.nil ?_
  have e:=sI h2;subst e
  exact XQ.joinR ([]) (sL (Nat.le_trans hv1 (lb Z)) Z Z Z Z Z) h1
  intro v3 h1
  refine XQ.seq ?_
  refine XC.cond Z (fun h=>nomatch h) (fun _=>?_)
  refine XC.skip<|XQ.seq<|XC.seq<|XC.region<|rR Z Z Z (RO.fieldOwn fo_39_1 Z)<|rR Z Z Z (RO.loadOwn ag_37 Z Z Z)<|rR Z Z Z (RO.lenE (α:=LV) sl_37 Z (.d _))<|rM Z Z Z<|XL.nil<|XQ.seq<|XC.block ?_
  refine XC.joinX 0 (fun (o14:(List Lvl))=>⟨[],[(0,.cells 39 (cE a0)),(1,.cells 31 [dA 2 o14]),(3,.obj (.deferred (some []))),(4,m61f24_h1)],[(2,some ⟨39,2,(Enc.encL o14).length,[]⟩)],5,36,[]⟩) (fun (o14:(List Lvl))=>(some o14)=some y1) ?_ ?_
  refine bindK h1 (fun o15 hl2 h1=>?_)
  refine XC.loopM (m61f24_l0 a0) (fun s2=>⟨[(0,.v (.one (.yld 4))),(23,.v (.one (dS a0.vs))),(24,.v (.one (dI (a0.vs.length:Int)))),(25,.v (.one (dI s2.1)))],[(0,.cells 39 (cE a0)),(1,.cells 31 [dA 2 s2.2]),(3,.obj (.deferred (some []))),(4,m61f24_h1)],[(2,some ⟨39,2,(Enc.encL s2.2).length,[]⟩)],5,36,[]⟩) (0,v3) o15 (sL (Nat.le_trans hv1 (lb Z)) Z Z Z Z Z) hl2 (fun s2 n2 oo2 h2 ho2=>?_)
  unfold m61f24_l0 at h2
  refine XC.seq<|XC.region<|rR Z Z Z (RO.binInt Z Z Z)<|XL.nil<|XQ.seq<|XC.seq ?_
  refine XC.cond (b:=(decide (s2.1 < (a0.vs.length:Int)))) Z (fun c16=>?_) (fun c16=>?_)
  replace h2:=condT c16 h2
  refine XC.skip<|XQ.seq<|XC.seq<|XC.block<|XC.seq<|XC.region ?_
  refine bindK h2 (fun x17 hx17 h2=>?_)
  refine rR Z Z Z (RO.indexE (α:=LV) sl_37 Z (.d _) Z hx17)<|rR Z Z Z (RO.loadPelCE (x17:LV) ag_59 Z)<|XL.put Z Z (lb Z) (OpOK.alloc z_59 Z)<|XL.eff Z Z (OpOK.storeCE (x17:LV) ag_59 Z Z Z Z Z)<|XL.nil<|XQ.seq<|XC.seq<|XC.region<|rM Z Z Z<|rR Z Z Z (RO.loadCE (x17:LV) ag_59 Z Z)<|XL.put Z Z (lb Z) (OpOK.lit1E (α:=LV) (x17) sl_37 z_59 Z Z (lb Z) (lb Z) Z Z (.cons (.d _) (.cons (.d _) .nil)) Z)<|rR Z Z Z (RO.build1 bd_39 Z Z Z) ?_
  refine bindK h2 (fun y18 h3 h2=>?_)
  have ha19:ExecOK Try.prog (some 4) m61f24_c0 ⟨[(2,.v (.one (.ptr 1 0))),(6,.v (.one (.fn 62 [(0,0)]))),(7,.v (.agg [dI 0,dA 6 ([x17]:List LV)]))],m61f24_h9 a0 s2 x17,[(2,some ⟨39,2,(Enc.encL s2.2).length,[]⟩),(6,some ⟨59,2,(Enc.encL ([x17]:List LV)).length,[]⟩)],7,13,[]⟩ .normal ⟨[(2,.v (.one (.ptr 1 0))),(5,.v (.one (.ptr 7 0)))],m61f24_h11 a0 s2 x17,[(2,some ⟨39,2,(Enc.encL s2.2).length,[]⟩),(6,some ⟨59,2,(Enc.encL ([x17]:List LV)).length,[]⟩)],8,13,[]⟩:=by
   refine ExecOK.walk (fun w0 M V0 ro n Q hv3 hro3 hQn3=>?_)
   refine XC.region<|XL.put Z Z (lb Z) (OpOK.alloc z_39 Z)<|XL.eff Z Z (OpOK.store ag_39 Z Z Z Z (lb Z) Z)<|XL.nil ?_
   exact XQ.of hQn3 (sL (Nat.le_trans hv3 (lb Z)) Z Z Z Z Z)
  have hb20:ExecOK Try.prog (some 4) m61f24_c1 ⟨[(2,.v (.one (.ptr 1 0))),(5,.v (.one (.ptr 7 0)))],m61f24_h10 a0 s2 x17,[(2,some ⟨39,2,(Enc.encL s2.2).length,[]⟩),(6,some ⟨59,2,(Enc.encL ([x17]:List LV)).length,[]⟩)],8,13,[]⟩ .normal ⟨[],m61f24_h13 a0 s2 x17,[(2,some ⟨39,2,(Enc.encL ((s2.2++([(⟨0,[x17]⟩:Lvl)])):List Lvl)).length,[]⟩),(6,some ⟨59,2,(Enc.encL ([x17]:List LV)).length,[]⟩)],9,13,[]⟩:=by
   refine ExecOK.walk (fun w0 M V0 ro n Q hv3 hro3 hQn3=>?_)
   refine XC.block<|XC.region<|rR Z Z Z (RO.loadOwn ag_31 Z Z Z)<|rR Z Z Z (RO.loadOwnAgg ag_39 Z Z Z Z)<|XL.put Z Z (lb Z) (OpOK.lit1E (α:=Lvl) ((⟨0,[x17]⟩:Lvl)) sl_31 z_39 Z Z (lb Z) (lb Z) Z Z (.cons (.d _) (.cons (.app _ _ _) .nil)) Z) ?_
   refine guardK h3 (fun g21 h3=>?_)
   refine XL.put Z Z (lb Z) (OpOK.appendE (α:=Lvl) sl_31 el_39 Z Z Z Z Z (.app _ _) g21)<|XL.eff Z Z (OpOK.store ag_31 Z Z Z Z (lb Z) Z)<|XL.nil<|XQ.inBlock ?_
   have e:=sI h3;subst e
   exact XQ.of hQn3 (sL (Nat.le_trans hv3 (lb Z)) Z Z Z Z Z)
  refine XL.put Z Z (lb Z) (OpOK.yield (jump:=none) Z Z Z Z Z (ExecOK.from ha19 (fun E hv=>(sL (Nat.le_trans hv (lb Z)) Z Z Z Z Z))) Z (ExecOK.from hb20 (fun E hv=>(sL (Nat.le_trans hv (lb Z)) Z Z Z Z Z))) Z Z) ?_
  refine rR Z Z Z (RO.not Z)<|XL.nil<|XQ.seq ?_
  refine XC.cond Z (fun h=>nomatch h) (fun _=>?_)
  refine XC.skip<|XQ.inBlock<|XQ.seq<|XC.region<|rR Z Z Z (RO.binInt Z Z Z)<|rM Z Z Z<|XL.nil ?_
  have e:=sI h2;subst e
  refine XQ.nextM ((w64 (s2.1+1)),(s2.2++([(⟨0,[x17]⟩:Lvl)]))) (sL (Nat.le_trans hv1 (lb Z)) Z Z Z Z Z) ho2
  replace h2:=condF c16 h2
  refine XC.exit<|XQ.thenE<|XQ.thenE ?_
  have e:=sI h2;subst e
  have e_:_=_:=ho2
  subst e_
  exact XQ.joinX s2.2 (sL (Nat.le_trans hv1 (lb Z)) Z Z Z Z Z) h1
  intro o14 h1
  refine XQ.blockX ?_
  have e:=sI h1;subst e
  exact hQ1 _ _ _ (.inl Z) Z (sL (Nat.le_trans hv1 (lb Z)) Z Z Z Z Z)
 refine XC.exec (rangeFunc_out (e:=.normal) rfl hc2 rfl rfl (by intro h;cases h) rfl) rfl ?_
 refine XQ.inBlock<|XQ.seq<|XC.seq<|XC.region<|rR Z Z Z (RO.loadOwn ag_31 Z Z Z)<|rA Z Z Z<|XL.nil<|XQ.seq<|XC.ret ?_
 have e:=sI h0;subst e
 exact hQ0 _ _ _ (.inr Z) Z (sL (Nat.le_trans hv0 (lb Z)) Z Z Z Z Z)
def m39f23 (a0:Lvl):Option (((List Lvl))) :=
 Option.bind (m61f24 a0) fun (x1:((List Lvl))) =>
 some x1
theorem m39f23_ok (a0:Lvl) (r:((List Lvl))) (h0:m39f23 a0=some r):CallM Try.prog 39 [.one (.fn 62 [(0,0)])] ⟨[(0,.cells 39 (cE a0))],[],1⟩ (resOf [.one (dA 2 r)]) ⟨[(0,.cells 39 (cE a0))],[(2,some ⟨39,2,(Enc.encL r).length,[]⟩)],5⟩:=by
 unfold m39f23 at h0
 refine CallM.of_bodyD ⟨[(2,.v (.one (dA 2 r)))],[(0,.cells 39 (cE a0))],[(2,some ⟨39,2,(Enc.encL r).length,[]⟩)],5,5,[]⟩ Z Z en_39 (lb Z) Z (RAs.tmp Z .nil) (fun w0 M V0 Q hv0 hQ0=>?_)
 simp only [entry]
 refine XC.seq<|XC.region<|rA Z Z Z<|XL.nil<|XQ.seq<|XC.seq<|XC.region<|rM Z Z Z ?_
 refine bindK h0 (fun x1 hx1 h0=>?_)
 refine XL.put Z Z (lb Z) (OpOK.callG (hp1':=[(0,.cells 39 (cE a0))]) (tk1':=[(2,some ⟨39,2,(Enc.encL x1).length,[]⟩)]) (hpF:=[]) (tkF:=[]) (res2:=resOf [.one (dA 2 x1)]) (nx2:=5) [0] Z Z (m61f24_ok a0 x1 hx1) Z Z (qB Z Z qZ) Z Z (gR Z gZ) jZ hZ kZ Z Z Z Z Z (bA Z) Z Z Z Z)<|rA Z Z Z<|XL.nil<|XQ.seq<|XC.ret ?_
 have e:=sI h0;subst e
 exact hQ0 _ _ _ (.inr Z) Z (sL (Nat.le_trans hv0 (lb Z)) Z Z Z Z Z)
def m41f25 (a0:Int) (a1:Lvl) (a2:Int) (a3:List Int):Option (((List Int))) :=
 Option.bind (m63 (⟨a0,([]:List LV)⟩:Lvl)) fun (x1:Int×Int) =>
 Option.bind (m63 a1) fun (x2:Int×Int) =>
 guardO (cond (decide (0≤x1.1)) (Nat.blt x1.1.toNat 9) false)
 (guardO (cond (decide (0≤x2.1)) (Nat.blt x2.1.toNat 9) false)
 (Option.bind (a3[0+x1.1.toNat * 9+x2.1.toNat * 1]?) fun (x5:Int) =>
 guardO (cond (decide (0≤x1.1)) (Nat.blt x1.1.toNat 9) false)
 (guardO (cond (decide (0≤x2.1)) (Nat.blt x2.1.toNat 9) false)
 (guardO (Nat.blt (0+x1.1.toNat * 9+x2.1.toNat * 1) a3.length)
 (some (a3.set (0+x1.1.toNat * 9+x2.1.toNat * 1) (min x5 (w64 ((w64 (x2.2 - x1.2)) - a2)))))))))
theorem m41f25_ok (a0:Int) (a1:Lvl) (a2:Int) (a3:List Int) (r:((List Int))) (h0:m41f25 a0 a1 a2 a3=some r):CallM Try.prog 41 [.one (.ptr 0 0),.agg [dI a0,dN],.agg (cE a1),.one (dI a2)] ⟨[(0,.cells 70 (flatE a3))],[],1⟩ (resOf []) ⟨[(0,.cells 70 (flatE r))],[],3⟩:=by
 unfold m41f25 at h0
 refine CallM.of_bodyD ⟨[],[(0,.cells 70 (flatE r))],[],3,41,[]⟩ Z Z en_41 (lb Z) Z .nil (fun w0 M V0 Q hv0 hQ0=>?_)
 simp only [entry]
 refine XC.seq<|XC.region<|XL.put Z Z (lb Z) (OpOK.box Z)<|XL.put Z Z (lb Z) (OpOK.box Z)<|XL.nil<|XQ.seq<|XC.seq<|XC.region<|rR Z Z Z (RO.loadOwnAgg ag_39 Z Z Z Z) ?_
 refine bindK h0 (fun x1 hx1 h0=>?_)
 refine XL.put Z Z (lb Z) (OpOK.callFun (m63_ok (⟨a0,([]:List LV)⟩:Lvl) x1 hx1) Z (.cons (.agg (.cons (.d _) (.cons (.nil _) .nil))) .nil))<|rM Z Z Z<|rR Z Z Z (RO.extract Z Z)<|rR Z Z Z (RO.extract Z Z)<|rA Z Z Z<|rA Z Z Z<|XL.nil<|XQ.seq<|XC.seq<|XC.region<|rR Z Z Z (RO.loadCE (a1:Lvl) ag_39 Z Z) ?_
 refine bindK h0 (fun x2 hx2 h0=>?_)
 refine XL.put Z Z (lb Z) (OpOK.callFun (m63_ok a1 x2 hx2) Z (.cons (.agg (.cons (.d _) (.cons (.d _) .nil))) .nil))<|rM Z Z Z<|rR Z Z Z (RO.extract Z Z)<|rR Z Z Z (RO.extract Z Z)<|rA Z Z Z<|rA Z Z Z<|XL.nil<|XQ.seq ?_
 refine XC.anyRun [19] [] mixed (by kernel_rfl) (by kernel_rfl) (by kernel_rfl) ?_
 refine RunA.rd Z Z Z (OpOK.of_ro (RO.move Z)) Z<|RunA.rd Z Z Z (OpOK.of_ro (RO.move Z)) Z<|RunA.rd Z Z Z (OpOK.of_ro (RO.move Z)) Z<|RunA.rd Z Z Z (OpOK.of_ro (RO.move Z)) Z<|RunA.rd Z Z Z (OpOK.of_ro (RO.move Z)) Z<|RunA.rd Z Z Z (OpOK.of_ro (RO.move Z)) Z<|RunA.rd Z Z Z (OpOK.of_ro (RO.nilCheckPtr Z)) Z ?_
 refine guardK h0 (fun g3 h0=>?_)
 refine RunA.rd Z Z Z (OpOK.of_ro (RO.indexA arr_70 Z Z g3)) Z ?_
 refine guardK h0 (fun g4 h0=>?_)
 refine RunA.rd Z Z Z (OpOK.of_ro (RO.indexA arr_68 Z Z g4)) Z ?_
 refine bindK h0 (fun x5 hx5 h0=>?_)
 refine RunA.rd Z Z Z (OpOK.of_ro (RO.loadA ag_3 Z Z hx5)) Z<|RunA.rd Z Z Z (OpOK.of_ro (RO.move Z)) Z<|RunA.rd Z Z Z (OpOK.of_ro (RO.move Z)) Z<|RunA.rd Z Z Z (OpOK.of_ro (RO.binInt Z Z Z)) Z<|RunA.rd Z Z Z (OpOK.of_ro (RO.move Z)) Z<|RunA.rd Z Z Z (OpOK.of_ro (RO.binInt Z Z Z)) Z<|RunA.rd Z Z Z (OpOK.of_ro (RO.min2 Z Z)) Z<|RunA.rd Z Z Z (OpOK.of_ro (RO.nilCheckPtr Z)) Z ?_
 refine guardK h0 (fun g6 h0=>?_)
 refine RunA.rd Z Z Z (OpOK.of_ro (RO.indexA arr_70 Z Z g6)) Z ?_
 refine guardK h0 (fun g7 h0=>?_)
 refine RunA.rd Z Z Z (OpOK.of_ro (RO.indexA arr_68 Z Z g7)) Z ?_
 refine guardK h0 (fun g8 h0=>?_)
 refine RunA.eff Z Z Z (OpOK.storeA ag_3 Z Z Z g8 Z) Z ?_
 refine RunA.nil ⟨?ex,_,_,Z,?_⟩
 case ex=>exact trivial
 refine XQ.less (st':=⟨[],[(0,.cells 70 (flatE ((a3.set (0+x1.1.toNat * 9+x2.1.toNat * 1) (min x5 (w64 ((w64 (x2.2 - x1.2)) - a2)))):List Int))),(1,.cells 39 [dI a0,dN]),(2,.cells 39 (cE a1))],[],3,41,[]⟩) (stle tZ (hA Z) kZ Z (Nat.le_trans hv0 (lb Z)) Z Z Z (bF Z (bA Z)) Z Z) ?_
 have e:=sI h0;subst e
 exact hQ0 _ _ _ (.inl Z) Z (stle tZ (hA Z) kZ Z (Nat.le_trans hv0 (lb Z)) Z Z Z (bF Z bZ) Z Z)
def m41f26 (a0:Int) (a1:List LV) (a2:Lvl) (a3:Int) (a4:List Int):Option (((List Int))) :=
 Option.bind (m63 (⟨a0,a1⟩:Lvl)) fun (x1:Int×Int) =>
 Option.bind (m63 a2) fun (x2:Int×Int) =>
 guardO (cond (decide (0≤x1.1)) (Nat.blt x1.1.toNat 9) false)
 (guardO (cond (decide (0≤x2.1)) (Nat.blt x2.1.toNat 9) false)
 (Option.bind (a4[0+x1.1.toNat * 9+x2.1.toNat * 1]?) fun (x5:Int) =>
 guardO (cond (decide (0≤x1.1)) (Nat.blt x1.1.toNat 9) false)
 (guardO (cond (decide (0≤x2.1)) (Nat.blt x2.1.toNat 9) false)
 (guardO (Nat.blt (0+x1.1.toNat * 9+x2.1.toNat * 1) a4.length)
 (some (a4.set (0+x1.1.toNat * 9+x2.1.toNat * 1) (min x5 (w64 ((w64 (x2.2 - x1.2)) - a3)))))))))
theorem m41f26_ok (a0:Int) (a1:List LV) (a2:Lvl) (a3:Int) (a4:List Int) (r:((List Int))) (h0:m41f26 a0 a1 a2 a3 a4=some r):CallM Try.prog 41 [.one (.ptr 0 0),.agg [dI a0,dA 1 a1],.agg (cE a2),.one (dI a3)] ⟨[(0,.cells 70 (flatE a4))],[(1,some ⟨59,2,(Enc.encL a1).length,[]⟩)],2⟩ (resOf []) ⟨[(0,.cells 70 (flatE r))],[(1,some ⟨59,2,(Enc.encL a1).length,[]⟩)],4⟩:=by
 unfold m41f26 at h0
 refine CallM.of_bodyD ⟨[],[(0,.cells 70 (flatE r))],[(1,some ⟨59,2,(Enc.encL a1).length,[]⟩)],4,41,[]⟩ Z Z en_41 (lb Z) Z .nil (fun w0 M V0 Q hv0 hQ0=>?_)
 simp only [entry]
 refine XC.seq<|XC.region<|XL.put Z Z (lb Z) (OpOK.box Z)<|XL.put Z Z (lb Z) (OpOK.box Z)<|XL.nil<|XQ.seq<|XC.seq<|XC.region<|rR Z Z Z (RO.loadOwnAgg ag_39 Z Z Z Z) ?_
 refine bindK h0 (fun x1 hx1 h0=>?_)
 refine XL.put Z Z (lb Z) (OpOK.callFun (m63_ok (⟨a0,a1⟩:Lvl) x1 hx1) Z (.cons (.agg (.cons (.d _) (.cons (.app _ _ _) .nil))) .nil))<|rM Z Z Z<|rR Z Z Z (RO.extract Z Z)<|rR Z Z Z (RO.extract Z Z)<|rA Z Z Z<|rA Z Z Z<|XL.nil<|XQ.seq<|XC.seq<|XC.region<|rR Z Z Z (RO.loadCE (a2:Lvl) ag_39 Z Z) ?_
 refine bindK h0 (fun x2 hx2 h0=>?_)
 refine XL.put Z Z (lb Z) (OpOK.callFun (m63_ok a2 x2 hx2) Z (.cons (.agg (.cons (.d _) (.cons (.d _) .nil))) .nil))<|rM Z Z Z<|rR Z Z Z (RO.extract Z Z)<|rR Z Z Z (RO.extract Z Z)<|rA Z Z Z<|rA Z Z Z<|XL.nil<|XQ.seq ?_
 refine XC.anyRun [19] [] mixed (by kernel_rfl) (by kernel_rfl) (by kernel_rfl) ?_
 refine RunA.rd Z Z Z (OpOK.of_ro (RO.move Z)) Z<|RunA.rd Z Z Z (OpOK.of_ro (RO.move Z)) Z<|RunA.rd Z Z Z (OpOK.of_ro (RO.move Z)) Z<|RunA.rd Z Z Z (OpOK.of_ro (RO.move Z)) Z<|RunA.rd Z Z Z (OpOK.of_ro (RO.move Z)) Z<|RunA.rd Z Z Z (OpOK.of_ro (RO.move Z)) Z<|RunA.rd Z Z Z (OpOK.of_ro (RO.nilCheckPtr Z)) Z ?_
 refine guardK h0 (fun g3 h0=>?_)
 refine RunA.rd Z Z Z (OpOK.of_ro (RO.indexA arr_70 Z Z g3)) Z ?_
 refine guardK h0 (fun g4 h0=>?_)
 refine RunA.rd Z Z Z (OpOK.of_ro (RO.indexA arr_68 Z Z g4)) Z ?_
 refine bindK h0 (fun x5 hx5 h0=>?_)
 refine RunA.rd Z Z Z (OpOK.of_ro (RO.loadA ag_3 Z Z hx5)) Z<|RunA.rd Z Z Z (OpOK.of_ro (RO.move Z)) Z<|RunA.rd Z Z Z (OpOK.of_ro (RO.move Z)) Z<|RunA.rd Z Z Z (OpOK.of_ro (RO.binInt Z Z Z)) Z<|RunA.rd Z Z Z (OpOK.of_ro (RO.move Z)) Z<|RunA.rd Z Z Z (OpOK.of_ro (RO.binInt Z Z Z)) Z<|RunA.rd Z Z Z (OpOK.of_ro (RO.min2 Z Z)) Z<|RunA.rd Z Z Z (OpOK.of_ro (RO.nilCheckPtr Z)) Z ?_
 refine guardK h0 (fun g6 h0=>?_)
 refine RunA.rd Z Z Z (OpOK.of_ro (RO.indexA arr_70 Z Z g6)) Z ?_
 refine guardK h0 (fun g7 h0=>?_)
 refine RunA.rd Z Z Z (OpOK.of_ro (RO.indexA arr_68 Z Z g7)) Z ?_
 refine guardK h0 (fun g8 h0=>?_)
 refine RunA.eff Z Z Z (OpOK.storeA ag_3 Z Z Z g8 Z) Z ?_
 refine RunA.nil ⟨?ex,_,_,Z,?_⟩
 case ex=>exact trivial
 refine XQ.less (st':=⟨[],[(0,.cells 70 (flatE ((a4.set (0+x1.1.toNat * 9+x2.1.toNat * 1) (min x5 (w64 ((w64 (x2.2 - x1.2)) - a3)))):List Int))),(2,.cells 39 [dI a0,dA 1 a1]),(3,.cells 39 (cE a2))],[(1,some ⟨59,2,(Enc.encL a1).length,[]⟩)],4,41,[]⟩) (stle tZ (hA Z) (kA Z) Z (Nat.le_trans hv0 (lb Z)) Z Z Z (bF Z (bA Z)) Z Z) ?_
 have e:=sI h0;subst e
 exact hQ0 _ _ _ (.inl Z) Z (stle tZ (hA Z) (kA Z) Z (Nat.le_trans hv0 (lb Z)) Z Z Z (bF Z bZ) Z Z)
def m41f27 (a0:Int) (a1:Int) (a2:Int) (a3:List Int):Option (((List Int))) :=
 Option.bind (m63 (⟨a0,([]:List LV)⟩:Lvl)) fun (x1:Int×Int) =>
 Option.bind (m63 (⟨a1,([]:List LV)⟩:Lvl)) fun (x2:Int×Int) =>
 guardO (cond (decide (0≤x1.1)) (Nat.blt x1.1.toNat 9) false)
 (guardO (cond (decide (0≤x2.1)) (Nat.blt x2.1.toNat 9) false)
 (Option.bind (a3[0+x1.1.toNat * 9+x2.1.toNat * 1]?) fun (x5:Int) =>
 guardO (cond (decide (0≤x1.1)) (Nat.blt x1.1.toNat 9) false)
 (guardO (cond (decide (0≤x2.1)) (Nat.blt x2.1.toNat 9) false)
 (guardO (Nat.blt (0+x1.1.toNat * 9+x2.1.toNat * 1) a3.length)
 (some (a3.set (0+x1.1.toNat * 9+x2.1.toNat * 1) (min x5 (w64 ((w64 (x2.2 - x1.2)) - a2)))))))))
theorem m41f27_ok (a0:Int) (a1:Int) (a2:Int) (a3:List Int) (r:((List Int))) (h0:m41f27 a0 a1 a2 a3=some r):CallM Try.prog 41 [.one (.ptr 0 0),.agg [dI a0,dN],.agg [dI a1,dN],.one (dI a2)] ⟨[(0,.cells 70 (flatE a3))],[],1⟩ (resOf []) ⟨[(0,.cells 70 (flatE r))],[],3⟩:=by
 unfold m41f27 at h0
 refine CallM.of_bodyD ⟨[],[(0,.cells 70 (flatE r))],[],3,41,[]⟩ Z Z en_41 (lb Z) Z .nil (fun w0 M V0 Q hv0 hQ0=>?_)
 simp only [entry]
 refine XC.seq<|XC.region<|XL.put Z Z (lb Z) (OpOK.box Z)<|XL.put Z Z (lb Z) (OpOK.box Z)<|XL.nil<|XQ.seq<|XC.seq<|XC.region<|rR Z Z Z (RO.loadOwnAgg ag_39 Z Z Z Z) ?_
 refine bindK h0 (fun x1 hx1 h0=>?_)
 refine XL.put Z Z (lb Z) (OpOK.callFun (m63_ok (⟨a0,([]:List LV)⟩:Lvl) x1 hx1) Z (.cons (.agg (.cons (.d _) (.cons (.nil _) .nil))) .nil))<|rM Z Z Z<|rR Z Z Z (RO.extract Z Z)<|rR Z Z Z (RO.extract Z Z)<|rA Z Z Z<|rA Z Z Z<|XL.nil<|XQ.seq<|XC.seq<|XC.region<|rR Z Z Z (RO.loadOwnAgg ag_39 Z Z Z Z) ?_
 refine bindK h0 (fun x2 hx2 h0=>?_)
 refine XL.put Z Z (lb Z) (OpOK.callFun (m63_ok (⟨a1,([]:List LV)⟩:Lvl) x2 hx2) Z (.cons (.agg (.cons (.d _) (.cons (.nil _) .nil))) .nil))<|rM Z Z Z<|rR Z Z Z (RO.extract Z Z)<|rR Z Z Z (RO.extract Z Z)<|rA Z Z Z<|rA Z Z Z<|XL.nil<|XQ.seq ?_
 refine XC.anyRun [19] [] mixed (by kernel_rfl) (by kernel_rfl) (by kernel_rfl) ?_
 refine RunA.rd Z Z Z (OpOK.of_ro (RO.move Z)) Z<|RunA.rd Z Z Z (OpOK.of_ro (RO.move Z)) Z<|RunA.rd Z Z Z (OpOK.of_ro (RO.move Z)) Z<|RunA.rd Z Z Z (OpOK.of_ro (RO.move Z)) Z<|RunA.rd Z Z Z (OpOK.of_ro (RO.move Z)) Z<|RunA.rd Z Z Z (OpOK.of_ro (RO.move Z)) Z<|RunA.rd Z Z Z (OpOK.of_ro (RO.nilCheckPtr Z)) Z ?_
 refine guardK h0 (fun g3 h0=>?_)
 refine RunA.rd Z Z Z (OpOK.of_ro (RO.indexA arr_70 Z Z g3)) Z ?_
 refine guardK h0 (fun g4 h0=>?_)
 refine RunA.rd Z Z Z (OpOK.of_ro (RO.indexA arr_68 Z Z g4)) Z ?_
 refine bindK h0 (fun x5 hx5 h0=>?_)
 refine RunA.rd Z Z Z (OpOK.of_ro (RO.loadA ag_3 Z Z hx5)) Z<|RunA.rd Z Z Z (OpOK.of_ro (RO.move Z)) Z<|RunA.rd Z Z Z (OpOK.of_ro (RO.move Z)) Z<|RunA.rd Z Z Z (OpOK.of_ro (RO.binInt Z Z Z)) Z<|RunA.rd Z Z Z (OpOK.of_ro (RO.move Z)) Z<|RunA.rd Z Z Z (OpOK.of_ro (RO.binInt Z Z Z)) Z<|RunA.rd Z Z Z (OpOK.of_ro (RO.min2 Z Z)) Z<|RunA.rd Z Z Z (OpOK.of_ro (RO.nilCheckPtr Z)) Z ?_
 refine guardK h0 (fun g6 h0=>?_)
 refine RunA.rd Z Z Z (OpOK.of_ro (RO.indexA arr_70 Z Z g6)) Z ?_
 refine guardK h0 (fun g7 h0=>?_)
 refine RunA.rd Z Z Z (OpOK.of_ro (RO.indexA arr_68 Z Z g7)) Z ?_
 refine guardK h0 (fun g8 h0=>?_)
 refine RunA.eff Z Z Z (OpOK.storeA ag_3 Z Z Z g8 Z) Z ?_
 refine RunA.nil ⟨?ex,_,_,Z,?_⟩
 case ex=>exact trivial
 refine XQ.less (st':=⟨[],[(0,.cells 70 (flatE ((a3.set (0+x1.1.toNat * 9+x2.1.toNat * 1) (min x5 (w64 ((w64 (x2.2 - x1.2)) - a2)))):List Int))),(1,.cells 39 [dI a0,dN]),(2,.cells 39 [dI a1,dN])],[],3,41,[]⟩) (stle tZ (hA Z) kZ Z (Nat.le_trans hv0 (lb Z)) Z Z Z (bF Z (bA Z)) Z Z) ?_
 have e:=sI h0;subst e
 exact hQ0 _ _ _ (.inl Z) Z (stle tZ (hA Z) kZ Z (Nat.le_trans hv0 (lb Z)) Z Z Z (bF Z bZ) Z Z)
def m41f28 (a0:Int) (a1:List LV) (a2:Int) (a3:Int) (a4:List Int):Option (((List Int))) :=
 Option.bind (m63 (⟨a0,a1⟩:Lvl)) fun (x1:Int×Int) =>
 Option.bind (m63 (⟨a2,([]:List LV)⟩:Lvl)) fun (x2:Int×Int) =>
 guardO (cond (decide (0≤x1.1)) (Nat.blt x1.1.toNat 9) false)
 (guardO (cond (decide (0≤x2.1)) (Nat.blt x2.1.toNat 9) false)
 (Option.bind (a4[0+x1.1.toNat * 9+x2.1.toNat * 1]?) fun (x5:Int) =>
 guardO (cond (decide (0≤x1.1)) (Nat.blt x1.1.toNat 9) false)
 (guardO (cond (decide (0≤x2.1)) (Nat.blt x2.1.toNat 9) false)
 (guardO (Nat.blt (0+x1.1.toNat * 9+x2.1.toNat * 1) a4.length)
 (some (a4.set (0+x1.1.toNat * 9+x2.1.toNat * 1) (min x5 (w64 ((w64 (x2.2 - x1.2)) - a3)))))))))
theorem m41f28_ok (a0:Int) (a1:List LV) (a2:Int) (a3:Int) (a4:List Int) (r:((List Int))) (h0:m41f28 a0 a1 a2 a3 a4=some r):CallM Try.prog 41 [.one (.ptr 0 0),.agg [dI a0,dA 1 a1],.agg [dI a2,dN],.one (dI a3)] ⟨[(0,.cells 70 (flatE a4))],[(1,some ⟨59,2,(Enc.encL a1).length,[]⟩)],2⟩ (resOf []) ⟨[(0,.cells 70 (flatE r))],[(1,some ⟨59,2,(Enc.encL a1).length,[]⟩)],4⟩:=by
 unfold m41f28 at h0
 refine CallM.of_bodyD ⟨[],[(0,.cells 70 (flatE r))],[(1,some ⟨59,2,(Enc.encL a1).length,[]⟩)],4,41,[]⟩ Z Z en_41 (lb Z) Z .nil (fun w0 M V0 Q hv0 hQ0=>?_)
 simp only [entry]
 refine XC.seq<|XC.region<|XL.put Z Z (lb Z) (OpOK.box Z)<|XL.put Z Z (lb Z) (OpOK.box Z)<|XL.nil<|XQ.seq<|XC.seq<|XC.region<|rR Z Z Z (RO.loadOwnAgg ag_39 Z Z Z Z) ?_
 refine bindK h0 (fun x1 hx1 h0=>?_)
 refine XL.put Z Z (lb Z) (OpOK.callFun (m63_ok (⟨a0,a1⟩:Lvl) x1 hx1) Z (.cons (.agg (.cons (.d _) (.cons (.app _ _ _) .nil))) .nil))<|rM Z Z Z<|rR Z Z Z (RO.extract Z Z)<|rR Z Z Z (RO.extract Z Z)<|rA Z Z Z<|rA Z Z Z<|XL.nil<|XQ.seq<|XC.seq<|XC.region<|rR Z Z Z (RO.loadOwnAgg ag_39 Z Z Z Z) ?_
 refine bindK h0 (fun x2 hx2 h0=>?_)
 refine XL.put Z Z (lb Z) (OpOK.callFun (m63_ok (⟨a2,([]:List LV)⟩:Lvl) x2 hx2) Z (.cons (.agg (.cons (.d _) (.cons (.nil _) .nil))) .nil))<|rM Z Z Z<|rR Z Z Z (RO.extract Z Z)<|rR Z Z Z (RO.extract Z Z)<|rA Z Z Z<|rA Z Z Z<|XL.nil<|XQ.seq ?_
 refine XC.anyRun [19] [] mixed (by kernel_rfl) (by kernel_rfl) (by kernel_rfl) ?_
 refine RunA.rd Z Z Z (OpOK.of_ro (RO.move Z)) Z<|RunA.rd Z Z Z (OpOK.of_ro (RO.move Z)) Z<|RunA.rd Z Z Z (OpOK.of_ro (RO.move Z)) Z<|RunA.rd Z Z Z (OpOK.of_ro (RO.move Z)) Z<|RunA.rd Z Z Z (OpOK.of_ro (RO.move Z)) Z<|RunA.rd Z Z Z (OpOK.of_ro (RO.move Z)) Z<|RunA.rd Z Z Z (OpOK.of_ro (RO.nilCheckPtr Z)) Z ?_
 refine guardK h0 (fun g3 h0=>?_)
 refine RunA.rd Z Z Z (OpOK.of_ro (RO.indexA arr_70 Z Z g3)) Z ?_
 refine guardK h0 (fun g4 h0=>?_)
 refine RunA.rd Z Z Z (OpOK.of_ro (RO.indexA arr_68 Z Z g4)) Z ?_
 refine bindK h0 (fun x5 hx5 h0=>?_)
 refine RunA.rd Z Z Z (OpOK.of_ro (RO.loadA ag_3 Z Z hx5)) Z<|RunA.rd Z Z Z (OpOK.of_ro (RO.move Z)) Z<|RunA.rd Z Z Z (OpOK.of_ro (RO.move Z)) Z<|RunA.rd Z Z Z (OpOK.of_ro (RO.binInt Z Z Z)) Z<|RunA.rd Z Z Z (OpOK.of_ro (RO.move Z)) Z<|RunA.rd Z Z Z (OpOK.of_ro (RO.binInt Z Z Z)) Z<|RunA.rd Z Z Z (OpOK.of_ro (RO.min2 Z Z)) Z<|RunA.rd Z Z Z (OpOK.of_ro (RO.nilCheckPtr Z)) Z ?_
 refine guardK h0 (fun g6 h0=>?_)
 refine RunA.rd Z Z Z (OpOK.of_ro (RO.indexA arr_70 Z Z g6)) Z ?_
 refine guardK h0 (fun g7 h0=>?_)
 refine RunA.rd Z Z Z (OpOK.of_ro (RO.indexA arr_68 Z Z g7)) Z ?_
 refine guardK h0 (fun g8 h0=>?_)
 refine RunA.eff Z Z Z (OpOK.storeA ag_3 Z Z Z g8 Z) Z ?_
 refine RunA.nil ⟨?ex,_,_,Z,?_⟩
 case ex=>exact trivial
 refine XQ.less (st':=⟨[],[(0,.cells 70 (flatE ((a4.set (0+x1.1.toNat * 9+x2.1.toNat * 1) (min x5 (w64 ((w64 (x2.2 - x1.2)) - a3)))):List Int))),(2,.cells 39 [dI a0,dA 1 a1]),(3,.cells 39 [dI a2,dN])],[(1,some ⟨59,2,(Enc.encL a1).length,[]⟩)],4,41,[]⟩) (stle tZ (hA Z) (kA Z) Z (Nat.le_trans hv0 (lb Z)) Z Z Z (bF Z (bA Z)) Z Z) ?_
 have e:=sI h0;subst e
 exact hQ0 _ _ _ (.inl Z) Z (stle tZ (hA Z) (kA Z) Z (Nat.le_trans hv0 (lb Z)) Z Z Z (bF Z bZ) Z Z)
def m41f29 (a0:Int) (a1:Int) (a2:List LV) (a3:Int) (a4:List Int):Option (((List Int))) :=
 Option.bind (m63 (⟨a0,([]:List LV)⟩:Lvl)) fun (x1:Int×Int) =>
 Option.bind (m63 (⟨a1,a2⟩:Lvl)) fun (x2:Int×Int) =>
 guardO (cond (decide (0≤x1.1)) (Nat.blt x1.1.toNat 9) false)
 (guardO (cond (decide (0≤x2.1)) (Nat.blt x2.1.toNat 9) false)
 (Option.bind (a4[0+x1.1.toNat * 9+x2.1.toNat * 1]?) fun (x5:Int) =>
 guardO (cond (decide (0≤x1.1)) (Nat.blt x1.1.toNat 9) false)
 (guardO (cond (decide (0≤x2.1)) (Nat.blt x2.1.toNat 9) false)
 (guardO (Nat.blt (0+x1.1.toNat * 9+x2.1.toNat * 1) a4.length)
 (some (a4.set (0+x1.1.toNat * 9+x2.1.toNat * 1) (min x5 (w64 ((w64 (x2.2 - x1.2)) - a3)))))))))
theorem m41f29_ok (a0:Int) (a1:Int) (a2:List LV) (a3:Int) (a4:List Int) (r:((List Int))) (h0:m41f29 a0 a1 a2 a3 a4=some r):CallM Try.prog 41 [.one (.ptr 0 0),.agg [dI a0,dN],.agg [dI a1,dA 1 a2],.one (dI a3)] ⟨[(0,.cells 70 (flatE a4))],[(1,some ⟨59,2,(Enc.encL a2).length,[]⟩)],2⟩ (resOf []) ⟨[(0,.cells 70 (flatE r))],[(1,some ⟨59,2,(Enc.encL a2).length,[]⟩)],4⟩:=by
 unfold m41f29 at h0
 refine CallM.of_bodyD ⟨[],[(0,.cells 70 (flatE r))],[(1,some ⟨59,2,(Enc.encL a2).length,[]⟩)],4,41,[]⟩ Z Z en_41 (lb Z) Z .nil (fun w0 M V0 Q hv0 hQ0=>?_)
 simp only [entry]
 refine XC.seq<|XC.region<|XL.put Z Z (lb Z) (OpOK.box Z)<|XL.put Z Z (lb Z) (OpOK.box Z)<|XL.nil<|XQ.seq<|XC.seq<|XC.region<|rR Z Z Z (RO.loadOwnAgg ag_39 Z Z Z Z) ?_
 refine bindK h0 (fun x1 hx1 h0=>?_)
 refine XL.put Z Z (lb Z) (OpOK.callFun (m63_ok (⟨a0,([]:List LV)⟩:Lvl) x1 hx1) Z (.cons (.agg (.cons (.d _) (.cons (.nil _) .nil))) .nil))<|rM Z Z Z<|rR Z Z Z (RO.extract Z Z)<|rR Z Z Z (RO.extract Z Z)<|rA Z Z Z<|rA Z Z Z<|XL.nil<|XQ.seq<|XC.seq<|XC.region<|rR Z Z Z (RO.loadOwnAgg ag_39 Z Z Z Z) ?_
 refine bindK h0 (fun x2 hx2 h0=>?_)
 refine XL.put Z Z (lb Z) (OpOK.callFun (m63_ok (⟨a1,a2⟩:Lvl) x2 hx2) Z (.cons (.agg (.cons (.d _) (.cons (.app _ _ _) .nil))) .nil))<|rM Z Z Z<|rR Z Z Z (RO.extract Z Z)<|rR Z Z Z (RO.extract Z Z)<|rA Z Z Z<|rA Z Z Z<|XL.nil<|XQ.seq ?_
 refine XC.anyRun [19] [] mixed (by kernel_rfl) (by kernel_rfl) (by kernel_rfl) ?_
 refine RunA.rd Z Z Z (OpOK.of_ro (RO.move Z)) Z<|RunA.rd Z Z Z (OpOK.of_ro (RO.move Z)) Z<|RunA.rd Z Z Z (OpOK.of_ro (RO.move Z)) Z<|RunA.rd Z Z Z (OpOK.of_ro (RO.move Z)) Z<|RunA.rd Z Z Z (OpOK.of_ro (RO.move Z)) Z<|RunA.rd Z Z Z (OpOK.of_ro (RO.move Z)) Z<|RunA.rd Z Z Z (OpOK.of_ro (RO.nilCheckPtr Z)) Z ?_
 refine guardK h0 (fun g3 h0=>?_)
 refine RunA.rd Z Z Z (OpOK.of_ro (RO.indexA arr_70 Z Z g3)) Z ?_
 refine guardK h0 (fun g4 h0=>?_)
 refine RunA.rd Z Z Z (OpOK.of_ro (RO.indexA arr_68 Z Z g4)) Z ?_
 refine bindK h0 (fun x5 hx5 h0=>?_)
 refine RunA.rd Z Z Z (OpOK.of_ro (RO.loadA ag_3 Z Z hx5)) Z<|RunA.rd Z Z Z (OpOK.of_ro (RO.move Z)) Z<|RunA.rd Z Z Z (OpOK.of_ro (RO.move Z)) Z<|RunA.rd Z Z Z (OpOK.of_ro (RO.binInt Z Z Z)) Z<|RunA.rd Z Z Z (OpOK.of_ro (RO.move Z)) Z<|RunA.rd Z Z Z (OpOK.of_ro (RO.binInt Z Z Z)) Z<|RunA.rd Z Z Z (OpOK.of_ro (RO.min2 Z Z)) Z<|RunA.rd Z Z Z (OpOK.of_ro (RO.nilCheckPtr Z)) Z ?_
 refine guardK h0 (fun g6 h0=>?_)
 refine RunA.rd Z Z Z (OpOK.of_ro (RO.indexA arr_70 Z Z g6)) Z ?_
 refine guardK h0 (fun g7 h0=>?_)
 refine RunA.rd Z Z Z (OpOK.of_ro (RO.indexA arr_68 Z Z g7)) Z ?_
 refine guardK h0 (fun g8 h0=>?_)
 refine RunA.eff Z Z Z (OpOK.storeA ag_3 Z Z Z g8 Z) Z ?_
 refine RunA.nil ⟨?ex,_,_,Z,?_⟩
 case ex=>exact trivial
 refine XQ.less (st':=⟨[],[(0,.cells 70 (flatE ((a4.set (0+x1.1.toNat * 9+x2.1.toNat * 1) (min x5 (w64 ((w64 (x2.2 - x1.2)) - a3)))):List Int))),(2,.cells 39 [dI a0,dN]),(3,.cells 39 [dI a1,dA 1 a2])],[(1,some ⟨59,2,(Enc.encL a2).length,[]⟩)],4,41,[]⟩) (stle tZ (hA Z) (kA Z) Z (Nat.le_trans hv0 (lb Z)) Z Z Z (bF Z (bA Z)) Z Z) ?_
 have e:=sI h0;subst e
 exact hQ0 _ _ _ (.inl Z) Z (stle tZ (hA Z) (kA Z) Z (Nat.le_trans hv0 (lb Z)) Z Z Z (bF Z bZ) Z Z)
def m41f30 (a0:Int) (a1:List LV) (a2:Int) (a3:List LV) (a4:Int) (a5:List Int):Option (((List Int))) :=
 Option.bind (m63 (⟨a0,a1⟩:Lvl)) fun (x1:Int×Int) =>
 Option.bind (m63 (⟨a2,a3⟩:Lvl)) fun (x2:Int×Int) =>
 guardO (cond (decide (0≤x1.1)) (Nat.blt x1.1.toNat 9) false)
 (guardO (cond (decide (0≤x2.1)) (Nat.blt x2.1.toNat 9) false)
 (Option.bind (a5[0+x1.1.toNat * 9+x2.1.toNat * 1]?) fun (x5:Int) =>
 guardO (cond (decide (0≤x1.1)) (Nat.blt x1.1.toNat 9) false)
 (guardO (cond (decide (0≤x2.1)) (Nat.blt x2.1.toNat 9) false)
 (guardO (Nat.blt (0+x1.1.toNat * 9+x2.1.toNat * 1) a5.length)
 (some (a5.set (0+x1.1.toNat * 9+x2.1.toNat * 1) (min x5 (w64 ((w64 (x2.2 - x1.2)) - a4)))))))))
theorem m41f30_ok (a0:Int) (a1:List LV) (a2:Int) (a3:List LV) (a4:Int) (a5:List Int) (r:((List Int))) (h0:m41f30 a0 a1 a2 a3 a4 a5=some r):CallM Try.prog 41 [.one (.ptr 0 0),.agg [dI a0,dA 1 a1],.agg [dI a2,dA 2 a3],.one (dI a4)] ⟨[(0,.cells 70 (flatE a5))],[(1,some ⟨59,2,(Enc.encL a1).length,[]⟩),(2,some ⟨59,2,(Enc.encL a3).length,[]⟩)],3⟩ (resOf []) ⟨[(0,.cells 70 (flatE r))],[(1,some ⟨59,2,(Enc.encL a1).length,[]⟩),(2,some ⟨59,2,(Enc.encL a3).length,[]⟩)],5⟩:=by
 unfold m41f30 at h0
 refine CallM.of_bodyD ⟨[],[(0,.cells 70 (flatE r))],[(1,some ⟨59,2,(Enc.encL a1).length,[]⟩),(2,some ⟨59,2,(Enc.encL a3).length,[]⟩)],5,41,[]⟩ Z Z en_41 (lb Z) Z .nil (fun w0 M V0 Q hv0 hQ0=>?_)
 simp only [entry]
 refine XC.seq<|XC.region<|XL.put Z Z (lb Z) (OpOK.box Z)<|XL.put Z Z (lb Z) (OpOK.box Z)<|XL.nil<|XQ.seq<|XC.seq<|XC.region<|rR Z Z Z (RO.loadOwnAgg ag_39 Z Z Z Z) ?_
 refine bindK h0 (fun x1 hx1 h0=>?_)
 refine XL.put Z Z (lb Z) (OpOK.callFun (m63_ok (⟨a0,a1⟩:Lvl) x1 hx1) Z (.cons (.agg (.cons (.d _) (.cons (.app _ _ _) .nil))) .nil))<|rM Z Z Z<|rR Z Z Z (RO.extract Z Z)<|rR Z Z Z (RO.extract Z Z)<|rA Z Z Z<|rA Z Z Z<|XL.nil<|XQ.seq<|XC.seq<|XC.region<|rR Z Z Z (RO.loadOwnAgg ag_39 Z Z Z Z) ?_
 refine bindK h0 (fun x2 hx2 h0=>?_)
 refine XL.put Z Z (lb Z) (OpOK.callFun (m63_ok (⟨a2,a3⟩:Lvl) x2 hx2) Z (.cons (.agg (.cons (.d _) (.cons (.app _ _ _) .nil))) .nil))<|rM Z Z Z<|rR Z Z Z (RO.extract Z Z)<|rR Z Z Z (RO.extract Z Z)<|rA Z Z Z<|rA Z Z Z<|XL.nil<|XQ.seq ?_
 refine XC.anyRun [19] [] mixed (by kernel_rfl) (by kernel_rfl) (by kernel_rfl) ?_
 refine RunA.rd Z Z Z (OpOK.of_ro (RO.move Z)) Z<|RunA.rd Z Z Z (OpOK.of_ro (RO.move Z)) Z<|RunA.rd Z Z Z (OpOK.of_ro (RO.move Z)) Z<|RunA.rd Z Z Z (OpOK.of_ro (RO.move Z)) Z<|RunA.rd Z Z Z (OpOK.of_ro (RO.move Z)) Z<|RunA.rd Z Z Z (OpOK.of_ro (RO.move Z)) Z<|RunA.rd Z Z Z (OpOK.of_ro (RO.nilCheckPtr Z)) Z ?_
 refine guardK h0 (fun g3 h0=>?_)
 refine RunA.rd Z Z Z (OpOK.of_ro (RO.indexA arr_70 Z Z g3)) Z ?_
 refine guardK h0 (fun g4 h0=>?_)
 refine RunA.rd Z Z Z (OpOK.of_ro (RO.indexA arr_68 Z Z g4)) Z ?_
 refine bindK h0 (fun x5 hx5 h0=>?_)
 refine RunA.rd Z Z Z (OpOK.of_ro (RO.loadA ag_3 Z Z hx5)) Z<|RunA.rd Z Z Z (OpOK.of_ro (RO.move Z)) Z<|RunA.rd Z Z Z (OpOK.of_ro (RO.move Z)) Z<|RunA.rd Z Z Z (OpOK.of_ro (RO.binInt Z Z Z)) Z<|RunA.rd Z Z Z (OpOK.of_ro (RO.move Z)) Z<|RunA.rd Z Z Z (OpOK.of_ro (RO.binInt Z Z Z)) Z<|RunA.rd Z Z Z (OpOK.of_ro (RO.min2 Z Z)) Z<|RunA.rd Z Z Z (OpOK.of_ro (RO.nilCheckPtr Z)) Z ?_
 refine guardK h0 (fun g6 h0=>?_)
 refine RunA.rd Z Z Z (OpOK.of_ro (RO.indexA arr_70 Z Z g6)) Z ?_
 refine guardK h0 (fun g7 h0=>?_)
 refine RunA.rd Z Z Z (OpOK.of_ro (RO.indexA arr_68 Z Z g7)) Z ?_
 refine guardK h0 (fun g8 h0=>?_)
 refine RunA.eff Z Z Z (OpOK.storeA ag_3 Z Z Z g8 Z) Z ?_
 refine RunA.nil ⟨?ex,_,_,Z,?_⟩
 case ex=>exact trivial
 refine XQ.less (st':=⟨[],[(0,.cells 70 (flatE ((a5.set (0+x1.1.toNat * 9+x2.1.toNat * 1) (min x5 (w64 ((w64 (x2.2 - x1.2)) - a4)))):List Int))),(3,.cells 39 [dI a0,dA 1 a1]),(4,.cells 39 [dI a2,dA 2 a3])],[(1,some ⟨59,2,(Enc.encL a1).length,[]⟩),(2,some ⟨59,2,(Enc.encL a3).length,[]⟩)],5,41,[]⟩) (stle tZ (hA Z) (kA Z) Z (Nat.le_trans hv0 (lb Z)) Z Z Z (bF Z (bA Z)) Z Z) ?_
 have e:=sI h0;subst e
 exact hQ0 _ _ _ (.inl Z) Z (stle tZ (hA Z) (kA Z) Z (Nat.le_trans hv0 (lb Z)) Z Z Z (bF Z bZ) Z Z)
def m18_l0 (s1:Int×(List Int)) (s2:Int×(List Int)):Option (LO (Int×(List Int)) (((List Int)))) :=
 cond (decide (s2.1 < 9))
   (cond (s1.1 != s2.1)
   (guardO (cond (decide (0≤s1.1)) (Nat.blt s1.1.toNat 9) false)
 (guardO (cond (decide (0≤s2.1)) (Nat.blt s2.1.toNat 9) false)
 (guardO (Nat.blt (0+s1.1.toNat * 9+s2.1.toNat * 1) s2.2.length)
 (some (.next ((w64 (s2.1+1)),(s2.2.set (0+s1.1.toNat * 9+s2.1.toNat * 1) 1048576)))))))
   (some (.next ((w64 (s2.1+1)),s2.2))))
   (some (.done s2.2))
def m18_l1  (s1:Int×(List Int)):Option (LO (Int×(List Int)) (((List Int)))) :=
 cond (decide (s1.1 < 9))
   (Option.bind (loopN (m18_l0 s1) FUEL (0,s1.2)) (fun (o9:(List Int))=>guardO (cond (decide (0≤(0:Int))) (Nat.blt (0:Int).toNat 9) false)
 (guardO (cond (decide (0≤s1.1)) (Nat.blt s1.1.toNat 9) false)
 (guardO (Nat.blt (0+(0:Int).toNat * 9+s1.1.toNat * 1) o9.length)
 (some (.next ((w64 (s1.1+1)),(o9.set (0+(0:Int).toNat * 9+s1.1.toNat * 1) 0))))))))
   (some (.done s1.2))
def m18_l2 (x10:Bnd) (x13:((List Lvl))) (s3:Int×(List Int)):Option (LO (Int×(List Int)) (((List Int)))) :=
 cond (decide (s3.1 < (x10.lo.vs.length:Int)))
   (Option.bind (idx x10.lo.vs s3.1) fun (x22:LV) =>
 Option.bind (Option.bind (idx x13 0) fun (x26:Lvl) =>
 Option.bind (m41f26 0 ([x22]) x26 0 s3.2) fun (x27:((List Int))) =>
 some x27) (fun (y23:(List Int))=>some (.next ((w64 (s3.1+1)),y23))))
   (some (.done s3.2))
def m18_l3 (a0:List Bnd) (s1:Int×(List Int)):Option (LO (Int×(List Int)) (((List Int))⊕(Bool×Int))) :=
 cond (decide (s1.1 < (a0.length:Int)))
   (Option.bind (idx a0 s1.1) fun (x10:Bnd) =>
 Option.bind (some ()) (fun (y11:Unit)=>Option.bind (m39f23 x10.hi) fun (x13:((List Lvl))) =>
 cond (decide (1 < (x13.length:Int)))
   (some (.done (.inr (false,1))))
   (Option.bind (some ()) (fun (y15:Unit)=>Option.bind (Option.bind (cond (decide (0 < x10.lo.c))
   (Option.bind (Option.bind (idx x13 0) fun (x24:Lvl) =>
 Option.bind (m41f25 x10.lo.c x24 0 s1.2) fun (x25:((List Int))) =>
 some x25) (fun (y21:(List Int))=>some y21))
   (cond ((x10.lo.vs.length:Int)==0)
   (Option.bind (Option.bind (idx x13 0) fun (x30:Lvl) =>
 Option.bind (m41f25 x10.lo.c x30 0 s1.2) fun (x31:((List Int))) =>
 some x31) (fun (y27:(List Int))=>some y27))
   (some s1.2))) (fun (v19:(List Int))=>Option.bind (loopN (m18_l2 x10 x13) FUEL (0,v19)) (fun (o20:(List Int))=>some o20))) (fun (y17:(List Int))=>some (.next ((w64 (s1.1+1)),y17)))))))
   (some (.done (.inl s1.2)))
def m18_l4 (a1:Bnd) (x19:LV) (s5:Int×(List Int)):Option (LO (Int×(List Int)) (((List Int)))) :=
 cond (decide (s5.1 < (a1.hi.vs.length:Int)))
   (Option.bind (idx a1.hi.vs s5.1) fun (x35:LV) =>
 Option.bind (Option.bind (m41f30 0 ([x35]) 0 ([x19]) 1 s5.2) fun (x39:((List Int))) =>
 some x39) (fun (y36:(List Int))=>some (.next ((w64 (s5.1+1)),y36))))
   (some (.done s5.2))
def m18_l5 (a1:Bnd) (o8:(List Int)) (s2:Int):Option (LO Int (Unit⊕(Unit⊕Unit))) :=
 cond (decide (s2 < (a1.lo.vs.length:Int)))
   (Option.bind (idx a1.lo.vs s2) fun (x19:LV) =>
 Option.bind (guardO (Nat.beq o8.length 81)
 (guardO (Nat.beq (List.replicate 81 (0:Int)).length 81)
 (guardO (Nat.beq o8.length 81)
 (Option.bind (some ()) (fun (y28:Unit)=>Option.bind (Option.bind (cond (decide (0 < a1.hi.c))
   (Option.bind (Option.bind (m41f29 a1.hi.c 0 ([x19]) 1 o8) fun (x37:((List Int))) =>
 some x37) (fun (y34:(List Int))=>some y34))
   (cond ((a1.hi.vs.length:Int)==0)
   (Option.bind (Option.bind (m41f29 a1.hi.c 0 ([x19]) 1 o8) fun (x42:((List Int))) =>
 some x42) (fun (y39:(List Int))=>some y39))
   (some o8))) (fun (v32:(List Int))=>Option.bind (loopN (m18_l4 a1 x19) FUEL (0,v32)) (fun (o33:(List Int))=>some o33))) (fun (y30:(List Int))=>guardO (Nat.beq y30.length 81)
 (Option.bind (m42 y30) fun (x52:Bool) =>
 cond x52
   (some (.inr ()))
   (some (.inl ()))))))))) (Sum.elim (fun (y20:Unit)=>some (.next (w64 (s2+1)))) (fun (y21:Unit)=>some (.done (.inr (.inr ()))))))
   (some (.done (.inl ())))
def m18_l6 (a1:Bnd) (s5:Int×(List Int)):Option (LO (Int×(List Int)) (((List Int)))) :=
 cond (decide (s5.1 < (a1.hi.vs.length:Int)))
   (Option.bind (idx a1.hi.vs s5.1) fun (x33:LV) =>
 Option.bind (Option.bind (m41f28 0 ([x33]) a1.lo.c 1 s5.2) fun (x37:((List Int))) =>
 some x37) (fun (y34:(List Int))=>some (.next ((w64 (s5.1+1)),y34))))
   (some (.done s5.2))
noncomputable abbrev m18_h0 (p0_:Bnd):List (Nat×HB) :=
 [(0,.cells 41 (cE p0_)),(1,.cells 4 [dB false]),(2,.cells 25 [dI 0])]
noncomputable abbrev m18_h1 (p0_:Bnd) (p1_:Int×(List Int)) (p2_:Bnd):List (Nat×HB) :=
 [(0,.cells 41 (cE p0_)),(1,.cells 4 [dB false]),(2,.cells 25 [dI 0]),(4,.cells 70 (flatE p1_.2)),(5,.cells 41 (cE p2_))]
noncomputable abbrev m18_h2 (p0_:Bnd) (p1_:Int×(List Int)) (p2_:Bnd):List (Nat×HB) :=
 [(0,.cells 41 (cE p0_)),(1,.cells 4 [dB false]),(2,.cells 25 [dI 0]),(4,.cells 70 (flatE p1_.2)),(5,.cells 41 (cE p2_)),(6,.cells 39 (cE p2_.hi))]
noncomputable abbrev m18_h3 (p0_:Bnd) (p1_:Int×(List Int)) (p2_:Bnd) (p3_:((List Lvl))):List (Nat×HB) :=
 [(0,.cells 41 (cE p0_)),(1,.cells 4 [dB false]),(2,.cells 25 [dI 0]),(4,.cells 70 (flatE p1_.2)),(5,.cells 41 (cE p2_)),(6,.cells 39 (cE p2_.hi)),(11,.cells 31 [dA 8 p3_])]
noncomputable abbrev m18_h4 (p0_:Bnd) (p1_:Int×(List Int)) (p2_:Bnd) (p3_:((List Lvl))):List (Nat×HB) :=
 [(0,.cells 41 (cE p0_)),(1,.cells 4 [dB false]),(2,.cells 25 [dI 0]),(4,.cells 70 (flatE p1_.2)),(5,.cells 41 (cE p2_)),(6,.cells 39 (cE p2_.hi)),(11,.cells 31 [dA 8 p3_]),(12,.cells 39 (cE p2_.lo))]
noncomputable abbrev m18_h5 (p0_:List Bnd) (p1_:Int×(List Int)):HB :=
 .loop .ready none [(3,.v (.one (.ptr 0 0))),(4,.v (.one (.ptr 1 0))),(5,.v (.one (.ptr 2 0))),(7,.v (.one (.ptr 4 0))),(12,.v (.one (.ptr 11 0))),(44,.v (.one (dS p0_))),(45,.v (.one (dI (p0_.length:Int)))),(46,.v (.one (dI p1_.1))),(59,.v (.one (.fn 62 [(12,0)])))] 81 #[60] m18_c0 m18_c1 13
noncomputable abbrev m18_h6 (p0_:Bnd) (p1_:(List Int)) (p2_:Bnd) (p3_:((List Lvl))) (p4_:List Bnd) (p5_:Int×(List Int)):List (Nat×HB) :=
 [(0,.cells 41 (cE p0_)),(1,.cells 4 [dB false]),(2,.cells 25 [dI 0]),(4,.cells 70 (flatE p1_)),(5,.cells 41 (cE p2_)),(6,.cells 39 (cE p2_.hi)),(11,.cells 31 [dA 8 p3_]),(12,.cells 39 (cE p2_.lo)),(13,.obj (.deferred (some []))),(14,m18_h5 p4_ p5_)]
noncomputable abbrev m18_h7 (p0_:Bnd) (p1_:Int×(List Int)) (p2_:Bnd) (p3_:((List Lvl))) (p4_:List Bnd):List (Nat×HB) :=
 [(0,.cells 41 (cE p0_)),(1,.cells 4 [dB false]),(2,.cells 25 [dI 0]),(4,.cells 70 (flatE p1_.2)),(5,.cells 41 (cE p2_)),(6,.cells 39 (cE p2_.hi)),(11,.cells 31 [dA 8 p3_]),(12,.cells 39 (cE p2_.lo)),(13,.obj (.deferred (some []))),(14,m18_h5 p4_ p1_)]
noncomputable abbrev m18_h8 (p0_:List Bnd) (p1_:Int×(List Int)):HB :=
 .loop .busy none [(3,.v (.one (.ptr 0 0))),(4,.v (.one (.ptr 1 0))),(5,.v (.one (.ptr 2 0))),(7,.v (.one (.ptr 4 0))),(12,.v (.one (.ptr 11 0))),(44,.v (.one (dS p0_))),(45,.v (.one (dI (p0_.length:Int)))),(46,.v (.one (dI p1_.1))),(59,.v (.one (.fn 62 [(12,0)])))] 81 #[60] m18_c0 m18_c1 13
noncomputable abbrev m18_h9 (p0_:Bnd) (p1_:Int×(List Int)) (p2_:Bnd) (p3_:((List Lvl))) (p4_:List Bnd):List (Nat×HB) :=
 [(0,.cells 41 (cE p0_)),(1,.cells 4 [dB false]),(2,.cells 25 [dI 0]),(4,.cells 70 (flatE p1_.2)),(5,.cells 41 (cE p2_)),(6,.cells 39 (cE p2_.hi)),(11,.cells 31 [dA 8 p3_]),(12,.cells 39 (cE p2_.lo)),(13,.obj (.deferred (some []))),(14,m18_h8 p4_ p1_),(15,.cells 39 [dI p2_.lo.c,dN])]
noncomputable abbrev m18_h10 (p0_:Bnd) (p1_:Int×(List Int)) (p2_:Bnd) (p3_:((List Lvl))) (p4_:List Bnd):List (Nat×HB) :=
 [(0,.cells 41 (cE p0_)),(1,.cells 4 [dB false]),(2,.cells 25 [dI 0]),(4,.cells 70 (flatE p1_.2)),(5,.cells 41 (cE p2_)),(6,.cells 39 (cE p2_.hi)),(11,.cells 31 [dA 8 p3_]),(12,.cells 39 (cE p2_.lo)),(13,.obj (.deferred (some []))),(14,m18_h5 p4_ p1_),(15,.cells 39 [dI p2_.lo.c,dN])]
noncomputable abbrev m18_h11 (p0_:Bnd) (p1_:(List Int)) (p2_:Bnd) (p3_:((List Lvl))) (p4_:List Bnd) (p5_:Int×(List Int)):List (Nat×HB) :=
 [(0,.cells 41 (cE p0_)),(1,.cells 4 [dB false]),(2,.cells 25 [dI 0]),(4,.cells 70 (flatE p1_)),(5,.cells 41 (cE p2_)),(6,.cells 39 (cE p2_.hi)),(11,.cells 31 [dA 8 p3_]),(12,.cells 39 (cE p2_.lo)),(13,.obj (.deferred (some []))),(14,m18_h8 p4_ p5_)]
noncomputable abbrev m18_h12 (p0_:Bnd) (p1_:Bnd) (p2_:((List Lvl))) (p3_:List Bnd) (p4_:Int×(List Int)):List (Nat×HB) :=
 [(0,.cells 41 (cE p0_)),(1,.cells 4 [dB false]),(2,.cells 25 [dI 0]),(5,.cells 41 (cE p1_)),(6,.cells 39 (cE p1_.hi)),(11,.cells 31 [dA 8 p2_]),(12,.cells 39 (cE p1_.lo)),(13,.obj (.deferred (some []))),(14,m18_h8 p3_ p4_),(15,.cells 39 [dI p1_.lo.c,dN])]
noncomputable abbrev m18_h13 (p0_:Bnd) (p1_:((List Int))) (p2_:Bnd) (p3_:((List Lvl))) (p4_:List Bnd) (p5_:Int×(List Int)):List (Nat×HB) :=
 [(0,.cells 41 (cE p0_)),(1,.cells 4 [dB false]),(2,.cells 25 [dI 0]),(4,.cells 70 (flatE p1_)),(5,.cells 41 (cE p2_)),(6,.cells 39 (cE p2_.hi)),(11,.cells 31 [dA 8 p3_]),(12,.cells 39 (cE p2_.lo)),(13,.obj (.deferred (some []))),(14,m18_h8 p4_ p5_),(15,.cells 39 [dI p2_.lo.c,dN])]
noncomputable abbrev m18_h14 (p0_:Bnd) (p1_:Int×(List Int)) (p2_:Bnd) (p3_:((List Lvl))) (p4_:List Bnd) (p5_:Int×(List Int)) (p6_:LV):List (Nat×HB) :=
 [(0,.cells 41 (cE p0_)),(1,.cells 4 [dB false]),(2,.cells 25 [dI 0]),(4,.cells 70 (flatE p1_.2)),(5,.cells 41 (cE p2_)),(6,.cells 39 (cE p2_.hi)),(11,.cells 31 [dA 8 p3_]),(12,.cells 39 (cE p2_.lo)),(13,.obj (.deferred (some []))),(14,m18_h5 p4_ p5_),(15,.cells 59 (cE p6_))]
noncomputable abbrev m18_h15 (p0_:Bnd) (p1_:Int×(List Int)) (p2_:Bnd) (p3_:((List Lvl))) (p4_:List Bnd) (p5_:Int×(List Int)) (p6_:LV):List (Nat×HB) :=
 [(0,.cells 41 (cE p0_)),(1,.cells 4 [dB false]),(2,.cells 25 [dI 0]),(4,.cells 70 (flatE p1_.2)),(5,.cells 41 (cE p2_)),(6,.cells 39 (cE p2_.hi)),(11,.cells 31 [dA 8 p3_]),(12,.cells 39 (cE p2_.lo)),(13,.obj (.deferred (some []))),(14,m18_h8 p4_ p5_),(15,.cells 59 (cE p6_)),(17,.cells 39 [dI 0,dA 16 ([p6_]:List LV)])]
noncomputable abbrev m18_h16 (p0_:Bnd) (p1_:Int×(List Int)) (p2_:Bnd) (p3_:((List Lvl))) (p4_:List Bnd) (p5_:Int×(List Int)) (p6_:LV):List (Nat×HB) :=
 [(0,.cells 41 (cE p0_)),(1,.cells 4 [dB false]),(2,.cells 25 [dI 0]),(4,.cells 70 (flatE p1_.2)),(5,.cells 41 (cE p2_)),(6,.cells 39 (cE p2_.hi)),(11,.cells 31 [dA 8 p3_]),(12,.cells 39 (cE p2_.lo)),(13,.obj (.deferred (some []))),(14,m18_h5 p4_ p5_),(15,.cells 59 (cE p6_)),(17,.cells 39 [dI 0,dA 16 ([p6_]:List LV)])]
noncomputable abbrev m18_h17 (p0_:Bnd) (p1_:(List Int)) (p2_:Bnd) (p3_:((List Lvl))) (p4_:List Bnd) (p5_:Int×(List Int)) (p6_:LV):List (Nat×HB) :=
 [(0,.cells 41 (cE p0_)),(1,.cells 4 [dB false]),(2,.cells 25 [dI 0]),(4,.cells 70 (flatE p1_)),(5,.cells 41 (cE p2_)),(6,.cells 39 (cE p2_.hi)),(11,.cells 31 [dA 8 p3_]),(12,.cells 39 (cE p2_.lo)),(13,.obj (.deferred (some []))),(14,m18_h8 p4_ p5_),(15,.cells 59 (cE p6_))]
noncomputable abbrev m18_h18 (p0_:Bnd) (p1_:Bnd) (p2_:((List Lvl))) (p3_:List Bnd) (p4_:Int×(List Int)) (p5_:LV):List (Nat×HB) :=
 [(0,.cells 41 (cE p0_)),(1,.cells 4 [dB false]),(2,.cells 25 [dI 0]),(5,.cells 41 (cE p1_)),(6,.cells 39 (cE p1_.hi)),(11,.cells 31 [dA 8 p2_]),(12,.cells 39 (cE p1_.lo)),(13,.obj (.deferred (some []))),(14,m18_h8 p3_ p4_),(15,.cells 59 (cE p5_)),(17,.cells 39 [dI 0,dA 16 ([p5_]:List LV)])]
noncomputable abbrev m18_h19 (p0_:Bnd) (p1_:((List Int))) (p2_:Bnd) (p3_:((List Lvl))) (p4_:List Bnd) (p5_:Int×(List Int)) (p6_:LV):List (Nat×HB) :=
 [(0,.cells 41 (cE p0_)),(1,.cells 4 [dB false]),(2,.cells 25 [dI 0]),(4,.cells 70 (flatE p1_)),(5,.cells 41 (cE p2_)),(6,.cells 39 (cE p2_.hi)),(11,.cells 31 [dA 8 p3_]),(12,.cells 39 (cE p2_.lo)),(13,.obj (.deferred (some []))),(14,m18_h8 p4_ p5_),(15,.cells 59 (cE p6_)),(17,.cells 39 [dI 0,dA 16 ([p6_]:List LV)])]
noncomputable abbrev m18_h20 (p0_:Bnd) (p1_:(List Int)):List (Nat×HB) :=
 [(0,.cells 41 (cE p0_)),(1,.cells 4 [dB false]),(2,.cells 25 [dI 0]),(4,.cells 70 (flatE p1_))]
noncomputable abbrev m18_h21 (p0_:Bnd) (p1_:(List Int)):List (Nat×HB) :=
 [(0,.cells 41 (cE p0_)),(1,.cells 4 [dB false]),(2,.cells 25 [dI 0]),(4,.cells 70 (flatE p1_)),(5,.cells 39 (cE p0_.lo))]
noncomputable abbrev m18_h22 :HB :=
 .loop .ready none [(3,.v (.one (.ptr 0 0))),(4,.v (.one (.ptr 1 0))),(5,.v (.one (.ptr 2 0))),(7,.v (.one (.ptr 4 0))),(69,.v (.one (.fn 62 [(5,0)])))] 81 #[70] m18_c2 m18_c3 6
noncomputable abbrev m18_h23 (p0_:Bnd) (p1_:(List Int)):List (Nat×HB) :=
 [(0,.cells 41 (cE p0_)),(1,.cells 4 [dB false]),(2,.cells 25 [dI 0]),(4,.cells 70 (flatE p1_)),(5,.cells 39 (cE p0_.lo)),(6,.obj (.deferred (some []))),(7,m18_h22)]
noncomputable abbrev m18_h24 :HB :=
 .loop .done (some .ret) [(3,.v (.one (.ptr 0 0))),(4,.v (.one (.ptr 1 0))),(5,.v (.one (.ptr 2 0))),(7,.v (.one (.ptr 4 0))),(69,.v (.one (.fn 62 [(5,0)])))] 81 #[70] m18_c2 m18_c3 6
noncomputable abbrev m18_h25 (p0_:Bnd) (p1_:(List Int)):List (Nat×HB) :=
 [(0,.cells 41 (cE p0_)),(1,.cells 4 [dB false]),(2,.cells 25 [dI 0]),(4,.cells 70 (flatE p1_)),(5,.cells 39 (cE p0_.lo)),(6,.obj (.deferred (some []))),(7,m18_h24)]
noncomputable abbrev m18_h26 :HB :=
 .loop .busy none [(3,.v (.one (.ptr 0 0))),(4,.v (.one (.ptr 1 0))),(5,.v (.one (.ptr 2 0))),(7,.v (.one (.ptr 4 0))),(69,.v (.one (.fn 62 [(5,0)])))] 81 #[70] m18_c2 m18_c3 6
noncomputable abbrev m18_h27 (p0_:Bnd) (p1_:(List Int)):List (Nat×HB) :=
 [(0,.cells 41 (cE p0_)),(1,.cells 4 [dB false]),(2,.cells 25 [dI 0]),(4,.cells 70 (flatE p1_)),(5,.cells 39 (cE p0_.lo)),(6,.obj (.deferred (some []))),(7,m18_h26),(8,.cells 39 [dI p0_.lo.c,dN])]
noncomputable abbrev m18_h28 (p0_:Bnd) (p1_:(List Int)):List (Nat×HB) :=
 [(0,.cells 41 (cE p0_)),(1,.cells 4 [dB false]),(2,.cells 25 [dI 0]),(4,.cells 70 (flatE p1_)),(5,.cells 39 (cE p0_.lo)),(6,.obj (.deferred (some []))),(7,m18_h22),(8,.cells 39 [dI p0_.lo.c,dN])]
noncomputable abbrev m18_h29 (p0_:Bnd) (p1_:(List Int)):List (Nat×HB) :=
 [(0,.cells 41 (cE p0_)),(1,.cells 4 [dB false]),(2,.cells 25 [dI 0]),(4,.cells 70 (flatE p1_)),(5,.cells 39 (cE p0_.lo)),(6,.obj (.deferred (some []))),(7,m18_h26)]
noncomputable abbrev m18_h30 (p0_:Bnd) (p1_:(List Int)):List (Nat×HB) :=
 [(0,.cells 41 (cE p0_)),(1,.cells 4 [dB false]),(2,.cells 25 [dI 0]),(4,.cells 70 (flatE p1_)),(5,.cells 39 (cE p0_.lo)),(6,.obj (.deferred (some []))),(7,m18_h26),(8,.cells 39 [dI p0_.lo.c,dN]),(9,.cells 70 (flatE p1_))]
noncomputable abbrev m18_h31 (p0_:Bnd) (p1_:(List Int)):List (Nat×HB) :=
 [(0,.cells 41 (cE p0_)),(1,.cells 4 [dB false]),(2,.cells 25 [dI 0]),(4,.cells 70 (flatE p1_)),(5,.cells 39 (cE p0_.lo)),(6,.obj (.deferred (some []))),(7,m18_h26),(8,.cells 39 [dI p0_.lo.c,dN]),(9,.cells 70 (flatE p1_)),(10,.cells 39 (cE p0_.hi))]
noncomputable abbrev m18_h32 :HB :=
 .loop .ready none [(4,.v (.one (.ptr 1 0))),(5,.v (.one (.ptr 2 0))),(14,.v (.one (.ptr 8 0))),(15,.v (.one (.ptr 9 0))),(74,.v (.one (.fn 62 [(10,0)])))] 81 #[75] m18_c4 m18_c5 6
noncomputable abbrev m18_h33 (p0_:Bnd) (p1_:(List Int)) (p2_:(List Int)):List (Nat×HB) :=
 [(0,.cells 41 (cE p0_)),(1,.cells 4 [dB false]),(2,.cells 25 [dI 0]),(4,.cells 70 (flatE p1_)),(5,.cells 39 (cE p0_.lo)),(6,.obj (.deferred (some []))),(7,m18_h26),(8,.cells 39 [dI p0_.lo.c,dN]),(9,.cells 70 (flatE p2_)),(10,.cells 39 (cE p0_.hi)),(11,m18_h32)]
noncomputable abbrev m18_h34 (p0_:Bnd) (p1_:(List Int)):List (Nat×HB) :=
 [(0,.cells 41 (cE p0_)),(1,.cells 4 [dB false]),(2,.cells 25 [dI 0]),(4,.cells 70 (flatE p1_)),(5,.cells 39 (cE p0_.lo)),(6,.obj (.deferred (some []))),(7,m18_h26),(8,.cells 39 [dI p0_.lo.c,dN]),(9,.cells 70 (flatE p1_)),(10,.cells 39 (cE p0_.hi)),(11,m18_h32)]
noncomputable abbrev m18_h35 :HB :=
 .loop .busy none [(4,.v (.one (.ptr 1 0))),(5,.v (.one (.ptr 2 0))),(14,.v (.one (.ptr 8 0))),(15,.v (.one (.ptr 9 0))),(74,.v (.one (.fn 62 [(10,0)])))] 81 #[75] m18_c4 m18_c5 6
noncomputable abbrev m18_h36 (p0_:Bnd) (p1_:(List Int)):List (Nat×HB) :=
 [(0,.cells 41 (cE p0_)),(1,.cells 4 [dB false]),(2,.cells 25 [dI 0]),(4,.cells 70 (flatE p1_)),(5,.cells 39 (cE p0_.lo)),(6,.obj (.deferred (some []))),(7,m18_h26),(8,.cells 39 [dI p0_.lo.c,dN]),(9,.cells 70 (flatE p1_)),(10,.cells 39 (cE p0_.hi)),(11,m18_h35),(12,.cells 39 [dI p0_.hi.c,dN])]
noncomputable abbrev m18_h37 (p0_:Bnd) (p1_:(List Int)):List (Nat×HB) :=
 [(0,.cells 41 (cE p0_)),(1,.cells 4 [dB false]),(2,.cells 25 [dI 0]),(4,.cells 70 (flatE p1_)),(5,.cells 39 (cE p0_.lo)),(6,.obj (.deferred (some []))),(7,m18_h26),(8,.cells 39 [dI p0_.lo.c,dN]),(9,.cells 70 (flatE p1_)),(10,.cells 39 (cE p0_.hi)),(11,m18_h32),(12,.cells 39 [dI p0_.hi.c,dN])]
noncomputable abbrev m18_h38 (p0_:Bnd) (p1_:(List Int)) (p2_:(List Int)):List (Nat×HB) :=
 [(0,.cells 41 (cE p0_)),(1,.cells 4 [dB false]),(2,.cells 25 [dI 0]),(4,.cells 70 (flatE p1_)),(5,.cells 39 (cE p0_.lo)),(6,.obj (.deferred (some []))),(7,m18_h26),(8,.cells 39 [dI p0_.lo.c,dN]),(9,.cells 70 (flatE p2_)),(10,.cells 39 (cE p0_.hi)),(11,m18_h35)]
noncomputable abbrev m18_h39 (p0_:Bnd) (p1_:(List Int)):List (Nat×HB) :=
 [(0,.cells 41 (cE p0_)),(1,.cells 4 [dB false]),(2,.cells 25 [dI 0]),(4,.cells 70 (flatE p1_)),(5,.cells 39 (cE p0_.lo)),(6,.obj (.deferred (some []))),(7,m18_h26),(8,.cells 39 [dI p0_.lo.c,dN]),(10,.cells 39 (cE p0_.hi)),(11,m18_h35),(12,.cells 39 [dI p0_.hi.c,dN])]
noncomputable abbrev m18_h40 (p0_:Bnd) (p1_:(List Int)) (p2_:Int×(List Int)) (p3_:LV):List (Nat×HB) :=
 [(0,.cells 41 (cE p0_)),(1,.cells 4 [dB false]),(2,.cells 25 [dI 0]),(4,.cells 70 (flatE p1_)),(5,.cells 39 (cE p0_.lo)),(6,.obj (.deferred (some []))),(7,m18_h26),(8,.cells 39 [dI p0_.lo.c,dN]),(9,.cells 70 (flatE p2_.2)),(10,.cells 39 (cE p0_.hi)),(11,m18_h32),(12,.cells 59 (cE p3_))]
noncomputable abbrev m18_h41 (p0_:Bnd) (p1_:(List Int)) (p2_:Int×(List Int)) (p3_:LV):List (Nat×HB) :=
 [(0,.cells 41 (cE p0_)),(1,.cells 4 [dB false]),(2,.cells 25 [dI 0]),(4,.cells 70 (flatE p1_)),(5,.cells 39 (cE p0_.lo)),(6,.obj (.deferred (some []))),(7,m18_h26),(8,.cells 39 [dI p0_.lo.c,dN]),(9,.cells 70 (flatE p2_.2)),(10,.cells 39 (cE p0_.hi)),(11,m18_h35),(12,.cells 59 (cE p3_)),(14,.cells 39 [dI 0,dA 13 ([p3_]:List LV)])]
noncomputable abbrev m18_h42 (p0_:Bnd) (p1_:(List Int)) (p2_:Int×(List Int)) (p3_:LV):List (Nat×HB) :=
 [(0,.cells 41 (cE p0_)),(1,.cells 4 [dB false]),(2,.cells 25 [dI 0]),(4,.cells 70 (flatE p1_)),(5,.cells 39 (cE p0_.lo)),(6,.obj (.deferred (some []))),(7,m18_h26),(8,.cells 39 [dI p0_.lo.c,dN]),(9,.cells 70 (flatE p2_.2)),(10,.cells 39 (cE p0_.hi)),(11,m18_h32),(12,.cells 59 (cE p3_)),(14,.cells 39 [dI 0,dA 13 ([p3_]:List LV)])]
noncomputable abbrev m18_h43 (p0_:Bnd) (p1_:(List Int)) (p2_:(List Int)) (p3_:LV):List (Nat×HB) :=
 [(0,.cells 41 (cE p0_)),(1,.cells 4 [dB false]),(2,.cells 25 [dI 0]),(4,.cells 70 (flatE p1_)),(5,.cells 39 (cE p0_.lo)),(6,.obj (.deferred (some []))),(7,m18_h26),(8,.cells 39 [dI p0_.lo.c,dN]),(9,.cells 70 (flatE p2_)),(10,.cells 39 (cE p0_.hi)),(11,m18_h35),(12,.cells 59 (cE p3_))]
noncomputable abbrev m18_h44 (p0_:Bnd) (p1_:(List Int)) (p2_:LV):List (Nat×HB) :=
 [(0,.cells 41 (cE p0_)),(1,.cells 4 [dB false]),(2,.cells 25 [dI 0]),(4,.cells 70 (flatE p1_)),(5,.cells 39 (cE p0_.lo)),(6,.obj (.deferred (some []))),(7,m18_h26),(8,.cells 39 [dI p0_.lo.c,dN]),(10,.cells 39 (cE p0_.hi)),(11,m18_h35),(12,.cells 59 (cE p2_)),(14,.cells 39 [dI 0,dA 13 ([p2_]:List LV)])]
noncomputable abbrev m18_h45 (p0_:Bnd) (p1_:(List Int)) (p2_:LV):List (Nat×HB) :=
 [(0,.cells 41 (cE p0_)),(1,.cells 4 [dB false]),(2,.cells 25 [dI 0]),(4,.cells 70 (flatE p1_)),(5,.cells 39 (cE p0_.lo)),(6,.obj (.deferred (some []))),(7,m18_h22),(8,.cells 59 (cE p2_))]
noncomputable abbrev m18_h46 (p0_:Bnd) (p1_:(List Int)) (p2_:LV):List (Nat×HB) :=
 [(0,.cells 41 (cE p0_)),(1,.cells 4 [dB false]),(2,.cells 25 [dI 0]),(4,.cells 70 (flatE p1_)),(5,.cells 39 (cE p0_.lo)),(6,.obj (.deferred (some []))),(7,m18_h26),(8,.cells 59 (cE p2_)),(10,.cells 39 [dI 0,dA 9 ([p2_]:List LV)])]
noncomputable abbrev m18_h47 (p0_:Bnd) (p1_:(List Int)) (p2_:LV):List (Nat×HB) :=
 [(0,.cells 41 (cE p0_)),(1,.cells 4 [dB false]),(2,.cells 25 [dI 0]),(4,.cells 70 (flatE p1_)),(5,.cells 39 (cE p0_.lo)),(6,.obj (.deferred (some []))),(7,m18_h22),(8,.cells 59 (cE p2_)),(10,.cells 39 [dI 0,dA 9 ([p2_]:List LV)])]
noncomputable abbrev m18_h48 (p0_:Bnd) (p1_:(List Int)) (p2_:LV):List (Nat×HB) :=
 [(0,.cells 41 (cE p0_)),(1,.cells 4 [dB false]),(2,.cells 25 [dI 0]),(4,.cells 70 (flatE p1_)),(5,.cells 39 (cE p0_.lo)),(6,.obj (.deferred (some []))),(7,m18_h26),(8,.cells 59 (cE p2_))]
noncomputable abbrev m18_h49 (p0_:Bnd) (p1_:(List Int)) (p2_:LV):List (Nat×HB) :=
 [(0,.cells 41 (cE p0_)),(1,.cells 4 [dB false]),(2,.cells 25 [dI 0]),(4,.cells 70 (flatE p1_)),(5,.cells 39 (cE p0_.lo)),(6,.obj (.deferred (some []))),(7,m18_h26),(8,.cells 59 (cE p2_)),(10,.cells 39 [dI 0,dA 9 ([p2_]:List LV)]),(11,.cells 70 (flatE p1_))]
noncomputable abbrev m18_h50 (p0_:Bnd) (p1_:(List Int)) (p2_:LV):List (Nat×HB) :=
 [(0,.cells 41 (cE p0_)),(1,.cells 4 [dB false]),(2,.cells 25 [dI 0]),(4,.cells 70 (flatE p1_)),(5,.cells 39 (cE p0_.lo)),(6,.obj (.deferred (some []))),(7,m18_h26),(8,.cells 59 (cE p2_)),(10,.cells 39 [dI 0,dA 9 ([p2_]:List LV)]),(11,.cells 70 (flatE p1_)),(12,.cells 39 (cE p0_.hi))]
noncomputable abbrev m18_h51 :HB :=
 .loop .ready none [(4,.v (.one (.ptr 1 0))),(5,.v (.one (.ptr 2 0))),(14,.v (.one (.ptr 10 0))),(15,.v (.one (.ptr 11 0))),(74,.v (.one (.fn 62 [(12,0)])))] 81 #[75] m18_c4 m18_c5 6
noncomputable abbrev m18_h52 (p0_:Bnd) (p1_:(List Int)) (p2_:LV) (p3_:(List Int)):List (Nat×HB) :=
 [(0,.cells 41 (cE p0_)),(1,.cells 4 [dB false]),(2,.cells 25 [dI 0]),(4,.cells 70 (flatE p1_)),(5,.cells 39 (cE p0_.lo)),(6,.obj (.deferred (some []))),(7,m18_h26),(8,.cells 59 (cE p2_)),(10,.cells 39 [dI 0,dA 9 ([p2_]:List LV)]),(11,.cells 70 (flatE p3_)),(12,.cells 39 (cE p0_.hi)),(13,m18_h51)]
noncomputable abbrev m18_h53 (p0_:Bnd) (p1_:(List Int)) (p2_:LV):List (Nat×HB) :=
 [(0,.cells 41 (cE p0_)),(1,.cells 4 [dB false]),(2,.cells 25 [dI 0]),(4,.cells 70 (flatE p1_)),(5,.cells 39 (cE p0_.lo)),(6,.obj (.deferred (some []))),(7,m18_h26),(8,.cells 59 (cE p2_)),(10,.cells 39 [dI 0,dA 9 ([p2_]:List LV)]),(11,.cells 70 (flatE p1_)),(12,.cells 39 (cE p0_.hi)),(13,m18_h51)]
noncomputable abbrev m18_h54 :HB :=
 .loop .busy none [(4,.v (.one (.ptr 1 0))),(5,.v (.one (.ptr 2 0))),(14,.v (.one (.ptr 10 0))),(15,.v (.one (.ptr 11 0))),(74,.v (.one (.fn 62 [(12,0)])))] 81 #[75] m18_c4 m18_c5 6
noncomputable abbrev m18_h55 (p0_:Bnd) (p1_:(List Int)) (p2_:LV):List (Nat×HB) :=
 [(0,.cells 41 (cE p0_)),(1,.cells 4 [dB false]),(2,.cells 25 [dI 0]),(4,.cells 70 (flatE p1_)),(5,.cells 39 (cE p0_.lo)),(6,.obj (.deferred (some []))),(7,m18_h26),(8,.cells 59 (cE p2_)),(10,.cells 39 [dI 0,dA 9 ([p2_]:List LV)]),(11,.cells 70 (flatE p1_)),(12,.cells 39 (cE p0_.hi)),(13,m18_h54),(14,.cells 39 [dI p0_.hi.c,dN])]
noncomputable abbrev m18_h56 (p0_:Bnd) (p1_:(List Int)) (p2_:LV):List (Nat×HB) :=
 [(0,.cells 41 (cE p0_)),(1,.cells 4 [dB false]),(2,.cells 25 [dI 0]),(4,.cells 70 (flatE p1_)),(5,.cells 39 (cE p0_.lo)),(6,.obj (.deferred (some []))),(7,m18_h26),(8,.cells 59 (cE p2_)),(10,.cells 39 [dI 0,dA 9 ([p2_]:List LV)]),(11,.cells 70 (flatE p1_)),(12,.cells 39 (cE p0_.hi)),(13,m18_h51),(14,.cells 39 [dI p0_.hi.c,dN])]
noncomputable abbrev m18_h57 (p0_:Bnd) (p1_:(List Int)) (p2_:LV) (p3_:(List Int)):List (Nat×HB) :=
 [(0,.cells 41 (cE p0_)),(1,.cells 4 [dB false]),(2,.cells 25 [dI 0]),(4,.cells 70 (flatE p1_)),(5,.cells 39 (cE p0_.lo)),(6,.obj (.deferred (some []))),(7,m18_h26),(8,.cells 59 (cE p2_)),(10,.cells 39 [dI 0,dA 9 ([p2_]:List LV)]),(11,.cells 70 (flatE p3_)),(12,.cells 39 (cE p0_.hi)),(13,m18_h54)]
noncomputable abbrev m18_h58 (p0_:Bnd) (p1_:(List Int)) (p2_:LV):List (Nat×HB) :=
 [(0,.cells 41 (cE p0_)),(1,.cells 4 [dB false]),(2,.cells 25 [dI 0]),(4,.cells 70 (flatE p1_)),(5,.cells 39 (cE p0_.lo)),(6,.obj (.deferred (some []))),(7,m18_h26),(8,.cells 59 (cE p2_)),(10,.cells 39 [dI 0,dA 9 ([p2_]:List LV)]),(12,.cells 39 (cE p0_.hi)),(13,m18_h54),(14,.cells 39 [dI p0_.hi.c,dN])]
noncomputable abbrev m18_h59 (p0_:Bnd) (p1_:(List Int)) (p2_:LV) (p3_:Int×(List Int)) (p4_:LV):List (Nat×HB) :=
 [(0,.cells 41 (cE p0_)),(1,.cells 4 [dB false]),(2,.cells 25 [dI 0]),(4,.cells 70 (flatE p1_)),(5,.cells 39 (cE p0_.lo)),(6,.obj (.deferred (some []))),(7,m18_h26),(8,.cells 59 (cE p2_)),(10,.cells 39 [dI 0,dA 9 ([p2_]:List LV)]),(11,.cells 70 (flatE p3_.2)),(12,.cells 39 (cE p0_.hi)),(13,m18_h51),(14,.cells 59 (cE p4_))]
noncomputable abbrev m18_h60 (p0_:Bnd) (p1_:(List Int)) (p2_:LV) (p3_:Int×(List Int)) (p4_:LV):List (Nat×HB) :=
 [(0,.cells 41 (cE p0_)),(1,.cells 4 [dB false]),(2,.cells 25 [dI 0]),(4,.cells 70 (flatE p1_)),(5,.cells 39 (cE p0_.lo)),(6,.obj (.deferred (some []))),(7,m18_h26),(8,.cells 59 (cE p2_)),(10,.cells 39 [dI 0,dA 9 ([p2_]:List LV)]),(11,.cells 70 (flatE p3_.2)),(12,.cells 39 (cE p0_.hi)),(13,m18_h54),(14,.cells 59 (cE p4_)),(16,.cells 39 [dI 0,dA 15 ([p4_]:List LV)])]
noncomputable abbrev m18_h61 (p0_:Bnd) (p1_:(List Int)) (p2_:LV) (p3_:Int×(List Int)) (p4_:LV):List (Nat×HB) :=
 [(0,.cells 41 (cE p0_)),(1,.cells 4 [dB false]),(2,.cells 25 [dI 0]),(4,.cells 70 (flatE p1_)),(5,.cells 39 (cE p0_.lo)),(6,.obj (.deferred (some []))),(7,m18_h26),(8,.cells 59 (cE p2_)),(10,.cells 39 [dI 0,dA 9 ([p2_]:List LV)]),(11,.cells 70 (flatE p3_.2)),(12,.cells 39 (cE p0_.hi)),(13,m18_h51),(14,.cells 59 (cE p4_)),(16,.cells 39 [dI 0,dA 15 ([p4_]:List LV)])]
noncomputable abbrev m18_h62 (p0_:Bnd) (p1_:(List Int)) (p2_:LV) (p3_:(List Int)) (p4_:LV):List (Nat×HB) :=
 [(0,.cells 41 (cE p0_)),(1,.cells 4 [dB false]),(2,.cells 25 [dI 0]),(4,.cells 70 (flatE p1_)),(5,.cells 39 (cE p0_.lo)),(6,.obj (.deferred (some []))),(7,m18_h26),(8,.cells 59 (cE p2_)),(10,.cells 39 [dI 0,dA 9 ([p2_]:List LV)]),(11,.cells 70 (flatE p3_)),(12,.cells 39 (cE p0_.hi)),(13,m18_h54),(14,.cells 59 (cE p4_))]
noncomputable abbrev m18_h63 (p0_:Bnd) (p1_:(List Int)) (p2_:LV) (p3_:LV):List (Nat×HB) :=
 [(0,.cells 41 (cE p0_)),(1,.cells 4 [dB false]),(2,.cells 25 [dI 0]),(4,.cells 70 (flatE p1_)),(5,.cells 39 (cE p0_.lo)),(6,.obj (.deferred (some []))),(7,m18_h26),(8,.cells 59 (cE p2_)),(10,.cells 39 [dI 0,dA 9 ([p2_]:List LV)]),(12,.cells 39 (cE p0_.hi)),(13,m18_h54),(14,.cells 59 (cE p3_)),(16,.cells 39 [dI 0,dA 15 ([p3_]:List LV)])]
def m18 (a0:List Bnd) (a1:Bnd):Option (Bool×Int) :=
 guardO (Nat.ble (([]:List Bnd).length+a0.length) 1000000000)
 (guardO (Nat.ble (a0.length+([a1]).length) 1000000000)
 (Option.bind (m35f19 (a0++([a1]))) fun (x3:Bool) =>
 cond x3
   (some (false,3))
   (Option.bind (m35f21 (a0++([a1]))) fun (x5:Bool) =>
 cond x5
   (some (false,23))
   (Option.bind (loopN (m18_l1) FUEL (0,(List.replicate 81 (0:Int)))) (fun (o7:(List Int))=>Option.bind (loopN (m18_l3 a0) FUEL (0,o7)) (Sum.elim (fun (o8:(List Int))=>Option.bind (some ()) (fun (y9:Unit)=>Option.bind (Option.bind (cond (decide (0 < a1.lo.c))
   (Option.bind (guardO (Nat.beq o8.length 81)
 (guardO (Nat.beq (List.replicate 81 (0:Int)).length 81)
 (guardO (Nat.beq o8.length 81)
 (Option.bind (some ()) (fun (y26:Unit)=>Option.bind (Option.bind (cond (decide (0 < a1.hi.c))
   (Option.bind (Option.bind (m41f27 a1.hi.c a1.lo.c 1 o8) fun (x35:((List Int))) =>
 some x35) (fun (y32:(List Int))=>some y32))
   (cond ((a1.hi.vs.length:Int)==0)
   (Option.bind (Option.bind (m41f27 a1.hi.c a1.lo.c 1 o8) fun (x40:((List Int))) =>
 some x40) (fun (y37:(List Int))=>some y37))
   (some o8))) (fun (v30:(List Int))=>Option.bind (loopN (m18_l6 a1) FUEL (0,v30)) (fun (o31:(List Int))=>some o31))) (fun (y28:(List Int))=>guardO (Nat.beq y28.length 81)
 (Option.bind (m42 y28) fun (x50:Bool) =>
 cond x50
   (some (.inr ()))
   (some (.inl ()))))))))) (Sum.elim (fun (y18:Unit)=>some (.inl ())) (fun (y19:Unit)=>some (.inr ()))))
   (cond ((a1.lo.vs.length:Int)==0)
   (Option.bind (guardO (Nat.beq o8.length 81)
 (guardO (Nat.beq (List.replicate 81 (0:Int)).length 81)
 (guardO (Nat.beq o8.length 81)
 (Option.bind (some ()) (fun (y61:Unit)=>Option.bind (Option.bind (cond (decide (0 < a1.hi.c))
   (Option.bind (Option.bind (m41f27 a1.hi.c a1.lo.c 1 o8) fun (x70:((List Int))) =>
 some x70) (fun (y67:(List Int))=>some y67))
   (cond ((a1.hi.vs.length:Int)==0)
   (Option.bind (Option.bind (m41f27 a1.hi.c a1.lo.c 1 o8) fun (x75:((List Int))) =>
 some x75) (fun (y72:(List Int))=>some y72))
   (some o8))) (fun (v65:(List Int))=>Option.bind (loopN (m18_l6 a1) FUEL (0,v65)) (fun (o66:(List Int))=>some o66))) (fun (y63:(List Int))=>guardO (Nat.beq y63.length 81)
 (Option.bind (m42 y63) fun (x85:Bool) =>
 cond x85
   (some (.inr ()))
   (some (.inl ()))))))))) (Sum.elim (fun (y53:Unit)=>some (.inl ())) (fun (y54:Unit)=>some (.inr ()))))
   (some (.inl ())))) (Sum.elim (fun (v15:Unit)=>Option.bind (loopN (m18_l5 a1 o8) FUEL 0) (Sum.elim (fun (o17:Unit)=>some (.inl ())) (fun o=>some o))) (fun (v16:Unit)=>some (.inr ())))) (Sum.elim (fun (y11:Unit)=>some (true,0)) (fun (y12:Unit)=>some (false,0))))) (fun o=>some o)))))))
end Go.Proofs.Ytkimijmiphkddaa
