/- Part 3 of the proof: rules, mirrors and plain laws. The statement SignatureExtendsUpto is proved here: for every list of declarations and every name the law returns true, and what it is given reads behind the call ars it did before; condition: the arguments are of bulk at most 1048576 (the second form). -/
import Derived.Test.YtafddfoefeploaaK62
import Derived.ProofKit
import Derived.Shelf.Abstract
set_option maxRecDepth 100000
set_option maxHeartbeats 2000000
set_option linter.unusedSimpArgs false
set_option linter.unusedVariables false
set_option linter.unusedSectionVars false
namespace Go.Proofs.Ytafddfoefeploaa
open Go.RowKit Go.Shelf
def JB {α:Type} (nm:α→Bs) (n:Bs):List α→Nat→Option (Nat×α)
 | [],_=>none
 | x::l,i=>if nm x=n then some (i,x) else JB nm n l (i+1)
theorem firstN_none {α:Type} (nm:α→Bs) (n:Bs):∀ (l:List α) (k:Nat),(∀ y∈l,nm y ≠ n)→JB nm n l k=none
 | [],_,_=>rfl
 | x::l,k,h=>by
  rw [JB,if_neg (h x (List.mem_cons_self ..))]
  exact firstN_none nm n l (k+1) fun y hy=>h y (List.mem_cons_of_mem _ hy)
theorem firstN_mid {α:Type} (nm:α→Bs) (n:Bs) (x:α) (b:List α) (hx:nm x=n):∀ (a:List α) (k:Nat),(∀ y∈a,nm y ≠ n)→JB nm n (a++x::b) k=some (k+a.length,x)
 | [],k,_=>by rw [List.nil_append,JB,if_pos hx];rfl
 | y::a,k,h=>by
  rw [List.cons_append,JB,if_neg (h y (List.mem_cons_self ..)),firstN_mid nm n x b hx a (k+1) fun z hz=>h z (List.mem_cons_of_mem _ hz),List.length_cons]
  congr 2
  omega
def Wo {α β:Type} (e0:β) (g:Int→α→β):Option (Nat×α)→β
 | none=>e0
 | some p=>g (p.1:Int) p.2
theorem loop_find {α β:Type} {step:Int→Option (LO Int β)} (nm:α→Bs) (n:Bs) (l:List α) (e0:β) (g:Int→α→β) (hlen:l.length≤900000000)
  (hin:∀ (a:List α) (x:α) (b:List α),l=a++x::b→step (a.length:Int)=some (if nm x=n then .done (g (a.length:Int) x) else .next (Ja ((a.length:Int)+1))))
  (hout:step (l.length:Int)=some (.done e0)):Qq step QI 0=some (Wo e0 g (JB nm n l 0)):=by
 obtain ⟨r,h1,h2⟩:=Y3 (step:=step) l (fun i (_:Unit)=>i) (fun a _=>∀ y∈a,nm y ≠ n) (fun r=>r=(Wo e0 g (JB nm n l 0))) hlen
  (fun a x b s hl hI=>by
   by_cases hx:nm x=n
   ·refine .inl ⟨g (a.length:Int) x,by rw [hin a x b hl,if_pos hx],?_⟩
    rw [hl,firstN_mid nm n x b hx a 0 hI,Nat.zero_add];rfl
   ·refine .inr ⟨(),by rw [hin a x b hl,if_neg hx],fun y hy=>?_⟩
    rcases List.mem_append.1 hy with h | h
    ·exact hI y h
    ·rw [List.mem_singleton.1 h];exact hx)
  (fun s hI=>⟨e0,hout,by rw [firstN_none nm n l 0 hI];rfl⟩) () (fun y hy=>by cases hy)
 rw [h1,h2]
def WA:Bs:=[46,114,101,99]
def JN (d:Dcl) (at_:Int) (n:Bs):Option Ent :=
 if d.kind=0∨d.kind=1∨d.kind=2 then (if d.name=n then some ⟨d.kind,at_,0,d.params,d.ty⟩ else none)
 else if d.kind=3 then (if d.name=n then some ⟨3,at_,0,d.params,d.ty⟩ else match JB (·.name) n d.ctors 0 with
  | some (i,c)=>some ⟨4,at_,i,d.params,c.ty⟩
  | none=>if d.name++WA=n then some ⟨5,at_,0,d.rcr.params,d.rcr.ty⟩ else none)
 else if d.kind=4 then (match JB (·.name) n d.funs 0 with
  | some (i,f)=>some ⟨6,at_,i,d.params,f.ty⟩
  | none=>none)
 else none
abbrev Y8:=Int×Int×Int×Int×Int×Bs×List Lvl×List Tm
theorem m14_l0_eq (d:Dcl) (n:Bs) (h:d.size≤900000000):Qq (X2 d n) QI 0=some (Wo (β:=Unit⊕(Unit⊕Y8)) (.inl ()) (fun i c=>.inr (.inr (4,i,d.params,c.ty.kind,c.ty.index,c.ty.name,c.ty.levels,c.ty.kids))) (JB (·.name) n d.ctors 0)):=by
 have hl:=YK d
 refine loop_find (β:=Unit⊕(Unit⊕Y8)) (step:=X2 d n) (·.name) n d.ctors (.inl ()) (fun i (c:Ctr)=>.inr (.inr (4,i,d.params,c.ty.kind,c.ty.index,c.ty.name,c.ty.levels,c.ty.kids))) (by omega) (fun a x b e=>?_) (by unfold X2;rw [J9];rfl)
 unfold X2
 rw [e,JS,JF]
 show Option.bind (cond (x.name==n) (some (Sum.inr ())) (some (Sum.inl ()))) _=_
 rw [WY]
 by_cases hx:x.name=n
 ·rw [decide_eq_true hx,if_pos hx];rfl
 ·rw [decide_eq_false hx,if_neg hx];rfl
theorem m14_l2_eq (d:Dcl) (n:Bs) (h:d.size≤900000000):Qq (X1 d n) QI 0=some (Wo (β:=Unit⊕(Unit⊕Y8)) (.inl ()) (fun i c=>.inr (.inr (6,i,d.params,c.ty.kind,c.ty.index,c.ty.name,c.ty.levels,c.ty.kids))) (JB (·.name) n d.funs 0)):=by
 have hl:=Zx d
 refine loop_find (β:=Unit⊕(Unit⊕Y8)) (step:=X1 d n) (·.name) n d.funs (.inl ()) (fun i (c:Fn)=>.inr (.inr (6,i,d.params,c.ty.kind,c.ty.index,c.ty.name,c.ty.levels,c.ty.kids))) (by omega) (fun a x b e=>?_) (by unfold X1;rw [J9];rfl)
 unfold X1
 rw [e,JS,JF]
 show Option.bind (cond (x.name==n) (some (Sum.inr ())) (some (Sum.inl ()))) _=_
 rw [WY]
 by_cases hx:x.name=n
 ·rw [decide_eq_true hx,if_pos hx];rfl
 ·rw [decide_eq_false hx,if_neg hx];rfl
def ansE:Option Ent→Unit⊕Y8
 | none=>.inl ()
 | some e=>.inr (e.kind,e.item,e.params,e.ty.kind,e.ty.index,e.ty.name,e.ty.levels,e.ty.kids)
theorem name_len (d:Dcl):d.name.length < d.size:=by unfold Dcl.size;omega
theorem m14_k1_eq (d:Dcl) (n:Bs) (at_:Int) (h:d.size≤900000000):WN d n=some (ansE (if d.name++WA=n then some ⟨5,at_,0,d.rcr.params,d.rcr.ty⟩ else none)):=by
 have hl:=name_len d
 unfold WN
 rw [JI (by show d.name.length+4≤1000000000;omega),WY]
 by_cases hx:d.name++WA=n
 ·rw [decide_eq_true (show d.name++[46,114,101,99]=n from hx),if_pos hx];rfl
 ·rw [decide_eq_false (show ¬ d.name++[46,114,101,99]=n from hx),if_neg hx];rfl
theorem m14_decl (d:Dcl) (n:Bs) (at_:Int) (h:d.size≤900000000):Option.bind (cond (d.kind==0) (some (d.kind==0)) (cond (d.kind==1) (some (d.kind==1)) (some (d.kind==2)))) (fun v10=>XH v10 d n)=some (ansE (JN d at_ n)):=by
 rw [kinds_eq]
 show XH (decide (d.kind=0∨d.kind=1∨d.kind=2)) d n=_
 unfold XH JN
 by_cases hk:d.kind=0∨d.kind=1∨d.kind=2
 ·rw [decide_eq_true hk,if_pos hk]
  show Option.bind (Jx [0,1,2] d.kind) _=_
  have e1:Jx ([0,1,2]:List Int) d.kind=some d.kind:=by rcases hk with e | e | e <;> rw [e] <;> rfl
  rw [e1]
  show Option.bind (cond (d.name==n) _ _) _=_
  rw [WY]
  by_cases hx:d.name=n
  ·rw [decide_eq_true hx,if_pos hx];rfl
  ·rw [decide_eq_false hx,if_neg hx];rfl
 ·rw [decide_eq_false hk,if_neg hk]
  show cond (d.kind==3) _ _=_
  rw [Yk]
  by_cases h3:d.kind=3
  ·rw [decide_eq_true h3,if_pos h3]
   show Option.bind (cond (d.name==n) _ _) _=_
   rw [WY]
   by_cases hx:d.name=n
   ·rw [decide_eq_true hx,if_pos hx];rfl
   ·rw [decide_eq_false hx,if_neg hx]
    show Option.bind (Qq (X2 d n) QI 0) _=_
    rw [m14_l0_eq d n h]
    cases JB (·.name) n d.ctors 0 with
    | none=>exact m14_k1_eq d n at_ h
    | some p=>rfl
  ·rw [decide_eq_false h3,if_neg h3]
   show cond (d.kind==4) _ _=_
   rw [Yk]
   by_cases h4:d.kind=4
   ·rw [decide_eq_true h4,if_pos h4]
    show Option.bind (Qq (X1 d n) QI 0) _=_
    rw [m14_l2_eq d n h]
    cases JB (·.name) n d.funs 0 with
    | none=>rfl
    | some p=>rfl
   ·rw [decide_eq_false h4,if_neg h4];rfl
theorem m34_l0_eq (d:Dcl) (n:Bs) (at_:Int) (h:d.size≤900000000):Qq (WK d n at_) QI 0=some (Wo (β:=Unit⊕Ent) (.inl ()) (fun i c=>.inr ⟨4,at_,i,d.params,c.ty⟩) (JB (·.name) n d.ctors 0)):=by
 have hl:=YK d
 refine loop_find (β:=Unit⊕Ent) (step:=WK d n at_) (·.name) n d.ctors (.inl ()) (fun i (c:Ctr)=>.inr ⟨4,at_,i,d.params,c.ty⟩) (by omega) (fun a x b e=>?_) (by unfold WK;rw [J9];rfl)
 unfold WK
 rw [e,JS,JF]
 show cond (x.name==n) _ _=_
 rw [WY]
 by_cases hx:x.name=n
 ·rw [decide_eq_true hx,if_pos hx];rfl
 ·rw [decide_eq_false hx,if_neg hx];rfl
theorem m34_l1_eq (d:Dcl) (n:Bs) (at_:Int) (h:d.size≤900000000):Qq (WJ d n at_) QI 0=some (Wo (β:=Unit⊕Ent) (.inl ()) (fun i c=>.inr ⟨6,at_,i,d.params,c.ty⟩) (JB (·.name) n d.funs 0)):=by
 have hl:=Zx d
 refine loop_find (β:=Unit⊕Ent) (step:=WJ d n at_) (·.name) n d.funs (.inl ()) (fun i (c:Fn)=>.inr ⟨6,at_,i,d.params,c.ty⟩) (by omega) (fun a x b e=>?_) (by unfold WJ;rw [J9];rfl)
 unfold WJ
 rw [e,JS,JF]
 show cond (x.name==n) _ _=_
 rw [WY]
 by_cases hx:x.name=n
 ·rw [decide_eq_true hx,if_pos hx];rfl
 ·rw [decide_eq_false hx,if_neg hx];rfl
theorem m34_eq (d:Dcl) (n:Bs) (at_:Int) (e:Ent) (h:d.size≤900000000) (he:JN d at_ n=some e):Dm d at_ n=some e:=by
 unfold JN at he
 unfold Dm
 simp only [Yk]
 by_cases hk:d.kind=0∨d.kind=1∨d.kind=2
 ·rw [if_pos hk] at he
  by_cases hn:d.name=n
  ·rw [if_pos hn] at he
   cases he
   rcases hk with hk | hk | hk <;> rw [hk] <;> rfl
  ·rw [if_neg hn] at he;cases he
 ·rw [if_neg hk] at he
  rw [decide_eq_false (show ¬ d.kind=0 from fun x=>hk (.inl x)),decide_eq_false (show ¬ d.kind=1 from fun x=>hk (.inr (.inl x))),decide_eq_false (show ¬ d.kind=2 from fun x=>hk (.inr (.inr x)))]
  simp only [cond_false]
  by_cases h3:d.kind=3
  ·rw [if_pos h3] at he
   rw [decide_eq_true h3,cond_true,WY]
   by_cases hn:d.name=n
   ·rw [if_pos hn] at he
    rw [decide_eq_true hn.symm,cond_true];exact he
   ·rw [if_neg hn] at he
    rw [decide_eq_false (fun x=>hn x.symm),cond_false,m34_l0_eq d n at_ h]
    cases hf:JB (·.name) n d.ctors 0 with
    | none =>
     rw [hf] at he
     simp only at he
     by_cases hr:d.name++WA=n
     ·rw [if_pos hr] at he;exact he
     ·rw [if_neg hr] at he;cases he
    | some p=>rw [hf] at he;exact he
  ·rw [if_neg h3] at he
   rw [decide_eq_false h3,cond_false,m34_l1_eq d n at_ h]
   by_cases h4:d.kind=4
   ·rw [if_pos h4] at he
    cases hf:JB (·.name) n d.funs 0 with
    | none=>rw [hf] at he;cases he
    | some p=>rw [hf] at he;exact he
   ·rw [if_neg h4] at he;cases he
theorem firstN_is {α:Type} (nm:α→Bs) (n:Bs):∀ (l:List α) (k:Nat),(JB nm n l k).isSome=decide (n∈l.map nm)
 | [],k=>rfl
 | x::l,k=>by
  rw [JB]
  by_cases hx:nm x=n
  ·rw [if_pos hx,List.map_cons,decide_eq_true (by rw [hx];exact List.mem_cons_self ..)];rfl
  ·rw [if_neg hx,firstN_is nm n l (k+1),List.map_cons]
   congr 1
   rw [List.mem_cons,eq_iff_iff]
   exact ⟨.inr,fun h=>h.resolve_left fun h=>hx h.symm⟩
theorem GC (d:Dcl) (at_:Int) (n:Bs):(JN d at_ n).isSome=decide (n∈Je d):=by
 unfold JN Je
 by_cases hk:d.kind=0∨d.kind=1∨d.kind=2
 ·rw [if_pos hk,if_pos hk]
  by_cases hn:d.name=n
  ·rw [if_pos hn,decide_eq_true (by rw [hn];exact List.mem_singleton_self _)];rfl
  ·rw [if_neg hn,decide_eq_false (by rw [List.mem_singleton];exact fun h=>hn h.symm)];rfl
 ·rw [if_neg hk,if_neg hk]
  by_cases h3:d.kind=3
  ·rw [if_pos h3,if_pos h3]
   by_cases hn:d.name=n
   ·rw [if_pos hn,decide_eq_true (by rw [hn];simp)];rfl
   ·rw [if_neg hn]
    have h5:=firstN_is (·.name) n d.ctors 0
    cases hf:JB (·.name) n d.ctors 0 with
    | none =>
     rw [hf] at h5
     have h6:n∉d.ctors.map (·.name):=of_decide_eq_false h5.symm
     simp only
     by_cases hr:d.name++WA=n
     ·rw [if_pos hr,decide_eq_true (by rw [← hr];unfold WA;simp)];rfl
     ·rw [if_neg hr,decide_eq_false]
      ·rfl
      ·rw [List.mem_append,List.mem_cons,List.mem_singleton]
       rintro ((h | h) | h)
       ·exact hn h.symm
       ·exact h6 h
       ·exact hr h.symm
    | some p =>
     rw [hf] at h5
     have h6:n∈d.ctors.map (·.name):=of_decide_eq_true h5.symm
     rw [decide_eq_true]
     ·rfl
     ·exact List.mem_append_left _ (List.mem_cons_of_mem _ h6)
  ·rw [if_neg h3,if_neg h3]
   by_cases h4:d.kind=4
   ·rw [if_pos h4,if_pos h4,← firstN_is (·.name) n d.funs 0]
    cases JB (·.name) n d.funs 0 <;> rfl
   ·rw [if_neg h4,if_neg h4];rfl
theorem look_decl {d:Dcl} {at_:Int} {n:Bs} {e:Ent} (h:JN d at_ n=some e):e.decl=at_:=by
 unfold JN at h
 split at h
 ·split at h <;> cases h;rfl
 ·split at h
  ·split at h
   ·cases h;rfl
   ·split at h
    ·cases h;rfl
    ·split at h <;> cases h;rfl
  ·split at h
   ·split at h <;> cases h;rfl
   ·cases h
def U5 {α γ:Type} (f:Nat→α→Option γ):List α→Nat→Option γ
 | [],_=>none
 | x::l,i=>(f i x).elim (U5 f l (i+1)) some
theorem XZ {α γ:Type} (f:Nat→α→Option γ) (b:List α):∀ (a:List α) (k:Nat),U5 f (a++b) k=(U5 f a k).elim (U5 f b (k+a.length)) some
 | [],k=>rfl
 | x::a,k=>by
  rw [List.cons_append,U5,U5]
  cases f k x with
  | some y=>rfl
  | none =>
   show U5 f (a++b) (k+1)=_
   rw [XZ f b a (k+1),List.length_cons,show k+1+a.length=k+(a.length+1) from by omega];rfl
theorem fsI_some {α γ:Type} (f:Nat→α→Option γ) {y:γ}:∀ (l:List α) (k:Nat),U5 f l k=some y→∃ i x,l[i]?=some x∧f (k+i) x=some y
 | [],k,h=>by cases h
 | x::l,k,h=>by
  rw [U5] at h
  cases hf:f k x with
  | some z=>rw [hf] at h;cases h;exact ⟨0,x,rfl,hf⟩
  | none =>
   rw [hf] at h
   obtain ⟨i,z,h1,h2⟩:=fsI_some f l (k+1) h
   exact ⟨i+1,z,h1,by rw [← h2];congr 1;omega⟩
theorem loop_fs {α β γ:Type} {step:Int→Option (LO Int β)} (l:List α) (f:Nat→α→Option γ) (e0:β) (g:γ→β) (hlen:l.length≤900000000)
  (hin:∀ (a:List α) (x:α) (b:List α),l=a++x::b→step (a.length:Int)=some ((f a.length x).elim (.next (Ja ((a.length:Int)+1))) fun y=>.done (g y)))
  (hout:step (l.length:Int)=some (.done e0)):Qq step QI 0=some ((U5 f l 0).elim e0 g):=by
 obtain ⟨r,h1,h2⟩:=Y3 (step:=step) l (fun i (_:Unit)=>i) (fun a _=>U5 f a 0=none) (fun r=>r=((U5 f l 0).elim e0 g)) hlen
  (fun a x b s hl hI=>by
   have h3:=hin a x b hl
   have h4:U5 f l 0=(f a.length x).elim (U5 f b (a.length+1)) some:=by rw [hl,XZ,hI,Nat.zero_add];rfl
   cases hf:f a.length x with
   | some y=>refine .inl ⟨g y,by rw [h3,hf];rfl,?_⟩;rw [h4,hf];rfl
   | none =>
    refine .inr ⟨(),by rw [h3,hf];rfl,?_⟩
    rw [XZ,hI,Nat.zero_add]
    show U5 f [x] a.length=none
    rw [U5,hf];rfl)
  (fun s hI=>⟨e0,hout,by rw [hI];rfl⟩) () rfl
 rw [h1,h2]
def Yu (env:List Dcl) (n:Bs):Option Ent:=U5 (fun k d=>JN d (k:Int) n) env 0
def ZD (env:List Dcl) (n:Bs):Ent×Int:=(Yu env n).elim (ent0,9) fun e=>(e,0)
theorem m14_eq (env:List Dcl) (n:Bs) (h:Yc env≤900000000):Un env n=some (ZD env n):=by
 have hl:=W0 env
 unfold Un
 rw [loop_fs (β:=Unit⊕(Ent×Int)) env (fun k d=>JN d (k:Int) n) (.inl ()) (fun e=>.inr (e,0)) (by omega) (fun a x b e=>?_) (by unfold WM;rw [J9];rfl)]
 ·unfold ZD Yu
  cases U5 (fun k d=>JN d (k:Int) n) env 0 <;> rfl
 ·have hx:x.size≤900000000:=Nat.le_trans (Xe (env:=env) (d:=x) (by rw [e];simp)) h
  unfold WM
  rw [e,JS,JF]
  show Option.bind (Option.bind (cond (x.kind==0) (some (x.kind==0)) (cond (x.kind==1) (some (x.kind==1)) (some (x.kind==2)))) (fun v10=>XH v10 x n)) _=_
  rw [m14_decl x n (a.length:Int) hx]
  cases hf:JN x (a.length:Int) n with
  | none=>rfl
  | some e =>
   have hd:=look_decl hf
   cases e with
   | mk k dd it ps ty =>
    cases hd
    cases ty
    rfl
theorem WL (env:List Dcl) (n:Bs) (h:Yc env≤800000000):UX env n=some (ZD env n):=by
 have hl:=W0 env
 unfold UX
 rw [loop_fs (β:=Unit⊕(Ent×Int)) env (fun k d=>JN d (k:Int) n) (.inl ()) (fun e=>.inr (e,0)) (by omega) (fun a x b e=>?_) (by unfold m15_l0;rw [J9];rfl)]
 ·unfold ZD Yu
  cases U5 (fun k d=>JN d (k:Int) n) env 0 <;> rfl
 ·have hx:x.size≤800000000:=Nat.le_trans (Xe (env:=env) (d:=x) (by rw [e];simp)) h
  have hn:=G8 x
  unfold m15_l0
  rw [e,JS,JF]
  show Option.bind (Dd x) _=_
  rw [Wj x (by omega)]
  show Option.bind (UB (Je x) n) _=_
  rw [m33_eq (Je x) n (by omega)]
  show cond (decide (n∈Je x)) _ _=_
  rw [← GC x (a.length:Int) n]
  cases hf:JN x (a.length:Int) n with
  | none=>rfl
  | some e =>
   show Option.bind (Dm x (a.length:Int) n) _=_
   rw [m34_eq x n _ e (by omega) hf];rfl
end Go.Proofs.Ytafddfoefeploaa
namespace Go.Proofs.Ytafddfoefeploaa
open Go.RowKit Go.Shelf
theorem KC:QU Try.prog 124 0=some 0:=by kernel_rfl
theorem fo_124_1:QU Try.prog 124 1=some 1:=by kernel_rfl
theorem z_124:Jy Try.prog 124=some [.int .i64 0,.int .i64 0]:=by kernel_rfl
theorem en_103:J4 Try.prog 103:=enters_of Try.func103 (by kernel_rfl) rfl
theorem en_108:J4 Try.prog 108:=enters_of Try.func108 (by kernel_rfl) rfl
theorem en_111:J4 Try.prog 111:=enters_of Try.func111 (by kernel_rfl) rfl
theorem en_112:J4 Try.prog 112:=enters_of Try.func112 (by kernel_rfl) rfl
theorem en_113:J4 Try.prog 113:=enters_of Try.func113 (by kernel_rfl) rfl
def m112f2 (a0:LV) (a1:Lvl):Option Unit :=
 some ()
theorem m112f2_ok (a0:LV) (a1:Lvl) (r:Unit) (h0:m112f2 a0 a1=some r):CallM Try.prog 112 [.agg (DZ a0),.one (.ptr 0 0)] ⟨[(0,.cells 87 (DZ a1))],[],1⟩ (QP [.one (DX (decide (a1.c≤a0.2)))]) ⟨[(0,.cells 87 (DZ a1))],[],2⟩:=by
 unfold m112f2 at h0
 refine Jc ⟨[(3,.v (.one (DX (decide (a1.c≤a0.2)))))],[(0,.cells 87 (DZ a1))],[],2,9,[]⟩ Z Z en_112 (DM Z) Z (QB Z .nil) (fun w0 M V0 Q hv0 hQ0=>?_)
 simp only [Jb]
 refine Q6<|Q0<|Q9 Z Z (DM Z) (QV Z)<|DF Z Z Z<|Q3<|Q4<|Q6<|Q0<|DD Z Z Z (Q2 fo_124_1 Z)<|DD Z Z Z (Q5 QN Z Z Z)<|DD Z Z Z (Q2 KQ Z)<|DD Z Z Z (Q5 QN Z Z Z)<|DD Z Z Z (Q8 Z Z Z)<|DF Z Z Z ?_
 refine Q3<|Q4<|QE ?_
 have e:=DB h0;subst e
 exact hQ0 _ _ _ (.inr Z) Z (DA (Nat.le_trans hv0 (DM Z)) Z Z Z Z Z)
def Zk (a0:List LV) (a1:Lvl) (s1:Int):Option (LO Int (Unit⊕Int)) :=
 cond (decide (s1 < (a0.length:Int)))
   (Option.bind (Jx a0 s1) fun (x3:LV) =>
 Option.bind (m112f2 x3 a1) fun (x4:Unit) =>
 cond (decide (a1.c≤x3.2))
   (some (.done (.inr s1)))
   (some (.next (Ja (s1+1)))))
   (some (.done (.inl ())))
def m113f1 (a0:List LV) (a1:Lvl):Option Int :=
 Option.bind (Qq (Zk a0 a1) QI 0) (Sum.elim (fun (o1:Unit)=>some (-1)) (fun o=>some o))
theorem m113f1_ok (a0:List LV) (a1:Lvl) (r:Int) (h0:m113f1 a0 a1=some r):CallM Try.prog 113 [.one (DU a0),.one (.fn 112 [(0,0)])] ⟨[(0,.cells 87 (DZ a1))],[],1⟩ (QP [.one (DW r)]) ⟨[(0,.cells 87 (DZ a1))],[],1⟩:=by
 unfold m113f1 at h0
 refine Jc ⟨[(4,.v (.one (DW r)))],[(0,.cells 87 (DZ a1))],[],1,19,[]⟩ Z Z en_113 (DM Z) Z (QB Z .nil) (fun w0 M V0 Q hv0 hQ0=>?_)
 simp only [Jb]
 refine Q6<|Q0<|DF Z Z Z<|Q3<|Q4<|Q6<|Q6<|Q0<|DE Z Z Z<|DD Z Z Z (QD (α:=LV) Zo Z (.d _))<|DE Z Z Z<|Q3<|Q4<|Qh ?_
 refine J2 0 (fun (o1:Unit)=>⟨[],[(0,.cells 87 (DZ a1))],[],1,19,[]⟩) (fun (o1:Unit)=>(some (-1))=some r) ?_ ?_
 refine Qd h0 (fun o2 hl1 h0=>?_)
 refine J1 (Zk a0 a1) (fun s1=>⟨[(0,.v (.one (DU a0))),(1,.v (.one (.fn 112 [(0,0)]))),(7,.v (.one (DW (a0.length:Int)))),(8,.v (.one (DW s1)))],[(0,.cells 87 (DZ a1))],[],1,19,[]⟩) 0 o2 (DA (Nat.le_trans hv0 (DM Z)) Z Z Z Z Z) hl1 (fun s1 n1 oo1 h1 ho1=>?_)
 unfold Zk at h1
 refine Q6<|Q0<|DD Z Z Z (Q8 Z Z Z)<|Q3<|Q4<|Q6 ?_
 refine Qg (b:=(decide (s1 < (a0.length:Int)))) Z (fun c3=>?_) (fun c3=>?_)
 replace h1:=Qi c3 h1
 refine Qn<|Q4<|Q6<|Qh<|Q6<|Q0<|DE Z Z Z<|DF Z Z Z<|Q3<|Q4<|Q6<|Q0<|DE Z Z Z<|DE Z Z Z ?_
 refine DE Z Z Z ?_
 refine Qd h1 (fun x4 hx4 h1=>?_)
 refine DD Z Z Z (Qy (α:=LV) Zo Z (.d _) Z hx4)<|DD Z Z Z (Qt (x4:LV) KF Z) ?_
 refine Qd h1 (fun x5 hx5 h1=>?_)
 refine Q9 Z Z (DM Z) (Jp (hp1':=[(0,.cells 87 (DZ a1))]) (tk1':=[]) (hpF:=[]) (tkF:=[]) (res2:=QP [.one (DX (decide (a1.c≤x4.2)))]) (nx2:=2) [0] Z Z (m112f2_ok x4 a1 x5 hx5) Z Z (DI Z Z DG) Z Z (DS Z DR) DP hZ DN Z Z Z Z Z (bA Z) Z Z Z Z)<|Q3<|Q4 ?_
 refine Qg (b:=(decide (a1.c≤x4.2))) Z (fun c6=>?_) (fun c6=>?_)
 replace h1:=Qi c6 h1
 refine Q6<|Q0<|DE Z Z Z<|DF Z Z Z<|Q3<|Q4<|QE ?_
 have e:=DB h1;subst e
 have e_:_=_:=ho1
 subst e_
 try dsimp only [Sum.elim_inl,Sum.elim_inr] at h0
 have e:=DB h0;subst e
 exact hQ0 _ _ _ (.inr Z) Z (DA (Nat.le_trans hv0 (DM Z)) Z Z Z Z Z)
 replace h1:=Qj c6 h1
 refine Qn<|Qf<|Q4<|Q0<|DD Z Z Z (Q8 Z Z Z)<|DE Z Z Z<|Q3 ?_
 have e:=DB h1;subst e
 refine QW (Ja (s1+1)) (DA (Nat.le_trans hv0 (DM Z)) Z Z Z Z Z) ho1
 replace h1:=Qj c3 h1
 refine J8<|Qr<|Qr ?_
 have e:=DB h1;subst e
 have e_:_=_:=ho1
 subst e_
 exact J0 () (DA (Nat.le_trans hv0 (DM Z)) Z Z Z Z Z) h0
 intro o1 h0
 refine QQ<|Q4<|Q6<|Q0<|DF Z Z Z<|Q3<|Q4<|QE ?_
 have e:=DB h0;subst e
 exact hQ0 _ _ _ (.inr Z) Z (DA (Nat.le_trans hv0 (DM Z)) Z Z Z Z Z)
def WR (a0:List LV) (a1:Lvl):Option Bool :=
 Option.bind (m113f1 a0 a1) fun (x1:Int) =>
 some (decide (0≤x1))
theorem m111f0_ok (a0:List LV) (a1:Lvl) (r:Bool) (h0:WR a0 a1=some r):CallM Try.prog 111 [.one (DU a0),.one (.fn 112 [(0,0)])] ⟨[(0,.cells 87 (DZ a1))],[],1⟩ (QP [.one (DX r)]) ⟨[(0,.cells 87 (DZ a1))],[],1⟩:=by
 unfold WR at h0
 refine Jc ⟨[(4,.v (.one (DX r)))],[(0,.cells 87 (DZ a1))],[],1,9,[]⟩ Z Z en_111 (DM Z) Z (QB Z .nil) (fun w0 M V0 Q hv0 hQ0=>?_)
 simp only [Jb]
 refine Q6<|Q0<|DF Z Z Z<|Q3<|Q4<|Q6<|Q0<|DE Z Z Z<|DE Z Z Z ?_
 refine Qd h0 (fun x1 hx1 h0=>?_)
 refine Q9 Z Z (DM Z) (Jp (hp1':=[(0,.cells 87 (DZ a1))]) (tk1':=[]) (hpF:=[]) (tkF:=[]) (res2:=QP [.one (DW x1)]) (nx2:=1) [0] Z Z (m113f1_ok a0 a1 x1 hx1) Z Z (DI Z Z DG) Z Z (DS Z DR) DP hZ DN Z Z Z Z Z (bA Z) Z Z Z Z)<|DD Z Z Z (Q8 Z Z Z)<|DF Z Z Z<|Q3<|Q4<|QE ?_
 have e:=DB h0;subst e
 exact hQ0 _ _ _ (.inr Z) Z (DA (Nat.le_trans hv0 (DM Z)) Z Z Z Z Z)
def KN (a0:Lvl) (s1:Int):Option (LO Int (Unit⊕Bool)) :=
 cond (decide (s1 < (a0.vs.length:Int)))
   (Option.bind (Jx a0.vs s1) fun (x5:LV) =>
 Option.bind (cond (decide (x5.1 < (-65536)))
   (some true)
   (cond (decide (7 < x5.1))
   (some true)
   (cond (decide (x5.2 < 0))
   (some true)
   (cond (decide (100 < x5.2))
   (some true)
   (cond (decide (0 < s1))
   (Option.bind (Jx a0.vs (Ja (s1 - 1))) fun (x12:LV) =>
 some (decide (x5.1≤x12.1)))
   (some false)))))) (fun (v6:Bool)=>cond v6
   (some (.done (.inr false)))
   (some (.next (Ja (s1+1))))))
   (some (.done (.inl ())))
def Uz (a0:Lvl):Option Bool :=
 Option.bind (cond (decide (a0.c < 0))
   (some true)
   (cond (decide (100 < a0.c))
   (some true)
   (cond (decide (0 < a0.c))
   (Option.bind (Option.bind (WR a0.vs a0) fun (x7:Bool) =>
 some x7) (fun (y5:Bool)=>some y5))
   (some false)))) (fun (v1:Bool)=>cond v1
   (some false)
   (Option.bind (Qq (KN a0) QI 0) (Sum.elim (fun (o3:Unit)=>some true) (fun o=>some o))))
theorem m103_ok (a0:Lvl) (r:Bool) (h0:Uz a0=some r):Fun Try.prog 103 [.agg (DZ a0)] (QP [.one (DX r)]):=by
 unfold Uz at h0
 refine QS 9 65 Try.func103 Z en_103 Z (DM Z) (fun S w=>?_)
 simp only [Jb]
 refine Q6<|Q0<|Q9 Z Z (DM Z) (QV Z)<|DF Z Z Z<|Q3<|Q4<|Q6<|Q6 ?_
 refine QO (fun (v1:Bool)=>⟨[(1,.v (.one (.ptr 0 0))),(21,.v (.one (DX v1)))],[(0,.cells 87 (DZ a0))],[],1,65,[]⟩) (fun (v1:Bool)=>(cond v1
     (some false)
     (Option.bind (Qq (KN a0) QI 0) (Sum.elim (fun (o3:Unit)=>some true) (fun o=>some o))))=some r) ?_ ?_
 refine Qd h0 (fun w1_ h1 h0=>?_)
 refine Q0<|DD Z Z Z (Q2 KQ Z)<|DD Z Z Z (Q5 QN Z Z Z)<|DD Z Z Z (Q8 Z Z Z)<|DE Z Z Z ?_
 refine QA (d:=8) (c:=(decide (a0.c < 0))) Z (fun c2=>?_) (fun c2=>?_)
 replace h1:=Qi c2 h1
 refine Q7 Z Z<|Q7 Z Z<|Q7 Z Z<|DD Z Z Z (Qe Z Z)<|DE Z Z Z<|Q7 Z Z<|Q7 Z Z<|Q7 Z Z<|Q7 Z Z<|Q7 Z Z<|Q7 Z Z<|Q7 Z Z<|DD Z Z Z (Qe Z Z)<|Q3 ?_
 have e:=DB h1;subst e
 exact Qb true (DA (Nat.zero_le _) Z Z Z Z Z) h0
 replace h1:=Qj c2 h1
 refine DD Z Z Z (Q2 KQ Z)<|DD Z Z Z (Q5 QN Z Z Z)<|DD Z Z Z (Q8 Z Z Z)<|DD Z Z Z (Qa Z Z)<|DE Z Z Z ?_
 refine QA (d:=13) (c:=(decide (100 < a0.c))) Z (fun c3=>?_) (fun c3=>?_)
 replace h1:=Qi c3 h1
 refine Q7 Z Z<|Q7 Z Z<|Q7 Z Z<|Q7 Z Z<|Q7 Z Z<|Q7 Z Z<|Q7 Z Z<|DD Z Z Z (Qe Z Z)<|Q3 ?_
 have e:=DB h1;subst e
 exact Qb true (DA (Nat.zero_le _) Z Z Z Z Z) h0
 replace h1:=Qj c3 h1
 refine DD Z Z Z (Q2 KQ Z)<|DD Z Z Z (Q5 QN Z Z Z)<|DD Z Z Z (Q8 Z Z Z)<|DE Z Z Z ?_
 refine QA (d:=17) (c:=(decide (0 < a0.c))) Z (fun c4=>?_) (fun c4=>?_)
 replace h1:=Qi c4 h1
 refine DD Z Z Z (QM (a0:Lvl) K3 Z Z) ?_
 refine Qd h1 (fun y5 h2 h1=>?_)
 have hc6:CallM Try.prog 108 [.agg (DZ a0)] ⟨[(0,.cells 87 (DZ a0))],[],1⟩ (QP [.one (DX y5)]) ⟨[(0,.cells 87 (DZ a0))],[],2⟩:=by
  refine Jc ⟨[(2,.v (.one (DX y5)))],[(0,.cells 87 (DZ a0))],[],2,7,[]⟩ Z Z en_108 (DM Z) Z (QB Z .nil) (fun w0 M V0 Q hv2 hQ2=>?_)
  simp only [Jb]
  refine Q6<|Q0<|Q9 Z Z (DM Z) (QV Z)<|DF Z Z Z<|Q3<|Q4<|Q6<|Q0<|DD Z Z Z (Q2 Zd Z)<|DD Z Z Z (Q5 GM Z Z Z)<|DD Z Z Z (ZA Z) ?_
  refine Qd h2 (fun x7 hx7 h2=>?_)
  refine Q9 Z Z (DM Z) (Jp (hp1':=[(1,.cells 87 (DZ a0))]) (tk1':=[]) (hpF:=[(0,.cells 87 (DZ a0))]) (tkF:=[]) (res2:=QP [.one (DX x7)]) (nx2:=2) [1] Z Z (m111f0_ok a0.vs a0 x7 hx7) Z Z (DI Z Z DG) Z Z (DS Z DR) DP (hA Z) DN Z Z Z Z Z (bA Z) Z Z Z Z)<|DF Z Z Z<|Q3<|Q4<|QE ?_
  have e:=DB h2;subst e
  exact hQ2 _ _ _ (.inr Z) Z (DA (Nat.le_trans hv2 (DM Z)) Z Z Z Z Z)
 refine Q9 Z Z (DM Z) (JO Z Z Z hc6 Z (hA Z) DN)<|DD Z Z Z (Qe Z Z)<|DD Z Z Z (Qa Z Z)<|Q3 ?_
 have e:=DB h1;subst e
 exact Qb y5 (DA (Nat.zero_le _) Z Z Z Z Z) h0
 replace h1:=Qj c4 h1
 refine Q7 Z Z<|Q7 Z Z<|DD Z Z Z (Qa Z Z)<|DD Z Z Z (Qa Z Z)<|Q3 ?_
 have e:=DB h1;subst e
 exact Qb false (DA (Nat.zero_le _) Z Z Z Z Z) h0
 intro v1 h0
 refine Q4 ?_
 refine Qg (b:=v1) Z (fun c8=>?_) (fun c8=>?_)
 replace h0:=Qi c8 h0
 refine Q6<|Q0<|DF Z Z Z<|Q3<|Q4<|QE ?_
 have e:=DB h0;subst e
 exact QJ (fun _ _ h=>h) Z (QB Z .nil) (.cons (.one (.d _)) .nil)
 replace h0:=Qj c8 h0
 refine Qn<|Q4<|Q6<|Q6<|Q0<|DD Z Z Z (Q2 Zd Z)<|DD Z Z Z (Q5 GM Z Z Z)<|DD Z Z Z (QD (α:=LV) Zo Z (.d _))<|DE Z Z Z<|Q3<|Q4<|Qh ?_
 refine J2 0 (fun (o9:Unit)=>⟨[],[(0,.cells 87 (DZ a0))],[],1,65,[]⟩) (fun (o9:Unit)=>(some true)=some r) ?_ ?_
 refine Qd h0 (fun o10 hl1 h0=>?_)
 refine J1 (KN a0) (fun s1=>⟨[(1,.v (.one (.ptr 0 0))),(23,.v (.one (DU a0.vs))),(24,.v (.one (DW (a0.vs.length:Int)))),(25,.v (.one (DW s1)))],[(0,.cells 87 (DZ a0))],[],1,65,[]⟩) 0 o10 (DA (Nat.zero_le _) Z Z Z Z Z) hl1 (fun s1 n1 oo1 h1 ho1=>?_)
 unfold KN at h1
 refine Q6<|Q0<|DD Z Z Z (Q8 Z Z Z)<|Q3<|Q4<|Q6 ?_
 refine Qg (b:=(decide (s1 < (a0.vs.length:Int)))) Z (fun c11=>?_) (fun c11=>?_)
 replace h1:=Qi c11 h1
 refine Qn<|Q4<|Q6<|Qh<|Q6<|Q0<|DE Z Z Z ?_
 refine Qd h1 (fun x12 hx12 h1=>?_)
 refine DD Z Z Z (Qy (α:=LV) Zo Z (.d _) Z hx12)<|DD Z Z Z (Qt (x12:LV) KF Z)<|Q9 Z Z (DM Z) (Ql z_124 Z)<|DF Z Z Z<|Qz Z Z (QC (x12:LV) KF Z Z Z Z Z)<|Q3<|Q4<|Q6 ?_
 refine QO (fun (v13:Bool)=>⟨[(1,.v (.one (.ptr 0 0))),(23,.v (.one (DU a0.vs))),(24,.v (.one (DW (a0.vs.length:Int)))),(25,.v (.one (DW s1))),(63,.v (.one (DX v13)))],[(0,.cells 87 (DZ a0)),(1,.cells 124 (DZ x12))],[],2,65,[]⟩) (fun (v13:Bool)=>(cond v13
     (some (.done (.inr false)))
     (some (.next (Ja (s1+1)))))=some oo1) ?_ ?_
 refine Qd h1 (fun w2_ h2 h1=>?_)
 refine Js [] [] YU (by kernel_rfl) (by kernel_rfl) (by kernel_rfl) ?_
 refine RunA.rd Z Z Z (Q1 (Q2 KC Z)) Z<|RunA.rd Z Z Z (Q1 (Q5 QN Z Z Z)) Z<|RunA.rd Z Z Z (Q1 (Q8 Z Z Z)) Z ?_
 refine JQ (c:=(decide (x12.1 < (-65536)))) Z Z Z (Q1 (Qp Z)) Z (fun c14=>?_) (fun c14=>?_)
 replace h2:=Qi c14 h2
 refine RunA.no Z Z Z Z<|RunA.no Z Z Z Z<|RunA.no Z Z Z Z<|RunA.rd Z Z Z (Q1 (Qe Z Z)) Z<|RunA.rd Z Z Z (Q1 (Qp Z)) Z<|RunA.no Z Z Z Z<|RunA.no Z Z Z Z<|RunA.no Z Z Z Z<|RunA.rd Z Z Z (Q1 (Qe Z Z)) Z<|RunA.rd Z Z Z (Q1 (Qp Z)) Z<|RunA.no Z Z Z Z<|RunA.no Z Z Z Z<|RunA.no Z Z Z Z<|RunA.rd Z Z Z (Q1 (Qe Z Z)) Z ?_
 refine RunA.rd Z Z Z (Q1 (Qp Z)) Z<|RunA.no Z Z Z Z<|RunA.no Z Z Z Z<|RunA.no Z Z Z Z<|RunA.no Z Z Z Z<|RunA.no Z Z Z Z<|RunA.no Z Z Z Z<|RunA.no Z Z Z Z<|RunA.no Z Z Z Z<|RunA.no Z Z Z Z<|RunA.no Z Z Z Z<|RunA.no Z Z Z Z<|RunA.no Z Z Z Z<|RunA.no Z Z Z Z ?_
 refine RunA.no Z Z Z Z<|RunA.rd Z Z Z (Q1 (Qe Z Z)) Z ?_
 refine RunA.nil ⟨?ex,_,_,Z,?_⟩
 case ex=>exact trivial
 have e:=DB h2;subst e
 exact Qb true (DA (Nat.zero_le _) Z Z Z Z Z) h1
 replace h2:=Qj c14 h2
 refine RunA.rd Z Z Z (Q1 (Q2 KC Z)) Z<|RunA.rd Z Z Z (Q1 (Q5 QN Z Z Z)) Z<|RunA.rd Z Z Z (Q1 (Q8 Z Z Z)) Z<|RunA.rd Z Z Z (Q1 (Qa Z Z)) Z ?_
 refine JQ (c:=(decide (7 < x12.1))) Z Z Z (Q1 (Qp Z)) Z (fun c15=>?_) (fun c15=>?_)
 replace h2:=Qi c15 h2
 refine RunA.no Z Z Z Z<|RunA.no Z Z Z Z<|RunA.no Z Z Z Z<|RunA.rd Z Z Z (Q1 (Qe Z Z)) Z<|RunA.rd Z Z Z (Q1 (Qp Z)) Z<|RunA.no Z Z Z Z<|RunA.no Z Z Z Z<|RunA.no Z Z Z Z<|RunA.rd Z Z Z (Q1 (Qe Z Z)) Z<|RunA.rd Z Z Z (Q1 (Qp Z)) Z<|RunA.no Z Z Z Z<|RunA.no Z Z Z Z<|RunA.no Z Z Z Z<|RunA.no Z Z Z Z ?_
 refine RunA.no Z Z Z Z<|RunA.no Z Z Z Z<|RunA.no Z Z Z Z<|RunA.no Z Z Z Z<|RunA.no Z Z Z Z<|RunA.no Z Z Z Z<|RunA.no Z Z Z Z<|RunA.no Z Z Z Z<|RunA.no Z Z Z Z<|RunA.no Z Z Z Z<|RunA.rd Z Z Z (Q1 (Qe Z Z)) Z ?_
 refine RunA.nil ⟨?ex,_,_,Z,?_⟩
 case ex=>exact trivial
 have e:=DB h2;subst e
 exact Qb true (DA (Nat.zero_le _) Z Z Z Z Z) h1
 replace h2:=Qj c15 h2
 refine RunA.rd Z Z Z (Q1 (Q2 fo_124_1 Z)) Z<|RunA.rd Z Z Z (Q1 (Q5 QN Z Z Z)) Z<|RunA.rd Z Z Z (Q1 (Q8 Z Z Z)) Z<|RunA.rd Z Z Z (Q1 (Qa Z Z)) Z ?_
 refine JQ (c:=(decide (x12.2 < 0))) Z Z Z (Q1 (Qp Z)) Z (fun c16=>?_) (fun c16=>?_)
 replace h2:=Qi c16 h2
 refine RunA.no Z Z Z Z<|RunA.no Z Z Z Z<|RunA.no Z Z Z Z<|RunA.rd Z Z Z (Q1 (Qe Z Z)) Z<|RunA.rd Z Z Z (Q1 (Qp Z)) Z<|RunA.no Z Z Z Z<|RunA.no Z Z Z Z<|RunA.no Z Z Z Z<|RunA.no Z Z Z Z<|RunA.no Z Z Z Z<|RunA.no Z Z Z Z<|RunA.no Z Z Z Z<|RunA.no Z Z Z Z<|RunA.no Z Z Z Z ?_
 refine RunA.no Z Z Z Z<|RunA.no Z Z Z Z<|RunA.no Z Z Z Z<|RunA.no Z Z Z Z<|RunA.no Z Z Z Z<|RunA.rd Z Z Z (Q1 (Qe Z Z)) Z ?_
 refine RunA.nil ⟨?ex,_,_,Z,?_⟩
 case ex=>exact trivial
 have e:=DB h2;subst e
 exact Qb true (DA (Nat.zero_le _) Z Z Z Z Z) h1
 replace h2:=Qj c16 h2
 refine RunA.rd Z Z Z (Q1 (Q2 fo_124_1 Z)) Z<|RunA.rd Z Z Z (Q1 (Q5 QN Z Z Z)) Z<|RunA.rd Z Z Z (Q1 (Q8 Z Z Z)) Z<|RunA.rd Z Z Z (Q1 (Qa Z Z)) Z ?_
 refine JQ (c:=(decide (100 < x12.2))) Z Z Z (Q1 (Qp Z)) Z (fun c17=>?_) (fun c17=>?_)
 replace h2:=Qi c17 h2
 refine RunA.no Z Z Z Z<|RunA.no Z Z Z Z<|RunA.no Z Z Z Z<|RunA.no Z Z Z Z<|RunA.no Z Z Z Z<|RunA.no Z Z Z Z<|RunA.no Z Z Z Z<|RunA.no Z Z Z Z<|RunA.no Z Z Z Z<|RunA.no Z Z Z Z<|RunA.no Z Z Z Z<|RunA.no Z Z Z Z<|RunA.no Z Z Z Z<|RunA.no Z Z Z Z ?_
 refine RunA.rd Z Z Z (Q1 (Qe Z Z)) Z ?_
 refine RunA.nil ⟨?ex,_,_,Z,?_⟩
 case ex=>exact trivial
 have e:=DB h2;subst e
 exact Qb true (DA (Nat.zero_le _) Z Z Z Z Z) h1
 replace h2:=Qj c17 h2
 refine RunA.rd Z Z Z (Q1 (Qp Z)) Z<|RunA.rd Z Z Z (Q1 (Q8 Z Z Z)) Z ?_
 refine JQ (c:=(decide (0 < s1))) Z Z Z (Q1 (Qp Z)) Z (fun c18=>?_) (fun c18=>?_)
 replace h2:=Qi c18 h2
 refine RunA.rd Z Z Z (Q1 (Q2 Zd Z)) Z<|RunA.rd Z Z Z (Q1 (Q5 GM Z Z Z)) Z<|RunA.rd Z Z Z (Q1 (Qp Z)) Z<|RunA.rd Z Z Z (Q1 (Q8 Z Z Z)) Z ?_
 refine Qd h2 (fun x19 hx19 h2=>?_)
 refine RunA.rd Z Z Z (Q1 (Qy (α:=LV) Zo Z (.d _) Z hx19)) Z<|RunA.rd Z Z Z (Q1 (YB KC Z)) Z<|RunA.rd Z Z Z (Q1 (Y1 QN Z Z)) Z<|RunA.rd Z Z Z (Q1 (Q2 KC Z)) Z<|RunA.rd Z Z Z (Q1 (Q5 QN Z Z Z)) Z<|RunA.rd Z Z Z (Q1 (Q8 Z Z Z)) Z<|RunA.rd Z Z Z (Q1 (Qe Z Z)) Z<|RunA.rd Z Z Z (Q1 (Qa Z Z)) Z ?_
 refine RunA.nil ⟨?ex,_,_,Z,?_⟩
 case ex=>exact trivial
 have e:=DB h2;subst e
 exact Qb (decide (x12.1≤x19.1)) (DA (Nat.zero_le _) Z Z Z Z Z) h1
 replace h2:=Qj c18 h2
 refine RunA.no Z Z Z Z<|RunA.no Z Z Z Z<|RunA.no Z Z Z Z<|RunA.no Z Z Z Z<|RunA.no Z Z Z Z<|RunA.no Z Z Z Z<|RunA.no Z Z Z Z<|RunA.no Z Z Z Z<|RunA.no Z Z Z Z<|RunA.no Z Z Z Z<|RunA.rd Z Z Z (Q1 (Qa Z Z)) Z<|RunA.rd Z Z Z (Q1 (Qa Z Z)) Z ?_
 refine RunA.nil ⟨?ex,_,_,Z,?_⟩
 case ex=>exact trivial
 have e:=DB h2;subst e
 exact Qb false (DA (Nat.zero_le _) Z Z Z Z Z) h1
 intro v13 h1
 refine Q4 ?_
 refine Qg (b:=v13) Z (fun c20=>?_) (fun c20=>?_)
 replace h1:=Qi c20 h1
 refine Q6<|Q0<|DF Z Z Z<|Q3<|Q4<|QE ?_
 have e:=DB h1;subst e
 have e_:_=_:=ho1
 subst e_
 try dsimp only [Sum.elim_inl,Sum.elim_inr] at h0
 have e:=DB h0;subst e
 exact QJ (fun _ _ h=>h) Z (QB Z .nil) (.cons (.one (.d _)) .nil)
 replace h1:=Qj c20 h1
 refine Qn<|Qf<|Q4<|Q0<|DD Z Z Z (Q8 Z Z Z)<|DE Z Z Z<|Q3 ?_
 have e:=DB h1;subst e
 refine QW (Ja (s1+1)) (DA (Nat.zero_le _) Z Z Z Z Z) ho1
 replace h1:=Qj c11 h1
 refine J8<|Qr<|Qr ?_
 have e:=DB h1;subst e
 have e_:_=_:=ho1
 subst e_
 exact J0 () (DA (Nat.zero_le _) Z Z Z Z Z) h0
 intro o9 h0
 refine QQ<|Q4<|Q6<|Q0<|DF Z Z Z<|Q3<|Q4<|QE ?_
 have e:=DB h0;subst e
 exact QJ (fun _ _ h=>h) Z (QB Z .nil) (.cons (.one (.d _)) .nil)
end Go.Proofs.Ytafddfoefeploaa
namespace Go.Proofs.Ytafddfoefeploaa
open Go.RowKit Go.Shelf
theorem en_65:J4 Try.prog 65:=enters_of Try.func65 (by kernel_rfl) rfl
theorem en_79:J4 Try.prog 79:=enters_of Try.func79 (by kernel_rfl) rfl
theorem en_81:J4 Try.prog 81:=enters_of Try.func81 (by kernel_rfl) rfl
def Dq (a0:Byt):Option Bool :=
 Option.bind (cond (decide (97≤a0.n))
   (cond (decide (a0.n≤122))
   (some true)
   (cond (decide (65≤a0.n))
   (cond (decide (a0.n≤90))
   (some true)
   (some (a0.n==95)))
   (some (a0.n==95))))
   (cond (decide (65≤a0.n))
   (cond (decide (a0.n≤90))
   (some true)
   (some (a0.n==95)))
   (some (a0.n==95)))) (fun (v1:Bool)=>some v1)
theorem m79_ok (a0:Byt) (r:Bool) (h0:Dq a0=some r):Fun Try.prog 79 [.one (.d (.v (.int .u8 a0.n)))] (QP [.one (DX r)]):=by
 unfold Dq at h0
 refine QS 9 21 Try.func79 Z en_79 Z (DM Z) (fun S w=>?_)
 simp only [Jb]
 refine Q6<|Q0<|DF Z Z Z<|Q3<|Q4<|Q6 ?_
 refine QO (fun (v1:Bool)=>⟨[(2,.v (.one (DX v1)))],[],[],0,21,[]⟩) (fun (v1:Bool)=>(some v1)=some r) ?_ ?_
 refine Qd h0 (fun w1_ h1 h0=>?_)
 refine Q0<|DE Z Z Z<|DD Z Z Z (Q8 Z Z Z)<|DE Z Z Z ?_
 refine QA (d:=5) (c:=(decide (97≤a0.n))) Z (fun c2=>?_) (fun c2=>?_)
 replace h1:=Qi c2 h1
 refine DE Z Z Z<|DD Z Z Z (Q8 Z Z Z)<|DD Z Z Z (Qe Z Z)<|DE Z Z Z ?_
 refine QA (d:=9) (c:=(decide (a0.n≤122))) Z (fun c3=>?_) (fun c3=>?_)
 replace h1:=Qi c3 h1
 refine Q7 Z Z<|Q7 Z Z<|Q7 Z Z<|Q7 Z Z<|Q7 Z Z<|Q7 Z Z<|DD Z Z Z (Qe Z Z)<|DE Z Z Z<|Q7 Z Z<|Q7 Z Z<|DD Z Z Z (Qe Z Z)<|DF Z Z Z<|Q3 ?_
 have e:=DB h1;subst e
 exact Qb true (DA (Nat.zero_le _) Z Z Z Z Z) h0
 replace h1:=Qj c3 h1
 refine DE Z Z Z<|DD Z Z Z (Q8 Z Z Z)<|DE Z Z Z ?_
 refine QA (d:=12) (c:=(decide (65≤a0.n))) Z (fun c4=>?_) (fun c4=>?_)
 replace h1:=Qi c4 h1
 refine DE Z Z Z<|DD Z Z Z (Q8 Z Z Z)<|DD Z Z Z (Qe Z Z)<|DD Z Z Z (Qa Z Z)<|DE Z Z Z ?_
 refine QA (d:=17) (c:=(decide (a0.n≤90))) Z (fun c5=>?_) (fun c5=>?_)
 replace h1:=Qi c5 h1
 refine Q7 Z Z<|Q7 Z Z<|DD Z Z Z (Qe Z Z)<|DF Z Z Z<|Q3 ?_
 have e:=DB h1;subst e
 exact Qb true (DA (Nat.zero_le _) Z Z Z Z Z) h0
 replace h1:=Qj c5 h1
 refine DE Z Z Z<|DD Z Z Z (Q8 Z Z Z)<|DD Z Z Z (Qa Z Z)<|DF Z Z Z<|Q3 ?_
 have e:=DB h1;subst e
 exact Qb (a0.n==95) (DA (Nat.zero_le _) Z Z Z Z Z) h0
 replace h1:=Qj c4 h1
 refine Q7 Z Z<|Q7 Z Z<|DD Z Z Z (Qa Z Z)<|DD Z Z Z (Qa Z Z)<|DE Z Z Z<|DE Z Z Z<|DD Z Z Z (Q8 Z Z Z)<|DD Z Z Z (Qa Z Z)<|DF Z Z Z<|Q3 ?_
 have e:=DB h1;subst e
 exact Qb (a0.n==95) (DA (Nat.zero_le _) Z Z Z Z Z) h0
 replace h1:=Qj c2 h1
 refine Q7 Z Z<|Q7 Z Z<|DD Z Z Z (Qa Z Z)<|DE Z Z Z<|DE Z Z Z<|DD Z Z Z (Q8 Z Z Z)<|DE Z Z Z ?_
 refine QA (d:=12) (c:=(decide (65≤a0.n))) Z (fun c6=>?_) (fun c6=>?_)
 replace h1:=Qi c6 h1
 refine DE Z Z Z<|DD Z Z Z (Q8 Z Z Z)<|DD Z Z Z (Qe Z Z)<|DD Z Z Z (Qa Z Z)<|DE Z Z Z ?_
 refine QA (d:=17) (c:=(decide (a0.n≤90))) Z (fun c7=>?_) (fun c7=>?_)
 replace h1:=Qi c7 h1
 refine Q7 Z Z<|Q7 Z Z<|DD Z Z Z (Qe Z Z)<|DF Z Z Z<|Q3 ?_
 have e:=DB h1;subst e
 exact Qb true (DA (Nat.zero_le _) Z Z Z Z Z) h0
 replace h1:=Qj c7 h1
 refine DE Z Z Z<|DD Z Z Z (Q8 Z Z Z)<|DD Z Z Z (Qa Z Z)<|DF Z Z Z<|Q3 ?_
 have e:=DB h1;subst e
 exact Qb (a0.n==95) (DA (Nat.zero_le _) Z Z Z Z Z) h0
 replace h1:=Qj c6 h1
 refine Q7 Z Z<|Q7 Z Z<|DD Z Z Z (Qa Z Z)<|DD Z Z Z (Qa Z Z)<|DE Z Z Z<|DE Z Z Z<|DD Z Z Z (Q8 Z Z Z)<|DD Z Z Z (Qa Z Z)<|DF Z Z Z<|Q3 ?_
 have e:=DB h1;subst e
 exact Qb (a0.n==95) (DA (Nat.zero_le _) Z Z Z Z Z) h0
 intro v1 h0
 refine Q4<|QE ?_
 have e:=DB h0;subst e
 exact QJ (fun _ _ h=>h) Z (QB Z .nil) (.cons (.one (.d _)) .nil)
def Xz (a0:Bs) (s1:Bool×Int):Option (LO (Bool×Int) (Bool⊕Bool)) :=
 cond (decide (s1.2 < (a0.length:Int)))
   (Option.bind (Jx a0 s1.2) fun (x3:UInt8) =>
 Option.bind (Dq (⟨(x3.toNat:Int)⟩:Byt)) fun (x4:Bool) =>
 cond x4
   (some (.next (false,(Ja (s1.2+1)))))
   (cond s1.1
   (some (.done (.inr false)))
   (cond ((x3.toNat:Int)==46)
   (some (.next (true,(Ja (s1.2+1)))))
   (Option.bind (cond (decide ((x3.toNat:Int) < 48))
   (some true)
   (some (decide (57 < (x3.toNat:Int))))) (fun (v8:Bool)=>cond v8
   (cond ((x3.toNat:Int) != 39)
   (some (.done (.inr false)))
   (some (.next (s1.1,(Ja (s1.2+1))))))
   (some (.next (s1.1,(Ja (s1.2+1))))))))))
   (some (.done (.inl s1.1)))
def Da (a0:Bs):Option Bool :=
 Option.bind (Qq (Xz a0) QI (true,0)) (Sum.elim (fun (o1:Bool)=>Option.bind (cond (!o1)
   (some (decide ((a0.length:Int)≤64)))
   (some false)) (fun (v2:Bool)=>some v2)) (fun o=>some o))
theorem m65_ok (a0:Bs) (r:Bool) (h0:Da a0=some r):Fun Try.prog 65 [.one (Jl a0)] (QP [.one (DX r)]):=by
 unfold Da at h0
 refine QS 9 39 Try.func65 Z en_65 Z (DM Z) (fun S w=>?_)
 simp only [Jb]
 refine Q6<|Q0<|DF Z Z Z<|Q3<|Q4<|Q6<|Q0<|DF Z Z Z<|Q3<|Q4<|Q6<|Q6<|Q0<|DE Z Z Z ?_
 refine DD Z Z Z (GI Uf Z)<|DE Z Z Z<|Q3<|Q4<|Qh ?_
 refine J2 0 (fun (o1:Bool)=>⟨[(0,.v (.one (Jl a0))),(3,.v (.one (DX o1)))],[],[],0,39,[]⟩) (fun (o1:Bool)=>(Option.bind (cond (!o1)
     (some (decide ((a0.length:Int)≤64)))
     (some false)) (fun (v2:Bool)=>some v2))=some r) ?_ ?_
 refine Qd h0 (fun o2 hl1 h0=>?_)
 refine J1 (Xz a0) (fun s1=>⟨[(0,.v (.one (Jl a0))),(3,.v (.one (DX s1.1))),(7,.v (.one (DW (a0.length:Int)))),(8,.v (.one (DW s1.2)))],[],[],0,39,[]⟩) (true,0) o2 (DA (Nat.zero_le _) Z Z Z Z Z) hl1 (fun s1 n1 oo1 h1 ho1=>?_)
 unfold Xz at h1
 refine Q6<|Q0<|DD Z Z Z (Q8 Z Z Z)<|Q3<|Q4<|Q6 ?_
 refine Qg (b:=(decide (s1.2 < (a0.length:Int)))) Z (fun c3=>?_) (fun c3=>?_)
 replace h1:=Qi c3 h1
 refine Qn<|Q4<|Q6<|Qh<|Q6<|Q0<|DE Z Z Z<|DF Z Z Z<|Q3<|Q4<|Q6<|Q0<|DE Z Z Z<|DE Z Z Z ?_
 refine Qd h1 (fun x4 hx4 h1=>?_)
 refine DD Z Z Z (RO.ixS Uf Z Z hx4)<|DF Z Z Z<|Q3<|Q4<|Qh<|Q6<|Q0<|DE Z Z Z ?_
 refine Qd h1 (fun x5 hx5 h1=>?_)
 refine Q9 Z Z (DM Z) (Qo (m79_ok (⟨(x4.toNat:Int)⟩:Byt) x5 hx5) Z (.cons (.one (.d _)) .nil))<|DF Z Z Z<|Q3<|Q4 ?_
 refine Qg (b:=x5) Z (fun c6=>?_) (fun c6=>?_)
 replace h1:=Qi c6 h1
 refine Q0<|DF Z Z Z<|Q3<|Qf<|Qf<|Q4<|Q0<|DD Z Z Z (Q8 Z Z Z)<|DE Z Z Z<|Q3 ?_
 have e:=DB h1;subst e
 refine QW (false,(Ja (s1.2+1))) (DA (Nat.zero_le _) Z Z Z Z Z) ho1
 replace h1:=Qj c6 h1
 refine Q6<|Q0<|DE Z Z Z<|DF Z Z Z<|Q3<|Q4 ?_
 refine Qg (b:=s1.1) Z (fun c7=>?_) (fun c7=>?_)
 replace h1:=Qi c7 h1
 refine Q6<|Q0<|DF Z Z Z<|Q3<|Q4<|QE ?_
 have e:=DB h1;subst e
 have e_:_=_:=ho1
 subst e_
 try dsimp only [Sum.elim_inl,Sum.elim_inr] at h0
 have e:=DB h0;subst e
 exact QJ (fun _ _ h=>h) Z (QB Z .nil) (.cons (.one (.d _)) .nil)
 replace h1:=Qj c7 h1
 refine Q6<|Q0<|DE Z Z Z<|DD Z Z Z (Q8 Z Z Z)<|DF Z Z Z<|Q3<|Q4 ?_
 refine Qg (b:=((x4.toNat:Int)==46)) Z (fun c8=>?_) (fun c8=>?_)
 replace h1:=Qi c8 h1
 refine Q0<|DF Z Z Z<|Q3<|Qf<|Qf<|Q4<|Q0<|DD Z Z Z (Q8 Z Z Z)<|DE Z Z Z<|Q3 ?_
 have e:=DB h1;subst e
 refine QW (true,(Ja (s1.2+1))) (DA (Nat.zero_le _) Z Z Z Z Z) ho1
 replace h1:=Qj c8 h1
 refine Q6 ?_
 refine QO (fun (v9:Bool)=>⟨[(0,.v (.one (Jl a0))),(3,.v (.one (DX s1.1))),(5,.v (.one (.d (.v (.int .u8 (x4.toNat:Int)))))),(7,.v (.one (DW (a0.length:Int)))),(8,.v (.one (DW s1.2))),(22,.v (.one (DX v9)))],[],[],0,39,[]⟩) (fun (v9:Bool)=>(cond v9
     (cond ((x4.toNat:Int) != 39)
     (some (.done (.inr false)))
     (some (.next (s1.1,(Ja (s1.2+1))))))
     (some (.next (s1.1,(Ja (s1.2+1))))))=some oo1) ?_ ?_
 refine Qd h1 (fun w2_ h2 h1=>?_)
 refine Q0<|DE Z Z Z<|DD Z Z Z (Q8 Z Z Z)<|DE Z Z Z ?_
 refine QA (d:=25) (c:=(decide ((x4.toNat:Int) < 48))) Z (fun c10=>?_) (fun c10=>?_)
 replace h2:=Qi c10 h2
 refine Q7 Z Z<|Q7 Z Z<|DD Z Z Z (Qe Z Z)<|DF Z Z Z<|Q3 ?_
 have e:=DB h2;subst e
 exact Qb true (DA (Nat.zero_le _) Z Z Z Z Z) h1
 replace h2:=Qj c10 h2
 refine DE Z Z Z<|DD Z Z Z (Q8 Z Z Z)<|DD Z Z Z (Qa Z Z)<|DF Z Z Z<|Q3 ?_
 have e:=DB h2;subst e
 exact Qb (decide (57 < (x4.toNat:Int))) (DA (Nat.zero_le _) Z Z Z Z Z) h1
 intro v9 h1
 refine Q4 ?_
 refine Qg (b:=v9) Z (fun c11=>?_) (fun c11=>?_)
 replace h1:=Qi c11 h1
 refine Q6<|Q0<|DE Z Z Z<|DD Z Z Z (Q8 Z Z Z)<|Q3<|Q4 ?_
 refine Qg (b:=((x4.toNat:Int) != 39)) Z (fun c12=>?_) (fun c12=>?_)
 replace h1:=Qi c12 h1
 refine Q6<|Q0<|DF Z Z Z<|Q3<|Q4<|QE ?_
 have e:=DB h1;subst e
 have e_:_=_:=ho1
 subst e_
 try dsimp only [Sum.elim_inl,Sum.elim_inr] at h0
 have e:=DB h0;subst e
 exact QJ (fun _ _ h=>h) Z (QB Z .nil) (.cons (.one (.d _)) .nil)
 replace h1:=Qj c12 h1
 refine Qn<|Qf<|Qf<|Q4<|Q0<|DD Z Z Z (Q8 Z Z Z)<|DE Z Z Z<|Q3 ?_
 have e:=DB h1;subst e
 refine QW (s1.1,(Ja (s1.2+1))) (DA (Nat.zero_le _) Z Z Z Z Z) ho1
 replace h1:=Qj c11 h1
 refine Qn<|Qf<|Qf<|Q4<|Q0<|DD Z Z Z (Q8 Z Z Z)<|DE Z Z Z<|Q3 ?_
 have e:=DB h1;subst e
 refine QW (s1.1,(Ja (s1.2+1))) (DA (Nat.zero_le _) Z Z Z Z Z) ho1
 replace h1:=Qj c3 h1
 refine J8<|Qr<|Qr ?_
 have e:=DB h1;subst e
 have e_:_=_:=ho1
 subst e_
 exact J0 s1.1 (DA (Nat.zero_le _) Z Z Z Z Z) h0
 intro o1 h0
 refine QQ<|Q4<|Q6 ?_
 refine QO (fun (v13:Bool)=>⟨[(2,.v (.one (DX v13)))],[],[],0,39,[]⟩) (fun (v13:Bool)=>(some v13)=some r) ?_ ?_
 refine Qd h0 (fun w1_ h1 h0=>?_)
 refine Q0<|DE Z Z Z<|DD Z Z Z (Jj Z)<|DE Z Z Z ?_
 refine QA (d:=34) (c:=(!o1)) Z (fun c14=>?_) (fun c14=>?_)
 replace h1:=Qi c14 h1
 refine DE Z Z Z<|DD Z Z Z (GI Uf Z)<|DD Z Z Z (Q8 Z Z Z)<|DD Z Z Z (Qe Z Z)<|DF Z Z Z<|Q3 ?_
 have e:=DB h1;subst e
 exact Qb (decide ((a0.length:Int)≤64)) (DA (Nat.zero_le _) Z Z Z Z Z) h0
 replace h1:=Qj c14 h1
 refine Q7 Z Z<|Q7 Z Z<|Q7 Z Z<|DD Z Z Z (Qa Z Z)<|DF Z Z Z<|Q3 ?_
 have e:=DB h1;subst e
 exact Qb false (DA (Nat.zero_le _) Z Z Z Z Z) h0
 intro v13 h0
 refine Q4<|QE ?_
 have e:=DB h0;subst e
 exact QJ (fun _ _ h=>h) Z (QB Z .nil) (.cons (.one (.d _)) .nil)
def m81_l0 (a0:Tm) (rc:Tm→Option Int) (s1:Int×Int):Option (LO (Int×Int) Int) :=
 cond (decide (s1.2 < (a0.kids.length:Int)))
   (Option.bind (Jx a0.kids s1.2) fun (x3:Tm) =>
 Option.bind (rc x3) fun (x4:Int) =>
 some (.next ((max s1.1 x4),(Ja (s1.2+1)))))
   (some (.done s1.1))
def m81s (rc:Tm→Option Int) (a0:Tm):Option Int :=
 Option.bind (Qq (m81_l0 a0 rc) QI (0,0)) (fun (o1:Int)=>some (Ja (o1+1)))
def m81F (rc:Tm→Option Int) (u:Tm):Option Int:=m81s rc u
def m81 (a0:Tm):Option Int:=JE m81F QI a0
theorem m81s_ok (rc:Tm→Option Int) (H:∀ (a0:Tm) (r:Int),rc a0=some r→Fun Try.prog 81 [.agg (DZ a0)] (QP [.one (DW r)])) (a0:Tm) (r:Int) (h0:m81s rc a0=some r):Fun Try.prog 81 [.agg (DZ a0)] (QP [.one (DW r)]):=by
 unfold m81s at h0
 refine QS 9 20 Try.func81 Z en_81 Z (DM Z) (fun S w=>?_)
 simp only [Jb]
 refine Q6<|Q0<|Q9 Z Z (DM Z) (QV Z)<|DF Z Z Z<|Q3<|Q4<|Q6<|Q0<|DF Z Z Z<|Q3<|Q4<|Q6<|Q6<|Q0 ?_
 refine DD Z Z Z (Q2 JJ Z)<|DD Z Z Z (Q5 Yj Z Z Z)<|DD Z Z Z (QD (α:=Tm) JC Z (.d _))<|DE Z Z Z<|Q3<|Q4<|Qh ?_
 refine J2 0 (fun (o1:Int)=>⟨[(3,.v (.one (DW o1)))],[(0,.cells 33 (DZ a0))],[],1,20,[]⟩) (fun (o1:Int)=>(some (Ja (o1+1)))=some r) ?_ ?_
 refine Qd h0 (fun o2 hl1 h0=>?_)
 refine J1 (m81_l0 a0 rc) (fun s1=>⟨[(3,.v (.one (DW s1.1))),(7,.v (.one (DU a0.kids))),(8,.v (.one (DW (a0.kids.length:Int)))),(9,.v (.one (DW s1.2)))],[(0,.cells 33 (DZ a0))],[],1,20,[]⟩) (0,0) o2 (DA (Nat.zero_le _) Z Z Z Z Z) hl1 (fun s1 n1 oo1 h1 ho1=>?_)
 unfold m81_l0 at h1
 refine Q6<|Q0<|DD Z Z Z (Q8 Z Z Z)<|Q3<|Q4<|Q6 ?_
 refine Qg (b:=(decide (s1.2 < (a0.kids.length:Int)))) Z (fun c3=>?_) (fun c3=>?_)
 replace h1:=Qi c3 h1
 refine Qn<|Q4<|Q6<|Qh<|Q6<|Q0 ?_
 refine Qd h1 (fun x4 hx4 h1=>?_)
 refine DD Z Z Z (Qy (α:=Tm) JC Z (.d _) Z hx4)<|DD Z Z Z (Qt (x4:Tm) QX Z)<|Q9 Z Z (DM Z) (Ql G4 Z)<|Qz Z Z (QC (x4:Tm) QX Z Z Z Z Z)<|Q3<|Q4<|Q0<|DE Z Z Z<|DD Z Z Z (QM (x4:Tm) QX Z Z) ?_
 refine Qd h1 (fun x5 hx5 h1=>?_)
 refine Q9 Z Z (DM Z) (Qo (H x4 x5 hx5) Z (.cons (.agg (.cons (.d _) (.cons (.d _) (.cons (.d _) (.cons (.d _) (.cons (.d _) .nil)))))) .nil))<|DD Z Z Z (GH Z Z)<|DF Z Z Z<|Q3<|Qf<|Q4<|Q0<|DD Z Z Z (Q8 Z Z Z)<|DE Z Z Z<|Q3 ?_
 have e:=DB h1;subst e
 refine QW ((max s1.1 x5),(Ja (s1.2+1))) (DA (Nat.zero_le _) Z Z Z Z Z) ho1
 replace h1:=Qj c3 h1
 refine J8<|Qr<|Qr ?_
 have e:=DB h1;subst e
 have e_:_=_:=ho1
 subst e_
 exact J0 s1.1 (DA (Nat.zero_le _) Z Z Z Z Z) h0
 intro o1 h0
 refine QQ<|Q4<|Q6<|Q0<|DE Z Z Z<|DD Z Z Z (Q8 Z Z Z)<|DF Z Z Z<|Q3<|Q4<|QE ?_
 have e:=DB h0;subst e
 exact QJ (fun _ _ h=>h) Z (QB Z .nil) (.cons (.one (.d _)) .nil)
theorem m81_all (n:Nat) (u:Tm) (r:Int) (h0:JE m81F n u=some r):Fun Try.prog 81 [.agg (DZ u)] (QP [.one (DW r)]) :=
 Z9 (C:=fun u r=>Fun Try.prog 81 [.agg (DZ u)] (QP [.one (DW r)])) (fun rc H u r h=>m81s_ok rc (fun a0 r h=>H a0 r h) u r h) n u r h0
theorem m81_ok (a0:Tm) (r:Int) (h0:m81 a0=some r):Fun Try.prog 81 [.agg (DZ a0)] (QP [.one (DW r)]):=m81_all QI a0 r h0
end Go.Proofs.Ytafddfoefeploaa
namespace Go.Proofs.Ytafddfoefeploaa
open Go.RowKit Go.Shelf
theorem fo_127_0:QU Try.prog 127 0=some 0:=by kernel_rfl
theorem fo_127_1:QU Try.prog 127 1=some 1:=by kernel_rfl
theorem fo_127_2:QU Try.prog 127 2=some 2:=by kernel_rfl
theorem fo_127_3:QU Try.prog 127 3=some 3:=by kernel_rfl
theorem fo_134_0:QU Try.prog 134 0=some 0:=by kernel_rfl
theorem fo_134_1:QU Try.prog 134 1=some 1:=by kernel_rfl
theorem ZW:QU Try.prog 134 2=some 2:=by kernel_rfl
theorem ZV:QU Try.prog 134 3=some 3:=by kernel_rfl
theorem ag_127:Jz Try.prog 127=some (true,4):=by kernel_rfl
theorem ag_134:Jz Try.prog 134=some (true,5):=by kernel_rfl
theorem UC:Jy Try.prog 87=some [.int .i64 0,.slice none 0 0]:=by kernel_rfl
theorem z_134:Jy Try.prog 134=some [.bool false,.bool false,.int .i64 0,.int .i64 0,.int .i64 0]:=by kernel_rfl
theorem en_80:J4 Try.prog 80:=enters_of Try.func80 (by kernel_rfl) rfl
theorem en_96:J4 Try.prog 96:=enters_of Try.func96 (by kernel_rfl) rfl
theorem en_97:J4 Try.prog 97:=enters_of Try.func97 (by kernel_rfl) rfl
theorem as_135:tyArrS Try.prog 135=some (13,5):=by kernel_rfl
def m90 :Option ((List Use)) :=
 some ([(⟨true,false,0,0,(-1)⟩:Use),(⟨false,false,0,0,(-1)⟩:Use),(⟨false,false,1,0,(-1)⟩:Use),(⟨false,true,(-1),0,(-1)⟩:Use),(⟨false,false,0,2,(-1)⟩:Use),(⟨false,false,0,2,1⟩:Use),(⟨false,false,0,2,1⟩:Use),(⟨false,false,0,2,1⟩:Use),(⟨false,false,0,3,(-1)⟩:Use),(⟨false,false,0,1,(-1)⟩:Use),(⟨false,false,0,1,(-1)⟩:Use),(⟨false,false,0,3,2⟩:Use),(⟨true,false,0,0,(-1)⟩:Use)]:List Use)
theorem m90_ok  (r:(List Use)) (h0:m90 =some r):Fun Try.prog 90 [] (QP [.agg (WS (r:List Use))]):=by
 unfold m90 at h0
 refine QS 9 15 Try.func90 Z en_90 Z (DM Z) (fun S w=>?_)
 simp only [Jb]
 refine Q6<|Q0<|Q9 Z Z (DM Z) (Ql z_135 Z)<|Q3<|Q4<|Q6<|Q0<|DD Z Z Z (Jm Y5 Z Z Z Z)<|DD Z Z Z (Gt Y5 Z Z Z)<|DD Z Z Z (Jm Y5 Z Z Z Z)<|DD Z Z Z (Zn Y5 Z Z Z Z Z)<|DD Z Z Z (Jm Y5 Z Z Z Z)<|DD Z Z Z (Jm Y5 Z Z Z Z)<|DD Z Z Z (Jm Y5 Z Z Z Z) ?_
 refine DD Z Z Z (Jm Y5 Z Z Z Z)<|DD Z Z Z (Jm Y5 Z Z Z Z)<|DD Z Z Z (Jm Y5 Z Z Z Z)<|DD Z Z Z (Jm Y5 Z Z Z Z)<|DD Z Z Z (Jm Y5 Z Z Z Z)<|DD Z Z Z (Jm Y5 Z Z Z Z)<|DD Z Z Z (JR bd_135 Z (.cons Z (.cons Z (.cons Z (.cons Z (.cons Z (.cons Z (.cons Z (.cons Z (.cons Z (.cons Z (.cons Z (.cons Z (.cons Z .nil))))))))))))) Z)<|Qz Z Z (YS WX Z Z Z Z Z Z)<|Q3<|Q4<|QE ?_
 have e:=DB h0;subst e
 exact QJ (fun _ _ h=>h) Z (Z4 WX Z Z Z Z .nil) (.cons (.agg (.cons (.d _) (.cons (.d _) (.cons (.d _) (.cons (.d _) (.cons (.d _) (.cons (.d _) (.cons (.d _) (.cons (.d _) (.cons (.d _) (.cons (.d _) (.cons (.d _) (.cons (.d _) (.cons (.d _) (.cons (.d _) (.cons (.d _) (.cons (.d _) (.cons (.d _) (.cons (.d _) (.cons (.d _) (.cons (.d _) (.cons (.d _) (.cons (.d _) (.cons (.d _) (.cons (.d _) (.cons (.d _) (.cons (.d _) (.cons (.d _) (.cons (.d _) (.cons (.d _) (.cons (.d _) (.cons (.d _) (.cons (.d _) (.cons (.d _) (.cons (.d _) (.cons (.d _) (.cons (.d _) (.cons (.d _) (.cons (.d _) (.cons (.d _) (.cons (.d _) (.cons (.d _) (.cons (.d _) (.cons (.d _) (.cons (.d _) (.cons (.d _) (.cons (.d _) (.cons (.d _) (.cons (.d _) (.cons (.d _) (.cons (.d _) (.cons (.d _) (.cons (.d _) (.cons (.d _) (.cons (.d _) (.cons (.d _) (.cons (.d _) (.cons (.d _) (.cons (.d _) (.cons (.d _) (.cons (.d _) (.cons (.d _) (.cons (.d _) (.cons (.d _) (.cons (.d _) (.cons (.d _) .nil)))))))))))))))))))))))))))))))))))))))))))))))))))))))))))))))))) .nil)
def m96_k0 (p0_:Bool) (p1_:Tm):Option Bool :=
 cond p0_
   (some false)
   (Option.bind (m90 ) fun (b0_:(List Use)) =>
 Option.bind (Jx b0_ p1_.kind) fun (b1_:Use) =>
 Jh (Nat.beq b0_.length 13)
 (Option.bind (cond b1_.index
   (cond b1_.name
   (cond (decide (b1_.levels < 0))
   (some ((p1_.kids.length:Int)==b1_.kids))
   (cond ((p1_.levels.length:Int)==b1_.levels)
   (some ((p1_.kids.length:Int)==b1_.kids))
   (some false)))
   (cond (p1_.name==([]:List UInt8))
   (cond (decide (b1_.levels < 0))
   (some ((p1_.kids.length:Int)==b1_.kids))
   (cond ((p1_.levels.length:Int)==b1_.levels)
   (some ((p1_.kids.length:Int)==b1_.kids))
   (some false)))
   (some false)))
   (cond (p1_.index==0)
   (cond b1_.name
   (cond (decide (b1_.levels < 0))
   (some ((p1_.kids.length:Int)==b1_.kids))
   (cond ((p1_.levels.length:Int)==b1_.levels)
   (some ((p1_.kids.length:Int)==b1_.kids))
   (some false)))
   (cond (p1_.name==([]:List UInt8))
   (cond (decide (b1_.levels < 0))
   (some ((p1_.kids.length:Int)==b1_.kids))
   (cond ((p1_.levels.length:Int)==b1_.levels)
   (some ((p1_.kids.length:Int)==b1_.kids))
   (some false)))
   (some false)))
   (some false))) (fun (b2_:Bool)=>some b2_)))
def UZ (a0:Tm):Option Bool :=
 Option.bind (cond (decide (a0.kind < 0))
   (some true)
   (some (decide (13≤a0.kind)))) (fun (v1:Bool)=>m96_k0 v1 a0)
theorem m96_ok (a0:Tm) (r:Bool) (h0:UZ a0=some r):Fun Try.prog 96 [.agg (DZ a0)] (QP [.one (DX r)]):=by
 unfold UZ at h0
 refine QS 9 53 Try.func96 Z en_96 Z (DM Z) (fun S w=>?_)
 simp only [Jb]
 refine Q6<|Q0<|Q9 Z Z (DM Z) (QV Z)<|DF Z Z Z<|Q3<|Q4<|Q6<|Q6 ?_
 refine QO (fun (v1:Bool)=>⟨[(1,.v (.one (.ptr 0 0))),(11,.v (.one (DX v1)))],[(0,.cells 33 (DZ a0))],[],1,53,[]⟩) (fun (v1:Bool)=>(m96_k0 v1 a0)=some r) ?_ ?_
 refine Qd h0 (fun w1_ h1 h0=>?_)
 refine Q0<|DD Z Z Z (Q2 Yr Z)<|DD Z Z Z (Q5 QN Z Z Z)<|DD Z Z Z (Q8 Z Z Z)<|DE Z Z Z ?_
 refine QA (d:=7) (c:=(decide (a0.kind < 0))) Z (fun c2=>?_) (fun c2=>?_)
 replace h1:=Qi c2 h1
 refine Q7 Z Z<|Q7 Z Z<|Q7 Z Z<|DD Z Z Z (Qe Z Z)<|Q3 ?_
 have e:=DB h1;subst e
 exact Qb true (DA (Nat.zero_le _) Z Z Z Z Z) h0
 replace h1:=Qj c2 h1
 refine DD Z Z Z (Q2 Yr Z)<|DD Z Z Z (Q5 QN Z Z Z)<|DD Z Z Z (Q8 Z Z Z)<|DD Z Z Z (Qa Z Z)<|Q3 ?_
 have e:=DB h1;subst e
 exact Qb (decide (13≤a0.kind)) (DA (Nat.zero_le _) Z Z Z Z Z) h0
 intro v1 h0
 unfold m96_k0 at h0
 refine Q4 ?_
 refine Qg (b:=v1) Z (fun c3=>?_) (fun c3=>?_)
 replace h0:=Qi c3 h0
 refine Q6<|Q0<|DF Z Z Z<|Q3<|Q4<|QE ?_
 have e:=DB h0;subst e
 exact QJ (fun _ _ h=>h) Z (QB Z .nil) (.cons (.one (.d _)) .nil)
 replace h0:=Qj c3 h0
 refine Qn<|Q4<|Q6 ?_
 refine Js [4,5] [(0,1),(1,1),(2,1),(3,1)] YU (by kernel_rfl) (by kernel_rfl) (by kernel_rfl) ?_
 refine Qd h0 (fun x4 hx4 h0=>?_)
 refine RunA.rd Z Z Z (Qo (m90_ok  x4 hx4) Z .nil) Z<|RunA.rd Z Z Z (Q1 (Q2 Yr Z)) Z<|RunA.rd Z Z Z (Q1 (Q5 QN Z Z Z)) Z ?_
 refine Qd h0 (fun x5 hx5 h0=>?_)
 refine YI h0 (fun g6 h0=>?_)
 refine RunA.rd Z Z Z (Q1 (RO.indexAgg (α:=Use) (tbl:=x4) as_135 Z Z g6 Z hx5)) Z<|RunA.eff Z Z Z (Ql z_134 Z) Z<|RunA.eff Z Z Z (QC (x5:Use) ag_134 Z Z Z Z Z) Z ?_
 refine RunA.nil ⟨?ex,_,_,Z,?_⟩
 case ex=>exact ⟨⟨_,rfl,_,_,rfl,rfl,rfl,.inl ⟨rfl,_,Qo (m90_ok  x4 hx4) rfl .nil,rfl⟩⟩,⟨_,rfl,_,_,rfl,rfl,rfl,.inl ⟨rfl,_,Q1 (Q2 Yr rfl),rfl⟩⟩,⟨_,rfl,_,_,rfl,rfl,rfl,.inl ⟨rfl,_,Q1 (Q5 QN rfl rfl rfl),rfl⟩⟩,⟨_,rfl,_,_,rfl,rfl,rfl,.inl ⟨rfl,_,Q1 (RO.indexAgg (α:=Use) (tbl:=x4) as_135 rfl rfl g6 rfl hx5),rfl⟩⟩,trivial⟩
 refine JV (st':=⟨[(1,.v (.one (.ptr 0 0))),(3,.v (.one (.ptr 1 0)))],[(0,.cells 33 (DZ a0)),(1,.cells 134 (DZ x5))],[],2,53,[]⟩) (DA (Nat.zero_le _) Z Z Z Z Z)<|Q4<|Q6 ?_
 refine QO (fun (v7:Bool)=>⟨[(2,.v (.one (DX v7)))],[(0,.cells 33 (DZ a0)),(1,.cells 134 (DZ x5))],[],2,53,[]⟩) (fun (v7:Bool)=>(some v7)=some r) ?_ ?_
 refine Qd h0 (fun w1_ h1 h0=>?_)
 refine Q0<|DD Z Z Z (Q2 fo_134_0 Z)<|DD Z Z Z (Q5 ag_4 Z Z Z)<|DE Z Z Z ?_
 refine QA (d:=18) (c:=x5.index) Z (fun c8=>?_) (fun c8=>?_)
 replace h1:=Qi c8 h1
 refine Q7 Z Z<|Q7 Z Z<|Q7 Z Z<|DD Z Z Z (Qe Z Z)<|DE Z Z Z<|DD Z Z Z (Q2 fo_134_1 Z)<|DD Z Z Z (Q5 ag_4 Z Z Z)<|DE Z Z Z ?_
 refine QA (d:=26) (c:=x5.name) Z (fun c9=>?_) (fun c9=>?_)
 replace h1:=Qi c9 h1
 refine Q7 Z Z<|Q7 Z Z<|Q7 Z Z<|DD Z Z Z (Qe Z Z)<|DD Z Z Z (Qe Z Z)<|DE Z Z Z<|DD Z Z Z (Q2 ZW Z)<|DD Z Z Z (Q5 QN Z Z Z)<|DD Z Z Z (Q8 Z Z Z)<|DE Z Z Z ?_
 refine QA (d:=36) (c:=(decide (x5.levels < 0))) Z (fun c10=>?_) (fun c10=>?_)
 replace h1:=Qi c10 h1
 refine Q7 Z Z<|Q7 Z Z<|Q7 Z Z<|Q7 Z Z<|Q7 Z Z<|Q7 Z Z<|DD Z Z Z (Qe Z Z)<|DD Z Z Z (Qe Z Z)<|DE Z Z Z<|DD Z Z Z (Q2 JJ Z)<|DD Z Z Z (Q5 Yj Z Z Z)<|DD Z Z Z (QD (α:=Tm) JC Z (.d _))<|DD Z Z Z (Q2 ZV Z)<|DD Z Z Z (Q5 QN Z Z Z) ?_
 refine DD Z Z Z (Q8 Z Z Z)<|DD Z Z Z (Qe Z Z)<|DF Z Z Z<|Q3 ?_
 have e:=DB h1;subst e
 exact Qb ((a0.kids.length:Int)==x5.kids) (DA (Nat.zero_le _) Z Z Z Z Z) h0
 replace h1:=Qj c10 h1
 refine DD Z Z Z (Q2 Ze Z)<|DD Z Z Z (Q5 GN Z Z Z)<|DD Z Z Z (QD (α:=Lvl) Z8 Z (.d _))<|DD Z Z Z (Q2 ZW Z)<|DD Z Z Z (Q5 QN Z Z Z)<|DD Z Z Z (Q8 Z Z Z)<|DD Z Z Z (Qa Z Z)<|DD Z Z Z (Qe Z Z)<|DE Z Z Z ?_
 refine QA (d:=45) (c:=((a0.levels.length:Int)==x5.levels)) Z (fun c11=>?_) (fun c11=>?_)
 replace h1:=Qi c11 h1
 refine DD Z Z Z (Q2 JJ Z)<|DD Z Z Z (Q5 Yj Z Z Z)<|DD Z Z Z (QD (α:=Tm) JC Z (.d _))<|DD Z Z Z (Q2 ZV Z)<|DD Z Z Z (Q5 QN Z Z Z)<|DD Z Z Z (Q8 Z Z Z)<|DD Z Z Z (Qe Z Z)<|DF Z Z Z<|Q3 ?_
 have e:=DB h1;subst e
 exact Qb ((a0.kids.length:Int)==x5.kids) (DA (Nat.zero_le _) Z Z Z Z Z) h0
 replace h1:=Qj c11 h1
 refine Q7 Z Z<|Q7 Z Z<|Q7 Z Z<|Q7 Z Z<|Q7 Z Z<|Q7 Z Z<|DD Z Z Z (Qa Z Z)<|DF Z Z Z<|Q3 ?_
 have e:=DB h1;subst e
 exact Qb false (DA (Nat.zero_le _) Z Z Z Z Z) h0
 replace h1:=Qj c9 h1
 refine DD Z Z Z (Q2 ZN Z)<|DD Z Z Z (Q5 JT Z Z Z)<|DD Z Z Z (GJ Z Z)<|DD Z Z Z (Qa Z Z)<|DD Z Z Z (Qe Z Z)<|DE Z Z Z ?_
 refine QA (d:=32) (c:=(a0.name==([]:List UInt8))) Z (fun c12=>?_) (fun c12=>?_)
 replace h1:=Qi c12 h1
 refine DD Z Z Z (Q2 ZW Z)<|DD Z Z Z (Q5 QN Z Z Z)<|DD Z Z Z (Q8 Z Z Z)<|DE Z Z Z ?_
 refine QA (d:=36) (c:=(decide (x5.levels < 0))) Z (fun c13=>?_) (fun c13=>?_)
 replace h1:=Qi c13 h1
 refine Q7 Z Z<|Q7 Z Z<|Q7 Z Z<|Q7 Z Z<|Q7 Z Z<|Q7 Z Z<|DD Z Z Z (Qe Z Z)<|DD Z Z Z (Qe Z Z)<|DE Z Z Z<|DD Z Z Z (Q2 JJ Z)<|DD Z Z Z (Q5 Yj Z Z Z)<|DD Z Z Z (QD (α:=Tm) JC Z (.d _))<|DD Z Z Z (Q2 ZV Z)<|DD Z Z Z (Q5 QN Z Z Z) ?_
 refine DD Z Z Z (Q8 Z Z Z)<|DD Z Z Z (Qe Z Z)<|DF Z Z Z<|Q3 ?_
 have e:=DB h1;subst e
 exact Qb ((a0.kids.length:Int)==x5.kids) (DA (Nat.zero_le _) Z Z Z Z Z) h0
 replace h1:=Qj c13 h1
 refine DD Z Z Z (Q2 Ze Z)<|DD Z Z Z (Q5 GN Z Z Z)<|DD Z Z Z (QD (α:=Lvl) Z8 Z (.d _))<|DD Z Z Z (Q2 ZW Z)<|DD Z Z Z (Q5 QN Z Z Z)<|DD Z Z Z (Q8 Z Z Z)<|DD Z Z Z (Qa Z Z)<|DD Z Z Z (Qe Z Z)<|DE Z Z Z ?_
 refine QA (d:=45) (c:=((a0.levels.length:Int)==x5.levels)) Z (fun c14=>?_) (fun c14=>?_)
 replace h1:=Qi c14 h1
 refine DD Z Z Z (Q2 JJ Z)<|DD Z Z Z (Q5 Yj Z Z Z)<|DD Z Z Z (QD (α:=Tm) JC Z (.d _))<|DD Z Z Z (Q2 ZV Z)<|DD Z Z Z (Q5 QN Z Z Z)<|DD Z Z Z (Q8 Z Z Z)<|DD Z Z Z (Qe Z Z)<|DF Z Z Z<|Q3 ?_
 have e:=DB h1;subst e
 exact Qb ((a0.kids.length:Int)==x5.kids) (DA (Nat.zero_le _) Z Z Z Z Z) h0
 replace h1:=Qj c14 h1
 refine Q7 Z Z<|Q7 Z Z<|Q7 Z Z<|Q7 Z Z<|Q7 Z Z<|Q7 Z Z<|DD Z Z Z (Qa Z Z)<|DF Z Z Z<|Q3 ?_
 have e:=DB h1;subst e
 exact Qb false (DA (Nat.zero_le _) Z Z Z Z Z) h0
 replace h1:=Qj c12 h1
 refine Q7 Z Z<|Q7 Z Z<|Q7 Z Z<|Q7 Z Z<|Q7 Z Z<|Q7 Z Z<|Q7 Z Z<|Q7 Z Z<|Q7 Z Z<|Q7 Z Z<|Q7 Z Z<|DD Z Z Z (Qa Z Z)<|DE Z Z Z<|Q7 Z Z ?_
 refine Q7 Z Z<|Q7 Z Z<|Q7 Z Z<|Q7 Z Z<|Q7 Z Z<|DD Z Z Z (Qa Z Z)<|DF Z Z Z<|Q3 ?_
 have e:=DB h1;subst e
 exact Qb false (DA (Nat.zero_le _) Z Z Z Z Z) h0
 replace h1:=Qj c8 h1
 refine DD Z Z Z (Q2 Z3 Z)<|DD Z Z Z (Q5 QN Z Z Z)<|DD Z Z Z (Q8 Z Z Z)<|DD Z Z Z (Qa Z Z)<|DE Z Z Z ?_
 refine QA (d:=23) (c:=(a0.index==0)) Z (fun c15=>?_) (fun c15=>?_)
 replace h1:=Qi c15 h1
 refine DD Z Z Z (Q2 fo_134_1 Z)<|DD Z Z Z (Q5 ag_4 Z Z Z)<|DE Z Z Z ?_
 refine QA (d:=26) (c:=x5.name) Z (fun c16=>?_) (fun c16=>?_)
 replace h1:=Qi c16 h1
 refine Q7 Z Z<|Q7 Z Z<|Q7 Z Z<|DD Z Z Z (Qe Z Z)<|DD Z Z Z (Qe Z Z)<|DE Z Z Z<|DD Z Z Z (Q2 ZW Z)<|DD Z Z Z (Q5 QN Z Z Z)<|DD Z Z Z (Q8 Z Z Z)<|DE Z Z Z ?_
 refine QA (d:=36) (c:=(decide (x5.levels < 0))) Z (fun c17=>?_) (fun c17=>?_)
 replace h1:=Qi c17 h1
 refine Q7 Z Z<|Q7 Z Z<|Q7 Z Z<|Q7 Z Z<|Q7 Z Z<|Q7 Z Z<|DD Z Z Z (Qe Z Z)<|DD Z Z Z (Qe Z Z)<|DE Z Z Z<|DD Z Z Z (Q2 JJ Z)<|DD Z Z Z (Q5 Yj Z Z Z)<|DD Z Z Z (QD (α:=Tm) JC Z (.d _))<|DD Z Z Z (Q2 ZV Z)<|DD Z Z Z (Q5 QN Z Z Z) ?_
 refine DD Z Z Z (Q8 Z Z Z)<|DD Z Z Z (Qe Z Z)<|DF Z Z Z<|Q3 ?_
 have e:=DB h1;subst e
 exact Qb ((a0.kids.length:Int)==x5.kids) (DA (Nat.zero_le _) Z Z Z Z Z) h0
 replace h1:=Qj c17 h1
 refine DD Z Z Z (Q2 Ze Z)<|DD Z Z Z (Q5 GN Z Z Z)<|DD Z Z Z (QD (α:=Lvl) Z8 Z (.d _))<|DD Z Z Z (Q2 ZW Z)<|DD Z Z Z (Q5 QN Z Z Z)<|DD Z Z Z (Q8 Z Z Z)<|DD Z Z Z (Qa Z Z)<|DD Z Z Z (Qe Z Z)<|DE Z Z Z ?_
 refine QA (d:=45) (c:=((a0.levels.length:Int)==x5.levels)) Z (fun c18=>?_) (fun c18=>?_)
 replace h1:=Qi c18 h1
 refine DD Z Z Z (Q2 JJ Z)<|DD Z Z Z (Q5 Yj Z Z Z)<|DD Z Z Z (QD (α:=Tm) JC Z (.d _))<|DD Z Z Z (Q2 ZV Z)<|DD Z Z Z (Q5 QN Z Z Z)<|DD Z Z Z (Q8 Z Z Z)<|DD Z Z Z (Qe Z Z)<|DF Z Z Z<|Q3 ?_
 have e:=DB h1;subst e
 exact Qb ((a0.kids.length:Int)==x5.kids) (DA (Nat.zero_le _) Z Z Z Z Z) h0
 replace h1:=Qj c18 h1
 refine Q7 Z Z<|Q7 Z Z<|Q7 Z Z<|Q7 Z Z<|Q7 Z Z<|Q7 Z Z<|DD Z Z Z (Qa Z Z)<|DF Z Z Z<|Q3 ?_
 have e:=DB h1;subst e
 exact Qb false (DA (Nat.zero_le _) Z Z Z Z Z) h0
 replace h1:=Qj c16 h1
 refine DD Z Z Z (Q2 ZN Z)<|DD Z Z Z (Q5 JT Z Z Z)<|DD Z Z Z (GJ Z Z)<|DD Z Z Z (Qa Z Z)<|DD Z Z Z (Qe Z Z)<|DE Z Z Z ?_
 refine QA (d:=32) (c:=(a0.name==([]:List UInt8))) Z (fun c19=>?_) (fun c19=>?_)
 replace h1:=Qi c19 h1
 refine DD Z Z Z (Q2 ZW Z)<|DD Z Z Z (Q5 QN Z Z Z)<|DD Z Z Z (Q8 Z Z Z)<|DE Z Z Z ?_
 refine QA (d:=36) (c:=(decide (x5.levels < 0))) Z (fun c20=>?_) (fun c20=>?_)
 replace h1:=Qi c20 h1
 refine Q7 Z Z<|Q7 Z Z<|Q7 Z Z<|Q7 Z Z<|Q7 Z Z<|Q7 Z Z<|DD Z Z Z (Qe Z Z)<|DD Z Z Z (Qe Z Z)<|DE Z Z Z<|DD Z Z Z (Q2 JJ Z)<|DD Z Z Z (Q5 Yj Z Z Z)<|DD Z Z Z (QD (α:=Tm) JC Z (.d _))<|DD Z Z Z (Q2 ZV Z)<|DD Z Z Z (Q5 QN Z Z Z) ?_
 refine DD Z Z Z (Q8 Z Z Z)<|DD Z Z Z (Qe Z Z)<|DF Z Z Z<|Q3 ?_
 have e:=DB h1;subst e
 exact Qb ((a0.kids.length:Int)==x5.kids) (DA (Nat.zero_le _) Z Z Z Z Z) h0
 replace h1:=Qj c20 h1
 refine DD Z Z Z (Q2 Ze Z)<|DD Z Z Z (Q5 GN Z Z Z)<|DD Z Z Z (QD (α:=Lvl) Z8 Z (.d _))<|DD Z Z Z (Q2 ZW Z)<|DD Z Z Z (Q5 QN Z Z Z)<|DD Z Z Z (Q8 Z Z Z)<|DD Z Z Z (Qa Z Z)<|DD Z Z Z (Qe Z Z)<|DE Z Z Z ?_
 refine QA (d:=45) (c:=((a0.levels.length:Int)==x5.levels)) Z (fun c21=>?_) (fun c21=>?_)
 replace h1:=Qi c21 h1
 refine DD Z Z Z (Q2 JJ Z)<|DD Z Z Z (Q5 Yj Z Z Z)<|DD Z Z Z (QD (α:=Tm) JC Z (.d _))<|DD Z Z Z (Q2 ZV Z)<|DD Z Z Z (Q5 QN Z Z Z)<|DD Z Z Z (Q8 Z Z Z)<|DD Z Z Z (Qe Z Z)<|DF Z Z Z<|Q3 ?_
 have e:=DB h1;subst e
 exact Qb ((a0.kids.length:Int)==x5.kids) (DA (Nat.zero_le _) Z Z Z Z Z) h0
 replace h1:=Qj c21 h1
 refine Q7 Z Z<|Q7 Z Z<|Q7 Z Z<|Q7 Z Z<|Q7 Z Z<|Q7 Z Z<|DD Z Z Z (Qa Z Z)<|DF Z Z Z<|Q3 ?_
 have e:=DB h1;subst e
 exact Qb false (DA (Nat.zero_le _) Z Z Z Z Z) h0
 replace h1:=Qj c19 h1
 refine Q7 Z Z<|Q7 Z Z<|Q7 Z Z<|Q7 Z Z<|Q7 Z Z<|Q7 Z Z<|Q7 Z Z<|Q7 Z Z<|Q7 Z Z<|Q7 Z Z<|Q7 Z Z<|DD Z Z Z (Qa Z Z)<|DE Z Z Z<|Q7 Z Z ?_
 refine Q7 Z Z<|Q7 Z Z<|Q7 Z Z<|Q7 Z Z<|Q7 Z Z<|DD Z Z Z (Qa Z Z)<|DF Z Z Z<|Q3 ?_
 have e:=DB h1;subst e
 exact Qb false (DA (Nat.zero_le _) Z Z Z Z Z) h0
 replace h1:=Qj c15 h1
 refine Q7 Z Z<|Q7 Z Z<|Q7 Z Z<|Q7 Z Z<|Q7 Z Z<|Q7 Z Z<|Q7 Z Z<|DD Z Z Z (Qa Z Z)<|DE Z Z Z<|Q7 Z Z<|Q7 Z Z<|Q7 Z Z<|Q7 Z Z<|Q7 Z Z ?_
 refine Q7 Z Z<|Q7 Z Z<|Q7 Z Z<|Q7 Z Z<|Q7 Z Z<|Q7 Z Z<|DD Z Z Z (Qa Z Z)<|DE Z Z Z<|Q7 Z Z<|Q7 Z Z<|Q7 Z Z<|Q7 Z Z<|Q7 Z Z<|Q7 Z Z ?_
 refine DD Z Z Z (Qa Z Z)<|DF Z Z Z<|Q3 ?_
 have e:=DB h1;subst e
 exact Qb false (DA (Nat.zero_le _) Z Z Z Z Z) h0
 intro v7 h0
 refine Q4<|QE ?_
 have e:=DB h0;subst e
 exact QJ (fun _ _ h=>h) Z (QB Z .nil) (.cons (.one (.d _)) .nil)
def Xx (a1:Lvl) (a0:Scp) (s1:Int):Option (LO Int (Unit⊕Int)) :=
 cond (decide (s1 < (a1.vs.length:Int)))
   (Option.bind (Jx a1.vs s1) fun (x5:LV) =>
 cond (decide (a0.params≤x5.1))
   (some (.done (.inr 15)))
   (some (.next (Ja (s1+1)))))
   (some (.done (.inl ())))
def GQ (a1:Lvl) (a0:Scp) (s1:Int):Option (LO Int (Unit⊕Int)) :=
 cond (decide (s1 < (a1.vs.length:Int)))
   (Option.bind (Jx a1.vs s1) fun (x6:LV) =>
 Option.bind (cond (decide (x6.1 < 0))
   (some (decide (a0.levels≤(Ja ((-1) - x6.1)))))
   (some false)) (fun (v7:Bool)=>cond v7
   (some (.done (.inr 23)))
   (some (.next (Ja (s1+1))))))
   (some (.done (.inl ())))
noncomputable abbrev m97_h0 (p0_:Scp) (p1_:Lvl) (p2_:LV):List (Nat×HB) :=
 [(0,.cells 127 (DZ p0_)),(1,.cells 87 (DZ p1_)),(2,.cells 124 (DZ p2_))]
def D7 (a0:Scp) (a1:Lvl):Option Int :=
 Option.bind (Uz a1) fun (x1:Bool) =>
 cond (!x1)
   (some 3)
   (Option.bind (Qq (Xx a1 a0) QI 0) (Sum.elim (fun (o3:Unit)=>Option.bind (Qq (GQ a1 a0) QI 0) (Sum.elim (fun (o4:Unit)=>some 0) (fun o=>some o))) (fun o=>some o)))
theorem m97_ok (a0:Scp) (a1:Lvl) (r:Int) (h0:D7 a0 a1=some r):Fun Try.prog 97 [.agg (DZ a0),.agg (DZ a1)] (QP [.one (DW r)]):=by
 unfold D7 at h0
 refine QS 9 44 Try.func97 Z en_97 Z (DM Z) (fun S w=>?_)
 simp only [Jb]
 refine Q6<|Q0<|Q9 Z Z (DM Z) (QV Z)<|Q9 Z Z (DM Z) (QV Z)<|DF Z Z Z<|Q3<|Q4<|Q6<|Q6<|Q0<|DD Z Z Z (QM (a1:Lvl) K3 Z Z) ?_
 refine Qd h0 (fun x1 hx1 h0=>?_)
 refine Q9 Z Z (DM Z) (Qo (m103_ok a1 x1 hx1) Z (.cons (.agg (.cons (.d _) (.cons (.d _) .nil))) .nil))<|DD Z Z Z (Jj Z)<|Q3<|Q4 ?_
 refine Qg (b:=(!x1)) Z (fun c2=>?_) (fun c2=>?_)
 replace h0:=Qi c2 h0
 refine Q6<|Q0<|DF Z Z Z<|Q3<|Q4<|QE ?_
 have e:=DB h0;subst e
 exact QJ (fun _ _ h=>h) Z (QB Z .nil) (.cons (.one (.d _)) .nil)
 replace h0:=Qj c2 h0
 refine Qn<|Q4<|Q6<|Q6<|Q0<|DD Z Z Z (Q2 Zd Z)<|DD Z Z Z (Q5 GM Z Z Z)<|DD Z Z Z (QD (α:=LV) Zo Z (.d _))<|DE Z Z Z<|Q3<|Q4<|Qh ?_
 refine J2 0 (fun (o3:Unit)=>⟨[(2,.v (.one (.ptr 0 0))),(3,.v (.one (.ptr 1 0)))],[(0,.cells 127 (DZ a0)),(1,.cells 87 (DZ a1))],[],2,44,[]⟩) (fun (o3:Unit)=>(Option.bind (Qq (GQ a1 a0) QI 0) (Sum.elim (fun (o4:Unit)=>some 0) (fun o=>some o)))=some r) ?_ ?_
 refine Qd h0 (fun o4 hl1 h0=>?_)
 refine J1 (Xx a1 a0) (fun s1=>⟨[(2,.v (.one (.ptr 0 0))),(3,.v (.one (.ptr 1 0))),(13,.v (.one (DU a1.vs))),(14,.v (.one (DW (a1.vs.length:Int)))),(15,.v (.one (DW s1)))],[(0,.cells 127 (DZ a0)),(1,.cells 87 (DZ a1))],[],2,44,[]⟩) 0 o4 (DA (Nat.zero_le _) Z Z Z Z Z) hl1 (fun s1 n1 oo1 h1 ho1=>?_)
 unfold Xx at h1
 refine Q6<|Q0<|DD Z Z Z (Q8 Z Z Z)<|Q3<|Q4<|Q6 ?_
 refine Qg (b:=(decide (s1 < (a1.vs.length:Int)))) Z (fun c5=>?_) (fun c5=>?_)
 replace h1:=Qi c5 h1
 refine Qn<|Q4<|Q6<|Qh<|Q6<|Q0 ?_
 refine Qd h1 (fun x6 hx6 h1=>?_)
 refine DD Z Z Z (Qy (α:=LV) Zo Z (.d _) Z hx6)<|DD Z Z Z (Qt (x6:LV) KF Z)<|Q9 Z Z (DM Z) (Ql z_124 Z)<|Qz Z Z (QC (x6:LV) KF Z Z Z Z Z)<|Q3<|Q4<|Q6<|Q0<|DD Z Z Z (Q2 KC Z)<|DD Z Z Z (Q5 QN Z Z Z)<|DD Z Z Z (Q2 fo_127_1 Z)<|DD Z Z Z (Q5 QN Z Z Z)<|DD Z Z Z (Q8 Z Z Z)<|Q3 ?_
 refine Q4 ?_
 refine Qg (b:=(decide (a0.params≤x6.1))) Z (fun c7=>?_) (fun c7=>?_)
 replace h1:=Qi c7 h1
 refine Q6<|Q0<|DF Z Z Z<|Q3<|Q4<|QE ?_
 have e:=DB h1;subst e
 have e_:_=_:=ho1
 subst e_
 try dsimp only [Sum.elim_inl,Sum.elim_inr] at h0
 have e:=DB h0;subst e
 exact QJ (fun _ _ h=>h) Z (QB Z .nil) (.cons (.one (.d _)) .nil)
 replace h1:=Qj c7 h1
 refine Qn<|Qf<|Q4<|Q0<|DD Z Z Z (Q8 Z Z Z)<|DE Z Z Z<|Q3 ?_
 have e:=DB h1;subst e
 refine QW (Ja (s1+1)) (DA (Nat.zero_le _) Z Z Z Z Z) ho1
 replace h1:=Qj c5 h1
 refine J8<|Qr<|Qr ?_
 have e:=DB h1;subst e
 have e_:_=_:=ho1
 subst e_
 exact J0 () (DA (Nat.zero_le _) Z Z Z Z Z) h0
 intro o3 h0
 refine QQ<|Q4<|Q6<|Q6<|Q0<|DD Z Z Z (Q2 Zd Z)<|DD Z Z Z (Q5 GM Z Z Z)<|DD Z Z Z (QD (α:=LV) Zo Z (.d _))<|DE Z Z Z<|Q3<|Q4<|Qh ?_
 refine J2 2 (fun (o8:Unit)=>⟨[],[(0,.cells 127 (DZ a0)),(1,.cells 87 (DZ a1))],[],2,44,[]⟩) (fun (o8:Unit)=>(some 0)=some r) ?_ ?_
 refine Qd h0 (fun o9 hl1 h0=>?_)
 refine J1 (GQ a1 a0) (fun s1=>⟨[(2,.v (.one (.ptr 0 0))),(26,.v (.one (DU a1.vs))),(27,.v (.one (DW (a1.vs.length:Int)))),(28,.v (.one (DW s1)))],[(0,.cells 127 (DZ a0)),(1,.cells 87 (DZ a1))],[],2,44,[]⟩) 0 o9 (DA (Nat.zero_le _) Z Z Z Z Z) hl1 (fun s1 n1 oo1 h1 ho1=>?_)
 unfold GQ at h1
 refine Q6<|Q0<|DD Z Z Z (Q8 Z Z Z)<|Q3<|Q4<|Q6 ?_
 refine Qg (b:=(decide (s1 < (a1.vs.length:Int)))) Z (fun c10=>?_) (fun c10=>?_)
 replace h1:=Qi c10 h1
 refine Qn<|Q4<|Q6<|Qh<|Q6<|Q0 ?_
 refine Qd h1 (fun x11 hx11 h1=>?_)
 refine DD Z Z Z (Qy (α:=LV) Zo Z (.d _) Z hx11)<|DD Z Z Z (Qt (x11:LV) KF Z)<|Q9 Z Z (DM Z) (Ql z_124 Z)<|Qz Z Z (QC (x11:LV) KF Z Z Z Z Z)<|Q3<|Q4<|Q6 ?_
 refine QO (fun (v12:Bool)=>⟨[(2,.v (.one (.ptr 0 0))),(26,.v (.one (DU a1.vs))),(27,.v (.one (DW (a1.vs.length:Int)))),(28,.v (.one (DW s1))),(42,.v (.one (DX v12)))],m97_h0 a0 a1 x11,[],3,44,[]⟩) (fun (v12:Bool)=>(cond v12
     (some (.done (.inr 23)))
     (some (.next (Ja (s1+1)))))=some oo1) ?_ ?_
 refine Qd h1 (fun w2_ h2 h1=>?_)
 refine Q0<|DD Z Z Z (Q2 KC Z)<|DD Z Z Z (Q5 QN Z Z Z)<|DD Z Z Z (Q8 Z Z Z)<|DE Z Z Z ?_
 refine QA (d:=35) (c:=(decide (x11.1 < 0))) Z (fun c13=>?_) (fun c13=>?_)
 replace h2:=Qi c13 h2
 refine DD Z Z Z (Q2 KC Z)<|DD Z Z Z (Q5 QN Z Z Z)<|DD Z Z Z (Q8 Z Z Z)<|DD Z Z Z (Q2 fo_127_3 Z)<|DD Z Z Z (Q5 QN Z Z Z)<|DD Z Z Z (Q8 Z Z Z)<|DD Z Z Z (Qe Z Z)<|Q3 ?_
 have e:=DB h2;subst e
 exact Qb (decide (a0.levels≤(Ja ((-1) - x11.1)))) (DA (Nat.zero_le _) Z Z Z Z Z) h1
 replace h2:=Qj c13 h2
 refine Q7 Z Z<|Q7 Z Z<|Q7 Z Z<|Q7 Z Z<|Q7 Z Z<|Q7 Z Z<|DD Z Z Z (Qa Z Z)<|Q3 ?_
 have e:=DB h2;subst e
 exact Qb false (DA (Nat.zero_le _) Z Z Z Z Z) h1
 intro v12 h1
 refine Q4 ?_
 refine Qg (b:=v12) Z (fun c14=>?_) (fun c14=>?_)
 replace h1:=Qi c14 h1
 refine Q6<|Q0<|DF Z Z Z<|Q3<|Q4<|QE ?_
 have e:=DB h1;subst e
 have e_:_=_:=ho1
 subst e_
 try dsimp only [Sum.elim_inl,Sum.elim_inr] at h0
 have e:=DB h0;subst e
 exact QJ (fun _ _ h=>h) Z (QB Z .nil) (.cons (.one (.d _)) .nil)
 replace h1:=Qj c14 h1
 refine Qn<|Qf<|Q4<|Q0<|DD Z Z Z (Q8 Z Z Z)<|DE Z Z Z<|Q3 ?_
 have e:=DB h1;subst e
 refine QW (Ja (s1+1)) (DA (Nat.zero_le _) Z Z Z Z Z) ho1
 replace h1:=Qj c10 h1
 refine J8<|Qr<|Qr ?_
 have e:=DB h1;subst e
 have e_:_=_:=ho1
 subst e_
 exact J0 () (DA (Nat.zero_le _) Z Z Z Z Z) h0
 intro o8 h0
 refine QQ<|Q4<|Q6<|Q0<|DF Z Z Z<|Q3<|Q4<|QE ?_
 have e:=DB h0;subst e
 exact QJ (fun _ _ h=>h) Z (QB Z .nil) (.cons (.one (.d _)) .nil)
def ZI (a1:Tm) (a0:Scp) (s1:Int):Option (LO Int (Unit⊕Int)) :=
 cond (decide (s1 < (a1.levels.length:Int)))
   (Option.bind (Jx a1.levels s1) fun (x9:Lvl) =>
 Option.bind (D7 a0 x9) fun (x10:Int) =>
 cond (x10 != 0)
   (some (.done (.inr x10)))
   (some (.next (Ja (s1+1)))))
   (some (.done (.inl ())))
def Kr (p0_:Tm) (p1_:Scp) (p2_:Int):Option Int :=
 Option.bind (cond (p0_.kind==0)
   (cond (decide (p0_.index < 0))
   (some true)
   (some (decide (p1_.vars≤(Ja (p0_.index - p2_))))))
   (some false)) (fun (b0_:Bool)=>cond b0_
   (some 24)
   (Option.bind (cond (p0_.kind==12)
   (cond (decide (p0_.index < 0))
   (some true)
   (some (decide (p1_.metas≤p0_.index))))
   (some false)) (fun (b1_:Bool)=>cond b1_
   (some 23)
   (some 0))))
def D8 (a0:Scp) (a1:Tm) (a2:Int):Option Int :=
 Option.bind (UZ a1) fun (x1:Bool) =>
 cond (!x1)
   (some 3)
   (cond (a1.kind==3)
   (Option.bind (Da a1.name) fun (x4:Bool) =>
 cond (!x4)
   (some 29)
   (cond (decide (8 < (a1.levels.length:Int)))
   (some 6)
   (Option.bind (Qq (ZI a1 a0) QI 0) (Sum.elim (fun (o7:Unit)=>Kr a1 a0 a2) (fun o=>some o)))))
   (Option.bind (Qq (ZI a1 a0) QI 0) (Sum.elim (fun (o21:Unit)=>Kr a1 a0 a2) (fun o=>some o))))
theorem m80_ok (a0:Scp) (a1:Tm) (a2:Int) (r:Int) (h0:D8 a0 a1 a2=some r):Fun Try.prog 80 [.agg (DZ a0),.agg (DZ a1),.one (DW a2)] (QP [.one (DW r)]):=by
 unfold D8 at h0
 refine QS 9 72 Try.func80 Z en_80 Z (DM Z) (fun S w=>?_)
 simp only [Jb]
 refine Q6<|Q0<|Q9 Z Z (DM Z) (QV Z)<|Q9 Z Z (DM Z) (QV Z)<|DF Z Z Z<|Q3<|Q4<|Q6<|Q6<|Q0<|DD Z Z Z (QM (a1:Tm) QX Z Z) ?_
 refine Qd h0 (fun x1 hx1 h0=>?_)
 refine Q9 Z Z (DM Z) (Qo (m96_ok a1 x1 hx1) Z (.cons (.agg (.cons (.d _) (.cons (.d _) (.cons (.d _) (.cons (.d _) (.cons (.d _) .nil)))))) .nil))<|DD Z Z Z (Jj Z)<|Q3<|Q4 ?_
 refine Qg (b:=(!x1)) Z (fun c2=>?_) (fun c2=>?_)
 replace h0:=Qi c2 h0
 refine Q6<|Q0<|DF Z Z Z<|Q3<|Q4<|QE ?_
 have e:=DB h0;subst e
 exact QJ (fun _ _ h=>h) Z (QB Z .nil) (.cons (.one (.d _)) .nil)
 replace h0:=Qj c2 h0
 refine Qn<|Q4<|Q6<|Q6<|Q0<|DD Z Z Z (Q2 Yr Z)<|DD Z Z Z (Q5 QN Z Z Z)<|DD Z Z Z (Q8 Z Z Z)<|Q3<|Q4 ?_
 refine Qg (b:=(a1.kind==3)) Z (fun c3=>?_) (fun c3=>?_)
 replace h0:=Qi c3 h0
 refine Q6<|Q6<|Q0<|DD Z Z Z (Q2 ZN Z)<|DD Z Z Z (Q5 JT Z Z Z) ?_
 refine Qd h0 (fun x4 hx4 h0=>?_)
 refine Q9 Z Z (DM Z) (Qo (m65_ok a1.name x4 hx4) Z (.cons (.one (.d _)) .nil))<|DD Z Z Z (Jj Z)<|Q3<|Q4 ?_
 refine Qg (b:=(!x4)) Z (fun c5=>?_) (fun c5=>?_)
 replace h0:=Qi c5 h0
 refine Q6<|Q0<|DF Z Z Z<|Q3<|Q4<|QE ?_
 have e:=DB h0;subst e
 exact QJ (fun _ _ h=>h) Z (QB Z .nil) (.cons (.one (.d _)) .nil)
 replace h0:=Qj c5 h0
 refine Qn<|Q4<|Q6<|Q0<|DD Z Z Z (Q2 Ze Z)<|DD Z Z Z (Q5 GN Z Z Z)<|DD Z Z Z (QD (α:=Lvl) Z8 Z (.d _))<|DD Z Z Z (Q8 Z Z Z)<|Q3<|Q4 ?_
 refine Qg (b:=(decide (8 < (a1.levels.length:Int)))) Z (fun c6=>?_) (fun c6=>?_)
 replace h0:=Qi c6 h0
 refine Q6<|Q0<|DF Z Z Z<|Q3<|Q4<|QE ?_
 have e:=DB h0;subst e
 exact QJ (fun _ _ h=>h) Z (QB Z .nil) (.cons (.one (.d _)) .nil)
 replace h0:=Qj c6 h0
 refine Qn<|Q4<|Q6<|Q6<|Q0<|DD Z Z Z (Q2 Ze Z)<|DD Z Z Z (Q5 GN Z Z Z)<|DD Z Z Z (QD (α:=Lvl) Z8 Z (.d _))<|DE Z Z Z<|Q3<|Q4<|Qh ?_
 refine J2 0 (fun (o7:Unit)=>⟨[(2,.v (.one (DW a2))),(3,.v (.one (.ptr 0 0))),(4,.v (.one (.ptr 1 0)))],[(0,.cells 127 (DZ a0)),(1,.cells 33 (DZ a1))],[],2,72,[]⟩) (fun (o7:Unit)=>(Kr a1 a0 a2)=some r) ?_ ?_
 refine Qd h0 (fun o8 hl1 h0=>?_)
 refine J1 (ZI a1 a0) (fun s1=>⟨[(2,.v (.one (DW a2))),(3,.v (.one (.ptr 0 0))),(4,.v (.one (.ptr 1 0))),(25,.v (.one (DU a1.levels))),(26,.v (.one (DW (a1.levels.length:Int)))),(27,.v (.one (DW s1)))],[(0,.cells 127 (DZ a0)),(1,.cells 33 (DZ a1))],[],2,72,[]⟩) 0 o8 (DA (Nat.zero_le _) Z Z Z Z Z) hl1 (fun s1 n1 oo1 h1 ho1=>?_)
 unfold ZI at h1
 refine Q6<|Q0<|DD Z Z Z (Q8 Z Z Z)<|Q3<|Q4<|Q6 ?_
 refine Qg (b:=(decide (s1 < (a1.levels.length:Int)))) Z (fun c9=>?_) (fun c9=>?_)
 replace h1:=Qi c9 h1
 refine Qn<|Q4<|Q6<|Qh<|Q6<|Q0 ?_
 refine Qd h1 (fun x10 hx10 h1=>?_)
 refine DD Z Z Z (Qy (α:=Lvl) Z8 Z (.d _) Z hx10)<|DD Z Z Z (Qt (x10:Lvl) K3 Z)<|Q9 Z Z (DM Z) (Ql UC Z)<|Qz Z Z (QC (x10:Lvl) K3 Z Z Z Z Z)<|Q3<|Q4<|Q6<|Q0<|DD Z Z Z (QM (a0:Scp) ag_127 Z Z)<|DD Z Z Z (QM (x10:Lvl) K3 Z Z) ?_
 refine Qd h1 (fun x11 hx11 h1=>?_)
 refine Q9 Z Z (DM Z) (Qo (m97_ok a0 x10 x11 hx11) Z (.cons (.agg (.cons (.d _) (.cons (.d _) (.cons (.d _) (.cons (.d _) .nil))))) (.cons (.agg (.cons (.d _) (.cons (.d _) .nil))) .nil)))<|DF Z Z Z<|Q3<|Q4<|Q6<|Q0<|DE Z Z Z<|DD Z Z Z (Q8 Z Z Z)<|Q3<|Q4 ?_
 refine Qg (b:=(x11 != 0)) Z (fun c12=>?_) (fun c12=>?_)
 replace h1:=Qi c12 h1
 refine Q6<|Q0<|DE Z Z Z<|DF Z Z Z<|Q3<|Q4<|QE ?_
 have e:=DB h1;subst e
 have e_:_=_:=ho1
 subst e_
 try dsimp only [Sum.elim_inl,Sum.elim_inr] at h0
 have e:=DB h0;subst e
 exact QJ (fun _ _ h=>h) Z (QB Z .nil) (.cons (.one (.d _)) .nil)
 replace h1:=Qj c12 h1
 refine Qn<|Qf<|Q4<|Q0<|DD Z Z Z (Q8 Z Z Z)<|DE Z Z Z<|Q3 ?_
 have e:=DB h1;subst e
 refine QW (Ja (s1+1)) (DA (Nat.zero_le _) Z Z Z Z Z) ho1
 replace h1:=Qj c9 h1
 refine J8<|Qr<|Qr ?_
 have e:=DB h1;subst e
 have e_:_=_:=ho1
 subst e_
 exact J0 () (DA (Nat.zero_le _) Z Z Z Z Z) h0
 intro o7 h0
 unfold Kr at h0
 refine QQ<|Q4<|Q6<|Qh<|Q6 ?_
 refine QO (fun (v13:Bool)=>⟨[(3,.v (.one (.ptr 0 0))),(4,.v (.one (.ptr 1 0))),(38,.v (.one (DX v13)))],[(0,.cells 127 (DZ a0)),(1,.cells 33 (DZ a1))],[],2,72,[]⟩) (fun (v13:Bool)=>(cond v13
     (some 24)
     (Option.bind (cond (a1.kind==12)
     (cond (decide (a1.index < 0))
     (some true)
     (some (decide (a0.metas≤a1.index))))
     (some false)) (fun (v15:Bool)=>cond v15
     (some 23)
     (some 0))))=some r) ?_ ?_
 refine Qd h0 (fun w1_ h1 h0=>?_)
 refine Q0<|DD Z Z Z (Q2 Yr Z)<|DD Z Z Z (Q5 QN Z Z Z)<|DD Z Z Z (Q8 Z Z Z)<|DE Z Z Z ?_
 refine QA (d:=42) (c:=(a1.kind==0)) Z (fun c14=>?_) (fun c14=>?_)
 replace h1:=Qi c14 h1
 refine DD Z Z Z (Q2 Z3 Z)<|DD Z Z Z (Q5 QN Z Z Z)<|DD Z Z Z (Q8 Z Z Z)<|DE Z Z Z ?_
 refine QA (d:=46) (c:=(decide (a1.index < 0))) Z (fun c15=>?_) (fun c15=>?_)
 replace h1:=Qi c15 h1
 refine Q7 Z Z<|Q7 Z Z<|Q7 Z Z<|Q7 Z Z<|Q7 Z Z<|Q7 Z Z<|Q7 Z Z<|DD Z Z Z (Qe Z Z)<|DD Z Z Z (Qe Z Z)<|DF Z Z Z<|Q3 ?_
 have e:=DB h1;subst e
 exact Qb true (DA (Nat.zero_le _) Z Z Z Z Z) h0
 replace h1:=Qj c15 h1
 refine DD Z Z Z (Q2 Z3 Z)<|DD Z Z Z (Q5 QN Z Z Z)<|DE Z Z Z<|DD Z Z Z (Q8 Z Z Z)<|DD Z Z Z (Q2 fo_127_0 Z)<|DD Z Z Z (Q5 QN Z Z Z)<|DD Z Z Z (Q8 Z Z Z)<|DD Z Z Z (Qa Z Z)<|DD Z Z Z (Qe Z Z)<|DF Z Z Z<|Q3 ?_
 have e:=DB h1;subst e
 exact Qb (decide (a0.vars≤(Ja (a1.index - a2)))) (DA (Nat.zero_le _) Z Z Z Z Z) h0
 replace h1:=Qj c14 h1
 refine Q7 Z Z<|Q7 Z Z<|Q7 Z Z<|Q7 Z Z<|Q7 Z Z<|Q7 Z Z<|Q7 Z Z<|Q7 Z Z<|Q7 Z Z<|Q7 Z Z<|Q7 Z Z<|Q7 Z Z<|DD Z Z Z (Qa Z Z)<|DF Z Z Z ?_
 refine Q3 ?_
 have e:=DB h1;subst e
 exact Qb false (DA (Nat.zero_le _) Z Z Z Z Z) h0
 intro v13 h0
 refine Q4 ?_
 refine Qg (b:=v13) Z (fun c16=>?_) (fun c16=>?_)
 replace h0:=Qi c16 h0
 refine Q6<|Q0<|DF Z Z Z<|Q3<|Q4<|QE ?_
 have e:=DB h0;subst e
 exact QJ (fun _ _ h=>h) Z (QB Z .nil) (.cons (.one (.d _)) .nil)
 replace h0:=Qj c16 h0
 refine Q6 ?_
 refine QO (fun (v17:Bool)=>⟨[(56,.v (.one (DX v17)))],[(0,.cells 127 (DZ a0)),(1,.cells 33 (DZ a1))],[],2,72,[]⟩) (fun (v17:Bool)=>(cond v17
     (some 23)
     (some 0))=some r) ?_ ?_
 refine Qd h0 (fun w1_ h1 h0=>?_)
 refine Q0<|DD Z Z Z (Q2 Yr Z)<|DD Z Z Z (Q5 QN Z Z Z)<|DD Z Z Z (Q8 Z Z Z)<|DE Z Z Z ?_
 refine QA (d:=60) (c:=(a1.kind==12)) Z (fun c18=>?_) (fun c18=>?_)
 replace h1:=Qi c18 h1
 refine DD Z Z Z (Q2 Z3 Z)<|DD Z Z Z (Q5 QN Z Z Z)<|DD Z Z Z (Q8 Z Z Z)<|DE Z Z Z ?_
 refine QA (d:=64) (c:=(decide (a1.index < 0))) Z (fun c19=>?_) (fun c19=>?_)
 replace h1:=Qi c19 h1
 refine Q7 Z Z<|Q7 Z Z<|Q7 Z Z<|Q7 Z Z<|Q7 Z Z<|DD Z Z Z (Qe Z Z)<|DD Z Z Z (Qe Z Z)<|DF Z Z Z<|Q3 ?_
 have e:=DB h1;subst e
 exact Qb true (DA (Nat.zero_le _) Z Z Z Z Z) h0
 replace h1:=Qj c19 h1
 refine DD Z Z Z (Q2 Z3 Z)<|DD Z Z Z (Q5 QN Z Z Z)<|DD Z Z Z (Q2 fo_127_2 Z)<|DD Z Z Z (Q5 QN Z Z Z)<|DD Z Z Z (Q8 Z Z Z)<|DD Z Z Z (Qa Z Z)<|DD Z Z Z (Qe Z Z)<|DF Z Z Z<|Q3 ?_
 have e:=DB h1;subst e
 exact Qb (decide (a0.metas≤a1.index)) (DA (Nat.zero_le _) Z Z Z Z Z) h0
 replace h1:=Qj c18 h1
 refine Q7 Z Z<|Q7 Z Z<|Q7 Z Z<|Q7 Z Z<|Q7 Z Z<|Q7 Z Z<|Q7 Z Z<|Q7 Z Z<|Q7 Z Z<|Q7 Z Z<|DD Z Z Z (Qa Z Z)<|DF Z Z Z<|Q3 ?_
 have e:=DB h1;subst e
 exact Qb false (DA (Nat.zero_le _) Z Z Z Z Z) h0
 intro v17 h0
 refine Q4 ?_
 refine Qg (b:=v17) Z (fun c20=>?_) (fun c20=>?_)
 replace h0:=Qi c20 h0
 refine Q6<|Q0<|DF Z Z Z<|Q3<|Q4<|QE ?_
 have e:=DB h0;subst e
 exact QJ (fun _ _ h=>h) Z (QB Z .nil) (.cons (.one (.d _)) .nil)
 replace h0:=Qj c20 h0
 refine Qn<|Qf<|Q4<|Q6<|Q0<|DF Z Z Z<|Q3<|Q4<|QE ?_
 have e:=DB h0;subst e
 exact QJ (fun _ _ h=>h) Z (QB Z .nil) (.cons (.one (.d _)) .nil)
 replace h0:=Qj c3 h0
 refine Qn<|Q4<|Q6<|Q6<|Q0<|DD Z Z Z (Q2 Ze Z)<|DD Z Z Z (Q5 GN Z Z Z)<|DD Z Z Z (QD (α:=Lvl) Z8 Z (.d _))<|DE Z Z Z<|Q3<|Q4<|Qh ?_
 refine J2 0 (fun (o21:Unit)=>⟨[(2,.v (.one (DW a2))),(3,.v (.one (.ptr 0 0))),(4,.v (.one (.ptr 1 0)))],[(0,.cells 127 (DZ a0)),(1,.cells 33 (DZ a1))],[],2,72,[]⟩) (fun (o21:Unit)=>(Kr a1 a0 a2)=some r) ?_ ?_
 refine Qd h0 (fun o22 hl1 h0=>?_)
 refine J1 (ZI a1 a0) (fun s1=>⟨[(2,.v (.one (DW a2))),(3,.v (.one (.ptr 0 0))),(4,.v (.one (.ptr 1 0))),(25,.v (.one (DU a1.levels))),(26,.v (.one (DW (a1.levels.length:Int)))),(27,.v (.one (DW s1)))],[(0,.cells 127 (DZ a0)),(1,.cells 33 (DZ a1))],[],2,72,[]⟩) 0 o22 (DA (Nat.zero_le _) Z Z Z Z Z) hl1 (fun s1 n1 oo1 h1 ho1=>?_)
 unfold ZI at h1
 refine Q6<|Q0<|DD Z Z Z (Q8 Z Z Z)<|Q3<|Q4<|Q6 ?_
 refine Qg (b:=(decide (s1 < (a1.levels.length:Int)))) Z (fun c23=>?_) (fun c23=>?_)
 replace h1:=Qi c23 h1
 refine Qn<|Q4<|Q6<|Qh<|Q6<|Q0 ?_
 refine Qd h1 (fun x24 hx24 h1=>?_)
 refine DD Z Z Z (Qy (α:=Lvl) Z8 Z (.d _) Z hx24)<|DD Z Z Z (Qt (x24:Lvl) K3 Z)<|Q9 Z Z (DM Z) (Ql UC Z)<|Qz Z Z (QC (x24:Lvl) K3 Z Z Z Z Z)<|Q3<|Q4<|Q6<|Q0<|DD Z Z Z (QM (a0:Scp) ag_127 Z Z)<|DD Z Z Z (QM (x24:Lvl) K3 Z Z) ?_
 refine Qd h1 (fun x25 hx25 h1=>?_)
 refine Q9 Z Z (DM Z) (Qo (m97_ok a0 x24 x25 hx25) Z (.cons (.agg (.cons (.d _) (.cons (.d _) (.cons (.d _) (.cons (.d _) .nil))))) (.cons (.agg (.cons (.d _) (.cons (.d _) .nil))) .nil)))<|DF Z Z Z<|Q3<|Q4<|Q6<|Q0<|DE Z Z Z<|DD Z Z Z (Q8 Z Z Z)<|Q3<|Q4 ?_
 refine Qg (b:=(x25 != 0)) Z (fun c26=>?_) (fun c26=>?_)
 replace h1:=Qi c26 h1
 refine Q6<|Q0<|DE Z Z Z<|DF Z Z Z<|Q3<|Q4<|QE ?_
 have e:=DB h1;subst e
 have e_:_=_:=ho1
 subst e_
 try dsimp only [Sum.elim_inl,Sum.elim_inr] at h0
 have e:=DB h0;subst e
 exact QJ (fun _ _ h=>h) Z (QB Z .nil) (.cons (.one (.d _)) .nil)
 replace h1:=Qj c26 h1
 refine Qn<|Qf<|Q4<|Q0<|DD Z Z Z (Q8 Z Z Z)<|DE Z Z Z<|Q3 ?_
 have e:=DB h1;subst e
 refine QW (Ja (s1+1)) (DA (Nat.zero_le _) Z Z Z Z Z) ho1
 replace h1:=Qj c23 h1
 refine J8<|Qr<|Qr ?_
 have e:=DB h1;subst e
 have e_:_=_:=ho1
 subst e_
 exact J0 () (DA (Nat.zero_le _) Z Z Z Z Z) h0
 intro o21 h0
 unfold Kr at h0
 refine QQ<|Q4<|Q6<|Qh<|Q6 ?_
 refine QO (fun (v27:Bool)=>⟨[(3,.v (.one (.ptr 0 0))),(4,.v (.one (.ptr 1 0))),(38,.v (.one (DX v27)))],[(0,.cells 127 (DZ a0)),(1,.cells 33 (DZ a1))],[],2,72,[]⟩) (fun (v27:Bool)=>(cond v27
     (some 24)
     (Option.bind (cond (a1.kind==12)
     (cond (decide (a1.index < 0))
     (some true)
     (some (decide (a0.metas≤a1.index))))
     (some false)) (fun (v29:Bool)=>cond v29
     (some 23)
     (some 0))))=some r) ?_ ?_
 refine Qd h0 (fun w1_ h1 h0=>?_)
 refine Q0<|DD Z Z Z (Q2 Yr Z)<|DD Z Z Z (Q5 QN Z Z Z)<|DD Z Z Z (Q8 Z Z Z)<|DE Z Z Z ?_
 refine QA (d:=42) (c:=(a1.kind==0)) Z (fun c28=>?_) (fun c28=>?_)
 replace h1:=Qi c28 h1
 refine DD Z Z Z (Q2 Z3 Z)<|DD Z Z Z (Q5 QN Z Z Z)<|DD Z Z Z (Q8 Z Z Z)<|DE Z Z Z ?_
 refine QA (d:=46) (c:=(decide (a1.index < 0))) Z (fun c29=>?_) (fun c29=>?_)
 replace h1:=Qi c29 h1
 refine Q7 Z Z<|Q7 Z Z<|Q7 Z Z<|Q7 Z Z<|Q7 Z Z<|Q7 Z Z<|Q7 Z Z<|DD Z Z Z (Qe Z Z)<|DD Z Z Z (Qe Z Z)<|DF Z Z Z<|Q3 ?_
 have e:=DB h1;subst e
 exact Qb true (DA (Nat.zero_le _) Z Z Z Z Z) h0
 replace h1:=Qj c29 h1
 refine DD Z Z Z (Q2 Z3 Z)<|DD Z Z Z (Q5 QN Z Z Z)<|DE Z Z Z<|DD Z Z Z (Q8 Z Z Z)<|DD Z Z Z (Q2 fo_127_0 Z)<|DD Z Z Z (Q5 QN Z Z Z)<|DD Z Z Z (Q8 Z Z Z)<|DD Z Z Z (Qa Z Z)<|DD Z Z Z (Qe Z Z)<|DF Z Z Z<|Q3 ?_
 have e:=DB h1;subst e
 exact Qb (decide (a0.vars≤(Ja (a1.index - a2)))) (DA (Nat.zero_le _) Z Z Z Z Z) h0
 replace h1:=Qj c28 h1
 refine Q7 Z Z<|Q7 Z Z<|Q7 Z Z<|Q7 Z Z<|Q7 Z Z<|Q7 Z Z<|Q7 Z Z<|Q7 Z Z<|Q7 Z Z<|Q7 Z Z<|Q7 Z Z<|Q7 Z Z<|DD Z Z Z (Qa Z Z)<|DF Z Z Z ?_
 refine Q3 ?_
 have e:=DB h1;subst e
 exact Qb false (DA (Nat.zero_le _) Z Z Z Z Z) h0
 intro v27 h0
 refine Q4 ?_
 refine Qg (b:=v27) Z (fun c30=>?_) (fun c30=>?_)
 replace h0:=Qi c30 h0
 refine Q6<|Q0<|DF Z Z Z<|Q3<|Q4<|QE ?_
 have e:=DB h0;subst e
 exact QJ (fun _ _ h=>h) Z (QB Z .nil) (.cons (.one (.d _)) .nil)
 replace h0:=Qj c30 h0
 refine Q6 ?_
 refine QO (fun (v31:Bool)=>⟨[(56,.v (.one (DX v31)))],[(0,.cells 127 (DZ a0)),(1,.cells 33 (DZ a1))],[],2,72,[]⟩) (fun (v31:Bool)=>(cond v31
     (some 23)
     (some 0))=some r) ?_ ?_
 refine Qd h0 (fun w1_ h1 h0=>?_)
 refine Q0<|DD Z Z Z (Q2 Yr Z)<|DD Z Z Z (Q5 QN Z Z Z)<|DD Z Z Z (Q8 Z Z Z)<|DE Z Z Z ?_
 refine QA (d:=60) (c:=(a1.kind==12)) Z (fun c32=>?_) (fun c32=>?_)
 replace h1:=Qi c32 h1
 refine DD Z Z Z (Q2 Z3 Z)<|DD Z Z Z (Q5 QN Z Z Z)<|DD Z Z Z (Q8 Z Z Z)<|DE Z Z Z ?_
 refine QA (d:=64) (c:=(decide (a1.index < 0))) Z (fun c33=>?_) (fun c33=>?_)
 replace h1:=Qi c33 h1
 refine Q7 Z Z<|Q7 Z Z<|Q7 Z Z<|Q7 Z Z<|Q7 Z Z<|DD Z Z Z (Qe Z Z)<|DD Z Z Z (Qe Z Z)<|DF Z Z Z<|Q3 ?_
 have e:=DB h1;subst e
 exact Qb true (DA (Nat.zero_le _) Z Z Z Z Z) h0
 replace h1:=Qj c33 h1
 refine DD Z Z Z (Q2 Z3 Z)<|DD Z Z Z (Q5 QN Z Z Z)<|DD Z Z Z (Q2 fo_127_2 Z)<|DD Z Z Z (Q5 QN Z Z Z)<|DD Z Z Z (Q8 Z Z Z)<|DD Z Z Z (Qa Z Z)<|DD Z Z Z (Qe Z Z)<|DF Z Z Z<|Q3 ?_
 have e:=DB h1;subst e
 exact Qb (decide (a0.metas≤a1.index)) (DA (Nat.zero_le _) Z Z Z Z Z) h0
 replace h1:=Qj c32 h1
 refine Q7 Z Z<|Q7 Z Z<|Q7 Z Z<|Q7 Z Z<|Q7 Z Z<|Q7 Z Z<|Q7 Z Z<|Q7 Z Z<|Q7 Z Z<|Q7 Z Z<|DD Z Z Z (Qa Z Z)<|DF Z Z Z<|Q3 ?_
 have e:=DB h1;subst e
 exact Qb false (DA (Nat.zero_le _) Z Z Z Z Z) h0
 intro v31 h0
 refine Q4 ?_
 refine Qg (b:=v31) Z (fun c34=>?_) (fun c34=>?_)
 replace h0:=Qi c34 h0
 refine Q6<|Q0<|DF Z Z Z<|Q3<|Q4<|QE ?_
 have e:=DB h0;subst e
 exact QJ (fun _ _ h=>h) Z (QB Z .nil) (.cons (.one (.d _)) .nil)
 replace h0:=Qj c34 h0
 refine Qn<|Qf<|Q4<|Q6<|Q0<|DF Z Z Z<|Q3<|Q4<|QE ?_
 have e:=DB h0;subst e
 exact QJ (fun _ _ h=>h) Z (QB Z .nil) (.cons (.one (.d _)) .nil)
end Go.Proofs.Ytafddfoefeploaa
namespace Go.Proofs.Ytafddfoefeploaa
open Go.RowKit Go.Shelf
theorem z_127:Jy Try.prog 127=some [.int .i64 0,.int .i64 0,.int .i64 0,.int .i64 0]:=by kernel_rfl
theorem bd_127:Y6 Try.prog 127 [(0,1),(1,1),(2,1),(3,1)] [.int .i64 0,.int .i64 0,.int .i64 0,.int .i64 0]:=⟨by kernel_rfl,by kernel_rfl⟩
theorem en_66:J4 Try.prog 66:=enters_of Try.func66 (by kernel_rfl) rfl
noncomputable def Zq:Code:=(cA (cA (cB (cA (cB (cB (cB (GK Try.f66))))))))
noncomputable def YY:Code:=(cB (cA (cB (cA (cB (cB (cB (GK Try.f66))))))))
def m91f3_k0 (p0_:Tm×Int×Tm×Int×Scp×Int×Tm→Option ((Int×Int)⊕(Bool×Int))) (p1_:Tm) (p2_:Int) (p3_:Tm) (p4_:Int) (p5_:Scp) (p6_:Int×Int) (p7_:Tm):Option (LO (Int×Int) (Int⊕((Int×Int)⊕(Bool×Int)))) :=
 Option.bind (p0_ (p1_,p2_,p3_,p4_,p5_,p6_.2,p7_)) (Sum.elim (fun (b0_:Int×Int)=>some (.done (.inr (.inl (b0_.1,b0_.2))))) (fun (b1_:Bool×Int)=>cond (!b1_.1)
   (some (.done (.inr (.inr (false,b1_.2)))))
   (some (.next ((Ja (p6_.1+1)),b1_.2)))))
def ZO (a0:Tm) (v9:Int) (a1:Int) (rc:Tm×Int×Tm×Int×Scp×Int×Tm→Option ((Int×Int)⊕(Bool×Int))) (a2:Tm) (a3:Int) (a4:Scp) (a6:Tm) (s1:Int×Int):Option (LO (Int×Int) (Int⊕((Int×Int)⊕(Bool×Int)))) :=
 cond (decide (s1.1 < (a0.kids.length:Int)))
   (Option.bind (Jx a0.kids s1.1) fun (x12:Tm) =>
 Option.bind (cond (s1.1==v9)
   (some (Ja (a1+1)))
   (some a1)) (fun (v13:Int)=>m91f3_k0 rc x12 v13 a2 a3 a4 s1 a6))
   (some (.done (.inl s1.2)))
def G9 (p0_:Bool) (p1_:Tm) (p2_:Int) (p3_:Tm×Int×Tm×Int×Scp×Int×Tm→Option ((Int×Int)⊕(Bool×Int))) (p4_:Tm) (p5_:Int) (p6_:Scp) (p7_:Tm) (p8_:Int):Option ((Int×Int)⊕(Bool×Int)) :=
 Option.bind (cond p0_
   (Jh (cond (decide (0≤p1_.kind)) (Nat.blt p1_.kind.toNat 13) false)
 (Option.bind (Jx ([(-1),(-1),(-1),(-1),(-1),1,1,1,(-1),(-1),(-1),2,(-1)]:List Int) p1_.kind) fun (b0_:Int) =>
 some b0_))
   (some (-1))) (fun (b1_:Int)=>Option.bind (Qq (ZO p1_ b1_ p2_ p3_ p4_ p5_ p6_ p7_) QI (0,(Ja (p8_+1)))) (Sum.elim (fun (b2_:Int)=>some (.inr (true,b2_))) (fun o=>some o)))
noncomputable abbrev JA :HB :=
 .loop .ready none [(5,.v (.one (.ptr 3 0))),(10,.v (.one (.ptr 4 0))),(11,.v (.one (.ptr 5 0))),(12,.v (.one (.ptr 6 0))),(26,.v (.one (.fn 89 [(7,0)])))] 45 #[27,28] Zq YY 2
noncomputable abbrev QY :HB :=
 .cells 135 [DX true,DX false,DW 0,DW 0,DW (-1),DX false,DX false,DW 0,DW 0,DW (-1),DX false,DX false,DW 1,DW 0,DW (-1),DX false,DX true,DW (-1),DW 0,DW (-1),DX false,DX false,DW 0,DW 2,DW (-1),DX false,DX false,DW 0,DW 2,DW 1,DX false,DX false,DW 0,DW 2,DW 1,DX false,DX false,DW 0,DW 2,DW 1,DX false,DX false,DW 0,DW 3,DW (-1),DX false,DX false,DW 0,DW 1,DW (-1),DX false,DX false,DW 0,DW 1,DW (-1),DX false,DX false,DW 0,DW 3,DW 2,DX true,DX false,DW 0,DW 0,DW (-1)]
noncomputable abbrev m91f3_h2 (p0_:Tm) (p1_:Int) (p2_:Scp) (p3_:Int) (p4_:Tm) (p5_:Tm):List (Nat×HB) :=
 [(0,.cells 132 [.yld 1]),(1,JA),(2,.obj (.deferred (some []))),(3,.cells 33 (DZ p0_)),(4,.cells 25 [DW p1_]),(5,.cells 127 (DZ p2_)),(6,.cells 3 [DW p3_]),(7,.cells 33 (DZ p4_)),(8,QY),(9,.cells 137 [.fn 91 [(0,0),(8,0),(9,0)]]),(10,.cells 33 (DZ p5_))]
noncomputable abbrev Ga :HB :=
 .loop .busy none [(5,.v (.one (.ptr 3 0))),(10,.v (.one (.ptr 4 0))),(11,.v (.one (.ptr 5 0))),(12,.v (.one (.ptr 6 0))),(26,.v (.one (.fn 89 [(7,0)])))] 45 #[27,28] Zq YY 2
noncomputable abbrev m91f3_h4 (p0_:Tm) (p1_:Int) (p2_:Scp) (p3_:Int) (p4_:Tm) (p5_:Tm):List (Nat×HB) :=
 [(0,.cells 132 [.yld 1]),(1,Ga),(2,.obj (.deferred (some []))),(3,.cells 33 (DZ p0_)),(4,.cells 25 [DW p1_]),(5,.cells 127 (DZ p2_)),(6,.cells 3 [DW p3_]),(7,.cells 33 (DZ p4_)),(8,QY),(9,.cells 137 [.fn 91 [(0,0),(8,0),(9,0)]]),(10,.cells 33 (DZ p5_)),(11,.cells 33 (DZ p5_))]
noncomputable abbrev m91f3_h5 (p0_:Tm) (p1_:Int) (p2_:Scp) (p3_:Int) (p4_:Tm) (p5_:Tm):List (Nat×HB) :=
 [(0,.cells 132 [.yld 1]),(1,JA),(2,.obj (.deferred (some []))),(3,.cells 33 (DZ p0_)),(4,.cells 25 [DW p1_]),(5,.cells 127 (DZ p2_)),(6,.cells 3 [DW p3_]),(7,.cells 33 (DZ p4_)),(8,QY),(9,.cells 137 [.fn 91 [(0,0),(8,0),(9,0)]]),(10,.cells 33 (DZ p5_)),(11,.cells 33 (DZ p5_))]
noncomputable abbrev m91f3_h6 (p0_:Tm) (p1_:Int) (p2_:Scp) (p3_:Int) (p4_:Tm) (p5_:Tm):List (Nat×HB) :=
 [(0,.cells 132 [.yld 1]),(1,Ga),(2,.obj (.deferred (some []))),(3,.cells 33 (DZ p0_)),(4,.cells 25 [DW p1_]),(5,.cells 127 (DZ p2_)),(6,.cells 3 [DW p3_]),(7,.cells 33 (DZ p4_)),(8,QY),(9,.cells 137 [.fn 91 [(0,0),(8,0),(9,0)]]),(10,.cells 33 (DZ p5_))]
noncomputable abbrev m91f3_h7 (p0_:Tm) (p1_:Int) (p2_:Scp) (p3_:Int×Int) (p4_:Tm) (p5_:Tm) (p6_:Tm):List (Nat×HB) :=
 [(0,.cells 132 [.yld 1]),(1,JA),(2,.obj (.deferred (some []))),(3,.cells 33 (DZ p0_)),(4,.cells 25 [DW p1_]),(5,.cells 127 (DZ p2_)),(6,.cells 3 [DW p3_.2]),(7,.cells 33 (DZ p4_)),(8,QY),(9,.cells 137 [.fn 91 [(0,0),(8,0),(9,0)]]),(10,.cells 33 (DZ p5_)),(12,.cells 33 (DZ p6_))]
noncomputable abbrev JX :HB :=
 .loop .done (some .ret) [(5,.v (.one (.ptr 3 0))),(10,.v (.one (.ptr 4 0))),(11,.v (.one (.ptr 5 0))),(12,.v (.one (.ptr 6 0))),(26,.v (.one (.fn 89 [(7,0)])))] 45 #[27,28] Zq YY 2
noncomputable abbrev m91f3_h9 (p0_:Tm) (p1_:Int×Int) (p2_:Scp) (p3_:Tm):List (Nat×HB) :=
 [(0,.cells 132 [.yld 1]),(1,JX),(2,.obj (.deferred (some []))),(3,.cells 33 (DZ p0_)),(4,.cells 25 [DW p1_.1]),(5,.cells 127 (DZ p2_)),(6,.cells 3 [DW p1_.2]),(7,.cells 33 (DZ p3_)),(8,QY),(9,.cells 137 [.fn 91 [(0,0),(8,0),(9,0)]])]
noncomputable abbrev m91f3_h10 (p0_:Tm) (p1_:Int) (p2_:Scp) (p3_:Bool×Int) (p4_:Tm):List (Nat×HB) :=
 [(0,.cells 132 [.yld 1]),(1,JA),(2,.obj (.deferred (some []))),(3,.cells 33 (DZ p0_)),(4,.cells 25 [DW p1_]),(5,.cells 127 (DZ p2_)),(6,.cells 3 [DW p3_.2]),(7,.cells 33 (DZ p4_)),(8,QY),(9,.cells 137 [.fn 91 [(0,0),(8,0),(9,0)]])]
noncomputable abbrev Kc (p0_:Tm) (p1_:Int) (p2_:Scp) (p3_:Int) (p4_:Tm):List (Nat×HB) :=
 [(0,.cells 132 [.yld 1]),(1,JA),(2,.obj (.deferred (some []))),(3,.cells 33 (DZ p0_)),(4,.cells 25 [DW p1_]),(5,.cells 127 (DZ p2_)),(6,.cells 3 [DW p3_]),(7,.cells 33 (DZ p4_)),(8,QY),(9,.cells 137 [.fn 91 [(0,0),(8,0),(9,0)]])]
noncomputable abbrev m91f3_h12 (p0_:Tm) (p1_:Int) (p2_:Scp) (p3_:Int) (p4_:Tm):List (Nat×HB) :=
 [(0,.cells 132 [.yld 1]),(1,JX),(2,.obj (.deferred (some []))),(3,.cells 33 (DZ p0_)),(4,.cells 25 [DW p1_]),(5,.cells 127 (DZ p2_)),(6,.cells 3 [DW p3_]),(7,.cells 33 (DZ p4_)),(8,QY),(9,.cells 137 [.fn 91 [(0,0),(8,0),(9,0)]])]
def W9 (rc:Tm×Int×Tm×Int×Scp×Int×Tm→Option ((Int×Int)⊕(Bool×Int))) (a0:Tm) (a1:Int) (a2:Tm) (a3:Int) (a4:Scp) (a5:Int) (a6:Tm):Option ((Int×Int)⊕(Bool×Int)) :=
 Option.bind (Option.bind (D8 a4 a0 a1) fun (x6:Int) =>
 cond (x6 != 0)
   (some (.inr x6))
   (some (.inl ()))) (Sum.elim (fun (y1:Unit)=>Option.bind (cond (decide (0≤a0.kind))
   (some (decide (a0.kind < 13)))
   (some false)) (fun (v8:Bool)=>G9 v8 a0 a1 rc a2 a3 a4 a6 a5)) (fun (y2:Int)=>some (.inl (y2,a5))))
def Kq (rc:Tm×Int×Tm×Int×Scp×Int×Tm→Option ((Int×Int)⊕(Bool×Int))) (u:Tm×Int×Tm×Int×Scp×Int×Tm):Option ((Int×Int)⊕(Bool×Int)):=W9 rc u.1 u.2.1 u.2.2.1 u.2.2.2.1 u.2.2.2.2.1 u.2.2.2.2.2.1 u.2.2.2.2.2.2
def m91f3 (a0:Tm) (a1:Int) (a2:Tm) (a3:Int) (a4:Scp) (a5:Int) (a6:Tm):Option ((Int×Int)⊕(Bool×Int)):=JE Kq QI (a0,a1,a2,a3,a4,a5,a6)
theorem m91f3s_ok (rc:Tm×Int×Tm×Int×Scp×Int×Tm→Option ((Int×Int)⊕(Bool×Int))) (H:∀ (a0:Tm) (a1:Int) (a2:Tm) (a3:Int) (a4:Scp) (a5:Int) (a6:Tm) (r:(Int×Int)⊕(Bool×Int)),rc (a0,a1,a2,a3,a4,a5,a6)=some r→CallE Try.prog 91 [.agg (DZ a0),.one (DW a1),.one (.ptr 0 0),.one (.ptr 8 0),.one (.ptr 9 0)] ⟨Kc a2 a3 a4 a5 a6,[],10⟩ ((Sum.elim (fun (r0:Int×Int)=>((.ret [.one (DX false)]):EK)) (fun (r1:Bool×Int)=>((.ret [.one (DX r1.1)]):EK))) r) ⟨((Sum.elim (fun (r0:Int×Int)=>(⟨[(7,.v (.one (DX false)))],[(0,.cells 132 [.yld 1]),(1,JX),(2,.obj (.deferred (some []))),(3,.cells 33 (DZ a2)),(4,.cells 25 [DW r0.1]),(5,.cells 127 (DZ a4)),(6,.cells 3 [DW r0.2]),(7,.cells 33 (DZ a6)),(8,QY),(9,.cells 137 [.fn 91 [(0,0),(8,0),(9,0)]])],[],12,50,[]⟩:St)) (fun (r1:Bool×Int)=>(⟨[(7,.v (.one (DX r1.1)))],[(0,.cells 132 [.yld 1]),(1,JA),(2,.obj (.deferred (some []))),(3,.cells 33 (DZ a2)),(4,.cells 25 [DW a3]),(5,.cells 127 (DZ a4)),(6,.cells 3 [DW r1.2]),(7,.cells 33 (DZ a6)),(8,QY),(9,.cells 137 [.fn 91 [(0,0),(8,0),(9,0)]])],[],12,50,[]⟩:St))) r).hp,((Sum.elim (fun (r0:Int×Int)=>(⟨[(7,.v (.one (DX false)))],[(0,.cells 132 [.yld 1]),(1,JX),(2,.obj (.deferred (some []))),(3,.cells 33 (DZ a2)),(4,.cells 25 [DW r0.1]),(5,.cells 127 (DZ a4)),(6,.cells 3 [DW r0.2]),(7,.cells 33 (DZ a6)),(8,QY),(9,.cells 137 [.fn 91 [(0,0),(8,0),(9,0)]])],[],12,50,[]⟩:St)) (fun (r1:Bool×Int)=>(⟨[(7,.v (.one (DX r1.1)))],[(0,.cells 132 [.yld 1]),(1,JA),(2,.obj (.deferred (some []))),(3,.cells 33 (DZ a2)),(4,.cells 25 [DW a3]),(5,.cells 127 (DZ a4)),(6,.cells 3 [DW r1.2]),(7,.cells 33 (DZ a6)),(8,QY),(9,.cells 137 [.fn 91 [(0,0),(8,0),(9,0)]])],[],12,50,[]⟩:St))) r).tk,((Sum.elim (fun (r0:Int×Int)=>(⟨[(7,.v (.one (DX false)))],[(0,.cells 132 [.yld 1]),(1,JX),(2,.obj (.deferred (some []))),(3,.cells 33 (DZ a2)),(4,.cells 25 [DW r0.1]),(5,.cells 127 (DZ a4)),(6,.cells 3 [DW r0.2]),(7,.cells 33 (DZ a6)),(8,QY),(9,.cells 137 [.fn 91 [(0,0),(8,0),(9,0)]])],[],12,50,[]⟩:St)) (fun (r1:Bool×Int)=>(⟨[(7,.v (.one (DX r1.1)))],[(0,.cells 132 [.yld 1]),(1,JA),(2,.obj (.deferred (some []))),(3,.cells 33 (DZ a2)),(4,.cells 25 [DW a3]),(5,.cells 127 (DZ a4)),(6,.cells 3 [DW r1.2]),(7,.cells 33 (DZ a6)),(8,QY),(9,.cells 137 [.fn 91 [(0,0),(8,0),(9,0)]])],[],12,50,[]⟩:St))) r).nx⟩) (a0:Tm) (a1:Int) (a2:Tm) (a3:Int) (a4:Scp) (a5:Int) (a6:Tm) (r:(Int×Int)⊕(Bool×Int)) (h0:W9 rc a0 a1 a2 a3 a4 a5 a6=some r):CallE Try.prog 91 [.agg (DZ a0),.one (DW a1),.one (.ptr 0 0),.one (.ptr 8 0),.one (.ptr 9 0)] ⟨Kc a2 a3 a4 a5 a6,[],10⟩ ((Sum.elim (fun (r0:Int×Int)=>((.ret [.one (DX false)]):EK)) (fun (r1:Bool×Int)=>((.ret [.one (DX r1.1)]):EK))) r) ⟨((Sum.elim (fun (r0:Int×Int)=>(⟨[(7,.v (.one (DX false)))],[(0,.cells 132 [.yld 1]),(1,JX),(2,.obj (.deferred (some []))),(3,.cells 33 (DZ a2)),(4,.cells 25 [DW r0.1]),(5,.cells 127 (DZ a4)),(6,.cells 3 [DW r0.2]),(7,.cells 33 (DZ a6)),(8,QY),(9,.cells 137 [.fn 91 [(0,0),(8,0),(9,0)]])],[],12,50,[]⟩:St)) (fun (r1:Bool×Int)=>(⟨[(7,.v (.one (DX r1.1)))],[(0,.cells 132 [.yld 1]),(1,JA),(2,.obj (.deferred (some []))),(3,.cells 33 (DZ a2)),(4,.cells 25 [DW a3]),(5,.cells 127 (DZ a4)),(6,.cells 3 [DW r1.2]),(7,.cells 33 (DZ a6)),(8,QY),(9,.cells 137 [.fn 91 [(0,0),(8,0),(9,0)]])],[],12,50,[]⟩:St))) r).hp,((Sum.elim (fun (r0:Int×Int)=>(⟨[(7,.v (.one (DX false)))],[(0,.cells 132 [.yld 1]),(1,JX),(2,.obj (.deferred (some []))),(3,.cells 33 (DZ a2)),(4,.cells 25 [DW r0.1]),(5,.cells 127 (DZ a4)),(6,.cells 3 [DW r0.2]),(7,.cells 33 (DZ a6)),(8,QY),(9,.cells 137 [.fn 91 [(0,0),(8,0),(9,0)]])],[],12,50,[]⟩:St)) (fun (r1:Bool×Int)=>(⟨[(7,.v (.one (DX r1.1)))],[(0,.cells 132 [.yld 1]),(1,JA),(2,.obj (.deferred (some []))),(3,.cells 33 (DZ a2)),(4,.cells 25 [DW a3]),(5,.cells 127 (DZ a4)),(6,.cells 3 [DW r1.2]),(7,.cells 33 (DZ a6)),(8,QY),(9,.cells 137 [.fn 91 [(0,0),(8,0),(9,0)]])],[],12,50,[]⟩:St))) r).tk,((Sum.elim (fun (r0:Int×Int)=>(⟨[(7,.v (.one (DX false)))],[(0,.cells 132 [.yld 1]),(1,JX),(2,.obj (.deferred (some []))),(3,.cells 33 (DZ a2)),(4,.cells 25 [DW r0.1]),(5,.cells 127 (DZ a4)),(6,.cells 3 [DW r0.2]),(7,.cells 33 (DZ a6)),(8,QY),(9,.cells 137 [.fn 91 [(0,0),(8,0),(9,0)]])],[],12,50,[]⟩:St)) (fun (r1:Bool×Int)=>(⟨[(7,.v (.one (DX r1.1)))],[(0,.cells 132 [.yld 1]),(1,JA),(2,.obj (.deferred (some []))),(3,.cells 33 (DZ a2)),(4,.cells 25 [DW a3]),(5,.cells 127 (DZ a4)),(6,.cells 3 [DW r1.2]),(7,.cells 33 (DZ a6)),(8,QY),(9,.cells 137 [.fn 91 [(0,0),(8,0),(9,0)]])],[],12,50,[]⟩:St))) r).nx⟩:=by
 unfold W9 at h0
 refine JG r ((Sum.elim (fun (r0:Int×Int)=>(⟨[(7,.v (.one (DX false)))],[(0,.cells 132 [.yld 1]),(1,JX),(2,.obj (.deferred (some []))),(3,.cells 33 (DZ a2)),(4,.cells 25 [DW r0.1]),(5,.cells 127 (DZ a4)),(6,.cells 3 [DW r0.2]),(7,.cells 33 (DZ a6)),(8,QY),(9,.cells 137 [.fn 91 [(0,0),(8,0),(9,0)]])],[],12,50,[]⟩:St)) (fun (r1:Bool×Int)=>(⟨[(7,.v (.one (DX r1.1)))],[(0,.cells 132 [.yld 1]),(1,JA),(2,.obj (.deferred (some []))),(3,.cells 33 (DZ a2)),(4,.cells 25 [DW a3]),(5,.cells 127 (DZ a4)),(6,.cells 3 [DW r1.2]),(7,.cells 33 (DZ a6)),(8,QY),(9,.cells 137 [.fn 91 [(0,0),(8,0),(9,0)]])],[],12,50,[]⟩:St)))) ((Sum.elim (fun (r0:Int×Int)=>((.ret [.one (DX false)]):EK)) (fun (r1:Bool×Int)=>((.ret [.one (DX r1.1)]):EK)))) rfl rfl en_91 (DM rfl) (fun z_=>by cases z_ with
 | inl _=>exact rfl
 | inr _=>exact rfl) (fun z_=>by cases z_ with
 | inl _=>exact (Uu (QB rfl .nil))
 | inr _=>exact (Uu (QB rfl .nil))) (fun w0 M V0 Q hv0 hQ0=>?_)
 simp only [Jb]
 refine Q6<|Q0<|Q9 Z Z (DM Z) (QV Z)<|DF Z Z Z<|Q3<|Q4<|Q6<|Q6<|Q0<|DD Z Z Z (Q5 ag_132 Z Z Z)<|DE Z Z Z<|DD Z Z Z (QM (a0:Tm) QX Z Z) ?_
 refine Qd h0 (fun y3 h1 h0=>?_)
 have ha4:ExecOK Try.prog (some 1) Zq ⟨[(5,.v (.one (.ptr 3 0))),(10,.v (.one (.ptr 4 0))),(11,.v (.one (.ptr 5 0))),(12,.v (.one (.ptr 6 0))),(26,.v (.one (.fn 89 [(7,0)]))),(27,.v (.one (DW a1))),(28,.v (.agg (DZ a0)))],m91f3_h2 a2 a3 a4 a5 a6 a0,[],11,45,[]⟩ .normal ⟨[(10,.v (.one (.ptr 4 0))),(11,.v (.one (.ptr 5 0))),(12,.v (.one (.ptr 6 0))),(13,.v (.one (DW a1))),(14,.v (.one (.ptr 11 0)))],m91f3_h5 a2 a3 a4 a5 a6 a0,[],12,45,[]⟩:=by
  refine QK (fun w0 M V0 ro n Q hv1 hro1 hQn1=>?_)
  refine Q6<|Q0<|DF Z Z Z<|Q3<|Q4<|Q0<|Q9 Z Z (DM Z) (Ql G4 Z)<|Qz Z Z (QC (a0:Tm) QX Z Z Z Z Z)<|Q3 ?_
  exact Jw hQn1 (DA (Nat.le_trans hv1 (DM Z)) Z Z Z Z Z)
 have hb5:ExecOK Try.prog (some 1) YY ⟨[(10,.v (.one (.ptr 4 0))),(11,.v (.one (.ptr 5 0))),(12,.v (.one (.ptr 6 0))),(13,.v (.one (DW a1))),(14,.v (.one (.ptr 11 0)))],m91f3_h4 a2 a3 a4 a5 a6 a0,[],12,45,[]⟩ ((Sum.elim (fun (_:Unit)=>(.normal:Exit)) (fun (_:Int)=>(.ret:Exit))) y3) ((Sum.elim (fun (y1:Unit)=>(⟨[],[(0,.cells 132 [.yld 1]),(1,Ga),(2,.obj (.deferred (some []))),(3,.cells 33 (DZ a2)),(4,.cells 25 [DW a3]),(5,.cells 127 (DZ a4)),(6,.cells 3 [DW (Ja (a5+1))]),(7,.cells 33 (DZ a6)),(8,QY),(9,.cells 137 [.fn 91 [(0,0),(8,0),(9,0)]]),(10,.cells 33 (DZ a0))],[],12,45,[]⟩:St)) (fun (y2:Int)=>(⟨[],m91f3_h6 a2 y2 a4 a5 a6 a0,[],12,45,[]⟩:St))) y3):=by
  refine QK (fun w0 M V0 ro n Q hv1 hro1 hQn1=>?_)
  refine Qh<|Q6<|Q6<|Q0<|DD Z Z Z (QM (a4:Scp) ag_127 Z Z)<|DD Z Z Z (QM (a0:Tm) QX Z Z)<|DE Z Z Z ?_
  refine Qd h1 (fun x6 hx6 h1=>?_)
  refine Q9 Z Z (DM Z) (Qo (m80_ok a4 a0 a1 x6 hx6) Z (.cons (.agg (.cons (.d _) (.cons (.d _) (.cons (.d _) (.cons (.d _) .nil))))) (.cons (.agg (.cons (.d _) (.cons (.d _) (.cons (.d _) (.cons (.d _) (.cons (.d _) .nil)))))) (.cons (.one (.d _)) .nil))))<|DF Z Z Z<|Q3<|Q4<|Q6<|Q0<|DE Z Z Z<|DD Z Z Z (Q8 Z Z Z)<|Q3<|Q4 ?_
  refine Qg (b:=(x6 != 0)) Z (fun c7=>?_) (fun c7=>?_)
  replace h1:=Qi c7 h1
  refine Q6<|Q0<|DE Z Z Z<|Qz Z Z (Qv ZE Z Z Z Z (DM Z) Z)<|Q3<|Q4<|QE ?_
  have e:=DB h1;subst e
  exact Jw (e:=.ret) (st':=⟨[],m91f3_h6 a2 x6 a4 a5 a6 a0,[],12,45,[]⟩) hQn1 (DA (Nat.le_trans hv1 (DM Z)) Z Z Z Z Z)
  replace h1:=Qj c7 h1
  refine Qn<|Q4<|Q0<|DD Z Z Z (Q5 QN Z Z Z)<|DD Z Z Z (Q8 Z Z Z)<|Qz Z Z (Qv QN Z Z Z Z (DM Z) Z)<|Q3<|Qf ?_
  have e:=DB h1;subst e
  exact Jw (e:=.normal) (st':=⟨[],[(0,.cells 132 [.yld 1]),(1,Ga),(2,.obj (.deferred (some []))),(3,.cells 33 (DZ a2)),(4,.cells 25 [DW a3]),(5,.cells 127 (DZ a4)),(6,.cells 3 [DW (Ja (a5+1))]),(7,.cells 33 (DZ a6)),(8,QY),(9,.cells 137 [.fn 91 [(0,0),(8,0),(9,0)]]),(10,.cells 33 (DZ a0))],[],12,45,[]⟩) hQn1 (DA (Nat.le_trans hv1 (DM Z)) Z Z Z Z Z)
 refine W7 (C:=fun q_=>ExecOK Try.prog (some 1) YY ⟨[(10,.v (.one (.ptr 4 0))),(11,.v (.one (.ptr 5 0))),(12,.v (.one (.ptr 6 0))),(13,.v (.one (DW a1))),(14,.v (.one (.ptr 11 0)))],m91f3_h4 a2 a3 a4 a5 a6 a0,[],12,45,[]⟩ ((Sum.elim (fun (_:Unit)=>(.normal:Exit)) (fun (_:Int)=>(.ret:Exit))) q_) ((Sum.elim (fun (y1:Unit)=>(⟨[],[(0,.cells 132 [.yld 1]),(1,Ga),(2,.obj (.deferred (some []))),(3,.cells 33 (DZ a2)),(4,.cells 25 [DW a3]),(5,.cells 127 (DZ a4)),(6,.cells 3 [DW (Ja (a5+1))]),(7,.cells 33 (DZ a6)),(8,QY),(9,.cells 137 [.fn 91 [(0,0),(8,0),(9,0)]]),(10,.cells 33 (DZ a0))],[],12,45,[]⟩:St)) (fun (y2:Int)=>(⟨[],m91f3_h6 a2 y2 a4 a5 a6 a0,[],12,45,[]⟩:St))) q_)) hb5 h0 (fun y1 hb5 h0=>?_) (fun y2 hb5 h0=>?_)
 replace hb5:ExecOK Try.prog (some 1) YY ⟨[(10,.v (.one (.ptr 4 0))),(11,.v (.one (.ptr 5 0))),(12,.v (.one (.ptr 6 0))),(13,.v (.one (DW a1))),(14,.v (.one (.ptr 11 0)))],m91f3_h4 a2 a3 a4 a5 a6 a0,[],12,45,[]⟩ .normal ⟨[],[(0,.cells 132 [.yld 1]),(1,Ga),(2,.obj (.deferred (some []))),(3,.cells 33 (DZ a2)),(4,.cells 25 [DW a3]),(5,.cells 127 (DZ a4)),(6,.cells 3 [DW (Ja (a5+1))]),(7,.cells 33 (DZ a6)),(8,QY),(9,.cells 137 [.fn 91 [(0,0),(8,0),(9,0)]]),(10,.cells 33 (DZ a0))],[],12,45,[]⟩:=hb5
 refine Q9 Z Z (DM Z) (Jd (jump:=none) Z Z Z Z Z (Qw ha4 (fun E hv=>(DA (Nat.le_trans hv (DM Z)) Z Z Z Z Z))) Z (Qw hb5 (fun E hv=>(DA (Nat.le_trans hv (DM Z)) Z Z Z Z Z))) Z Z) ?_
 refine DD Z Z Z (Jj Z)<|Q3<|Q4 ?_
 refine Qg Z (fun h=>nomatch h) (fun _=>?_)
 refine Qn<|Q4<|Q6<|Q0<|DF Z Z Z<|Q3<|Q4<|Q6<|Q6 ?_
 refine QO (fun (v8:Bool)=>⟨[(1,.v (.one (DW a1))),(3,.v (.one (.ptr 8 0))),(4,.v (.one (.ptr 9 0))),(5,.v (.one (.ptr 10 0))),(8,.v (.one (DW (-1)))),(24,.v (.one (DX v8)))],[(0,.cells 132 [.yld 1]),(1,JA),(2,.obj (.deferred (some []))),(3,.cells 33 (DZ a2)),(4,.cells 25 [DW a3]),(5,.cells 127 (DZ a4)),(6,.cells 3 [DW (Ja (a5+1))]),(7,.cells 33 (DZ a6)),(8,QY),(9,.cells 137 [.fn 91 [(0,0),(8,0),(9,0)]]),(10,.cells 33 (DZ a0))],[],12,50,[]⟩) (fun (v8:Bool)=>(G9 v8 a0 a1 rc a2 a3 a4 a6 a5)=some r) ?_ ?_
 refine Qd h0 (fun w1_ h1 h0=>?_)
 refine Q0<|DD Z Z Z (Q2 Yr Z)<|DD Z Z Z (Q5 QN Z Z Z)<|DD Z Z Z (Q8 Z Z Z)<|DE Z Z Z ?_
 refine QA (d:=20) (c:=(decide (0≤a0.kind))) Z (fun c9=>?_) (fun c9=>?_)
 replace h1:=Qi c9 h1
 refine DD Z Z Z (Q2 Yr Z)<|DD Z Z Z (Q5 QN Z Z Z)<|DD Z Z Z (Q8 Z Z Z)<|DD Z Z Z (Qe Z Z)<|Q3 ?_
 have e:=DB h1;subst e
 exact Qb (decide (a0.kind < 13)) (DA (Nat.le_trans hv0 (DM Z)) Z Z Z Z Z) h0
 replace h1:=Qj c9 h1
 refine Q7 Z Z<|Q7 Z Z<|Q7 Z Z<|DD Z Z Z (Qa Z Z)<|Q3 ?_
 have e:=DB h1;subst e
 exact Qb false (DA (Nat.le_trans hv0 (DM Z)) Z Z Z Z Z) h0
 intro v8 h0
 unfold G9 at h0
 refine Q4 ?_
 refine QO (fun (v10:Int)=>⟨[(1,.v (.one (DW a1))),(4,.v (.one (.ptr 9 0))),(5,.v (.one (.ptr 10 0))),(8,.v (.one (DW v10)))],[(0,.cells 132 [.yld 1]),(1,JA),(2,.obj (.deferred (some []))),(3,.cells 33 (DZ a2)),(4,.cells 25 [DW a3]),(5,.cells 127 (DZ a4)),(6,.cells 3 [DW (Ja (a5+1))]),(7,.cells 33 (DZ a6)),(8,QY),(9,.cells 137 [.fn 91 [(0,0),(8,0),(9,0)]]),(10,.cells 33 (DZ a0))],[],12,50,[]⟩) (fun (v10:Int)=>(Option.bind (Qq (ZO a0 v10 a1 rc a2 a3 a4 a6) QI (0,(Ja (a5+1)))) (Sum.elim (fun (o11:Int)=>some (.inr (true,o11))) (fun o=>some o)))=some r) ?_ ?_
 refine Qd h0 (fun w1_ h1 h0=>?_)
 refine Qg (b:=v8) Z (fun c11=>?_) (fun c11=>?_)
 replace h1:=Qi c11 h1
 refine Q0<|DD Z Z Z (Q2 Yr Z)<|DD Z Z Z (Q5 QN Z Z Z) ?_
 refine YI h1 (fun g12 h1=>?_)
 refine DD Z Z Z (RO.indexA arr_135 Z Z g12)<|DD Z Z Z (Q2 fo_134_4 Z) ?_
 refine Qd h1 (fun x13 hx13 h1=>?_)
 refine DD Z Z Z (RO.loadCol (m:=a0.kind) (sz:=5) (f:=4) (col:=([(-1),(-1),(-1),(-1),(-1),1,1,1,(-1),(-1),(-1),2,(-1)]:List Int)) QN Z Z Z hx13)<|DF Z Z Z<|Q3 ?_
 have e:=DB h1;subst e
 exact Qb x13 (DA (Nat.le_trans hv0 (DM Z)) Z Z Z Z Z) h0
 replace h1:=Qj c11 h1
 refine Qn ?_
 have e:=DB h1;subst e
 exact Qb (-1) (DA (Nat.le_trans hv0 (DM Z)) Z Z Z Z Z) h0
 intro v10 h0
 refine Q4<|Q6<|Q6<|Q0<|DD Z Z Z (Q2 JJ Z)<|DD Z Z Z (Q5 Yj Z Z Z)<|DD Z Z Z (QD (α:=Tm) JC Z (.d _))<|DE Z Z Z<|Q3<|Q4<|Qh ?_
 refine J2 0 (fun (o14:Int)=>⟨[],[(0,.cells 132 [.yld 1]),(1,JA),(2,.obj (.deferred (some []))),(3,.cells 33 (DZ a2)),(4,.cells 25 [DW a3]),(5,.cells 127 (DZ a4)),(6,.cells 3 [DW o14]),(7,.cells 33 (DZ a6)),(8,QY),(9,.cells 137 [.fn 91 [(0,0),(8,0),(9,0)]]),(10,.cells 33 (DZ a0))],[],12,50,[]⟩) (fun (o14:Int)=>(some (.inr (true,o14)))=some r) ?_ ?_
 refine Qd h0 (fun o15 hl1 h0=>?_)
 refine J1 (ZO a0 v10 a1 rc a2 a3 a4 a6) (fun s1=>⟨[(1,.v (.one (DW a1))),(4,.v (.one (.ptr 9 0))),(8,.v (.one (DW v10))),(31,.v (.one (DU a0.kids))),(32,.v (.one (DW (a0.kids.length:Int)))),(33,.v (.one (DW s1.1)))],[(0,.cells 132 [.yld 1]),(1,JA),(2,.obj (.deferred (some []))),(3,.cells 33 (DZ a2)),(4,.cells 25 [DW a3]),(5,.cells 127 (DZ a4)),(6,.cells 3 [DW s1.2]),(7,.cells 33 (DZ a6)),(8,QY),(9,.cells 137 [.fn 91 [(0,0),(8,0),(9,0)]]),(10,.cells 33 (DZ a0))],[],12,50,[]⟩) (0,(Ja (a5+1))) o15 (DA (Nat.le_trans hv0 (DM Z)) Z Z Z Z Z) hl1 (fun s1 n1 oo1 h1 ho1=>?_)
 unfold ZO at h1
 refine Q6<|Q0<|DD Z Z Z (Q8 Z Z Z)<|Q3<|Q4<|Q6 ?_
 refine Qg (b:=(decide (s1.1 < (a0.kids.length:Int)))) Z (fun c16=>?_) (fun c16=>?_)
 replace h1:=Qi c16 h1
 refine Qn<|Q4<|Q6<|Qh<|Q6<|Q0<|DE Z Z Z ?_
 refine Qd h1 (fun x17 hx17 h1=>?_)
 refine DD Z Z Z (Qy (α:=Tm) JC Z (.d _) Z hx17)<|DD Z Z Z (Qt (x17:Tm) QX Z)<|Q9 Z Z (DM Z) (Ql G4 Z)<|DF Z Z Z<|Qz Z Z (QC (x17:Tm) QX Z Z Z Z Z)<|Q3<|Q4<|Q6<|Q0<|DE Z Z Z<|DF Z Z Z<|Q3<|Q4<|Q6 ?_
 refine Q6<|Q0<|DE Z Z Z<|DE Z Z Z<|DD Z Z Z (Q8 Z Z Z)<|Q3<|Q4 ?_
 refine QO (fun (v18:Int)=>⟨[(1,.v (.one (DW a1))),(4,.v (.one (.ptr 9 0))),(8,.v (.one (DW v10))),(10,.v (.one (.ptr 12 0))),(11,.v (.one (DW v18))),(31,.v (.one (DU a0.kids))),(32,.v (.one (DW (a0.kids.length:Int)))),(33,.v (.one (DW s1.1)))],m91f3_h7 a2 a3 a4 s1 a6 a0 x17,[],13,50,[]⟩) (fun (v18:Int)=>(m91f3_k0 rc x17 v18 a2 a3 a4 s1 a6)=some oo1) ?_ ?_
 refine Qd h1 (fun w2_ h2 h1=>?_)
 refine Qg (b:=(s1.1==v10)) Z (fun c19=>?_) (fun c19=>?_)
 replace h2:=Qi c19 h2
 refine Q0<|DE Z Z Z<|DD Z Z Z (Q8 Z Z Z)<|DF Z Z Z<|Q3 ?_
 have e:=DB h2;subst e
 exact Qb (Ja (a1+1)) (DA (Nat.le_trans hv0 (DM Z)) Z Z Z Z Z) h1
 replace h2:=Qj c19 h2
 refine Qn ?_
 have e:=DB h2;subst e
 exact Qb a1 (DA (Nat.le_trans hv0 (DM Z)) Z Z Z Z Z) h1
 intro v18 h1
 unfold m91f3_k0 at h1
 refine Q4<|Q6<|Q0<|DD Z Z Z (Q5 ag_137 Z Z Z)<|DD Z Z Z (QM (x17:Tm) QX Z Z)<|DE Z Z Z ?_
 refine Qd h1 (fun x20 hx20 h1=>?_)
 refine JL id hx20 h1 (fun x21 hx21 h1=>?_) (fun x22 hx22 h1=>?_)
 refine Q9 Z Z (DM Z) (Jp (hp1':=[(0,.cells 132 [.yld 1]),(1,.loop .done (some .ret) [(5,.v (.one (.ptr 3 0))),(10,.v (.one (.ptr 4 0))),(11,.v (.one (.ptr 5 0))),(12,.v (.one (.ptr 6 0))),(26,.v (.one (.fn 89 [(7,0)])))] 45 #[27,28] Zq YY 2),(2,.obj (.deferred (some []))),(3,.cells 33 (DZ a2)),(4,.cells 25 [DW x21.1]),(5,.cells 127 (DZ a4)),(6,.cells 3 [DW x21.2]),(7,.cells 33 (DZ a6)),(8,.cells 135 [DX true,DX false,DW 0,DW 0,DW (-1),DX false,DX false,DW 0,DW 0,DW (-1),DX false,DX false,DW 1,DW 0,DW (-1),DX false,DX true,DW (-1),DW 0,DW (-1),DX false,DX false,DW 0,DW 2,DW (-1),DX false,DX false,DW 0,DW 2,DW 1,DX false,DX false,DW 0,DW 2,DW 1,DX false,DX false,DW 0,DW 2,DW 1,DX false,DX false,DW 0,DW 3,DW (-1),DX false,DX false,DW 0,DW 1,DW (-1),DX false,DX false,DW 0,DW 1,DW (-1),DX false,DX false,DW 0,DW 3,DW 2,DX true,DX false,DW 0,DW 0,DW (-1)]),(9,.cells 137 [.fn 91 [(0,0),(8,0),(9,0)]])]) (tk1':=[]) (hpF:=[(10,.cells 33 (DZ a0)),(12,.cells 33 (DZ x17))]) (tkF:=[]) (res2:=QP [.one (DX false)]) (nx2:=15) [0,1,2,3,4,5,6,7,8,9] Z Z (CallE.m (H x17 v18 a2 a3 a4 s1.2 a6 (.inl x21) hx21)) Z Z (DI Z Z (DI Z Z (DI Z Z (DI Z Z (DI Z Z (DI Z Z (DI Z Z (DI Z Z (DI Z Z (DI Z Z DG)))))))))) Z Z (DS Z (DS Z (DS Z (DS Z (DS Z (DS Z (DS Z (DS Z (DS Z (DS Z DR)))))))))) DP (hA Z) DN Z Z Z Z Z (bA Z) Z Z Z Z)<|DD Z Z Z (Jj Z)<|Q3<|Q4 ?_
 refine Qg Z (fun _=>?_) (fun h=>nomatch h)
 refine Q6<|Q0<|DF Z Z Z<|Q3<|Q4<|QE ?_
 have e:=DB h1;subst e
 have e_:_=_:=ho1
 subst e_
 try dsimp only [Sum.elim_inl,Sum.elim_inr] at h0
 have e:=DB h0;subst e
 exact hQ0 _ _ UV Z (show StLe _ _ ⟨[(7,.v (.one (DX false)))],m91f3_h9 a2 x21 a4 a6,[],12,50,[]⟩ from (DA (Nat.le_trans hv0 (DM Z)) Z Z Z Z Z))
 refine Q9 Z Z (DM Z) (Jp (hp1':=[(0,.cells 132 [.yld 1]),(1,.loop .ready none [(5,.v (.one (.ptr 3 0))),(10,.v (.one (.ptr 4 0))),(11,.v (.one (.ptr 5 0))),(12,.v (.one (.ptr 6 0))),(26,.v (.one (.fn 89 [(7,0)])))] 45 #[27,28] Zq YY 2),(2,.obj (.deferred (some []))),(3,.cells 33 (DZ a2)),(4,.cells 25 [DW a3]),(5,.cells 127 (DZ a4)),(6,.cells 3 [DW x22.2]),(7,.cells 33 (DZ a6)),(8,.cells 135 [DX true,DX false,DW 0,DW 0,DW (-1),DX false,DX false,DW 0,DW 0,DW (-1),DX false,DX false,DW 1,DW 0,DW (-1),DX false,DX true,DW (-1),DW 0,DW (-1),DX false,DX false,DW 0,DW 2,DW (-1),DX false,DX false,DW 0,DW 2,DW 1,DX false,DX false,DW 0,DW 2,DW 1,DX false,DX false,DW 0,DW 2,DW 1,DX false,DX false,DW 0,DW 3,DW (-1),DX false,DX false,DW 0,DW 1,DW (-1),DX false,DX false,DW 0,DW 1,DW (-1),DX false,DX false,DW 0,DW 3,DW 2,DX true,DX false,DW 0,DW 0,DW (-1)]),(9,.cells 137 [.fn 91 [(0,0),(8,0),(9,0)]])]) (tk1':=[]) (hpF:=[(10,.cells 33 (DZ a0)),(12,.cells 33 (DZ x17))]) (tkF:=[]) (res2:=QP [.one (DX x22.1)]) (nx2:=15) [0,1,2,3,4,5,6,7,8,9] Z Z (CallE.m (H x17 v18 a2 a3 a4 s1.2 a6 (.inr x22) hx22)) Z Z (DI Z Z (DI Z Z (DI Z Z (DI Z Z (DI Z Z (DI Z Z (DI Z Z (DI Z Z (DI Z Z (DI Z Z DG)))))))))) Z Z (DS Z (DS Z (DS Z (DS Z (DS Z (DS Z (DS Z (DS Z (DS Z (DS Z DR)))))))))) DP (hA Z) DN Z Z Z Z Z (bA Z) Z Z Z Z)<|DD Z Z Z (Jj Z)<|Q3<|Q4 ?_
 refine Qg (b:=(!x22.1)) Z (fun c23=>?_) (fun c23=>?_)
 replace h1:=Qi c23 h1
 refine Q6<|Q0<|DF Z Z Z<|Q3<|Q4<|QE ?_
 have e:=DB h1;subst e
 have e_:_=_:=ho1
 subst e_
 try dsimp only [Sum.elim_inl,Sum.elim_inr] at h0
 have e:=DB h0;subst e
 exact hQ0 _ _ UV Z (show StLe _ _ ⟨[(7,.v (.one (DX false)))],m91f3_h10 a2 a3 a4 x22 a6,[],12,50,[]⟩ from (DA (Nat.le_trans hv0 (DM Z)) Z Z Z Z Z))
 replace h1:=Qj c23 h1
 refine Qn<|Qf<|Q4<|Q0<|DD Z Z Z (Q8 Z Z Z)<|DE Z Z Z<|Q3 ?_
 have e:=DB h1;subst e
 refine QW ((Ja (s1.1+1)),x22.2) (DA (Nat.le_trans hv0 (DM Z)) Z Z Z Z Z) ho1
 replace h1:=Qj c16 h1
 refine J8<|Qr<|Qr ?_
 have e:=DB h1;subst e
 have e_:_=_:=ho1
 subst e_
 exact J0 s1.2 (DA (Nat.le_trans hv0 (DM Z)) Z Z Z Z Z) h0
 intro o14 h0
 refine QQ<|Q4<|Q6<|Q0<|DF Z Z Z<|Q3<|Q4<|QE ?_
 have e:=DB h0;subst e
 exact hQ0 _ _ UV Z (show StLe _ _ ⟨[(7,.v (.one (DX true)))],Kc a2 a3 a4 o14 a6,[],12,50,[]⟩ from (DA (Nat.le_trans hv0 (DM Z)) Z Z Z Z Z))
 replace hb5:ExecOK Try.prog (some 1) YY ⟨[(10,.v (.one (.ptr 4 0))),(11,.v (.one (.ptr 5 0))),(12,.v (.one (.ptr 6 0))),(13,.v (.one (DW a1))),(14,.v (.one (.ptr 11 0)))],m91f3_h4 a2 a3 a4 a5 a6 a0,[],12,45,[]⟩ .ret ⟨[],m91f3_h6 a2 y2 a4 a5 a6 a0,[],12,45,[]⟩:=hb5
 refine Q9 Z Z (DM Z) (Jd (jump:=(some .ret)) Z Z Z Z Z (Qw ha4 (fun E hv=>(DA (Nat.le_trans hv (DM Z)) Z Z Z Z Z))) Z (Qw hb5 (fun E hv=>(DA (Nat.le_trans hv (DM Z)) Z Z Z Z Z))) Z Z) ?_
 refine DD Z Z Z (Jj Z)<|Q3<|Q4 ?_
 refine Qg Z (fun _=>?_) (fun h=>nomatch h)
 refine Q6<|Q0<|DF Z Z Z<|Q3<|Q4<|QE ?_
 have e:=DB h0;subst e
 exact hQ0 _ _ UV Z (show StLe _ _ ⟨[(7,.v (.one (DX false)))],m91f3_h12 a2 y2 a4 a5 a6,[],12,50,[]⟩ from (DA (Nat.le_trans hv0 (DM Z)) Z Z Z Z Z))
theorem m91f3_all (n:Nat) (u:Tm×Int×Tm×Int×Scp×Int×Tm) (r:(Int×Int)⊕(Bool×Int)) (h0:JE Kq n u=some r):CallE Try.prog 91 [.agg (DZ u.1),.one (DW u.2.1),.one (.ptr 0 0),.one (.ptr 8 0),.one (.ptr 9 0)] ⟨Kc u.2.2.1 u.2.2.2.1 u.2.2.2.2.1 u.2.2.2.2.2.1 u.2.2.2.2.2.2,[],10⟩ ((Sum.elim (fun (r0:Int×Int)=>((.ret [.one (DX false)]):EK)) (fun (r1:Bool×Int)=>((.ret [.one (DX r1.1)]):EK))) r) ⟨((Sum.elim (fun (r0:Int×Int)=>(⟨[(7,.v (.one (DX false)))],[(0,.cells 132 [.yld 1]),(1,JX),(2,.obj (.deferred (some []))),(3,.cells 33 (DZ u.2.2.1)),(4,.cells 25 [DW r0.1]),(5,.cells 127 (DZ u.2.2.2.2.1)),(6,.cells 3 [DW r0.2]),(7,.cells 33 (DZ u.2.2.2.2.2.2)),(8,QY),(9,.cells 137 [.fn 91 [(0,0),(8,0),(9,0)]])],[],12,50,[]⟩:St)) (fun (r1:Bool×Int)=>(⟨[(7,.v (.one (DX r1.1)))],[(0,.cells 132 [.yld 1]),(1,JA),(2,.obj (.deferred (some []))),(3,.cells 33 (DZ u.2.2.1)),(4,.cells 25 [DW u.2.2.2.1]),(5,.cells 127 (DZ u.2.2.2.2.1)),(6,.cells 3 [DW r1.2]),(7,.cells 33 (DZ u.2.2.2.2.2.2)),(8,QY),(9,.cells 137 [.fn 91 [(0,0),(8,0),(9,0)]])],[],12,50,[]⟩:St))) r).hp,((Sum.elim (fun (r0:Int×Int)=>(⟨[(7,.v (.one (DX false)))],[(0,.cells 132 [.yld 1]),(1,JX),(2,.obj (.deferred (some []))),(3,.cells 33 (DZ u.2.2.1)),(4,.cells 25 [DW r0.1]),(5,.cells 127 (DZ u.2.2.2.2.1)),(6,.cells 3 [DW r0.2]),(7,.cells 33 (DZ u.2.2.2.2.2.2)),(8,QY),(9,.cells 137 [.fn 91 [(0,0),(8,0),(9,0)]])],[],12,50,[]⟩:St)) (fun (r1:Bool×Int)=>(⟨[(7,.v (.one (DX r1.1)))],[(0,.cells 132 [.yld 1]),(1,JA),(2,.obj (.deferred (some []))),(3,.cells 33 (DZ u.2.2.1)),(4,.cells 25 [DW u.2.2.2.1]),(5,.cells 127 (DZ u.2.2.2.2.1)),(6,.cells 3 [DW r1.2]),(7,.cells 33 (DZ u.2.2.2.2.2.2)),(8,QY),(9,.cells 137 [.fn 91 [(0,0),(8,0),(9,0)]])],[],12,50,[]⟩:St))) r).tk,((Sum.elim (fun (r0:Int×Int)=>(⟨[(7,.v (.one (DX false)))],[(0,.cells 132 [.yld 1]),(1,JX),(2,.obj (.deferred (some []))),(3,.cells 33 (DZ u.2.2.1)),(4,.cells 25 [DW r0.1]),(5,.cells 127 (DZ u.2.2.2.2.1)),(6,.cells 3 [DW r0.2]),(7,.cells 33 (DZ u.2.2.2.2.2.2)),(8,QY),(9,.cells 137 [.fn 91 [(0,0),(8,0),(9,0)]])],[],12,50,[]⟩:St)) (fun (r1:Bool×Int)=>(⟨[(7,.v (.one (DX r1.1)))],[(0,.cells 132 [.yld 1]),(1,JA),(2,.obj (.deferred (some []))),(3,.cells 33 (DZ u.2.2.1)),(4,.cells 25 [DW u.2.2.2.1]),(5,.cells 127 (DZ u.2.2.2.2.1)),(6,.cells 3 [DW r1.2]),(7,.cells 33 (DZ u.2.2.2.2.2.2)),(8,QY),(9,.cells 137 [.fn 91 [(0,0),(8,0),(9,0)]])],[],12,50,[]⟩:St))) r).nx⟩ :=
 Z9 (C:=fun u r=>CallE Try.prog 91 [.agg (DZ u.1),.one (DW u.2.1),.one (.ptr 0 0),.one (.ptr 8 0),.one (.ptr 9 0)] ⟨Kc u.2.2.1 u.2.2.2.1 u.2.2.2.2.1 u.2.2.2.2.2.1 u.2.2.2.2.2.2,[],10⟩ ((Sum.elim (fun (r0:Int×Int)=>((.ret [.one (DX false)]):EK)) (fun (r1:Bool×Int)=>((.ret [.one (DX r1.1)]):EK))) r) ⟨((Sum.elim (fun (r0:Int×Int)=>(⟨[(7,.v (.one (DX false)))],[(0,.cells 132 [.yld 1]),(1,JX),(2,.obj (.deferred (some []))),(3,.cells 33 (DZ u.2.2.1)),(4,.cells 25 [DW r0.1]),(5,.cells 127 (DZ u.2.2.2.2.1)),(6,.cells 3 [DW r0.2]),(7,.cells 33 (DZ u.2.2.2.2.2.2)),(8,QY),(9,.cells 137 [.fn 91 [(0,0),(8,0),(9,0)]])],[],12,50,[]⟩:St)) (fun (r1:Bool×Int)=>(⟨[(7,.v (.one (DX r1.1)))],[(0,.cells 132 [.yld 1]),(1,JA),(2,.obj (.deferred (some []))),(3,.cells 33 (DZ u.2.2.1)),(4,.cells 25 [DW u.2.2.2.1]),(5,.cells 127 (DZ u.2.2.2.2.1)),(6,.cells 3 [DW r1.2]),(7,.cells 33 (DZ u.2.2.2.2.2.2)),(8,QY),(9,.cells 137 [.fn 91 [(0,0),(8,0),(9,0)]])],[],12,50,[]⟩:St))) r).hp,((Sum.elim (fun (r0:Int×Int)=>(⟨[(7,.v (.one (DX false)))],[(0,.cells 132 [.yld 1]),(1,JX),(2,.obj (.deferred (some []))),(3,.cells 33 (DZ u.2.2.1)),(4,.cells 25 [DW r0.1]),(5,.cells 127 (DZ u.2.2.2.2.1)),(6,.cells 3 [DW r0.2]),(7,.cells 33 (DZ u.2.2.2.2.2.2)),(8,QY),(9,.cells 137 [.fn 91 [(0,0),(8,0),(9,0)]])],[],12,50,[]⟩:St)) (fun (r1:Bool×Int)=>(⟨[(7,.v (.one (DX r1.1)))],[(0,.cells 132 [.yld 1]),(1,JA),(2,.obj (.deferred (some []))),(3,.cells 33 (DZ u.2.2.1)),(4,.cells 25 [DW u.2.2.2.1]),(5,.cells 127 (DZ u.2.2.2.2.1)),(6,.cells 3 [DW r1.2]),(7,.cells 33 (DZ u.2.2.2.2.2.2)),(8,QY),(9,.cells 137 [.fn 91 [(0,0),(8,0),(9,0)]])],[],12,50,[]⟩:St))) r).tk,((Sum.elim (fun (r0:Int×Int)=>(⟨[(7,.v (.one (DX false)))],[(0,.cells 132 [.yld 1]),(1,JX),(2,.obj (.deferred (some []))),(3,.cells 33 (DZ u.2.2.1)),(4,.cells 25 [DW r0.1]),(5,.cells 127 (DZ u.2.2.2.2.1)),(6,.cells 3 [DW r0.2]),(7,.cells 33 (DZ u.2.2.2.2.2.2)),(8,QY),(9,.cells 137 [.fn 91 [(0,0),(8,0),(9,0)]])],[],12,50,[]⟩:St)) (fun (r1:Bool×Int)=>(⟨[(7,.v (.one (DX r1.1)))],[(0,.cells 132 [.yld 1]),(1,JA),(2,.obj (.deferred (some []))),(3,.cells 33 (DZ u.2.2.1)),(4,.cells 25 [DW u.2.2.2.1]),(5,.cells 127 (DZ u.2.2.2.2.1)),(6,.cells 3 [DW r1.2]),(7,.cells 33 (DZ u.2.2.2.2.2.2)),(8,QY),(9,.cells 137 [.fn 91 [(0,0),(8,0),(9,0)]])],[],12,50,[]⟩:St))) r).nx⟩) (fun rc H u r h=>m91f3s_ok rc (fun a0 a1 a2 a3 a4 a5 a6 r h=>H (a0,a1,a2,a3,a4,a5,a6) r h) u.1 u.2.1 u.2.2.1 u.2.2.2.1 u.2.2.2.2.1 u.2.2.2.2.2.1 u.2.2.2.2.2.2 r h) n u r h0
theorem m91f3_ok (a0:Tm) (a1:Int) (a2:Tm) (a3:Int) (a4:Scp) (a5:Int) (a6:Tm) (r:(Int×Int)⊕(Bool×Int)) (h0:m91f3 a0 a1 a2 a3 a4 a5 a6=some r):CallE Try.prog 91 [.agg (DZ a0),.one (DW a1),.one (.ptr 0 0),.one (.ptr 8 0),.one (.ptr 9 0)] ⟨Kc a2 a3 a4 a5 a6,[],10⟩ ((Sum.elim (fun (r0:Int×Int)=>((.ret [.one (DX false)]):EK)) (fun (r1:Bool×Int)=>((.ret [.one (DX r1.1)]):EK))) r) ⟨((Sum.elim (fun (r0:Int×Int)=>(⟨[(7,.v (.one (DX false)))],[(0,.cells 132 [.yld 1]),(1,JX),(2,.obj (.deferred (some []))),(3,.cells 33 (DZ a2)),(4,.cells 25 [DW r0.1]),(5,.cells 127 (DZ a4)),(6,.cells 3 [DW r0.2]),(7,.cells 33 (DZ a6)),(8,QY),(9,.cells 137 [.fn 91 [(0,0),(8,0),(9,0)]])],[],12,50,[]⟩:St)) (fun (r1:Bool×Int)=>(⟨[(7,.v (.one (DX r1.1)))],[(0,.cells 132 [.yld 1]),(1,JA),(2,.obj (.deferred (some []))),(3,.cells 33 (DZ a2)),(4,.cells 25 [DW a3]),(5,.cells 127 (DZ a4)),(6,.cells 3 [DW r1.2]),(7,.cells 33 (DZ a6)),(8,QY),(9,.cells 137 [.fn 91 [(0,0),(8,0),(9,0)]])],[],12,50,[]⟩:St))) r).hp,((Sum.elim (fun (r0:Int×Int)=>(⟨[(7,.v (.one (DX false)))],[(0,.cells 132 [.yld 1]),(1,JX),(2,.obj (.deferred (some []))),(3,.cells 33 (DZ a2)),(4,.cells 25 [DW r0.1]),(5,.cells 127 (DZ a4)),(6,.cells 3 [DW r0.2]),(7,.cells 33 (DZ a6)),(8,QY),(9,.cells 137 [.fn 91 [(0,0),(8,0),(9,0)]])],[],12,50,[]⟩:St)) (fun (r1:Bool×Int)=>(⟨[(7,.v (.one (DX r1.1)))],[(0,.cells 132 [.yld 1]),(1,JA),(2,.obj (.deferred (some []))),(3,.cells 33 (DZ a2)),(4,.cells 25 [DW a3]),(5,.cells 127 (DZ a4)),(6,.cells 3 [DW r1.2]),(7,.cells 33 (DZ a6)),(8,QY),(9,.cells 137 [.fn 91 [(0,0),(8,0),(9,0)]])],[],12,50,[]⟩:St))) r).tk,((Sum.elim (fun (r0:Int×Int)=>(⟨[(7,.v (.one (DX false)))],[(0,.cells 132 [.yld 1]),(1,JX),(2,.obj (.deferred (some []))),(3,.cells 33 (DZ a2)),(4,.cells 25 [DW r0.1]),(5,.cells 127 (DZ a4)),(6,.cells 3 [DW r0.2]),(7,.cells 33 (DZ a6)),(8,QY),(9,.cells 137 [.fn 91 [(0,0),(8,0),(9,0)]])],[],12,50,[]⟩:St)) (fun (r1:Bool×Int)=>(⟨[(7,.v (.one (DX r1.1)))],[(0,.cells 132 [.yld 1]),(1,JA),(2,.obj (.deferred (some []))),(3,.cells 33 (DZ a2)),(4,.cells 25 [DW a3]),(5,.cells 127 (DZ a4)),(6,.cells 3 [DW r1.2]),(7,.cells 33 (DZ a6)),(8,QY),(9,.cells 137 [.fn 91 [(0,0),(8,0),(9,0)]])],[],12,50,[]⟩:St))) r).nx⟩:=m91f3_all QI (a0,a1,a2,a3,a4,a5,a6) r h0
noncomputable abbrev m66_h0 (p0_:Int) (p1_:Int) (p2_:Int) (p3_:Int):HB :=
 .cells 127 [DW (max p0_ 0),DW (max p1_ 0),DW (max p2_ 0),DW (max p3_ 0)]
noncomputable abbrev m66_h1 (p0_:Tm) (p1_:Int) (p2_:Int) (p3_:Int) (p4_:Int):List (Nat×HB) :=
 [(0,.cells 33 (DZ p0_)),(1,.cells 25 [DW 0]),(2,m66_h0 p1_ p2_ p3_ p4_),(3,.cells 3 [DW 0])]
noncomputable abbrev m66_h2 (p0_:Tm) (p1_:Int) (p2_:Int) (p3_:Int) (p4_:Int):List (Nat×HB) :=
 [(0,.cells 33 (DZ p0_)),(1,.cells 25 [DW 0]),(2,m66_h0 p1_ p2_ p3_ p4_),(3,.cells 3 [DW 0]),(4,.cells 33 (DZ p0_))]
noncomputable abbrev m66_h3 (p0_:Int) (p1_:Int) (p2_:Int) (p3_:Int):HB :=
 .cells 127 [DW ((⟨(max p0_ 0),(max p1_ 0),(max p2_ 0),(max p3_ 0)⟩:Scp).vars),DW ((⟨(max p0_ 0),(max p1_ 0),(max p2_ 0),(max p3_ 0)⟩:Scp).params),DW ((⟨(max p0_ 0),(max p1_ 0),(max p2_ 0),(max p3_ 0)⟩:Scp).metas),DW ((⟨(max p0_ 0),(max p1_ 0),(max p2_ 0),(max p3_ 0)⟩:Scp).levels)]
noncomputable abbrev m66_h4 :HB :=
 .loop .ready none [(5,.v (.one (.ptr 0 0))),(10,.v (.one (.ptr 1 0))),(11,.v (.one (.ptr 2 0))),(12,.v (.one (.ptr 3 0))),(26,.v (.one (.fn 89 [(4,0)])))] 45 #[27,28] Zq YY 5
noncomputable abbrev GU (p0_:Tm) (p1_:Int) (p2_:Int) (p3_:Int) (p4_:Int) (p5_:Int):List (Nat×HB) :=
 [(0,.cells 33 (DZ p0_)),(1,.cells 25 [DW 0]),(2,m66_h3 p1_ p2_ p3_ p4_),(3,.cells 3 [DW p5_]),(4,.cells 33 (DZ p0_)),(5,.obj (.deferred (some []))),(6,m66_h4)]
noncomputable abbrev m66_h6 :HB :=
 .loop .done (some .ret) [(5,.v (.one (.ptr 0 0))),(10,.v (.one (.ptr 1 0))),(11,.v (.one (.ptr 2 0))),(12,.v (.one (.ptr 3 0))),(26,.v (.one (.fn 89 [(4,0)])))] 45 #[27,28] Zq YY 5
noncomputable abbrev Gv (p0_:Tm) (p1_:Int×Int) (p2_:Int) (p3_:Int) (p4_:Int) (p5_:Int):List (Nat×HB) :=
 [(0,.cells 33 (DZ p0_)),(1,.cells 25 [DW p1_.1]),(2,m66_h3 p2_ p3_ p4_ p5_),(3,.cells 3 [DW p1_.2]),(4,.cells 33 (DZ p0_)),(5,.obj (.deferred (some []))),(6,m66_h6)]
noncomputable abbrev m66_h8 (p0_:Tm) (p1_:Int) (p2_:Int) (p3_:Int) (p4_:Int):List (Nat×HB) :=
 [(0,.cells 33 (DZ p0_)),(1,.cells 25 [DW 0]),(2,m66_h0 p1_ p2_ p3_ p4_),(3,.cells 3 [DW 0]),(4,.cells 33 (DZ p0_)),(5,.obj (.deferred (some []))),(6,m66_h4),(7,.cells 132 [.yld 6])]
noncomputable abbrev m66_h9 :HB :=
 .cells 135 [DX true,DX false,DW 0,DW 0,DW (-1),DX false,DX false,DW 0,DW 0,DW (-1),DX false,DX false,DW 1,DW 0,DW (-1),DX false,DX true,DW (-1),DW 0,DW (-1),DX false,DX false,DW 0,DW 2,DW (-1),DX false,DX false,DW 0,DW 2,DW 1,DX false,DX false,DW 0,DW 2,DW 1,DX false,DX false,DW 0,DW 2,DW 1,DX false,DX false,DW 0,DW 3,DW (-1),DX false,DX false,DW 0,DW 1,DW (-1),DX false,DX false,DW 0,DW 1,DW (-1),DX false,DX false,DW 0,DW 3,DW 2,DX true,DX false,DW 0,DW 0,DW (-1)]
noncomputable abbrev m66_h10 (p0_:Tm) (p1_:Int) (p2_:Int) (p3_:Int) (p4_:Int):List (Nat×HB) :=
 [(0,.cells 33 (DZ p0_)),(1,.cells 25 [DW 0]),(2,m66_h0 p1_ p2_ p3_ p4_),(3,.cells 3 [DW 0]),(4,.cells 33 (DZ p0_)),(5,.obj (.deferred (some []))),(6,m66_h4),(7,.cells 132 [.yld 6]),(8,m66_h9)]
noncomputable abbrev m66_h11 (p0_:Tm) (p1_:Int) (p2_:Int) (p3_:Int) (p4_:Int) (p5_:Bool×Int):List (Nat×HB) :=
 [(0,.cells 33 (DZ p0_)),(1,.cells 25 [DW 0]),(2,m66_h3 p1_ p2_ p3_ p4_),(3,.cells 3 [DW p5_.2]),(4,.cells 33 (DZ p0_)),(5,.obj (.deferred (some []))),(6,m66_h4)]
def Ds (a0:Tm) (a1:Int) (a2:Int) (a3:Int) (a4:Int):Option Int :=
 Option.bind (some ()) (fun (y1:Unit)=>Option.bind (Option.bind (some ()) (fun (y7:Unit)=>Option.bind (m91f3 a0 0 a0 0 (⟨(max a1 0),(max a2 0),(max a3 0),(max a4 0)⟩:Scp) 0 a0) (Sum.elim (fun (x10:Int×Int)=>some (.inr (x10.1,x10.2))) (fun (x11:Bool×Int)=>some (.inl x11.2))))) (Sum.elim (fun (y3:Int)=>cond (decide (4096 < y3))
   (some 5)
   (Option.bind (m81 a0) fun (x13:Int) =>
 cond (decide (200 < x13))
   (some 7)
   (some 0))) (fun (y4:Int×Int)=>some y4.1)))
theorem m66_ok (a0:Tm) (a1:Int) (a2:Int) (a3:Int) (a4:Int) (r:Int) (h0:Ds a0 a1 a2 a3 a4=some r):Fun Try.prog 66 [.agg (DZ a0),.one (DW a1),.one (DW a2),.one (DW a3),.one (DW a4)] (QP [.one (DW r)]):=by
 unfold Ds at h0
 refine QS 9 45 Try.func66 Z en_66 Z (DM Z) (fun S w=>?_)
 simp only [Jb]
 refine Q6<|Q0<|Q9 Z Z (DM Z) (QV Z)<|Q9 Z Z (DM Z) (Ql z_25 Z)<|Q3<|Q4<|Q6<|Q0<|DE Z Z Z<|DD Z Z Z (GH Z Z)<|DE Z Z Z<|DD Z Z Z (GH Z Z)<|DE Z Z Z<|DD Z Z Z (GH Z Z) ?_
 refine DE Z Z Z<|DD Z Z Z (GH Z Z)<|DD Z Z Z (JR bd_127 Z (.cons Z (.cons Z (.cons Z (.cons Z .nil)))) Z)<|Q9 Z Z (DM Z) (Ql z_127 Z)<|Qz Z Z (Qv ag_127 Z Z Z Z (DM Z) Z)<|Q3<|Q4<|Q6<|Q0<|Q9 Z Z (DM Z) (Ql Dp Z)<|Qz Z Z (Qv QN Z Z Z Z (DM Z) Z)<|Q3<|Q4<|Q6 ?_
 refine Q6<|Q0<|DD Z Z Z (QM (a0:Tm) QX Z Z) ?_
 refine Qd h0 (fun y1 h1 h0=>?_)
 have hc2:CallM Try.prog 74 [.agg (DZ a0)] ⟨m66_h1 a0 a1 a2 a3 a4,[],4⟩ (QP [.one (.fn 89 [(4,0)])]) ⟨m66_h2 a0 a1 a2 a3 a4,[],5⟩:=by
  refine Jc ⟨[(2,.v (.one (.fn 89 [(4,0)])))],m66_h2 a0 a1 a2 a3 a4,[],5,4,[]⟩ Z Z en_74 (DM Z) Z (QB Z .nil) (fun w0 M V0 Q hv1 hQ1=>?_)
  simp only [Jb]
  refine Q6<|Q0<|Q9 Z Z (DM Z) (QV Z)<|DF Z Z Z<|Q3<|Q4<|Q6<|Q0<|DD Z Z Z (ZA Z)<|DF Z Z Z<|Q3<|Q4<|QE ?_
  have e:=DB h1;subst e
  exact hQ1 _ _ _ (.inr Z) Z (DA (Nat.le_trans hv1 (DM Z)) Z Z Z Z Z)
 refine Q9 Z Z (DM Z) (JO Z Z Z hc2 Z (hA Z) DN)<|Q3<|Q4<|Qh<|GG (st':=⟨[(5,.v (.one (.ptr 0 0))),(10,.v (.one (.ptr 1 0))),(11,.v (.one (.ptr 2 0))),(12,.v (.one (.ptr 3 0))),(26,.v (.one (.fn 89 [(4,0)])))],m66_h2 a0 a1 a2 a3 a4,[],5,45,[]⟩) (DA (Nat.zero_le _) Z Z Z Z Z) ?_
 refine Qd h0 (fun y6 h1 h0=>?_)
 have hc5:CallM Try.prog 89 [.one (.yld 6),.one (.ptr 4 0)] ⟨[(6,.loop .ready none [(5,.v (.one (.ptr 0 0))),(10,.v (.one (.ptr 1 0))),(11,.v (.one (.ptr 2 0))),(12,.v (.one (.ptr 3 0))),(26,.v (.one (.fn 89 [(4,0)])))] 45 #[27,28] Zq YY 5),(5,.obj (.deferred (some []))),(0,.cells 33 (DZ a0)),(1,.cells 25 [DW 0]),(2,.cells 127 [DW (max a1 0),DW (max a2 0),DW (max a3 0),DW (max a4 0)]),(3,.cells 3 [DW 0]),(4,.cells 33 (DZ a0))],[],7⟩ (QP []) ⟨(((Sum.elim (fun (y3:Int)=>(⟨[],GU a0 a1 a2 a3 a4 y3,[],13,10,[]⟩:St)) (fun (y4:Int×Int)=>(⟨[],Gv a0 y4 a1 a2 a3 a4,[],13,10,[]⟩:St)))) y6).hp,(((Sum.elim (fun (y3:Int)=>(⟨[],GU a0 a1 a2 a3 a4 y3,[],13,10,[]⟩:St)) (fun (y4:Int×Int)=>(⟨[],Gv a0 y4 a1 a2 a3 a4,[],13,10,[]⟩:St)))) y6).tk,(((Sum.elim (fun (y3:Int)=>(⟨[],GU a0 a1 a2 a3 a4 y3,[],13,10,[]⟩:St)) (fun (y4:Int×Int)=>(⟨[],Gv a0 y4 a1 a2 a3 a4,[],13,10,[]⟩:St)))) y6).nx⟩:=by
  refine CallM.of_bodyS y6 ((Sum.elim (fun (y3:Int)=>(⟨[],GU a0 a1 a2 a3 a4 y3,[],13,10,[]⟩:St)) (fun (y4:Int×Int)=>(⟨[],Gv a0 y4 a1 a2 a3 a4,[],13,10,[]⟩:St)))) rfl rfl en_89 (DM rfl) (fun z_=>by cases z_ <;> rfl) (fun z_=>.nil) (fun w0 M V0 Q hv1 hQ1=>?_)
  simp only [Jb]
  refine Q6<|Q0<|Q9 Z Z (DM Z) (QV Z)<|Q3<|Q4<|Q6<|Q0 ?_
  refine Qd h1 (fun y7 h2 h1=>?_)
  have hc8:CallM Try.prog 90 [] ⟨m66_h8 a0 a1 a2 a3 a4,[],8⟩ (QP [.agg [DX true,DX false,DW 0,DW 0,DW (-1),DX false,DX false,DW 0,DW 0,DW (-1),DX false,DX false,DW 1,DW 0,DW (-1),DX false,DX true,DW (-1),DW 0,DW (-1),DX false,DX false,DW 0,DW 2,DW (-1),DX false,DX false,DW 0,DW 2,DW 1,DX false,DX false,DW 0,DW 2,DW 1,DX false,DX false,DW 0,DW 2,DW 1,DX false,DX false,DW 0,DW 3,DW (-1),DX false,DX false,DW 0,DW 1,DW (-1),DX false,DX false,DW 0,DW 1,DW (-1),DX false,DX false,DW 0,DW 3,DW 2,DX true,DX false,DW 0,DW 0,DW (-1)]]) ⟨m66_h10 a0 a1 a2 a3 a4,[],9⟩:=by
   refine Jc ⟨[(0,.v (.one (.ptr 8 0)))],m66_h10 a0 a1 a2 a3 a4,[],9,15,[]⟩ Z Z en_90 (DM Z) Z (Z4 WX Z Z Z Z .nil) (fun w0 M V0 Q hv2 hQ2=>?_)
   simp only [Jb]
   refine Q6<|Q0<|Q9 Z Z (DM Z) (Ql z_135 Z)<|Q3<|Q4<|Q6<|Q0<|DD Z Z Z (Jm Y5 Z Z Z Z)<|DD Z Z Z (Gt Y5 Z Z Z)<|DD Z Z Z (Jm Y5 Z Z Z Z)<|DD Z Z Z (Zn Y5 Z Z Z Z Z)<|DD Z Z Z (Jm Y5 Z Z Z Z)<|DD Z Z Z (Jm Y5 Z Z Z Z)<|DD Z Z Z (Jm Y5 Z Z Z Z) ?_
   refine DD Z Z Z (Jm Y5 Z Z Z Z)<|DD Z Z Z (Jm Y5 Z Z Z Z)<|DD Z Z Z (Jm Y5 Z Z Z Z)<|DD Z Z Z (Jm Y5 Z Z Z Z)<|DD Z Z Z (Jm Y5 Z Z Z Z)<|DD Z Z Z (Jm Y5 Z Z Z Z)<|DD Z Z Z (JR bd_135 Z (.cons Z (.cons Z (.cons Z (.cons Z (.cons Z (.cons Z (.cons Z (.cons Z (.cons Z (.cons Z (.cons Z (.cons Z (.cons Z .nil))))))))))))) Z)<|Qz Z Z (YS WX Z Z Z Z Z Z)<|Q3<|Q4<|QE ?_
   have e:=DB h2;subst e
   exact hQ2 _ _ _ (.inr Z) Z (DA (Nat.le_trans hv2 (DM Z)) Z Z Z Z Z)
  refine Q9 Z Z (DM Z) (JO Z Z Z hc8 Z (hA Z) DN)<|Q9 Z Z (DM Z) (Ql z_135 Z)<|Qz Z Z (YS WX Z Z Z Z Z Z)<|Q3<|Q4<|Q6<|Q0<|Q9 Z Z (DM Z) (Ql z_137 Z)<|Q3<|Q4<|Q6<|Q0<|DD Z Z Z (RO.makeFunc3 Z Z Z)<|Qz Z Z (Qv ag_137 Z Z Z Z (DM Z) Z) ?_
  refine Q3<|Q4<|Q0<|DD Z Z Z (Q5 ag_137 Z Z Z)<|DD Z Z Z (QM (a0:Tm) QX Z Z) ?_
  refine Qd h1 (fun x9 hx9 h1=>?_)
  refine JL id hx9 h1 (fun x10 hx10 h1=>?_) (fun x11 hx11 h1=>?_)
  refine Q9 Z Z (DM Z) (Jp (hp1':=[(7,.cells 132 [.yld 6]),(6,.loop .done (some .ret) [(5,.v (.one (.ptr 0 0))),(10,.v (.one (.ptr 1 0))),(11,.v (.one (.ptr 2 0))),(12,.v (.one (.ptr 3 0))),(26,.v (.one (.fn 89 [(4,0)])))] 45 #[27,28] Zq YY 5),(5,.obj (.deferred (some []))),(0,.cells 33 (DZ a0)),(1,.cells 25 [DW x10.1]),(2,.cells 127 [DW ((⟨(max a1 0),(max a2 0),(max a3 0),(max a4 0)⟩:Scp).vars),DW ((⟨(max a1 0),(max a2 0),(max a3 0),(max a4 0)⟩:Scp).params),DW ((⟨(max a1 0),(max a2 0),(max a3 0),(max a4 0)⟩:Scp).metas),DW ((⟨(max a1 0),(max a2 0),(max a3 0),(max a4 0)⟩:Scp).levels)]),(3,.cells 3 [DW x10.2]),(4,.cells 33 (DZ a0)),(9,.cells 135 [DX true,DX false,DW 0,DW 0,DW (-1),DX false,DX false,DW 0,DW 0,DW (-1),DX false,DX false,DW 1,DW 0,DW (-1),DX false,DX true,DW (-1),DW 0,DW (-1),DX false,DX false,DW 0,DW 2,DW (-1),DX false,DX false,DW 0,DW 2,DW 1,DX false,DX false,DW 0,DW 2,DW 1,DX false,DX false,DW 0,DW 2,DW 1,DX false,DX false,DW 0,DW 3,DW (-1),DX false,DX false,DW 0,DW 1,DW (-1),DX false,DX false,DW 0,DW 1,DW (-1),DX false,DX false,DW 0,DW 3,DW 2,DX true,DX false,DW 0,DW 0,DW (-1)]),(10,.cells 137 [.fn 91 [(7,0),(9,0),(10,0)]])]) (tk1':=[]) (hpF:=[(8,m66_h9)]) (tkF:=[]) (res2:=QP [.one (DX false)]) (nx2:=13) [7,6,5,0,1,2,3,4,9,10] Z Z (CallE.m (m91f3_ok a0 0 a0 0 (⟨(max a1 0),(max a2 0),(max a3 0),(max a4 0)⟩:Scp) 0 a0 (.inl x10) hx10)) Z Z (DI Z Z (DI Z Z (DI Z Z (DI Z Z (DI Z Z (DI Z Z (DI Z Z (DI Z Z (DI Z Z (DI Z Z DG)))))))))) Z Z (DS Z (DS Z (DS Z (DS Z (DS Z (DS Z (DS Z (DS Z (DS Z (DS Z DR)))))))))) DP (hA Z) DN Z Z Z Z Z (bA Z) Z Z Z Z)<|Q3 ?_
  have e:=DB h1;subst e
  exact hQ1 _ _ _ (.inl Z) Z (show StLe _ _ ⟨[],Gv a0 x10 a1 a2 a3 a4,[],13,10,[]⟩ from (DA (Nat.le_trans hv1 (DM Z)) Z Z Z Z Z))
  refine Q9 Z Z (DM Z) (Jp (hp1':=[(7,.cells 132 [.yld 6]),(6,.loop .ready none [(5,.v (.one (.ptr 0 0))),(10,.v (.one (.ptr 1 0))),(11,.v (.one (.ptr 2 0))),(12,.v (.one (.ptr 3 0))),(26,.v (.one (.fn 89 [(4,0)])))] 45 #[27,28] Zq YY 5),(5,.obj (.deferred (some []))),(0,.cells 33 (DZ a0)),(1,.cells 25 [DW 0]),(2,.cells 127 [DW ((⟨(max a1 0),(max a2 0),(max a3 0),(max a4 0)⟩:Scp).vars),DW ((⟨(max a1 0),(max a2 0),(max a3 0),(max a4 0)⟩:Scp).params),DW ((⟨(max a1 0),(max a2 0),(max a3 0),(max a4 0)⟩:Scp).metas),DW ((⟨(max a1 0),(max a2 0),(max a3 0),(max a4 0)⟩:Scp).levels)]),(3,.cells 3 [DW x11.2]),(4,.cells 33 (DZ a0)),(9,.cells 135 [DX true,DX false,DW 0,DW 0,DW (-1),DX false,DX false,DW 0,DW 0,DW (-1),DX false,DX false,DW 1,DW 0,DW (-1),DX false,DX true,DW (-1),DW 0,DW (-1),DX false,DX false,DW 0,DW 2,DW (-1),DX false,DX false,DW 0,DW 2,DW 1,DX false,DX false,DW 0,DW 2,DW 1,DX false,DX false,DW 0,DW 2,DW 1,DX false,DX false,DW 0,DW 3,DW (-1),DX false,DX false,DW 0,DW 1,DW (-1),DX false,DX false,DW 0,DW 1,DW (-1),DX false,DX false,DW 0,DW 3,DW 2,DX true,DX false,DW 0,DW 0,DW (-1)]),(10,.cells 137 [.fn 91 [(7,0),(9,0),(10,0)]])]) (tk1':=[]) (hpF:=[(8,m66_h9)]) (tkF:=[]) (res2:=QP [.one (DX x11.1)]) (nx2:=13) [7,6,5,0,1,2,3,4,9,10] Z Z (CallE.m (m91f3_ok a0 0 a0 0 (⟨(max a1 0),(max a2 0),(max a3 0),(max a4 0)⟩:Scp) 0 a0 (.inr x11) hx11)) Z Z (DI Z Z (DI Z Z (DI Z Z (DI Z Z (DI Z Z (DI Z Z (DI Z Z (DI Z Z (DI Z Z (DI Z Z DG)))))))))) Z Z (DS Z (DS Z (DS Z (DS Z (DS Z (DS Z (DS Z (DS Z (DS Z (DS Z DR)))))))))) DP (hA Z) DN Z Z Z Z Z (bA Z) Z Z Z Z)<|Q3 ?_
  have e:=DB h1;subst e
  exact hQ1 _ _ _ (.inl Z) Z (show StLe _ _ ⟨[],m66_h11 a0 a1 a2 a3 a4 x11,[],13,10,[]⟩ from (DA (Nat.le_trans hv1 (DM Z)) Z Z Z Z Z))
 refine W7 (C:=fun q_=>CallM Try.prog 89 [.one (.yld 6),.one (.ptr 4 0)] ⟨[(6,.loop .ready none [(5,.v (.one (.ptr 0 0))),(10,.v (.one (.ptr 1 0))),(11,.v (.one (.ptr 2 0))),(12,.v (.one (.ptr 3 0))),(26,.v (.one (.fn 89 [(4,0)])))] 45 #[27,28] Zq YY 5),(5,.obj (.deferred (some []))),(0,.cells 33 (DZ a0)),(1,.cells 25 [DW 0]),(2,.cells 127 [DW (max a1 0),DW (max a2 0),DW (max a3 0),DW (max a4 0)]),(3,.cells 3 [DW 0]),(4,.cells 33 (DZ a0))],[],7⟩ (QP []) ⟨(((Sum.elim (fun (y3:Int)=>(⟨[],GU a0 a1 a2 a3 a4 y3,[],13,10,[]⟩:St)) (fun (y4:Int×Int)=>(⟨[],Gv a0 y4 a1 a2 a3 a4,[],13,10,[]⟩:St)))) q_).hp,(((Sum.elim (fun (y3:Int)=>(⟨[],GU a0 a1 a2 a3 a4 y3,[],13,10,[]⟩:St)) (fun (y4:Int×Int)=>(⟨[],Gv a0 y4 a1 a2 a3 a4,[],13,10,[]⟩:St)))) q_).tk,(((Sum.elim (fun (y3:Int)=>(⟨[],GU a0 a1 a2 a3 a4 y3,[],13,10,[]⟩:St)) (fun (y4:Int×Int)=>(⟨[],Gv a0 y4 a1 a2 a3 a4,[],13,10,[]⟩:St)))) q_).nx⟩) hc5 h0 (fun y3 hc5 h0=>?_) (fun y4 hc5 h0=>?_)
 replace hc5:CallM Try.prog 89 [.one (.yld 6),.one (.ptr 4 0)] ⟨[(6,.loop .ready none [(5,.v (.one (.ptr 0 0))),(10,.v (.one (.ptr 1 0))),(11,.v (.one (.ptr 2 0))),(12,.v (.one (.ptr 3 0))),(26,.v (.one (.fn 89 [(4,0)])))] 45 #[27,28] Zq YY 5),(5,.obj (.deferred (some []))),(0,.cells 33 (DZ a0)),(1,.cells 25 [DW 0]),(2,.cells 127 [DW (max a1 0),DW (max a2 0),DW (max a3 0),DW (max a4 0)]),(3,.cells 3 [DW 0]),(4,.cells 33 (DZ a0))],[],7⟩ (QP []) ⟨GU a0 a1 a2 a3 a4 y3,[],13⟩:=hc5
 refine Kb (Yi (e:=.normal) rfl hc5 rfl rfl (by intro h;cases h) rfl) rfl ?_
 refine Qf<|Q4<|Q6<|Qh<|Q6<|Q0<|DD Z Z Z (Q5 QN Z Z Z)<|DD Z Z Z (Q8 Z Z Z)<|DF Z Z Z<|Q3<|Q4 ?_
 refine Qg (b:=(decide (4096 < y3))) Z (fun c12=>?_) (fun c12=>?_)
 replace h0:=Qi c12 h0
 refine Q6<|Q0<|Qz Z Z (Qv ZE Z Z Z Z (DM Z) Z)<|Q3<|Q4<|QE ?_
 have e:=DB h0;subst e
 exact QJ (fun _ _ h=>h) Z (KH ZE Z Z Z .nil) (.cons (.one (.d _)) .nil)
 replace h0:=Qj c12 h0
 refine Q6<|Q0<|DD Z Z Z (QM (a0:Tm) QX Z Z) ?_
 refine Qd h0 (fun x13 hx13 h0=>?_)
 refine Q9 Z Z (DM Z) (Qo (m81_ok a0 x13 hx13) Z (.cons (.agg (.cons (.d _) (.cons (.d _) (.cons (.d _) (.cons (.d _) (.cons (.d _) .nil)))))) .nil))<|DD Z Z Z (Q8 Z Z Z)<|DF Z Z Z<|Q3<|Q4 ?_
 refine Qg (b:=(decide (200 < x13))) Z (fun c14=>?_) (fun c14=>?_)
 replace h0:=Qi c14 h0
 refine Q6<|Q0<|Qz Z Z (Qv ZE Z Z Z Z (DM Z) Z)<|Q3<|Q4<|QE ?_
 have e:=DB h0;subst e
 exact QJ (fun _ _ h=>h) Z (KH ZE Z Z Z .nil) (.cons (.one (.d _)) .nil)
 replace h0:=Qj c14 h0
 refine Qn<|Qf<|Q4<|Q6<|Q0<|Qz Z Z (Qv ZE Z Z Z Z (DM Z) Z)<|Q3<|Q4<|QE ?_
 have e:=DB h0;subst e
 exact QJ (fun _ _ h=>h) Z (KH ZE Z Z Z .nil) (.cons (.one (.d _)) .nil)
 replace hc5:CallM Try.prog 89 [.one (.yld 6),.one (.ptr 4 0)] ⟨[(6,.loop .ready none [(5,.v (.one (.ptr 0 0))),(10,.v (.one (.ptr 1 0))),(11,.v (.one (.ptr 2 0))),(12,.v (.one (.ptr 3 0))),(26,.v (.one (.fn 89 [(4,0)])))] 45 #[27,28] Zq YY 5),(5,.obj (.deferred (some []))),(0,.cells 33 (DZ a0)),(1,.cells 25 [DW 0]),(2,.cells 127 [DW (max a1 0),DW (max a2 0),DW (max a3 0),DW (max a4 0)]),(3,.cells 3 [DW 0]),(4,.cells 33 (DZ a0))],[],7⟩ (QP []) ⟨Gv a0 y4 a1 a2 a3 a4,[],13⟩:=hc5
 refine Kb (Yi (e:=.ret) rfl hc5 rfl rfl (by intro h;cases h) rfl) rfl ?_
 have e:=DB h0;subst e
 exact QJ (fun _ _ h=>h) Z (KH ZE Z Z Z .nil) (.cons (.one (.d _)) .nil)
end Go.Proofs.Ytafddfoefeploaa
namespace Go.Proofs.Ytafddfoefeploaa
open Go.RowKit Go.Shelf
theorem Ul:Y6 Try.prog 33 [(0,1),(1,1),(2,1),(3,1),(4,1)] [.int .i64 0,.int .i64 0,.string ByteArray.empty,.slice none 0 0,.slice none 0 0]:=⟨by kernel_rfl,by kernel_rfl⟩
theorem en_63:J4 Try.prog 63:=enters_of Try.func63 (by kernel_rfl) rfl
theorem en_78:J4 Try.prog 78:=enters_of Try.func78 (by kernel_rfl) rfl
theorem en_93:J4 Try.prog 93:=enters_of Try.func93 (by kernel_rfl) rfl
theorem en_94:J4 Try.prog 94:=enters_of Try.func94 (by kernel_rfl) rfl
theorem en_95:J4 Try.prog 95:=enters_of Try.func95 (by kernel_rfl) rfl
theorem en_102:J4 Try.prog 102:=enters_of Try.func102 (by kernel_rfl) rfl
def m94_l0 (a0:Lvl) (a1:Lvl) (s3:Int):Option (LO Int (Unit⊕Bool)) :=
 cond (decide (s3 < (a0.vs.length:Int)))
   (Option.bind (Jx a0.vs s3) fun (x8:LV) =>
 Option.bind (Jx a1.vs s3) fun (x9:LV) =>
 cond (!((x8.1==x9.1)&&(x8.2==x9.2)))
   (some (.done (.inr false)))
   (some (.next (Ja (s3+1)))))
   (some (.done (.inl ())))
def m94 (a0:Lvl) (a1:Lvl):Option Bool :=
 Option.bind (cond (a0.c==a1.c)
   (Option.bind (cond ((a0.vs.length:Int) != (a1.vs.length:Int))
   (some false)
   (Option.bind (Qq (m94_l0 a0 a1) QI 0) (Sum.elim (fun (o6:Unit)=>some true) (fun o=>some o)))) (fun (y3:Bool)=>some y3))
   (some false)) (fun (v1:Bool)=>some v1)
theorem m94_ok (a0:Lvl) (a1:Lvl) (r:Bool) (h0:m94 a0 a1=some r):Fun Try.prog 94 [.agg (DZ a0),.agg (DZ a1)] (QP [.one (DX r)]):=by
 unfold m94 at h0
 refine QS 9 17 Try.func94 Z en_94 Z (DM Z) (fun S w=>?_)
 simp only [Jb]
 refine Q6<|Q0<|Q9 Z Z (DM Z) (QV Z)<|Q9 Z Z (DM Z) (QV Z)<|DF Z Z Z<|Q3<|Q4<|Q6 ?_
 refine QO (fun (v1:Bool)=>⟨[(4,.v (.one (DX v1)))],[(0,.cells 87 (DZ a0)),(1,.cells 87 (DZ a1))],[],2,17,[]⟩) (fun (v1:Bool)=>(some v1)=some r) ?_ ?_
 refine Qd h0 (fun w1_ h1 h0=>?_)
 refine Q0<|DD Z Z Z (Q2 KQ Z)<|DD Z Z Z (Q5 QN Z Z Z)<|DD Z Z Z (Q2 KQ Z)<|DD Z Z Z (Q5 QN Z Z Z)<|DD Z Z Z (Q8 Z Z Z)<|DE Z Z Z ?_
 refine QA (d:=10) (c:=(a0.c==a1.c)) Z (fun c2=>?_) (fun c2=>?_)
 replace h1:=Qi c2 h1
 refine DD Z Z Z (Q2 Zd Z)<|DD Z Z Z (Q5 GM Z Z Z)<|DD Z Z Z (Q2 Zd Z)<|DD Z Z Z (Q5 GM Z Z Z) ?_
 refine Qd h1 (fun y3 h2 h1=>?_)
 have hc4:CallM Try.prog 102 [.one (DU a0.vs),.one (DU a1.vs)] ⟨[(0,.cells 87 (DZ a0)),(1,.cells 87 (DZ a1))],[],2⟩ (QP [.one (DX y3)]) ⟨[(0,.cells 87 (DZ a0)),(1,.cells 87 (DZ a1))],[],2⟩:=by
  refine Jc ⟨[(4,.v (.one (DX y3)))],[(0,.cells 87 (DZ a0)),(1,.cells 87 (DZ a1))],[],2,26,[]⟩ Z Z en_102 (DM Z) Z (QB Z .nil) (fun w0 M V0 Q hv2 hQ2=>?_)
  simp only [Jb]
  refine Q6<|Q0<|DF Z Z Z<|Q3<|Q4<|Q6<|Q6<|Q0<|DE Z Z Z<|DD Z Z Z (QD (α:=LV) Zo Z (.d _))<|DE Z Z Z<|DD Z Z Z (QD (α:=LV) Zo Z (.d _))<|DD Z Z Z (Q8 Z Z Z)<|Q3 ?_
  refine Q4 ?_
  refine Qg (b:=((a0.vs.length:Int) != (a1.vs.length:Int))) Z (fun c5=>?_) (fun c5=>?_)
  replace h2:=Qi c5 h2
  refine Q6<|Q0<|DF Z Z Z<|Q3<|Q4<|QE ?_
  have e:=DB h2;subst e
  exact hQ2 _ _ _ (.inr Z) Z (DA (Nat.le_trans hv2 (DM Z)) Z Z Z Z Z)
  replace h2:=Qj c5 h2
  refine Qn<|Q4<|Q6<|Q6<|Q0<|DE Z Z Z<|DD Z Z Z (QD (α:=LV) Zo Z (.d _))<|DE Z Z Z<|Q3<|Q4<|Qh ?_
  refine J2 0 (fun (o6:Unit)=>⟨[],[(0,.cells 87 (DZ a0)),(1,.cells 87 (DZ a1))],[],2,26,[]⟩) (fun (o6:Unit)=>(some true)=some y3) ?_ ?_
  refine Qd h2 (fun o7 hl3 h2=>?_)
  refine J1 (m94_l0 a0 a1) (fun s3=>⟨[(0,.v (.one (DU a0.vs))),(1,.v (.one (DU a1.vs))),(12,.v (.one (DW (a0.vs.length:Int)))),(13,.v (.one (DW s3)))],[(0,.cells 87 (DZ a0)),(1,.cells 87 (DZ a1))],[],2,26,[]⟩) 0 o7 (DA (Nat.le_trans hv2 (DM Z)) Z Z Z Z Z) hl3 (fun s3 n3 oo3 h3 ho3=>?_)
  unfold m94_l0 at h3
  refine Q6<|Q0<|DD Z Z Z (Q8 Z Z Z)<|Q3<|Q4<|Q6 ?_
  refine Qg (b:=(decide (s3 < (a0.vs.length:Int)))) Z (fun c8=>?_) (fun c8=>?_)
  replace h3:=Qi c8 h3
  refine Qn<|Q4<|Q6<|Qh<|Q6<|Q0<|DE Z Z Z<|DF Z Z Z<|Q3<|Q4<|Q6 ?_
  refine Js [] [] YU (by kernel_rfl) (by kernel_rfl) (by kernel_rfl) ?_
  refine RunA.rd Z Z Z (Q1 (Qp Z)) Z<|RunA.rd Z Z Z (Q1 (Qp Z)) Z ?_
  refine Qd h3 (fun x9 hx9 h3=>?_)
  refine RunA.rd Z Z Z (Q1 (Qy (α:=LV) Zo Z (.d _) Z hx9)) Z<|RunA.rd Z Z Z (Q1 (Qt (x9:LV) KF Z)) Z<|RunA.rd Z Z Z (Q1 (Qp Z)) Z<|RunA.rd Z Z Z (Q1 (Qp Z)) Z ?_
  refine Qd h3 (fun x10 hx10 h3=>?_)
  refine RunA.rd Z Z Z (Q1 (Qy (α:=LV) Zo Z (.d _) Z hx10)) Z<|RunA.rd Z Z Z (Q1 (Qt (x10:LV) KF Z)) Z<|RunA.rd Z Z Z (Q1 (RO.neqPair ip_124 Z Z)) Z ?_
  refine RunA.nil ⟨?ex,_,_,Z,?_⟩
  case ex=>exact trivial
  refine JV (st':=⟨[(0,.v (.one (DU a0.vs))),(1,.v (.one (DU a1.vs))),(12,.v (.one (DW (a0.vs.length:Int)))),(13,.v (.one (DW s3))),(24,.v (.one (DX (!((x9.1==x10.1)&&(x9.2==x10.2))))))],[(0,.cells 87 (DZ a0)),(1,.cells 87 (DZ a1))],[],2,26,[]⟩) (DA (Nat.le_trans hv2 (DM Z)) Z Z Z Z Z)<|Q4 ?_
  refine Qg (b:=(!((x9.1==x10.1)&&(x9.2==x10.2)))) Z (fun c11=>?_) (fun c11=>?_)
  replace h3:=Qi c11 h3
  refine Q6<|Q0<|DF Z Z Z<|Q3<|Q4<|QE ?_
  have e:=DB h3;subst e
  have e_:_=_:=ho3
  subst e_
  try dsimp only [Sum.elim_inl,Sum.elim_inr] at h2
  have e:=DB h2;subst e
  exact hQ2 _ _ _ (.inr Z) Z (DA (Nat.le_trans hv2 (DM Z)) Z Z Z Z Z)
  replace h3:=Qj c11 h3
  refine Qn<|Qf<|Q4<|Q0<|DD Z Z Z (Q8 Z Z Z)<|DE Z Z Z<|Q3 ?_
  have e:=DB h3;subst e
  refine QW (Ja (s3+1)) (DA (Nat.le_trans hv2 (DM Z)) Z Z Z Z Z) ho3
  replace h3:=Qj c8 h3
  refine J8<|Qr<|Qr ?_
  have e:=DB h3;subst e
  have e_:_=_:=ho3
  subst e_
  exact J0 () (DA (Nat.le_trans hv2 (DM Z)) Z Z Z Z Z) h2
  intro o6 h2
  refine QQ<|Q4<|Q6<|Q0<|DF Z Z Z<|Q3<|Q4<|QE ?_
  have e:=DB h2;subst e
  exact hQ2 _ _ _ (.inr Z) Z (DA (Nat.le_trans hv2 (DM Z)) Z Z Z Z Z)
 refine Q9 Z Z (DM Z) (JO Z Z Z hc4 Z (hA Z) DN)<|DD Z Z Z (Qe Z Z)<|DF Z Z Z<|Q3 ?_
 have e:=DB h1;subst e
 exact Qb y3 (DA (Nat.zero_le _) Z Z Z Z Z) h0
 replace h1:=Qj c2 h1
 refine Q7 Z Z<|Q7 Z Z<|Q7 Z Z<|Q7 Z Z<|Q7 Z Z<|DD Z Z Z (Qa Z Z)<|DF Z Z Z<|Q3 ?_
 have e:=DB h1;subst e
 exact Qb false (DA (Nat.zero_le _) Z Z Z Z Z) h0
 intro v1 h0
 refine Q4<|QE ?_
 have e:=DB h0;subst e
 exact QJ (fun _ _ h=>h) Z (QB Z .nil) (.cons (.one (.d _)) .nil)
def Wc (a0:Tm) (a1:Tm) (s3:Int):Option (LO Int (Unit⊕Bool)) :=
 cond (decide (s3 < (a0.levels.length:Int)))
   (Option.bind (Jx a0.levels s3) fun (x10:Lvl) =>
 Option.bind (Jx a1.levels s3) fun (x11:Lvl) =>
 Option.bind (m94 x10 x11) fun (x12:Bool) =>
 cond (!x12)
   (some (.done (.inr false)))
   (some (.next (Ja (s3+1)))))
   (some (.done (.inl ())))
def Wb (a0:Tm) (a1:Tm) (rc:Tm×Tm→Option Bool) (s3:Int):Option (LO Int (Unit⊕Bool)) :=
 cond (decide (s3 < (a0.kids.length:Int)))
   (Option.bind (Jx a0.kids s3) fun (x21:Tm) =>
 Option.bind (Jx a1.kids s3) fun (x22:Tm) =>
 Option.bind (rc (x21,x22)) fun (x23:Bool) =>
 cond (!x23)
   (some (.done (.inr false)))
   (some (.next (Ja (s3+1)))))
   (some (.done (.inl ())))
def UH (rc:Tm×Tm→Option Bool) (a0:Tm) (a1:Tm):Option Bool :=
 Option.bind (cond (a0.kind==a1.kind)
   (cond (a0.index==a1.index)
   (cond (a0.name==a1.name)
   (Option.bind (cond ((a0.levels.length:Int) != (a1.levels.length:Int))
   (some false)
   (Option.bind (Qq (Wc a0 a1) QI 0) (Sum.elim (fun (o8:Unit)=>some true) (fun o=>some o)))) (fun (y5:Bool)=>cond y5
   (Option.bind (cond ((a0.kids.length:Int) != (a1.kids.length:Int))
   (some false)
   (Option.bind (Qq (Wb a0 a1 rc) QI 0) (Sum.elim (fun (o19:Unit)=>some true) (fun o=>some o)))) (fun (y16:Bool)=>some y16))
   (some false)))
   (some false))
   (some false))
   (some false)) (fun (v1:Bool)=>some v1)
def m78F (rc:Tm×Tm→Option Bool) (u:Tm×Tm):Option Bool:=UH rc u.1 u.2
def m78 (a0:Tm) (a1:Tm):Option Bool:=JE m78F QI (a0,a1)
theorem m78s_ok (rc:Tm×Tm→Option Bool) (H:∀ (a0:Tm) (a1:Tm) (r:Bool),rc (a0,a1)=some r→Fun Try.prog 78 [.agg (DZ a0),.agg (DZ a1)] (QP [.one (DX r)])) (a0:Tm) (a1:Tm) (r:Bool) (h0:UH rc a0 a1=some r):Fun Try.prog 78 [.agg (DZ a0),.agg (DZ a1)] (QP [.one (DX r)]):=by
 unfold UH at h0
 refine QS 9 38 Try.func78 Z en_78 Z (DM Z) (fun S w=>?_)
 simp only [Jb]
 refine Q6<|Q0<|Q9 Z Z (DM Z) (QV Z)<|Q9 Z Z (DM Z) (QV Z)<|DF Z Z Z<|Q3<|Q4<|Q6 ?_
 refine QO (fun (v1:Bool)=>⟨[(4,.v (.one (DX v1)))],[(0,.cells 33 (DZ a0)),(1,.cells 33 (DZ a1))],[],2,38,[]⟩) (fun (v1:Bool)=>(some v1)=some r) ?_ ?_
 refine Qd h0 (fun w1_ h1 h0=>?_)
 refine Q0<|DD Z Z Z (Q2 Yr Z)<|DD Z Z Z (Q5 QN Z Z Z)<|DD Z Z Z (Q2 Yr Z)<|DD Z Z Z (Q5 QN Z Z Z)<|DD Z Z Z (Q8 Z Z Z)<|DE Z Z Z ?_
 refine QA (d:=10) (c:=(a0.kind==a1.kind)) Z (fun c2=>?_) (fun c2=>?_)
 replace h1:=Qi c2 h1
 refine DD Z Z Z (Q2 Z3 Z)<|DD Z Z Z (Q5 QN Z Z Z)<|DD Z Z Z (Q2 Z3 Z)<|DD Z Z Z (Q5 QN Z Z Z)<|DD Z Z Z (Q8 Z Z Z)<|DD Z Z Z (Qe Z Z)<|DE Z Z Z ?_
 refine QA (d:=17) (c:=(a0.index==a1.index)) Z (fun c3=>?_) (fun c3=>?_)
 replace h1:=Qi c3 h1
 refine DD Z Z Z (Q2 ZN Z)<|DD Z Z Z (Q5 JT Z Z Z)<|DD Z Z Z (Q2 ZN Z)<|DD Z Z Z (Q5 JT Z Z Z)<|DD Z Z Z (GJ Z Z)<|DD Z Z Z (Qe Z Z)<|DE Z Z Z ?_
 refine QA (d:=24) (c:=(a0.name==a1.name)) Z (fun c4=>?_) (fun c4=>?_)
 replace h1:=Qi c4 h1
 refine DD Z Z Z (Q2 Ze Z)<|DD Z Z Z (Q5 GN Z Z Z)<|DD Z Z Z (Q2 Ze Z)<|DD Z Z Z (Q5 GN Z Z Z) ?_
 refine Qd h1 (fun y5 h2 h1=>?_)
 have hc6:CallM Try.prog 93 [.one (DU a0.levels),.one (DU a1.levels),.one (.fn 94 [])] ⟨[(0,.cells 33 (DZ a0)),(1,.cells 33 (DZ a1))],[],2⟩ (QP [.one (DX y5)]) ⟨[(0,.cells 33 (DZ a0)),(1,.cells 33 (DZ a1))],[],2⟩:=by
  refine Jc ⟨[(6,.v (.one (DX y5)))],[(0,.cells 33 (DZ a0)),(1,.cells 33 (DZ a1))],[],2,32,[]⟩ Z Z en_93 (DM Z) Z (QB Z .nil) (fun w0 M V0 Q hv2 hQ2=>?_)
  simp only [Jb]
  refine Q6<|Q0<|DF Z Z Z<|Q3<|Q4<|Q6<|Q6<|Q0<|DE Z Z Z<|DD Z Z Z (QD (α:=Lvl) Z8 Z (.d _))<|DE Z Z Z<|DD Z Z Z (QD (α:=Lvl) Z8 Z (.d _))<|DD Z Z Z (Q8 Z Z Z)<|Q3 ?_
  refine Q4 ?_
  refine Qg (b:=((a0.levels.length:Int) != (a1.levels.length:Int))) Z (fun c7=>?_) (fun c7=>?_)
  replace h2:=Qi c7 h2
  refine Q6<|Q0<|DF Z Z Z<|Q3<|Q4<|QE ?_
  have e:=DB h2;subst e
  exact hQ2 _ _ _ (.inr Z) Z (DA (Nat.le_trans hv2 (DM Z)) Z Z Z Z Z)
  replace h2:=Qj c7 h2
  refine Qn<|Q4<|Q6<|Q6<|Q0<|DE Z Z Z<|DD Z Z Z (QD (α:=Lvl) Z8 Z (.d _))<|DE Z Z Z<|Q3<|Q4<|Qh ?_
  refine J2 0 (fun (o8:Unit)=>⟨[],[(0,.cells 33 (DZ a0)),(1,.cells 33 (DZ a1))],[],2,32,[]⟩) (fun (o8:Unit)=>(some true)=some y5) ?_ ?_
  refine Qd h2 (fun o9 hl3 h2=>?_)
  refine J1 (Wc a0 a1) (fun s3=>⟨[(1,.v (.one (DU a1.levels))),(2,.v (.one (.fn 94 []))),(15,.v (.one (DU a0.levels))),(16,.v (.one (DW (a0.levels.length:Int)))),(17,.v (.one (DW s3)))],[(0,.cells 33 (DZ a0)),(1,.cells 33 (DZ a1))],[],2,32,[]⟩) 0 o9 (DA (Nat.le_trans hv2 (DM Z)) Z Z Z Z Z) hl3 (fun s3 n3 oo3 h3 ho3=>?_)
  unfold Wc at h3
  refine Q6<|Q0<|DD Z Z Z (Q8 Z Z Z)<|Q3<|Q4<|Q6 ?_
  refine Qg (b:=(decide (s3 < (a0.levels.length:Int)))) Z (fun c10=>?_) (fun c10=>?_)
  replace h3:=Qi c10 h3
  refine Qn<|Q4<|Q6<|Qh<|Q6<|Q0<|DE Z Z Z ?_
  refine Qd h3 (fun x11 hx11 h3=>?_)
  refine DD Z Z Z (Qy (α:=Lvl) Z8 Z (.d _) Z hx11)<|DD Z Z Z (Qt (x11:Lvl) K3 Z)<|Q9 Z Z (DM Z) (Ql UC Z)<|DF Z Z Z<|Qz Z Z (QC (x11:Lvl) K3 Z Z Z Z Z)<|Q3<|Q4<|Q6<|Q0<|DE Z Z Z<|DE Z Z Z ?_
  refine Qd h3 (fun x12 hx12 h3=>?_)
  refine DD Z Z Z (Qy (α:=Lvl) Z8 Z (.d _) Z hx12)<|DD Z Z Z (Qt (x12:Lvl) K3 Z)<|Q9 Z Z (DM Z) (Ql UC Z)<|Qz Z Z (QC (x12:Lvl) K3 Z Z Z Z Z)<|Q3<|Q4<|Q6<|Q0<|DE Z Z Z<|DD Z Z Z (QM (x11:Lvl) K3 Z Z)<|DD Z Z Z (QM (x12:Lvl) K3 Z Z) ?_
  refine Qd h3 (fun x13 hx13 h3=>?_)
  refine Q9 Z Z (DM Z) (OpOK.callFunV Z (m94_ok x11 x12 x13 hx13) Z (.cons (.agg (.cons (.d _) (.cons (.d _) .nil))) (.cons (.agg (.cons (.d _) (.cons (.d _) .nil))) .nil)))<|DD Z Z Z (Jj Z)<|Q3<|Q4 ?_
  refine Qg (b:=(!x13)) Z (fun c14=>?_) (fun c14=>?_)
  replace h3:=Qi c14 h3
  refine Q6<|Q0<|DF Z Z Z<|Q3<|Q4<|QE ?_
  have e:=DB h3;subst e
  have e_:_=_:=ho3
  subst e_
  try dsimp only [Sum.elim_inl,Sum.elim_inr] at h2
  have e:=DB h2;subst e
  exact hQ2 _ _ _ (.inr Z) Z (DA (Nat.le_trans hv2 (DM Z)) Z Z Z Z Z)
  replace h3:=Qj c14 h3
  refine Qn<|Qf<|Q4<|Q0<|DD Z Z Z (Q8 Z Z Z)<|DE Z Z Z<|Q3 ?_
  have e:=DB h3;subst e
  refine QW (Ja (s3+1)) (DA (Nat.le_trans hv2 (DM Z)) Z Z Z Z Z) ho3
  replace h3:=Qj c10 h3
  refine J8<|Qr<|Qr ?_
  have e:=DB h3;subst e
  have e_:_=_:=ho3
  subst e_
  exact J0 () (DA (Nat.le_trans hv2 (DM Z)) Z Z Z Z Z) h2
  intro o8 h2
  refine QQ<|Q4<|Q6<|Q0<|DF Z Z Z<|Q3<|Q4<|QE ?_
  have e:=DB h2;subst e
  exact hQ2 _ _ _ (.inr Z) Z (DA (Nat.le_trans hv2 (DM Z)) Z Z Z Z Z)
 refine Q9 Z Z (DM Z) (JO Z Z Z hc6 Z (hA Z) DN)<|DD Z Z Z (Qe Z Z)<|DE Z Z Z ?_
 refine QA (d:=31) (c:=y5) Z (fun c15=>?_) (fun c15=>?_)
 replace h1:=Qi c15 h1
 refine DD Z Z Z (Q2 JJ Z)<|DD Z Z Z (Q5 Yj Z Z Z)<|DD Z Z Z (Q2 JJ Z)<|DD Z Z Z (Q5 Yj Z Z Z) ?_
 refine Qd h1 (fun y16 h2 h1=>?_)
 have hc17:CallM Try.prog 95 [.one (DU a0.kids),.one (DU a1.kids),.one (.fn 78 [])] ⟨[(0,.cells 33 (DZ a0)),(1,.cells 33 (DZ a1))],[],2⟩ (QP [.one (DX y16)]) ⟨[(0,.cells 33 (DZ a0)),(1,.cells 33 (DZ a1))],[],2⟩:=by
  refine Jc ⟨[(6,.v (.one (DX y16)))],[(0,.cells 33 (DZ a0)),(1,.cells 33 (DZ a1))],[],2,32,[]⟩ Z Z en_95 (DM Z) Z (QB Z .nil) (fun w0 M V0 Q hv2 hQ2=>?_)
  simp only [Jb]
  refine Q6<|Q0<|DF Z Z Z<|Q3<|Q4<|Q6<|Q6<|Q0<|DE Z Z Z<|DD Z Z Z (QD (α:=Tm) JC Z (.d _))<|DE Z Z Z<|DD Z Z Z (QD (α:=Tm) JC Z (.d _))<|DD Z Z Z (Q8 Z Z Z)<|Q3 ?_
  refine Q4 ?_
  refine Qg (b:=((a0.kids.length:Int) != (a1.kids.length:Int))) Z (fun c18=>?_) (fun c18=>?_)
  replace h2:=Qi c18 h2
  refine Q6<|Q0<|DF Z Z Z<|Q3<|Q4<|QE ?_
  have e:=DB h2;subst e
  exact hQ2 _ _ _ (.inr Z) Z (DA (Nat.le_trans hv2 (DM Z)) Z Z Z Z Z)
  replace h2:=Qj c18 h2
  refine Qn<|Q4<|Q6<|Q6<|Q0<|DE Z Z Z<|DD Z Z Z (QD (α:=Tm) JC Z (.d _))<|DE Z Z Z<|Q3<|Q4<|Qh ?_
  refine J2 0 (fun (o19:Unit)=>⟨[],[(0,.cells 33 (DZ a0)),(1,.cells 33 (DZ a1))],[],2,32,[]⟩) (fun (o19:Unit)=>(some true)=some y16) ?_ ?_
  refine Qd h2 (fun o20 hl3 h2=>?_)
  refine J1 (Wb a0 a1 rc) (fun s3=>⟨[(1,.v (.one (DU a1.kids))),(2,.v (.one (.fn 78 []))),(15,.v (.one (DU a0.kids))),(16,.v (.one (DW (a0.kids.length:Int)))),(17,.v (.one (DW s3)))],[(0,.cells 33 (DZ a0)),(1,.cells 33 (DZ a1))],[],2,32,[]⟩) 0 o20 (DA (Nat.le_trans hv2 (DM Z)) Z Z Z Z Z) hl3 (fun s3 n3 oo3 h3 ho3=>?_)
  unfold Wb at h3
  refine Q6<|Q0<|DD Z Z Z (Q8 Z Z Z)<|Q3<|Q4<|Q6 ?_
  refine Qg (b:=(decide (s3 < (a0.kids.length:Int)))) Z (fun c21=>?_) (fun c21=>?_)
  replace h3:=Qi c21 h3
  refine Qn<|Q4<|Q6<|Qh<|Q6<|Q0<|DE Z Z Z ?_
  refine Qd h3 (fun x22 hx22 h3=>?_)
  refine DD Z Z Z (Qy (α:=Tm) JC Z (.d _) Z hx22)<|DD Z Z Z (Qt (x22:Tm) QX Z)<|Q9 Z Z (DM Z) (Ql G4 Z)<|DF Z Z Z<|Qz Z Z (QC (x22:Tm) QX Z Z Z Z Z)<|Q3<|Q4<|Q6<|Q0<|DE Z Z Z<|DE Z Z Z ?_
  refine Qd h3 (fun x23 hx23 h3=>?_)
  refine DD Z Z Z (Qy (α:=Tm) JC Z (.d _) Z hx23)<|DD Z Z Z (Qt (x23:Tm) QX Z)<|Q9 Z Z (DM Z) (Ql G4 Z)<|Qz Z Z (QC (x23:Tm) QX Z Z Z Z Z)<|Q3<|Q4<|Q6<|Q0<|DE Z Z Z<|DD Z Z Z (QM (x22:Tm) QX Z Z)<|DD Z Z Z (QM (x23:Tm) QX Z Z) ?_
  refine Qd h3 (fun x24 hx24 h3=>?_)
  refine Q9 Z Z (DM Z) (OpOK.callFunV Z (H x22 x23 x24 hx24) Z (.cons (.agg (.cons (.d _) (.cons (.d _) (.cons (.d _) (.cons (.d _) (.cons (.d _) .nil)))))) (.cons (.agg (.cons (.d _) (.cons (.d _) (.cons (.d _) (.cons (.d _) (.cons (.d _) .nil)))))) .nil)))<|DD Z Z Z (Jj Z)<|Q3<|Q4 ?_
  refine Qg (b:=(!x24)) Z (fun c25=>?_) (fun c25=>?_)
  replace h3:=Qi c25 h3
  refine Q6<|Q0<|DF Z Z Z<|Q3<|Q4<|QE ?_
  have e:=DB h3;subst e
  have e_:_=_:=ho3
  subst e_
  try dsimp only [Sum.elim_inl,Sum.elim_inr] at h2
  have e:=DB h2;subst e
  exact hQ2 _ _ _ (.inr Z) Z (DA (Nat.le_trans hv2 (DM Z)) Z Z Z Z Z)
  replace h3:=Qj c25 h3
  refine Qn<|Qf<|Q4<|Q0<|DD Z Z Z (Q8 Z Z Z)<|DE Z Z Z<|Q3 ?_
  have e:=DB h3;subst e
  refine QW (Ja (s3+1)) (DA (Nat.le_trans hv2 (DM Z)) Z Z Z Z Z) ho3
  replace h3:=Qj c21 h3
  refine J8<|Qr<|Qr ?_
  have e:=DB h3;subst e
  have e_:_=_:=ho3
  subst e_
  exact J0 () (DA (Nat.le_trans hv2 (DM Z)) Z Z Z Z Z) h2
  intro o19 h2
  refine QQ<|Q4<|Q6<|Q0<|DF Z Z Z<|Q3<|Q4<|QE ?_
  have e:=DB h2;subst e
  exact hQ2 _ _ _ (.inr Z) Z (DA (Nat.le_trans hv2 (DM Z)) Z Z Z Z Z)
 refine Q9 Z Z (DM Z) (JO Z Z Z hc17 Z (hA Z) DN)<|DD Z Z Z (Qe Z Z)<|DF Z Z Z<|Q3 ?_
 have e:=DB h1;subst e
 exact Qb y16 (DA (Nat.zero_le _) Z Z Z Z Z) h0
 replace h1:=Qj c15 h1
 refine Q7 Z Z<|Q7 Z Z<|Q7 Z Z<|Q7 Z Z<|Q7 Z Z<|DD Z Z Z (Qa Z Z)<|DF Z Z Z<|Q3 ?_
 have e:=DB h1;subst e
 exact Qb false (DA (Nat.zero_le _) Z Z Z Z Z) h0
 replace h1:=Qj c4 h1
 refine Q7 Z Z<|Q7 Z Z<|Q7 Z Z<|Q7 Z Z<|Q7 Z Z<|DD Z Z Z (Qa Z Z)<|DE Z Z Z<|Q7 Z Z<|Q7 Z Z<|Q7 Z Z<|Q7 Z Z<|Q7 Z Z<|DD Z Z Z (Qa Z Z)<|DF Z Z Z ?_
 refine Q3 ?_
 have e:=DB h1;subst e
 exact Qb false (DA (Nat.zero_le _) Z Z Z Z Z) h0
 replace h1:=Qj c3 h1
 refine Q7 Z Z<|Q7 Z Z<|Q7 Z Z<|Q7 Z Z<|Q7 Z Z<|DD Z Z Z (Qa Z Z)<|DE Z Z Z<|Q7 Z Z<|Q7 Z Z<|Q7 Z Z<|Q7 Z Z<|Q7 Z Z<|DD Z Z Z (Qa Z Z)<|DE Z Z Z ?_
 refine Q7 Z Z<|Q7 Z Z<|Q7 Z Z<|Q7 Z Z<|Q7 Z Z<|DD Z Z Z (Qa Z Z)<|DF Z Z Z<|Q3 ?_
 have e:=DB h1;subst e
 exact Qb false (DA (Nat.zero_le _) Z Z Z Z Z) h0
 replace h1:=Qj c2 h1
 refine Q7 Z Z<|Q7 Z Z<|Q7 Z Z<|Q7 Z Z<|Q7 Z Z<|DD Z Z Z (Qa Z Z)<|DE Z Z Z<|Q7 Z Z<|Q7 Z Z<|Q7 Z Z<|Q7 Z Z<|Q7 Z Z<|DD Z Z Z (Qa Z Z)<|DE Z Z Z ?_
 refine Q7 Z Z<|Q7 Z Z<|Q7 Z Z<|Q7 Z Z<|Q7 Z Z<|DD Z Z Z (Qa Z Z)<|DE Z Z Z<|Q7 Z Z<|Q7 Z Z<|Q7 Z Z<|Q7 Z Z<|Q7 Z Z<|DD Z Z Z (Qa Z Z)<|DF Z Z Z ?_
 refine Q3 ?_
 have e:=DB h1;subst e
 exact Qb false (DA (Nat.zero_le _) Z Z Z Z Z) h0
 intro v1 h0
 refine Q4<|QE ?_
 have e:=DB h0;subst e
 exact QJ (fun _ _ h=>h) Z (QB Z .nil) (.cons (.one (.d _)) .nil)
theorem m78_all (n:Nat) (u:Tm×Tm) (r:Bool) (h0:JE m78F n u=some r):Fun Try.prog 78 [.agg (DZ u.1),.agg (DZ u.2)] (QP [.one (DX r)]) :=
 Z9 (C:=fun u r=>Fun Try.prog 78 [.agg (DZ u.1),.agg (DZ u.2)] (QP [.one (DX r)])) (fun rc H u r h=>m78s_ok rc (fun a0 a1 r h=>H (a0,a1) r h) u.1 u.2 r h) n u r h0
theorem m78_ok (a0:Tm) (a1:Tm) (r:Bool) (h0:m78 a0 a1=some r):Fun Try.prog 78 [.agg (DZ a0),.agg (DZ a1)] (QP [.one (DX r)]):=m78_all QI (a0,a1) r h0
def UT (a0:Tm):Option Bool :=
 Option.bind (m78 a0 (Tm.mk 0 0 ([]:List UInt8) ([]:List Lvl) ([]:List Tm))) fun (x1:Bool) =>
 some x1
theorem WF (a0:Tm) (r:Bool) (h0:UT a0=some r):Fun Try.prog 63 [.agg (DZ a0)] (QP [.one (DX r)]):=by
 unfold UT at h0
 refine QS 9 6 Try.func63 Z en_63 Z (DM Z) (fun S w=>?_)
 simp only [Jb]
 refine Q6<|Q0<|Q9 Z Z (DM Z) (QV Z)<|DF Z Z Z<|Q3<|Q4<|Q6<|Q0<|DD Z Z Z (QM (a0:Tm) QX Z Z)<|DD Z Z Z (Gu Ul Z ) ?_
 refine Qd h0 (fun x1 hx1 h0=>?_)
 refine Q9 Z Z (DM Z) (Qo (m78_ok a0 (Tm.mk 0 0 ([]:List UInt8) ([]:List Lvl) ([]:List Tm)) x1 hx1) Z (.cons (.agg (.cons (.d _) (.cons (.d _) (.cons (.d _) (.cons (.d _) (.cons (.d _) .nil)))))) (.cons (.agg (.cons (.d _) (.cons (.d _) (.cons (.d _) (.cons (.nil _) (.cons (.nil _) .nil)))))) .nil)))<|DF Z Z Z<|Q3<|Q4<|QE ?_
 have e:=DB h0;subst e
 exact QJ (fun _ _ h=>h) Z (QB Z .nil) (.cons (.one (.d _)) .nil)
end Go.Proofs.Ytafddfoefeploaa
namespace Go.Proofs.Ytafddfoefeploaa
open Go.RowKit Go.Shelf
theorem wrong_st:tyStruct Try.prog 90=true:=by kernel_rfl
theorem und20:Try.prog.underlying 20=some (.interface #[]):=by kernel_rfl
theorem und90:Jz Try.prog 90=some (true,1):=by kernel_rfl
theorem z90:Jy Try.prog 90=some [.int .i64 0]:=by kernel_rfl
theorem eq_nil (w:World):(Op.equal 20 .nilIface .nilIface).run Try.prog w=.ok true w:=by
 unfold Op.equal
 rw [show Op.maxDepth=(Op.maxDepth - 1)+1 from rfl]
 unfold Op.equalIn
 simp [run_underlying und20]
theorem eq_some (T:TypeId) (v:Value) (w:World):(Op.equal 20 (.iface T v) .nilIface).run Try.prog w=.ok false w:=by
 unfold Op.equal
 rw [show Op.maxDepth=(Op.maxDepth - 1)+1 from rfl]
 unfold Op.equalIn
 simp [run_underlying und20]
theorem catch_idle (n:Nat) (p:Addr) (w:World):CallsDIn Fence.wide n Try.prog 43 #[.pointer (some p)] .returning w fun e u' w'=>(∃ v,e=.returned v)∧u'=.returning∧w'=w:=by
 refine callsDIn_of_wpSIn Try.func43 Z trivial fun c₀ cs hu=>?_
 apply wpSIn_seq
 apply wpSIn_region
 simp [wpOpsSIn,go_sem,recoverD,hu,Exit.thenS,Try.f43]
 apply wpSIn_seq
 apply wpSIn_region
 simp [wpOpsSIn,go_sem,Exit.thenS,eqGuard,binOp,eq_nil]
 refine wpSIn_cond (t:=false) (by simp [Act.eval]) ?_
 simp only [Bool.false_eq_true,if_false]
 refine wpSIn_of_wpIn Z (wpIn_skip ?_)
 cases c₀
 simp_all [bodyPostS,results,Try.f43]
theorem ta_run (v:Value) (w:World):(Instr.typeAssert (.iface 90 v) 20 90 true).run Try.prog w=.ok (.tuple #[v,.bool true]) w:=by
 have h:=wrong_st
 unfold tyStruct at h
 split at h
 ·rename_i fs hu
  unfold Instr.typeAssert
  simp [run_underlying hu]
 ·cases h
theorem al_run (w:World):(Instr.alloc 90 true (.tuple #[])).run Try.prog w=.ok (.pointer (some ⟨w.heap.size,0,none⟩)) (w.alloc (.cells #[.int .i64 0] 90)):=by
 obtain ⟨z,hz1,hz2⟩:=tyZero_spec z90
 simp [Instr.alloc,hz1,newVar,newRow,hz2]
theorem st_run {t:TypeId} {ag:Bool} (ht:Jz Try.prog t=some (ag,1)) {p:Addr} {v x y:Value} {w:World} (hv:v.cells=#[x]) (hx:x.oneCell'=true) (hc:w.cell? p=some y) (hz:w.frozen? p=false):(Instr.storeAt t (.pointer (some p)) v).run Try.prog w=.ok () (w.setCell p x):=by
 obtain ⟨-,hs⟩:=Kn ht w
 simp only [Instr.storeAt,Instr.sureAddr,storeVar,Sem.run_bind,Sem.run_pure,Result.andThen_ok,hs,hv]
 have h1:(Go.store (p.add 0) x).run Try.prog w=.ok () (w.setCell p x):=by
  have:p.add 0=p:=by unfold Addr.add;simp
  rw [this,run_store _ _ _ _ _ hx,hc]
  simp [hz]
 simp [storeCells,h1]
theorem ag25:Jz Try.prog 25=some (false,1):=by kernel_rfl
theorem fo90:QU Try.prog 90 0=some 0:=by kernel_rfl
theorem catch_caught (n:Nat) (p:Addr) (x:Int) (y:Value) (w:World) (hc:w.cell? p=some y) (hz:w.frozen? p=false):CallsDIn Fence.wide n Try.prog 43 #[.pointer (some p)] (.panicking (Jr (QG 90 x))) w fun e u' w' =>
  (∃ v,e=.returned v)∧u'=.panicking [{ v:=QG 90 x,recovered:=true }]∧∃ w1,ExtM (fun _=>False) w w1∧w'=w1.setCell p (.int .i64 x):=by
 have hb:p.block < w.heap.size:=by
  rcases Nat.lt_or_ge p.block w.heap.size with h | h
  ·exact h
  ·unfold World.cell? at hc
   rw [Array.getElem?_eq_none h] at hc
   split at hc <;> simp_all
 obtain ⟨W1,hW1⟩:∃ W1,(w.alloc (.cells #[.int .i64 0] 90)).setCell ⟨w.heap.size,0,none⟩ (.int .i64 x)=W1:=⟨_,rfl⟩
 have hx1:ExtM (fun _=>False) w W1:=by
  subst hW1
  refine ⟨rfl,rfl,rfl,by simp [World.setCell],fun k hk _=>?_⟩
  rw [Below.heap_setCell _ _ _ _ (by simp;omega)]
  exact Below.heap_alloc w _ k hk
 have hcell:W1.cell? p=some y:=by rw [World.cell?_of_block (hx1.block p.block hb (fun h=>h))];exact hc
 have hfz:W1.frozen? p=false:=by
  have:=hx1.block p.block hb (fun h=>h)
  unfold World.frozen? at hz ⊢
  rw [this];exact hz
 have hnew:W1.cell? ⟨w.heap.size,0,none⟩=some (.int .i64 x):=by subst hW1;simp [go_sem]
 refine callsDIn_of_wpSIn Try.func43 Z trivial fun c₀ cs hu=>?_
 apply wpSIn_seq
 apply wpSIn_region
 simp [wpOpsSIn,go_sem,recoverD,hu,Exit.thenS,Try.f43]
 apply wpSIn_seq
 apply wpSIn_region
 simp [wpOpsSIn,go_sem,Exit.thenS,eqGuard,binOp,eq_some,QG]
 refine wpSIn_cond (t:=true) (by simp [Act.eval]) ?_
 simp only [if_true]
 have hst:=st_run und90 (p:=⟨w.heap.size,0,none⟩) (v:=.agg #[.int .i64 x]) (x:=.int .i64 x) (y:=.int .i64 0) (w:=w.alloc (.cells #[.int .i64 0] 90)) rfl rfl (by simp [go_sem]) (by simp [go_sem])
 rw [hW1] at hst
 have hld:=run_loadOne (P:=Try.prog) (w:=W1) (b:=w.heap.size) (o:=0) ag25 hnew
 have hfa:=run_fieldAt (P:=Try.prog) (b:=w.heap.size) (o:=0) fo90 W1
 have hst2:=st_run ag25 (p:=p) (v:=.int .i64 x) (x:=.int .i64 x) rfl rfl hcell hfz
 apply wpSIn_seq
 apply wpSIn_region
 simp [wpOpsSIn,List.range,List.range.loop,execOp,Act.eval,Act.put,Region.wanted,ta_run,al_run,hst,Exit.thenS,Oper.about,Instr.extract,hu,recoverD]
 apply wpSIn_seq
 apply wpSIn_seq
 apply wpSIn_region
 simp [wpOpsSIn,List.range,List.range.loop,execOp,Act.eval,Act.put,Region.wanted,Exit.thenS,Oper.about,Op.unary]
 refine wpSIn_cond (t:=false) (by simp [Act.eval]) ?_
 simp only [Bool.false_eq_true,if_false]
 refine wpSIn_of_wpIn Z (wpIn_skip ?_)
 simp only [Exit.thenS]
 apply wpSIn_region
 simp [wpOpsSIn,List.range,List.range.loop,execOp,Act.eval,Act.put,Region.wanted,Exit.thenS,Oper.about,hfa,hld,hst2]
 cases c₀
 simp_all [bodyPostS,results,Try.f43]
 exact ⟨W1,hx1,Z⟩
theorem catch_ok:Catch Try.prog 43 90:=⟨enters_of Try.func43 (by kernel_rfl) rfl,catch_idle,catch_caught⟩
end Go.Proofs.Ytafddfoefeploaa
namespace Go.Proofs.Ytafddfoefeploaa
open Go.RowKit Go.Shelf
theorem ZM:QU Try.prog 62 1=some 1:=by kernel_rfl
theorem Xq:Jz Try.prog 59=some (false,1):=by kernel_rfl
theorem Yp:Jz Try.prog 60=some (false,1):=by kernel_rfl
theorem ag_78:Jz Try.prog 78=some (false,1):=by kernel_rfl
theorem bd_90:Y6 Try.prog 90 [(0,1)] [.int .i64 0]:=⟨by kernel_rfl,by kernel_rfl⟩
theorem YG:Xn Try.prog 60=some (false,.agg [.d (.v (.int .i64 0)),.d (.v (.int .i64 0)),.d (.v (.int .i64 0)),.d (.v (.int .i64 0)),.d (.v (.int .i64 0)),.d (.v (.int .i64 0)),.d (.v (.string ByteArray.empty)),.d (.v (.slice none 0 0)),.d (.v (.slice none 0 0))]):=by kernel_rfl
theorem en_44:J4 Try.prog 44:=enters_of Try.func44 (by kernel_rfl) rfl
theorem en_45:J4 Try.prog 45:=enters_of Try.func45 (by kernel_rfl) rfl
theorem en_62:J4 Try.prog 62:=enters_of Try.func62 (by kernel_rfl) rfl
theorem en_83:J4 Try.prog 83:=enters_of Try.func83 (by kernel_rfl) rfl
theorem en_98:J4 Try.prog 98:=enters_of Try.func98 (by kernel_rfl) rfl
theorem en_99:J4 Try.prog 99:=enters_of Try.func99 (by kernel_rfl) rfl
theorem en_104:J4 Try.prog 104:=enters_of Try.func104 (by kernel_rfl) rfl
noncomputable def YH:Code:=(cA (cA (cB (cB (cB (cB (GK Try.f46)))))))
noncomputable def Ye:Code:=(cB (cA (cB (cB (cB (cB (GK Try.f46)))))))
noncomputable def Zj:Code:=(cA (cA (cB (cA (cB (cB (GK Try.f47)))))))
noncomputable def Zi:Code:=(cB (cA (cB (cA (cB (cB (GK Try.f47)))))))
noncomputable def ZS:Code:=(cA (cA (cB (cA (cB (cB (cB (cB (cB (cB (cB (cB (cB (GK Try.f30))))))))))))))
noncomputable def ZR:Code:=(cB (cA (cB (cA (cB (cB (cB (cB (cB (cB (cB (cB (cB (GK Try.f30))))))))))))))
noncomputable def X7:Code:=(cA (cA (cB (cB (cB (cB (cA (cA (cB (cB (cA (cA (cB (cA (cB (cB (cB (GK Try.f11))))))))))))))))))
noncomputable def X6:Code:=(cB (cA (cB (cB (cB (cB (cA (cA (cB (cB (cA (cA (cB (cA (cB (cB (cB (GK Try.f11))))))))))))))))))
def Jt (a0:Bool) (a1:Int):Option (Unit⊕Unit) :=
 cond (!a0)
   (some (.inr ()))
   (some (.inl ()))
theorem Qu (a0:Bool) (a1:Int) (r:Unit⊕Unit) (h0:Jt a0 a1=some r):CallE Try.prog 62 [.one (DX a0),.one (DW a1)] ⟨[],[],0⟩ ((Sum.elim (fun (r0:Unit)=>((.ret []):EK)) (fun (r1:Unit)=>((.pan (QG 90 a1)):EK))) r) ⟨((Sum.elim (fun (r0:Unit)=>(⟨[],[],[],0,9,[]⟩:St)) (fun (r1:Unit)=>(⟨[],[],[],0,9,[]⟩:St))) r).hp,((Sum.elim (fun (r0:Unit)=>(⟨[],[],[],0,9,[]⟩:St)) (fun (r1:Unit)=>(⟨[],[],[],0,9,[]⟩:St))) r).tk,((Sum.elim (fun (r0:Unit)=>(⟨[],[],[],0,9,[]⟩:St)) (fun (r1:Unit)=>(⟨[],[],[],0,9,[]⟩:St))) r).nx⟩:=by
 unfold Jt at h0
 refine JG r ((Sum.elim (fun (r0:Unit)=>(⟨[],[],[],0,9,[]⟩:St)) (fun (r1:Unit)=>(⟨[],[],[],0,9,[]⟩:St)))) ((Sum.elim (fun (r0:Unit)=>((.ret []):EK)) (fun (r1:Unit)=>((.pan (QG 90 a1)):EK)))) rfl rfl en_62 (DM rfl) (fun z_=>by cases z_ with
 | inl _=>exact rfl
 | inr _=>exact rfl) (fun z_=>by cases z_ with
 | inl _=>exact (Uu .nil)
 | inr _=>exact UE) (fun w0 M V0 Q hv0 hQ0=>?_)
 simp only [Jb]
 refine Q6<|Q0<|DE Z Z Z<|DD Z Z Z (Jj Z)<|Q3<|Q4 ?_
 refine Qg (b:=(!a0)) Z (fun c1=>?_) (fun c1=>?_)
 replace h0:=Qi c1 h0
 refine Q0<|DE Z Z Z<|DD Z Z Z (Gt bd_90 Z Z Z)<|DD Z Z Z (RO.wrong wrong_st Z)<|J6 Z (OpD.panic Z) ?_
 have e:=DB h0;subst e
 exact Ji (hQ0 (.panic (Jr (QG 90 a1))) _ ZC Z (show StLe _ _ ⟨[],[],[],0,9,[]⟩ from (DA (Nat.le_trans hv0 (DM Z)) Z Z Z Z Z))) (fun _ _ h=>h)
 replace h0:=Qj c1 h0
 refine Qn ?_
 have e:=DB h0;subst e
 exact hQ0 _ _ D6 Z (show StLe _ _ ⟨[],[],[],0,9,[]⟩ from (DA (Nat.le_trans hv0 (DM Z)) Z Z Z Z Z))
def ZQ (a0:Dcl) (s1:Int):Option (LO Int (Unit⊕(Unit⊕Int))) :=
 cond (decide (s1 < (a0.funs.length:Int)))
   (Option.bind (Jx a0.funs s1) fun (x12:Fn) =>
 Option.bind (cond (decide (1≤x12.arity))
   (Option.bind (Jt (decide (x12.arity≤16)) 3) (Sum.elim (fun (x16:Unit)=>some (.inl ())) (fun (x17:Unit)=>some (.inr (.inr 3)))))
   (Option.bind (Jt false 3) (Sum.elim (fun (x19:Unit)=>some (.inl ())) (fun (x20:Unit)=>some (.inr (.inr 3)))))) (Sum.elim (fun (v13:Unit)=>some (.next (Ja (s1+1)))) (fun o=>some (.done (.inr o)))))
   (some (.done (.inl ())))
def ZP (a0:Dcl) (s1:(List Tm)×Int):Option (LO ((List Tm)×Int) (((List Tm)))) :=
 cond (decide (s1.2 < (a0.ctors.length:Int)))
   (Option.bind (Jx a0.ctors s1.2) fun (x15:Ctr) =>
 Jh (Nat.ble (s1.1.length+([x15.ty]).length) 1000000000)
 (some (.next ((s1.1++([x15.ty])),(Ja (s1.2+1))))))
   (some (.done s1.1))
def Zt (o13:(List Tm)) (a0:Dcl) (s1:Int):Option (LO Int (Unit⊕(Unit⊕Int))) :=
 cond (decide (s1 < (o13.length:Int)))
   (Option.bind (Jx o13 s1) fun (x16:Tm) =>
 Option.bind (Dt x16) fun (x17:(List Tm)×Tm) =>
 Option.bind (Jt (decide (a0.fixed≤(x17.1.length:Int))) 3) (Sum.elim (fun (x19:Unit)=>some (.next (Ja (s1+1)))) (fun (x20:Unit)=>some (.done (.inr (.inr 3))))))
   (some (.done (.inl ())))
def Ku (p0_:Dcl):Option (Unit⊕Int) :=
 cond (p0_.kind==3)
   (Option.bind (cond ((Ja (p0_.rcr.params - p0_.params))==0)
   (Option.bind (Jt ((p0_.rcr.rules.length:Int)==(p0_.ctors.length:Int)) 3) (Sum.elim (fun (b0_:Unit)=>some (.inl ())) (fun (b1_:Unit)=>some (.inr (.inr 3)))))
   (cond ((Ja (p0_.rcr.params - p0_.params))==1)
   (Option.bind (Jt ((p0_.rcr.rules.length:Int)==(p0_.ctors.length:Int)) 3) (Sum.elim (fun (b2_:Unit)=>some (.inl ())) (fun (b3_:Unit)=>some (.inr (.inr 3)))))
   (Option.bind (Jt false 3) (Sum.elim (fun (b4_:Unit)=>some (.inl ())) (fun (b5_:Unit)=>some (.inr (.inr 3))))))) (Sum.elim (fun (b6_:Unit)=>Option.bind (Qq (ZP p0_) QI ([p0_.ty],0)) (fun (b7_:(List Tm))=>Option.bind (Qq (Zt b7_ p0_) QI 0) (Sum.elim (fun (b8_:Unit)=>some (.inl ())) (fun o=>some o)))) (fun o=>some o)))
   (some (.inl ()))
def GY (p0_:Dcl):Option (Unit⊕Int) :=
 Option.bind (cond (decide ((p0_.ctors.length:Int)≤32))
   (cond (!(p0_.kind==4))
   (Option.bind (Jt true 6) (Sum.elim (fun (b0_:Unit)=>some (.inl ())) (fun (b1_:Unit)=>some (.inr (.inr 6)))))
   (cond (decide (1≤(p0_.funs.length:Int)))
   (Option.bind (Jt (decide ((p0_.funs.length:Int)≤8)) 6) (Sum.elim (fun (b2_:Unit)=>some (.inl ())) (fun (b3_:Unit)=>some (.inr (.inr 6)))))
   (Option.bind (Jt false 6) (Sum.elim (fun (b4_:Unit)=>some (.inl ())) (fun (b5_:Unit)=>some (.inr (.inr 6)))))))
   (Option.bind (Jt false 6) (Sum.elim (fun (b6_:Unit)=>some (.inl ())) (fun (b7_:Unit)=>some (.inr (.inr 6)))))) (Sum.elim (fun (b8_:Unit)=>Option.bind (Qq (ZQ p0_) QI 0) (Sum.elim (fun (b9_:Unit)=>Ku p0_) (fun o=>some o))) (fun o=>some o))
def Za (p0_:Dcl):Option (Unit⊕Int) :=
 Option.bind (cond (decide (0≤p0_.params))
   (cond (decide (p0_.params≤8))
   (Option.bind (Jt (decide (0≤p0_.fixed)) 2) (Sum.elim (fun (b0_:Unit)=>some (.inl ())) (fun (b1_:Unit)=>some (.inr (.inr 2)))))
   (Option.bind (Jt false 2) (Sum.elim (fun (b2_:Unit)=>some (.inl ())) (fun (b3_:Unit)=>some (.inr (.inr 2))))))
   (Option.bind (Jt false 2) (Sum.elim (fun (b4_:Unit)=>some (.inl ())) (fun (b5_:Unit)=>some (.inr (.inr 2)))))) (Sum.elim (fun (b6_:Unit)=>GY p0_) (fun o=>some o))
def Kt (p0_:Dcl) (p1_:Bool):Option (Unit⊕Int) :=
 Option.bind (cond (p0_.kind==3)
   (Option.bind (Jt true 3) (Sum.elim (fun (b0_:Unit)=>some (.inl ())) (fun (b1_:Unit)=>some (.inr (.inr 3)))))
   (cond (p0_.fixed==0)
   (cond ((p0_.ctors.length:Int)==0)
   (Option.bind (Jt p1_ 3) (Sum.elim (fun (b2_:Unit)=>some (.inl ())) (fun (b3_:Unit)=>some (.inr (.inr 3)))))
   (Option.bind (Jt false 3) (Sum.elim (fun (b4_:Unit)=>some (.inl ())) (fun (b5_:Unit)=>some (.inr (.inr 3))))))
   (Option.bind (Jt false 3) (Sum.elim (fun (b6_:Unit)=>some (.inl ())) (fun (b7_:Unit)=>some (.inr (.inr 3))))))) (Sum.elim (fun (b8_:Unit)=>Za p0_) (fun o=>some o))
def GX (p0_:Dcl):Option (Unit⊕Int) :=
 Option.bind (cond (!(p0_.kind==4))
   (Option.bind (Jt true 3) (Sum.elim (fun (b0_:Unit)=>some (.inl ())) (fun (b1_:Unit)=>some (.inr (.inr 3)))))
   (cond (p0_.name==([]:List UInt8))
   (Option.bind (UT p0_.ty) fun (b2_:Bool) =>
 Option.bind (Jt b2_ 3) (Sum.elim (fun (b3_:Unit)=>some (.inl ())) (fun (b4_:Unit)=>some (.inr (.inr 3)))))
   (Option.bind (Jt false 3) (Sum.elim (fun (b5_:Unit)=>some (.inl ())) (fun (b6_:Unit)=>some (.inr (.inr 3))))))) (Sum.elim (fun (b7_:Unit)=>Option.bind (cond (p0_.rcr.params==0)
   (Option.bind (UT p0_.rcr.ty) fun (b0_:Bool) =>
 cond b0_
   (some ((p0_.rcr.rules.length:Int)==0))
   (some false))
   (some false)) (fun (b8_:Bool)=>Kt p0_ b8_)) (fun o=>some o))
def GW (p0_:Dcl):Option (Unit⊕Int) :=
 Option.bind (cond (p0_.kind==4)
   (Option.bind (Jt true 3) (Sum.elim (fun (b0_:Unit)=>some (.inl ())) (fun (b1_:Unit)=>some (.inr (.inr 3)))))
   (Option.bind (Jt ((p0_.funs.length:Int)==0) 3) (Sum.elim (fun (b2_:Unit)=>some (.inl ())) (fun (b3_:Unit)=>some (.inr (.inr 3)))))) (Sum.elim (fun (b4_:Unit)=>GX p0_) (fun o=>some o))
def Gg (p0_:Bool) (p1_:Dcl):Option (Unit⊕Int) :=
 Option.bind (cond p0_
   (Option.bind (Jt true 3) (Sum.elim (fun (b0_:Unit)=>some (.inl ())) (fun (b1_:Unit)=>some (.inr (.inr 3)))))
   (Option.bind (UT p1_.value) fun (b2_:Bool) =>
 Option.bind (Jt b2_ 3) (Sum.elim (fun (b3_:Unit)=>some (.inl ())) (fun (b4_:Unit)=>some (.inr (.inr 3)))))) (Sum.elim (fun (b5_:Unit)=>GW p1_) (fun o=>some o))
def Ws (a0:Dcl):Option (Unit⊕Int) :=
 Option.bind (cond (decide (0≤a0.kind))
   (Option.bind (Jt (decide (a0.kind≤4)) 1) (Sum.elim (fun (x4:Unit)=>some (.inl ())) (fun (x5:Unit)=>some (.inr (.inr 1)))))
   (Option.bind (Jt false 1) (Sum.elim (fun (x7:Unit)=>some (.inl ())) (fun (x8:Unit)=>some (.inr (.inr 1)))))) (Sum.elim (fun (v1:Unit)=>Option.bind (cond (a0.kind==1)
   (some true)
   (some (a0.kind==2))) (fun (v2:Bool)=>Gg v2 a0)) (fun o=>some o))
theorem m44f5_ok (a0:Dcl) (r:Unit⊕Int) (h0:Ws a0=some r):CallE Try.prog 44 [.agg (DZ a0)] ⟨[],[],0⟩ ((Sum.elim (fun (r0:Unit)=>((.ret []):EK)) (fun (r1:Int)=>((.pan (QG 90 r1)):EK))) r) ⟨((Sum.elim (fun (r0:Unit)=>(⟨[],[],[],1,210,[]⟩:St)) (fun (r1:Int)=>(⟨[],[],[],1,210,[]⟩:St))) r).hp,((Sum.elim (fun (r0:Unit)=>(⟨[],[],[],1,210,[]⟩:St)) (fun (r1:Int)=>(⟨[],[],[],1,210,[]⟩:St))) r).tk,((Sum.elim (fun (r0:Unit)=>(⟨[],[],[],1,210,[]⟩:St)) (fun (r1:Int)=>(⟨[],[],[],1,210,[]⟩:St))) r).nx⟩:=by
 unfold Ws at h0
 refine JG r ((Sum.elim (fun (r0:Unit)=>(⟨[],[],[],1,210,[]⟩:St)) (fun (r1:Int)=>(⟨[],[],[],1,210,[]⟩:St)))) ((Sum.elim (fun (r0:Unit)=>((.ret []):EK)) (fun (r1:Int)=>((.pan (QG 90 r1)):EK)))) rfl rfl en_44 (DM rfl) (fun z_=>by cases z_ with
 | inl _=>exact rfl
 | inr _=>exact rfl) (fun z_=>by cases z_ with
 | inl _=>exact (Uu .nil)
 | inr _=>exact UE) (fun w0 M V0 Q hv0 hQ0=>?_)
 simp only [Jb]
 refine Q6<|Q0<|Q9 Z Z (DM Z) (QV Z)<|Q3<|Q4<|Q6 ?_
 refine QO (fun (v1:Unit)=>⟨[(1,.v (.one (.ptr 0 0)))],[(0,.cells 45 (DZ a0))],[],1,210,[]⟩) (fun (v1:Unit)=>(Option.bind (cond (a0.kind==1)
     (some true)
     (some (a0.kind==2))) (fun (v2:Bool)=>Gg v2 a0))=some r) ?_ ?_
 refine Qd h0 (fun w1_ h1 h0=>?_)
 refine Q0<|DD Z Z Z (Q2 Yg Z)<|DD Z Z Z (Q5 QN Z Z Z)<|DD Z Z Z (Q8 Z Z Z)<|DE Z Z Z ?_
 refine QA (d:=19) (c:=(decide (0≤a0.kind))) Z (fun c2=>?_) (fun c2=>?_)
 replace h1:=Qi c2 h1
 refine DD Z Z Z (Q2 Yg Z)<|DD Z Z Z (Q5 QN Z Z Z)<|DD Z Z Z (Q8 Z Z Z)<|DD Z Z Z (Qe Z Z) ?_
 refine Qd h1 (fun x3 hx3 h1=>?_)
 refine JL id hx3 h1 (fun x4 hx4 h1=>?_) (fun x5 hx5 h1=>?_)
 refine Q9 Z Z (DM Z) (Qx Z Z Z (CallE.m (Qu (decide (a0.kind≤4)) 1 (.inl x4) hx4)) Z)<|Q3 ?_
 have e:=DB h1;subst e
 replace h0:=Kp h0
 exact Qb () (DA (Nat.le_trans hv0 (DM Z)) Z Z Z Z Z) h0
 refine J6 Z (QF Z Z Z (CallE.d (Qu (decide (a0.kind≤4)) 1 (.inr x5) hx5))) ?_
 have e:=DB h1;subst e
 replace h0:=KY h0
 have e:=DB h0;subst e
 exact Ji (hQ0 (.panic (Jr (QG 90 1))) _ ZC Z (show StLe _ _ ⟨[],[],[],1,210,[]⟩ from (DA (Nat.le_trans hv0 (DM Z)) Z Z Z Z Z))) (fun _ _ h=>h)
 replace h1:=Qj c2 h1
 refine Q7 Z Z<|Q7 Z Z<|Q7 Z Z<|DD Z Z Z (Qa Z Z) ?_
 refine Qd h1 (fun x6 hx6 h1=>?_)
 refine JL id hx6 h1 (fun x7 hx7 h1=>?_) (fun x8 hx8 h1=>?_)
 refine Q9 Z Z (DM Z) (Qx Z Z Z (CallE.m (Qu false 1 (.inl x7) hx7)) Z)<|Q3 ?_
 have e:=DB h1;subst e
 replace h0:=Kp h0
 exact Qb () (DA (Nat.le_trans hv0 (DM Z)) Z Z Z Z Z) h0
 refine J6 Z (QF Z Z Z (CallE.d (Qu false 1 (.inr x8) hx8))) ?_
 have e:=DB h1;subst e
 replace h0:=KY h0
 have e:=DB h0;subst e
 exact Ji (hQ0 (.panic (Jr (QG 90 1))) _ ZC Z (show StLe _ _ ⟨[],[],[],1,210,[]⟩ from (DA (Nat.le_trans hv0 (DM Z)) Z Z Z Z Z))) (fun _ _ h=>h)
 intro v1 h0
 refine Q4<|Q6 ?_
 refine QO (fun (v9:Bool)=>⟨[(1,.v (.one (.ptr 0 0))),(2,.v (.one (DX v9)))],[(0,.cells 45 (DZ a0))],[],1,210,[]⟩) (fun (v9:Bool)=>(Gg v9 a0)=some r) ?_ ?_
 refine Qd h0 (fun w1_ h1 h0=>?_)
 refine Q0<|DD Z Z Z (Q2 Yg Z)<|DD Z Z Z (Q5 QN Z Z Z)<|DD Z Z Z (Q8 Z Z Z)<|DE Z Z Z ?_
 refine QA (d:=28) (c:=(a0.kind==1)) Z (fun c10=>?_) (fun c10=>?_)
 replace h1:=Qi c10 h1
 refine Q7 Z Z<|Q7 Z Z<|Q7 Z Z<|DD Z Z Z (Qe Z Z)<|DF Z Z Z<|Q3 ?_
 have e:=DB h1;subst e
 exact Qb true (DA (Nat.le_trans hv0 (DM Z)) Z Z Z Z Z) h0
 replace h1:=Qj c10 h1
 refine DD Z Z Z (Q2 Yg Z)<|DD Z Z Z (Q5 QN Z Z Z)<|DD Z Z Z (Q8 Z Z Z)<|DD Z Z Z (Qa Z Z)<|DF Z Z Z<|Q3 ?_
 have e:=DB h1;subst e
 exact Qb (a0.kind==2) (DA (Nat.le_trans hv0 (DM Z)) Z Z Z Z Z) h0
 intro v9 h0
 unfold Gg at h0
 refine Q4<|Q6<|Q0<|DD Z Z Z (Q2 Yg Z)<|DD Z Z Z (Q5 QN Z Z Z)<|DD Z Z Z (Q8 Z Z Z)<|DF Z Z Z<|Q3<|Q4<|Q6<|Q0<|DD Z Z Z (Q2 Yg Z)<|DD Z Z Z (Q5 QN Z Z Z)<|DD Z Z Z (Q8 Z Z Z) ?_
 refine DF Z Z Z<|Q3<|Q4<|Q6 ?_
 refine QO (fun (v11:Unit)=>⟨[(1,.v (.one (.ptr 0 0))),(3,.v (.one (DX (a0.kind==3)))),(4,.v (.one (DX (a0.kind==4))))],[(0,.cells 45 (DZ a0))],[],1,210,[]⟩) (fun (v11:Unit)=>(GW a0)=some r) ?_ ?_
 refine Qd h0 (fun w1_ h1 h0=>?_)
 refine Q0<|DE Z Z Z<|DE Z Z Z ?_
 refine QA (d:=40) (c:=v9) Z (fun c12=>?_) (fun c12=>?_)
 replace h1:=Qi c12 h1
 refine Q7 Z Z<|Q7 Z Z<|Q7 Z Z<|DD Z Z Z (Qe Z Z) ?_
 refine Qd h1 (fun x13 hx13 h1=>?_)
 refine JL id hx13 h1 (fun x14 hx14 h1=>?_) (fun x15 hx15 h1=>?_)
 refine Q9 Z Z (DM Z) (Qx Z Z Z (CallE.m (Qu true 3 (.inl x14) hx14)) Z)<|Q3 ?_
 have e:=DB h1;subst e
 replace h0:=Kp h0
 exact Qb () (DA (Nat.le_trans hv0 (DM Z)) Z Z Z Z Z) h0
 refine J6 Z (QF Z Z Z (CallE.d (Qu true 3 (.inr x15) hx15))) ?_
 have e:=DB h1;subst e
 replace h0:=KY h0
 have e:=DB h0;subst e
 exact Ji (hQ0 (.panic (Jr (QG 90 3))) _ ZC Z (show StLe _ _ ⟨[],[],[],1,210,[]⟩ from (DA (Nat.le_trans hv0 (DM Z)) Z Z Z Z Z))) (fun _ _ h=>h)
 replace h1:=Qj c12 h1
 refine DD Z Z Z (Q2 fo_45_4 Z)<|DD Z Z Z (Qk QX Z Z Z Z) ?_
 refine Qd h1 (fun x16 hx16 h1=>?_)
 refine Q9 Z Z (DM Z) (Qo (WF a0.value x16 hx16) Z (.cons (.agg (.cons (.d _) (.cons (.d _) (.cons (.d _) (.cons (.d _) (.cons (.d _) .nil)))))) .nil))<|DD Z Z Z (Qa Z Z) ?_
 refine Qd h1 (fun x17 hx17 h1=>?_)
 refine JL id hx17 h1 (fun x18 hx18 h1=>?_) (fun x19 hx19 h1=>?_)
 refine Q9 Z Z (DM Z) (Qx Z Z Z (CallE.m (Qu x16 3 (.inl x18) hx18)) Z)<|Q3 ?_
 have e:=DB h1;subst e
 replace h0:=Kp h0
 exact Qb () (DA (Nat.le_trans hv0 (DM Z)) Z Z Z Z Z) h0
 refine J6 Z (QF Z Z Z (CallE.d (Qu x16 3 (.inr x19) hx19))) ?_
 have e:=DB h1;subst e
 replace h0:=KY h0
 have e:=DB h0;subst e
 exact Ji (hQ0 (.panic (Jr (QG 90 3))) _ ZC Z (show StLe _ _ ⟨[],[],[],1,210,[]⟩ from (DA (Nat.le_trans hv0 (DM Z)) Z Z Z Z Z))) (fun _ _ h=>h)
 intro v11 h0
 unfold GW at h0
 refine Q4<|Q6 ?_
 refine QO (fun (v20:Unit)=>⟨[(1,.v (.one (.ptr 0 0))),(3,.v (.one (DX (a0.kind==3)))),(4,.v (.one (DX (a0.kind==4))))],[(0,.cells 45 (DZ a0))],[],1,210,[]⟩) (fun (v20:Unit)=>(GX a0)=some r) ?_ ?_
 refine Qd h0 (fun w1_ h1 h0=>?_)
 refine Q0<|DE Z Z Z<|DE Z Z Z ?_
 refine QA (d:=47) (c:=(a0.kind==4)) Z (fun c21=>?_) (fun c21=>?_)
 replace h1:=Qi c21 h1
 refine Q7 Z Z<|Q7 Z Z<|Q7 Z Z<|Q7 Z Z<|DD Z Z Z (Qe Z Z) ?_
 refine Qd h1 (fun x22 hx22 h1=>?_)
 refine JL id hx22 h1 (fun x23 hx23 h1=>?_) (fun x24 hx24 h1=>?_)
 refine Q9 Z Z (DM Z) (Qx Z Z Z (CallE.m (Qu true 3 (.inl x23) hx23)) Z)<|Q3 ?_
 have e:=DB h1;subst e
 replace h0:=Kp h0
 exact Qb () (DA (Nat.le_trans hv0 (DM Z)) Z Z Z Z Z) h0
 refine J6 Z (QF Z Z Z (CallE.d (Qu true 3 (.inr x24) hx24))) ?_
 have e:=DB h1;subst e
 replace h0:=KY h0
 have e:=DB h0;subst e
 exact Ji (hQ0 (.panic (Jr (QG 90 3))) _ ZC Z (show StLe _ _ ⟨[],[],[],1,210,[]⟩ from (DA (Nat.le_trans hv0 (DM Z)) Z Z Z Z Z))) (fun _ _ h=>h)
 replace h1:=Qj c21 h1
 refine DD Z Z Z (Q2 YF Z)<|DD Z Z Z (Q5 K6 Z Z Z)<|DD Z Z Z (QD (α:=Fn) YT Z (.d _))<|DD Z Z Z (Q8 Z Z Z)<|DD Z Z Z (Qa Z Z) ?_
 refine Qd h1 (fun x25 hx25 h1=>?_)
 refine JL id hx25 h1 (fun x26 hx26 h1=>?_) (fun x27 hx27 h1=>?_)
 refine Q9 Z Z (DM Z) (Qx Z Z Z (CallE.m (Qu ((a0.funs.length:Int)==0) 3 (.inl x26) hx26)) Z)<|Q3 ?_
 have e:=DB h1;subst e
 replace h0:=Kp h0
 exact Qb () (DA (Nat.le_trans hv0 (DM Z)) Z Z Z Z Z) h0
 refine J6 Z (QF Z Z Z (CallE.d (Qu ((a0.funs.length:Int)==0) 3 (.inr x27) hx27))) ?_
 have e:=DB h1;subst e
 replace h0:=KY h0
 have e:=DB h0;subst e
 exact Ji (hQ0 (.panic (Jr (QG 90 3))) _ ZC Z (show StLe _ _ ⟨[],[],[],1,210,[]⟩ from (DA (Nat.le_trans hv0 (DM Z)) Z Z Z Z Z))) (fun _ _ h=>h)
 intro v20 h0
 unfold GX at h0
 refine Q4<|Q6 ?_
 refine QO (fun (v28:Unit)=>⟨[(1,.v (.one (.ptr 0 0))),(3,.v (.one (DX (a0.kind==3)))),(4,.v (.one (DX (a0.kind==4))))],[(0,.cells 45 (DZ a0))],[],1,210,[]⟩) (fun (v28:Unit)=>(Option.bind (cond (a0.rcr.params==0)
     (Option.bind (UT a0.rcr.ty) fun (x31:Bool) =>
   cond x31
     (some ((a0.rcr.rules.length:Int)==0))
     (some false))
     (some false)) (fun (v29:Bool)=>Kt a0 v29))=some r) ?_ ?_
 refine Qd h0 (fun w1_ h1 h0=>?_)
 refine Q0<|DE Z Z Z<|DD Z Z Z (Jj Z)<|DE Z Z Z ?_
 refine QA (d:=56) (c:=(!(a0.kind==4))) Z (fun c29=>?_) (fun c29=>?_)
 replace h1:=Qi c29 h1
 refine Q7 Z Z<|Q7 Z Z<|Q7 Z Z<|Q7 Z Z<|Q7 Z Z<|Q7 Z Z<|Q7 Z Z<|Q7 Z Z<|DD Z Z Z (Qe Z Z) ?_
 refine Qd h1 (fun x30 hx30 h1=>?_)
 refine JL id hx30 h1 (fun x31 hx31 h1=>?_) (fun x32 hx32 h1=>?_)
 refine Q9 Z Z (DM Z) (Qx Z Z Z (CallE.m (Qu true 3 (.inl x31) hx31)) Z)<|Q3 ?_
 have e:=DB h1;subst e
 replace h0:=Kp h0
 exact Qb () (DA (Nat.le_trans hv0 (DM Z)) Z Z Z Z Z) h0
 refine J6 Z (QF Z Z Z (CallE.d (Qu true 3 (.inr x32) hx32))) ?_
 have e:=DB h1;subst e
 replace h0:=KY h0
 have e:=DB h0;subst e
 exact Ji (hQ0 (.panic (Jr (QG 90 3))) _ ZC Z (show StLe _ _ ⟨[],[],[],1,210,[]⟩ from (DA (Nat.le_trans hv0 (DM Z)) Z Z Z Z Z))) (fun _ _ h=>h)
 replace h1:=Qj c29 h1
 refine DD Z Z Z (Q2 Yb Z)<|DD Z Z Z (Q5 JT Z Z Z)<|DD Z Z Z (GJ Z Z)<|DE Z Z Z ?_
 refine QA (d:=60) (c:=(a0.name==([]:List UInt8))) Z (fun c33=>?_) (fun c33=>?_)
 replace h1:=Qi c33 h1
 refine DD Z Z Z (Q2 KU Z)<|DD Z Z Z (Qk QX Z Z Z Z) ?_
 refine Qd h1 (fun x34 hx34 h1=>?_)
 refine Q9 Z Z (DM Z) (Qo (WF a0.ty x34 hx34) Z (.cons (.agg (.cons (.d _) (.cons (.d _) (.cons (.d _) (.cons (.d _) (.cons (.d _) .nil)))))) .nil))<|DD Z Z Z (Qe Z Z)<|DD Z Z Z (Qa Z Z) ?_
 refine Qd h1 (fun x35 hx35 h1=>?_)
 refine JL id hx35 h1 (fun x36 hx36 h1=>?_) (fun x37 hx37 h1=>?_)
 refine Q9 Z Z (DM Z) (Qx Z Z Z (CallE.m (Qu x34 3 (.inl x36) hx36)) Z)<|Q3 ?_
 have e:=DB h1;subst e
 replace h0:=Kp h0
 exact Qb () (DA (Nat.le_trans hv0 (DM Z)) Z Z Z Z Z) h0
 refine J6 Z (QF Z Z Z (CallE.d (Qu x34 3 (.inr x37) hx37))) ?_
 have e:=DB h1;subst e
 replace h0:=KY h0
 have e:=DB h0;subst e
 exact Ji (hQ0 (.panic (Jr (QG 90 3))) _ ZC Z (show StLe _ _ ⟨[],[],[],1,210,[]⟩ from (DA (Nat.le_trans hv0 (DM Z)) Z Z Z Z Z))) (fun _ _ h=>h)
 replace h1:=Qj c33 h1
 refine Q7 Z Z<|Q7 Z Z<|Q7 Z Z<|DD Z Z Z (Qa Z Z)<|DD Z Z Z (Qa Z Z) ?_
 refine Qd h1 (fun x38 hx38 h1=>?_)
 refine JL id hx38 h1 (fun x39 hx39 h1=>?_) (fun x40 hx40 h1=>?_)
 refine Q9 Z Z (DM Z) (Qx Z Z Z (CallE.m (Qu false 3 (.inl x39) hx39)) Z)<|Q3 ?_
 have e:=DB h1;subst e
 replace h0:=Kp h0
 exact Qb () (DA (Nat.le_trans hv0 (DM Z)) Z Z Z Z Z) h0
 refine J6 Z (QF Z Z Z (CallE.d (Qu false 3 (.inr x40) hx40))) ?_
 have e:=DB h1;subst e
 replace h0:=KY h0
 have e:=DB h0;subst e
 exact Ji (hQ0 (.panic (Jr (QG 90 3))) _ ZC Z (show StLe _ _ ⟨[],[],[],1,210,[]⟩ from (DA (Nat.le_trans hv0 (DM Z)) Z Z Z Z Z))) (fun _ _ h=>h)
 intro v28 h0
 refine Q4<|Q6 ?_
 refine QO (fun (v41:Bool)=>⟨[(1,.v (.one (.ptr 0 0))),(3,.v (.one (DX (a0.kind==3)))),(4,.v (.one (DX (a0.kind==4)))),(5,.v (.one (DX v41)))],[(0,.cells 45 (DZ a0))],[],1,210,[]⟩) (fun (v41:Bool)=>(Kt a0 v41)=some r) ?_ ?_
 refine Qd h0 (fun w1_ h1 h0=>?_)
 refine Q0<|DD Z Z Z (Q2 JU Z)<|DD Z Z Z (Q2 KV Z)<|DD Z Z Z (Q5 QN Z Z Z)<|DD Z Z Z (Q8 Z Z Z)<|DE Z Z Z ?_
 refine QA (d:=71) (c:=(a0.rcr.params==0)) Z (fun c42=>?_) (fun c42=>?_)
 replace h1:=Qi c42 h1
 refine DD Z Z Z (Q2 JU Z)<|DD Z Z Z (Q2 GF Z)<|DD Z Z Z (Qk QX Z Z Z Z) ?_
 refine Qd h1 (fun x43 hx43 h1=>?_)
 refine Q9 Z Z (DM Z) (Qo (WF a0.rcr.ty x43 hx43) Z (.cons (.agg (.cons (.d _) (.cons (.d _) (.cons (.d _) (.cons (.d _) (.cons (.d _) .nil)))))) .nil))<|DD Z Z Z (Qe Z Z)<|DE Z Z Z ?_
 refine QA (d:=77) (c:=x43) Z (fun c44=>?_) (fun c44=>?_)
 replace h1:=Qi c44 h1
 refine DD Z Z Z (Q2 JU Z)<|DD Z Z Z (Q2 GE Z)<|DD Z Z Z (Q5 Yj Z Z Z)<|DD Z Z Z (QD (α:=Tm) JC Z (.d _))<|DD Z Z Z (Q8 Z Z Z)<|DD Z Z Z (Qe Z Z)<|DF Z Z Z<|Q3 ?_
 have e:=DB h1;subst e
 exact Qb ((a0.rcr.rules.length:Int)==0) (DA (Nat.le_trans hv0 (DM Z)) Z Z Z Z Z) h0
 replace h1:=Qj c44 h1
 refine Q7 Z Z<|Q7 Z Z<|Q7 Z Z<|Q7 Z Z<|Q7 Z Z<|DD Z Z Z (Qa Z Z)<|DF Z Z Z<|Q3 ?_
 have e:=DB h1;subst e
 exact Qb false (DA (Nat.le_trans hv0 (DM Z)) Z Z Z Z Z) h0
 replace h1:=Qj c42 h1
 refine Q7 Z Z<|Q7 Z Z<|Q7 Z Z<|Q7 Z Z<|DD Z Z Z (Qa Z Z)<|DE Z Z Z<|Q7 Z Z<|Q7 Z Z<|Q7 Z Z<|Q7 Z Z<|Q7 Z Z<|DD Z Z Z (Qa Z Z)<|DF Z Z Z<|Q3 ?_
 have e:=DB h1;subst e
 exact Qb false (DA (Nat.le_trans hv0 (DM Z)) Z Z Z Z Z) h0
 intro v41 h0
 unfold Kt at h0
 refine Q4<|Q6 ?_
 refine QO (fun (v45:Unit)=>⟨[(1,.v (.one (.ptr 0 0))),(3,.v (.one (DX (a0.kind==3)))),(4,.v (.one (DX (a0.kind==4))))],[(0,.cells 45 (DZ a0))],[],1,210,[]⟩) (fun (v45:Unit)=>(Za a0)=some r) ?_ ?_
 refine Qd h0 (fun w1_ h1 h0=>?_)
 refine Q0<|DE Z Z Z<|DE Z Z Z ?_
 refine QA (d:=85) (c:=(a0.kind==3)) Z (fun c46=>?_) (fun c46=>?_)
 replace h1:=Qi c46 h1
 refine Q7 Z Z<|Q7 Z Z<|Q7 Z Z<|Q7 Z Z<|Q7 Z Z<|Q7 Z Z<|Q7 Z Z<|Q7 Z Z<|Q7 Z Z<|Q7 Z Z<|Q7 Z Z<|Q7 Z Z<|DD Z Z Z (Qe Z Z) ?_
 refine Qd h1 (fun x47 hx47 h1=>?_)
 refine JL id hx47 h1 (fun x48 hx48 h1=>?_) (fun x49 hx49 h1=>?_)
 refine Q9 Z Z (DM Z) (Qx Z Z Z (CallE.m (Qu true 3 (.inl x48) hx48)) Z)<|Q3 ?_
 have e:=DB h1;subst e
 replace h0:=Kp h0
 exact Qb () (DA (Nat.le_trans hv0 (DM Z)) Z Z Z Z Z) h0
 refine J6 Z (QF Z Z Z (CallE.d (Qu true 3 (.inr x49) hx49))) ?_
 have e:=DB h1;subst e
 replace h0:=KY h0
 have e:=DB h0;subst e
 exact Ji (hQ0 (.panic (Jr (QG 90 3))) _ ZC Z (show StLe _ _ ⟨[],[],[],1,210,[]⟩ from (DA (Nat.le_trans hv0 (DM Z)) Z Z Z Z Z))) (fun _ _ h=>h)
 replace h1:=Qj c46 h1
 refine DD Z Z Z (Q2 fo_45_5 Z)<|DD Z Z Z (Q5 QN Z Z Z)<|DD Z Z Z (Q8 Z Z Z)<|DE Z Z Z ?_
 refine QA (d:=89) (c:=(a0.fixed==0)) Z (fun c50=>?_) (fun c50=>?_)
 replace h1:=Qi c50 h1
 refine DD Z Z Z (Q2 Yz Z)<|DD Z Z Z (Q5 ZY Z Z Z)<|DD Z Z Z (QD (α:=Ctr) YL Z (.d _))<|DD Z Z Z (Q8 Z Z Z)<|DD Z Z Z (Qe Z Z)<|DE Z Z Z ?_
 refine QA (d:=95) (c:=((a0.ctors.length:Int)==0)) Z (fun c51=>?_) (fun c51=>?_)
 replace h1:=Qi c51 h1
 refine DE Z Z Z<|DD Z Z Z (Qe Z Z)<|DD Z Z Z (Qa Z Z) ?_
 refine Qd h1 (fun x52 hx52 h1=>?_)
 refine JL id hx52 h1 (fun x53 hx53 h1=>?_) (fun x54 hx54 h1=>?_)
 refine Q9 Z Z (DM Z) (Qx Z Z Z (CallE.m (Qu v41 3 (.inl x53) hx53)) Z)<|Q3 ?_
 have e:=DB h1;subst e
 replace h0:=Kp h0
 exact Qb () (DA (Nat.le_trans hv0 (DM Z)) Z Z Z Z Z) h0
 refine J6 Z (QF Z Z Z (CallE.d (Qu v41 3 (.inr x54) hx54))) ?_
 have e:=DB h1;subst e
 replace h0:=KY h0
 have e:=DB h0;subst e
 exact Ji (hQ0 (.panic (Jr (QG 90 3))) _ ZC Z (show StLe _ _ ⟨[],[],[],1,210,[]⟩ from (DA (Nat.le_trans hv0 (DM Z)) Z Z Z Z Z))) (fun _ _ h=>h)
 replace h1:=Qj c51 h1
 refine Q7 Z Z<|DD Z Z Z (Qa Z Z)<|DD Z Z Z (Qa Z Z) ?_
 refine Qd h1 (fun x55 hx55 h1=>?_)
 refine JL id hx55 h1 (fun x56 hx56 h1=>?_) (fun x57 hx57 h1=>?_)
 refine Q9 Z Z (DM Z) (Qx Z Z Z (CallE.m (Qu false 3 (.inl x56) hx56)) Z)<|Q3 ?_
 have e:=DB h1;subst e
 replace h0:=Kp h0
 exact Qb () (DA (Nat.le_trans hv0 (DM Z)) Z Z Z Z Z) h0
 refine J6 Z (QF Z Z Z (CallE.d (Qu false 3 (.inr x57) hx57))) ?_
 have e:=DB h1;subst e
 replace h0:=KY h0
 have e:=DB h0;subst e
 exact Ji (hQ0 (.panic (Jr (QG 90 3))) _ ZC Z (show StLe _ _ ⟨[],[],[],1,210,[]⟩ from (DA (Nat.le_trans hv0 (DM Z)) Z Z Z Z Z))) (fun _ _ h=>h)
 replace h1:=Qj c50 h1
 refine Q7 Z Z<|Q7 Z Z<|Q7 Z Z<|Q7 Z Z<|DD Z Z Z (Qa Z Z)<|DE Z Z Z<|Q7 Z Z<|DD Z Z Z (Qa Z Z)<|DD Z Z Z (Qa Z Z) ?_
 refine Qd h1 (fun x58 hx58 h1=>?_)
 refine JL id hx58 h1 (fun x59 hx59 h1=>?_) (fun x60 hx60 h1=>?_)
 refine Q9 Z Z (DM Z) (Qx Z Z Z (CallE.m (Qu false 3 (.inl x59) hx59)) Z)<|Q3 ?_
 have e:=DB h1;subst e
 replace h0:=Kp h0
 exact Qb () (DA (Nat.le_trans hv0 (DM Z)) Z Z Z Z Z) h0
 refine J6 Z (QF Z Z Z (CallE.d (Qu false 3 (.inr x60) hx60))) ?_
 have e:=DB h1;subst e
 replace h0:=KY h0
 have e:=DB h0;subst e
 exact Ji (hQ0 (.panic (Jr (QG 90 3))) _ ZC Z (show StLe _ _ ⟨[],[],[],1,210,[]⟩ from (DA (Nat.le_trans hv0 (DM Z)) Z Z Z Z Z))) (fun _ _ h=>h)
 intro v45 h0
 unfold Za at h0
 refine Q4<|Q6 ?_
 refine QO (fun (v61:Unit)=>⟨[(1,.v (.one (.ptr 0 0))),(3,.v (.one (DX (a0.kind==3)))),(4,.v (.one (DX (a0.kind==4))))],[(0,.cells 45 (DZ a0))],[],1,210,[]⟩) (fun (v61:Unit)=>(GY a0)=some r) ?_ ?_
 refine Qd h0 (fun w1_ h1 h0=>?_)
 refine Q0<|DD Z Z Z (Q2 Ya Z)<|DD Z Z Z (Q5 QN Z Z Z)<|DD Z Z Z (Q8 Z Z Z)<|DE Z Z Z ?_
 refine QA (d:=103) (c:=(decide (0≤a0.params))) Z (fun c62=>?_) (fun c62=>?_)
 replace h1:=Qi c62 h1
 refine DD Z Z Z (Q2 Ya Z)<|DD Z Z Z (Q5 QN Z Z Z)<|DD Z Z Z (Q8 Z Z Z)<|DD Z Z Z (Qe Z Z)<|DE Z Z Z ?_
 refine QA (d:=108) (c:=(decide (a0.params≤8))) Z (fun c63=>?_) (fun c63=>?_)
 replace h1:=Qi c63 h1
 refine DD Z Z Z (Q2 fo_45_5 Z)<|DD Z Z Z (Q5 QN Z Z Z)<|DD Z Z Z (Q8 Z Z Z)<|DD Z Z Z (Qe Z Z) ?_
 refine Qd h1 (fun x64 hx64 h1=>?_)
 refine JL id hx64 h1 (fun x65 hx65 h1=>?_) (fun x66 hx66 h1=>?_)
 refine Q9 Z Z (DM Z) (Qx Z Z Z (CallE.m (Qu (decide (0≤a0.fixed)) 2 (.inl x65) hx65)) Z)<|Q3 ?_
 have e:=DB h1;subst e
 replace h0:=Kp h0
 exact Qb () (DA (Nat.le_trans hv0 (DM Z)) Z Z Z Z Z) h0
 refine J6 Z (QF Z Z Z (CallE.d (Qu (decide (0≤a0.fixed)) 2 (.inr x66) hx66))) ?_
 have e:=DB h1;subst e
 replace h0:=KY h0
 have e:=DB h0;subst e
 exact Ji (hQ0 (.panic (Jr (QG 90 2))) _ ZC Z (show StLe _ _ ⟨[],[],[],1,210,[]⟩ from (DA (Nat.le_trans hv0 (DM Z)) Z Z Z Z Z))) (fun _ _ h=>h)
 replace h1:=Qj c63 h1
 refine Q7 Z Z<|Q7 Z Z<|Q7 Z Z<|DD Z Z Z (Qa Z Z) ?_
 refine Qd h1 (fun x67 hx67 h1=>?_)
 refine JL id hx67 h1 (fun x68 hx68 h1=>?_) (fun x69 hx69 h1=>?_)
 refine Q9 Z Z (DM Z) (Qx Z Z Z (CallE.m (Qu false 2 (.inl x68) hx68)) Z)<|Q3 ?_
 have e:=DB h1;subst e
 replace h0:=Kp h0
 exact Qb () (DA (Nat.le_trans hv0 (DM Z)) Z Z Z Z Z) h0
 refine J6 Z (QF Z Z Z (CallE.d (Qu false 2 (.inr x69) hx69))) ?_
 have e:=DB h1;subst e
 replace h0:=KY h0
 have e:=DB h0;subst e
 exact Ji (hQ0 (.panic (Jr (QG 90 2))) _ ZC Z (show StLe _ _ ⟨[],[],[],1,210,[]⟩ from (DA (Nat.le_trans hv0 (DM Z)) Z Z Z Z Z))) (fun _ _ h=>h)
 replace h1:=Qj c62 h1
 refine Q7 Z Z<|Q7 Z Z<|Q7 Z Z<|DD Z Z Z (Qa Z Z)<|DE Z Z Z<|Q7 Z Z<|Q7 Z Z<|Q7 Z Z<|DD Z Z Z (Qa Z Z) ?_
 refine Qd h1 (fun x70 hx70 h1=>?_)
 refine JL id hx70 h1 (fun x71 hx71 h1=>?_) (fun x72 hx72 h1=>?_)
 refine Q9 Z Z (DM Z) (Qx Z Z Z (CallE.m (Qu false 2 (.inl x71) hx71)) Z)<|Q3 ?_
 have e:=DB h1;subst e
 replace h0:=Kp h0
 exact Qb () (DA (Nat.le_trans hv0 (DM Z)) Z Z Z Z Z) h0
 refine J6 Z (QF Z Z Z (CallE.d (Qu false 2 (.inr x72) hx72))) ?_
 have e:=DB h1;subst e
 replace h0:=KY h0
 have e:=DB h0;subst e
 exact Ji (hQ0 (.panic (Jr (QG 90 2))) _ ZC Z (show StLe _ _ ⟨[],[],[],1,210,[]⟩ from (DA (Nat.le_trans hv0 (DM Z)) Z Z Z Z Z))) (fun _ _ h=>h)
 intro v61 h0
 unfold GY at h0
 refine Q4<|Q6 ?_
 refine QO (fun (v73:Unit)=>⟨[(1,.v (.one (.ptr 0 0))),(3,.v (.one (DX (a0.kind==3))))],[(0,.cells 45 (DZ a0))],[],1,210,[]⟩) (fun (v73:Unit)=>(Option.bind (Qq (ZQ a0) QI 0) (Sum.elim (fun (o74:Unit)=>Ku a0) (fun o=>some o)))=some r) ?_ ?_
 refine Qd h0 (fun w1_ h1 h0=>?_)
 refine Q0<|DD Z Z Z (Q2 Yz Z)<|DD Z Z Z (Q5 ZY Z Z Z)<|DD Z Z Z (QD (α:=Ctr) YL Z (.d _))<|DD Z Z Z (Q8 Z Z Z)<|DE Z Z Z ?_
 refine QA (d:=118) (c:=(decide ((a0.ctors.length:Int)≤32))) Z (fun c74=>?_) (fun c74=>?_)
 replace h1:=Qi c74 h1
 refine DE Z Z Z<|DD Z Z Z (Jj Z)<|DE Z Z Z ?_
 refine QA (d:=121) (c:=(!(a0.kind==4))) Z (fun c75=>?_) (fun c75=>?_)
 replace h1:=Qi c75 h1
 refine Q7 Z Z<|Q7 Z Z<|Q7 Z Z<|Q7 Z Z<|Q7 Z Z<|Q7 Z Z<|Q7 Z Z<|Q7 Z Z<|Q7 Z Z<|Q7 Z Z<|DD Z Z Z (Qe Z Z)<|DD Z Z Z (Qe Z Z) ?_
 refine Qd h1 (fun x76 hx76 h1=>?_)
 refine JL id hx76 h1 (fun x77 hx77 h1=>?_) (fun x78 hx78 h1=>?_)
 refine Q9 Z Z (DM Z) (Qx Z Z Z (CallE.m (Qu true 6 (.inl x77) hx77)) Z)<|Q3 ?_
 have e:=DB h1;subst e
 replace h0:=Kp h0
 exact Qb () (DA (Nat.le_trans hv0 (DM Z)) Z Z Z Z Z) h0
 refine J6 Z (QF Z Z Z (CallE.d (Qu true 6 (.inr x78) hx78))) ?_
 have e:=DB h1;subst e
 replace h0:=KY h0
 have e:=DB h0;subst e
 exact Ji (hQ0 (.panic (Jr (QG 90 6))) _ ZC Z (show StLe _ _ ⟨[],[],[],1,210,[]⟩ from (DA (Nat.le_trans hv0 (DM Z)) Z Z Z Z Z))) (fun _ _ h=>h)
 replace h1:=Qj c75 h1
 refine DD Z Z Z (Q2 YF Z)<|DD Z Z Z (Q5 K6 Z Z Z)<|DD Z Z Z (QD (α:=Fn) YT Z (.d _))<|DD Z Z Z (Q8 Z Z Z)<|DE Z Z Z ?_
 refine QA (d:=126) (c:=(decide (1≤(a0.funs.length:Int)))) Z (fun c79=>?_) (fun c79=>?_)
 replace h1:=Qi c79 h1
 refine DD Z Z Z (Q2 YF Z)<|DD Z Z Z (Q5 K6 Z Z Z)<|DD Z Z Z (QD (α:=Fn) YT Z (.d _))<|DD Z Z Z (Q8 Z Z Z)<|DD Z Z Z (Qe Z Z)<|DD Z Z Z (Qa Z Z)<|DD Z Z Z (Qe Z Z) ?_
 refine Qd h1 (fun x80 hx80 h1=>?_)
 refine JL id hx80 h1 (fun x81 hx81 h1=>?_) (fun x82 hx82 h1=>?_)
 refine Q9 Z Z (DM Z) (Qx Z Z Z (CallE.m (Qu (decide ((a0.funs.length:Int)≤8)) 6 (.inl x81) hx81)) Z)<|Q3 ?_
 have e:=DB h1;subst e
 replace h0:=Kp h0
 exact Qb () (DA (Nat.le_trans hv0 (DM Z)) Z Z Z Z Z) h0
 refine J6 Z (QF Z Z Z (CallE.d (Qu (decide ((a0.funs.length:Int)≤8)) 6 (.inr x82) hx82))) ?_
 have e:=DB h1;subst e
 replace h0:=KY h0
 have e:=DB h0;subst e
 exact Ji (hQ0 (.panic (Jr (QG 90 6))) _ ZC Z (show StLe _ _ ⟨[],[],[],1,210,[]⟩ from (DA (Nat.le_trans hv0 (DM Z)) Z Z Z Z Z))) (fun _ _ h=>h)
 replace h1:=Qj c79 h1
 refine Q7 Z Z<|Q7 Z Z<|Q7 Z Z<|Q7 Z Z<|DD Z Z Z (Qa Z Z)<|DD Z Z Z (Qa Z Z)<|DD Z Z Z (Qe Z Z) ?_
 refine Qd h1 (fun x83 hx83 h1=>?_)
 refine JL id hx83 h1 (fun x84 hx84 h1=>?_) (fun x85 hx85 h1=>?_)
 refine Q9 Z Z (DM Z) (Qx Z Z Z (CallE.m (Qu false 6 (.inl x84) hx84)) Z)<|Q3 ?_
 have e:=DB h1;subst e
 replace h0:=Kp h0
 exact Qb () (DA (Nat.le_trans hv0 (DM Z)) Z Z Z Z Z) h0
 refine J6 Z (QF Z Z Z (CallE.d (Qu false 6 (.inr x85) hx85))) ?_
 have e:=DB h1;subst e
 replace h0:=KY h0
 have e:=DB h0;subst e
 exact Ji (hQ0 (.panic (Jr (QG 90 6))) _ ZC Z (show StLe _ _ ⟨[],[],[],1,210,[]⟩ from (DA (Nat.le_trans hv0 (DM Z)) Z Z Z Z Z))) (fun _ _ h=>h)
 replace h1:=Qj c74 h1
 refine Q7 Z Z<|Q7 Z Z<|Q7 Z Z<|Q7 Z Z<|Q7 Z Z<|Q7 Z Z<|Q7 Z Z<|Q7 Z Z<|Q7 Z Z<|Q7 Z Z<|Q7 Z Z<|Q7 Z Z<|Q7 Z Z<|Q7 Z Z ?_
 refine DD Z Z Z (Qa Z Z) ?_
 refine Qd h1 (fun x86 hx86 h1=>?_)
 refine JL id hx86 h1 (fun x87 hx87 h1=>?_) (fun x88 hx88 h1=>?_)
 refine Q9 Z Z (DM Z) (Qx Z Z Z (CallE.m (Qu false 6 (.inl x87) hx87)) Z)<|Q3 ?_
 have e:=DB h1;subst e
 replace h0:=Kp h0
 exact Qb () (DA (Nat.le_trans hv0 (DM Z)) Z Z Z Z Z) h0
 refine J6 Z (QF Z Z Z (CallE.d (Qu false 6 (.inr x88) hx88))) ?_
 have e:=DB h1;subst e
 replace h0:=KY h0
 have e:=DB h0;subst e
 exact Ji (hQ0 (.panic (Jr (QG 90 6))) _ ZC Z (show StLe _ _ ⟨[],[],[],1,210,[]⟩ from (DA (Nat.le_trans hv0 (DM Z)) Z Z Z Z Z))) (fun _ _ h=>h)
 intro v73 h0
 refine Q4<|Q6<|Q6<|Q0<|DD Z Z Z (Q2 YF Z)<|DD Z Z Z (Q5 K6 Z Z Z)<|DD Z Z Z (QD (α:=Fn) YT Z (.d _))<|DE Z Z Z<|Q3<|Q4<|Qh ?_
 refine J2 0 (fun (o89:Unit)=>⟨[(1,.v (.one (.ptr 0 0))),(3,.v (.one (DX (a0.kind==3))))],[(0,.cells 45 (DZ a0))],[],1,210,[]⟩) (fun (o89:Unit)=>(Ku a0)=some r) ?_ ?_
 refine Qd h0 (fun o90 hl1 h0=>?_)
 refine J1 (ZQ a0) (fun s1=>⟨[(1,.v (.one (.ptr 0 0))),(3,.v (.one (DX (a0.kind==3)))),(136,.v (.one (DU a0.funs))),(137,.v (.one (DW (a0.funs.length:Int)))),(138,.v (.one (DW s1)))],[(0,.cells 45 (DZ a0))],[],1,210,[]⟩) 0 o90 (DA (Nat.le_trans hv0 (DM Z)) Z Z Z Z Z) hl1 (fun s1 n1 oo1 h1 ho1=>?_)
 unfold ZQ at h1
 refine Q6<|Q0<|DD Z Z Z (Q8 Z Z Z)<|Q3<|Q4<|Q6 ?_
 refine Qg (b:=(decide (s1 < (a0.funs.length:Int)))) Z (fun c91=>?_) (fun c91=>?_)
 replace h1:=Qi c91 h1
 refine Qn<|Q4<|Q6<|Qh<|Q6<|Q0 ?_
 refine Qd h1 (fun x92 hx92 h1=>?_)
 refine DD Z Z Z (Qy (α:=Fn) YT Z (.d _) Z hx92)<|DD Z Z Z (Qt (x92:Fn) K4 Z)<|Q9 Z Z (DM Z) (Ql Ue Z)<|Qz Z Z (QC (x92:Fn) K4 Z Z Z Z Z)<|Q3<|Q4 ?_
 refine QO (fun (v93:Unit)=>⟨[(1,.v (.one (.ptr 0 0))),(3,.v (.one (DX (a0.kind==3)))),(136,.v (.one (DU a0.funs))),(137,.v (.one (DW (a0.funs.length:Int)))),(138,.v (.one (DW s1)))],[(0,.cells 45 (DZ a0)),(1,.cells 76 (DZ x92))],[],2,210,[]⟩) (fun (v93:Unit)=>(some (.next (Ja (s1+1))))=some oo1) ?_ ?_
 refine Qd h1 (fun w2_ h2 h1=>?_)
 refine Q0<|DD Z Z Z (Q2 fo_76_2 Z)<|DD Z Z Z (Q5 QN Z Z Z)<|DD Z Z Z (Q8 Z Z Z)<|DE Z Z Z ?_
 refine QA (d:=145) (c:=(decide (1≤x92.arity))) Z (fun c94=>?_) (fun c94=>?_)
 replace h2:=Qi c94 h2
 refine DD Z Z Z (Q2 fo_76_2 Z)<|DD Z Z Z (Q5 QN Z Z Z)<|DD Z Z Z (Q8 Z Z Z)<|DD Z Z Z (Qe Z Z) ?_
 refine Qd h2 (fun x95 hx95 h2=>?_)
 refine JL id hx95 h2 (fun x96 hx96 h2=>?_) (fun x97 hx97 h2=>?_)
 refine Q9 Z Z (DM Z) (Qx Z Z Z (CallE.m (Qu (decide (x92.arity≤16)) 3 (.inl x96) hx96)) Z)<|Q3 ?_
 have e:=DB h2;subst e
 replace h1:=Kp h1
 exact Qb () (DA (Nat.le_trans hv0 (DM Z)) Z Z Z Z Z) h1
 refine J6 Z (QF Z Z Z (CallE.d (Qu (decide (x92.arity≤16)) 3 (.inr x97) hx97))) ?_
 have e:=DB h2;subst e
 replace h1:=KY h1
 have e:=DB h1;subst e
 have e_:_=_:=ho1
 subst e_
 try dsimp only [Sum.elim_inl,Sum.elim_inr] at h0
 have e:=DB h0;subst e
 exact Ji (hQ0 (.panic (Jr (QG 90 3))) _ ZC Z (show StLe _ _ ⟨[],[],[],1,210,[]⟩ from (DA (Nat.le_trans hv0 (DM Z)) Z Z Z Z Z))) (fun _ _ h=>h)
 replace h2:=Qj c94 h2
 refine Q7 Z Z<|Q7 Z Z<|Q7 Z Z<|DD Z Z Z (Qa Z Z) ?_
 refine Qd h2 (fun x98 hx98 h2=>?_)
 refine JL id hx98 h2 (fun x99 hx99 h2=>?_) (fun x100 hx100 h2=>?_)
 refine Q9 Z Z (DM Z) (Qx Z Z Z (CallE.m (Qu false 3 (.inl x99) hx99)) Z)<|Q3 ?_
 have e:=DB h2;subst e
 replace h1:=Kp h1
 exact Qb () (DA (Nat.le_trans hv0 (DM Z)) Z Z Z Z Z) h1
 refine J6 Z (QF Z Z Z (CallE.d (Qu false 3 (.inr x100) hx100))) ?_
 have e:=DB h2;subst e
 replace h1:=KY h1
 have e:=DB h1;subst e
 have e_:_=_:=ho1
 subst e_
 try dsimp only [Sum.elim_inl,Sum.elim_inr] at h0
 have e:=DB h0;subst e
 exact Ji (hQ0 (.panic (Jr (QG 90 3))) _ ZC Z (show StLe _ _ ⟨[],[],[],1,210,[]⟩ from (DA (Nat.le_trans hv0 (DM Z)) Z Z Z Z Z))) (fun _ _ h=>h)
 intro v93 h1
 refine Qf<|Q4<|Q0<|DD Z Z Z (Q8 Z Z Z)<|DE Z Z Z<|Q3 ?_
 have e:=DB h1;subst e
 refine QW (Ja (s1+1)) (DA (Nat.le_trans hv0 (DM Z)) Z Z Z Z Z) ho1
 replace h1:=Qj c91 h1
 refine J8<|Qr<|Qr ?_
 have e:=DB h1;subst e
 have e_:_=_:=ho1
 subst e_
 exact J0 () (DA (Nat.le_trans hv0 (DM Z)) Z Z Z Z Z) h0
 intro o89 h0
 unfold Ku at h0
 refine QQ<|Q4<|Q6<|Q0<|DE Z Z Z<|Q3<|Q4 ?_
 refine Qg (b:=(a0.kind==3)) Z (fun c101=>?_) (fun c101=>?_)
 replace h0:=Qi c101 h0
 refine Q6<|Q0<|DD Z Z Z (Q2 JU Z)<|DD Z Z Z (Q2 KV Z)<|DD Z Z Z (Q5 QN Z Z Z)<|DD Z Z Z (Q2 Ya Z)<|DD Z Z Z (Q5 QN Z Z Z)<|DD Z Z Z (Q8 Z Z Z)<|DF Z Z Z<|Q3<|Q4<|Q6 ?_
 refine QO (fun (v102:Unit)=>⟨[(1,.v (.one (.ptr 0 0)))],[(0,.cells 45 (DZ a0))],[],1,210,[]⟩) (fun (v102:Unit)=>(Option.bind (Qq (ZP a0) QI ([a0.ty],0)) (fun (o103:(List Tm))=>Option.bind (Qq (Zt o103 a0) QI 0) (Sum.elim (fun (o104:Unit)=>some (.inl ())) (fun o=>some o))))=some r) ?_ ?_
 refine Qd h0 (fun w1_ h1 h0=>?_)
 refine Q0<|DE Z Z Z<|DD Z Z Z (Q8 Z Z Z)<|DE Z Z Z ?_
 refine QA (d:=161) (c:=((Ja (a0.rcr.params - a0.params))==0)) Z (fun c103=>?_) (fun c103=>?_)
 replace h1:=Qi c103 h1
 refine Q7 Z Z<|Q7 Z Z<|DD Z Z Z (Qe Z Z)<|DE Z Z Z<|DD Z Z Z (Q2 JU Z)<|DD Z Z Z (Q2 GE Z)<|DD Z Z Z (Q5 Yj Z Z Z)<|DD Z Z Z (QD (α:=Tm) JC Z (.d _))<|DD Z Z Z (Q2 Yz Z)<|DD Z Z Z (Q5 ZY Z Z Z)<|DD Z Z Z (QD (α:=Ctr) YL Z (.d _))<|DD Z Z Z (Q8 Z Z Z)<|DD Z Z Z (Qe Z Z) ?_
 refine Qd h1 (fun x104 hx104 h1=>?_)
 refine JL id hx104 h1 (fun x105 hx105 h1=>?_) (fun x106 hx106 h1=>?_)
 refine Q9 Z Z (DM Z) (Qx Z Z Z (CallE.m (Qu ((a0.rcr.rules.length:Int)==(a0.ctors.length:Int)) 3 (.inl x105) hx105)) Z)<|Q3 ?_
 have e:=DB h1;subst e
 replace h0:=Kp h0
 exact Qb () (DA (Nat.le_trans hv0 (DM Z)) Z Z Z Z Z) h0
 refine J6 Z (QF Z Z Z (CallE.d (Qu ((a0.rcr.rules.length:Int)==(a0.ctors.length:Int)) 3 (.inr x106) hx106))) ?_
 have e:=DB h1;subst e
 replace h0:=KY h0
 have e:=DB h0;subst e
 exact Ji (hQ0 (.panic (Jr (QG 90 3))) _ ZC Z (show StLe _ _ ⟨[],[],[],1,210,[]⟩ from (DA (Nat.le_trans hv0 (DM Z)) Z Z Z Z Z))) (fun _ _ h=>h)
 replace h1:=Qj c103 h1
 refine DE Z Z Z<|DD Z Z Z (Q8 Z Z Z)<|DD Z Z Z (Qa Z Z)<|DE Z Z Z ?_
 refine QA (d:=165) (c:=((Ja (a0.rcr.params - a0.params))==1)) Z (fun c107=>?_) (fun c107=>?_)
 replace h1:=Qi c107 h1
 refine DD Z Z Z (Q2 JU Z)<|DD Z Z Z (Q2 GE Z)<|DD Z Z Z (Q5 Yj Z Z Z)<|DD Z Z Z (QD (α:=Tm) JC Z (.d _))<|DD Z Z Z (Q2 Yz Z)<|DD Z Z Z (Q5 ZY Z Z Z)<|DD Z Z Z (QD (α:=Ctr) YL Z (.d _))<|DD Z Z Z (Q8 Z Z Z)<|DD Z Z Z (Qe Z Z) ?_
 refine Qd h1 (fun x108 hx108 h1=>?_)
 refine JL id hx108 h1 (fun x109 hx109 h1=>?_) (fun x110 hx110 h1=>?_)
 refine Q9 Z Z (DM Z) (Qx Z Z Z (CallE.m (Qu ((a0.rcr.rules.length:Int)==(a0.ctors.length:Int)) 3 (.inl x109) hx109)) Z)<|Q3 ?_
 have e:=DB h1;subst e
 replace h0:=Kp h0
 exact Qb () (DA (Nat.le_trans hv0 (DM Z)) Z Z Z Z Z) h0
 refine J6 Z (QF Z Z Z (CallE.d (Qu ((a0.rcr.rules.length:Int)==(a0.ctors.length:Int)) 3 (.inr x110) hx110))) ?_
 have e:=DB h1;subst e
 replace h0:=KY h0
 have e:=DB h0;subst e
 exact Ji (hQ0 (.panic (Jr (QG 90 3))) _ ZC Z (show StLe _ _ ⟨[],[],[],1,210,[]⟩ from (DA (Nat.le_trans hv0 (DM Z)) Z Z Z Z Z))) (fun _ _ h=>h)
 replace h1:=Qj c107 h1
 refine Q7 Z Z<|Q7 Z Z<|Q7 Z Z<|Q7 Z Z<|Q7 Z Z<|Q7 Z Z<|Q7 Z Z<|Q7 Z Z<|DD Z Z Z (Qa Z Z) ?_
 refine Qd h1 (fun x111 hx111 h1=>?_)
 refine JL id hx111 h1 (fun x112 hx112 h1=>?_) (fun x113 hx113 h1=>?_)
 refine Q9 Z Z (DM Z) (Qx Z Z Z (CallE.m (Qu false 3 (.inl x112) hx112)) Z)<|Q3 ?_
 have e:=DB h1;subst e
 replace h0:=Kp h0
 exact Qb () (DA (Nat.le_trans hv0 (DM Z)) Z Z Z Z Z) h0
 refine J6 Z (QF Z Z Z (CallE.d (Qu false 3 (.inr x113) hx113))) ?_
 have e:=DB h1;subst e
 replace h0:=KY h0
 have e:=DB h0;subst e
 exact Ji (hQ0 (.panic (Jr (QG 90 3))) _ ZC Z (show StLe _ _ ⟨[],[],[],1,210,[]⟩ from (DA (Nat.le_trans hv0 (DM Z)) Z Z Z Z Z))) (fun _ _ h=>h)
 intro v102 h0
 refine Q4<|Q6<|Q0<|DD Z Z Z (Q2 KU Z)<|DD Z Z Z (Qk QX Z Z Z Z)<|Q9 Z Z (DM Z) (Yq (α:=Tm) (a0.ty) JC G4 Z Z (DM Z) (DM Z) Z Z (.cons (.d _) (.cons (.d _) (.cons (.d _) (.cons (.d _) (.cons (.d _) .nil))))) Z)<|DF Z Z Z<|Q3<|Q4<|Q6<|Q6<|Q0<|DD Z Z Z (Q2 Yz Z)<|DD Z Z Z (Q5 ZY Z Z Z) ?_
 refine DD Z Z Z (QD (α:=Ctr) YL Z (.d _))<|DE Z Z Z<|Q3<|Q4<|Qh ?_
 refine J2 2 (fun (o114:(List Tm))=>⟨[(1,.v (.one (.ptr 0 0))),(9,.v (.one (DY 1 o114)))],[(0,.cells 45 (DZ a0))],[(1,some ⟨33,5,(Enc.encL o114).length,[]⟩)],2,210,[]⟩) (fun (o114:(List Tm))=>(Option.bind (Qq (Zt o114 a0) QI 0) (Sum.elim (fun (o115:Unit)=>some (.inl ())) (fun o=>some o)))=some r) ?_ ?_
 refine Qd h0 (fun o115 hl1 h0=>?_)
 refine J1 (ZP a0) (fun s1=>⟨[(1,.v (.one (.ptr 0 0))),(9,.v (.one (DY 1 s1.1))),(180,.v (.one (DU a0.ctors))),(181,.v (.one (DW (a0.ctors.length:Int)))),(182,.v (.one (DW s1.2)))],[(0,.cells 45 (DZ a0))],[(1,some ⟨33,5,(Enc.encL s1.1).length,[]⟩)],2,210,[]⟩) ([a0.ty],0) o115 (DA (Nat.le_trans hv0 (DM Z)) Z Z Z Z Z) hl1 (fun s1 n1 oo1 h1 ho1=>?_)
 unfold ZP at h1
 refine Q6<|Q0<|DD Z Z Z (Q8 Z Z Z)<|Q3<|Q4<|Q6 ?_
 refine Qg (b:=(decide (s1.2 < (a0.ctors.length:Int)))) Z (fun c116=>?_) (fun c116=>?_)
 replace h1:=Qi c116 h1
 refine Qn<|Q4<|Q6<|Qh<|Q6<|Q0 ?_
 refine Qd h1 (fun x117 hx117 h1=>?_)
 refine DD Z Z Z (Qy (α:=Ctr) YL Z (.d _) Z hx117)<|DD Z Z Z (Qt (x117:Ctr) K5 Z)<|Q9 Z Z (DM Z) (Ql U9 Z)<|Qz Z Z (QC (x117:Ctr) K5 Z Z Z Z Z)<|Q3<|Q4<|Q0<|DE Z Z Z<|DD Z Z Z (Q2 KS Z)<|DD Z Z Z (Qk QX Z Z Z Z)<|Q9 Z Z (DM Z) (Yq (α:=Tm) (x117.ty) JC G4 Z Z (DM Z) (DM Z) Z Z (.cons (.d _) (.cons (.d _) (.cons (.d _) (.cons (.d _) (.cons (.d _) .nil))))) Z) ?_
 refine YI h1 (fun g118 h1=>?_)
 refine Q9 Z Z (DM Z) (Yh (α:=Tm) JC el_33 Z Z Z Z Z (.app _ _) g118)<|DF Z Z Z<|Q3<|Qf<|Q4<|Q0<|DD Z Z Z (Q8 Z Z Z)<|DE Z Z Z<|Q3 ?_
 have e:=DB h1;subst e
 refine QW ((s1.1++([x117.ty])),(Ja (s1.2+1))) (DA (Nat.le_trans hv0 (DM Z)) Z Z Z Z Z) ho1
 replace h1:=Qj c116 h1
 refine J8<|Qr<|Qr ?_
 have e:=DB h1;subst e
 have e_:_=_:=ho1
 subst e_
 exact J0 s1.1 (DA (Nat.le_trans hv0 (DM Z)) Z Z Z Z Z) h0
 intro o114 h0
 refine QQ<|Q4<|Q6<|Q0<|DE Z Z Z<|DD Z Z Z (QD (α:=Tm) JC Z (.app _ _))<|DE Z Z Z<|Q3<|Q4<|Qh ?_
 refine J2 4 (fun (o119:Unit)=>⟨[],[(0,.cells 45 (DZ a0))],[(1,some ⟨33,5,(Enc.encL o114).length,[]⟩)],2,210,[]⟩) (fun (o119:Unit)=>(some (.inl ()))=some r) ?_ ?_
 refine Qd h0 (fun o120 hl1 h0=>?_)
 refine J1 (Zt o114 a0) (fun s1=>⟨[(1,.v (.one (.ptr 0 0))),(192,.v (.one (DY 1 o114))),(193,.v (.one (DW (o114.length:Int)))),(194,.v (.one (DW s1)))],[(0,.cells 45 (DZ a0))],[(1,some ⟨33,5,(Enc.encL o114).length,[]⟩)],2,210,[]⟩) 0 o120 (DA (Nat.le_trans hv0 (DM Z)) Z Z Z Z Z) hl1 (fun s1 n1 oo1 h1 ho1=>?_)
 unfold Zt at h1
 refine Q6<|Q0<|DD Z Z Z (Q8 Z Z Z)<|Q3<|Q4<|Q6 ?_
 refine Qg (b:=(decide (s1 < (o114.length:Int)))) Z (fun c121=>?_) (fun c121=>?_)
 replace h1:=Qi c121 h1
 refine Qn<|Q4<|Q6<|Qh<|Q6<|Q0 ?_
 refine Qd h1 (fun x122 hx122 h1=>?_)
 refine DD Z Z Z (Qy (α:=Tm) JC Z (.app _ _) Z hx122)<|DD Z Z Z (Qt (x122:Tm) QX Z)<|Q9 Z Z (DM Z) (Ql G4 Z)<|Qz Z Z (QC (x122:Tm) QX Z Z Z Z Z)<|Q3<|Q4<|Q6<|Q0<|DD Z Z Z (QM (x122:Tm) QX Z Z) ?_
 refine Qd h1 (fun x123 hx123 h1=>?_)
 refine Q9 Z Z (DM Z) (Qo (m64_ok x122 x123 hx123) Z (.cons (.agg (.cons (.d _) (.cons (.d _) (.cons (.d _) (.cons (.d _) (.cons (.d _) .nil)))))) .nil))<|DE Z Z Z<|DD Z Z Z (QR Z Z)<|DD Z Z Z (QR Z Z)<|Q9 Z Z (DM Z) (Ql G4 Z)<|DF Z Z Z<|Qz Z Z (QC (x123.2:Tm) QX Z Z Z Z Z)<|Q3<|Q4<|Q0<|DE Z Z Z<|DD Z Z Z (QD (α:=Tm) JC Z (.d _))<|DD Z Z Z (Q2 fo_45_5 Z)<|DD Z Z Z (Q5 QN Z Z Z) ?_
 refine DD Z Z Z (Q8 Z Z Z) ?_
 refine Qd h1 (fun x124 hx124 h1=>?_)
 refine JL id hx124 h1 (fun x125 hx125 h1=>?_) (fun x126 hx126 h1=>?_)
 refine Q9 Z Z (DM Z) (Qx Z Z Z (CallE.m (Qu (decide (a0.fixed≤(x123.1.length:Int))) 3 (.inl x125) hx125)) Z)<|Q3<|Qf<|Q4<|Q0<|DD Z Z Z (Q8 Z Z Z)<|DE Z Z Z<|Q3 ?_
 have e:=DB h1;subst e
 refine QW (Ja (s1+1)) (DA (Nat.le_trans hv0 (DM Z)) Z Z Z Z Z) ho1
 refine J6 Z (QF Z Z Z (CallE.d (Qu (decide (a0.fixed≤(x123.1.length:Int))) 3 (.inr x126) hx126))) ?_
 have e:=DB h1;subst e
 have e_:_=_:=ho1
 subst e_
 try dsimp only [Sum.elim_inl,Sum.elim_inr] at h0
 have e:=DB h0;subst e
 exact Ji (hQ0 (.panic (Jr (QG 90 3))) _ ZC Z (show StLe _ _ ⟨[],[],[],1,210,[]⟩ from (DA (Nat.le_trans hv0 (DM Z)) Z Z Z Z Z))) (fun _ _ h=>h)
 replace h1:=Qj c121 h1
 refine J8<|Qr<|Qr ?_
 have e:=DB h1;subst e
 have e_:_=_:=ho1
 subst e_
 exact J0 () (DA (Nat.le_trans hv0 (DM Z)) Z Z Z Z Z) h0
 intro o119 h0
 refine QQ ?_
 have e:=DB h0;subst e
 exact hQ0 _ _ D6 Z (show StLe _ _ ⟨[],[],[],1,210,[]⟩ from (DA (Nat.le_trans hv0 (DM Z)) Z Z Z Z Z))
 replace h0:=Qj c101 h0
 refine Qn ?_
 have e:=DB h0;subst e
 exact hQ0 _ _ D6 Z (show StLe _ _ ⟨[],[],[],1,210,[]⟩ from (DA (Nat.le_trans hv0 (DM Z)) Z Z Z Z Z))
noncomputable def Ks (x1:(List Bs)) (a2:Qc Bs Ent) (s1:Int×(Qc Bs Bool)):Option (LO (Int×(Qc Bs Bool)) (((Qc Bs Bool))⊕(Unit⊕Int))) :=
 cond (decide (s1.1 < (x1.length:Int)))
   (Option.bind (Jx x1 s1.1) fun (x4:Bs) =>
 Option.bind (Da x4) fun (x5:Bool) =>
 Option.bind (Jt x5 29) (Sum.elim (fun (x7:Unit)=>Option.bind (cond (!(Yt a2 x4))
   (Option.bind (Jt (!(Qm s1.2 x4)) 8) (Sum.elim (fun (x12:Unit)=>some (.inl ())) (fun (x13:Unit)=>some (.inr (.inr 8)))))
   (Option.bind (Jt false 8) (Sum.elim (fun (x15:Unit)=>some (.inl ())) (fun (x16:Unit)=>some (.inr (.inr 8)))))) (Sum.elim (fun (v9:Unit)=>some (.next ((Ja (s1.1+1)),(J3 s1.2 x4 true)))) (fun o=>some (.done (.inr o))))) (fun (x8:Unit)=>some (.done (.inr (.inr 29))))))
   (some (.done (.inl s1.2)))
noncomputable abbrev m45f7_h0 (p0_:Qc Bs Ent) (p1_:Bs):HB :=
 .cells 35 [DW ((Qm p0_ p1_).kind),DW ((Qm p0_ p1_).decl),DW ((Qm p0_ p1_).item),DW ((Qm p0_ p1_).params),DW (((Qm p0_ p1_).ty).kind),DW (((Qm p0_ p1_).ty).index),Jl (((Qm p0_ p1_).ty).name),DU (((Qm p0_ p1_).ty).levels:List Lvl),DU (((Qm p0_ p1_).ty).kids:List Tm)]
noncomputable abbrev m45f7_h1 (p0_:List Dcl) (p1_:Qc Bs Ent) (p2_:Dcl) (p3_:Int×(Qc Bs Bool)) (p4_:Bs):List (Nat×HB) :=
 [(0,.cells 62 [DU p0_,.mp 1]),(1,.mp (QT p1_.1) p1_.2),(2,.cells 45 (DZ p2_)),(3,.mp (QT p3_.2.1) p3_.2.2),(4,m45f7_h0 p1_ p4_)]
noncomputable def U1 (a0:Dcl) (a1:List Dcl) (a2:Qc Bs Ent):Option (Unit⊕Int) :=
 Option.bind (De a0) fun (x1:(List Bs)) =>
 Option.bind (Qq (Ks x1 a2) QI (0,gmNil)) (Sum.elim (fun (o2:(Qc Bs Bool))=>some (.inl ())) (fun o=>some o))
theorem m45f7_ok (a0:Dcl) (a1:List Dcl) (a2:Qc Bs Ent) (r:Unit⊕Int) (h0:U1 a0 a1 a2=some r):CallE Try.prog 45 [.one (.ptr 0 0),.agg (DZ a0)] ⟨[(0,.cells 62 [DU a1,.mp 1]),(1,.mp (QT a2.1) a2.2)],[],2⟩ ((Sum.elim (fun (r0:Unit)=>((.ret []):EK)) (fun (r1:Int)=>((.pan (QG 90 r1)):EK))) r) ⟨((Sum.elim (fun (r0:Unit)=>(⟨[],[(0,.cells 62 [DU a1,.mp 1]),(1,.mp (QT a2.1) a2.2)],[],4,41,[]⟩:St)) (fun (r1:Int)=>(⟨[],[(0,.cells 62 [DU a1,.mp 1]),(1,.mp (QT a2.1) a2.2)],[],4,41,[]⟩:St))) r).hp,((Sum.elim (fun (r0:Unit)=>(⟨[],[(0,.cells 62 [DU a1,.mp 1]),(1,.mp (QT a2.1) a2.2)],[],4,41,[]⟩:St)) (fun (r1:Int)=>(⟨[],[(0,.cells 62 [DU a1,.mp 1]),(1,.mp (QT a2.1) a2.2)],[],4,41,[]⟩:St))) r).tk,((Sum.elim (fun (r0:Unit)=>(⟨[],[(0,.cells 62 [DU a1,.mp 1]),(1,.mp (QT a2.1) a2.2)],[],4,41,[]⟩:St)) (fun (r1:Int)=>(⟨[],[(0,.cells 62 [DU a1,.mp 1]),(1,.mp (QT a2.1) a2.2)],[],4,41,[]⟩:St))) r).nx⟩:=by
 unfold U1 at h0
 refine JG r ((Sum.elim (fun (r0:Unit)=>(⟨[],[(0,.cells 62 [DU a1,.mp 1]),(1,.mp (QT a2.1) a2.2)],[],4,41,[]⟩:St)) (fun (r1:Int)=>(⟨[],[(0,.cells 62 [DU a1,.mp 1]),(1,.mp (QT a2.1) a2.2)],[],4,41,[]⟩:St)))) ((Sum.elim (fun (r0:Unit)=>((.ret []):EK)) (fun (r1:Int)=>((.pan (QG 90 r1)):EK)))) rfl rfl en_45 (DM rfl) (fun z_=>by cases z_ with
 | inl _=>exact rfl
 | inr _=>exact rfl) (fun z_=>by cases z_ with
 | inl _=>exact (Uu .nil)
 | inr _=>exact UE) (fun w0 M V0 Q hv0 hQ0=>?_)
 simp only [Jb]
 refine Q6<|Q0<|Q9 Z Z (DM Z) (QV Z)<|Q3<|Q4<|Q6<|Q0<|Q9 Z Z (DM Z) (OpOK.makeMapG Bs Bool)<|DF Z Z Z<|Q3<|Q4<|Q6<|Q0<|DD Z Z Z (QM (a0:Dcl) JK Z Z) ?_
 refine Qd h0 (fun x1 hx1 h0=>?_)
 refine Q9 Z Z (DM Z) (Qo (m20_ok a0 x1 hx1) Z (.cons (.agg (.cons (.d _) (.cons (.d _) (.cons (.d _) (.cons (.d _) (.cons (.d _) (.cons (.d _) (.cons (.d _) (.cons (.d _) (.cons (.d _) (.cons (.d _) (.cons (.d _) (.cons (.d _) (.cons (.d _) (.cons (.d _) (.cons (.d _) (.cons (.d _) (.cons (.d _) (.cons (.d _) (.cons (.d _) (.cons (.d _) (.cons (.d _) (.cons (.d _) (.cons (.d _) .nil)))))))))))))))))))))))) .nil))<|DD Z Z Z (QD (α:=Bs) Z7 Z (.d _))<|DE Z Z Z<|Q3<|Q4<|Qh ?_
 refine J2 0 (fun (o2:(Qc Bs Bool))=>⟨[],[(0,.cells 62 [DU a1,.mp 1]),(1,.mp (QT a2.1) a2.2),(2,.cells 45 (DZ a0)),(3,.mp (QT o2.1) o2.2)],[],4,41,[]⟩) (fun (o2:(Qc Bs Bool))=>(some (.inl ()))=some r) ?_ ?_
 refine Qd h0 (fun o3 hl1 h0=>?_)
 refine J1 (Ks x1 a2) (fun s1=>⟨[(0,.v (.one (.ptr 0 0))),(4,.v (.one (.mp 3))),(11,.v (.one (DU x1))),(12,.v (.one (DW (x1.length:Int)))),(13,.v (.one (DW s1.1)))],[(0,.cells 62 [DU a1,.mp 1]),(1,.mp (QT a2.1) a2.2),(2,.cells 45 (DZ a0)),(3,.mp (QT s1.2.1) s1.2.2)],[],4,41,[]⟩) (0,gmNil) o3 (QH (Dz Z) (hA Z) DN Z (Nat.le_trans hv0 (DM Z)) Z Z Z (bB Z Z (bG Z (bB Z Z (bG Z bZ)))) Z Z) hl1 (fun s1 n1 oo1 h1 ho1=>?_)
 unfold Ks at h1
 refine Q6<|Q0<|DD Z Z Z (Q8 Z Z Z)<|Q3<|Q4<|Q6 ?_
 refine Qg (b:=(decide (s1.1 < (x1.length:Int)))) Z (fun c4=>?_) (fun c4=>?_)
 replace h1:=Qi c4 h1
 refine Qn<|Q4<|Q6<|Qh<|Q6<|Q0 ?_
 refine Qd h1 (fun x5 hx5 h1=>?_)
 refine DD Z Z Z (Qy (α:=Bs) Z7 Z (.d _) Z hx5)<|DD Z Z Z (Y1 JT Z Z)<|DF Z Z Z<|Q3<|Q4<|Q6<|Q0<|DE Z Z Z ?_
 refine Qd h1 (fun x6 hx6 h1=>?_)
 refine Q9 Z Z (DM Z) (Qo (m65_ok x5 x6 hx6) Z (.cons (.one (.d _)) .nil)) ?_
 refine Qd h1 (fun x7 hx7 h1=>?_)
 refine JL id hx7 h1 (fun x8 hx8 h1=>?_) (fun x9 hx9 h1=>?_)
 refine Q9 Z Z (DM Z) (Qx Z Z Z (CallE.m (Qu x6 29 (.inl x8) hx8)) Z)<|Q3<|Q4<|Q6<|Q0<|DE Z Z Z<|DD Z Z Z (Jo Z)<|DD Z Z Z (Q2 ZM Z)<|DD Z Z Z (Q5 Yp Z Z Z)<|DE Z Z Z<|DD Z Z Z (Zm (M:=a2) (k:=x5) YG K7 Z Z Z)<|DE Z Z Z<|DD Z Z Z (QR Z Z)<|DD Z Z Z (QR Z Z) ?_
 refine Q9 Z Z (DM Z) (Ql YZ Z)<|Qz Z Z (Qv Jg Z Z Z Z (DM Z) Z)<|DF Z Z Z<|Q3<|Q4<|Q6 ?_
 refine QO (fun (v10:Unit)=>⟨[(0,.v (.one (.ptr 0 0))),(4,.v (.one (.mp 3))),(6,.v (.one (Jl x5))),(11,.v (.one (DU x1))),(12,.v (.one (DW (x1.length:Int)))),(13,.v (.one (DW s1.1)))],m45f7_h1 a1 a2 a0 s1 x5,[],5,41,[]⟩) (fun (v10:Unit)=>(some (.next ((Ja (s1.1+1)),(J3 s1.2 x5 true))))=some oo1) ?_ ?_
 refine Qd h1 (fun w2_ h2 h1=>?_)
 refine Q0<|DE Z Z Z<|DD Z Z Z (Jj Z)<|DE Z Z Z ?_
 refine QA (d:=31) (c:=(!(Yt a2 x5))) Z (fun c11=>?_) (fun c11=>?_)
 replace h2:=Qi c11 h2
 refine DE Z Z Z<|DE Z Z Z<|DD Z Z Z (RO.lookupGF (M:=s1.2) (k:=x5) mp_80 zok_bool Z Z Z)<|DD Z Z Z (Jj Z)<|DD Z Z Z (Qe Z Z) ?_
 refine Qd h2 (fun x12 hx12 h2=>?_)
 refine JL id hx12 h2 (fun x13 hx13 h2=>?_) (fun x14 hx14 h2=>?_)
 refine Q9 Z Z (DM Z) (Qx Z Z Z (CallE.m (Qu (!(Qm s1.2 x5)) 8 (.inl x13) hx13)) Z)<|Q3 ?_
 have e:=DB h2;subst e
 replace h1:=Kp h1
 exact Qb () (QH (Dz Z) (hA Z) DN Z (Nat.le_trans hv0 (DM Z)) Z Z Z (bB Z Z (bG Z (bB Z Z (bG Z (bA Z))))) Z Z) h1
 refine J6 Z (QF Z Z Z (CallE.d (Qu (!(Qm s1.2 x5)) 8 (.inr x14) hx14))) ?_
 have e:=DB h2;subst e
 replace h1:=KY h1
 have e:=DB h1;subst e
 have e_:_=_:=ho1
 subst e_
 try dsimp only [Sum.elim_inl,Sum.elim_inr] at h0
 have e:=DB h0;subst e
 exact Ji (hQ0 (.panic (Jr (QG 90 8))) _ ZC Z (show StLe _ _ ⟨[],[(0,.cells 62 [DU a1,.mp 1]),(1,.mp (QT a2.1) a2.2)],[],4,41,[]⟩ from (QH Dy (hA Z) DN Z (Nat.le_trans hv0 (DM Z)) Z Z Z (bB Z Z (bG Z bZ)) Z Z))) (fun _ _ h=>h)
 replace h2:=Qj c11 h2
 refine Q7 Z Z<|Q7 Z Z<|Q7 Z Z<|Q7 Z Z<|DD Z Z Z (Qa Z Z) ?_
 refine Qd h2 (fun x15 hx15 h2=>?_)
 refine JL id hx15 h2 (fun x16 hx16 h2=>?_) (fun x17 hx17 h2=>?_)
 refine Q9 Z Z (DM Z) (Qx Z Z Z (CallE.m (Qu false 8 (.inl x16) hx16)) Z)<|Q3 ?_
 have e:=DB h2;subst e
 replace h1:=Kp h1
 exact Qb () (QH (Dz Z) (hA Z) DN Z (Nat.le_trans hv0 (DM Z)) Z Z Z (bB Z Z (bG Z (bB Z Z (bG Z (bA Z))))) Z Z) h1
 refine J6 Z (QF Z Z Z (CallE.d (Qu false 8 (.inr x17) hx17))) ?_
 have e:=DB h2;subst e
 replace h1:=KY h1
 have e:=DB h1;subst e
 have e_:_=_:=ho1
 subst e_
 try dsimp only [Sum.elim_inl,Sum.elim_inr] at h0
 have e:=DB h0;subst e
 exact Ji (hQ0 (.panic (Jr (QG 90 8))) _ ZC Z (show StLe _ _ ⟨[],[(0,.cells 62 [DU a1,.mp 1]),(1,.mp (QT a2.1) a2.2)],[],4,41,[]⟩ from (QH Dy (hA Z) DN Z (Nat.le_trans hv0 (DM Z)) Z Z Z (bB Z Z (bG Z bZ)) Z Z))) (fun _ _ h=>h)
 intro v10 h1
 refine Q4<|Q0<|DE Z Z Z<|DE Z Z Z<|Qz Z Z (Jk (M:=s1.2) (k:=x5) (v:=true) mp_80 Z Z Z Z Z)<|Q3<|Qf<|Q4<|Q0<|DD Z Z Z (Q8 Z Z Z)<|DE Z Z Z<|Q3 ?_
 have e:=DB h1;subst e
 refine QW ((Ja (s1.1+1)),(J3 s1.2 x5 true)) (QH (Dz Z) (hA Z) DN Z (Nat.le_trans hv0 (DM Z)) Z Z Z (bB Z Z (bG Z (bB Z Z (bG Z bZ)))) Z Z) ho1
 refine J6 Z (QF Z Z Z (CallE.d (Qu x6 29 (.inr x9) hx9))) ?_
 have e:=DB h1;subst e
 have e_:_=_:=ho1
 subst e_
 try dsimp only [Sum.elim_inl,Sum.elim_inr] at h0
 have e:=DB h0;subst e
 exact Ji (hQ0 (.panic (Jr (QG 90 29))) _ ZC Z (show StLe _ _ ⟨[],[(0,.cells 62 [DU a1,.mp 1]),(1,.mp (QT a2.1) a2.2)],[],4,41,[]⟩ from (QH Dy (hA Z) DN Z (Nat.le_trans hv0 (DM Z)) Z Z Z (bB Z Z (bG Z bZ)) Z Z))) (fun _ _ h=>h)
 replace h1:=Qj c4 h1
 refine J8<|Qr<|Qr ?_
 have e:=DB h1;subst e
 have e_:_=_:=ho1
 subst e_
 exact J0 s1.2 (QH Dy (hA Z) DN Z (Nat.le_trans hv0 (DM Z)) Z Z Z (bB Z Z (bG Z (bB Z Z (bG Z bZ)))) Z Z) h0
 intro o2 h0
 refine QQ ?_
 have e:=DB h0;subst e
 exact hQ0 _ _ D6 Z (show StLe _ _ ⟨[],[(0,.cells 62 [DU a1,.mp 1]),(1,.mp (QT a2.1) a2.2)],[],4,41,[]⟩ from (QH Dy (hA Z) DN Z (Nat.le_trans hv0 (DM Z)) Z Z Z (bB Z Z (bG Z bZ)) Z Z))
noncomputable def Gb (a0:Tm) (rc:Tm×(List Dcl)×(Qc Bs Ent)×(Qc Bs Ent)×Tm→Option (Bool⊕Int)) (a1:List Dcl) (a2:Qc Bs Ent) (a3:Qc Bs Ent) (a4:Tm) (s3:Int):Option (LO Int (Unit⊕(Int⊕Int))) :=
 cond (decide (s3 < (a0.kids.length:Int)))
   (Option.bind (Jx a0.kids s3) fun (x12:Tm) =>
 Option.bind (Option.bind (rc (x12,a1,a2,a3,a4)) (Sum.elim (fun (x18:Bool)=>some (.inl (!x18))) (fun (x19:Int)=>some (.inr x19)))) (Sum.elim (fun (y13:Bool)=>cond y13
   (some (.done (.inr (.inl s3))))
   (some (.next (Ja (s3+1))))) (fun (y14:Int)=>some (.done (.inr (.inr y14))))))
   (some (.done (.inl ())))
noncomputable def Gc (p0_:Tm) (p1_:Tm×(List Dcl)×(Qc Bs Ent)×(Qc Bs Ent)×Tm→Option (Bool⊕Int)) (p2_:List Dcl) (p3_:Qc Bs Ent) (p4_:Qc Bs Ent) (p5_:Tm):Option (Bool⊕Int) :=
 Option.bind (Option.bind (Option.bind (Qq (Gb p0_ p1_ p2_ p3_ p4_ p5_) QI 0) (Sum.elim (fun (b0_:Unit)=>some (.inl (-1))) (fun o=>some o))) (Sum.elim (fun (b1_:Int)=>some (.inl (decide (0≤b1_)))) (fun (b2_:Int)=>some (.inr b2_)))) (Sum.elim (fun (b3_:Bool)=>some (.inl (!b3_))) (fun (b4_:Int)=>some (.inr b4_)))
noncomputable abbrev m83f9_h0 :HB :=
 .loop .ready none [(5,.v (.one (.ptr 2 0))),(9,.v (.one (.ptr 5 0))),(23,.v (.one (.fn 82 [(7,0)])))] 53 #[24] YH Ye 1
noncomputable abbrev J5 (p0_:List Dcl) (p1_:Qc Bs Ent) (p2_:Qc Bs Ent) (p3_:Tm) (p4_:Tm):List (Nat×HB) :=
 [(0,m83f9_h0),(1,.obj (.deferred (some []))),(2,.cells 59 [.ptr 3 0]),(3,.cells 62 [DU p0_,.mp 4]),(4,.mp (QT p1_.1) p1_.2),(5,.cells 60 [.mp 6]),(6,.mp (QT p2_.1) p2_.2),(7,.cells 33 (DZ p3_)),(8,.cells 33 (DZ p4_)),(9,.cells 78 [.yld 0])]
noncomputable abbrev GT :HB :=
 .loop .busy none [(5,.v (.one (.ptr 2 0))),(9,.v (.one (.ptr 5 0))),(23,.v (.one (.fn 82 [(7,0)])))] 53 #[24] YH Ye 1
noncomputable abbrev m83f9_h3 (p0_:List Dcl) (p1_:Qc Bs Ent) (p2_:Qc Bs Ent) (p3_:Tm) (p4_:Tm):List (Nat×HB) :=
 [(0,GT),(1,.obj (.deferred (some []))),(2,.cells 59 [.ptr 3 0]),(3,.cells 62 [DU p0_,.mp 4]),(4,.mp (QT p1_.1) p1_.2),(5,.cells 60 [.mp 6]),(6,.mp (QT p2_.1) p2_.2),(7,.cells 33 (DZ p3_)),(8,.cells 33 (DZ p4_)),(9,.cells 78 [.yld 0]),(10,.cells 33 (DZ p4_))]
noncomputable abbrev m83f9_h4 (p0_:List Dcl) (p1_:Qc Bs Ent) (p2_:Qc Bs Ent) (p3_:Tm) (p4_:Tm):List (Nat×HB) :=
 [(0,m83f9_h0),(1,.obj (.deferred (some []))),(2,.cells 59 [.ptr 3 0]),(3,.cells 62 [DU p0_,.mp 4]),(4,.mp (QT p1_.1) p1_.2),(5,.cells 60 [.mp 6]),(6,.mp (QT p2_.1) p2_.2),(7,.cells 33 (DZ p3_)),(8,.cells 33 (DZ p4_)),(9,.cells 78 [.yld 0]),(10,.cells 33 (DZ p4_))]
noncomputable abbrev Jf (p0_:List Dcl) (p1_:Qc Bs Ent) (p2_:Qc Bs Ent) (p3_:Tm) (p4_:Tm):List (Nat×HB) :=
 [(0,GT),(1,.obj (.deferred (some []))),(2,.cells 59 [.ptr 3 0]),(3,.cells 62 [DU p0_,.mp 4]),(4,.mp (QT p1_.1) p1_.2),(5,.cells 60 [.mp 6]),(6,.mp (QT p2_.1) p2_.2),(7,.cells 33 (DZ p3_)),(8,.cells 33 (DZ p4_)),(9,.cells 78 [.yld 0])]
noncomputable abbrev m83f9_h6 (p0_:Qc Bs Ent) (p1_:Tm):HB :=
 .cells 35 [DW ((Qm p0_ p1_.name).kind),DW ((Qm p0_ p1_.name).decl),DW ((Qm p0_ p1_.name).item),DW ((Qm p0_ p1_.name).params),DW (((Qm p0_ p1_.name).ty).kind),DW (((Qm p0_ p1_.name).ty).index),Jl (((Qm p0_ p1_.name).ty).name),DU (((Qm p0_ p1_.name).ty).levels:List Lvl),DU (((Qm p0_ p1_.name).ty).kids:List Tm)]
noncomputable abbrev m83f9_h7 (p0_:List Dcl) (p1_:Qc Bs Ent) (p2_:Qc Bs Ent) (p3_:Tm) (p4_:Tm):List (Nat×HB) :=
 [(0,GT),(1,.obj (.deferred (some []))),(2,.cells 59 [.ptr 3 0]),(3,.cells 62 [DU p0_,.mp 4]),(4,.mp (QT p1_.1) p1_.2),(5,.cells 60 [.mp 6]),(6,.mp (QT p2_.1) p2_.2),(7,.cells 33 (DZ p3_)),(8,.cells 33 (DZ p4_)),(9,.cells 78 [.yld 0]),(10,.cells 33 (DZ p4_)),(11,m83f9_h6 p1_ p4_)]
noncomputable abbrev JY (p0_:List Dcl) (p1_:Qc Bs Ent) (p2_:Qc Bs Ent) (p3_:Tm):List (Nat×HB) :=
 [(0,GT),(1,.obj (.deferred (some []))),(2,.cells 59 [.ptr 3 0]),(3,.cells 62 [DU p0_,.mp 4]),(4,.mp (QT p1_.1) p1_.2),(5,.cells 60 [.mp 6]),(6,.mp (QT p2_.1) p2_.2),(7,.cells 33 (DZ p3_))]
noncomputable abbrev m83f9_h9 (p0_:Tm) (p1_:Tm):List (Nat×HB) :=
 [(8,.cells 33 (DZ p0_)),(9,.cells 78 [.yld 0]),(10,.cells 33 (DZ p1_))]
noncomputable abbrev Jv (p0_:List Dcl) (p1_:Qc Bs Ent) (p2_:Qc Bs Ent) (p3_:Tm):List (Nat×HB) :=
 [(0,m83f9_h0),(1,.obj (.deferred (some []))),(2,.cells 59 [.ptr 3 0]),(3,.cells 62 [DU p0_,.mp 4]),(4,.mp (QT p1_.1) p1_.2),(5,.cells 60 [.mp 6]),(6,.mp (QT p2_.1) p2_.2),(7,.cells 33 (DZ p3_))]
noncomputable def Wa (rc:Tm×(List Dcl)×(Qc Bs Ent)×(Qc Bs Ent)×Tm→Option (Bool⊕Int)) (a0:Tm) (a1:List Dcl) (a2:Qc Bs Ent) (a3:Qc Bs Ent) (a4:Tm):Option (Bool⊕Int) :=
 Option.bind (cond (a0.kind==3)
   (Option.bind (Option.bind (cond (!(Yt a2 a0.name))
   (some ((Yt a3 a0.name),(Qm a3 a0.name).kind,(Qm a3 a0.name).decl,(Qm a3 a0.name).item,(Qm a3 a0.name).params,((Qm a3 a0.name).ty).kind,((Qm a3 a0.name).ty).index,((Qm a3 a0.name).ty).name,((Qm a3 a0.name).ty).levels,((Qm a3 a0.name).ty).kids))
   (some ((Yt a2 a0.name),(Qm a2 a0.name).kind,(Qm a2 a0.name).decl,(Qm a2 a0.name).item,(Qm a2 a0.name).params,((Qm a2 a0.name).ty).kind,((Qm a2 a0.name).ty).index,((Qm a2 a0.name).ty).name,((Qm a2 a0.name).ty).levels,((Qm a2 a0.name).ty).kids))) (fun (v8:Bool×Int×Int×Int×Int×Int×Int×Bs×(List Lvl)×(List Tm))=>Option.bind (Jt v8.1 9) (Sum.elim (fun (x10:Unit)=>Option.bind (Jt ((a0.levels.length:Int)==v8.2.2.2.2.1) 15) (Sum.elim (fun (x13:Unit)=>some (.inl ())) (fun (x14:Unit)=>some (.inr 15)))) (fun (x11:Unit)=>some (.inr 9))))) (Sum.elim (fun (y3:Unit)=>some (.inl ())) (fun (y4:Int)=>some (.inr (.inr y4)))))
   (some (.inl ()))) (Sum.elim (fun (v1:Unit)=>Gc a0 rc a1 a2 a3 a4) (fun o=>some o))
noncomputable def Xy (rc:Tm×(List Dcl)×(Qc Bs Ent)×(Qc Bs Ent)×Tm→Option (Bool⊕Int)) (u:Tm×(List Dcl)×(Qc Bs Ent)×(Qc Bs Ent)×Tm):Option (Bool⊕Int):=Wa rc u.1 u.2.1 u.2.2.1 u.2.2.2.1 u.2.2.2.2
noncomputable def m83f9 (a0:Tm) (a1:List Dcl) (a2:Qc Bs Ent) (a3:Qc Bs Ent) (a4:Tm):Option (Bool⊕Int):=JE Xy QI (a0,a1,a2,a3,a4)
theorem m83f9s_ok (rc:Tm×(List Dcl)×(Qc Bs Ent)×(Qc Bs Ent)×Tm→Option (Bool⊕Int)) (H:∀ (a0:Tm) (a1:List Dcl) (a2:Qc Bs Ent) (a3:Qc Bs Ent) (a4:Tm) (r:Bool⊕Int),rc (a0,a1,a2,a3,a4)=some r→CallE Try.prog 83 [.agg (DZ a0),.one (.yld 0)] ⟨Jv a1 a2 a3 a4,[],8⟩ ((Sum.elim (fun (r0:Bool)=>((.ret [.one (DX r0)]):EK)) (fun (r1:Int)=>((.pan (QG 90 r1)):EK))) r) ⟨((Sum.elim (fun (r0:Bool)=>(⟨[(4,.v (.one (DX r0)))],Jv a1 a2 a3 a4,[],10,19,[]⟩:St)) (fun (r1:Int)=>(⟨[],JY a1 a2 a3 a4,[],12,19,[]⟩:St))) r).hp,((Sum.elim (fun (r0:Bool)=>(⟨[(4,.v (.one (DX r0)))],Jv a1 a2 a3 a4,[],10,19,[]⟩:St)) (fun (r1:Int)=>(⟨[],JY a1 a2 a3 a4,[],12,19,[]⟩:St))) r).tk,((Sum.elim (fun (r0:Bool)=>(⟨[(4,.v (.one (DX r0)))],Jv a1 a2 a3 a4,[],10,19,[]⟩:St)) (fun (r1:Int)=>(⟨[],JY a1 a2 a3 a4,[],12,19,[]⟩:St))) r).nx⟩) (a0:Tm) (a1:List Dcl) (a2:Qc Bs Ent) (a3:Qc Bs Ent) (a4:Tm) (r:Bool⊕Int) (h0:Wa rc a0 a1 a2 a3 a4=some r):CallE Try.prog 83 [.agg (DZ a0),.one (.yld 0)] ⟨Jv a1 a2 a3 a4,[],8⟩ ((Sum.elim (fun (r0:Bool)=>((.ret [.one (DX r0)]):EK)) (fun (r1:Int)=>((.pan (QG 90 r1)):EK))) r) ⟨((Sum.elim (fun (r0:Bool)=>(⟨[(4,.v (.one (DX r0)))],Jv a1 a2 a3 a4,[],10,19,[]⟩:St)) (fun (r1:Int)=>(⟨[],JY a1 a2 a3 a4,[],12,19,[]⟩:St))) r).hp,((Sum.elim (fun (r0:Bool)=>(⟨[(4,.v (.one (DX r0)))],Jv a1 a2 a3 a4,[],10,19,[]⟩:St)) (fun (r1:Int)=>(⟨[],JY a1 a2 a3 a4,[],12,19,[]⟩:St))) r).tk,((Sum.elim (fun (r0:Bool)=>(⟨[(4,.v (.one (DX r0)))],Jv a1 a2 a3 a4,[],10,19,[]⟩:St)) (fun (r1:Int)=>(⟨[],JY a1 a2 a3 a4,[],12,19,[]⟩:St))) r).nx⟩:=by
 unfold Wa at h0
 refine JG r ((Sum.elim (fun (r0:Bool)=>(⟨[(4,.v (.one (DX r0)))],Jv a1 a2 a3 a4,[],10,19,[]⟩:St)) (fun (r1:Int)=>(⟨[],JY a1 a2 a3 a4,[],12,19,[]⟩:St)))) ((Sum.elim (fun (r0:Bool)=>((.ret [.one (DX r0)]):EK)) (fun (r1:Int)=>((.pan (QG 90 r1)):EK)))) rfl rfl en_83 (DM rfl) (fun z_=>by cases z_ with
 | inl _=>exact rfl
 | inr _=>exact rfl) (fun z_=>by cases z_ with
 | inl _=>exact (Uu (QB rfl .nil))
 | inr _=>exact UE) (fun w0 M V0 Q hv0 hQ0=>?_)
 simp only [Jb]
 refine Q6<|Q0<|Q9 Z Z (DM Z) (QV Z)<|Q9 Z Z (DM Z) (QV Z)<|DF Z Z Z<|Q3<|Q4<|Q6<|Q6 ?_
 refine QO (fun (v1:Unit)=>⟨[(2,.v (.one (.ptr 8 0))),(3,.v (.one (.ptr 9 0))),(13,.v (.one (DX false)))],J5 a1 a2 a3 a4 a0,[],10,19,[]⟩) (fun (v1:Unit)=>(Gc a0 rc a1 a2 a3 a4)=some r) ?_ ?_
 refine Qd h0 (fun w1_ h1 h0=>?_)
 refine Q0<|DD Z Z Z (Q2 Yr Z)<|DD Z Z Z (Q5 QN Z Z Z)<|DD Z Z Z (Q8 Z Z Z)<|DE Z Z Z ?_
 refine QA (d:=8) (c:=(a0.kind==3)) Z (fun c2=>?_) (fun c2=>?_)
 replace h1:=Qi c2 h1
 refine DD Z Z Z (Q5 ag_78 Z Z Z)<|DD Z Z Z (QM (a0:Tm) QX Z Z) ?_
 refine Qd h1 (fun y5 h2 h1=>?_)
 have ha6:ExecOK Try.prog (some 0) YH ⟨[(5,.v (.one (.ptr 2 0))),(9,.v (.one (.ptr 5 0))),(23,.v (.one (.fn 82 [(7,0)]))),(24,.v (.agg (DZ a0)))],J5 a1 a2 a3 a4 a0,[],10,53,[]⟩ .normal ⟨[(5,.v (.one (.ptr 2 0))),(9,.v (.one (.ptr 5 0))),(11,.v (.one (.ptr 10 0)))],m83f9_h4 a1 a2 a3 a4 a0,[],11,53,[]⟩:=by
  refine QK (fun w0 M V0 ro n Q hv2 hro2 hQn2=>?_)
  refine Q0<|Q9 Z Z (DM Z) (Ql G4 Z)<|Qz Z Z (QC (a0:Tm) QX Z Z Z Z Z)<|Q3 ?_
  exact Jw hQn2 (QH (Dz Z) (hA Z) DN Z (Nat.le_trans hv2 (DM Z)) Z Z Z (bB Z Z (bB Z Z (bB Z Z (bB Z Z (bG Z (bB Z Z (bG Z (bA Z)))))))) Z Z)
 have hb7:ExecOK Try.prog (some 0) Ye ⟨[(5,.v (.one (.ptr 2 0))),(9,.v (.one (.ptr 5 0))),(11,.v (.one (.ptr 10 0)))],m83f9_h3 a1 a2 a3 a4 a0,[],11,53,[]⟩ ((Sum.elim (fun (_:Unit)=>(.normal:Exit)) (fun (y4:Int)=>((.panic (Jr (QG 90 y4))):Exit))) y5) ((Sum.elim (fun (y3:Unit)=>(⟨[],Jf a1 a2 a3 a4 a0,[],12,53,[]⟩:St)) (fun (y4:Int)=>(⟨[],Jf a1 a2 a3 a4 a0,[],12,53,[]⟩:St))) y5):=by
  refine QK (fun w0 M V0 ro n Q hv2 hro2 hQn2=>?_)
  refine Qh<|Q6 ?_
  refine Js [10,11] [(0,1),(1,1),(2,1),(3,1),(4,1),(5,1),(6,1),(7,1),(8,1),(9,1),(9,2)] YU (by kernel_rfl) (by kernel_rfl) (by kernel_rfl) ?_
  refine RunA.rd Z Z Z (Q1 (Q5 Xq Z Z Z)) Z<|RunA.rd Z Z Z (Q1 (Jo Z)) Z<|RunA.rd Z Z Z (Q1 (Q2 ZM Z)) Z<|RunA.rd Z Z Z (Q1 (Q5 Yp Z Z Z)) Z<|RunA.rd Z Z Z (Q1 (Q2 ZN Z)) Z<|RunA.rd Z Z Z (Q1 (Q5 JT Z Z Z)) Z<|RunA.rd Z Z Z (Q1 (Zm (M:=a2) (k:=a0.name) YG K7 Z Z Z)) Z<|RunA.rd Z Z Z (Q1 (Qp Z)) Z<|RunA.rd Z Z Z (Q1 (QR Z Z)) Z<|RunA.rd Z Z Z (Q1 (QR Z Z)) Z<|RunA.eff Z Z Z (Ql YZ Z) Z<|RunA.eff Z Z Z (Qv Jg Z Z Z Z (DM Z) Z) Z<|RunA.rd Z Z Z (Q1 (JD Z)) Z ?_
  refine RunA.nil ⟨?ex,_,_,Z,?_⟩
  case ex=>exact ⟨⟨_,rfl,_,_,rfl,rfl,rfl,.inl ⟨rfl,_,Q1 (Q5 Xq rfl rfl rfl),rfl⟩⟩,⟨_,rfl,_,_,rfl,rfl,rfl,.inl ⟨rfl,_,Q1 (Jo rfl),rfl⟩⟩,⟨_,rfl,_,_,rfl,rfl,rfl,.inl ⟨rfl,_,Q1 (Q2 ZM rfl),rfl⟩⟩,⟨_,rfl,_,_,rfl,rfl,rfl,.inl ⟨rfl,_,Q1 (Q5 Yp rfl rfl rfl),rfl⟩⟩,⟨_,rfl,_,_,rfl,rfl,rfl,.inl ⟨rfl,_,Q1 (Q2 ZN rfl),rfl⟩⟩,⟨_,rfl,_,_,rfl,rfl,rfl,.inl ⟨rfl,_,Q1 (Q5 JT rfl rfl rfl),rfl⟩⟩,⟨_,rfl,_,_,rfl,rfl,rfl,.inl ⟨rfl,_,Q1 (Zm (M:=a2) (k:=a0.name) YG K7 rfl rfl rfl),rfl⟩⟩,⟨_,rfl,_,_,rfl,rfl,rfl,.inl ⟨rfl,_,Q1 (Qp rfl),rfl⟩⟩,⟨_,rfl,_,_,rfl,rfl,rfl,.inl ⟨rfl,_,Q1 (QR rfl rfl),rfl⟩⟩,⟨_,rfl,_,_,rfl,rfl,rfl,.inl ⟨rfl,_,Q1 (QR rfl rfl),rfl⟩⟩,⟨_,rfl,_,_,rfl,rfl,rfl,.inl ⟨rfl,_,Q1 (QR rfl rfl),rfl⟩⟩,trivial⟩
  refine JV (st':=⟨[(9,.v (.one (.ptr 5 0))),(11,.v (.one (.ptr 10 0))),(12,.v (.one (.ptr 11 0))),(13,.v (.one (DX (Yt a2 a0.name))))],m83f9_h7 a1 a2 a3 a4 a0,[],12,53,[]⟩) (QH (Dz Z) (hA Z) DN Z (Nat.le_trans hv2 (DM Z)) Z Z Z (bB Z Z (bB Z Z (bB Z Z (bB Z Z (bG Z (bB Z Z (bG Z (bA Z)))))))) Z Z)<|Q4<|Q6<|Q6<|Q0<|DE Z Z Z<|DD Z Z Z (Jj Z)<|Q3<|Q4 ?_
  refine QO (fun (v8:Bool×Int×Int×Int×Int×Int×Int×Bs×(List Lvl)×(List Tm))=>⟨[(11,.v (.one (.ptr 10 0))),(12,.v (.one (.ptr 11 0))),(13,.v (.one (DX v8.1)))],[(0,GT),(1,.obj (.deferred (some []))),(2,.cells 59 [.ptr 3 0]),(3,.cells 62 [DU a1,.mp 4]),(4,.mp (QT a2.1) a2.2),(5,.cells 60 [.mp 6]),(6,.mp (QT a3.1) a3.2),(7,.cells 33 (DZ a4)),(8,.cells 33 (DZ a0)),(9,.cells 78 [.yld 0]),(10,.cells 33 (DZ a0)),(11,.cells 35 [DW v8.2.1,DW v8.2.2.1,DW v8.2.2.2.1,DW v8.2.2.2.2.1,DW v8.2.2.2.2.2.1,DW v8.2.2.2.2.2.2.1,Jl v8.2.2.2.2.2.2.2.1,DU v8.2.2.2.2.2.2.2.2.1,DU v8.2.2.2.2.2.2.2.2.2])],[],12,53,[]⟩) (fun (v8:Bool×Int×Int×Int×Int×Int×Int×Bs×(List Lvl)×(List Tm))=>(Option.bind (Jt v8.1 9) (Sum.elim (fun (x10:Unit)=>Option.bind (Jt ((a0.levels.length:Int)==v8.2.2.2.2.1) 15) (Sum.elim (fun (x13:Unit)=>some (.inl ())) (fun (x14:Unit)=>some (.inr 15)))) (fun (x11:Unit)=>some (.inr 9))))=some y5) ?_ ?_
  refine Qd h2 (fun w3_ h3 h2=>?_)
  refine Qg (b:=(!(Yt a2 a0.name))) Z (fun c9=>?_) (fun c9=>?_)
  replace h3:=Qi c9 h3
  refine Q0<|DD Z Z Z (Q5 Yp Z Z Z)<|DD Z Z Z (Q2 ZN Z)<|DD Z Z Z (Q5 JT Z Z Z)<|DD Z Z Z (Zm (M:=a3) (k:=a0.name) YG K7 Z Z Z)<|DE Z Z Z<|DD Z Z Z (QR Z Z)<|DD Z Z Z (QR Z Z)<|Qz Z Z (Qv Jg Z Z Z Z (DM Z) Z)<|DF Z Z Z<|Q3 ?_
  have e:=DB h3;subst e
  exact Qb ((Yt a3 a0.name),(Qm a3 a0.name).kind,(Qm a3 a0.name).decl,(Qm a3 a0.name).item,(Qm a3 a0.name).params,((Qm a3 a0.name).ty).kind,((Qm a3 a0.name).ty).index,((Qm a3 a0.name).ty).name,((Qm a3 a0.name).ty).levels,((Qm a3 a0.name).ty).kids) (QH (Dz Z) (hA Z) DN Z (Nat.le_trans hv2 (DM Z)) Z Z Z (bB Z Z (bB Z Z (bB Z Z (bB Z Z (bG Z (bB Z Z (bG Z (bA Z)))))))) Z Z) h2
  replace h3:=Qj c9 h3
  refine Qn ?_
  have e:=DB h3;subst e
  exact Qb ((Yt a2 a0.name),(Qm a2 a0.name).kind,(Qm a2 a0.name).decl,(Qm a2 a0.name).item,(Qm a2 a0.name).params,((Qm a2 a0.name).ty).kind,((Qm a2 a0.name).ty).index,((Qm a2 a0.name).ty).name,((Qm a2 a0.name).ty).levels,((Qm a2 a0.name).ty).kids) (QH (Dz Z) (hA Z) DN Z (Nat.le_trans hv2 (DM Z)) Z Z Z (bB Z Z (bB Z Z (bB Z Z (bB Z Z (bG Z (bB Z Z (bG Z (bA Z)))))))) Z Z) h2
  intro v8 h2
  refine Q4<|Q6<|Q0<|DE Z Z Z ?_
  refine Qd h2 (fun x10 hx10 h2=>?_)
  refine JL id hx10 h2 (fun x11 hx11 h2=>?_) (fun x12 hx12 h2=>?_)
  refine Q9 Z Z (DM Z) (Qx Z Z Z (CallE.m (Qu v8.1 9 (.inl x11) hx11)) Z)<|Q3<|Q4<|Q0<|DD Z Z Z (Q2 Ze Z)<|DD Z Z Z (Q5 GN Z Z Z)<|DD Z Z Z (QD (α:=Lvl) Z8 Z (.d _))<|DD Z Z Z (Q2 fo_35_3 Z)<|DD Z Z Z (Q5 QN Z Z Z)<|DD Z Z Z (Q8 Z Z Z) ?_
  refine Qd h2 (fun x13 hx13 h2=>?_)
  refine JL id hx13 h2 (fun x14 hx14 h2=>?_) (fun x15 hx15 h2=>?_)
  refine Q9 Z Z (DM Z) (Qx Z Z Z (CallE.m (Qu ((a0.levels.length:Int)==v8.2.2.2.2.1) 15 (.inl x14) hx14)) Z)<|Q3<|Qf ?_
  have e:=DB h2;subst e
  exact Jw (e:=.normal) (st':=⟨[],Jf a1 a2 a3 a4 a0,[],12,53,[]⟩) hQn2 (QH Dy (hA Z) DN Z (Nat.le_trans hv2 (DM Z)) Z Z Z (bB Z Z (bB Z Z (bB Z Z (bB Z Z (bG Z (bB Z Z (bG Z (bA Z)))))))) Z Z)
  refine J6 Z (QF Z Z Z (CallE.d (Qu ((a0.levels.length:Int)==v8.2.2.2.2.1) 15 (.inr x15) hx15))) ?_
  have e:=DB h2;subst e
  exact Ji (Jw (e:=(.panic (Jr (QG 90 15)))) (st':=⟨[],Jf a1 a2 a3 a4 a0,[],12,53,[]⟩) hQn2 (QH Dy (hA Z) DN Z (Nat.le_trans hv2 (DM Z)) Z Z Z (bB Z Z (bB Z Z (bB Z Z (bB Z Z (bG Z (bB Z Z (bG Z (bA Z)))))))) Z Z)) (fun _ _ h=>h)
  refine J6 Z (QF Z Z Z (CallE.d (Qu v8.1 9 (.inr x12) hx12))) ?_
  have e:=DB h2;subst e
  exact Ji (Jw (e:=(.panic (Jr (QG 90 9)))) (st':=⟨[],Jf a1 a2 a3 a4 a0,[],12,53,[]⟩) hQn2 (QH Dy (hA Z) DN Z (Nat.le_trans hv2 (DM Z)) Z Z Z (bB Z Z (bB Z Z (bB Z Z (bB Z Z (bG Z (bB Z Z (bG Z (bA Z)))))))) Z Z)) (fun _ _ h=>h)
 refine W7 (C:=fun q_=>ExecOK Try.prog (some 0) Ye ⟨[(5,.v (.one (.ptr 2 0))),(9,.v (.one (.ptr 5 0))),(11,.v (.one (.ptr 10 0)))],m83f9_h3 a1 a2 a3 a4 a0,[],11,53,[]⟩ ((Sum.elim (fun (_:Unit)=>(.normal:Exit)) (fun (y4:Int)=>((.panic (Jr (QG 90 y4))):Exit))) q_) ((Sum.elim (fun (y3:Unit)=>(⟨[],Jf a1 a2 a3 a4 a0,[],12,53,[]⟩:St)) (fun (y4:Int)=>(⟨[],Jf a1 a2 a3 a4 a0,[],12,53,[]⟩:St))) q_)) hb7 h1 (fun y3 hb7 h1=>?_) (fun y4 hb7 h1=>?_)
 replace hb7:ExecOK Try.prog (some 0) Ye ⟨[(5,.v (.one (.ptr 2 0))),(9,.v (.one (.ptr 5 0))),(11,.v (.one (.ptr 10 0)))],m83f9_h3 a1 a2 a3 a4 a0,[],11,53,[]⟩ .normal ⟨[],Jf a1 a2 a3 a4 a0,[],12,53,[]⟩:=hb7
 refine Q9 Z Z (DM Z) (Jd (jump:=none) Z Z Z Z Z (Qw ha6 (fun E hv=>(QH (Dz Z) (hA Z) DN Z (Nat.le_trans hv (DM Z)) Z Z Z (bB Z Z (bB Z Z (bB Z Z (bB Z Z (bG Z (bB Z Z (bG Z (bA Z)))))))) Z Z))) Z (Qw hb7 (fun E hv=>(QH (Dz Z) (hA Z) DN Z (Nat.le_trans hv (DM Z)) Z Z Z (bB Z Z (bB Z Z (bB Z Z (bB Z Z (bG Z (bB Z Z (bG Z (bA Z)))))))) Z Z))) Z Z) ?_
 refine DD Z Z Z (Jj Z)<|DD Z Z Z (Qe Z Z)<|Q3 ?_
 have e:=DB h1;subst e
 replace h0:=Kp h0
 exact Qb () (QH (Dz Z) (hA Z) DN Z (Nat.le_trans hv0 (DM Z)) Z Z Z (bB Z Z (bB Z Z (bB Z Z (bB Z Z (bG Z (bB Z Z (bG Z (bA Z)))))))) Z Z) h0
 replace hb7:ExecOK Try.prog (some 0) Ye ⟨[(5,.v (.one (.ptr 2 0))),(9,.v (.one (.ptr 5 0))),(11,.v (.one (.ptr 10 0)))],m83f9_h3 a1 a2 a3 a4 a0,[],11,53,[]⟩ (.panic (Jr (QG 90 y4))) ⟨[],Jf a1 a2 a3 a4 a0,[],12,53,[]⟩:=hb7
 refine J6 Z (OpD.yield Z Z Z Z Z (Qw ha6 (fun E hv=>(QH (Dz Z) (hA Z) DN Z (Nat.le_trans hv (DM Z)) Z Z Z (bB Z Z (bB Z Z (bB Z Z (bB Z Z (bG Z (bB Z Z (bG Z (bA Z)))))))) Z Z))) Z (Qw hb7 (fun E hv=>(QH (Dz Z) (hA Z) DN Z (Nat.le_trans hv (DM Z)) Z Z Z (bB Z Z (bB Z Z (bB Z Z (bB Z Z (bG Z (bB Z Z (bG Z (bA Z)))))))) Z Z))) Z Z) ?_
 have e:=DB h1;subst e
 replace h0:=KY h0
 have e:=DB h0;subst e
 exact Ji (hQ0 (.panic (Jr (QG 90 y4))) _ ZC Z (show StLe _ _ ⟨[],JY a1 a2 a3 a4,[],12,19,[]⟩ from (QH Dy (hA Z) DN Z (Nat.le_trans hv0 (DM Z)) Z Z Z (bB Z Z (bB Z Z (bB Z Z (bB Z Z (bG Z (bB Z Z (bG Z (bA Z)))))))) Z Z))) (fun _ _ h=>h)
 replace h1:=Qj c2 h1
 refine Q7 Z Z<|Q7 Z Z<|Q7 Z Z<|Q7 Z Z<|DD Z Z Z (Qa Z Z)<|Q3 ?_
 have e:=DB h1;subst e
 replace h0:=Kp h0
 exact Qb () (QH (Dz Z) (hA Z) DN Z (Nat.le_trans hv0 (DM Z)) Z Z Z (bB Z Z (bB Z Z (bB Z Z (bB Z Z (bG Z (bB Z Z (bG Z (bA Z)))))))) Z Z) h0
 intro v1 h0
 unfold Gc at h0
 refine Q4 ?_
 refine Qg Z (fun h=>nomatch h) (fun _=>?_)
 refine Qn<|Q4<|Q6<|Q0<|DD Z Z Z (Q2 JJ Z)<|DD Z Z Z (Q5 Yj Z Z Z)<|DD Z Z Z (ZA Z) ?_
 refine Qd h0 (fun y19 h1 h0=>?_)
 have hc18:CallE Try.prog 98 [.one (DU a0.kids),.one (.fn 99 [(9,0)])] ⟨J5 a1 a2 a3 a4 a0,[],10⟩ (((Sum.elim (fun (y16:Bool)=>((.ret [.one (DX y16)]):EK)) (fun (y17:Int)=>((.pan (QG 90 y17)):EK)))) y19) ⟨(((Sum.elim (fun (y16:Bool)=>(⟨[(4,.v (.one (DX y16)))],J5 a1 a2 a3 a4 a0,[],10,9,[]⟩:St)) (fun (y17:Int)=>(⟨[],Jf a1 a2 a3 a4 a0,[],15,9,[]⟩:St)))) y19).hp,(((Sum.elim (fun (y16:Bool)=>(⟨[(4,.v (.one (DX y16)))],J5 a1 a2 a3 a4 a0,[],10,9,[]⟩:St)) (fun (y17:Int)=>(⟨[],Jf a1 a2 a3 a4 a0,[],15,9,[]⟩:St)))) y19).tk,(((Sum.elim (fun (y16:Bool)=>(⟨[(4,.v (.one (DX y16)))],J5 a1 a2 a3 a4 a0,[],10,9,[]⟩:St)) (fun (y17:Int)=>(⟨[],Jf a1 a2 a3 a4 a0,[],15,9,[]⟩:St)))) y19).nx⟩:=by
  refine JG y19 ((Sum.elim (fun (y16:Bool)=>(⟨[(4,.v (.one (DX y16)))],J5 a1 a2 a3 a4 a0,[],10,9,[]⟩:St)) (fun (y17:Int)=>(⟨[],Jf a1 a2 a3 a4 a0,[],15,9,[]⟩:St)))) ((Sum.elim (fun (y16:Bool)=>((.ret [.one (DX y16)]):EK)) (fun (y17:Int)=>((.pan (QG 90 y17)):EK)))) rfl rfl en_98 (DM rfl) (fun z_=>by cases z_ with
    | inl _=>exact rfl
    | inr _=>exact rfl) (fun z_=>by cases z_ with
    | inl _=>exact (Uu (QB rfl .nil))
    | inr _=>exact UE) (fun w0 M V0 Q hv1 hQ1=>?_)
  simp only [Jb]
  refine Q6<|Q0<|DF Z Z Z<|Q3<|Q4<|Q6<|Q0<|DE Z Z Z<|DE Z Z Z ?_
  refine Qd h1 (fun y23 h2 h1=>?_)
  have hc22:CallE Try.prog 104 [.one (DU a0.kids),.one (.fn 99 [(9,0)])] ⟨J5 a1 a2 a3 a4 a0,[],10⟩ (((Sum.elim (fun (y20:Int)=>((.ret [.one (DW y20)]):EK)) (fun (y21:Int)=>((.pan (QG 90 y21)):EK)))) y23) ⟨(((Sum.elim (fun (y20:Int)=>(⟨[(4,.v (.one (DW y20)))],J5 a1 a2 a3 a4 a0,[],10,19,[]⟩:St)) (fun (y21:Int)=>(⟨[],Jf a1 a2 a3 a4 a0,[],15,19,[]⟩:St)))) y23).hp,(((Sum.elim (fun (y20:Int)=>(⟨[(4,.v (.one (DW y20)))],J5 a1 a2 a3 a4 a0,[],10,19,[]⟩:St)) (fun (y21:Int)=>(⟨[],Jf a1 a2 a3 a4 a0,[],15,19,[]⟩:St)))) y23).tk,(((Sum.elim (fun (y20:Int)=>(⟨[(4,.v (.one (DW y20)))],J5 a1 a2 a3 a4 a0,[],10,19,[]⟩:St)) (fun (y21:Int)=>(⟨[],Jf a1 a2 a3 a4 a0,[],15,19,[]⟩:St)))) y23).nx⟩:=by
   refine JG y23 ((Sum.elim (fun (y20:Int)=>(⟨[(4,.v (.one (DW y20)))],J5 a1 a2 a3 a4 a0,[],10,19,[]⟩:St)) (fun (y21:Int)=>(⟨[],Jf a1 a2 a3 a4 a0,[],15,19,[]⟩:St)))) ((Sum.elim (fun (y20:Int)=>((.ret [.one (DW y20)]):EK)) (fun (y21:Int)=>((.pan (QG 90 y21)):EK)))) rfl rfl en_104 (DM rfl) (fun z_=>by cases z_ with
     | inl _=>exact rfl
     | inr _=>exact rfl) (fun z_=>by cases z_ with
     | inl _=>exact (Uu (QB rfl .nil))
     | inr _=>exact UE) (fun w0 M V0 Q hv2 hQ2=>?_)
   simp only [Jb]
   refine Q6<|Q0<|DF Z Z Z<|Q3<|Q4<|Q6<|Q6<|Q0<|DE Z Z Z<|DD Z Z Z (QD (α:=Tm) JC Z (.d _))<|DE Z Z Z<|Q3<|Q4<|Qh ?_
   refine J2 0 (fun (o24:Unit)=>⟨[],J5 a1 a2 a3 a4 a0,[],10,19,[]⟩) (fun (o24:Unit)=>(some (.inl (-1)))=some y23) ?_ ?_
   refine Qd h2 (fun o25 hl3 h2=>?_)
   refine J1 (Gb a0 rc a1 a2 a3 a4) (fun s3=>⟨[(0,.v (.one (DU a0.kids))),(1,.v (.one (.fn 99 [(9,0)]))),(7,.v (.one (DW (a0.kids.length:Int)))),(8,.v (.one (DW s3)))],J5 a1 a2 a3 a4 a0,[],10,19,[]⟩) 0 o25 (QH (Dz Z) (hA Z) DN Z (Nat.le_trans hv2 (DM Z)) Z Z Z (bB Z Z (bB Z Z (bB Z Z (bB Z Z (bG Z (bB Z Z (bG Z (bA Z)))))))) Z Z) hl3 (fun s3 n3 oo3 h3 ho3=>?_)
   unfold Gb at h3
   refine Q6<|Q0<|DD Z Z Z (Q8 Z Z Z)<|Q3<|Q4<|Q6 ?_
   refine Qg (b:=(decide (s3 < (a0.kids.length:Int)))) Z (fun c26=>?_) (fun c26=>?_)
   replace h3:=Qi c26 h3
   refine Qn<|Q4<|Q6<|Qh<|Q6<|Q0<|DE Z Z Z<|DF Z Z Z<|Q3<|Q4<|Q6<|Q0<|DE Z Z Z<|DE Z Z Z ?_
   refine DE Z Z Z ?_
   refine Qd h3 (fun x27 hx27 h3=>?_)
   refine DD Z Z Z (Qy (α:=Tm) JC Z (.d _) Z hx27)<|DD Z Z Z (Qt (x27:Tm) QX Z) ?_
   refine Qd h3 (fun y31 h4 h3=>?_)
   have hc30:CallE Try.prog 99 [.agg (DZ x27),.one (.ptr 9 0)] ⟨J5 a1 a2 a3 a4 a0,[],10⟩ (((Sum.elim (fun (y28:Bool)=>((.ret [.one (DX y28)]):EK)) (fun (y29:Int)=>((.pan (QG 90 y29)):EK)))) y31) ⟨(((Sum.elim (fun (y28:Bool)=>(⟨[(3,.v (.one (DX y28)))],J5 a1 a2 a3 a4 a0,[],13,8,[]⟩:St)) (fun (y29:Int)=>(⟨[],Jf a1 a2 a3 a4 a0,[],15,8,[]⟩:St)))) y31).hp,(((Sum.elim (fun (y28:Bool)=>(⟨[(3,.v (.one (DX y28)))],J5 a1 a2 a3 a4 a0,[],13,8,[]⟩:St)) (fun (y29:Int)=>(⟨[],Jf a1 a2 a3 a4 a0,[],15,8,[]⟩:St)))) y31).tk,(((Sum.elim (fun (y28:Bool)=>(⟨[(3,.v (.one (DX y28)))],J5 a1 a2 a3 a4 a0,[],13,8,[]⟩:St)) (fun (y29:Int)=>(⟨[],Jf a1 a2 a3 a4 a0,[],15,8,[]⟩:St)))) y31).nx⟩:=by
    refine JG y31 ((Sum.elim (fun (y28:Bool)=>(⟨[(3,.v (.one (DX y28)))],J5 a1 a2 a3 a4 a0,[],13,8,[]⟩:St)) (fun (y29:Int)=>(⟨[],Jf a1 a2 a3 a4 a0,[],15,8,[]⟩:St)))) ((Sum.elim (fun (y28:Bool)=>((.ret [.one (DX y28)]):EK)) (fun (y29:Int)=>((.pan (QG 90 y29)):EK)))) rfl rfl en_99 (DM rfl) (fun z_=>by cases z_ with
      | inl _=>exact rfl
      | inr _=>exact rfl) (fun z_=>by cases z_ with
      | inl _=>exact (Uu (QB rfl .nil))
      | inr _=>exact UE) (fun w0 M V0 Q hv4 hQ4=>?_)
    simp only [Jb]
    refine Q6<|Q0<|Q9 Z Z (DM Z) (QV Z)<|DF Z Z Z<|Q3<|Q4<|Q6<|Q0<|DD Z Z Z (QM (x27:Tm) QX Z Z)<|DD Z Z Z (Q5 ag_78 Z Z Z) ?_
    refine Qd h4 (fun x32 hx32 h4=>?_)
    refine JL id hx32 h4 (fun x33 hx33 h4=>?_) (fun x34 hx34 h4=>?_)
    refine Q9 Z Z (DM Z) (Jp (hp1':=[(0,.loop .ready none [(5,.v (.one (.ptr 2 0))),(9,.v (.one (.ptr 5 0))),(23,.v (.one (.fn 82 [(7,0)])))] 53 #[24] YH Ye 1),(1,.obj (.deferred (some []))),(2,.cells 59 [.ptr 3 0]),(3,.cells 62 [DU a1,.mp 4]),(4,.mp (QT a2.1) a2.2),(5,.cells 60 [.mp 6]),(6,.mp (QT a3.1) a3.2),(7,.cells 33 (DZ a4))]) (tk1':=[]) (hpF:=m83f9_h9 a0 x27) (tkF:=[]) (res2:=QP [.one (DX x33)]) (nx2:=13) [0,1,2,3,4,5,6,7] Z Z (CallE.m (H x27 a1 a2 a3 a4 (.inl x33) hx33)) Z Z (DI Z Z (DI Z Z (DI Z Z (DI Z Z (DH Z (DI Z Z (DH Z (DI Z Z DG)))))))) Z Z (DS Z (DS Z (DS Z (DS Z (DT Z (DS Z (DT Z (DS Z DR)))))))) DP (hA Z) DN Z Z Z Z Z (bB Z Z (bB Z Z (bB Z Z (bB Z Z (bG Z (bB Z Z (bG Z (bA Z)))))))) Z Z Z Z)<|DD Z Z Z (Jj Z)<|DF Z Z Z<|Q3<|Q4<|QE ?_
    have e:=DB h4;subst e
    exact hQ4 _ _ UV Z (show StLe _ _ ⟨[(3,.v (.one (DX (!x33))))],J5 a1 a2 a3 a4 a0,[],13,8,[]⟩ from (QH (Dz Z) (hA Z) DN Z (Nat.le_trans hv4 (DM Z)) Z Z Z (bB Z Z (bB Z Z (bB Z Z (bB Z Z (bG Z (bB Z Z (bG Z (bA Z)))))))) Z Z))
    refine J6 Z (Yl (hp1':=[(0,.loop .busy none [(5,.v (.one (.ptr 2 0))),(9,.v (.one (.ptr 5 0))),(23,.v (.one (.fn 82 [(7,0)])))] 53 #[24] YH Ye 1),(1,.obj (.deferred (some []))),(2,.cells 59 [.ptr 3 0]),(3,.cells 62 [DU a1,.mp 4]),(4,.mp (QT a2.1) a2.2),(5,.cells 60 [.mp 6]),(6,.mp (QT a3.1) a3.2),(7,.cells 33 (DZ a4))]) (tk1':=[]) (hpF:=m83f9_h9 a0 x27) (tkF:=[]) (nx2:=15) [0,1,2,3,4,5,6,7] Z Z (CallE.d (H x27 a1 a2 a3 a4 (.inr x34) hx34)) Z Z (DI Z Z (DI Z Z (DI Z Z (DI Z Z (DH Z (DI Z Z (DH Z (DI Z Z DG)))))))) Z (DS Z (DS Z (DS Z (DS Z (DT Z (DS Z (DT Z (DS Z DR)))))))) DP (hA Z) DN Z Z Z Z Z (bB Z Z (bB Z Z (bB Z Z (bB Z Z (bG Z (bB Z Z (bG Z (bA Z)))))))) Z Z Z Z) ?_
    have e:=DB h4;subst e
    exact Ji (hQ4 (.panic (Jr (QG 90 x34))) _ ZC Z (show StLe _ _ ⟨[],Jf a1 a2 a3 a4 a0,[],15,8,[]⟩ from (QH Dy (hA Z) DN Z (Nat.le_trans hv4 (DM Z)) Z Z Z (bB Z Z (bB Z Z (bB Z Z (bB Z Z (bG Z (bB Z Z (bG Z (bA Z)))))))) Z Z))) (fun _ _ h=>h)
   refine W7 (C:=fun q_=>CallE Try.prog 99 [.agg (DZ x27),.one (.ptr 9 0)] ⟨J5 a1 a2 a3 a4 a0,[],10⟩ (((Sum.elim (fun (y28:Bool)=>((.ret [.one (DX y28)]):EK)) (fun (y29:Int)=>((.pan (QG 90 y29)):EK)))) q_) ⟨(((Sum.elim (fun (y28:Bool)=>(⟨[(3,.v (.one (DX y28)))],J5 a1 a2 a3 a4 a0,[],13,8,[]⟩:St)) (fun (y29:Int)=>(⟨[],Jf a1 a2 a3 a4 a0,[],15,8,[]⟩:St)))) q_).hp,(((Sum.elim (fun (y28:Bool)=>(⟨[(3,.v (.one (DX y28)))],J5 a1 a2 a3 a4 a0,[],13,8,[]⟩:St)) (fun (y29:Int)=>(⟨[],Jf a1 a2 a3 a4 a0,[],15,8,[]⟩:St)))) q_).tk,(((Sum.elim (fun (y28:Bool)=>(⟨[(3,.v (.one (DX y28)))],J5 a1 a2 a3 a4 a0,[],13,8,[]⟩:St)) (fun (y29:Int)=>(⟨[],Jf a1 a2 a3 a4 a0,[],15,8,[]⟩:St)))) q_).nx⟩) hc30 h3 (fun y28 hc30 h3=>?_) (fun y29 hc30 h3=>?_)
   replace hc30:CallM Try.prog 99 [.agg (DZ x27),.one (.ptr 9 0)] ⟨J5 a1 a2 a3 a4 a0,[],10⟩ (QP [.one (DX y28)]) ⟨J5 a1 a2 a3 a4 a0,[],13⟩:=hc30
   refine Q9 Z Z (DM Z) (JO Z Z Z hc30 Z (hA Z) DN)<|Q3<|Q4 ?_
   refine Qg (b:=y28) Z (fun c35=>?_) (fun c35=>?_)
   replace h3:=Qi c35 h3
   refine Q6<|Q0<|DE Z Z Z<|DF Z Z Z<|Q3<|Q4<|QE ?_
   have e:=DB h3;subst e
   have e_:_=_:=ho3
   subst e_
   try dsimp only [Sum.elim_inl,Sum.elim_inr] at h2
   have e:=DB h2;subst e
   exact hQ2 _ _ UV Z (show StLe _ _ ⟨[(4,.v (.one (DW s3)))],J5 a1 a2 a3 a4 a0,[],10,19,[]⟩ from (QH (Dz Z) (hA Z) DN Z (Nat.le_trans hv2 (DM Z)) Z Z Z (bB Z Z (bB Z Z (bB Z Z (bB Z Z (bG Z (bB Z Z (bG Z (bA Z)))))))) Z Z))
   replace h3:=Qj c35 h3
   refine Qn<|Qf<|Q4<|Q0<|DD Z Z Z (Q8 Z Z Z)<|DE Z Z Z<|Q3 ?_
   have e:=DB h3;subst e
   refine QW (Ja (s3+1)) (QH (Dz Z) (hA Z) DN Z (Nat.le_trans hv2 (DM Z)) Z Z Z (bB Z Z (bB Z Z (bB Z Z (bB Z Z (bG Z (bB Z Z (bG Z (bA Z)))))))) Z Z) ho3
   replace hc30:Xs Try.prog 99 [.agg (DZ x27),.one (.ptr 9 0)] ⟨J5 a1 a2 a3 a4 a0,[],10⟩ (QG 90 y29) ⟨Jf a1 a2 a3 a4 a0,[],15⟩:=hc30
   refine J6 Z (OpD.callW Z Z Z hc30 Z (hA Z) DN) ?_
   have e:=DB h3;subst e
   have e_:_=_:=ho3
   subst e_
   try dsimp only [Sum.elim_inl,Sum.elim_inr] at h2
   have e:=DB h2;subst e
   exact Ji (hQ2 (.panic (Jr (QG 90 y29))) _ ZC Z (show StLe _ _ ⟨[],Jf a1 a2 a3 a4 a0,[],15,19,[]⟩ from (QH Dy (hA Z) DN Z (Nat.le_trans hv2 (DM Z)) Z Z Z (bB Z Z (bB Z Z (bB Z Z (bB Z Z (bG Z (bB Z Z (bG Z (bA Z)))))))) Z Z))) (fun _ _ h=>h)
   replace h3:=Qj c26 h3
   refine J8<|Qr<|Qr ?_
   have e:=DB h3;subst e
   have e_:_=_:=ho3
   subst e_
   exact J0 () (QH Dy (hA Z) DN Z (Nat.le_trans hv2 (DM Z)) Z Z Z (bB Z Z (bB Z Z (bB Z Z (bB Z Z (bG Z (bB Z Z (bG Z (bA Z)))))))) Z Z) h2
   intro o24 h2
   refine QQ<|Q4<|Q6<|Q0<|DF Z Z Z<|Q3<|Q4<|QE ?_
   have e:=DB h2;subst e
   exact hQ2 _ _ UV Z (show StLe _ _ ⟨[(4,.v (.one (DW (-1))))],J5 a1 a2 a3 a4 a0,[],10,19,[]⟩ from (QH (Dz Z) (hA Z) DN Z (Nat.le_trans hv2 (DM Z)) Z Z Z (bB Z Z (bB Z Z (bB Z Z (bB Z Z (bG Z (bB Z Z (bG Z (bA Z)))))))) Z Z))
  refine W7 (C:=fun q_=>CallE Try.prog 104 [.one (DU a0.kids),.one (.fn 99 [(9,0)])] ⟨J5 a1 a2 a3 a4 a0,[],10⟩ (((Sum.elim (fun (y20:Int)=>((.ret [.one (DW y20)]):EK)) (fun (y21:Int)=>((.pan (QG 90 y21)):EK)))) q_) ⟨(((Sum.elim (fun (y20:Int)=>(⟨[(4,.v (.one (DW y20)))],J5 a1 a2 a3 a4 a0,[],10,19,[]⟩:St)) (fun (y21:Int)=>(⟨[],Jf a1 a2 a3 a4 a0,[],15,19,[]⟩:St)))) q_).hp,(((Sum.elim (fun (y20:Int)=>(⟨[(4,.v (.one (DW y20)))],J5 a1 a2 a3 a4 a0,[],10,19,[]⟩:St)) (fun (y21:Int)=>(⟨[],Jf a1 a2 a3 a4 a0,[],15,19,[]⟩:St)))) q_).tk,(((Sum.elim (fun (y20:Int)=>(⟨[(4,.v (.one (DW y20)))],J5 a1 a2 a3 a4 a0,[],10,19,[]⟩:St)) (fun (y21:Int)=>(⟨[],Jf a1 a2 a3 a4 a0,[],15,19,[]⟩:St)))) q_).nx⟩) hc22 h1 (fun y20 hc22 h1=>?_) (fun y21 hc22 h1=>?_)
  replace hc22:CallM Try.prog 104 [.one (DU a0.kids),.one (.fn 99 [(9,0)])] ⟨J5 a1 a2 a3 a4 a0,[],10⟩ (QP [.one (DW y20)]) ⟨J5 a1 a2 a3 a4 a0,[],10⟩:=hc22
  refine Q9 Z Z (DM Z) (JO Z Z Z hc22 Z (hA Z) DN)<|DD Z Z Z (Q8 Z Z Z)<|DF Z Z Z<|Q3<|Q4<|QE ?_
  have e:=DB h1;subst e
  exact hQ1 _ _ UV Z (show StLe _ _ ⟨[(4,.v (.one (DX (decide (0≤y20)))))],J5 a1 a2 a3 a4 a0,[],10,9,[]⟩ from (QH (Dz Z) (hA Z) DN Z (Nat.le_trans hv1 (DM Z)) Z Z Z (bB Z Z (bB Z Z (bB Z Z (bB Z Z (bG Z (bB Z Z (bG Z (bA Z)))))))) Z Z))
  replace hc22:Xs Try.prog 104 [.one (DU a0.kids),.one (.fn 99 [(9,0)])] ⟨J5 a1 a2 a3 a4 a0,[],10⟩ (QG 90 y21) ⟨Jf a1 a2 a3 a4 a0,[],15⟩:=hc22
  refine J6 Z (OpD.callW Z Z Z hc22 Z (hA Z) DN) ?_
  have e:=DB h1;subst e
  exact Ji (hQ1 (.panic (Jr (QG 90 y21))) _ ZC Z (show StLe _ _ ⟨[],Jf a1 a2 a3 a4 a0,[],15,9,[]⟩ from (QH Dy (hA Z) DN Z (Nat.le_trans hv1 (DM Z)) Z Z Z (bB Z Z (bB Z Z (bB Z Z (bB Z Z (bG Z (bB Z Z (bG Z (bA Z)))))))) Z Z))) (fun _ _ h=>h)
 refine W7 (C:=fun q_=>CallE Try.prog 98 [.one (DU a0.kids),.one (.fn 99 [(9,0)])] ⟨J5 a1 a2 a3 a4 a0,[],10⟩ (((Sum.elim (fun (y16:Bool)=>((.ret [.one (DX y16)]):EK)) (fun (y17:Int)=>((.pan (QG 90 y17)):EK)))) q_) ⟨(((Sum.elim (fun (y16:Bool)=>(⟨[(4,.v (.one (DX y16)))],J5 a1 a2 a3 a4 a0,[],10,9,[]⟩:St)) (fun (y17:Int)=>(⟨[],Jf a1 a2 a3 a4 a0,[],15,9,[]⟩:St)))) q_).hp,(((Sum.elim (fun (y16:Bool)=>(⟨[(4,.v (.one (DX y16)))],J5 a1 a2 a3 a4 a0,[],10,9,[]⟩:St)) (fun (y17:Int)=>(⟨[],Jf a1 a2 a3 a4 a0,[],15,9,[]⟩:St)))) q_).tk,(((Sum.elim (fun (y16:Bool)=>(⟨[(4,.v (.one (DX y16)))],J5 a1 a2 a3 a4 a0,[],10,9,[]⟩:St)) (fun (y17:Int)=>(⟨[],Jf a1 a2 a3 a4 a0,[],15,9,[]⟩:St)))) q_).nx⟩) hc18 h0 (fun y16 hc18 h0=>?_) (fun y17 hc18 h0=>?_)
 replace hc18:CallM Try.prog 98 [.one (DU a0.kids),.one (.fn 99 [(9,0)])] ⟨J5 a1 a2 a3 a4 a0,[],10⟩ (QP [.one (DX y16)]) ⟨J5 a1 a2 a3 a4 a0,[],10⟩:=hc18
 refine Q9 Z Z (DM Z) (JO Z Z Z hc18 Z (hA Z) DN)<|DD Z Z Z (Jj Z)<|DF Z Z Z<|Q3<|Q4<|QE ?_
 have e:=DB h0;subst e
 exact hQ0 _ _ UV Z (show StLe _ _ ⟨[(4,.v (.one (DX (!y16))))],Jv a1 a2 a3 a4,[],10,19,[]⟩ from (QH (Dz Z) (hA Z) DN Z (Nat.le_trans hv0 (DM Z)) Z Z Z (bB Z Z (bB Z Z (bB Z Z (bB Z Z (bG Z (bB Z Z (bG Z (bA Z)))))))) Z Z))
 replace hc18:Xs Try.prog 98 [.one (DU a0.kids),.one (.fn 99 [(9,0)])] ⟨J5 a1 a2 a3 a4 a0,[],10⟩ (QG 90 y17) ⟨Jf a1 a2 a3 a4 a0,[],15⟩:=hc18
 refine J6 Z (OpD.callW Z Z Z hc18 Z (hA Z) DN) ?_
 have e:=DB h0;subst e
 exact Ji (hQ0 (.panic (Jr (QG 90 y17))) _ ZC Z (show StLe _ _ ⟨[],JY a1 a2 a3 a4,[],12,19,[]⟩ from (QH Dy (hA Z) DN Z (Nat.le_trans hv0 (DM Z)) Z Z Z (bB Z Z (bB Z Z (bB Z Z (bB Z Z (bG Z (bB Z Z (bG Z (bA Z)))))))) Z Z))) (fun _ _ h=>h)
theorem m83f9_all (n:Nat) (u:Tm×(List Dcl)×(Qc Bs Ent)×(Qc Bs Ent)×Tm) (r:Bool⊕Int) (h0:JE Xy n u=some r):CallE Try.prog 83 [.agg (DZ u.1),.one (.yld 0)] ⟨Jv u.2.1 u.2.2.1 u.2.2.2.1 u.2.2.2.2,[],8⟩ ((Sum.elim (fun (r0:Bool)=>((.ret [.one (DX r0)]):EK)) (fun (r1:Int)=>((.pan (QG 90 r1)):EK))) r) ⟨((Sum.elim (fun (r0:Bool)=>(⟨[(4,.v (.one (DX r0)))],Jv u.2.1 u.2.2.1 u.2.2.2.1 u.2.2.2.2,[],10,19,[]⟩:St)) (fun (r1:Int)=>(⟨[],JY u.2.1 u.2.2.1 u.2.2.2.1 u.2.2.2.2,[],12,19,[]⟩:St))) r).hp,((Sum.elim (fun (r0:Bool)=>(⟨[(4,.v (.one (DX r0)))],Jv u.2.1 u.2.2.1 u.2.2.2.1 u.2.2.2.2,[],10,19,[]⟩:St)) (fun (r1:Int)=>(⟨[],JY u.2.1 u.2.2.1 u.2.2.2.1 u.2.2.2.2,[],12,19,[]⟩:St))) r).tk,((Sum.elim (fun (r0:Bool)=>(⟨[(4,.v (.one (DX r0)))],Jv u.2.1 u.2.2.1 u.2.2.2.1 u.2.2.2.2,[],10,19,[]⟩:St)) (fun (r1:Int)=>(⟨[],JY u.2.1 u.2.2.1 u.2.2.2.1 u.2.2.2.2,[],12,19,[]⟩:St))) r).nx⟩ :=
 Z9 (C:=fun u r=>CallE Try.prog 83 [.agg (DZ u.1),.one (.yld 0)] ⟨Jv u.2.1 u.2.2.1 u.2.2.2.1 u.2.2.2.2,[],8⟩ ((Sum.elim (fun (r0:Bool)=>((.ret [.one (DX r0)]):EK)) (fun (r1:Int)=>((.pan (QG 90 r1)):EK))) r) ⟨((Sum.elim (fun (r0:Bool)=>(⟨[(4,.v (.one (DX r0)))],Jv u.2.1 u.2.2.1 u.2.2.2.1 u.2.2.2.2,[],10,19,[]⟩:St)) (fun (r1:Int)=>(⟨[],JY u.2.1 u.2.2.1 u.2.2.2.1 u.2.2.2.2,[],12,19,[]⟩:St))) r).hp,((Sum.elim (fun (r0:Bool)=>(⟨[(4,.v (.one (DX r0)))],Jv u.2.1 u.2.2.1 u.2.2.2.1 u.2.2.2.2,[],10,19,[]⟩:St)) (fun (r1:Int)=>(⟨[],JY u.2.1 u.2.2.1 u.2.2.2.1 u.2.2.2.2,[],12,19,[]⟩:St))) r).tk,((Sum.elim (fun (r0:Bool)=>(⟨[(4,.v (.one (DX r0)))],Jv u.2.1 u.2.2.1 u.2.2.2.1 u.2.2.2.2,[],10,19,[]⟩:St)) (fun (r1:Int)=>(⟨[],JY u.2.1 u.2.2.1 u.2.2.2.1 u.2.2.2.2,[],12,19,[]⟩:St))) r).nx⟩) (fun rc H u r h=>m83f9s_ok rc (fun a0 a1 a2 a3 a4 r h=>H (a0,a1,a2,a3,a4) r h) u.1 u.2.1 u.2.2.1 u.2.2.2.1 u.2.2.2.2 r h) n u r h0
theorem m83f9_ok (a0:Tm) (a1:List Dcl) (a2:Qc Bs Ent) (a3:Qc Bs Ent) (a4:Tm) (r:Bool⊕Int) (h0:m83f9 a0 a1 a2 a3 a4=some r):CallE Try.prog 83 [.agg (DZ a0),.one (.yld 0)] ⟨Jv a1 a2 a3 a4,[],8⟩ ((Sum.elim (fun (r0:Bool)=>((.ret [.one (DX r0)]):EK)) (fun (r1:Int)=>((.pan (QG 90 r1)):EK))) r) ⟨((Sum.elim (fun (r0:Bool)=>(⟨[(4,.v (.one (DX r0)))],Jv a1 a2 a3 a4,[],10,19,[]⟩:St)) (fun (r1:Int)=>(⟨[],JY a1 a2 a3 a4,[],12,19,[]⟩:St))) r).hp,((Sum.elim (fun (r0:Bool)=>(⟨[(4,.v (.one (DX r0)))],Jv a1 a2 a3 a4,[],10,19,[]⟩:St)) (fun (r1:Int)=>(⟨[],JY a1 a2 a3 a4,[],12,19,[]⟩:St))) r).tk,((Sum.elim (fun (r0:Bool)=>(⟨[(4,.v (.one (DX r0)))],Jv a1 a2 a3 a4,[],10,19,[]⟩:St)) (fun (r1:Int)=>(⟨[],JY a1 a2 a3 a4,[],12,19,[]⟩:St))) r).nx⟩:=m83f9_all QI (a0,a1,a2,a3,a4) r h0
end Go.Proofs.Ytafddfoefeploaa
