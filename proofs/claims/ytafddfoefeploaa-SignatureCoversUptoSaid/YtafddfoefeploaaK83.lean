/- Part 3 of the proof: rules, mirrors and plain laws. The statement SignatureCoversUpto is proved here: for every list of declarations the law returns true, and what it is given reads behind the call ars it did before; condition: the arguments are of bulk at most 1048576 (the second form). -/
import Derived.Test.YtafddfoefeploaaK82
set_option maxRecDepth 100000
set_option maxHeartbeats 2000000
set_option linter.unusedSimpArgs false
set_option linter.unusedVariables false
set_option linter.unusedSectionVars false
namespace Go.Proofs.Ytafddfoefeploaa
open Go.RowKit
theorem U1 {n:Int} (h1:-9223372036854775808≤n) (h2:n≤9223372036854775807):J9 n=n:=IntWalk.i64_in n ⟨h1,h2⟩
theorem U0 {k:Nat} (h:k≤1000000000):J9 ((k:Int)+1)=((k+1:Nat):Int):=by rw [U1 (by omega) (by omega)];rfl
theorem idx_at {α:Type} {l:List α} {k:Nat} {x:α} (h:l[k]?=some x):JC l (k:Int)=some x:=h
theorem Js {α:Type} (a:List α) (x:α) (b:List α):JC (a++x::b) (a.length:Int)=some x:=by
 show (a++x::b)[a.length]?=some x
 simp
theorem JI {α:Type} (a:List α) (x:α) (b:List α):decide ((a.length:Int) < ((a++x::b).length:Int))=true:=by
 rw [decide_eq_true_eq,List.length_append,List.length_cons];omega
theorem Ks {α:Type} {l a b:List α} {x:α} (h:l=a++x::b):a.length < l.length:=by rw [h,List.length_append,List.length_cons];omega
theorem Yf (a b:Int):(a==b)=decide (a=b):=by
 by_cases h:a=b
 ·rw [decide_eq_true h];exact beq_iff_eq.2 h
 ·rw [decide_eq_false h,Bool.eq_false_iff];exact fun h'=>h (beq_iff_eq.1 h')
theorem J7 {α:Type} (a:List α):decide ((a.length:Int) < (a.length:Int))=false:=by simp
theorem JM {α:Type} {a b:Nat} {x:Option α} (h:a≤b):Jd (Nat.ble a b) x=x:=by
 rw [Nat.ble_eq_true_of_le h];rfl
theorem JG {α σ τ β:Type} {step:τ→Option (LO τ β)} (l:List α) (mk:Int→σ→τ) (I:List α→σ→Prop) (Q:β→Prop) (hlen:l.length≤900000000)
  (hin:∀ (a:List α) (x:α) (b:List α) (s:σ),l=a++x::b→I a s →
   (∃ r,step (mk (a.length:Int) s)=some (.done r)∧Q r)∨∃ s',step (mk (a.length:Int) s)=some (.next (mk (J9 ((a.length:Int)+1)) s'))∧I (a++[x]) s')
  (hout:∀ s,I l s→∃ r,step (mk (l.length:Int) s)=some (.done r)∧Q r) (s0:σ) (h0:I [] s0):∃ r,Qp step QF (mk 0 s0)=some r∧Q r:=by
 have key:∀ (b a:List α) (s:σ) (n:Nat),l=a++b→b.length < n→I a s→∃ r,Qp step n (mk (a.length:Int) s)=some r∧Q r:=by
  intro b
  induction b with
  | nil =>
   intro a s n hl hn hI
   rw [List.append_nil] at hl
   subst hl
   obtain ⟨r,h1,h2⟩:=hout s hI
   cases n with
   | zero=>omega
   | succ n=>exact ⟨r,by simp only [Qp,h1],h2⟩
  | cons x b ih =>
   intro a s n hl hn hI
   cases n with
   | zero=>omega
   | succ n =>
    rcases hin a x b s hl hI with ⟨r,h1,h2⟩ | ⟨s',h1,h2⟩
    ·exact ⟨r,by simp only [Qp,h1],h2⟩
    ·have hal:a.length≤900000000:=by rw [hl,List.length_append] at hlen;omega
     rw [U0 (by omega)] at h1
     obtain ⟨r,h3,h4⟩:=ih (a++[x]) s' n (by rw [hl,List.append_assoc];rfl) (by simp only [List.length_cons] at hn;omega) h2
     refine ⟨r,?_,h4⟩
     simp only [Qp,h1]
     rw [List.length_append] at h3
     exact h3
 exact key l [] s0 QF rfl (by unfold QF;omega) h0
theorem KT {α σ τ β:Type} {step:τ→Option (LO τ β)} (l:List α) (mk:Int→σ→τ) (f:σ→α→σ) (s0:σ) (fin:β) (hlen:l.length≤900000000)
  (hin:∀ (a:List α) (x:α) (b:List α),l=a++x::b→step (mk (a.length:Int) (a.foldl f s0))=some (.next (mk (J9 ((a.length:Int)+1)) (f (a.foldl f s0) x))))
  (hout:step (mk (l.length:Int) (l.foldl f s0))=some (.done fin)):Qp step QF (mk 0 s0)=some fin:=by
 obtain ⟨r,h1,h2⟩:=JG (step:=step) l mk (fun a s=>s=a.foldl f s0) (fun r=>r=fin) hlen (fun a x b s hl hs=>.inr ⟨f (a.foldl f s0) x,by rw [hs];exact hin a x b hl,by rw [List.foldl_append];rfl⟩)
  (fun s hs=>⟨fin,by rw [hs];exact hout,rfl⟩) s0 rfl
 rw [h1,h2]
section
variable {κ β:Type} [MK κ] [MV β]
theorem gmFind_shift (k:κ):∀ (l:List (κ×β×Nat)) (i:Nat),(Yp k l i).map (·.2)=(Yp k l 0).map (·.2)
 | [],i=>rfl
 | e::l,i=>by
  simp only [Yp]
  cases (k==e.1) with
  | true=>rfl
  | false=>simp only [cond_false];rw [gmFind_shift k l (i+1),gmFind_shift k l (0+1)]
theorem gmFind_idx (k:κ):∀ (l:List (κ×β×Nat)) (i:Nat),∀ j v,Yp k l i=some (j,v)→∃ n e,j=i+n∧l[n]?=some e∧(k==e.1)=true∧e.2.1=v
 | [],i,j,v,h=>by cases h
 | e::l,i,j,v,h=>by
  simp only [Yp] at h
  cases hk:(k==e.1) with
  | true=>rw [hk] at h;cases h;exact ⟨0,e,rfl,rfl,hk,rfl⟩
  | false =>
   rw [hk] at h
   obtain ⟨n,e',h1,h2,h3,h4⟩:=gmFind_idx k l (i+1) j v h
   exact ⟨n+1,e',by omega,h2,h3,h4⟩
theorem gmGet_nil (k:κ):ZZ (gmNil:Qa κ β) k=none:=rfl
end
section
variable {β:Type} [MV β]
theorem Xb (k:Bs) (e:Bs×β×Nat) (l:List (Bs×β×Nat)) (i:Nat):(Yp k (e::l) i).map (·.2)=if k=e.1 then some e.2.1 else (Yp k l 0).map (·.2):=by
 simp only [Yp]
 by_cases h:k=e.1
 ·rw [if_pos h,show (k==e.1)=true from beq_iff_eq.2 h];rfl
 ·rw [if_neg h,show (k==e.1)=false from by rw [Bool.eq_false_iff];exact fun h'=>h (beq_iff_eq.1 h')]
  simp only [cond_false];exact gmFind_shift k l (i+1)
theorem gf_app (k:Bs) (x:Bs×β×Nat):∀ (l:List (Bs×β×Nat)) (i:Nat),(Yp k (l++[x]) i).map (·.2)=match (Yp k l 0).map (·.2) with
  | some v=>some v
  | none=>if k=x.1 then some x.2.1 else none
 | [],i=>by rw [List.nil_append,Xb];rfl
 | e::l,i=>by
  rw [List.cons_append,Xb,Xb]
  by_cases h:k=e.1
  ·rw [if_pos h,if_pos h]
  ·rw [if_neg h,if_neg h];exact gf_app k x l 0
theorem gf_mod (k k':Bs) (v:β):∀ (l:List (Bs×β×Nat)) (i j:Nat) (u:β),Yp k l i=some (i+j,u)→(Yp k' (l.modify j fun e=>(k,v,e.2.2)) 0).map (·.2)=if k'=k then some v else (Yp k' l 0).map (·.2)
 | [],i,j,u,h=>by cases h
 | e::l,i,j,u,h=>by
  simp only [Yp] at h
  by_cases hk:k=e.1
  ·rw [show (k==e.1)=true from beq_iff_eq.2 hk] at h
   simp only [cond_true,Option.some.injEq,Prod.mk.injEq] at h
   obtain rfl:j=0:=by omega
   rw [show (e::l).modify 0 (fun e=>(k,v,e.2.2))=(k,v,e.2.2)::l from rfl,Xb,Xb,← hk]
   by_cases h2:k'=k <;> simp [h2]
  ·rw [show (k==e.1)=false from by rw [Bool.eq_false_iff];exact fun h'=>hk (beq_iff_eq.1 h')] at h
   simp only [cond_false] at h
   cases j with
   | zero =>
    obtain ⟨n,e',h1,-⟩:=gmFind_idx k l (i+1) _ u h
    omega
   | succ j =>
    have ih:=gf_mod k k' v l (i+1) j u (by rw [h];congr 2;omega)
    rw [show (e::l).modify (j+1) (fun e=>(k,v,e.2.2))=e::l.modify j (fun e=>(k,v,e.2.2)) from rfl,Xb,Xb,ih]
    by_cases h2:k'=k
    ·rw [if_pos h2,if_pos h2,if_neg (fun h3=>hk (h2▸h3))]
    ·rw [if_neg h2,if_neg h2]
theorem KU (M:Qa Bs β) (k k':Bs) (v:β):ZZ (J2 M k v) k'=if k'=k then some v else ZZ M k':=by
 unfold J2
 split
 ·rename_i j u h
  exact gf_mod k k' v M.1 0 j u (by rw [h,Nat.zero_add])
 ·rename_i h
  show (Yp k' (M.1++[(k,v,M.2)]) 0).map (·.2)=_
  rw [gf_app]
  by_cases h2:k'=k
  ·subst h2;rw [h];simp
  ·rw [if_neg h2,if_neg h2,show ZZ M k'=(Yp k' M.1 0).map (·.2) from rfl]
   cases (Yp k' M.1 0).map (·.2) with
   | none=>rfl
   | some v=>rfl
end
def W5 (own out:List Bs) (s:Bs):List Bs:=if s∈own∨s∈out then out else out++[s]
def YB (own out l:List Bs):List Bs:=l.foldl (W5 own) out
theorem addN_len (own out:List Bs) (s:Bs):(W5 own out s).length≤out.length+1:=by
 unfold W5;split
 ·omega
 ·simp
theorem Zs (own out a b:List Bs):YB own out (a++b)=YB own (YB own out a) b:=by unfold YB;rw [List.foldl_append]
theorem Zb (own:List Bs):∀ (l out:List Bs),(YB own out l).length≤out.length+l.length
 | [],out=>Nat.le_refl _
 | s::l,out=>by
  have h1:=addN_len own out s
  have h2:=Zb own l (W5 own out s)
  show (YB own (W5 own out s) l).length≤_
  simp only [List.length_cons];omega
theorem addN_mem (own out:List Bs) (s x:Bs):x∈W5 own out s↔x∈out∨(x=s∧s∉own):=by
 unfold W5
 by_cases h:s∈own∨s∈out
 ·rw [if_pos h]
  refine ⟨.inl,fun h'=>h'.elim id fun h''=>?_⟩
  rw [h''.1]
  exact h.elim (fun h=>absurd h h''.2) id
 ·rw [if_neg h,List.mem_append,List.mem_singleton]
  exact or_congr_right ⟨fun e=>⟨e,fun h'=>h (.inl h')⟩,fun e=>e.1⟩
theorem addL_mem (own:List Bs) (x:Bs):∀ (l out:List Bs),x∈YB own out l↔x∈out∨(x∈l∧x∉own)
 | [],out=>by simp [YB]
 | s::l,out=>by
  show x∈YB own (W5 own out s) l↔_
  rw [addL_mem own x l,addN_mem,List.mem_cons]
  constructor
  ·rintro ((h | ⟨rfl,h⟩) | ⟨h,h'⟩)
   ·exact .inl h
   ·exact .inr ⟨.inl rfl,h⟩
   ·exact .inr ⟨.inr h,h'⟩
  ·rintro (h | ⟨rfl | h,h'⟩)
   ·exact .inl (.inl h)
   ·exact .inl (.inr ⟨rfl,h'⟩)
   ·exact .inr ⟨h,h'⟩
def Met (own out:List Bs) (M:Qa Bs Bool):Prop:=∀ s,Qn M s=decide (s∈own∨s∈out)
theorem gmVal_set {β:Type} [MV β] (M:Qa Bs β) (k k':Bs) (v:β):Qn (J2 M k v) k'=if k'=k then v else Qn M k':=by
 unfold Qn
 rw [KU]
 by_cases h:k'=k <;> simp [h]
theorem Met.nil:Met [] [] gmNil:=fun s=>by simp [Qn,gmGet_nil,MV.z]
theorem Met.set {own out:List Bs} {M:Qa Bs Bool} (h:Met own out M) (s:Bs) (hs:¬ (s∈own∨s∈out)):Met own (out++[s]) (J2 M s true):=fun x=>by
 rw [gmVal_set,h x]
 by_cases e:x=s
 ·subst e;simp
 ·simp [e]
theorem add_step {own out:List Bs} {M:Qa Bs Bool} (h:Met own out M) (s:Bs) (hl:out.length < 1000000000):∃ M',(cond (!(Qn M s)) (Jd (Nat.ble (out.length+([s]).length) 1000000000) (some ((J2 M s true),(out++([s]))))) (some (M,out)))=some (M',W5 own out s)∧Met own (W5 own out s) M':=by
 rw [h s]
 unfold W5
 by_cases e:s∈own∨s∈out
 ·refine ⟨M,?_,?_⟩
  ·rw [decide_eq_true e,if_pos e];rfl
  ·rw [if_pos e];exact h
 ·refine ⟨J2 M s true,?_,?_⟩
  ·rw [decide_eq_false e,if_neg e,JM (by show out.length+1≤_;omega)];rfl
  ·rw [if_neg e];exact h.set s e
theorem ZI {α:Type} (f:α→Nat) {x:α}:∀ {l:List α},x∈l→f x≤(l.map f).sum
 | y::l,h=>by
  rw [List.map_cons,List.sum_cons]
  rcases List.mem_cons.1 h with rfl | h
  ·omega
  ·have:=ZI f h;omega
def lvz (l:Lvl):Nat:=1+(l.vs.map fun _=>1).sum
def Tm.size:Tm→Nat
 | .mk _ _ n ls ks=>1+n.length+(ls.map lvz).sum+(ks.attach.map fun k=>Tm.size k.1).sum
termination_by t=>SizeOf.sizeOf t
decreasing_by
 have:=List.sizeOf_lt_of_mem k.2
 simp only [Tm.mk.sizeOf_spec];omega
theorem Tm.size_eq (t:Tm):t.size=1+t.name.length+(t.levels.map lvz).sum+(t.kids.map Tm.size).sum:=by
 cases t
 rw [Tm.size,List.attach_map_val];rfl
def Tm.cn:Tm→List Bs
 | .mk k _ n _ ks=>(if k=3 then [n] else [])++(ks.attach.map fun k=>Tm.cn k.1).flatten
termination_by t=>SizeOf.sizeOf t
decreasing_by
 have:=List.sizeOf_lt_of_mem k.2
 simp only [Tm.mk.sizeOf_spec];omega
theorem Tm.cn_eq (t:Tm):t.cn=(if t.kind=3 then [t.name] else [])++(t.kids.map Tm.cn).flatten:=by
 cases t
 rw [Tm.cn,List.attach_map_val];rfl
theorem Yv {t k:Tm} (h:k∈t.kids):k.size < t.size:=by
 have:=ZI Tm.size h
 rw [t.size_eq];omega
theorem Tm.ind {C:Tm→Prop} (h:∀ t:Tm,(∀ k∈t.kids,C k)→C t) (t:Tm):C t:=by
 have:∀ n (t:Tm),t.size≤n→C t:=by
  intro n
  induction n with
  | zero=>intro t ht;rw [t.size_eq] at ht;omega
  | succ n ih=>exact fun t ht=>h t fun k hk=>ih k (by have:=Yv hk;omega)
 exact this _ t (Nat.le_refl _)
theorem GW {α:Type} (f:α→List Bs) (g:α→Nat):∀ l:List α,(∀ x∈l,(f x).length≤g x)→(l.map f).flatten.length≤(l.map g).sum
 | [],_=>Nat.le_refl _
 | x::l,h=>by
  simp only [List.map_cons,List.flatten_cons,List.length_append,List.sum_cons]
  have h1:=h x List.mem_cons_self
  have h2:=GW f g l fun y hy=>h y (List.mem_cons_of_mem _ hy)
  omega
theorem Tm.cn_len (t:Tm):t.cn.length≤t.size:=by
 induction t using Tm.ind with
 | h t ih =>
  rw [t.cn_eq,t.size_eq,List.length_append]
  have:=GW Tm.cn Tm.size t.kids ih
  have h0:(if t.kind=3 then [t.name] else []).length≤1:=by split <;> simp
  omega
theorem Gc (t:Tm):t.kids.length < t.size:=by
 rw [t.size_eq]
 have:∀ l:List Tm,l.length≤(l.map Tm.size).sum:=by
  intro l
  induction l with
  | nil=>exact Nat.le_refl _
  | cons x l ih =>
   rw [List.map_cons,List.sum_cons,List.length_cons]
   have:=x.size_eq
   omega
 have:=this t.kids
 omega
theorem GC {α:Type} (f:α→Nat) (a:List α) (x:α) (b:List α):((a++x::b).map f).sum=(a.map f).sum+f x+(b.map f).sum:=by simp;omega
theorem visit_ok (root:Tm):∀ (n:Nat) (t:Tm) (d:Int) (own out:List Bs) (M:Qa Bs Bool),t.size≤n→Met own out M→out.length+t.size≤900000000 →
  ∃ M',Jr WJ n (t,d,M,out,root)=some (true,M',YB own out t.cn)∧Met own (YB own out t.cn) M'
 | 0,t,d,own,out,M,h,_,_=>by rw [t.size_eq] at h;omega
 | n+1,t,d,own,out,M,h,hM,hb=>by
  show ∃ M',WI (Jr WJ n) t d M out root=_∧_
  unfold WI
  have hsz:=t.size_eq
  have h1:∃ M1,(Option.bind (cond (t.kind==3) (some (!(Qn M t.name))) (some false)) (fun (v4:Bool)=>cond v4
    (Jd (Nat.ble (out.length+([t.name]).length) 1000000000) (some ((J2 M t.name true),(out++([t.name])))))
    (some (M,out))))=some (M1,YB own out (if t.kind=3 then [t.name] else []))∧Met own (YB own out (if t.kind=3 then [t.name] else [])) M1:=by
   by_cases hk:t.kind=3
   ·rw [if_pos hk,hk]
    exact add_step hM t.name (by omega)
   ·rw [if_neg hk,show (t.kind==3)=false from beq_eq_false_iff_ne.2 hk]
    exact ⟨M,J,hM⟩
  obtain ⟨M1,e1,hM1⟩:=h1
  rw [e1,Option.bind_some]
  have h2:∃ v9:Int,∀ f:Int→Option (Bool×Qa Bs Bool×List Bs),(Option.bind (cond (decide (0≤t.kind)) (some (decide (t.kind < 13))) (some false)) (fun (v8:Bool)=>Option.bind (cond v8
    (Jd (cond (decide (0≤t.kind)) (Nat.blt t.kind.toNat 13) false)
    (Option.bind (JC ([(-1),(-1),(-1),(-1),(-1),1,1,1,(-1),(-1),(-1),2,(-1)]:List Int) t.kind) fun (x12:Int)=>some x12))
    (some (-1))) f))=f v9:=by
   by_cases ha:0≤t.kind
   ·by_cases hb:t.kind < 13
    ·obtain ⟨k,hk⟩:=Int.eq_ofNat_of_zero_le ha
     have hk13:k < 13:=by omega
     obtain ⟨y,hy⟩:∃ y,JC ([(-1),(-1),(-1),(-1),(-1),1,1,1,(-1),(-1),(-1),2,(-1)]:List Int) t.kind=some y:=by
      rw [hk];exact ⟨_,List.getElem?_eq_getElem (by simpa using hk13)⟩
     refine ⟨y,fun f=>?_⟩
     rw [decide_eq_true ha,decide_eq_true hb,hy]
     simp only [cond_true,Option.bind_some]
     rw [show Nat.blt t.kind.toNat 13=true from by rw [Nat.blt_eq];omega]
     rfl
    ·refine ⟨-1,fun f=>?_⟩
     rw [decide_eq_true ha,decide_eq_false hb];rfl
   ·refine ⟨-1,fun f=>?_⟩
    rw [decide_eq_false ha];rfl
  obtain ⟨v9,e2⟩:=h2
  dsimp only
  rw [e2]
  have hlen:=Gc t
  have hl1:(YB own out (if t.kind=3 then [t.name] else [])).length≤out.length+1:=by
   refine Nat.le_trans (Zb own _ out) ?_
   split <;> simp
  have:=JG (step:=Zy t v9 d (Jr WJ n) root) t.kids (fun i (s:Qa Bs Bool×List Bs)=>(i,s.1,s.2))
   (fun a s=>Met own s.2 s.1∧s.2=YB own (YB own out (if t.kind=3 then [t.name] else [])) (a.map Tm.cn).flatten)
   (fun r=>∃ M',r=.inl (M',YB own out t.cn)∧Met own (YB own out t.cn) M') (by omega)
   (fun a x b s hl hs=>.inr (by
    obtain ⟨Ms,os⟩:=s
    obtain ⟨hs1,hs2⟩:=hs
    dsimp only at hs1 hs2
    have hx:x∈t.kids:=by rw [hl];simp
    have hxs:=Yv hx
    have hol:os.length≤out.length+1+(a.map Tm.size).sum:=by
     rw [hs2]
     refine Nat.le_trans (Zb own _ _) ?_
     have:=GW Tm.cn Tm.size a fun y _=>y.cn_len
     omega
    have htot:(t.kids.map Tm.size).sum=(a.map Tm.size).sum+x.size+(b.map Tm.size).sum:=by rw [hl,GC]
    have hdd:∃ v13:Int,∀ f:Int→Option (LO (Int×(Qa Bs Bool)×(List Bs)) (((Qa Bs Bool)×(List Bs))⊕((Bool×(Qa Bs Bool)×(List Bs))))),Option.bind (cond ((a.length:Int)==v9) (some (J9 (d+1))) (some d)) f=f v13:=by
     cases ((a.length:Int)==v9) with
     | true=>exact ⟨_,fun f=>rfl⟩
     | false=>exact ⟨_,fun f=>rfl⟩
    obtain ⟨v13,hv13⟩:=hdd
    obtain ⟨M2,e3,hM2⟩:=visit_ok root n x v13 own os Ms (by omega) hs1 (by omega)
    refine ⟨(M2,YB own os x.cn),?_,hM2,?_⟩
    ·unfold Zy
     dsimp only
     rw [hl,JI,Js]
     simp only [cond_true,Option.bind_some]
     rw [hv13,e3]
     rfl
    ·rw [hs2,← Zs];simp))
   (fun s hs=>⟨.inl (s.1,s.2),by
    unfold Zy
    dsimp only
    rw [J7];rfl,s.1,by rw [hs.2,← Zs,← t.cn_eq],by rw [t.cn_eq,Zs,← hs.2];exact hs.1⟩) (M1,YB own out (if t.kind=3 then [t.name] else [])) ⟨hM1,rfl⟩
  obtain ⟨r,e4,M',rfl,hM'⟩:=this
  refine ⟨M',?_,hM'⟩
  rw [e4];rfl
def YK (t:Tm):List Bs:=YB [] [] t.cn
theorem Ke (t:Tm):(YK t).length≤t.size:=by
 have h1:=Zb [] t.cn []
 have h2:=t.cn_len
 unfold YK
 simp only [List.length_nil] at h1
 omega
theorem m58_eq (t:Tm) (h:t.size≤900000000):m58 t=some (YK t):=by
 unfold m58
 obtain ⟨M',e,-⟩:=visit_ok t QF t 0 [] [] gmNil (by unfold QF;omega) Met.nil (by simpa using h)
 unfold m91f12
 simp only [Option.bind_some]
 rw [e];rfl
theorem UZ (a b:Bs):(a==b)=decide (a=b):=by
 by_cases h:a=b
 ·rw [decide_eq_true h];exact beq_iff_eq.2 h
 ·rw [decide_eq_false h,Bool.eq_false_iff];exact fun h'=>h (beq_iff_eq.1 h')
theorem m77_eq (l:List Bs) (s:Bs) (h:l.length≤900000000):m77 l s=some (decide (s∈l)):=by
 unfold m77
 obtain ⟨r,e,h2⟩:=JG (step:=m77_l0 l s) l (fun i (_:Unit)=>i) (fun a _=>s∉a) (fun r=>(r=.inl ()∧s∉l)∨(r=.inr true∧s∈l)) h
  (fun a x b _ hl hs=>by
   unfold m77_l0
   rw [hl,JI,Js]
   simp only [cond_true,Option.bind_some,UZ]
   by_cases e:x=s
   ·subst e
    exact .inl ⟨.inr true,by simp,.inr ⟨rfl,by simp⟩⟩
   ·refine .inr ⟨(),by simp [e],?_⟩
    intro h'
    rcases List.mem_append.1 h' with h' | h'
    ·exact hs h'
    ·exact e (List.mem_singleton.1 h').symm)
  (fun _ hs=>⟨.inl (),by unfold m77_l0;rw [J7];rfl,.inl ⟨rfl,hs⟩⟩) () (by simp)
 rw [e]
 rcases h2 with ⟨rfl,h2⟩ | ⟨rfl,h2⟩
 ·simp [h2]
 ·simp [h2]
theorem m33_eq (l:List Bs) (s:Bs) (h:l.length≤900000000):DK l s=some (decide (s∈l)):=m77_eq l s h
end Go.Proofs.Ytafddfoefeploaa
namespace Go.Proofs.Ytafddfoefeploaa
open Go.RowKit
def Tr.size:Tr→Nat
 | .mk _ b _ brs=>1+b.size+(brs.attach.map fun x=>1+x.1.ctor.length+Tr.size x.1.tree).sum
termination_by t=>SizeOf.sizeOf t
decreasing_by
 have h1:=List.sizeOf_lt_of_mem x.2
 have h2:=BrF.tree_lt x.1
 simp only [Tr.mk.sizeOf_spec];omega
def Tr.cn:Tr→List Bs
 | .mk k b _ brs=>if k=0 then YK b else (brs.attach.map fun x=>x.1.ctor::(if x.1.absurd then [] else Tr.cn x.1.tree)).flatten
termination_by t=>SizeOf.sizeOf t
decreasing_by
 have h1:=List.sizeOf_lt_of_mem x.2
 have h2:=BrF.tree_lt x.1
 simp only [Tr.mk.sizeOf_spec];omega
def bsz (b:Br):Nat:=1+b.ctor.length+b.tree.size
def Dx (b:Br):List Bs:=b.ctor::(if b.absurd then [] else b.tree.cn)
theorem Tr.size_eq (t:Tr):t.size=1+t.body.size+(t.branches.map bsz).sum:=by
 cases t with
 | mk k b v brs =>
  rw [Tr.size]
  show _=1+b.size+(brs.map bsz).sum
  rw [← List.attach_map_val (l:=brs) (f:=bsz)];rfl
theorem Tr.cn_eq (t:Tr):t.cn=if t.kind=0 then YK t.body else (t.branches.map Dx).flatten:=by
 cases t with
 | mk k b v brs =>
  rw [Tr.cn]
  show _=if k=0 then YK b else (brs.map Dx).flatten
  rw [← List.attach_map_val (l:=brs) (f:=Dx)];rfl
theorem Kp {t:Tr} {b:Br} (h:b∈t.branches):b.tree.size < t.size:=by
 have:=ZI bsz h
 have e:bsz b=1+b.ctor.length+b.tree.size:=rfl
 rw [t.size_eq];omega
theorem Tr.ind {C:Tr→Prop} (h:∀ t:Tr,(∀ b∈t.branches,C b.tree)→C t) (t:Tr):C t:=by
 have:∀ n (t:Tr),t.size≤n→C t:=by
  intro n
  induction n with
  | zero=>intro t ht;rw [t.size_eq] at ht;omega
  | succ n ih=>exact fun t ht=>h t fun k hk=>ih k.tree (by have:=Kp hk;omega)
 exact this _ t (Nat.le_refl _)
theorem Tr.cn_len (t:Tr):t.cn.length≤t.size:=by
 induction t using Tr.ind with
 | h t ih =>
  rw [t.cn_eq,t.size_eq]
  split
  ·have:=Ke t.body;omega
  ·have:=GW Dx bsz t.branches fun b hb=>by
    have:=ih b hb
    unfold Dx bsz
    rw [List.length_cons]
    split
    ·simp;omega
    ·omega
   omega
theorem KC {α:Type} (g:α→Nat) (hg:∀ x,1≤g x):∀ l:List α,l.length≤(l.map g).sum
 | []=>Nat.le_refl _
 | x::l=>by
  rw [List.map_cons,List.sum_cons,List.length_cons]
  have:=hg x
  have:=KC g hg l
  omega
theorem branches_len (t:Tr):t.branches.length < t.size:=by
 have:=KC bsz (fun b=>by unfold bsz;omega) t.branches
 rw [t.size_eq];omega
def csz (c:Ctr):Nat:=1+c.name.length+c.ty.size
def fsz (f:Fn):Nat:=1+f.name.length+f.ty.size+f.tree.size
def Dcl.size (d:Dcl):Nat:=1+d.name.length+d.ty.size+d.value.size+(d.ctors.map csz).sum+d.rcr.ty.size+(d.rcr.rules.map Tm.size).sum+(d.funs.map fsz).sum
theorem Yx (d:Dcl):d.ctors.length < d.size:=by
 have:=KC csz (fun b=>by unfold csz;omega) d.ctors
 unfold Dcl.size;omega
theorem YY (d:Dcl):d.funs.length < d.size:=by
 have:=KC fsz (fun b=>by unfold fsz;omega) d.funs
 unfold Dcl.size;omega
theorem rules_len (d:Dcl):d.rcr.rules.length < d.size:=by
 have:=KC Tm.size (fun b=>by rw [b.size_eq];omega) d.rcr.rules
 unfold Dcl.size;omega
def J3 (d:Dcl):List Bs :=
 if d.kind=0∨d.kind=1∨d.kind=2 then [d.name] else
 if d.kind=3 then (d.name::d.ctors.map (·.name))++[d.name++[46,114,101,99]] else
 if d.kind=4 then d.funs.map (·.name) else []
theorem KI (d:Dcl):(J3 d).length≤d.size+1:=by
 have h1:=Yx d
 have h2:=YY d
 unfold J3
 split
 ·simp
 ·split
  ·simp;omega
  ·split
   ·simp;omega
   ·simp
theorem Zf {α:Type} (f:α→Bs):∀ (l:List α) (s:List Bs),l.foldl (fun s x=>s++[f x]) s=s++l.map f
 | [],s=>by simp
 | x::l,s=>by rw [List.foldl_cons,Zf f l];simp
theorem kinds_eq (k:Int):(cond (k==0) (some (k==0)) (cond (k==1) (some (k==1)) (some (k==2))))=some (decide (k=0∨k=1∨k=2)):=by
 by_cases h0:k=0
 ·subst h0;rfl
 ·by_cases h1:k=1
  ·subst h1;rfl
  ·by_cases h2:k=2
   ·subst h2;rfl
   ·simp [Yf,h0,h1,h2]
theorem m20_eq (d:Dcl) (h:d.size≤900000000):m20 d=some (J3 d):=by
 have h1:=Yx d
 have h2:=YY d
 have hn:d.name.length < d.size:=by unfold Dcl.size;omega
 unfold m20
 rw [kinds_eq,Option.bind_some]
 unfold J3
 by_cases hk:d.kind=0∨d.kind=1∨d.kind=2
 ·rw [if_pos hk,decide_eq_true hk];rfl
 rw [if_neg hk,decide_eq_false hk]
 by_cases h3:d.kind=3
 ·rw [if_pos h3,h3,KT (step:=Wy d) d.ctors (fun i (s:List Bs)=>(s,i)) (fun s c=>s++[c.name]) [d.name] ((d.name::d.ctors.map (·.name))) (by omega)
   (fun a x b hl=>by
    rw [Zf]
    unfold Wy
    dsimp only
    have:a.length < d.ctors.length:=Ks hl
    rw [hl,JI,Js]
    simp only [cond_true,Option.bind_some]
    rw [JM (by simp;omega)])
   (by unfold Wy;dsimp only;rw [J7,Zf];rfl)]
  simp only [cond_false,Option.bind_some,beq_self_eq_true,cond_true]
  rw [JM (by simp),JM (by simp;omega),JM (by simp;omega)]
 rw [if_neg h3,show (d.kind==3)=false from beq_eq_false_iff_ne.2 h3]
 by_cases h4:d.kind=4
 ·rw [if_pos h4,h4,KT (step:=Wx d) d.funs (fun i (s:List Bs)=>(s,i)) (fun s c=>s++[c.name]) [] (d.funs.map (·.name)) (by omega)
   (fun a x b hl=>by
    rw [Zf]
    unfold Wx
    dsimp only
    have:a.length < d.funs.length:=Ks hl
    rw [hl,JI,Js]
    simp only [cond_true,Option.bind_some]
    rw [JM (by simp;omega)])
   (by unfold Wx;dsimp only;rw [J7,Zf];rfl)]
  rfl
 rw [if_neg h4,show (d.kind==4)=false from beq_eq_false_iff_ne.2 h4];rfl
theorem Ue (d:Dcl) (h:d.size≤900000000):m23 d=some (J3 d):=by
 have h1:=Yx d
 have h2:=YY d
 have hn:d.name.length < d.size:=by unfold Dcl.size;omega
 unfold m23
 rw [kinds_eq,Option.bind_some]
 unfold J3
 by_cases hk:d.kind=0∨d.kind=1∨d.kind=2
 ·rw [if_pos hk,decide_eq_true hk];rfl
 rw [if_neg hk,decide_eq_false hk]
 by_cases h3:d.kind=3
 ·rw [if_pos h3,h3,KT (step:=m23_l0 d) d.ctors (fun i (s:List Bs)=>(s,i)) (fun s c=>s++[c.name]) [d.name] ((d.name::d.ctors.map (·.name))) (by omega)
   (fun a x b hl=>by
    rw [Zf]
    unfold m23_l0
    dsimp only
    have:a.length < d.ctors.length:=Ks hl
    rw [hl,JI,Js]
    simp only [cond_true,Option.bind_some]
    rw [JM (by simp;omega)])
   (by unfold m23_l0;dsimp only;rw [J7,Zf];rfl)]
  simp only [cond_false,Option.bind_some,beq_self_eq_true,cond_true]
  rw [JM (by simp;omega),JM (by simp;omega)]
 rw [if_neg h3,show (d.kind==3)=false from beq_eq_false_iff_ne.2 h3]
 by_cases h4:d.kind=4
 ·rw [if_pos h4,h4,KT (step:=m23_l1 d) d.funs (fun i (s:List Bs)=>(s,i)) (fun s c=>s++[c.name]) [] (d.funs.map (·.name)) (by omega)
   (fun a x b hl=>by
    rw [Zf]
    unfold m23_l1
    dsimp only
    have:a.length < d.funs.length:=Ks hl
    rw [hl,JI,Js]
    simp only [cond_true,Option.bind_some]
    rw [JM (by simp;omega)])
   (by unfold m23_l1;dsimp only;rw [J7,Zf];rfl)]
  rfl
 rw [if_neg h4,show (d.kind==4)=false from beq_eq_false_iff_ne.2 h4];rfl
theorem m92f15_eq (l own out:List Bs) (M:Qa Bs Bool) (a3:List Tm) (a4:Dcl) (hM:Met own out M) (h:out.length+l.length≤900000000):∃ M',Ux l M out a3 a4=some (M',YB own out l)∧Met own (YB own out l) M':=by
 unfold Ux
 obtain ⟨r,e,M',rfl,hM'⟩:=JG (step:=KJ l a3 a4) l (fun i (s:Qa Bs Bool×List Bs)=>(i,s.1,s.2)) (fun a s=>Met own s.2 s.1∧s.2=YB own out a) (fun r=>∃ M',r=(M',YB own out l)∧Met own (YB own out l) M') (by omega)
  (fun a x b s hl hs=>.inr (by
   obtain ⟨Ms,os⟩:=s
   obtain ⟨hs1,hs2⟩:=hs
   dsimp only at hs1 hs2
   have hol:=Zb own a out
   rw [← hs2] at hol
   have:a.length < l.length:=Ks hl
   obtain ⟨M1,e1,hM1⟩:=add_step hs1 x (by omega)
   refine ⟨(M1,W5 own os x),?_,hM1,?_⟩
   ·unfold KJ
    dsimp only
    rw [hl,JI,Js]
    simp only [cond_true,Option.bind_some]
    unfold m76f16
    rw [e1];rfl
   ·rw [Zs,← hs2];rfl))
  (fun s hs=>⟨(s.1,s.2),by unfold KJ;dsimp only;rw [J7];rfl,s.1,by rw [hs.2],by rw [← hs.2];exact hs.1⟩) (M,out) ⟨hM,rfl⟩
 rw [e]
 exact ⟨M',J,hM'⟩
theorem tvisit_ok (a3:List Tm) (a4:Dcl):∀ (n:Nat) (t:Tr) (own out:List Bs) (M:Qa Bs Bool),t.size≤n→Met own out M→out.length+t.size≤900000000 →
  ∃ M',Jr WL n (t,M,out,a3,a4)=some (true,M',YB own out t.cn)∧Met own (YB own out t.cn) M'
 | 0,t,own,out,M,h,_,_=>by rw [t.size_eq] at h;omega
 | n+1,t,own,out,M,h,hM,hb=>by
  show ∃ M',WK (Jr WL n) t M out a3 a4=_∧_
  unfold WK
  have hsz:=t.size_eq
  have hlen:=branches_len t
  rw [t.cn_eq]
  by_cases hk:t.kind=0
  ·rw [if_pos hk,hk]
   have:=Ke t.body
   rw [m58_eq _ (by omega)]
   obtain ⟨M',e,hM'⟩:=m92f15_eq (YK t.body) own out M a3 a4 hM (by omega)
   refine ⟨M',?_,hM'⟩
   simp only [Option.bind_some,beq_self_eq_true,cond_true]
   unfold m75f14
   rw [e];rfl
  ·rw [if_neg hk,show (t.kind==0)=false from beq_eq_false_iff_ne.2 hk,cond_false]
   obtain ⟨r,e,M',rfl,hM'⟩:=JG (step:=K9 t (Jr WL n) a3 a4) t.branches (fun i (s:Qa Bs Bool×List Bs)=>(i,s.1,s.2)) (fun a s=>Met own s.2 s.1∧s.2=YB own out (a.map Dx).flatten)
    (fun r=>∃ M',r=.inl (M',YB own out (t.branches.map Dx).flatten)∧Met own (YB own out (t.branches.map Dx).flatten) M') (by omega)
    (fun a x b s hl hs=>.inr (by
     obtain ⟨Ms,os⟩:=s
     obtain ⟨hs1,hs2⟩:=hs
     dsimp only at hs1 hs2
     have hx:x∈t.branches:=by rw [hl];simp
     have hxs:=Kp hx
     have hol:os.length≤out.length+(a.map bsz).sum:=by
      rw [hs2]
      refine Nat.le_trans (Zb own _ _) ?_
      have:=GW Dx bsz a fun y _=>by
       have:=y.tree.cn_len
       unfold Dx bsz
       rw [List.length_cons]
       split
       ·simp;omega
       ·omega
      omega
     have htot:(t.branches.map bsz).sum=(a.map bsz).sum+bsz x+(b.map bsz).sum:=by rw [hl,GC]
     have hbx:bsz x=1+x.ctor.length+x.tree.size:=rfl
     obtain ⟨M1,e1,hM1⟩:=add_step hs1 x.ctor (by omega)
     have hadd:=addN_len own os x.ctor
     cases ha:x.absurd with
     | true =>
      refine ⟨(M1,W5 own os x.ctor),?_,hM1,?_⟩
      ·unfold K9
       dsimp only
       rw [hl,JI,Js]
       simp only [cond_true,Option.bind_some]
       rw [e1,ha];rfl
      ·rw [List.map_append,List.flatten_append,Zs,← hs2]
       simp only [List.map_cons,List.map_nil,List.flatten_cons,List.flatten_nil,List.append_nil,Dx,ha,if_true];rfl
     | false =>
      obtain ⟨M2,e2,hM2⟩:=tvisit_ok a3 a4 n x.tree own (W5 own os x.ctor) M1 (by omega) hM1 (by omega)
      refine ⟨(M2,YB own (W5 own os x.ctor) x.tree.cn),?_,hM2,?_⟩
      ·unfold K9
       dsimp only
       rw [hl,JI,Js]
       simp only [cond_true,Option.bind_some]
       rw [e1,ha]
       simp only [Option.bind_some,Bool.not_false,cond_true]
       rw [e2];rfl
      ·rw [List.map_append,List.flatten_append,Zs,← hs2]
       simp only [List.map_cons,List.map_nil,List.flatten_cons,List.flatten_nil,List.append_nil,Dx,ha];rfl))
    (fun s hs=>⟨.inl (s.1,s.2),by unfold K9;dsimp only;rw [J7];rfl,s.1,by rw [hs.2],by rw [← hs.2];exact hs.1⟩) (M,out) ⟨hM,rfl⟩
   rw [e]
   exact ⟨M',J,hM'⟩
def JA (d:Dcl):List Tm:=[d.ty,d.value]++d.ctors.map (·.ty)++[d.rcr.ty]++d.rcr.rules++d.funs.map (·.ty)
def K7 (d:Dcl):List Bs:=((JA d).map YK).flatten++(d.funs.map fun f=>f.tree.cn).flatten
def Dh (d:Dcl):List Bs:=YB (J3 d) [] (K7 d)
theorem WU {α:Type} (f:α→List Bs) (g:α→Nat) (h:∀ x,(f x).length≤g x) (l:List α):(l.map f).flatten.length≤(l.map g).sum:=GW f g l fun x _=>h x
theorem sum_le {α:Type} (f g:α→Nat) (h:∀ x,f x≤g x):∀ l:List α,(l.map f).sum≤(l.map g).sum
 | []=>Nat.le_refl _
 | x::l=>by
  simp only [List.map_cons,List.sum_cons]
  have:=h x
  have:=sum_le f g h l
  omega
theorem GA (d:Dcl):((JA d).map Tm.size).sum+(d.funs.map fun f=>f.tree.size).sum < d.size:=by
 unfold JA Dcl.size
 simp only [List.map_append,List.map_cons,List.map_nil,List.sum_append,List.sum_cons,List.sum_nil,List.map_map]
 have h1:=sum_le (Tm.size ∘ fun c:Ctr=>c.ty) csz (fun c=>by show c.ty.size≤csz c;unfold csz;omega) d.ctors
 have h2:(d.funs.map (Tm.size ∘ fun f:Fn=>f.ty)).sum+(d.funs.map fun f=>f.tree.size).sum≤(d.funs.map fsz).sum:=by
  induction d.funs with
  | nil=>exact Nat.le_refl _
  | cons f l ih =>
   simp only [List.map_cons,List.sum_cons]
   have:fsz f=1+f.name.length+f.ty.size+f.tree.size:=rfl
   have:(Tm.size ∘ fun f:Fn=>f.ty) f=f.ty.size:=rfl
   omega
 omega
theorem terms_len (d:Dcl):(JA d).length < d.size:=by
 have:=GA d
 have h1:=KC Tm.size (fun b=>by rw [b.size_eq];omega) (JA d)
 omega
theorem mentioned_len (d:Dcl):(K7 d).length < d.size:=by
 unfold K7
 rw [List.length_append]
 have h1:=WU YK Tm.size Ke (JA d)
 have h2:=WU (fun f:Fn=>f.tree.cn) (fun f=>f.tree.size) (fun f=>f.tree.cn_len) d.funs
 have:=GA d
 omega
theorem uses_len (d:Dcl):(Dh d).length < d.size:=by
 have:=Zb (J3 d) (K7 d) []
 have:=mentioned_len d
 unfold Dh
 simp only [List.length_nil] at *
 omega
theorem Gd {α:Type} (f:α→Tm):∀ (l:List α) (s:List Tm),l.foldl (fun s x=>s++[f x]) s=s++l.map f
 | [],s=>by simp
 | x::l,s=>by rw [List.foldl_cons,Gd f l];simp
theorem KX {d:Dcl} {t:Tm} (h:t∈JA d):t.size < d.size:=by
 have:=ZI Tm.size h
 have:=GA d
 omega
theorem fun_mem {d:Dcl} {f:Fn} (h:f∈d.funs):f.tree.size < d.size:=by
 have:=ZI (fun f:Fn=>f.tree.size) h
 have:=GA d
 omega
theorem terms_eq (d:Dcl) (h:d.size≤900000000):(Option.bind (Qp (XB d) QF (0,[d.ty,d.value])) (fun (o5:(List Tm))=>Jd (Nat.ble (o5.length+([d.rcr.ty]).length) 1000000000)
 (Jd (Nat.ble ((o5++([d.rcr.ty])).length+d.rcr.rules.length) 1000000000)
 (Option.bind (Qp (X6 d) QF (0,((o5++([d.rcr.ty]))++d.rcr.rules))) (fun (o8:(List Tm))=>some o8)))))=some (JA d):=by
 have h1:=Yx d
 have h2:=YY d
 have h3:=rules_len d
 have hsum:d.ctors.length+d.rcr.rules.length+d.funs.length+3≤d.size:=by
  have:=terms_len d
  unfold JA at this
  simp at this
  omega
 rw [KT (step:=XB d) d.ctors (fun i (s:List Tm)=>(i,s)) (fun s c=>s++[c.ty]) [d.ty,d.value] ([d.ty,d.value]++d.ctors.map (·.ty)) (by omega)
  (fun a x b hl=>by
   rw [Gd]
   unfold XB
   dsimp only
   have:a.length < d.ctors.length:=Ks hl
   rw [hl,JI,Js]
   simp only [cond_true,Option.bind_some]
   rw [JM (by simp;omega)])
  (by unfold XB;dsimp only;rw [J7,Gd];rfl)]
 simp only [Option.bind_some]
 rw [JM (by simp;omega),JM (by simp;omega)]
 rw [KT (step:=X6 d) d.funs (fun i (s:List Tm)=>(i,s)) (fun s c=>s++[c.ty]) _ (JA d) (by omega)
  (fun a x b hl=>by
   rw [Gd]
   unfold X6
   dsimp only
   have:a.length < d.funs.length:=Ks hl
   rw [hl,JI,Js]
   simp only [cond_true,Option.bind_some]
   rw [JM (by simp;omega)])
  (by unfold X6;dsimp only;rw [J7,Gd];rfl)]
 rfl
theorem seen_eq (l:List Bs) (h:l.length≤900000000):∃ M,Qp (Ww l) QF (0,gmNil)=some M∧Met l [] M:=by
 refine JG (step:=Ww l) l (fun i (s:Qa Bs Bool)=>(i,s)) (fun a s=>Met a [] s) (fun M=>Met l [] M) h
  (fun a x b s hl hs=>.inr ⟨J2 s x true,?_,fun y=>?_⟩) (fun s hs=>⟨s,by unfold Ww;dsimp only;rw [J7];rfl,hs⟩) gmNil Met.nil
 ·unfold Ww
  dsimp only
  rw [hl,JI,Js];rfl
 ·rw [gmVal_set,hs y]
  by_cases e:y=x
  ·subst e;simp
  ·simp [e]
theorem m24_l3_eq (l own out:List Bs) (M:Qa Bs Bool) (hM:Met own out M) (h:out.length+l.length≤900000000):∃ M',Qp (Wv l) QF (0,M,out)=some (M',YB own out l)∧Met own (YB own out l) M':=by
 obtain ⟨r,e,M',rfl,hM'⟩:=JG (step:=Wv l) l (fun i (s:Qa Bs Bool×List Bs)=>(i,s.1,s.2)) (fun a s=>Met own s.2 s.1∧s.2=YB own out a) (fun r=>∃ M',r=(M',YB own out l)∧Met own (YB own out l) M') (by omega)
  (fun a x b s hl hs=>.inr (by
   obtain ⟨Ms,os⟩:=s
   obtain ⟨hs1,hs2⟩:=hs
   dsimp only at hs1 hs2
   have hol:=Zb own a out
   rw [← hs2] at hol
   have:a.length < l.length:=Ks hl
   obtain ⟨M1,e1,hM1⟩:=add_step hs1 x (by omega)
   refine ⟨(M1,W5 own os x),?_,hM1,?_⟩
   ·unfold Wv
    dsimp only
    rw [hl,JI,Js]
    simp only [cond_true,Option.bind_some]
    rw [e1];rfl
   ·rw [Zs,← hs2];rfl))
  (fun s hs=>⟨(s.1,s.2),by unfold Wv;dsimp only;rw [J7];rfl,s.1,by rw [hs.2],by rw [← hs.2];exact hs.1⟩) (M,out) ⟨hM,rfl⟩
 exact ⟨M',e,hM'⟩
theorem m24_eq (d:Dcl) (h:d.size≤400000000):m24 d=some (Dh d):=by
 have hn:=KI d
 have hts:=GA d
 have htl:=terms_len d
 have hfl:=YY d
 unfold m24
 rw [m20_eq d (by omega),Option.bind_some]
 obtain ⟨M0,e0,hM0⟩:=seen_eq (J3 d) (by omega)
 rw [e0,Option.bind_some,terms_eq d (by omega),Option.bind_some]
 obtain ⟨r,e1,M1,rfl,hM1⟩:=JG (step:=Wu (JA d)) (JA d) (fun i (s:Qa Bs Bool×List Bs)=>(i,s.1,s.2)) (fun a s=>Met (J3 d) s.2 s.1∧s.2=YB (J3 d) [] (a.map YK).flatten)
  (fun r=>∃ M',r=(M',YB (J3 d) [] ((JA d).map YK).flatten)∧Met (J3 d) (YB (J3 d) [] ((JA d).map YK).flatten) M') (by omega)
  (fun a x b s hl hs=>.inr (by
   obtain ⟨Ms,os⟩:=s
   obtain ⟨hs1,hs2⟩:=hs
   dsimp only at hs1 hs2
   have hx:x∈JA d:=by rw [hl];simp
   have hxs:=KX hx
   have htot:((JA d).map Tm.size).sum=(a.map Tm.size).sum+x.size+(b.map Tm.size).sum:=by rw [hl,GC]
   have hol:os.length≤(a.map Tm.size).sum:=by
    rw [hs2]
    refine Nat.le_trans (Zb _ _ _) ?_
    have:=WU YK Tm.size Ke a
    simp only [List.length_nil];omega
   have hcl:=Ke x
   obtain ⟨M2,e2,hM2⟩:=m24_l3_eq (YK x) (J3 d) os Ms hs1 (by omega)
   refine ⟨(M2,YB (J3 d) os (YK x)),?_,hM2,?_⟩
   ·unfold Wu
    dsimp only
    rw [hl,JI,Js]
    simp only [cond_true,Option.bind_some]
    rw [m58_eq x (by omega),Option.bind_some,e2];rfl
   ·rw [hs2,← Zs];simp))
  (fun s hs=>⟨(s.1,s.2),by unfold Wu;dsimp only;rw [J7];rfl,s.1,by rw [hs.2],by rw [← hs.2];exact hs.1⟩) (M0,[]) ⟨hM0,rfl⟩
 rw [e1,Option.bind_some]
 have hl1:(YB (J3 d) [] ((JA d).map YK).flatten).length≤((JA d).map Tm.size).sum:=by
  refine Nat.le_trans (Zb _ _ _) ?_
  have:=WU YK Tm.size Ke (JA d)
  simp only [List.length_nil];omega
 obtain ⟨r,e3,M3,rfl,hM3⟩:=JG (step:=XA d (JA d)) d.funs (fun i (s:Qa Bs Bool×List Bs)=>(i,s.1,s.2)) (fun a s=>Met (J3 d) s.2 s.1∧s.2=YB (J3 d) (YB (J3 d) [] ((JA d).map YK).flatten) (a.map fun f=>f.tree.cn).flatten)
  (fun r=>∃ M',r=.inl (M',Dh d)) (by omega)
  (fun a x b s hl hs=>.inr (by
   obtain ⟨Ms,os⟩:=s
   obtain ⟨hs1,hs2⟩:=hs
   dsimp only at hs1 hs2
   have hx:x∈d.funs:=by rw [hl];simp
   have hxs:=fun_mem hx
   have htot:(d.funs.map fun f=>f.tree.size).sum=(a.map fun f=>f.tree.size).sum+x.tree.size+(b.map fun f=>f.tree.size).sum:=by rw [hl,GC]
   have hol:os.length≤((JA d).map Tm.size).sum+(a.map fun f=>f.tree.size).sum:=by
    rw [hs2]
    refine Nat.le_trans (Zb _ _ _) ?_
    have:=WU (fun f:Fn=>f.tree.cn) (fun f=>f.tree.size) (fun f=>f.tree.cn_len) a
    omega
   obtain ⟨M2,e2,hM2⟩:=tvisit_ok (JA d) d QF x.tree (J3 d) os Ms (by unfold QF;omega) hs1 (by omega)
   refine ⟨(M2,YB (J3 d) os x.tree.cn),?_,hM2,?_⟩
   ·unfold XA
    dsimp only
    rw [hl,JI,Js]
    simp only [cond_true,Option.bind_some]
    unfold m59f13
    rw [e2];rfl
   ·rw [hs2,← Zs];simp))
  (fun s hs=>⟨.inl (s.1,s.2),by unfold XA;dsimp only;rw [J7];rfl,s.1,by
   obtain ⟨s1,s2⟩:=s
   have:=hs.2
   dsimp only at this ⊢
   unfold Dh K7
   rw [Zs,← this]⟩) (M1,YB (J3 d) [] ((JA d).map YK).flatten) ⟨hM1,rfl⟩
 rw [e3];rfl
end Go.Proofs.Ytafddfoefeploaa
namespace Go.Proofs.Ytafddfoefeploaa
open Go.RowKit Go.Shelf
theorem Zi:Jp Try.prog 22=some (45,23):=by kernel_rfl
theorem Dp:Gq Try.prog 9=true:=by kernel_rfl
theorem en_9:J4 Try.prog 9:=enters_of Try.func9 (by kernel_rfl) rfl
theorem en_21:J4 Try.prog 21:=enters_of Try.func21 (by kernel_rfl) rfl
theorem en_37:J4 Try.prog 37:=enters_of Try.func37 (by kernel_rfl) rfl
theorem en_38:J4 Try.prog 38:=enters_of Try.func38 (by kernel_rfl) rfl
theorem en_55:J4 Try.prog 55:=enters_of Try.func55 (by kernel_rfl) rfl
theorem en_56:J4 Try.prog 56:=enters_of Try.func56 (by kernel_rfl) rfl
def Gy (a0:Tm) (rc:Tm→Option Int) (s1:Int×Int):Option (LO (Int×Int) Int) :=
 cond (decide (s1.2 < (a0.kids.length:Int)))
   (Option.bind (JC a0.kids s1.2) fun (x3:Tm) =>
 Option.bind (rc x3) fun (x4:Int) =>
 some (.next ((J9 (s1.1+x4)),(J9 (s1.2+1)))))
   (some (.done s1.1))
def Dr (rc:Tm→Option Int) (a0:Tm):Option Int :=
 Option.bind (Qp (Gy a0 rc) QF (1,0)) (fun (o1:Int)=>some o1)
def Db (rc:Tm→Option Int) (u:Tm):Option Int:=Dr rc u
def m55 (a0:Tm):Option Int:=Jr Db QF a0
theorem m55s_ok (rc:Tm→Option Int) (H:∀ (a0:Tm) (r:Int),rc a0=some r→Fun Try.prog 55 [.agg (cE a0)] (QK [.one (dI r)])) (a0:Tm) (r:Int) (h0:Dr rc a0=some r):Fun Try.prog 55 [.agg (cE a0)] (QK [.one (dI r)]):=by
 unfold Dr at h0
 refine QZ 9 21 Try.func55 J en_55 J (lb J) (fun S w=>?_)
 simp only [Ja]
 refine Q5<|Q0<|Q9 J J (lb J) (QT J)<|rA J J J<|Q3<|Q4<|Q5<|Q0<|rA J J J<|Q3<|Q4<|Q5<|Q5<|Q0 ?_
 refine rA J J J<|Q3<|Q4<|Qf ?_
 refine QY 0 (fun (o1:Int)=>⟨[(3,.v (.one (dI o1)))],[(0,.cells 33 (cE a0))],[],1,21,[]⟩) (fun (o1:Int)=>(some o1)=some r) ?_ ?_
 refine Qb h0 (fun o2 hl1 h0=>?_)
 refine QX (Gy a0 rc) (fun s1=>⟨[(1,.v (.one (.ptr 0 0))),(3,.v (.one (dI s1.1))),(4,.v (.one (dI s1.2)))],[(0,.cells 33 (cE a0))],[],1,21,[]⟩) (1,0) o2 (sL (Nat.zero_le _) J J J J J) hl1 (fun s1 n1 oo1 h1 ho1=>?_)
 unfold Gy at h1
 refine Q5<|Q5<|Q0<|rM J J J<|rR J J J (Q2 JR J)<|rR J J J (Q6 JO J J J)<|rR J J J (QA (α:=Tm) Jl J (.d _))<|rR J J J (Q7 J J J)<|Q3<|Q4 ?_
 refine Qh (b:=(decide (s1.2 < (a0.kids.length:Int)))) J (fun c3=>?_) (fun c3=>?_)
 replace h1:=Qk c3 h1
 refine Qm<|Q4<|Q5<|Qf<|Q0<|rM J J J<|rR J J J (Q2 JR J)<|rR J J J (Q6 JO J J J)<|rM J J J ?_
 refine Qb h1 (fun x4 hx4 h1=>?_)
 refine rR J J J (Qy (α:=Tm) Jl J (.d _) J hx4)<|rR J J J (Qv (x4:Tm) QV J) ?_
 refine Qb h1 (fun x5 hx5 h1=>?_)
 refine Q9 J J (lb J) (Qq (H x4 x5 hx5) J (.cons (.agg (.cons (.d _) (.cons (.d _) (.cons (.d _) (.cons (.d _) (.cons (.d _) .nil)))))) .nil))<|rR J J J (Q7 J J J)<|rA J J J<|Q3<|Qe<|Q4<|Q0<|rM J J J<|rR J J J (Q7 J J J)<|rA J J J<|Q3 ?_
 have e:=sI h1;subst e
 refine QR ((J9 (s1.1+x5)),(J9 (s1.2+1))) (sL (Nat.zero_le _) J J J J J) ho1
 replace h1:=Ql c3 h1
 refine J5<|Qo<|Qo ?_
 have e:=sI h1;subst e
 have e_:_=_:=ho1
 subst e_
 exact QW s1.1 (sL (Nat.zero_le _) J J J J J) h0
 intro o1 h0
 refine QM<|Q4<|Q5<|Q0<|rM J J J<|rA J J J<|Q3<|Q4<|QD ?_
 have e:=sI h0;subst e
 exact QL (fun _ _ h=>h) J (QC J .nil) (.cons (.one (.d _)) .nil)
theorem m55_all (n:Nat) (u:Tm) (r:Int) (h0:Jr Db n u=some r):Fun Try.prog 55 [.agg (cE u)] (QK [.one (dI r)]) :=
 YV (C:=fun u r=>Fun Try.prog 55 [.agg (cE u)] (QK [.one (dI r)])) (fun rc H u r h=>m55s_ok rc (fun a0 r h=>H a0 r h) u r h) n u r h0
theorem m55_ok (a0:Tm) (r:Int) (h0:m55 a0=some r):Fun Try.prog 55 [.agg (cE a0)] (QK [.one (dI r)]):=m55_all QF a0 r h0
def Ua (a0:Tm) (rc:Tm→Option Int) (s1:Int×Int):Option (LO (Int×Int) Int) :=
 cond (decide (s1.2 < (a0.kids.length:Int)))
   (Option.bind (JC a0.kids s1.2) fun (x3:Tm) =>
 Option.bind (rc x3) fun (x4:Int) =>
 some (.next ((max s1.1 x4),(J9 (s1.2+1)))))
   (some (.done s1.1))
def DF (rc:Tm→Option Int) (a0:Tm):Option Int :=
 Option.bind (Qp (Ua a0 rc) QF (0,0)) (fun (o1:Int)=>some (J9 (o1+1)))
def DG (rc:Tm→Option Int) (u:Tm):Option Int:=DF rc u
def m56 (a0:Tm):Option Int:=Jr DG QF a0
theorem m56s_ok (rc:Tm→Option Int) (H:∀ (a0:Tm) (r:Int),rc a0=some r→Fun Try.prog 56 [.agg (cE a0)] (QK [.one (dI r)])) (a0:Tm) (r:Int) (h0:DF rc a0=some r):Fun Try.prog 56 [.agg (cE a0)] (QK [.one (dI r)]):=by
 unfold DF at h0
 refine QZ 9 22 Try.func56 J en_56 J (lb J) (fun S w=>?_)
 simp only [Ja]
 refine Q5<|Q0<|Q9 J J (lb J) (QT J)<|rA J J J<|Q3<|Q4<|Q5<|Q0<|rA J J J<|Q3<|Q4<|Q5<|Q5<|Q0 ?_
 refine rA J J J<|Q3<|Q4<|Qf ?_
 refine QY 0 (fun (o1:Int)=>⟨[(3,.v (.one (dI o1)))],[(0,.cells 33 (cE a0))],[],1,22,[]⟩) (fun (o1:Int)=>(some (J9 (o1+1)))=some r) ?_ ?_
 refine Qb h0 (fun o2 hl1 h0=>?_)
 refine QX (Ua a0 rc) (fun s1=>⟨[(1,.v (.one (.ptr 0 0))),(3,.v (.one (dI s1.1))),(4,.v (.one (dI s1.2)))],[(0,.cells 33 (cE a0))],[],1,22,[]⟩) (0,0) o2 (sL (Nat.zero_le _) J J J J J) hl1 (fun s1 n1 oo1 h1 ho1=>?_)
 unfold Ua at h1
 refine Q5<|Q5<|Q0<|rM J J J<|rR J J J (Q2 JR J)<|rR J J J (Q6 JO J J J)<|rR J J J (QA (α:=Tm) Jl J (.d _))<|rR J J J (Q7 J J J)<|Q3<|Q4 ?_
 refine Qh (b:=(decide (s1.2 < (a0.kids.length:Int)))) J (fun c3=>?_) (fun c3=>?_)
 replace h1:=Qk c3 h1
 refine Qm<|Q4<|Q5<|Qf<|Q0<|rM J J J<|rR J J J (Q2 JR J)<|rR J J J (Q6 JO J J J)<|rM J J J ?_
 refine Qb h1 (fun x4 hx4 h1=>?_)
 refine rR J J J (Qy (α:=Tm) Jl J (.d _) J hx4)<|rR J J J (Qv (x4:Tm) QV J) ?_
 refine Qb h1 (fun x5 hx5 h1=>?_)
 refine Q9 J J (lb J) (Qq (H x4 x5 hx5) J (.cons (.agg (.cons (.d _) (.cons (.d _) (.cons (.d _) (.cons (.d _) (.cons (.d _) .nil)))))) .nil))<|rR J J J (Xe J J)<|rA J J J<|Q3<|Qe<|Q4<|Q0<|rM J J J<|rR J J J (Q7 J J J)<|rA J J J<|Q3 ?_
 have e:=sI h1;subst e
 refine QR ((max s1.1 x5),(J9 (s1.2+1))) (sL (Nat.zero_le _) J J J J J) ho1
 replace h1:=Ql c3 h1
 refine J5<|Qo<|Qo ?_
 have e:=sI h1;subst e
 have e_:_=_:=ho1
 subst e_
 exact QW s1.1 (sL (Nat.zero_le _) J J J J J) h0
 intro o1 h0
 refine QM<|Q4<|Q5<|Q0<|rM J J J<|rR J J J (Q7 J J J)<|rA J J J<|Q3<|Q4<|QD ?_
 have e:=sI h0;subst e
 exact QL (fun _ _ h=>h) J (QC J .nil) (.cons (.one (.d _)) .nil)
theorem m56_all (n:Nat) (u:Tm) (r:Int) (h0:Jr DG n u=some r):Fun Try.prog 56 [.agg (cE u)] (QK [.one (dI r)]) :=
 YV (C:=fun u r=>Fun Try.prog 56 [.agg (cE u)] (QK [.one (dI r)])) (fun rc H u r h=>m56s_ok rc (fun a0 r h=>H a0 r h) u r h) n u r h0
theorem m56_ok (a0:Tm) (r:Int) (h0:m56 a0=some r):Fun Try.prog 56 [.agg (cE a0)] (QK [.one (dI r)]):=m56_all QF a0 r h0
def DJ (a0:Tm):Option Bool :=
 Option.bind (Option.bind (m55 a0) fun (x2:Int) =>
 cond (decide (x2≤400))
   (Option.bind (m56 a0) fun (x4:Int) =>
 some (decide (x4≤150)))
   (some false)) (fun (v1:Bool)=>some v1)
theorem Ws (a0:Tm) (r:Bool) (h0:DJ a0=some r):Fun Try.prog 37 [.agg (cE a0)] (QK [.one (dB r)]):=by
 unfold DJ at h0
 refine QZ 9 11 Try.func37 J en_37 J (lb J) (fun S w=>?_)
 simp only [Ja]
 refine Q5<|Q0<|Q9 J J (lb J) (QT J)<|rA J J J<|Q3<|Q4<|Q5 ?_
 refine QS (fun (v1:Bool)=>⟨[(2,.v (.one (dB v1)))],[(0,.cells 33 (cE a0))],[],1,11,[]⟩) (fun (v1:Bool)=>(some v1)=some r) ?_ ?_
 refine Qb h0 (fun w1_ h1 h0=>?_)
 refine Q0<|rR J J J (QN (a0:Tm) QV J J) ?_
 refine Qb h1 (fun x2 hx2 h1=>?_)
 refine Q9 J J (lb J) (Qq (m55_ok a0 x2 hx2) J (.cons (.agg (.cons (.d _) (.cons (.d _) (.cons (.d _) (.cons (.d _) (.cons (.d _) .nil)))))) .nil))<|rR J J J (Q7 J J J)<|rM J J J ?_
 refine QG (d:=6) (c:=(decide (x2≤400))) J (fun c3=>?_) (fun c3=>?_)
 replace h1:=Qk c3 h1
 refine rR J J J (QN (a0:Tm) QV J J) ?_
 refine Qb h1 (fun x4 hx4 h1=>?_)
 refine Q9 J J (lb J) (Qq (m56_ok a0 x4 hx4) J (.cons (.agg (.cons (.d _) (.cons (.d _) (.cons (.d _) (.cons (.d _) (.cons (.d _) .nil)))))) .nil))<|rR J J J (Q7 J J J)<|rR J J J (Qg J J)<|rA J J J<|Q3 ?_
 have e:=sI h1;subst e
 exact Qd (decide (x4≤150)) (sL (Nat.zero_le _) J J J J J) h0
 replace h1:=Ql c3 h1
 refine Q8 J J<|Q8 J J<|Q8 J J<|rR J J J (Qc J J)<|rA J J J<|Q3 ?_
 have e:=sI h1;subst e
 exact Qd false (sL (Nat.zero_le _) J J J J J) h0
 intro v1 h0
 refine Q4<|QD ?_
 have e:=sI h0;subst e
 exact QL (fun _ _ h=>h) J (QC J .nil) (.cons (.one (.d _)) .nil)
def Wr (a0:Tr) (rc:Tr×Int→Option Bool) (a1:Int) (s1:Int):Option (LO Int (Unit⊕Bool)) :=
 cond (decide (s1 < (a0.branches.length:Int)))
   (Option.bind (Option.bind (JC a0.branches s1) fun (x6:Br) =>
 Option.bind (rc (x6.tree,(J9 (a1+1)))) fun (x7:Bool) =>
 cond (!x7)
   (some true)
   (Option.bind (JC a0.branches s1) fun (x9:Br) =>
 some (decide (200 < (x9.ctor.length:Int))))) (fun (v5:Bool)=>cond v5
   (some (.done (.inr false)))
   (some (.next (J9 (s1+1))))))
   (some (.done (.inl ())))
def DH (rc:Tr×Int→Option Bool) (a0:Tr) (a1:Int):Option Bool :=
 Option.bind (cond (decide (40 < a1))
   (some true)
   (cond (decide (40 < (a0.branches.length:Int)))
   (some true)
   (Option.bind (DJ a0.body) fun (x4:Bool) =>
 some (!x4)))) (fun (v1:Bool)=>cond v1
   (some false)
   (Option.bind (Qp (Wr a0 rc a1) QF 0) (Sum.elim (fun (o3:Unit)=>some true) (fun o=>some o))))
def DI (rc:Tr×Int→Option Bool) (u:Tr×Int):Option Bool:=DH rc u.1 u.2
def m38 (a0:Tr) (a1:Int):Option Bool:=Jr DI QF (a0,a1)
theorem m38s_ok (rc:Tr×Int→Option Bool) (H:∀ (a0:Tr) (a1:Int) (r:Bool),rc (a0,a1)=some r→Fun Try.prog 38 [.agg (cE a0),.one (dI a1)] (QK [.one (dB r)])) (a0:Tr) (a1:Int) (r:Bool) (h0:DH rc a0 a1=some r):Fun Try.prog 38 [.agg (cE a0),.one (dI a1)] (QK [.one (dB r)]):=by
 unfold DH at h0
 refine QZ 9 47 Try.func38 J en_38 J (lb J) (fun S w=>?_)
 simp only [Ja]
 refine Q5<|Q0<|Q9 J J (lb J) (QT J)<|rA J J J<|Q3<|Q4<|Q5<|Q5 ?_
 refine QS (fun (v1:Bool)=>⟨[(1,.v (.one (dI a1))),(2,.v (.one (.ptr 0 0))),(19,.v (.one (dB v1)))],[(0,.cells 74 (cE a0))],[],1,47,[]⟩) (fun (v1:Bool)=>(cond v1
     (some false)
     (Option.bind (Qp (Wr a0 rc a1) QF 0) (Sum.elim (fun (o3:Unit)=>some true) (fun o=>some o))))=some r) ?_ ?_
 refine Qb h0 (fun w1_ h1 h0=>?_)
 refine Q0<|rM J J J<|rR J J J (Q7 J J J)<|rM J J J ?_
 refine QG (d:=8) (c:=(decide (40 < a1))) J (fun c2=>?_) (fun c2=>?_)
 replace h1:=Qk c2 h1
 refine Q8 J J<|Q8 J J<|Q8 J J<|Q8 J J<|rR J J J (Qg J J)<|rM J J J<|Q8 J J<|Q8 J J<|Q8 J J<|Q8 J J<|rR J J J (Qg J J)<|Q3 ?_
 have e:=sI h1;subst e
 exact Qd true (sL (Nat.zero_le _) J J J J J) h0
 replace h1:=Ql c2 h1
 refine rR J J J (Q2 KD J)<|rR J J J (Q6 WZ J J J)<|rR J J J (QA (α:=Br) Xn J (.d _))<|rR J J J (Q7 J J J)<|rR J J J (Qc J J)<|rM J J J ?_
 refine QG (d:=14) (c:=(decide (40 < (a0.branches.length:Int)))) J (fun c3=>?_) (fun c3=>?_)
 replace h1:=Qk c3 h1
 refine Q8 J J<|Q8 J J<|Q8 J J<|Q8 J J<|rR J J J (Qg J J)<|Q3 ?_
 have e:=sI h1;subst e
 exact Qd true (sL (Nat.zero_le _) J J J J J) h0
 replace h1:=Ql c3 h1
 refine rR J J J (Q2 WS J)<|rR J J J (Qi QV J J J J) ?_
 refine Qb h1 (fun x4 hx4 h1=>?_)
 refine Q9 J J (lb J) (Qq (Ws a0.body x4 hx4) J (.cons (.agg (.cons (.d _) (.cons (.d _) (.cons (.d _) (.cons (.d _) (.cons (.d _) .nil)))))) .nil))<|rR J J J (Ji J)<|rR J J J (Qc J J)<|Q3 ?_
 have e:=sI h1;subst e
 exact Qd (!x4) (sL (Nat.zero_le _) J J J J J) h0
 intro v1 h0
 refine Q4 ?_
 refine Qh (b:=v1) J (fun c5=>?_) (fun c5=>?_)
 replace h0:=Qk c5 h0
 refine Q5<|Q0<|rA J J J<|Q3<|Q4<|QD ?_
 have e:=sI h0;subst e
 exact QL (fun _ _ h=>h) J (QC J .nil) (.cons (.one (.d _)) .nil)
 replace h0:=Ql c5 h0
 refine Qm<|Q4<|Q5<|Q5<|Q0<|rA J J J<|Q3<|Q4<|Qf ?_
 refine QY 0 (fun (o6:Unit)=>⟨[],[(0,.cells 74 (cE a0))],[],1,47,[]⟩) (fun (o6:Unit)=>(some true)=some r) ?_ ?_
 refine Qb h0 (fun o7 hl1 h0=>?_)
 refine QX (Wr a0 rc a1) (fun s1=>⟨[(1,.v (.one (dI a1))),(2,.v (.one (.ptr 0 0))),(5,.v (.one (dI s1)))],[(0,.cells 74 (cE a0))],[],1,47,[]⟩) 0 o7 (sL (Nat.zero_le _) J J J J J) hl1 (fun s1 n1 oo1 h1 ho1=>?_)
 unfold Wr at h1
 refine Q5<|Q5<|Q0<|rM J J J<|rR J J J (Q2 KD J)<|rR J J J (Q6 WZ J J J)<|rR J J J (QA (α:=Br) Xn J (.d _))<|rR J J J (Q7 J J J)<|Q3<|Q4 ?_
 refine Qh (b:=(decide (s1 < (a0.branches.length:Int)))) J (fun c8=>?_) (fun c8=>?_)
 replace h1:=Qk c8 h1
 refine Qm<|Q4<|Q5<|Qf<|Q5 ?_
 refine QS (fun (v9:Bool)=>⟨[(1,.v (.one (dI a1))),(2,.v (.one (.ptr 0 0))),(5,.v (.one (dI s1))),(46,.v (.one (dB v9)))],[(0,.cells 74 (cE a0))],[],1,47,[]⟩) (fun (v9:Bool)=>(cond v9
     (some (.done (.inr false)))
     (some (.next (J9 (s1+1)))))=some oo1) ?_ ?_
 refine Qb h1 (fun w2_ h2 h1=>?_)
 refine Q0<|rR J J J (Q2 KD J)<|rR J J J (Q6 WZ J J J)<|rM J J J ?_
 refine Qb h2 (fun x10 hx10 h2=>?_)
 refine rR J J J (Qy (α:=Br) Xn J (.d _) J hx10)<|rR J J J (YI fo_101_2 J)<|rR J J J (Z3 Up J J J)<|rM J J J<|rR J J J (Q7 J J J) ?_
 refine Qb h2 (fun x11 hx11 h2=>?_)
 refine Q9 J J (lb J) (Qq (H x10.tree (J9 (a1+1)) x11 hx11) J (.cons (.agg (.cons (.d _) (.cons (.d _) (.cons (.d _) (.cons (.d _) (.cons (.d _) (.cons (.d _) (.cons (.d _) (.cons (.d _) .nil))))))))) (.cons (.one (.d _)) .nil)))<|rR J J J (Ji J)<|rM J J J ?_
 refine QG (d:=37) (c:=(!x11)) J (fun c12=>?_) (fun c12=>?_)
 replace h2:=Qk c12 h2
 refine Q8 J J<|Q8 J J<|Q8 J J<|Q8 J J<|Q8 J J<|Q8 J J<|Q8 J J<|Q8 J J<|rR J J J (Qg J J)<|Q3 ?_
 have e:=sI h2;subst e
 exact Qd true (sL (Nat.zero_le _) J J J J J) h1
 replace h2:=Ql c12 h2
 refine rR J J J (Q2 KD J)<|rR J J J (Q6 WZ J J J)<|rM J J J ?_
 refine Qb h2 (fun x13 hx13 h2=>?_)
 refine rR J J J (Qy (α:=Br) Xn J (.d _) J hx13)<|rR J J J (YI fo_101_0 J)<|rR J J J (JQ JV J J)<|rR J J J (W3 Dp J)<|rR J J J (Q7 J J J)<|rR J J J (Qc J J)<|Q3 ?_
 have e:=sI h2;subst e
 exact Qd (decide (200 < (x13.ctor.length:Int))) (sL (Nat.zero_le _) J J J J J) h1
 intro v9 h1
 refine Q4 ?_
 refine Qh (b:=v9) J (fun c14=>?_) (fun c14=>?_)
 replace h1:=Qk c14 h1
 refine Q5<|Q0<|rA J J J<|Q3<|Q4<|QD ?_
 have e:=sI h1;subst e
 have e_:_=_:=ho1
 subst e_
 try dsimp only [Sum.elim_inl,Sum.elim_inr] at h0
 have e:=sI h0;subst e
 exact QL (fun _ _ h=>h) J (QC J .nil) (.cons (.one (.d _)) .nil)
 replace h1:=Ql c14 h1
 refine Qm<|Qe<|Q4<|Q0<|rM J J J<|rR J J J (Q7 J J J)<|rA J J J<|Q3 ?_
 have e:=sI h1;subst e
 refine QR (J9 (s1+1)) (sL (Nat.zero_le _) J J J J J) ho1
 replace h1:=Ql c8 h1
 refine J5<|Qo<|Qo ?_
 have e:=sI h1;subst e
 have e_:_=_:=ho1
 subst e_
 exact QW () (sL (Nat.zero_le _) J J J J J) h0
 intro o6 h0
 refine QM<|Q4<|Q5<|Q0<|rA J J J<|Q3<|Q4<|QD ?_
 have e:=sI h0;subst e
 exact QL (fun _ _ h=>h) J (QC J .nil) (.cons (.one (.d _)) .nil)
theorem m38_all (n:Nat) (u:Tr×Int) (r:Bool) (h0:Jr DI n u=some r):Fun Try.prog 38 [.agg (cE u.1),.one (dI u.2)] (QK [.one (dB r)]) :=
 YV (C:=fun u r=>Fun Try.prog 38 [.agg (cE u.1),.one (dI u.2)] (QK [.one (dB r)])) (fun rc H u r h=>m38s_ok rc (fun a0 a1 r h=>H (a0,a1) r h) u.1 u.2 r h) n u r h0
theorem m38_ok (a0:Tr) (a1:Int) (r:Bool) (h0:m38 a0 a1=some r):Fun Try.prog 38 [.agg (cE a0),.one (dI a1)] (QK [.one (dB r)]):=m38_all QF (a0,a1) r h0
def XE (a0:Dcl) (s1:Int):Option (LO Int (Unit⊕Bool)) :=
 cond (decide (s1 < (a0.ctors.length:Int)))
   (Option.bind (Option.bind (JC a0.ctors s1) fun (x6:Ctr) =>
 cond (decide (200 < (x6.name.length:Int)))
   (some true)
   (Option.bind (JC a0.ctors s1) fun (x8:Ctr) =>
 Option.bind (DJ x8.ty) fun (x9:Bool) =>
 some (!x9))) (fun (v5:Bool)=>cond v5
   (some (.done (.inr false)))
   (some (.next (J9 (s1+1))))))
   (some (.done (.inl ())))
def X7 (a0:Dcl) (s1:Int):Option (LO Int (Unit⊕Bool)) :=
 cond (decide (s1 < (a0.rcr.rules.length:Int)))
   (Option.bind (JC a0.rcr.rules s1) fun (x6:Tm) =>
 Option.bind (DJ x6) fun (x7:Bool) =>
 cond (!x7)
   (some (.done (.inr false)))
   (some (.next (J9 (s1+1)))))
   (some (.done (.inl ())))
def Gz (a0:Dcl) (s1:Int):Option (LO Int (Unit⊕Bool)) :=
 cond (decide (s1 < (a0.funs.length:Int)))
   (Option.bind (Option.bind (JC a0.funs s1) fun (x8:Fn) =>
 cond (decide (200 < (x8.name.length:Int)))
   (some true)
   (Option.bind (JC a0.funs s1) fun (x10:Fn) =>
 Option.bind (DJ x10.ty) fun (x11:Bool) =>
 cond (!x11)
   (some true)
   (Option.bind (JC a0.funs s1) fun (x13:Fn) =>
 Option.bind (m38 x13.tree 0) fun (x14:Bool) =>
 some (!x14)))) (fun (v7:Bool)=>cond v7
   (some (.done (.inr false)))
   (some (.next (J9 (s1+1))))))
   (some (.done (.inl ())))
def m21 (a0:Dcl):Option Bool :=
 Option.bind (cond (decide (200 < (a0.name.length:Int)))
   (some true)
   (Option.bind (DJ a0.ty) fun (x3:Bool) =>
 cond (!x3)
   (some true)
   (Option.bind (DJ a0.value) fun (x5:Bool) =>
 cond (!x5)
   (some true)
   (cond (decide (40 < (a0.ctors.length:Int)))
   (some true)
   (cond (decide (12 < (a0.funs.length:Int)))
   (some true)
   (Option.bind (DJ a0.rcr.ty) fun (x9:Bool) =>
 cond (!x9)
   (some true)
   (some (decide (40 < (a0.rcr.rules.length:Int)))))))))) (fun (v1:Bool)=>cond v1
   (some false)
   (Option.bind (Qp (XE a0) QF 0) (Sum.elim (fun (o3:Unit)=>Option.bind (Qp (X7 a0) QF 0) (Sum.elim (fun (o4:Unit)=>Option.bind (Qp (Gz a0) QF 0) (Sum.elim (fun (o5:Unit)=>some true) (fun o=>some o))) (fun o=>some o))) (fun o=>some o))))
theorem m21_ok (a0:Dcl) (r:Bool) (h0:m21 a0=some r):Fun Try.prog 21 [.agg (cE a0)] (QK [.one (dB r)]):=by
 unfold m21 at h0
 refine QZ 9 124 Try.func21 J en_21 J (lb J) (fun S w=>?_)
 simp only [Ja]
 refine Q5<|Q0<|Q9 J J (lb J) (QT J)<|rA J J J<|Q3<|Q4<|Q5<|Q5 ?_
 refine QS (fun (v1:Bool)=>⟨[(1,.v (.one (.ptr 0 0))),(47,.v (.one (dB v1)))],[(0,.cells 45 (cE a0))],[],1,124,[]⟩) (fun (v1:Bool)=>(cond v1
     (some false)
     (Option.bind (Qp (XE a0) QF 0) (Sum.elim (fun (o3:Unit)=>Option.bind (Qp (X7 a0) QF 0) (Sum.elim (fun (o4:Unit)=>Option.bind (Qp (Gz a0) QF 0) (Sum.elim (fun (o5:Unit)=>some true) (fun o=>some o))) (fun o=>some o))) (fun o=>some o))))=some r) ?_ ?_
 refine Qb h0 (fun w1_ h1 h0=>?_)
 refine Q0<|rR J J J (Q2 Ym J)<|rR J J J (Q6 JV J J J)<|rR J J J (W3 Dp J)<|rR J J J (Q7 J J J)<|rM J J J ?_
 refine QG (d:=10) (c:=(decide (200 < (a0.name.length:Int)))) J (fun c2=>?_) (fun c2=>?_)
 replace h1:=Qk c2 h1
 refine Q8 J J<|Q8 J J<|Q8 J J<|Q8 J J<|rR J J J (Qg J J)<|rM J J J<|Q8 J J<|Q8 J J<|Q8 J J<|Q8 J J<|rR J J J (Qg J J)<|rM J J J<|Q8 J J<|Q8 J J ?_
 refine Q8 J J<|Q8 J J<|rR J J J (Qg J J)<|rM J J J<|Q8 J J<|Q8 J J<|Q8 J J<|Q8 J J<|rR J J J (Qg J J)<|rM J J J<|Q8 J J<|Q8 J J<|Q8 J J<|Q8 J J ?_
 refine Q8 J J<|rR J J J (Qg J J)<|rM J J J<|Q8 J J<|Q8 J J<|Q8 J J<|Q8 J J<|Q8 J J<|rR J J J (Qg J J)<|Q3 ?_
 have e:=sI h1;subst e
 exact Qd true (sL (Nat.zero_le _) J J J J J) h0
 replace h1:=Ql c2 h1
 refine rR J J J (Q2 KF J)<|rR J J J (Qi QV J J J J) ?_
 refine Qb h1 (fun x3 hx3 h1=>?_)
 refine Q9 J J (lb J) (Qq (Ws a0.ty x3 hx3) J (.cons (.agg (.cons (.d _) (.cons (.d _) (.cons (.d _) (.cons (.d _) (.cons (.d _) .nil)))))) .nil))<|rR J J J (Ji J)<|rR J J J (Qc J J)<|rM J J J ?_
 refine QG (d:=16) (c:=(!x3)) J (fun c4=>?_) (fun c4=>?_)
 replace h1:=Qk c4 h1
 refine Q8 J J<|Q8 J J<|Q8 J J<|Q8 J J<|rR J J J (Qg J J)<|rM J J J<|Q8 J J<|Q8 J J<|Q8 J J<|Q8 J J<|rR J J J (Qg J J)<|rM J J J<|Q8 J J<|Q8 J J ?_
 refine Q8 J J<|Q8 J J<|rR J J J (Qg J J)<|rM J J J<|Q8 J J<|Q8 J J<|Q8 J J<|Q8 J J<|Q8 J J<|rR J J J (Qg J J)<|rM J J J<|Q8 J J<|Q8 J J<|Q8 J J ?_
 refine Q8 J J<|Q8 J J<|rR J J J (Qg J J)<|Q3 ?_
 have e:=sI h1;subst e
 exact Qd true (sL (Nat.zero_le _) J J J J J) h0
 replace h1:=Ql c4 h1
 refine rR J J J (Q2 fo_45_4 J)<|rR J J J (Qi QV J J J J) ?_
 refine Qb h1 (fun x5 hx5 h1=>?_)
 refine Q9 J J (lb J) (Qq (Ws a0.value x5 hx5) J (.cons (.agg (.cons (.d _) (.cons (.d _) (.cons (.d _) (.cons (.d _) (.cons (.d _) .nil)))))) .nil))<|rR J J J (Ji J)<|rR J J J (Qc J J)<|rM J J J ?_
 refine QG (d:=22) (c:=(!x5)) J (fun c6=>?_) (fun c6=>?_)
 replace h1:=Qk c6 h1
 refine Q8 J J<|Q8 J J<|Q8 J J<|Q8 J J<|rR J J J (Qg J J)<|rM J J J<|Q8 J J<|Q8 J J<|Q8 J J<|Q8 J J<|rR J J J (Qg J J)<|rM J J J<|Q8 J J<|Q8 J J ?_
 refine Q8 J J<|Q8 J J<|Q8 J J<|rR J J J (Qg J J)<|rM J J J<|Q8 J J<|Q8 J J<|Q8 J J<|Q8 J J<|Q8 J J<|rR J J J (Qg J J)<|Q3 ?_
 have e:=sI h1;subst e
 exact Qd true (sL (Nat.zero_le _) J J J J J) h0
 replace h1:=Ql c6 h1
 refine rR J J J (Q2 YD J)<|rR J J J (Q6 K2 J J J)<|rR J J J (QA (α:=Ctr) YM J (.d _))<|rR J J J (Q7 J J J)<|rR J J J (Qc J J)<|rM J J J ?_
 refine QG (d:=28) (c:=(decide (40 < (a0.ctors.length:Int)))) J (fun c7=>?_) (fun c7=>?_)
 replace h1:=Qk c7 h1
 refine Q8 J J<|Q8 J J<|Q8 J J<|Q8 J J<|rR J J J (Qg J J)<|rM J J J<|Q8 J J<|Q8 J J<|Q8 J J<|Q8 J J<|Q8 J J<|rR J J J (Qg J J)<|rM J J J<|Q8 J J ?_
 refine Q8 J J<|Q8 J J<|Q8 J J<|Q8 J J<|rR J J J (Qg J J)<|Q3 ?_
 have e:=sI h1;subst e
 exact Qd true (sL (Nat.zero_le _) J J J J J) h0
 replace h1:=Ql c7 h1
 refine rR J J J (Q2 YC J)<|rR J J J (Q6 K1 J J J)<|rR J J J (QA (α:=Fn) YL J (.d _))<|rR J J J (Q7 J J J)<|rR J J J (Qc J J)<|rM J J J ?_
 refine QG (d:=34) (c:=(decide (12 < (a0.funs.length:Int)))) J (fun c8=>?_) (fun c8=>?_)
 replace h1:=Qk c8 h1
 refine Q8 J J<|Q8 J J<|Q8 J J<|Q8 J J<|Q8 J J<|rR J J J (Qg J J)<|rM J J J<|Q8 J J<|Q8 J J<|Q8 J J<|Q8 J J<|Q8 J J<|rR J J J (Qg J J)<|Q3 ?_
 have e:=sI h1;subst e
 exact Qd true (sL (Nat.zero_le _) J J J J J) h0
 replace h1:=Ql c8 h1
 refine rR J J J (Q2 JT J)<|rR J J J (Q2 Gt J)<|rR J J J (Qi QV J J J J) ?_
 refine Qb h1 (fun x9 hx9 h1=>?_)
 refine Q9 J J (lb J) (Qq (Ws a0.rcr.ty x9 hx9) J (.cons (.agg (.cons (.d _) (.cons (.d _) (.cons (.d _) (.cons (.d _) (.cons (.d _) .nil)))))) .nil))<|rR J J J (Ji J)<|rR J J J (Qc J J)<|rM J J J ?_
 refine QG (d:=41) (c:=(!x9)) J (fun c10=>?_) (fun c10=>?_)
 replace h1:=Qk c10 h1
 refine Q8 J J<|Q8 J J<|Q8 J J<|Q8 J J<|Q8 J J<|rR J J J (Qg J J)<|Q3 ?_
 have e:=sI h1;subst e
 exact Qd true (sL (Nat.zero_le _) J J J J J) h0
 replace h1:=Ql c10 h1
 refine rR J J J (Q2 JT J)<|rR J J J (Q2 KG J)<|rR J J J (Q6 JO J J J)<|rR J J J (QA (α:=Tm) Jl J (.d _))<|rR J J J (Q7 J J J)<|rR J J J (Qc J J)<|Q3 ?_
 have e:=sI h1;subst e
 exact Qd (decide (40 < (a0.rcr.rules.length:Int))) (sL (Nat.zero_le _) J J J J J) h0
 intro v1 h0
 refine Q4 ?_
 refine Qh (b:=v1) J (fun c11=>?_) (fun c11=>?_)
 replace h0:=Qk c11 h0
 refine Q5<|Q0<|rA J J J<|Q3<|Q4<|QD ?_
 have e:=sI h0;subst e
 exact QL (fun _ _ h=>h) J (QC J .nil) (.cons (.one (.d _)) .nil)
 replace h0:=Ql c11 h0
 refine Qm<|Q4<|Q5<|Q5<|Q0<|rA J J J<|Q3<|Q4<|Qf ?_
 refine QY 0 (fun (o12:Unit)=>⟨[(1,.v (.one (.ptr 0 0)))],[(0,.cells 45 (cE a0))],[],1,124,[]⟩) (fun (o12:Unit)=>(Option.bind (Qp (X7 a0) QF 0) (Sum.elim (fun (o13:Unit)=>Option.bind (Qp (Gz a0) QF 0) (Sum.elim (fun (o14:Unit)=>some true) (fun o=>some o))) (fun o=>some o)))=some r) ?_ ?_
 refine Qb h0 (fun o13 hl1 h0=>?_)
 refine QX (XE a0) (fun s1=>⟨[(1,.v (.one (.ptr 0 0))),(3,.v (.one (dI s1)))],[(0,.cells 45 (cE a0))],[],1,124,[]⟩) 0 o13 (sL (Nat.zero_le _) J J J J J) hl1 (fun s1 n1 oo1 h1 ho1=>?_)
 unfold XE at h1
 refine Q5<|Q5<|Q0<|rM J J J<|rR J J J (Q2 YD J)<|rR J J J (Q6 K2 J J J)<|rR J J J (QA (α:=Ctr) YM J (.d _))<|rR J J J (Q7 J J J)<|Q3<|Q4 ?_
 refine Qh (b:=(decide (s1 < (a0.ctors.length:Int)))) J (fun c14=>?_) (fun c14=>?_)
 replace h1:=Qk c14 h1
 refine Qm<|Q4<|Q5<|Qf<|Q5 ?_
 refine QS (fun (v15:Bool)=>⟨[(1,.v (.one (.ptr 0 0))),(3,.v (.one (dI s1))),(72,.v (.one (dB v15)))],[(0,.cells 45 (cE a0))],[],1,124,[]⟩) (fun (v15:Bool)=>(cond v15
     (some (.done (.inr false)))
     (some (.next (J9 (s1+1)))))=some oo1) ?_ ?_
 refine Qb h1 (fun w2_ h2 h1=>?_)
 refine Q0<|rR J J J (Q2 YD J)<|rR J J J (Q6 K2 J J J)<|rM J J J ?_
 refine Qb h2 (fun x16 hx16 h2=>?_)
 refine rR J J J (Qy (α:=Ctr) YM J (.d _) J hx16)<|rR J J J (YI Gs J)<|rR J J J (JQ JV J J)<|rR J J J (W3 Dp J)<|rR J J J (Q7 J J J)<|rM J J J ?_
 refine QG (d:=63) (c:=(decide (200 < (x16.name.length:Int)))) J (fun c17=>?_) (fun c17=>?_)
 replace h2:=Qk c17 h2
 refine Q8 J J<|Q8 J J<|Q8 J J<|Q8 J J<|Q8 J J<|Q8 J J<|Q8 J J<|Q8 J J<|rR J J J (Qg J J)<|Q3 ?_
 have e:=sI h2;subst e
 exact Qd true (sL (Nat.zero_le _) J J J J J) h1
 replace h2:=Ql c17 h2
 refine rR J J J (Q2 YD J)<|rR J J J (Q6 K2 J J J)<|rM J J J ?_
 refine Qb h2 (fun x18 hx18 h2=>?_)
 refine rR J J J (Qy (α:=Ctr) YM J (.d _) J hx18)<|rR J J J (YI KE J)<|rR J J J (Z3 QV J J J) ?_
 refine Qb h2 (fun x19 hx19 h2=>?_)
 refine Q9 J J (lb J) (Qq (Ws x18.ty x19 hx19) J (.cons (.agg (.cons (.d _) (.cons (.d _) (.cons (.d _) (.cons (.d _) (.cons (.d _) .nil)))))) .nil))<|rR J J J (Ji J)<|rR J J J (Qc J J)<|Q3 ?_
 have e:=sI h2;subst e
 exact Qd (!x19) (sL (Nat.zero_le _) J J J J J) h1
 intro v15 h1
 refine Q4 ?_
 refine Qh (b:=v15) J (fun c20=>?_) (fun c20=>?_)
 replace h1:=Qk c20 h1
 refine Q5<|Q0<|rA J J J<|Q3<|Q4<|QD ?_
 have e:=sI h1;subst e
 have e_:_=_:=ho1
 subst e_
 try dsimp only [Sum.elim_inl,Sum.elim_inr] at h0
 have e:=sI h0;subst e
 exact QL (fun _ _ h=>h) J (QC J .nil) (.cons (.one (.d _)) .nil)
 replace h1:=Ql c20 h1
 refine Qm<|Qe<|Q4<|Q0<|rM J J J<|rR J J J (Q7 J J J)<|rA J J J<|Q3 ?_
 have e:=sI h1;subst e
 refine QR (J9 (s1+1)) (sL (Nat.zero_le _) J J J J J) ho1
 replace h1:=Ql c14 h1
 refine J5<|Qo<|Qo ?_
 have e:=sI h1;subst e
 have e_:_=_:=ho1
 subst e_
 exact QW () (sL (Nat.zero_le _) J J J J J) h0
 intro o12 h0
 refine QM<|Q4<|Q5<|Q5<|Q0<|rA J J J<|Q3<|Q4<|Qf ?_
 refine QY 2 (fun (o21:Unit)=>⟨[(1,.v (.one (.ptr 0 0)))],[(0,.cells 45 (cE a0))],[],1,124,[]⟩) (fun (o21:Unit)=>(Option.bind (Qp (Gz a0) QF 0) (Sum.elim (fun (o22:Unit)=>some true) (fun o=>some o)))=some r) ?_ ?_
 refine Qb h0 (fun o22 hl1 h0=>?_)
 refine QX (X7 a0) (fun s1=>⟨[(1,.v (.one (.ptr 0 0))),(4,.v (.one (dI s1)))],[(0,.cells 45 (cE a0))],[],1,124,[]⟩) 0 o22 (sL (Nat.zero_le _) J J J J J) hl1 (fun s1 n1 oo1 h1 ho1=>?_)
 unfold X7 at h1
 refine Q5<|Q5<|Q0<|rM J J J<|rR J J J (Q2 JT J)<|rR J J J (Q2 KG J)<|rR J J J (Q6 JO J J J)<|rR J J J (QA (α:=Tm) Jl J (.d _))<|rR J J J (Q7 J J J)<|Q3<|Q4 ?_
 refine Qh (b:=(decide (s1 < (a0.rcr.rules.length:Int)))) J (fun c23=>?_) (fun c23=>?_)
 replace h1:=Qk c23 h1
 refine Qm<|Q4<|Q5<|Qf<|Q5<|Q0<|rR J J J (Q2 JT J)<|rR J J J (Q2 KG J)<|rR J J J (Q6 JO J J J)<|rM J J J ?_
 refine Qb h1 (fun x24 hx24 h1=>?_)
 refine rR J J J (Qy (α:=Tm) Jl J (.d _) J hx24)<|rR J J J (Qv (x24:Tm) QV J) ?_
 refine Qb h1 (fun x25 hx25 h1=>?_)
 refine Q9 J J (lb J) (Qq (Ws x24 x25 hx25) J (.cons (.agg (.cons (.d _) (.cons (.d _) (.cons (.d _) (.cons (.d _) (.cons (.d _) .nil)))))) .nil))<|rR J J J (Ji J)<|Q3<|Q4 ?_
 refine Qh (b:=(!x25)) J (fun c26=>?_) (fun c26=>?_)
 replace h1:=Qk c26 h1
 refine Q5<|Q0<|rA J J J<|Q3<|Q4<|QD ?_
 have e:=sI h1;subst e
 have e_:_=_:=ho1
 subst e_
 try dsimp only [Sum.elim_inl,Sum.elim_inr] at h0
 have e:=sI h0;subst e
 exact QL (fun _ _ h=>h) J (QC J .nil) (.cons (.one (.d _)) .nil)
 replace h1:=Ql c26 h1
 refine Qm<|Qe<|Q4<|Q0<|rM J J J<|rR J J J (Q7 J J J)<|rA J J J<|Q3 ?_
 have e:=sI h1;subst e
 refine QR (J9 (s1+1)) (sL (Nat.zero_le _) J J J J J) ho1
 replace h1:=Ql c23 h1
 refine J5<|Qo<|Qo ?_
 have e:=sI h1;subst e
 have e_:_=_:=ho1
 subst e_
 exact QW () (sL (Nat.zero_le _) J J J J J) h0
 intro o21 h0
 refine QM<|Q4<|Q5<|Q5<|Q0<|rA J J J<|Q3<|Q4<|Qf ?_
 refine QY 4 (fun (o27:Unit)=>⟨[],[(0,.cells 45 (cE a0))],[],1,124,[]⟩) (fun (o27:Unit)=>(some true)=some r) ?_ ?_
 refine Qb h0 (fun o28 hl1 h0=>?_)
 refine QX (Gz a0) (fun s1=>⟨[(1,.v (.one (.ptr 0 0))),(5,.v (.one (dI s1)))],[(0,.cells 45 (cE a0))],[],1,124,[]⟩) 0 o28 (sL (Nat.zero_le _) J J J J J) hl1 (fun s1 n1 oo1 h1 ho1=>?_)
 unfold Gz at h1
 refine Q5<|Q5<|Q0<|rM J J J<|rR J J J (Q2 YC J)<|rR J J J (Q6 K1 J J J)<|rR J J J (QA (α:=Fn) YL J (.d _))<|rR J J J (Q7 J J J)<|Q3<|Q4 ?_
 refine Qh (b:=(decide (s1 < (a0.funs.length:Int)))) J (fun c29=>?_) (fun c29=>?_)
 replace h1:=Qk c29 h1
 refine Qm<|Q4<|Q5<|Qf<|Q5 ?_
 refine QS (fun (v30:Bool)=>⟨[(1,.v (.one (.ptr 0 0))),(5,.v (.one (dI s1))),(123,.v (.one (dB v30)))],[(0,.cells 45 (cE a0))],[],1,124,[]⟩) (fun (v30:Bool)=>(cond v30
     (some (.done (.inr false)))
     (some (.next (J9 (s1+1)))))=some oo1) ?_ ?_
 refine Qb h1 (fun w2_ h2 h1=>?_)
 refine Q0<|rR J J J (Q2 YC J)<|rR J J J (Q6 K1 J J J)<|rM J J J ?_
 refine Qb h2 (fun x31 hx31 h2=>?_)
 refine rR J J J (Qy (α:=Fn) YL J (.d _) J hx31)<|rR J J J (YI W0 J)<|rR J J J (JQ JV J J)<|rR J J J (W3 Dp J)<|rR J J J (Q7 J J J)<|rM J J J ?_
 refine QG (d:=104) (c:=(decide (200 < (x31.name.length:Int)))) J (fun c32=>?_) (fun c32=>?_)
 replace h2:=Qk c32 h2
 refine Q8 J J<|Q8 J J<|Q8 J J<|Q8 J J<|Q8 J J<|Q8 J J<|Q8 J J<|Q8 J J<|rR J J J (Qg J J)<|rM J J J<|Q8 J J<|Q8 J J<|Q8 J J<|Q8 J J ?_
 refine Q8 J J<|Q8 J J<|Q8 J J<|Q8 J J<|rR J J J (Qg J J)<|Q3 ?_
 have e:=sI h2;subst e
 exact Qd true (sL (Nat.zero_le _) J J J J J) h1
 replace h2:=Ql c32 h2
 refine rR J J J (Q2 YC J)<|rR J J J (Q6 K1 J J J)<|rM J J J ?_
 refine Qb h2 (fun x33 hx33 h2=>?_)
 refine rR J J J (Qy (α:=Fn) YL J (.d _) J hx33)<|rR J J J (YI Xc J)<|rR J J J (Z3 QV J J J) ?_
 refine Qb h2 (fun x34 hx34 h2=>?_)
 refine Q9 J J (lb J) (Qq (Ws x33.ty x34 hx34) J (.cons (.agg (.cons (.d _) (.cons (.d _) (.cons (.d _) (.cons (.d _) (.cons (.d _) .nil)))))) .nil))<|rR J J J (Ji J)<|rR J J J (Qc J J)<|rM J J J ?_
 refine QG (d:=114) (c:=(!x34)) J (fun c35=>?_) (fun c35=>?_)
 replace h2:=Qk c35 h2
 refine Q8 J J<|Q8 J J<|Q8 J J<|Q8 J J<|Q8 J J<|Q8 J J<|Q8 J J<|Q8 J J<|rR J J J (Qg J J)<|Q3 ?_
 have e:=sI h2;subst e
 exact Qd true (sL (Nat.zero_le _) J J J J J) h1
 replace h2:=Ql c35 h2
 refine rR J J J (Q2 YC J)<|rR J J J (Q6 K1 J J J)<|rM J J J ?_
 refine Qb h2 (fun x36 hx36 h2=>?_)
 refine rR J J J (Qy (α:=Fn) YL J (.d _) J hx36)<|rR J J J (YI fo_76_3 J)<|rR J J J (Z3 Up J J J) ?_
 refine Qb h2 (fun x37 hx37 h2=>?_)
 refine Q9 J J (lb J) (Qq (m38_ok x36.tree 0 x37 hx37) J (.cons (.agg (.cons (.d _) (.cons (.d _) (.cons (.d _) (.cons (.d _) (.cons (.d _) (.cons (.d _) (.cons (.d _) (.cons (.d _) .nil))))))))) (.cons (.one (.d _)) .nil)))<|rR J J J (Ji J)<|rR J J J (Qc J J)<|Q3 ?_
 have e:=sI h2;subst e
 exact Qd (!x37) (sL (Nat.zero_le _) J J J J J) h1
 intro v30 h1
 refine Q4 ?_
 refine Qh (b:=v30) J (fun c38=>?_) (fun c38=>?_)
 replace h1:=Qk c38 h1
 refine Q5<|Q0<|rA J J J<|Q3<|Q4<|QD ?_
 have e:=sI h1;subst e
 have e_:_=_:=ho1
 subst e_
 try dsimp only [Sum.elim_inl,Sum.elim_inr] at h0
 have e:=sI h0;subst e
 exact QL (fun _ _ h=>h) J (QC J .nil) (.cons (.one (.d _)) .nil)
 replace h1:=Ql c38 h1
 refine Qm<|Qe<|Q4<|Q0<|rM J J J<|rR J J J (Q7 J J J)<|rA J J J<|Q3 ?_
 have e:=sI h1;subst e
 refine QR (J9 (s1+1)) (sL (Nat.zero_le _) J J J J J) ho1
 replace h1:=Ql c29 h1
 refine J5<|Qo<|Qo ?_
 have e:=sI h1;subst e
 have e_:_=_:=ho1
 subst e_
 exact QW () (sL (Nat.zero_le _) J J J J J) h0
 intro o27 h0
 refine QM<|Q4<|Q5<|Q0<|rA J J J<|Q3<|Q4<|QD ?_
 have e:=sI h0;subst e
 exact QL (fun _ _ h=>h) J (QC J .nil) (.cons (.one (.d _)) .nil)
def D3 (a0:List Dcl) (s1:Int):Option (LO Int (Unit⊕Bool)) :=
 Option.bind (cond (decide (s1 < (a0.length:Int)))
   (some (decide (s1 < 80)))
   (some false)) (fun (v2:Bool)=>cond v2
   (Option.bind (JC a0 s1) fun (x4:Dcl) =>
 Option.bind (m21 x4) fun (x5:Bool) =>
 cond (!x5)
   (some (.done (.inr false)))
   (some (.next (J9 (s1+1)))))
   (some (.done (.inl ()))))
def m9 (a0:List Dcl):Option Bool :=
 Option.bind (Qp (D3 a0) QF 0) (Sum.elim (fun (o1:Unit)=>some (decide ((a0.length:Int)≤70))) (fun o=>some o))
theorem m9_ok (a0:List Dcl) (r:Bool) (h0:m9 a0=some r):Fun Try.prog 9 [.one (dS a0)] (QK [.one (dB r)]):=by
 unfold m9 at h0
 refine QZ 9 23 Try.func9 J en_9 J (lb J) (fun S w=>?_)
 simp only [Ja]
 refine Q5<|Q0<|rA J J J<|Q3<|Q4<|Q5<|Q5<|Q0<|rA J J J<|Q3<|Q4<|Qf ?_
 refine QY 0 (fun (o1:Unit)=>⟨[(0,.v (.one (dS a0)))],[],[],0,23,[]⟩) (fun (o1:Unit)=>(some (decide ((a0.length:Int)≤70)))=some r) ?_ ?_
 refine Qb h0 (fun o2 hl1 h0=>?_)
 refine QX (D3 a0) (fun s1=>⟨[(0,.v (.one (dS a0))),(3,.v (.one (dI s1)))],[],[],0,23,[]⟩) 0 o2 (sL (Nat.zero_le _) J J J J J) hl1 (fun s1 n1 oo1 h1 ho1=>?_)
 unfold D3 at h1
 refine Q5<|Q5 ?_
 refine QS (fun (v3:Bool)=>⟨[(0,.v (.one (dS a0))),(3,.v (.one (dI s1))),(11,.v (.one (dB v3)))],[],[],0,23,[]⟩) (fun (v3:Bool)=>(cond v3
     (Option.bind (JC a0 s1) fun (x5:Dcl) =>
   Option.bind (m21 x5) fun (x6:Bool) =>
   cond (!x6)
     (some (.done (.inr false)))
     (some (.next (J9 (s1+1)))))
     (some (.done (.inl ()))))=some oo1) ?_ ?_
 refine Qb h1 (fun w2_ h2 h1=>?_)
 refine Q0<|rM J J J<|rM J J J<|rR J J J (QA (α:=Dcl) Zi J (.d _))<|rR J J J (Q7 J J J)<|rM J J J ?_
 refine QG (d:=8) (c:=(decide (s1 < (a0.length:Int)))) J (fun c4=>?_) (fun c4=>?_)
 replace h2:=Qk c4 h2
 refine rM J J J<|rR J J J (Q7 J J J)<|rR J J J (Qg J J)<|Q3 ?_
 have e:=sI h2;subst e
 exact Qd (decide (s1 < 80)) (sL (Nat.zero_le _) J J J J J) h1
 replace h2:=Ql c4 h2
 refine Q8 J J<|Q8 J J<|rR J J J (Qc J J)<|Q3 ?_
 have e:=sI h2;subst e
 exact Qd false (sL (Nat.zero_le _) J J J J J) h1
 intro v3 h1
 refine Q4 ?_
 refine Qh (b:=v3) J (fun c5=>?_) (fun c5=>?_)
 replace h1:=Qk c5 h1
 refine Qm<|Q4<|Q5<|Qf<|Q5<|Q0<|rM J J J<|rM J J J ?_
 refine Qb h1 (fun x6 hx6 h1=>?_)
 refine rR J J J (Qy (α:=Dcl) Zi J (.d _) J hx6)<|rR J J J (Qv (x6:Dcl) JX J) ?_
 refine Qb h1 (fun x7 hx7 h1=>?_)
 refine Q9 J J (lb J) (Qq (m21_ok x6 x7 hx7) J (.cons (.agg (.cons (.d _) (.cons (.d _) (.cons (.d _) (.cons (.d _) (.cons (.d _) (.cons (.d _) (.cons (.d _) (.cons (.d _) (.cons (.d _) (.cons (.d _) (.cons (.d _) (.cons (.d _) (.cons (.d _) (.cons (.d _) (.cons (.d _) (.cons (.d _) (.cons (.d _) (.cons (.d _) (.cons (.d _) (.cons (.d _) (.cons (.d _) (.cons (.d _) (.cons (.d _) .nil)))))))))))))))))))))))) .nil))<|rR J J J (Ji J)<|Q3<|Q4 ?_
 refine Qh (b:=(!x7)) J (fun c8=>?_) (fun c8=>?_)
 replace h1:=Qk c8 h1
 refine Q5<|Q0<|rA J J J<|Q3<|Q4<|QD ?_
 have e:=sI h1;subst e
 have e_:_=_:=ho1
 subst e_
 try dsimp only [Sum.elim_inl,Sum.elim_inr] at h0
 have e:=sI h0;subst e
 exact QL (fun _ _ h=>h) J (QC J .nil) (.cons (.one (.d _)) .nil)
 replace h1:=Ql c8 h1
 refine Qm<|Qe<|Q4<|Q0<|rM J J J<|rR J J J (Q7 J J J)<|rA J J J<|Q3 ?_
 have e:=sI h1;subst e
 refine QR (J9 (s1+1)) (sL (Nat.zero_le _) J J J J J) ho1
 replace h1:=Ql c5 h1
 refine J5<|Qo<|Qo ?_
 have e:=sI h1;subst e
 have e_:_=_:=ho1
 subst e_
 exact QW () (sL (Nat.zero_le _) J J J J J) h0
 intro o1 h0
 refine QM<|Q4<|Q5<|Q0<|rM J J J<|rR J J J (QA (α:=Dcl) Zi J (.d _))<|rR J J J (Q7 J J J)<|rA J J J<|Q3<|Q4<|QD ?_
 have e:=sI h0;subst e
 exact QL (fun _ _ h=>h) J (QC J .nil) (.cons (.one (.d _)) .nil)
end Go.Proofs.Ytafddfoefeploaa
namespace Go.Proofs.Ytafddfoefeploaa
open Go.RowKit Go.Lib
def Yn (env:List Dcl):Nat:=(env.map Dcl.size).sum
theorem size_le {env:List Dcl} {d:Dcl} (h:d∈env):d.size≤Yn env:=ZI Dcl.size h
theorem WV (env:List Dcl):env.length≤Yn env:=KC Dcl.size (fun d=>by unfold Dcl.size;omega) env
theorem GT {α σ τ β:Type} {step:τ→Option (LO τ β)} (l:List α) (mk:Int→σ→τ) (hlen:l.length≤900000000)
  (hin:∀ (a:List α) (x:α) (b:List α) (s:σ),l=a++x::b→(∃ r,step (mk (a.length:Int) s)=some (.done r))∨∃ s',step (mk (a.length:Int) s)=some (.next (mk (J9 ((a.length:Int)+1)) s')))
  (hout:∀ s,∃ r,step (mk (l.length:Int) s)=some (.done r)) (s0:σ):∃ r,Qp step QF (mk 0 s0)=some r:=by
 obtain ⟨r,h,-⟩:=JG l mk (fun _ _=>True) (fun _=>True) hlen (fun a x b s e _=>(hin a x b s e).elim (fun ⟨r,h⟩=>.inl ⟨r,h,trivial⟩) (fun ⟨s',h⟩=>.inr ⟨s',h,trivial⟩)) (fun s _=>let ⟨r,h⟩:=hout s;⟨r,h,trivial⟩) s0 trivial
 exact ⟨r,h⟩
theorem size_some:∀ (n:Nat) (t:Tm),t.size≤n→t.size≤900000000→∃ r,Jr Db n t=some r
 | 0,t,h,_=>by rw [t.size_eq] at h;omega
 | n+1,t,h,h2=>by
  show ∃ r,Dr (Jr Db n) t=some r
  unfold Dr
  have hl:=Gc t
  obtain ⟨r,e⟩:=GT (step:=Gy t (Jr Db n)) t.kids (fun i (s:Int)=>(s,i)) (by omega)
   (fun a x b s e=>by
    have hx:=Yv (t:=t) (k:=x) (by rw [e];simp)
    obtain ⟨r,hr⟩:=size_some n x (by omega) (by omega)
    refine .inr ⟨J9 (s+r),?_⟩
    unfold Gy
    dsimp only
    rw [e,JI,Js]
    simp only [cond_true,Option.bind_some]
    rw [hr];rfl) (fun s=>⟨s,by unfold Gy;dsimp only;rw [J7];rfl⟩) 1
  rw [e];exact ⟨r,rfl⟩
theorem depth_some:∀ (n:Nat) (t:Tm),t.size≤n→t.size≤900000000→∃ r,Jr DG n t=some r
 | 0,t,h,_=>by rw [t.size_eq] at h;omega
 | n+1,t,h,h2=>by
  show ∃ r,DF (Jr DG n) t=some r
  unfold DF
  have hl:=Gc t
  obtain ⟨r,e⟩:=GT (step:=Ua t (Jr DG n)) t.kids (fun i (s:Int)=>(s,i)) (by omega)
   (fun a x b s e=>by
    have hx:=Yv (t:=t) (k:=x) (by rw [e];simp)
    obtain ⟨r,hr⟩:=depth_some n x (by omega) (by omega)
    refine .inr ⟨max s r,?_⟩
    unfold Ua
    dsimp only
    rw [e,JI,Js]
    simp only [cond_true,Option.bind_some]
    rw [hr];rfl) (fun s=>⟨s,by unfold Ua;dsimp only;rw [J7];rfl⟩) 0
  rw [e];exact ⟨_,rfl⟩
theorem G5 (t:Tm) (h:t.size≤900000000):∃ b,DJ t=some b:=by
 unfold DJ
 obtain ⟨r,e⟩:=size_some QF t (by unfold QF;omega) h
 obtain ⟨r2,e2⟩:=depth_some QF t (by unfold QF;omega) h
 unfold m55 m56
 rw [e,e2]
 simp only [Option.bind_some]
 cases decide (r≤400) <;> exact ⟨_,rfl⟩
theorem tree_some:∀ (n:Nat) (t:Tr) (d:Int),t.size≤n→t.size≤900000000→∃ r,Jr DI n (t,d)=some r
 | 0,t,d,h,_=>by rw [t.size_eq] at h;omega
 | n+1,t,d,h,h2=>by
  show ∃ r,DH (Jr DI n) t d=some r
  unfold DH
  have hl:=branches_len t
  have hsz:=t.size_eq
  obtain ⟨b,hb⟩:=G5 t.body (by omega)
  obtain ⟨r,e⟩:=GT (step:=Wr t (Jr DI n) d) t.branches (fun i (s:Unit)=>i) (by omega)
   (fun a x c s e=>by
    have hx:=Kp (t:=t) (b:=x) (by rw [e];simp)
    obtain ⟨r,hr⟩:=tree_some n x.tree (J9 (d+1)) (by omega) (by omega)
    unfold Wr
    rw [e,JI,Js]
    simp only [cond_true,Option.bind_some]
    rw [hr]
    cases r with
    | false=>exact .inl ⟨_,rfl⟩
    | true =>
     simp only [Option.bind_some,Bool.not_true,cond_false]
     cases decide (200 < (x.ctor.length:Int)) with
     | true=>exact .inl ⟨_,rfl⟩
     | false=>exact .inr ⟨(),rfl⟩) (fun s=>⟨_,by unfold Wr;rw [J7];rfl⟩) ()
  rw [e,hb]
  cases decide (40 < d) with
  | true=>exact ⟨_,rfl⟩
  | false =>
   cases decide (40 < (t.branches.length:Int)) with
   | true=>exact ⟨_,rfl⟩
   | false =>
    cases b with
    | false=>exact ⟨_,rfl⟩
    | true =>
     cases r with
     | inl u=>exact ⟨_,rfl⟩
     | inr u=>exact ⟨_,rfl⟩
theorem m21_some (d:Dcl) (h:d.size≤900000000):∃ b,m21 d=some b:=by
 have h1:=Yx d
 have h2:=YY d
 have h3:=rules_len d
 have hty:=KX (d:=d) (t:=d.ty) (by unfold JA;simp)
 have hval:=KX (d:=d) (t:=d.value) (by unfold JA;simp)
 have hrt:=KX (d:=d) (t:=d.rcr.ty) (by unfold JA;simp)
 obtain ⟨b1,e1⟩:=G5 d.ty (by omega)
 obtain ⟨b2,e2⟩:=G5 d.value (by omega)
 obtain ⟨b3,e3⟩:=G5 d.rcr.ty (by omega)
 obtain ⟨r1,l1⟩:=GT (step:=XE d) d.ctors (fun i (s:Unit)=>i) (by omega)
  (fun a x c s e=>by
   have hx:=KX (d:=d) (t:=x.ty) (by unfold JA;rw [e];simp)
   obtain ⟨r,hr⟩:=G5 x.ty (by omega)
   unfold XE
   rw [e,JI,Js]
   simp only [cond_true,Option.bind_some]
   cases decide (200 < (x.name.length:Int)) with
   | true=>exact .inl ⟨_,rfl⟩
   | false =>
    simp only [cond_false]
    rw [hr]
    cases r with
    | false=>exact .inl ⟨_,rfl⟩
    | true=>exact .inr ⟨(),rfl⟩) (fun s=>⟨_,by unfold XE;rw [J7];rfl⟩) ()
 obtain ⟨r2,l2⟩:=GT (step:=X7 d) d.rcr.rules (fun i (s:Unit)=>i) (by omega)
  (fun a x c s e=>by
   have hx:=KX (d:=d) (t:=x) (by unfold JA;rw [e];simp)
   obtain ⟨r,hr⟩:=G5 x (by omega)
   unfold X7
   rw [e,JI,Js]
   simp only [cond_true,Option.bind_some]
   rw [hr]
   cases r with
   | false=>exact .inl ⟨_,rfl⟩
   | true=>exact .inr ⟨(),rfl⟩) (fun s=>⟨_,by unfold X7;rw [J7];rfl⟩) ()
 obtain ⟨r3,l3⟩:=GT (step:=Gz d) d.funs (fun i (s:Unit)=>i) (by omega)
  (fun a x c s e=>by
   have hx:=KX (d:=d) (t:=x.ty) (by unfold JA;rw [e];simp)
   have hf:=fun_mem (d:=d) (f:=x) (by rw [e];simp)
   obtain ⟨r,hr⟩:=G5 x.ty (by omega)
   obtain ⟨q,hq⟩:=tree_some QF x.tree 0 (by unfold QF;omega) (by omega)
   unfold Gz
   rw [e,JI,Js]
   simp only [cond_true,Option.bind_some]
   cases decide (200 < (x.name.length:Int)) with
   | true=>exact .inl ⟨_,rfl⟩
   | false =>
    simp only [cond_false]
    rw [hr]
    cases r with
    | false=>exact .inl ⟨_,rfl⟩
    | true =>
     simp only [Option.bind_some,Bool.not_true,cond_false]
     unfold m38
     rw [hq]
     cases q with
     | false=>exact .inl ⟨_,rfl⟩
     | true=>exact .inr ⟨(),rfl⟩) (fun s=>⟨_,by unfold Gz;rw [J7];rfl⟩) ()
 have tail:∃ b,Option.bind (Qp (XE d) QF 0) (Sum.elim (fun (o3:Unit)=>Option.bind (Qp (X7 d) QF 0) (Sum.elim (fun (o4:Unit)=>Option.bind (Qp (Gz d) QF 0) (Sum.elim (fun (o5:Unit)=>some true) (fun o=>some o))) (fun o=>some o))) (fun o=>some o))=some b:=by
  rw [l1,l2,l3]
  cases r1 with
  | inr u=>exact ⟨_,rfl⟩
  | inl u =>
   cases r2 with
   | inr u=>exact ⟨_,rfl⟩
   | inl u =>
    cases r3 with
    | inr u=>exact ⟨_,rfl⟩
    | inl u=>exact ⟨_,rfl⟩
 obtain ⟨bt,ht⟩:=tail
 unfold m21
 rw [e1,e2,e3,ht]
 cases decide (200 < (d.name.length:Int)) with
 | true=>exact ⟨_,rfl⟩
 | false =>
  cases b1 with
  | false=>exact ⟨_,rfl⟩
  | true =>
   cases b2 with
   | false=>exact ⟨_,rfl⟩
   | true =>
    cases decide (40 < (d.ctors.length:Int)) with
    | true=>exact ⟨_,rfl⟩
    | false =>
     cases decide (12 < (d.funs.length:Int)) with
     | true=>exact ⟨_,rfl⟩
     | false =>
      cases b3 with
      | false=>exact ⟨_,rfl⟩
      | true =>
       cases h7:decide (40 < (d.rcr.rules.length:Int)) with
       | true=>exact ⟨false,by simp [h7]⟩
       | false=>exact ⟨bt,by simp [h7]⟩
theorem m9_some (env:List Dcl) (h:Yn env≤900000000):∃ b,m9 env=some b∧(b=true→env.length≤70):=by
 have hel:=WV env
 obtain ⟨r,e,hr⟩:=JG (step:=D3 env) env (fun i (s:Unit)=>i) (fun _ _=>True) (fun r=>r=.inl ()∨r=.inr false) (by omega)
  (fun a x c s e _=>by
   have hx:=size_le (env:=env) (d:=x) (by rw [e];simp)
   obtain ⟨r,hr⟩:=m21_some x (by omega)
   unfold D3
   rw [e,JI,Js]
   simp only [cond_true,Option.bind_some]
   cases decide ((a.length:Int) < 80) with
   | false=>exact .inl ⟨_,rfl,.inl rfl⟩
   | true =>
    simp only [cond_true]
    rw [hr]
    cases r with
    | false=>exact .inl ⟨_,rfl,.inr rfl⟩
    | true=>exact .inr ⟨(),rfl,trivial⟩) (fun s _=>⟨_,by unfold D3;rw [J7];rfl,.inl rfl⟩) () trivial
 unfold m9
 rw [e]
 rcases hr with rfl | rfl
 ·exact ⟨_,rfl,fun hb=>by have:=of_decide_eq_true hb;omega⟩
 ·exact ⟨false,rfl,fun hb=>by cases hb⟩
end Go.Proofs.Ytafddfoefeploaa
namespace Go.Proofs.Ytafddfoefeploaa
open Go.RowKit Go.Shelf
theorem ZR:J1 Try.prog 35 0=some 0:=by kernel_rfl
theorem Xd:J1 Try.prog 35 1=some 1:=by kernel_rfl
theorem fo_35_2:J1 Try.prog 35 2=some 2:=by kernel_rfl
theorem Gu:J1 Try.prog 42 0=some 0:=by kernel_rfl
theorem Yl:J1 Try.prog 45 2=some 2:=by kernel_rfl
theorem K3:Jw Try.prog 25=some (false,1):=by kernel_rfl
theorem Jm:Jw Try.prog 35=some (true,9):=by kernel_rfl
theorem Uk:Jp Try.prog 97=some (3,1):=by kernel_rfl
theorem z_3:JD Try.prog 3=some [.int .i64 0]:=by kernel_rfl
theorem z_25:JD Try.prog 25=some [.int .i64 0]:=by kernel_rfl
theorem Zl:JD Try.prog 35=some [.int .i64 0,.int .i64 0,.int .i64 0,.int .i64 0,.int .i64 0,.int .i64 0,.string ByteArray.empty,.slice none 0 0,.slice none 0 0]:=by kernel_rfl
theorem UW:JD Try.prog 45=some [.int .i64 0,.string ByteArray.empty,.int .i64 0,.int .i64 0,.int .i64 0,.string ByteArray.empty,.slice none 0 0,.slice none 0 0,.int .i64 0,.int .i64 0,.string ByteArray.empty,.slice none 0 0,.slice none 0 0,.int .i64 0,.slice none 0 0,.int .i64 0,.int .i64 0,.int .i64 0,.string ByteArray.empty,.slice none 0 0,.slice none 0 0,.slice none 0 0,.slice none 0 0]:=by kernel_rfl
theorem Kn:Yj Try.prog 35 [(0,1),(1,1),(2,1),(3,1),(4,5)] [.int .i64 0,.int .i64 0,.int .i64 0,.int .i64 0,.int .i64 0,.int .i64 0,.string ByteArray.empty,.slice none 0 0,.slice none 0 0]:=⟨by kernel_rfl,by kernel_rfl⟩
theorem bd_45:Yj Try.prog 45 [(0,1),(1,1),(2,1),(3,5),(8,5),(13,1),(14,1),(15,7),(22,1)] [.int .i64 0,.string ByteArray.empty,.int .i64 0,.int .i64 0,.int .i64 0,.string ByteArray.empty,.slice none 0 0,.slice none 0 0,.int .i64 0,.int .i64 0,.string ByteArray.empty,.slice none 0 0,.slice none 0 0,.int .i64 0,.slice none 0 0,.int .i64 0,.int .i64 0,.int .i64 0,.string ByteArray.empty,.slice none 0 0,.slice none 0 0,.slice none 0 0,.slice none 0 0]:=⟨by kernel_rfl,by kernel_rfl⟩
theorem en_14:J4 Try.prog 14:=enters_of Try.func14 (by kernel_rfl) rfl
theorem en_16:J4 Try.prog 16:=enters_of Try.func16 (by kernel_rfl) rfl
theorem en_31:J4 Try.prog 31:=enters_of Try.func31 (by kernel_rfl) rfl
theorem en_49:J4 Try.prog 49:=enters_of Try.func49 (by kernel_rfl) rfl
noncomputable def Kw:Code:=(cA (cA (cB (cB (cA (cA (cB (cB (cA (cA (cB (cA (cB (Kx Try.f14))))))))))))))
noncomputable def Yh:Code:=(cB (cA (cB (cB (cA (cA (cB (cB (cA (cA (cB (cA (cB (Kx Try.f14))))))))))))))
def XG (x3:Dcl) (a1:Bs) (s3:Int):Option (LO Int (Unit⊕(Unit⊕(Int×Int×Int×Int×Int×Bs×(List Lvl)×(List Tm))))) :=
 cond (decide (s3 < (x3.ctors.length:Int)))
   (Option.bind (JC x3.ctors s3) fun (x28:Ctr) =>
 Option.bind (cond (x28.name==a1)
   (some (.inr ()))
   (some (.inl ()))) (Sum.elim (fun (y29:Unit)=>some (.next (J9 (s3+1)))) (fun (y30:Unit)=>some (.done (.inr (.inr (4,s3,x3.params,x28.ty.kind,x28.ty.index,x28.ty.name,x28.ty.levels,x28.ty.kids)))))))
   (some (.done (.inl ())))
def UM (p0_:Dcl) (p1_:Bs):Option (Unit⊕(Int×Int×Int×Int×Int×Bs×(List Lvl)×(List Tm))) :=
 Jd (Nat.ble (p0_.name.length+([46,114,101,99]:List UInt8).length) 1000000000)
 (Option.bind (cond ((p0_.name++([46,114,101,99]:List UInt8))==p1_)
   (some (.inr ()))
   (some (.inl ()))) (Sum.elim (fun (b0_:Unit)=>some (.inl ())) (fun (b1_:Unit)=>some (.inr (5,0,p0_.rcr.params,p0_.rcr.ty.kind,p0_.rcr.ty.index,p0_.rcr.ty.name,p0_.rcr.ty.levels,p0_.rcr.ty.kids)))))
def XF (x3:Dcl) (a1:Bs) (s3:Int):Option (LO Int (Unit⊕(Unit⊕(Int×Int×Int×Int×Int×Bs×(List Lvl)×(List Tm))))) :=
 cond (decide (s3 < (x3.funs.length:Int)))
   (Option.bind (JC x3.funs s3) fun (x46:Fn) =>
 Option.bind (cond (x46.name==a1)
   (some (.inr ()))
   (some (.inl ()))) (Sum.elim (fun (y47:Unit)=>some (.next (J9 (s3+1)))) (fun (y48:Unit)=>some (.done (.inr (.inr (6,s3,x3.params,x46.ty.kind,x46.ty.index,x46.ty.name,x46.ty.levels,x46.ty.kids)))))))
   (some (.done (.inl ())))
def Wz (p0_:Bool) (p1_:Dcl) (p2_:Bs):Option (Unit⊕(Int×Int×Int×Int×Int×Bs×(List Lvl)×(List Tm))) :=
 cond p0_
   (Option.bind (JC ([0,1,2]) p1_.kind) fun (b0_:Int) =>
 Option.bind (cond (p1_.name==p2_)
   (some (.inr ()))
   (some (.inl ()))) (Sum.elim (fun (b1_:Unit)=>some (.inl ())) (fun (b2_:Unit)=>some (.inr (b0_,0,p1_.params,p1_.ty.kind,p1_.ty.index,p1_.ty.name,p1_.ty.levels,p1_.ty.kids)))))
   (cond (p1_.kind==3)
   (Option.bind (cond (p1_.name==p2_)
   (some (.inr ()))
   (some (.inl ()))) (Sum.elim (fun (b3_:Unit)=>Option.bind (Qp (XG p1_ p2_) QF 0) (Sum.elim (fun (b4_:Unit)=>UM p1_ p2_) (fun o=>some o))) (fun (b5_:Unit)=>some (.inr (3,0,p1_.params,p1_.ty.kind,p1_.ty.index,p1_.ty.name,p1_.ty.levels,p1_.ty.kids)))))
   (cond (p1_.kind==4)
   (Option.bind (Qp (XF p1_ p2_) QF 0) (Sum.elim (fun (b6_:Unit)=>some (.inl ())) (fun o=>some o)))
   (some (.inl ()))))
def UL (a0:List Dcl) (a1:Bs) (s1:Int):Option (LO Int (Unit⊕(Ent×Int))) :=
 cond (decide (s1 < (a0.length:Int)))
   (Option.bind (JC a0 s1) fun (x3:Dcl) =>
 Option.bind (some ()) (fun (y4:Unit)=>Option.bind (Option.bind (cond (x3.kind==0)
   (some (x3.kind==0))
   (cond (x3.kind==1)
   (some (x3.kind==1))
   (some (x3.kind==2)))) (fun (v10:Bool)=>Wz v10 x3 a1)) (Sum.elim (fun (y6:Unit)=>some (.next (J9 (s1+1)))) (fun (y7:Int×Int×Int×Int×Int×Bs×(List Lvl)×(List Tm))=>some (.done (.inr ((⟨y7.1,s1,y7.2.1,y7.2.2.1,(Tm.mk y7.2.2.2.1 y7.2.2.2.2.1 y7.2.2.2.2.2.1 y7.2.2.2.2.2.2.1 y7.2.2.2.2.2.2.2)⟩:Ent),0)))))))
   (some (.done (.inl ())))
noncomputable abbrev Yt :HB :=
 .cells 35 [dI 0,dI 0,dI 0,dI 0,dI 0,dI 0,Jn ([]:List UInt8),dN,dN]
noncomputable abbrev m14_h1 (p0_:Bs) (p1_:Dcl):List (Nat×HB) :=
 [(0,.cells 9 [Jn p0_]),(1,Yt),(2,.cells 25 [dI 0]),(3,.cells 45 (cE p1_))]
noncomputable abbrev m14_h2 (p0_:Bs) (p1_:Dcl) (p2_:Int):List (Nat×HB) :=
 [(0,.cells 9 [Jn p0_]),(1,Yt),(2,.cells 25 [dI 0]),(3,.cells 45 (cE p1_)),(4,.cells 45 (cE p1_)),(5,.cells 3 [dI p2_])]
noncomputable abbrev Ga (p0_:List Dcl) (p1_:Int):HB :=
 .loop .ready none [(3,.v (.one (.ptr 0 0))),(4,.v (.one (.ptr 1 0))),(5,.v (.one (.ptr 2 0))),(10,.v (.one (dS p0_))),(11,.v (.one (dI (p0_.length:Int)))),(12,.v (.one (dI p1_))),(19,.v (.one (.fn 49 [(5,0),(4,0)])))] 28 #[20,21] Kw Yh 6
noncomputable abbrev Kv (p0_:Bs) (p1_:Dcl) (p2_:Int) (p3_:List Dcl):List (Nat×HB) :=
 [(0,.cells 9 [Jn p0_]),(1,Yt),(2,.cells 25 [dI 0]),(3,.cells 45 (cE p1_)),(4,.cells 45 (cE p1_)),(5,.cells 3 [dI p2_]),(6,.obj (.deferred (some []))),(7,Ga p3_ p2_)]
noncomputable abbrev m14_h5 (p0_:Int×Int×Int×Int×Int×Bs×(List Lvl)×(List Tm)) (p1_:Int):HB :=
 .cells 35 [dI p0_.1,dI p1_,dI p0_.2.1,dI p0_.2.2.1,dI p0_.2.2.2.1,dI p0_.2.2.2.2.1,Jn p0_.2.2.2.2.2.1,dS p0_.2.2.2.2.2.2.1,dS p0_.2.2.2.2.2.2.2]
noncomputable abbrev Ug (p0_:List Dcl) (p1_:Int):HB :=
 .loop .done (some .ret) [(3,.v (.one (.ptr 0 0))),(4,.v (.one (.ptr 1 0))),(5,.v (.one (.ptr 2 0))),(10,.v (.one (dS p0_))),(11,.v (.one (dI (p0_.length:Int)))),(12,.v (.one (dI p1_))),(19,.v (.one (.fn 49 [(5,0),(4,0)])))] 28 #[20,21] Kw Yh 6
noncomputable abbrev XH (p0_:Bs) (p1_:Int×Int×Int×Int×Int×Bs×(List Lvl)×(List Tm)) (p2_:Int) (p3_:Dcl) (p4_:List Dcl):List (Nat×HB) :=
 [(0,.cells 9 [Jn p0_]),(1,m14_h5 p1_ p2_),(2,.cells 25 [dI 0]),(3,.cells 45 (cE p3_)),(4,.cells 45 (cE p3_)),(5,.cells 3 [dI p2_]),(6,.obj (.deferred (some []))),(7,Ug p4_ p2_)]
noncomputable abbrev Uf (p0_:Int) (p1_:Dcl):HB :=
 .cells 35 [dI 0,dI p0_,dI 0,dI p1_.params,dI p1_.ty.kind,dI p1_.ty.index,Jn p1_.ty.name,dS p1_.ty.levels,dS p1_.ty.kids]
noncomputable abbrev m14_h9 (p0_:Bs) (p1_:Dcl) (p2_:Int) (p3_:List Dcl):List (Nat×HB) :=
 [(0,.cells 9 [Jn p0_]),(1,Yt),(2,.cells 25 [dI 0]),(3,.cells 45 (cE p1_)),(4,.cells 45 (cE p1_)),(5,.cells 3 [dI p2_]),(6,.obj (.deferred (some []))),(7,Ga p3_ p2_),(8,Uf p2_ p1_)]
noncomputable abbrev KB (p0_:Int) (p1_:Int) (p2_:Dcl):HB :=
 .cells 35 [dI p0_,dI p1_,dI 0,dI p2_.params,dI p2_.ty.kind,dI p2_.ty.index,Jn p2_.ty.name,dS p2_.ty.levels,dS p2_.ty.kids]
noncomputable abbrev m14_h11 (p0_:Bs) (p1_:Dcl) (p2_:Int) (p3_:List Dcl) (p4_:Int):List (Nat×HB) :=
 [(0,.cells 9 [Jn p0_]),(1,Yt),(2,.cells 25 [dI 0]),(3,.cells 45 (cE p1_)),(4,.cells 45 (cE p1_)),(5,.cells 3 [dI p2_]),(6,.obj (.deferred (some []))),(7,Ga p3_ p2_),(8,KB p4_ p2_ p1_)]
noncomputable abbrev Z5 (p0_:List Dcl) (p1_:Int):HB :=
 .loop .busy none [(3,.v (.one (.ptr 0 0))),(4,.v (.one (.ptr 1 0))),(5,.v (.one (.ptr 2 0))),(10,.v (.one (dS p0_))),(11,.v (.one (dI (p0_.length:Int)))),(12,.v (.one (dI p1_))),(19,.v (.one (.fn 49 [(5,0),(4,0)])))] 28 #[20,21] Kw Yh 6
noncomputable abbrev m14_h13 (p0_:Bs) (p1_:Dcl) (p2_:Int) (p3_:List Dcl) (p4_:Int):List (Nat×HB) :=
 [(0,.cells 9 [Jn p0_]),(1,Yt),(2,.cells 25 [dI 0]),(3,.cells 45 (cE p1_)),(4,.cells 45 (cE p1_)),(5,.cells 3 [dI p2_]),(6,.obj (.deferred (some []))),(7,Z5 p3_ p2_),(8,KB p4_ p2_ p1_),(10,KB p4_ p2_ p1_)]
noncomputable abbrev m14_h14 (p0_:Bs) (p1_:Dcl) (p2_:Int) (p3_:List Dcl) (p4_:Int):List (Nat×HB) :=
 [(0,.cells 9 [Jn p0_]),(1,Yt),(2,.cells 25 [dI 0]),(3,.cells 45 (cE p1_)),(4,.cells 45 (cE p1_)),(5,.cells 3 [dI p2_]),(6,.obj (.deferred (some []))),(7,Ga p3_ p2_),(8,KB p4_ p2_ p1_),(10,KB p4_ p2_ p1_)]
noncomputable abbrev m14_h15 (p0_:Bs) (p1_:Dcl) (p2_:Int) (p3_:List Dcl) (p4_:Int):List (Nat×HB) :=
 [(0,.cells 9 [Jn p0_]),(1,Yt),(2,.cells 25 [dI 0]),(3,.cells 45 (cE p1_)),(4,.cells 45 (cE p1_)),(5,.cells 3 [dI p2_]),(6,.obj (.deferred (some []))),(7,Z5 p3_ p2_),(8,KB p4_ p2_ p1_)]
noncomputable abbrev m14_h16 (p0_:Bs) (p1_:Int) (p2_:Int) (p3_:Dcl) (p4_:List Dcl):List (Nat×HB) :=
 [(0,.cells 9 [Jn p0_]),(1,KB p1_ p2_ p3_),(2,.cells 25 [dI 0]),(3,.cells 45 (cE p3_)),(4,.cells 45 (cE p3_)),(5,.cells 3 [dI p2_]),(6,.obj (.deferred (some []))),(7,Z5 p4_ p2_),(8,KB p1_ p2_ p3_)]
noncomputable abbrev m14_h17 (p0_:Bs) (p1_:Int) (p2_:Int) (p3_:Dcl) (p4_:List Dcl):List (Nat×HB) :=
 [(0,.cells 9 [Jn p0_]),(1,KB p1_ p2_ p3_),(2,.cells 25 [dI 0]),(3,.cells 45 (cE p3_)),(4,.cells 45 (cE p3_)),(5,.cells 3 [dI p2_]),(6,.obj (.deferred (some []))),(7,Ug p4_ p2_)]
noncomputable abbrev YG (p0_:Int) (p1_:Dcl):HB :=
 .cells 35 [dI 3,dI p0_,dI 0,dI p1_.params,dI p1_.ty.kind,dI p1_.ty.index,Jn p1_.ty.name,dS p1_.ty.levels,dS p1_.ty.kids]
noncomputable abbrev m14_h19 (p0_:Bs) (p1_:Dcl) (p2_:Int) (p3_:List Dcl):List (Nat×HB) :=
 [(0,.cells 9 [Jn p0_]),(1,Yt),(2,.cells 25 [dI 0]),(3,.cells 45 (cE p1_)),(4,.cells 45 (cE p1_)),(5,.cells 3 [dI p2_]),(6,.obj (.deferred (some []))),(7,Ga p3_ p2_),(8,YG p2_ p1_)]
noncomputable abbrev m14_h20 (p0_:Bs) (p1_:Dcl) (p2_:Int) (p3_:List Dcl):List (Nat×HB) :=
 [(0,.cells 9 [Jn p0_]),(1,Yt),(2,.cells 25 [dI 0]),(3,.cells 45 (cE p1_)),(4,.cells 45 (cE p1_)),(5,.cells 3 [dI p2_]),(6,.obj (.deferred (some []))),(7,Z5 p3_ p2_),(8,YG p2_ p1_),(9,YG p2_ p1_)]
noncomputable abbrev m14_h21 (p0_:Bs) (p1_:Dcl) (p2_:Int) (p3_:List Dcl):List (Nat×HB) :=
 [(0,.cells 9 [Jn p0_]),(1,Yt),(2,.cells 25 [dI 0]),(3,.cells 45 (cE p1_)),(4,.cells 45 (cE p1_)),(5,.cells 3 [dI p2_]),(6,.obj (.deferred (some []))),(7,Ga p3_ p2_),(8,YG p2_ p1_),(9,YG p2_ p1_)]
noncomputable abbrev Gm (p0_:Bs) (p1_:Dcl) (p2_:Int) (p3_:List Dcl):List (Nat×HB) :=
 [(0,.cells 9 [Jn p0_]),(1,Yt),(2,.cells 25 [dI 0]),(3,.cells 45 (cE p1_)),(4,.cells 45 (cE p1_)),(5,.cells 3 [dI p2_]),(6,.obj (.deferred (some []))),(7,Z5 p3_ p2_),(8,YG p2_ p1_)]
noncomputable abbrev m14_h23 (p0_:Bs) (p1_:Int) (p2_:Dcl) (p3_:List Dcl):List (Nat×HB) :=
 [(0,.cells 9 [Jn p0_]),(1,YG p1_ p2_),(2,.cells 25 [dI 0]),(3,.cells 45 (cE p2_)),(4,.cells 45 (cE p2_)),(5,.cells 3 [dI p1_]),(6,.obj (.deferred (some []))),(7,Z5 p3_ p1_),(8,YG p1_ p2_)]
noncomputable abbrev m14_h24 (p0_:Bs) (p1_:Dcl) (p2_:Int) (p3_:List Dcl) (p4_:Ctr):List (Nat×HB) :=
 [(0,.cells 9 [Jn p0_]),(1,Yt),(2,.cells 25 [dI 0]),(3,.cells 45 (cE p1_)),(4,.cells 45 (cE p1_)),(5,.cells 3 [dI p2_]),(6,.obj (.deferred (some []))),(7,Ga p3_ p2_),(8,YG p2_ p1_),(10,.cells 71 (cE p4_))]
noncomputable abbrev m14_h25 (p0_:Int) (p1_:Int) (p2_:Dcl) (p3_:Ctr):HB :=
 .cells 35 [dI 4,dI p0_,dI p1_,dI p2_.params,dI p3_.ty.kind,dI p3_.ty.index,Jn p3_.ty.name,dS p3_.ty.levels,dS p3_.ty.kids]
noncomputable abbrev m14_h26 (p0_:Bs) (p1_:Dcl) (p2_:Int) (p3_:List Dcl) (p4_:Ctr) (p5_:Int):List (Nat×HB) :=
 [(0,.cells 9 [Jn p0_]),(1,Yt),(2,.cells 25 [dI 0]),(3,.cells 45 (cE p1_)),(4,.cells 45 (cE p1_)),(5,.cells 3 [dI p2_]),(6,.obj (.deferred (some []))),(7,Z5 p3_ p2_),(8,YG p2_ p1_),(10,.cells 71 (cE p4_)),(11,m14_h25 p2_ p5_ p1_ p4_)]
noncomputable abbrev m14_h27 (p0_:Bs) (p1_:Dcl) (p2_:Int) (p3_:List Dcl) (p4_:Ctr) (p5_:Int):List (Nat×HB) :=
 [(0,.cells 9 [Jn p0_]),(1,Yt),(2,.cells 25 [dI 0]),(3,.cells 45 (cE p1_)),(4,.cells 45 (cE p1_)),(5,.cells 3 [dI p2_]),(6,.obj (.deferred (some []))),(7,Ga p3_ p2_),(8,YG p2_ p1_),(10,.cells 71 (cE p4_)),(11,m14_h25 p2_ p5_ p1_ p4_)]
noncomputable abbrev m14_h28 (p0_:Bs) (p1_:Dcl) (p2_:Int) (p3_:List Dcl) (p4_:Ctr):List (Nat×HB) :=
 [(0,.cells 9 [Jn p0_]),(1,Yt),(2,.cells 25 [dI 0]),(3,.cells 45 (cE p1_)),(4,.cells 45 (cE p1_)),(5,.cells 3 [dI p2_]),(6,.obj (.deferred (some []))),(7,Z5 p3_ p2_),(8,YG p2_ p1_),(10,.cells 71 (cE p4_))]
noncomputable abbrev m14_h29 (p0_:Bs) (p1_:Int) (p2_:Int) (p3_:Dcl) (p4_:Ctr) (p5_:List Dcl):List (Nat×HB) :=
 [(0,.cells 9 [Jn p0_]),(1,m14_h25 p1_ p2_ p3_ p4_),(2,.cells 25 [dI 0]),(3,.cells 45 (cE p3_)),(4,.cells 45 (cE p3_)),(5,.cells 3 [dI p1_]),(6,.obj (.deferred (some []))),(7,Z5 p5_ p1_),(8,YG p1_ p3_),(10,.cells 71 (cE p4_))]
noncomputable abbrev m14_h30 (p0_:Bs) (p1_:Int) (p2_:Int) (p3_:Dcl) (p4_:Ctr) (p5_:List Dcl):List (Nat×HB) :=
 [(0,.cells 9 [Jn p0_]),(1,m14_h25 p1_ p2_ p3_ p4_),(2,.cells 25 [dI 0]),(3,.cells 45 (cE p3_)),(4,.cells 45 (cE p3_)),(5,.cells 3 [dI p1_]),(6,.obj (.deferred (some []))),(7,Ug p5_ p1_)]
noncomputable abbrev m14_h31 (p0_:Int) (p1_:Dcl):HB :=
 .cells 35 [dI 5,dI p0_,dI 0,dI p1_.rcr.params,dI p1_.rcr.ty.kind,dI p1_.rcr.ty.index,Jn p1_.rcr.ty.name,dS p1_.rcr.ty.levels,dS p1_.rcr.ty.kids]
noncomputable abbrev m14_h32 (p0_:Bs) (p1_:Dcl) (p2_:Int) (p3_:List Dcl):List (Nat×HB) :=
 [(0,.cells 9 [Jn p0_]),(1,Yt),(2,.cells 25 [dI 0]),(3,.cells 45 (cE p1_)),(4,.cells 45 (cE p1_)),(5,.cells 3 [dI p2_]),(6,.obj (.deferred (some []))),(7,Z5 p3_ p2_),(8,YG p2_ p1_),(10,m14_h31 p2_ p1_)]
noncomputable abbrev m14_h33 (p0_:Bs) (p1_:Dcl) (p2_:Int) (p3_:List Dcl):List (Nat×HB) :=
 [(0,.cells 9 [Jn p0_]),(1,Yt),(2,.cells 25 [dI 0]),(3,.cells 45 (cE p1_)),(4,.cells 45 (cE p1_)),(5,.cells 3 [dI p2_]),(6,.obj (.deferred (some []))),(7,Ga p3_ p2_),(8,YG p2_ p1_),(10,m14_h31 p2_ p1_)]
noncomputable abbrev m14_h34 (p0_:Bs) (p1_:Int) (p2_:Dcl) (p3_:List Dcl):List (Nat×HB) :=
 [(0,.cells 9 [Jn p0_]),(1,m14_h31 p1_ p2_),(2,.cells 25 [dI 0]),(3,.cells 45 (cE p2_)),(4,.cells 45 (cE p2_)),(5,.cells 3 [dI p1_]),(6,.obj (.deferred (some []))),(7,Z5 p3_ p1_),(8,YG p1_ p2_)]
noncomputable abbrev m14_h35 (p0_:Bs) (p1_:Int) (p2_:Dcl) (p3_:List Dcl):List (Nat×HB) :=
 [(0,.cells 9 [Jn p0_]),(1,m14_h31 p1_ p2_),(2,.cells 25 [dI 0]),(3,.cells 45 (cE p2_)),(4,.cells 45 (cE p2_)),(5,.cells 3 [dI p1_]),(6,.obj (.deferred (some []))),(7,Ug p3_ p1_)]
noncomputable abbrev m14_h36 (p0_:Bs) (p1_:Int) (p2_:Dcl) (p3_:List Dcl):List (Nat×HB) :=
 [(0,.cells 9 [Jn p0_]),(1,YG p1_ p2_),(2,.cells 25 [dI 0]),(3,.cells 45 (cE p2_)),(4,.cells 45 (cE p2_)),(5,.cells 3 [dI p1_]),(6,.obj (.deferred (some []))),(7,Ug p3_ p1_)]
noncomputable abbrev m14_h37 (p0_:Bs) (p1_:Dcl) (p2_:Int) (p3_:List Dcl) (p4_:Fn):List (Nat×HB) :=
 [(0,.cells 9 [Jn p0_]),(1,Yt),(2,.cells 25 [dI 0]),(3,.cells 45 (cE p1_)),(4,.cells 45 (cE p1_)),(5,.cells 3 [dI p2_]),(6,.obj (.deferred (some []))),(7,Ga p3_ p2_),(8,Uf p2_ p1_),(9,.cells 76 (cE p4_))]
noncomputable abbrev m14_h38 (p0_:Int) (p1_:Int) (p2_:Dcl) (p3_:Fn):HB :=
 .cells 35 [dI 6,dI p0_,dI p1_,dI p2_.params,dI p3_.ty.kind,dI p3_.ty.index,Jn p3_.ty.name,dS p3_.ty.levels,dS p3_.ty.kids]
noncomputable abbrev m14_h39 (p0_:Bs) (p1_:Dcl) (p2_:Int) (p3_:List Dcl) (p4_:Fn) (p5_:Int):List (Nat×HB) :=
 [(0,.cells 9 [Jn p0_]),(1,Yt),(2,.cells 25 [dI 0]),(3,.cells 45 (cE p1_)),(4,.cells 45 (cE p1_)),(5,.cells 3 [dI p2_]),(6,.obj (.deferred (some []))),(7,Z5 p3_ p2_),(8,Uf p2_ p1_),(9,.cells 76 (cE p4_)),(10,m14_h38 p2_ p5_ p1_ p4_)]
noncomputable abbrev m14_h40 (p0_:Bs) (p1_:Dcl) (p2_:Int) (p3_:List Dcl) (p4_:Fn) (p5_:Int):List (Nat×HB) :=
 [(0,.cells 9 [Jn p0_]),(1,Yt),(2,.cells 25 [dI 0]),(3,.cells 45 (cE p1_)),(4,.cells 45 (cE p1_)),(5,.cells 3 [dI p2_]),(6,.obj (.deferred (some []))),(7,Ga p3_ p2_),(8,Uf p2_ p1_),(9,.cells 76 (cE p4_)),(10,m14_h38 p2_ p5_ p1_ p4_)]
noncomputable abbrev m14_h41 (p0_:Bs) (p1_:Dcl) (p2_:Int) (p3_:List Dcl) (p4_:Fn):List (Nat×HB) :=
 [(0,.cells 9 [Jn p0_]),(1,Yt),(2,.cells 25 [dI 0]),(3,.cells 45 (cE p1_)),(4,.cells 45 (cE p1_)),(5,.cells 3 [dI p2_]),(6,.obj (.deferred (some []))),(7,Z5 p3_ p2_),(8,Uf p2_ p1_),(9,.cells 76 (cE p4_))]
noncomputable abbrev m14_h42 (p0_:Bs) (p1_:Int) (p2_:Int) (p3_:Dcl) (p4_:Fn) (p5_:List Dcl):List (Nat×HB) :=
 [(0,.cells 9 [Jn p0_]),(1,m14_h38 p1_ p2_ p3_ p4_),(2,.cells 25 [dI 0]),(3,.cells 45 (cE p3_)),(4,.cells 45 (cE p3_)),(5,.cells 3 [dI p1_]),(6,.obj (.deferred (some []))),(7,Z5 p5_ p1_),(8,Uf p1_ p3_),(9,.cells 76 (cE p4_))]
noncomputable abbrev m14_h43 (p0_:Bs) (p1_:Int) (p2_:Int) (p3_:Dcl) (p4_:Fn) (p5_:List Dcl):List (Nat×HB) :=
 [(0,.cells 9 [Jn p0_]),(1,m14_h38 p1_ p2_ p3_ p4_),(2,.cells 25 [dI 0]),(3,.cells 45 (cE p3_)),(4,.cells 45 (cE p3_)),(5,.cells 3 [dI p1_]),(6,.obj (.deferred (some []))),(7,Ug p5_ p1_)]
def m14 (a0:List Dcl) (a1:Bs):Option (Ent×Int) :=
 Option.bind (Qp (UL a0 a1) QF 0) (Sum.elim (fun (o1:Unit)=>some ((⟨0,0,0,0,(Tm.mk 0 0 ([]:List UInt8) ([]:List Lvl) ([]:List Tm))⟩:Ent),9)) (fun o=>some o))
theorem m14_ok (a0:List Dcl) (a1:Bs) (r:Ent×Int) (h0:m14 a0 a1=some r):Fun Try.prog 14 [.one (dS a0),.one (Jn a1)] (QK [.agg (cE r.1),.one (dI r.2)]):=by
 unfold m14 at h0
 refine QZ 9 28 Try.func14 J en_14 J (lb J) (fun S w=>?_)
 simp only [Ja]
 refine Q5<|Q0<|Q9 J J (lb J) (QT J)<|Q9 J J (lb J) (Qj Zl J)<|Q9 J J (lb J) (Qj z_25 J)<|Q3<|Q4<|Q5<|Q5<|Q0<|rM J J J<|rR J J J (QA (α:=Dcl) Zi J (.d _))<|rM J J J<|Q3 ?_
 refine Q4<|Qf ?_
 refine QY 0 (fun (o1:Unit)=>⟨[(4,.v (.one (.ptr 1 0))),(5,.v (.one (.ptr 2 0)))],[(0,.cells 9 [Jn a1]),(1,Yt),(2,.cells 25 [dI 0])],[],3,28,[]⟩) (fun (o1:Unit)=>(some ((⟨0,0,0,0,(Tm.mk 0 0 ([]:List UInt8) ([]:List Lvl) ([]:List Tm))⟩:Ent),9))=some r) ?_ ?_
 refine Qb h0 (fun o2 hl1 h0=>?_)
 refine QX (UL a0 a1) (fun s1=>⟨[(3,.v (.one (.ptr 0 0))),(4,.v (.one (.ptr 1 0))),(5,.v (.one (.ptr 2 0))),(10,.v (.one (dS a0))),(11,.v (.one (dI (a0.length:Int)))),(12,.v (.one (dI s1)))],[(0,.cells 9 [Jn a1]),(1,Yt),(2,.cells 25 [dI 0])],[],3,28,[]⟩) 0 o2 (sL (Nat.zero_le _) J J J J J) hl1 (fun s1 n1 oo1 h1 ho1=>?_)
 unfold UL at h1
 refine Q5<|Q0<|rR J J J (Q7 J J J)<|Q3<|Q4<|Q5 ?_
 refine Qh (b:=(decide (s1 < (a0.length:Int)))) J (fun c3=>?_) (fun c3=>?_)
 replace h1:=Qk c3 h1
 refine Qm<|Q4<|Q5<|Qf<|Q5<|Q0<|rM J J J ?_
 refine Qb h1 (fun x4 hx4 h1=>?_)
 refine rR J J J (Qy (α:=Dcl) Zi J (.d _) J hx4)<|rR J J J (Qv (x4:Dcl) JX J)<|Q9 J J (lb J) (Qj UW J)<|rA J J J<|Qx J J (Qz (x4:Dcl) JX J J J J J)<|Q3<|Q4<|Q5<|Q0<|rR J J J (QN (x4:Dcl) JX J J)<|rM J J J ?_
 refine Qb h1 (fun y5 h2 h1=>?_)
 have hc6:CallM Try.prog 31 [.agg (cE x4),.one (dI s1)] ⟨m14_h1 a1 x4,[],4⟩ (QK [.one (.fn 49 [(5,0),(4,0)])]) ⟨m14_h2 a1 x4 s1,[],6⟩:=by
  refine J0 ⟨[(4,.v (.one (.fn 49 [(5,0),(4,0)])))],m14_h2 a1 x4 s1,[],6,6,[]⟩ J J en_31 (lb J) J (QC J .nil) (fun w0 M V0 Q hv2 hQ2=>?_)
  simp only [Ja]
  refine Q5<|Q0<|Q9 J J (lb J) (QT J)<|Q9 J J (lb J) (QT J)<|rA J J J<|Q3<|Q4<|Q5<|Q0<|rR J J J (ZW J J)<|rA J J J<|Q3<|Q4<|QD ?_
  have e:=sI h2;subst e
  exact hQ2 _ _ _ (.inr J) J (sL (Nat.le_trans hv2 (lb J)) J J J J J)
 refine Q9 J J (lb J) (JJ J J J hc6 J (hA J) kZ)<|Q3<|Q4<|Qf<|KH (st':=⟨[(3,.v (.one (.ptr 0 0))),(4,.v (.one (.ptr 1 0))),(5,.v (.one (.ptr 2 0))),(10,.v (.one (dS a0))),(11,.v (.one (dI (a0.length:Int)))),(12,.v (.one (dI s1))),(19,.v (.one (.fn 49 [(5,0),(4,0)])))],m14_h2 a1 x4 s1,[],6,28,[]⟩) (sL (Nat.zero_le _) J J J J J) ?_
 refine Qb h1 (fun y10 h2 h1=>?_)
 have hc9:CallM Try.prog 49 [.one (.yld 7),.one (.ptr 5 0),.one (.ptr 4 0)] ⟨[(7,.loop .ready none [(3,.v (.one (.ptr 0 0))),(4,.v (.one (.ptr 1 0))),(5,.v (.one (.ptr 2 0))),(10,.v (.one (dS a0))),(11,.v (.one (dI (a0.length:Int)))),(12,.v (.one (dI s1))),(19,.v (.one (.fn 49 [(5,0),(4,0)])))] 28 #[20,21] Kw Yh 6),(6,.obj (.deferred (some []))),(0,.cells 9 [Jn a1]),(1,.cells 35 [dI 0,dI 0,dI 0,dI 0,dI 0,dI 0,Jn ([]:List UInt8),dN,dN]),(2,.cells 25 [dI 0]),(3,.cells 45 (cE x4)),(4,.cells 45 (cE x4)),(5,.cells 3 [dI s1])],[],8⟩ (QK []) ⟨(((Sum.elim (fun (y7:Unit)=>(⟨[],Kv a1 x4 s1 a0,[],9,98,[]⟩:St)) (fun (y8:Int×Int×Int×Int×Int×Bs×(List Lvl)×(List Tm))=>(⟨[],XH a1 y8 s1 x4 a0,[],10,98,[]⟩:St)))) y10).hp,(((Sum.elim (fun (y7:Unit)=>(⟨[],Kv a1 x4 s1 a0,[],9,98,[]⟩:St)) (fun (y8:Int×Int×Int×Int×Int×Bs×(List Lvl)×(List Tm))=>(⟨[],XH a1 y8 s1 x4 a0,[],10,98,[]⟩:St)))) y10).tk,(((Sum.elim (fun (y7:Unit)=>(⟨[],Kv a1 x4 s1 a0,[],9,98,[]⟩:St)) (fun (y8:Int×Int×Int×Int×Int×Bs×(List Lvl)×(List Tm))=>(⟨[],XH a1 y8 s1 x4 a0,[],10,98,[]⟩:St)))) y10).nx⟩:=by
  refine CallM.of_bodyS y10 ((Sum.elim (fun (y7:Unit)=>(⟨[],Kv a1 x4 s1 a0,[],9,98,[]⟩:St)) (fun (y8:Int×Int×Int×Int×Int×Bs×(List Lvl)×(List Tm))=>(⟨[],XH a1 y8 s1 x4 a0,[],10,98,[]⟩:St)))) rfl rfl en_49 (lb rfl) (fun z_=>by cases z_ <;> rfl) (fun z_=>.nil) (fun w0 M V0 Q hv2 hQ2=>?_)
  simp only [Ja]
  refine Q5<|Q0<|rR J J J (Q6 QU J J J)<|rR J J J (Q2 Yl J)<|rR J J J (Q6 QU J J J)<|rR J J J (Q2 KF J)<|rR J J J (Qi QV J J J J)<|rR J J J (ZH Kn J J J J J)<|Q9 J J (lb J) (Qj Zl J)<|Qx J J (Qt Jm J J J J (lb J) J)<|Q3<|Q4<|Q5<|Q0 ?_
  refine rR J J J (Q2 Yu J)<|rR J J J (Q6 QU J J J)<|Q3<|Q4<|Qf<|Q5<|Q5<|Q0<|rR J J J (Q7 J J J)<|rA J J J<|Q3<|Q4 ?_
  refine QS (fun (v11:Bool)=>⟨[(0,.v (.one (.yld 7))),(1,.v (.one (.ptr 5 0))),(2,.v (.one (.ptr 4 0))),(4,.v (.one (.ptr 8 0))),(16,.v (.one (dI x4.kind))),(17,.v (.one (dB v11)))],m14_h9 a1 x4 s1 a0,[],9,98,[]⟩) (fun (v11:Bool)=>(Wz v11 x4 a1)=some y10) ?_ ?_
  refine Qb h2 (fun w3_ h3 h2=>?_)
  refine Qh (b:=(x4.kind==0)) J (fun c12=>?_) (fun c12=>?_)
  replace h3:=Qk c12 h3
  refine Qm ?_
  have e:=sI h3;subst e
  exact Qd (x4.kind==0) (sL (Nat.le_trans hv2 (lb J)) J J J J J) h2
  replace h3:=Ql c12 h3
  refine Q5<|Q0<|rR J J J (Q7 J J J)<|rA J J J<|Q3<|Q4 ?_
  refine Qh (b:=(x4.kind==1)) J (fun c13=>?_) (fun c13=>?_)
  replace h3:=Qk c13 h3
  refine Qm ?_
  have e:=sI h3;subst e
  exact Qd (x4.kind==1) (sL (Nat.le_trans hv2 (lb J)) J J J J J) h2
  replace h3:=Ql c13 h3
  refine Q0<|rR J J J (Q7 J J J)<|rA J J J<|Q3 ?_
  have e:=sI h3;subst e
  exact Qd (x4.kind==2) (sL (Nat.le_trans hv2 (lb J)) J J J J J) h2
  intro v11 h2
  unfold Wz at h2
  refine Q4 ?_
  refine Qh (b:=v11) J (fun c14=>?_) (fun c14=>?_)
  replace h2:=Qk c14 h2
  refine Q5<|Q0<|Q9 J J (lb J) (OpOK.lit3E (α:=Int) 0 1 2 Uk z_3 J J (lb J) (lb J) J J J J (.cons (.d _) (.cons (.d _) (.cons (.d _) .nil))) ⟨J,J,J⟩)<|rR J J J (Q2 Yu J)<|rR J J J (Q6 QU J J J) ?_
  refine Qb h2 (fun x15 hx15 h2=>?_)
  refine rR J J J (Qy (α:=Int) Uk J (.app _ _) J hx15)<|rR J J J (JQ QU J J)<|rR J J J (Q2 ZR J)<|Qx J J (Qt QU J J J J (lb J) J)<|Q3<|Q4<|Q0<|rM J J J<|rR J J J (Q2 Ym J)<|rR J J J (Q6 JV J J J)<|rR J J J (Qi Jm J J J J) ?_
  refine Qb h2 (fun y18 h3 h2=>?_)
  have ha19:ExecOK Try.prog (some 7) Kw ⟨[(3,.v (.one (.ptr 0 0))),(4,.v (.one (.ptr 1 0))),(5,.v (.one (.ptr 2 0))),(10,.v (.one (dS a0))),(11,.v (.one (dI (a0.length:Int)))),(12,.v (.one (dI s1))),(19,.v (.one (.fn 49 [(5,0),(4,0)]))),(20,.v (.one (Jn x4.name))),(21,.v (.agg [dI x15,dI s1,dI 0,dI x4.params,dI x4.ty.kind,dI x4.ty.index,Jn x4.ty.name,dS x4.ty.levels,dS x4.ty.kids]))],m14_h11 a1 x4 s1 a0 x15,[(9,some ⟨3,1,(Enc.encL ([0,1,2]:List Int)).length,[]⟩)],10,28,[]⟩ .normal ⟨[(3,.v (.one (.ptr 0 0))),(4,.v (.one (.ptr 1 0))),(5,.v (.one (.ptr 2 0))),(8,.v (.one (Jn x4.name))),(9,.v (.one (.ptr 10 0)))],m14_h14 a1 x4 s1 a0 x15,[(9,some ⟨3,1,(Enc.encL ([0,1,2]:List Int)).length,[]⟩)],11,28,[]⟩:=by
   refine QI (fun w0 M V0 ro n Q hv3 hro3 hQn3=>?_)
   refine Q5<|Q0<|rA J J J<|Q3<|Q4<|Q0<|Q9 J J (lb J) (Qj Zl J)<|Qx J J (Qt Jm J J J J (lb J) J)<|Q3 ?_
   exact Jq hQn3 (sL (Nat.le_trans hv3 (lb J)) J J J J J)
  have hb20:ExecOK Try.prog (some 7) Yh ⟨[(3,.v (.one (.ptr 0 0))),(4,.v (.one (.ptr 1 0))),(5,.v (.one (.ptr 2 0))),(8,.v (.one (Jn x4.name))),(9,.v (.one (.ptr 10 0)))],m14_h13 a1 x4 s1 a0 x15,[(9,some ⟨3,1,(Enc.encL ([0,1,2]:List Int)).length,[]⟩)],11,28,[]⟩ ((Sum.elim (fun (_:Unit)=>(.normal:Exit)) (fun (_:Unit)=>(.ret:Exit))) y18) ((Sum.elim (fun (y16:Unit)=>(⟨[],m14_h15 a1 x4 s1 a0 x15,[(9,some ⟨3,1,(Enc.encL ([0,1,2]:List Int)).length,[]⟩)],11,28,[]⟩:St)) (fun (y17:Unit)=>(⟨[],m14_h16 a1 x15 s1 x4 a0,[(9,some ⟨3,1,(Enc.encL ([0,1,2]:List Int)).length,[]⟩)],11,28,[]⟩:St))) y18):=by
   refine QI (fun w0 M V0 ro n Q hv3 hro3 hQn3=>?_)
   refine Qf<|Q5<|Q0<|rM J J J<|rR J J J (Q6 JV J J J)<|rR J J J (Xf J J)<|Q3<|Q4 ?_
   refine Qh (b:=(x4.name==a1)) J (fun c21=>?_) (fun c21=>?_)
   replace h3:=Qk c21 h3
   refine Q5<|Q0<|rR J J J (Qi Jm J J J J)<|Qx J J (Qt Jm J J J J (lb J) J)<|Qx J J (Qt K3 J J J J (lb J) J)<|Q3<|Q4<|QD ?_
   have e:=sI h3;subst e
   exact Jq (e:=.ret) (st':=⟨[],m14_h16 a1 x15 s1 x4 a0,[(9,some ⟨3,1,(Enc.encL ([0,1,2]:List Int)).length,[]⟩)],11,28,[]⟩) hQn3 (sL (Nat.le_trans hv3 (lb J)) J J J J J)
   replace h3:=Ql c21 h3
   refine Qm<|Qe ?_
   have e:=sI h3;subst e
   exact Jq (e:=.normal) (st':=⟨[],m14_h15 a1 x4 s1 a0 x15,[(9,some ⟨3,1,(Enc.encL ([0,1,2]:List Int)).length,[]⟩)],11,28,[]⟩) hQn3 (sL (Nat.le_trans hv3 (lb J)) J J J J J)
  refine U2 (C:=fun q_=>ExecOK Try.prog (some 7) Yh ⟨[(3,.v (.one (.ptr 0 0))),(4,.v (.one (.ptr 1 0))),(5,.v (.one (.ptr 2 0))),(8,.v (.one (Jn x4.name))),(9,.v (.one (.ptr 10 0)))],m14_h13 a1 x4 s1 a0 x15,[(9,some ⟨3,1,(Enc.encL ([0,1,2]:List Int)).length,[]⟩)],11,28,[]⟩ ((Sum.elim (fun (_:Unit)=>(.normal:Exit)) (fun (_:Unit)=>(.ret:Exit))) q_) ((Sum.elim (fun (y16:Unit)=>(⟨[],m14_h15 a1 x4 s1 a0 x15,[(9,some ⟨3,1,(Enc.encL ([0,1,2]:List Int)).length,[]⟩)],11,28,[]⟩:St)) (fun (y17:Unit)=>(⟨[],m14_h16 a1 x15 s1 x4 a0,[(9,some ⟨3,1,(Enc.encL ([0,1,2]:List Int)).length,[]⟩)],11,28,[]⟩:St))) q_)) hb20 h2 (fun y16 hb20 h2=>?_) (fun y17 hb20 h2=>?_)
  replace hb20:ExecOK Try.prog (some 7) Yh ⟨[(3,.v (.one (.ptr 0 0))),(4,.v (.one (.ptr 1 0))),(5,.v (.one (.ptr 2 0))),(8,.v (.one (Jn x4.name))),(9,.v (.one (.ptr 10 0)))],m14_h13 a1 x4 s1 a0 x15,[(9,some ⟨3,1,(Enc.encL ([0,1,2]:List Int)).length,[]⟩)],11,28,[]⟩ .normal ⟨[],m14_h15 a1 x4 s1 a0 x15,[(9,some ⟨3,1,(Enc.encL ([0,1,2]:List Int)).length,[]⟩)],11,28,[]⟩:=hb20
  refine Q9 J J (lb J) (Je (jump:=none) J J J J J (Qw ha19 (fun E hv=>(sL (Nat.le_trans hv (lb J)) J J J J J))) J (Qw hb20 (fun E hv=>(sL (Nat.le_trans hv (lb J)) J J J J J))) J J) ?_
  refine Q3<|Qe ?_
  have e:=sI h2;subst e
  exact hQ2 _ _ _ (.inl J) J (show StLe _ _ ⟨[],Kv a1 x4 s1 a0,[],9,98,[]⟩ from (sL (Nat.le_trans hv2 (lb J)) J J J J J))
  replace hb20:ExecOK Try.prog (some 7) Yh ⟨[(3,.v (.one (.ptr 0 0))),(4,.v (.one (.ptr 1 0))),(5,.v (.one (.ptr 2 0))),(8,.v (.one (Jn x4.name))),(9,.v (.one (.ptr 10 0)))],m14_h13 a1 x4 s1 a0 x15,[(9,some ⟨3,1,(Enc.encL ([0,1,2]:List Int)).length,[]⟩)],11,28,[]⟩ .ret ⟨[],m14_h16 a1 x15 s1 x4 a0,[(9,some ⟨3,1,(Enc.encL ([0,1,2]:List Int)).length,[]⟩)],11,28,[]⟩:=hb20
  refine Q9 J J (lb J) (Je (jump:=(some .ret)) J J J J J (Qw ha19 (fun E hv=>(sL (Nat.le_trans hv (lb J)) J J J J J))) J (Qw hb20 (fun E hv=>(sL (Nat.le_trans hv (lb J)) J J J J J))) J J) ?_
  refine Q3<|Qe ?_
  have e:=sI h2;subst e
  exact hQ2 _ _ _ (.inl J) J (show StLe _ _ ⟨[],m14_h17 a1 x15 s1 x4 a0,[],10,98,[]⟩ from (sL (Nat.le_trans hv2 (lb J)) J J J J J))
  replace h2:=Ql c14 h2
  refine Q5<|Q0<|rR J J J (Q7 J J J)<|rA J J J<|Q3<|Q4 ?_
  refine Qh (b:=(x4.kind==3)) J (fun c22=>?_) (fun c22=>?_)
  replace h2:=Qk c22 h2
  refine Q5<|Q0<|rR J J J (Q2 ZR J)<|Qx J J (Qt QU J J J J (lb J) J)<|Q3<|Q4<|Q5<|Q5<|Q0<|rM J J J<|rR J J J (Q2 Ym J)<|rR J J J (Q6 JV J J J)<|rR J J J (Qi Jm J J J J) ?_
  refine Qb h2 (fun y25 h3 h2=>?_)
  have ha26:ExecOK Try.prog (some 7) Kw ⟨[(3,.v (.one (.ptr 0 0))),(4,.v (.one (.ptr 1 0))),(5,.v (.one (.ptr 2 0))),(10,.v (.one (dS a0))),(11,.v (.one (dI (a0.length:Int)))),(12,.v (.one (dI s1))),(19,.v (.one (.fn 49 [(5,0),(4,0)]))),(20,.v (.one (Jn x4.name))),(21,.v (.agg [dI 3,dI s1,dI 0,dI x4.params,dI x4.ty.kind,dI x4.ty.index,Jn x4.ty.name,dS x4.ty.levels,dS x4.ty.kids]))],m14_h19 a1 x4 s1 a0,[],9,28,[]⟩ .normal ⟨[(3,.v (.one (.ptr 0 0))),(4,.v (.one (.ptr 1 0))),(5,.v (.one (.ptr 2 0))),(8,.v (.one (Jn x4.name))),(9,.v (.one (.ptr 9 0)))],m14_h21 a1 x4 s1 a0,[],10,28,[]⟩:=by
   refine QI (fun w0 M V0 ro n Q hv3 hro3 hQn3=>?_)
   refine Q5<|Q0<|rA J J J<|Q3<|Q4<|Q0<|Q9 J J (lb J) (Qj Zl J)<|Qx J J (Qt Jm J J J J (lb J) J)<|Q3 ?_
   exact Jq hQn3 (sL (Nat.le_trans hv3 (lb J)) J J J J J)
  have hb27:ExecOK Try.prog (some 7) Yh ⟨[(3,.v (.one (.ptr 0 0))),(4,.v (.one (.ptr 1 0))),(5,.v (.one (.ptr 2 0))),(8,.v (.one (Jn x4.name))),(9,.v (.one (.ptr 9 0)))],m14_h20 a1 x4 s1 a0,[],10,28,[]⟩ ((Sum.elim (fun (_:Unit)=>(.normal:Exit)) (fun (_:Unit)=>(.ret:Exit))) y25) ((Sum.elim (fun (y23:Unit)=>(⟨[],Gm a1 x4 s1 a0,[],10,28,[]⟩:St)) (fun (y24:Unit)=>(⟨[],m14_h23 a1 s1 x4 a0,[],10,28,[]⟩:St))) y25):=by
   refine QI (fun w0 M V0 ro n Q hv3 hro3 hQn3=>?_)
   refine Qf<|Q5<|Q0<|rM J J J<|rR J J J (Q6 JV J J J)<|rR J J J (Xf J J)<|Q3<|Q4 ?_
   refine Qh (b:=(x4.name==a1)) J (fun c28=>?_) (fun c28=>?_)
   replace h3:=Qk c28 h3
   refine Q5<|Q0<|rR J J J (Qi Jm J J J J)<|Qx J J (Qt Jm J J J J (lb J) J)<|Qx J J (Qt K3 J J J J (lb J) J)<|Q3<|Q4<|QD ?_
   have e:=sI h3;subst e
   exact Jq (e:=.ret) (st':=⟨[],m14_h23 a1 s1 x4 a0,[],10,28,[]⟩) hQn3 (sL (Nat.le_trans hv3 (lb J)) J J J J J)
   replace h3:=Ql c28 h3
   refine Qm<|Qe ?_
   have e:=sI h3;subst e
   exact Jq (e:=.normal) (st':=⟨[],Gm a1 x4 s1 a0,[],10,28,[]⟩) hQn3 (sL (Nat.le_trans hv3 (lb J)) J J J J J)
  refine U2 (C:=fun q_=>ExecOK Try.prog (some 7) Yh ⟨[(3,.v (.one (.ptr 0 0))),(4,.v (.one (.ptr 1 0))),(5,.v (.one (.ptr 2 0))),(8,.v (.one (Jn x4.name))),(9,.v (.one (.ptr 9 0)))],m14_h20 a1 x4 s1 a0,[],10,28,[]⟩ ((Sum.elim (fun (_:Unit)=>(.normal:Exit)) (fun (_:Unit)=>(.ret:Exit))) q_) ((Sum.elim (fun (y23:Unit)=>(⟨[],Gm a1 x4 s1 a0,[],10,28,[]⟩:St)) (fun (y24:Unit)=>(⟨[],m14_h23 a1 s1 x4 a0,[],10,28,[]⟩:St))) q_)) hb27 h2 (fun y23 hb27 h2=>?_) (fun y24 hb27 h2=>?_)
  replace hb27:ExecOK Try.prog (some 7) Yh ⟨[(3,.v (.one (.ptr 0 0))),(4,.v (.one (.ptr 1 0))),(5,.v (.one (.ptr 2 0))),(8,.v (.one (Jn x4.name))),(9,.v (.one (.ptr 9 0)))],m14_h20 a1 x4 s1 a0,[],10,28,[]⟩ .normal ⟨[],Gm a1 x4 s1 a0,[],10,28,[]⟩:=hb27
  refine Q9 J J (lb J) (Je (jump:=none) J J J J J (Qw ha26 (fun E hv=>(sL (Nat.le_trans hv (lb J)) J J J J J))) J (Qw hb27 (fun E hv=>(sL (Nat.le_trans hv (lb J)) J J J J J))) J J) ?_
  refine rR J J J (Ji J)<|Q3<|Q4 ?_
  refine Qh J (fun h=>nomatch h) (fun _=>?_)
  refine Qm<|Q4<|Q5<|Q5<|Q0<|rR J J J (Q2 YD J)<|rR J J J (Q6 K2 J J J)<|rR J J J (QA (α:=Ctr) YM J (.d _))<|rM J J J<|Q3<|Q4<|Qf ?_
  refine QY 1 (fun (o29:Unit)=>⟨[(0,.v (.one (.yld 7))),(1,.v (.one (.ptr 5 0))),(2,.v (.one (.ptr 4 0)))],m14_h19 a1 x4 s1 a0,[],10,98,[]⟩) (fun (o29:Unit)=>(UM x4 a1)=some y10) ?_ ?_
  refine Qb h2 (fun o30 hl3 h2=>?_)
  refine QX (XG x4 a1) (fun s3=>⟨[(0,.v (.one (.yld 7))),(1,.v (.one (.ptr 5 0))),(2,.v (.one (.ptr 4 0))),(42,.v (.one (dS x4.ctors))),(43,.v (.one (dI (x4.ctors.length:Int)))),(44,.v (.one (dI s3)))],m14_h19 a1 x4 s1 a0,[],10,98,[]⟩) 0 o30 (sL (Nat.le_trans hv2 (lb J)) J J J J J) hl3 (fun s3 n3 oo3 h3 ho3=>?_)
  unfold XG at h3
  refine Q5<|Q0<|rR J J J (Q7 J J J)<|Q3<|Q4<|Q5 ?_
  refine Qh (b:=(decide (s3 < (x4.ctors.length:Int)))) J (fun c31=>?_) (fun c31=>?_)
  replace h3:=Qk c31 h3
  refine Qm<|Q4<|Q5<|Qf<|Q5<|Q0<|rM J J J ?_
  refine Qb h3 (fun x32 hx32 h3=>?_)
  refine rR J J J (Qy (α:=Ctr) YM J (.d _) J hx32)<|rR J J J (Qv (x32:Ctr) K0 J)<|Q9 J J (lb J) (Qj UV J)<|rA J J J<|Qx J J (Qz (x32:Ctr) K0 J J J J J)<|Q3<|Q4<|Q5<|Q0<|rM J J J<|rR J J J (Q2 Gs J)<|rR J J J (Q6 JV J J J)<|rR J J J (Q6 QU J J J)<|rM J J J ?_
  refine rR J J J (Q2 Yl J)<|rR J J J (Q6 QU J J J)<|rR J J J (Q2 KE J)<|rR J J J (Qi QV J J J J)<|rR J J J (Y0 Kn J (.cons J (.cons J (.cons J (.cons J (.cons J .nil))))) J) ?_
  refine Qb h3 (fun y35 h4 h3=>?_)
  have ha36:ExecOK Try.prog (some 7) Kw ⟨[(3,.v (.one (.ptr 0 0))),(4,.v (.one (.ptr 1 0))),(5,.v (.one (.ptr 2 0))),(10,.v (.one (dS a0))),(11,.v (.one (dI (a0.length:Int)))),(12,.v (.one (dI s1))),(19,.v (.one (.fn 49 [(5,0),(4,0)]))),(20,.v (.one (Jn x32.name))),(21,.v (.agg [dI 4,dI s1,dI s3,dI x4.params,dI x32.ty.kind,dI x32.ty.index,Jn x32.ty.name,dS x32.ty.levels,dS x32.ty.kids]))],m14_h24 a1 x4 s1 a0 x32,[],11,28,[]⟩ .normal ⟨[(3,.v (.one (.ptr 0 0))),(4,.v (.one (.ptr 1 0))),(5,.v (.one (.ptr 2 0))),(8,.v (.one (Jn x32.name))),(9,.v (.one (.ptr 11 0)))],m14_h27 a1 x4 s1 a0 x32 s3,[],12,28,[]⟩:=by
   refine QI (fun w0 M V0 ro n Q hv4 hro4 hQn4=>?_)
   refine Q5<|Q0<|rA J J J<|Q3<|Q4<|Q0<|Q9 J J (lb J) (Qj Zl J)<|Qx J J (Qt Jm J J J J (lb J) J)<|Q3 ?_
   exact Jq hQn4 (sL (Nat.le_trans hv4 (lb J)) J J J J J)
  have hb37:ExecOK Try.prog (some 7) Yh ⟨[(3,.v (.one (.ptr 0 0))),(4,.v (.one (.ptr 1 0))),(5,.v (.one (.ptr 2 0))),(8,.v (.one (Jn x32.name))),(9,.v (.one (.ptr 11 0)))],m14_h26 a1 x4 s1 a0 x32 s3,[],12,28,[]⟩ ((Sum.elim (fun (_:Unit)=>(.normal:Exit)) (fun (_:Unit)=>(.ret:Exit))) y35) ((Sum.elim (fun (y33:Unit)=>(⟨[],m14_h28 a1 x4 s1 a0 x32,[],12,28,[]⟩:St)) (fun (y34:Unit)=>(⟨[],m14_h29 a1 s1 s3 x4 x32 a0,[],12,28,[]⟩:St))) y35):=by
   refine QI (fun w0 M V0 ro n Q hv4 hro4 hQn4=>?_)
   refine Qf<|Q5<|Q0<|rM J J J<|rR J J J (Q6 JV J J J)<|rR J J J (Xf J J)<|Q3<|Q4 ?_
   refine Qh (b:=(x32.name==a1)) J (fun c38=>?_) (fun c38=>?_)
   replace h4:=Qk c38 h4
   refine Q5<|Q0<|rR J J J (Qi Jm J J J J)<|Qx J J (Qt Jm J J J J (lb J) J)<|Qx J J (Qt K3 J J J J (lb J) J)<|Q3<|Q4<|QD ?_
   have e:=sI h4;subst e
   exact Jq (e:=.ret) (st':=⟨[],m14_h29 a1 s1 s3 x4 x32 a0,[],12,28,[]⟩) hQn4 (sL (Nat.le_trans hv4 (lb J)) J J J J J)
   replace h4:=Ql c38 h4
   refine Qm<|Qe ?_
   have e:=sI h4;subst e
   exact Jq (e:=.normal) (st':=⟨[],m14_h28 a1 x4 s1 a0 x32,[],12,28,[]⟩) hQn4 (sL (Nat.le_trans hv4 (lb J)) J J J J J)
  refine U2 (C:=fun q_=>ExecOK Try.prog (some 7) Yh ⟨[(3,.v (.one (.ptr 0 0))),(4,.v (.one (.ptr 1 0))),(5,.v (.one (.ptr 2 0))),(8,.v (.one (Jn x32.name))),(9,.v (.one (.ptr 11 0)))],m14_h26 a1 x4 s1 a0 x32 s3,[],12,28,[]⟩ ((Sum.elim (fun (_:Unit)=>(.normal:Exit)) (fun (_:Unit)=>(.ret:Exit))) q_) ((Sum.elim (fun (y33:Unit)=>(⟨[],m14_h28 a1 x4 s1 a0 x32,[],12,28,[]⟩:St)) (fun (y34:Unit)=>(⟨[],m14_h29 a1 s1 s3 x4 x32 a0,[],12,28,[]⟩:St))) q_)) hb37 h3 (fun y33 hb37 h3=>?_) (fun y34 hb37 h3=>?_)
  replace hb37:ExecOK Try.prog (some 7) Yh ⟨[(3,.v (.one (.ptr 0 0))),(4,.v (.one (.ptr 1 0))),(5,.v (.one (.ptr 2 0))),(8,.v (.one (Jn x32.name))),(9,.v (.one (.ptr 11 0)))],m14_h26 a1 x4 s1 a0 x32 s3,[],12,28,[]⟩ .normal ⟨[],m14_h28 a1 x4 s1 a0 x32,[],12,28,[]⟩:=hb37
  refine Q9 J J (lb J) (Je (jump:=none) J J J J J (Qw ha36 (fun E hv=>(sL (Nat.le_trans hv (lb J)) J J J J J))) J (Qw hb37 (fun E hv=>(sL (Nat.le_trans hv (lb J)) J J J J J))) J J) ?_
  refine rR J J J (Ji J)<|Q3<|Q4 ?_
  refine Qh J (fun h=>nomatch h) (fun _=>?_)
  refine Qm<|Qe<|Q4<|Q0<|rR J J J (Q7 J J J)<|rM J J J<|Q3 ?_
  have e:=sI h3;subst e
  refine QR (J9 (s3+1)) (sL (Nat.le_trans hv2 (lb J)) J J J J J) ho3
  replace hb37:ExecOK Try.prog (some 7) Yh ⟨[(3,.v (.one (.ptr 0 0))),(4,.v (.one (.ptr 1 0))),(5,.v (.one (.ptr 2 0))),(8,.v (.one (Jn x32.name))),(9,.v (.one (.ptr 11 0)))],m14_h26 a1 x4 s1 a0 x32 s3,[],12,28,[]⟩ .ret ⟨[],m14_h29 a1 s1 s3 x4 x32 a0,[],12,28,[]⟩:=hb37
  refine Q9 J J (lb J) (Je (jump:=(some .ret)) J J J J J (Qw ha36 (fun E hv=>(sL (Nat.le_trans hv (lb J)) J J J J J))) J (Qw hb37 (fun E hv=>(sL (Nat.le_trans hv (lb J)) J J J J J))) J J) ?_
  refine rR J J J (Ji J)<|Q3<|Q4 ?_
  refine Qh J (fun _=>?_) (fun h=>nomatch h)
  refine QD ?_
  have e:=sI h3;subst e
  have e_:_=_:=ho3
  subst e_
  try dsimp only [Sum.elim_inl,Sum.elim_inr] at h2
  have e:=sI h2;subst e
  exact hQ2 _ _ _ (.inr J) J (show StLe _ _ ⟨[],m14_h30 a1 s1 s3 x4 x32 a0,[],10,98,[]⟩ from (sL (Nat.le_trans hv2 (lb J)) J J J J J))
  replace h3:=Ql c31 h3
  refine J5<|Qo<|Qo ?_
  have e:=sI h3;subst e
  have e_:_=_:=ho3
  subst e_
  exact QW () (sL (Nat.le_trans hv2 (lb J)) J J J J J) h2
  intro o29 h2
  unfold UM at h2
  refine QM<|Q4<|Q0<|rM J J J<|rR J J J (Q2 Ym J)<|rR J J J (Q6 JV J J J) ?_
  refine Yo h2 (fun g39 h2=>?_)
  refine rR J J J (W4 J J g39)<|rR J J J (Q6 QU J J J)<|rR J J J (Q2 JT J)<|rR J J J (Q2 Gu J)<|rR J J J (Q6 QU J J J)<|rR J J J (Q2 JT J)<|rR J J J (Q2 Gt J)<|rR J J J (Qi QV J J J J)<|rR J J J (Y0 Kn J (.cons J (.cons J (.cons J (.cons J .nil)))) J) ?_
  refine Qb h2 (fun y42 h3 h2=>?_)
  have ha43:ExecOK Try.prog (some 7) Kw ⟨[(3,.v (.one (.ptr 0 0))),(4,.v (.one (.ptr 1 0))),(5,.v (.one (.ptr 2 0))),(10,.v (.one (dS a0))),(11,.v (.one (dI (a0.length:Int)))),(12,.v (.one (dI s1))),(19,.v (.one (.fn 49 [(5,0),(4,0)]))),(20,.v (.one (Jn (x4.name++([46,114,101,99]:List UInt8))))),(21,.v (.agg [dI 5,dI s1,dI 0,dI x4.rcr.params,dI x4.rcr.ty.kind,dI x4.rcr.ty.index,Jn x4.rcr.ty.name,dS x4.rcr.ty.levels,dS x4.rcr.ty.kids]))],m14_h19 a1 x4 s1 a0,[],10,28,[]⟩ .normal ⟨[(3,.v (.one (.ptr 0 0))),(4,.v (.one (.ptr 1 0))),(5,.v (.one (.ptr 2 0))),(8,.v (.one (Jn (x4.name++([46,114,101,99]:List UInt8))))),(9,.v (.one (.ptr 10 0)))],m14_h33 a1 x4 s1 a0,[],11,28,[]⟩:=by
   refine QI (fun w0 M V0 ro n Q hv3 hro3 hQn3=>?_)
   refine Q5<|Q0<|rA J J J<|Q3<|Q4<|Q0<|Q9 J J (lb J) (Qj Zl J)<|Qx J J (Qt Jm J J J J (lb J) J)<|Q3 ?_
   exact Jq hQn3 (sL (Nat.le_trans hv3 (lb J)) J J J J J)
  have hb44:ExecOK Try.prog (some 7) Yh ⟨[(3,.v (.one (.ptr 0 0))),(4,.v (.one (.ptr 1 0))),(5,.v (.one (.ptr 2 0))),(8,.v (.one (Jn (x4.name++([46,114,101,99]:List UInt8))))),(9,.v (.one (.ptr 10 0)))],m14_h32 a1 x4 s1 a0,[],11,28,[]⟩ ((Sum.elim (fun (_:Unit)=>(.normal:Exit)) (fun (_:Unit)=>(.ret:Exit))) y42) ((Sum.elim (fun (y40:Unit)=>(⟨[],Gm a1 x4 s1 a0,[],11,28,[]⟩:St)) (fun (y41:Unit)=>(⟨[],m14_h34 a1 s1 x4 a0,[],11,28,[]⟩:St))) y42):=by
   refine QI (fun w0 M V0 ro n Q hv3 hro3 hQn3=>?_)
   refine Qf<|Q5<|Q0<|rM J J J<|rR J J J (Q6 JV J J J)<|rR J J J (Xf J J)<|Q3<|Q4 ?_
   refine Qh (b:=((x4.name++([46,114,101,99]:List UInt8))==a1)) J (fun c45=>?_) (fun c45=>?_)
   replace h3:=Qk c45 h3
   refine Q5<|Q0<|rR J J J (Qi Jm J J J J)<|Qx J J (Qt Jm J J J J (lb J) J)<|Qx J J (Qt K3 J J J J (lb J) J)<|Q3<|Q4<|QD ?_
   have e:=sI h3;subst e
   exact Jq (e:=.ret) (st':=⟨[],m14_h34 a1 s1 x4 a0,[],11,28,[]⟩) hQn3 (sL (Nat.le_trans hv3 (lb J)) J J J J J)
   replace h3:=Ql c45 h3
   refine Qm<|Qe ?_
   have e:=sI h3;subst e
   exact Jq (e:=.normal) (st':=⟨[],Gm a1 x4 s1 a0,[],11,28,[]⟩) hQn3 (sL (Nat.le_trans hv3 (lb J)) J J J J J)
  refine U2 (C:=fun q_=>ExecOK Try.prog (some 7) Yh ⟨[(3,.v (.one (.ptr 0 0))),(4,.v (.one (.ptr 1 0))),(5,.v (.one (.ptr 2 0))),(8,.v (.one (Jn (x4.name++([46,114,101,99]:List UInt8))))),(9,.v (.one (.ptr 10 0)))],m14_h32 a1 x4 s1 a0,[],11,28,[]⟩ ((Sum.elim (fun (_:Unit)=>(.normal:Exit)) (fun (_:Unit)=>(.ret:Exit))) q_) ((Sum.elim (fun (y40:Unit)=>(⟨[],Gm a1 x4 s1 a0,[],11,28,[]⟩:St)) (fun (y41:Unit)=>(⟨[],m14_h34 a1 s1 x4 a0,[],11,28,[]⟩:St))) q_)) hb44 h2 (fun y40 hb44 h2=>?_) (fun y41 hb44 h2=>?_)
  replace hb44:ExecOK Try.prog (some 7) Yh ⟨[(3,.v (.one (.ptr 0 0))),(4,.v (.one (.ptr 1 0))),(5,.v (.one (.ptr 2 0))),(8,.v (.one (Jn (x4.name++([46,114,101,99]:List UInt8))))),(9,.v (.one (.ptr 10 0)))],m14_h32 a1 x4 s1 a0,[],11,28,[]⟩ .normal ⟨[],Gm a1 x4 s1 a0,[],11,28,[]⟩:=hb44
  refine Q9 J J (lb J) (Je (jump:=none) J J J J J (Qw ha43 (fun E hv=>(sL (Nat.le_trans hv (lb J)) J J J J J))) J (Qw hb44 (fun E hv=>(sL (Nat.le_trans hv (lb J)) J J J J J))) J J) ?_
  refine Q3<|Qe ?_
  have e:=sI h2;subst e
  exact hQ2 _ _ _ (.inl J) J (show StLe _ _ ⟨[],Kv a1 x4 s1 a0,[],9,98,[]⟩ from (sL (Nat.le_trans hv2 (lb J)) J J J J J))
  replace hb44:ExecOK Try.prog (some 7) Yh ⟨[(3,.v (.one (.ptr 0 0))),(4,.v (.one (.ptr 1 0))),(5,.v (.one (.ptr 2 0))),(8,.v (.one (Jn (x4.name++([46,114,101,99]:List UInt8))))),(9,.v (.one (.ptr 10 0)))],m14_h32 a1 x4 s1 a0,[],11,28,[]⟩ .ret ⟨[],m14_h34 a1 s1 x4 a0,[],11,28,[]⟩:=hb44
  refine Q9 J J (lb J) (Je (jump:=(some .ret)) J J J J J (Qw ha43 (fun E hv=>(sL (Nat.le_trans hv (lb J)) J J J J J))) J (Qw hb44 (fun E hv=>(sL (Nat.le_trans hv (lb J)) J J J J J))) J J) ?_
  refine Q3<|Qe ?_
  have e:=sI h2;subst e
  exact hQ2 _ _ _ (.inl J) J (show StLe _ _ ⟨[],m14_h35 a1 s1 x4 a0,[],10,98,[]⟩ from (sL (Nat.le_trans hv2 (lb J)) J J J J J))
  replace hb27:ExecOK Try.prog (some 7) Yh ⟨[(3,.v (.one (.ptr 0 0))),(4,.v (.one (.ptr 1 0))),(5,.v (.one (.ptr 2 0))),(8,.v (.one (Jn x4.name))),(9,.v (.one (.ptr 9 0)))],m14_h20 a1 x4 s1 a0,[],10,28,[]⟩ .ret ⟨[],m14_h23 a1 s1 x4 a0,[],10,28,[]⟩:=hb27
  refine Q9 J J (lb J) (Je (jump:=(some .ret)) J J J J J (Qw ha26 (fun E hv=>(sL (Nat.le_trans hv (lb J)) J J J J J))) J (Qw hb27 (fun E hv=>(sL (Nat.le_trans hv (lb J)) J J J J J))) J J) ?_
  refine rR J J J (Ji J)<|Q3<|Q4 ?_
  refine Qh J (fun _=>?_) (fun h=>nomatch h)
  refine QD ?_
  have e:=sI h2;subst e
  exact hQ2 _ _ _ (.inr J) J (show StLe _ _ ⟨[],m14_h36 a1 s1 x4 a0,[],10,98,[]⟩ from (sL (Nat.le_trans hv2 (lb J)) J J J J J))
  replace h2:=Ql c22 h2
  refine Q5<|Q0<|rR J J J (Q7 J J J)<|rA J J J<|Q3<|Q4 ?_
  refine Qh (b:=(x4.kind==4)) J (fun c46=>?_) (fun c46=>?_)
  replace h2:=Qk c46 h2
  refine Q5<|Q0<|rR J J J (Q2 YC J)<|rR J J J (Q6 K1 J J J)<|rR J J J (QA (α:=Fn) YL J (.d _))<|rM J J J<|Q3<|Q4<|Qf ?_
  refine QY 3 (fun (o47:Unit)=>⟨[],m14_h9 a1 x4 s1 a0,[],9,98,[]⟩) (fun (o47:Unit)=>(some (.inl ()))=some y10) ?_ ?_
  refine Qb h2 (fun o48 hl3 h2=>?_)
  refine QX (XF x4 a1) (fun s3=>⟨[(0,.v (.one (.yld 7))),(1,.v (.one (.ptr 5 0))),(2,.v (.one (.ptr 4 0))),(78,.v (.one (dS x4.funs))),(79,.v (.one (dI (x4.funs.length:Int)))),(80,.v (.one (dI s3)))],m14_h9 a1 x4 s1 a0,[],9,98,[]⟩) 0 o48 (sL (Nat.le_trans hv2 (lb J)) J J J J J) hl3 (fun s3 n3 oo3 h3 ho3=>?_)
  unfold XF at h3
  refine Q5<|Q0<|rR J J J (Q7 J J J)<|Q3<|Q4<|Q5 ?_
  refine Qh (b:=(decide (s3 < (x4.funs.length:Int)))) J (fun c49=>?_) (fun c49=>?_)
  replace h3:=Qk c49 h3
  refine Qm<|Q4<|Q5<|Qf<|Q5<|Q0<|rM J J J ?_
  refine Qb h3 (fun x50 hx50 h3=>?_)
  refine rR J J J (Qy (α:=Fn) YL J (.d _) J hx50)<|rR J J J (Qv (x50:Fn) ZF J)<|Q9 J J (lb J) (Qj UU J)<|rA J J J<|Qx J J (Qz (x50:Fn) ZF J J J J J)<|Q3<|Q4<|Q5<|Q0<|rM J J J<|rR J J J (Q2 W0 J)<|rR J J J (Q6 JV J J J)<|rR J J J (Q6 QU J J J)<|rM J J J ?_
  refine rR J J J (Q2 Yl J)<|rR J J J (Q6 QU J J J)<|rR J J J (Q2 Xc J)<|rR J J J (Qi QV J J J J)<|rR J J J (Y0 Kn J (.cons J (.cons J (.cons J (.cons J (.cons J .nil))))) J) ?_
  refine Qb h3 (fun y53 h4 h3=>?_)
  have ha54:ExecOK Try.prog (some 7) Kw ⟨[(3,.v (.one (.ptr 0 0))),(4,.v (.one (.ptr 1 0))),(5,.v (.one (.ptr 2 0))),(10,.v (.one (dS a0))),(11,.v (.one (dI (a0.length:Int)))),(12,.v (.one (dI s1))),(19,.v (.one (.fn 49 [(5,0),(4,0)]))),(20,.v (.one (Jn x50.name))),(21,.v (.agg [dI 6,dI s1,dI s3,dI x4.params,dI x50.ty.kind,dI x50.ty.index,Jn x50.ty.name,dS x50.ty.levels,dS x50.ty.kids]))],m14_h37 a1 x4 s1 a0 x50,[],10,28,[]⟩ .normal ⟨[(3,.v (.one (.ptr 0 0))),(4,.v (.one (.ptr 1 0))),(5,.v (.one (.ptr 2 0))),(8,.v (.one (Jn x50.name))),(9,.v (.one (.ptr 10 0)))],m14_h40 a1 x4 s1 a0 x50 s3,[],11,28,[]⟩:=by
   refine QI (fun w0 M V0 ro n Q hv4 hro4 hQn4=>?_)
   refine Q5<|Q0<|rA J J J<|Q3<|Q4<|Q0<|Q9 J J (lb J) (Qj Zl J)<|Qx J J (Qt Jm J J J J (lb J) J)<|Q3 ?_
   exact Jq hQn4 (sL (Nat.le_trans hv4 (lb J)) J J J J J)
  have hb55:ExecOK Try.prog (some 7) Yh ⟨[(3,.v (.one (.ptr 0 0))),(4,.v (.one (.ptr 1 0))),(5,.v (.one (.ptr 2 0))),(8,.v (.one (Jn x50.name))),(9,.v (.one (.ptr 10 0)))],m14_h39 a1 x4 s1 a0 x50 s3,[],11,28,[]⟩ ((Sum.elim (fun (_:Unit)=>(.normal:Exit)) (fun (_:Unit)=>(.ret:Exit))) y53) ((Sum.elim (fun (y51:Unit)=>(⟨[],m14_h41 a1 x4 s1 a0 x50,[],11,28,[]⟩:St)) (fun (y52:Unit)=>(⟨[],m14_h42 a1 s1 s3 x4 x50 a0,[],11,28,[]⟩:St))) y53):=by
   refine QI (fun w0 M V0 ro n Q hv4 hro4 hQn4=>?_)
   refine Qf<|Q5<|Q0<|rM J J J<|rR J J J (Q6 JV J J J)<|rR J J J (Xf J J)<|Q3<|Q4 ?_
   refine Qh (b:=(x50.name==a1)) J (fun c56=>?_) (fun c56=>?_)
   replace h4:=Qk c56 h4
   refine Q5<|Q0<|rR J J J (Qi Jm J J J J)<|Qx J J (Qt Jm J J J J (lb J) J)<|Qx J J (Qt K3 J J J J (lb J) J)<|Q3<|Q4<|QD ?_
   have e:=sI h4;subst e
   exact Jq (e:=.ret) (st':=⟨[],m14_h42 a1 s1 s3 x4 x50 a0,[],11,28,[]⟩) hQn4 (sL (Nat.le_trans hv4 (lb J)) J J J J J)
   replace h4:=Ql c56 h4
   refine Qm<|Qe ?_
   have e:=sI h4;subst e
   exact Jq (e:=.normal) (st':=⟨[],m14_h41 a1 x4 s1 a0 x50,[],11,28,[]⟩) hQn4 (sL (Nat.le_trans hv4 (lb J)) J J J J J)
  refine U2 (C:=fun q_=>ExecOK Try.prog (some 7) Yh ⟨[(3,.v (.one (.ptr 0 0))),(4,.v (.one (.ptr 1 0))),(5,.v (.one (.ptr 2 0))),(8,.v (.one (Jn x50.name))),(9,.v (.one (.ptr 10 0)))],m14_h39 a1 x4 s1 a0 x50 s3,[],11,28,[]⟩ ((Sum.elim (fun (_:Unit)=>(.normal:Exit)) (fun (_:Unit)=>(.ret:Exit))) q_) ((Sum.elim (fun (y51:Unit)=>(⟨[],m14_h41 a1 x4 s1 a0 x50,[],11,28,[]⟩:St)) (fun (y52:Unit)=>(⟨[],m14_h42 a1 s1 s3 x4 x50 a0,[],11,28,[]⟩:St))) q_)) hb55 h3 (fun y51 hb55 h3=>?_) (fun y52 hb55 h3=>?_)
  replace hb55:ExecOK Try.prog (some 7) Yh ⟨[(3,.v (.one (.ptr 0 0))),(4,.v (.one (.ptr 1 0))),(5,.v (.one (.ptr 2 0))),(8,.v (.one (Jn x50.name))),(9,.v (.one (.ptr 10 0)))],m14_h39 a1 x4 s1 a0 x50 s3,[],11,28,[]⟩ .normal ⟨[],m14_h41 a1 x4 s1 a0 x50,[],11,28,[]⟩:=hb55
  refine Q9 J J (lb J) (Je (jump:=none) J J J J J (Qw ha54 (fun E hv=>(sL (Nat.le_trans hv (lb J)) J J J J J))) J (Qw hb55 (fun E hv=>(sL (Nat.le_trans hv (lb J)) J J J J J))) J J) ?_
  refine rR J J J (Ji J)<|Q3<|Q4 ?_
  refine Qh J (fun h=>nomatch h) (fun _=>?_)
  refine Qm<|Qe<|Q4<|Q0<|rR J J J (Q7 J J J)<|rM J J J<|Q3 ?_
  have e:=sI h3;subst e
  refine QR (J9 (s3+1)) (sL (Nat.le_trans hv2 (lb J)) J J J J J) ho3
  replace hb55:ExecOK Try.prog (some 7) Yh ⟨[(3,.v (.one (.ptr 0 0))),(4,.v (.one (.ptr 1 0))),(5,.v (.one (.ptr 2 0))),(8,.v (.one (Jn x50.name))),(9,.v (.one (.ptr 10 0)))],m14_h39 a1 x4 s1 a0 x50 s3,[],11,28,[]⟩ .ret ⟨[],m14_h42 a1 s1 s3 x4 x50 a0,[],11,28,[]⟩:=hb55
  refine Q9 J J (lb J) (Je (jump:=(some .ret)) J J J J J (Qw ha54 (fun E hv=>(sL (Nat.le_trans hv (lb J)) J J J J J))) J (Qw hb55 (fun E hv=>(sL (Nat.le_trans hv (lb J)) J J J J J))) J J) ?_
  refine rR J J J (Ji J)<|Q3<|Q4 ?_
  refine Qh J (fun _=>?_) (fun h=>nomatch h)
  refine QD ?_
  have e:=sI h3;subst e
  have e_:_=_:=ho3
  subst e_
  try dsimp only [Sum.elim_inl,Sum.elim_inr] at h2
  have e:=sI h2;subst e
  exact hQ2 _ _ _ (.inr J) J (show StLe _ _ ⟨[],m14_h43 a1 s1 s3 x4 x50 a0,[],10,98,[]⟩ from (sL (Nat.le_trans hv2 (lb J)) J J J J J))
  replace h3:=Ql c49 h3
  refine J5<|Qo<|Qo ?_
  have e:=sI h3;subst e
  have e_:_=_:=ho3
  subst e_
  exact QW () (sL (Nat.le_trans hv2 (lb J)) J J J J J) h2
  intro o47 h2
  refine QM<|Qe ?_
  have e:=sI h2;subst e
  exact hQ2 _ _ _ (.inl J) J (show StLe _ _ ⟨[],Kv a1 x4 s1 a0,[],9,98,[]⟩ from (sL (Nat.le_trans hv2 (lb J)) J J J J J))
  replace h2:=Ql c46 h2
  refine Qm<|Qe ?_
  have e:=sI h2;subst e
  exact hQ2 _ _ _ (.inl J) J (show StLe _ _ ⟨[],Kv a1 x4 s1 a0,[],9,98,[]⟩ from (sL (Nat.le_trans hv2 (lb J)) J J J J J))
 refine U2 (C:=fun q_=>CallM Try.prog 49 [.one (.yld 7),.one (.ptr 5 0),.one (.ptr 4 0)] ⟨[(7,.loop .ready none [(3,.v (.one (.ptr 0 0))),(4,.v (.one (.ptr 1 0))),(5,.v (.one (.ptr 2 0))),(10,.v (.one (dS a0))),(11,.v (.one (dI (a0.length:Int)))),(12,.v (.one (dI s1))),(19,.v (.one (.fn 49 [(5,0),(4,0)])))] 28 #[20,21] Kw Yh 6),(6,.obj (.deferred (some []))),(0,.cells 9 [Jn a1]),(1,.cells 35 [dI 0,dI 0,dI 0,dI 0,dI 0,dI 0,Jn ([]:List UInt8),dN,dN]),(2,.cells 25 [dI 0]),(3,.cells 45 (cE x4)),(4,.cells 45 (cE x4)),(5,.cells 3 [dI s1])],[],8⟩ (QK []) ⟨(((Sum.elim (fun (y7:Unit)=>(⟨[],Kv a1 x4 s1 a0,[],9,98,[]⟩:St)) (fun (y8:Int×Int×Int×Int×Int×Bs×(List Lvl)×(List Tm))=>(⟨[],XH a1 y8 s1 x4 a0,[],10,98,[]⟩:St)))) q_).hp,(((Sum.elim (fun (y7:Unit)=>(⟨[],Kv a1 x4 s1 a0,[],9,98,[]⟩:St)) (fun (y8:Int×Int×Int×Int×Int×Bs×(List Lvl)×(List Tm))=>(⟨[],XH a1 y8 s1 x4 a0,[],10,98,[]⟩:St)))) q_).tk,(((Sum.elim (fun (y7:Unit)=>(⟨[],Kv a1 x4 s1 a0,[],9,98,[]⟩:St)) (fun (y8:Int×Int×Int×Int×Int×Bs×(List Lvl)×(List Tm))=>(⟨[],XH a1 y8 s1 x4 a0,[],10,98,[]⟩:St)))) q_).nx⟩) hc9 h1 (fun y7 hc9 h1=>?_) (fun y8 hc9 h1=>?_)
 replace hc9:CallM Try.prog 49 [.one (.yld 7),.one (.ptr 5 0),.one (.ptr 4 0)] ⟨[(7,.loop .ready none [(3,.v (.one (.ptr 0 0))),(4,.v (.one (.ptr 1 0))),(5,.v (.one (.ptr 2 0))),(10,.v (.one (dS a0))),(11,.v (.one (dI (a0.length:Int)))),(12,.v (.one (dI s1))),(19,.v (.one (.fn 49 [(5,0),(4,0)])))] 28 #[20,21] Kw Yh 6),(6,.obj (.deferred (some []))),(0,.cells 9 [Jn a1]),(1,.cells 35 [dI 0,dI 0,dI 0,dI 0,dI 0,dI 0,Jn ([]:List UInt8),dN,dN]),(2,.cells 25 [dI 0]),(3,.cells 45 (cE x4)),(4,.cells 45 (cE x4)),(5,.cells 3 [dI s1])],[],8⟩ (QK []) ⟨Kv a1 x4 s1 a0,[],9⟩:=hc9
 refine ZU (Y1 (e:=.normal) rfl hc9 rfl rfl (by intro h;cases h) rfl) rfl ?_
 refine Qe<|Qe<|Q4<|Q0<|rR J J J (Q7 J J J)<|rM J J J<|Q3 ?_
 have e:=sI h1;subst e
 refine QR (J9 (s1+1)) (sL (Nat.zero_le _) J J J J J) ho1
 replace hc9:CallM Try.prog 49 [.one (.yld 7),.one (.ptr 5 0),.one (.ptr 4 0)] ⟨[(7,.loop .ready none [(3,.v (.one (.ptr 0 0))),(4,.v (.one (.ptr 1 0))),(5,.v (.one (.ptr 2 0))),(10,.v (.one (dS a0))),(11,.v (.one (dI (a0.length:Int)))),(12,.v (.one (dI s1))),(19,.v (.one (.fn 49 [(5,0),(4,0)])))] 28 #[20,21] Kw Yh 6),(6,.obj (.deferred (some []))),(0,.cells 9 [Jn a1]),(1,.cells 35 [dI 0,dI 0,dI 0,dI 0,dI 0,dI 0,Jn ([]:List UInt8),dN,dN]),(2,.cells 25 [dI 0]),(3,.cells 45 (cE x4)),(4,.cells 45 (cE x4)),(5,.cells 3 [dI s1])],[],8⟩ (QK []) ⟨XH a1 y8 s1 x4 a0,[],10⟩:=hc9
 refine ZU (Y1 (e:=.ret) rfl hc9 rfl rfl (by intro h;cases h) rfl) rfl ?_
 have e:=sI h1;subst e
 have e_:_=_:=ho1
 subst e_
 try dsimp only [Sum.elim_inl,Sum.elim_inr] at h0
 have e:=sI h0;subst e
 exact QL (fun _ _ h=>h) J (Z6 Jm J J J J (Gi K3 J J J .nil)) (.cons (.agg (.cons (.d _) (.cons (.d _) (.cons (.d _) (.cons (.d _) (.cons (.d _) (.cons (.d _) (.cons (.d _) (.cons (.d _) (.cons (.d _) .nil)))))))))) (.cons (.one (.d _)) .nil))
 replace h1:=Ql c3 h1
 refine J5<|Qo<|Qo ?_
 have e:=sI h1;subst e
 have e_:_=_:=ho1
 subst e_
 exact QW () (sL (Nat.zero_le _) J J J J J) h0
 intro o1 h0
 refine QM<|Q4<|Q5<|Q0<|rR J J J (X3 Kn J )<|Qx J J (Qt Jm J J J J (lb J) J)<|Qx J J (Qt K3 J J J J (lb J) J)<|Q3<|Q4<|QD ?_
 have e:=sI h0;subst e
 exact QL (fun _ _ h=>h) J (Z6 Jm J J J J (Gi K3 J J J .nil)) (.cons (.agg (.cons (.d _) (.cons (.d _) (.cons (.d _) (.cons (.d _) (.cons (.d _) (.cons (.d _) (.cons (.d _) (.cons (.nil _) (.cons (.nil _) .nil)))))))))) (.cons (.one (.d _)) .nil))
def m16 (a0:List Dcl) (a1:Bs):Option (Dcl×Int×Bool) :=
 Option.bind (m14 a0 a1) fun (x1:Ent×Int) =>
 cond (x1.2 != 0)
   (some ((⟨0,([]:List UInt8),0,(Tm.mk 0 0 ([]:List UInt8) ([]:List Lvl) ([]:List Tm)),(Tm.mk 0 0 ([]:List UInt8) ([]:List Lvl) ([]:List Tm)),0,([]:List Ctr),(⟨0,(Tm.mk 0 0 ([]:List UInt8) ([]:List Lvl) ([]:List Tm)),([]:List Tm)⟩:Rcr),([]:List Fn)⟩:Dcl),0,false))
   (cond (x1.1.kind==3)
   (Option.bind (JC a0 x1.1.decl) fun (x4:Dcl) =>
 some (x4,(-1),true))
   (cond (x1.1.kind==4)
   (Option.bind (JC a0 x1.1.decl) fun (x6:Dcl) =>
 some (x6,x1.1.item,true))
   (cond (x1.1.kind==5)
   (Option.bind (JC a0 x1.1.decl) fun (x8:Dcl) =>
 some (x8,(-2),true))
   (some ((⟨0,([]:List UInt8),0,(Tm.mk 0 0 ([]:List UInt8) ([]:List Lvl) ([]:List Tm)),(Tm.mk 0 0 ([]:List UInt8) ([]:List Lvl) ([]:List Tm)),0,([]:List Ctr),(⟨0,(Tm.mk 0 0 ([]:List UInt8) ([]:List Lvl) ([]:List Tm)),([]:List Tm)⟩:Rcr),([]:List Fn)⟩:Dcl),0,false)))))
theorem m16_ok (a0:List Dcl) (a1:Bs) (r:Dcl×Int×Bool) (h0:m16 a0 a1=some r):Fun Try.prog 16 [.one (dS a0),.one (Jn a1)] (QK [.agg (cE r.1),.one (dI r.2.1),.one (dB r.2.2)]):=by
 unfold m16 at h0
 refine QZ 9 44 Try.func16 J en_16 J (lb J) (fun S w=>?_)
 simp only [Ja]
 refine Q5<|Q0<|Q9 J J (lb J) (Qj UW J)<|rA J J J<|rA J J J<|Q3<|Q4<|Q5<|Q0<|rM J J J<|rM J J J ?_
 refine Qb h0 (fun x1 hx1 h0=>?_)
 refine Q9 J J (lb J) (Qq (m14_ok a0 a1 x1 hx1) J (.cons (.one (.d _)) (.cons (.one (.d _)) .nil)))<|rM J J J<|rR J J J (J8 J J)<|rR J J J (J8 J J)<|Q9 J J (lb J) (Qj Zl J)<|Qx J J (Qz (x1.1:Ent) Jm J J J J J)<|rA J J J<|Q3<|Q4<|Q5<|Q5<|Q0<|rM J J J<|rR J J J (Q7 J J J) ?_
 refine Q3<|Q4 ?_
 refine Qh (b:=(x1.2 != 0)) J (fun c2=>?_) (fun c2=>?_)
 replace h0:=Qk c2 h0
 refine Q5<|Q0<|rR J J J (X3 bd_45 J )<|Qx J J (Yw JX J J J J J J)<|rA J J J<|rA J J J<|Q3<|Q4<|QD ?_
 have e:=sI h0;subst e
 exact QL (fun _ _ h=>h) J (Z6 JX J J J J (QC J (QC J .nil))) (.cons (.agg (.cons (.d _) (.cons (.d _) (.cons (.d _) (.cons (.d _) (.cons (.d _) (.cons (.d _) (.cons (.nil _) (.cons (.nil _) (.cons (.d _) (.cons (.d _) (.cons (.d _) (.cons (.nil _) (.cons (.nil _) (.cons (.d _) (.cons (.nil _) (.cons (.d _) (.cons (.d _) (.cons (.d _) (.cons (.d _) (.cons (.nil _) (.cons (.nil _) (.cons (.nil _) (.cons (.nil _) .nil)))))))))))))))))))))))) (.cons (.one (.d _)) (.cons (.one (.d _)) .nil)))
 replace h0:=Ql c2 h0
 refine Qm<|Q4<|Q5<|Q5<|Q0<|rR J J J (Q2 ZR J)<|rR J J J (Q6 QU J J J)<|Q3<|Q4<|Qf<|Q5<|Q0<|rR J J J (Q7 J J J)<|rA J J J ?_
 refine Q3<|Q4 ?_
 refine Qh (b:=(x1.1.kind==3)) J (fun c3=>?_) (fun c3=>?_)
 replace h0:=Qk c3 h0
 refine Q5<|Q0<|rM J J J<|rR J J J (Q2 Xd J)<|rR J J J (Q6 QU J J J) ?_
 refine Qb h0 (fun x4 hx4 h0=>?_)
 refine rR J J J (Qy (α:=Dcl) Zi J (.d _) J hx4)<|rR J J J (Qv (x4:Dcl) JX J)<|Qx J J (Qz (x4:Dcl) JX J J J J J)<|rA J J J<|rA J J J<|Q3<|Q4<|QD ?_
 have e:=sI h0;subst e
 exact QL (fun _ _ h=>h) J (Z6 JX J J J J (QC J (QC J .nil))) (.cons (.agg (.cons (.d _) (.cons (.d _) (.cons (.d _) (.cons (.d _) (.cons (.d _) (.cons (.d _) (.cons (.d _) (.cons (.d _) (.cons (.d _) (.cons (.d _) (.cons (.d _) (.cons (.d _) (.cons (.d _) (.cons (.d _) (.cons (.d _) (.cons (.d _) (.cons (.d _) (.cons (.d _) (.cons (.d _) (.cons (.d _) (.cons (.d _) (.cons (.d _) (.cons (.d _) .nil)))))))))))))))))))))))) (.cons (.one (.d _)) (.cons (.one (.d _)) .nil)))
 replace h0:=Ql c3 h0
 refine Q5<|Q0<|rR J J J (Q7 J J J)<|rA J J J<|Q3<|Q4 ?_
 refine Qh (b:=(x1.1.kind==4)) J (fun c5=>?_) (fun c5=>?_)
 replace h0:=Qk c5 h0
 refine Q5 ?_
 refine Jv [7] [(5,1),(6,1)] YQ (by kernel_rfl) (by kernel_rfl) (by kernel_rfl) ?_
 refine RunA.rd J J J (Q1 (Qr J)) J<|RunA.rd J J J (Q1 (Q2 Xd J)) J<|RunA.rd J J J (Q1 (Q6 QU J J J)) J ?_
 refine Qb h0 (fun x6 hx6 h0=>?_)
 refine RunA.rd J J J (Q1 (Qy (α:=Dcl) Zi J (.d _) J hx6)) J<|RunA.rd J J J (Q1 (Qv (x6:Dcl) JX J)) J<|RunA.rd J J J (Q1 (Q2 fo_35_2 J)) J<|RunA.rd J J J (Q1 (Q6 QU J J J)) J<|RunA.eff J J J (Qz (x6:Dcl) JX J J J J J) J<|RunA.rd J J J (Q1 (JH J)) J<|RunA.rd J J J (Q1 (JH J)) J ?_
 refine RunA.nil ⟨?ex,_,_,J,?_⟩
 case ex=>exact ⟨⟨_,rfl,_,_,rfl,rfl,rfl,.inl ⟨rfl,_,Q1 (Q2 fo_35_2 rfl),rfl⟩⟩,⟨_,rfl,_,_,rfl,rfl,rfl,.inl ⟨rfl,_,Q1 (Q6 QU rfl rfl rfl),rfl⟩⟩,trivial⟩
 refine JW (st':=⟨[(4,.v (.one (.ptr 0 0))),(5,.v (.one (dI x1.1.item))),(6,.v (.one (dB true)))],[(0,.cells 45 (cE x6)),(1,.cells 35 (cE x1.1))],[],2,44,[]⟩) (sL (Nat.zero_le _) J J J J J)<|Q4<|QD ?_
 have e:=sI h0;subst e
 exact QL (fun _ _ h=>h) J (Z6 JX J J J J (QC J (QC J .nil))) (.cons (.agg (.cons (.d _) (.cons (.d _) (.cons (.d _) (.cons (.d _) (.cons (.d _) (.cons (.d _) (.cons (.d _) (.cons (.d _) (.cons (.d _) (.cons (.d _) (.cons (.d _) (.cons (.d _) (.cons (.d _) (.cons (.d _) (.cons (.d _) (.cons (.d _) (.cons (.d _) (.cons (.d _) (.cons (.d _) (.cons (.d _) (.cons (.d _) (.cons (.d _) (.cons (.d _) .nil)))))))))))))))))))))))) (.cons (.one (.d _)) (.cons (.one (.d _)) .nil)))
 replace h0:=Ql c5 h0
 refine Q5<|Q0<|rR J J J (Q7 J J J)<|rA J J J<|Q3<|Q4 ?_
 refine Qh (b:=(x1.1.kind==5)) J (fun c7=>?_) (fun c7=>?_)
 replace h0:=Qk c7 h0
 refine Q5<|Q0<|rM J J J<|rR J J J (Q2 Xd J)<|rR J J J (Q6 QU J J J) ?_
 refine Qb h0 (fun x8 hx8 h0=>?_)
 refine rR J J J (Qy (α:=Dcl) Zi J (.d _) J hx8)<|rR J J J (Qv (x8:Dcl) JX J)<|Qx J J (Qz (x8:Dcl) JX J J J J J)<|rA J J J<|rA J J J<|Q3<|Q4<|QD ?_
 have e:=sI h0;subst e
 exact QL (fun _ _ h=>h) J (Z6 JX J J J J (QC J (QC J .nil))) (.cons (.agg (.cons (.d _) (.cons (.d _) (.cons (.d _) (.cons (.d _) (.cons (.d _) (.cons (.d _) (.cons (.d _) (.cons (.d _) (.cons (.d _) (.cons (.d _) (.cons (.d _) (.cons (.d _) (.cons (.d _) (.cons (.d _) (.cons (.d _) (.cons (.d _) (.cons (.d _) (.cons (.d _) (.cons (.d _) (.cons (.d _) (.cons (.d _) (.cons (.d _) (.cons (.d _) .nil)))))))))))))))))))))))) (.cons (.one (.d _)) (.cons (.one (.d _)) .nil)))
 replace h0:=Ql c7 h0
 refine Qm<|Qe<|Q4<|Q5<|Q0<|rR J J J (X3 bd_45 J )<|Qx J J (Yw JX J J J J J J)<|rA J J J<|rA J J J<|Q3<|Q4<|QD ?_
 have e:=sI h0;subst e
 exact QL (fun _ _ h=>h) J (Z6 JX J J J J (QC J (QC J .nil))) (.cons (.agg (.cons (.d _) (.cons (.d _) (.cons (.d _) (.cons (.d _) (.cons (.d _) (.cons (.d _) (.cons (.nil _) (.cons (.nil _) (.cons (.d _) (.cons (.d _) (.cons (.d _) (.cons (.nil _) (.cons (.nil _) (.cons (.d _) (.cons (.nil _) (.cons (.d _) (.cons (.d _) (.cons (.d _) (.cons (.d _) (.cons (.nil _) (.cons (.nil _) (.cons (.nil _) (.cons (.nil _) .nil)))))))))))))))))))))))) (.cons (.one (.d _)) (.cons (.one (.d _)) .nil)))
end Go.Proofs.Ytafddfoefeploaa
namespace Go.Proofs.Ytafddfoefeploaa
open Go.RowKit Go.Shelf
theorem Zh:J1 Try.prog 33 1=some 1:=by kernel_rfl
theorem Zu:J1 Try.prog 33 3=some 3:=by kernel_rfl
theorem fo_35_3:J1 Try.prog 35 3=some 3:=by kernel_rfl
theorem fo_35_4:J1 Try.prog 35 4=some 4:=by kernel_rfl
theorem fo_74_2:J1 Try.prog 74 2=some 6:=by kernel_rfl
theorem fo_76_2:J1 Try.prog 76 2=some 6:=by kernel_rfl
theorem Gr:J1 Try.prog 87 0=some 0:=by kernel_rfl
theorem Zt:J1 Try.prog 87 1=some 1:=by kernel_rfl
theorem Xi:Jw Try.prog 30=some (false,1):=by kernel_rfl
theorem Xh:Jw Try.prog 85=some (false,1):=by kernel_rfl
theorem Ky:Jw Try.prog 87=some (true,2):=by kernel_rfl
theorem Gh:Jw Try.prog 124=some (true,2):=by kernel_rfl
theorem Zm:Jp Try.prog 30=some (87,2):=by kernel_rfl
theorem ZJ:Jp Try.prog 85=some (124,2):=by kernel_rfl
theorem ip_124:XO Try.prog 124=true:=by kernel_rfl
theorem en_22:J4 Try.prog 22:=enters_of Try.func22 (by kernel_rfl) rfl
theorem en_27:J4 Try.prog 27:=enters_of Try.func27 (by kernel_rfl) rfl
theorem en_42:J4 Try.prog 42:=enters_of Try.func42 (by kernel_rfl) rfl
theorem en_61:J4 Try.prog 61:=enters_of Try.func61 (by kernel_rfl) rfl
def m61_l0 (a0:Lvl) (a1:Lvl) (s1:Int):Option (LO Int (Unit⊕Bool)) :=
 cond (decide (s1 < (a0.vs.length:Int)))
   (Option.bind (JC a0.vs s1) fun (x5:LV) =>
 Option.bind (JC a1.vs s1) fun (x6:LV) =>
 cond (!((x5.1==x6.1)&&(x5.2==x6.2)))
   (some (.done (.inr false)))
   (some (.next (J9 (s1+1)))))
   (some (.done (.inl ())))
def m61 (a0:Lvl) (a1:Lvl):Option Bool :=
 Option.bind (cond (a0.c != a1.c)
   (some true)
   (some ((a0.vs.length:Int) != (a1.vs.length:Int)))) (fun (v1:Bool)=>cond v1
   (some false)
   (Option.bind (Qp (m61_l0 a0 a1) QF 0) (Sum.elim (fun (o3:Unit)=>some true) (fun o=>some o))))
theorem m61_ok (a0:Lvl) (a1:Lvl) (r:Bool) (h0:m61 a0 a1=some r):Fun Try.prog 61 [.agg (cE a0),.agg (cE a1)] (QK [.one (dB r)]):=by
 unfold m61 at h0
 refine QZ 9 38 Try.func61 J en_61 J (lb J) (fun S w=>?_)
 simp only [Ja]
 refine Q5<|Q0<|Q9 J J (lb J) (QT J)<|Q9 J J (lb J) (QT J)<|rA J J J<|Q3<|Q4<|Q5<|Q5 ?_
 refine QS (fun (v1:Bool)=>⟨[(2,.v (.one (.ptr 0 0))),(3,.v (.one (.ptr 1 0))),(19,.v (.one (dB v1)))],[(0,.cells 87 (cE a0)),(1,.cells 87 (cE a1))],[],2,38,[]⟩) (fun (v1:Bool)=>(cond v1
     (some false)
     (Option.bind (Qp (m61_l0 a0 a1) QF 0) (Sum.elim (fun (o3:Unit)=>some true) (fun o=>some o))))=some r) ?_ ?_
 refine Qb h0 (fun w1_ h1 h0=>?_)
 refine Q0<|rR J J J (Q2 Gr J)<|rR J J J (Q6 QU J J J)<|rR J J J (Q2 Gr J)<|rR J J J (Q6 QU J J J)<|rR J J J (Q7 J J J)<|rM J J J ?_
 refine QG (d:=11) (c:=(a0.c != a1.c)) J (fun c2=>?_) (fun c2=>?_)
 replace h1:=Qk c2 h1
 refine Q8 J J<|Q8 J J<|Q8 J J<|Q8 J J<|Q8 J J<|Q8 J J<|Q8 J J<|rR J J J (Qg J J)<|Q3 ?_
 have e:=sI h1;subst e
 exact Qd true (sL (Nat.zero_le _) J J J J J) h0
 replace h1:=Ql c2 h1
 refine rR J J J (Q2 Zt J)<|rR J J J (Q6 Xh J J J)<|rR J J J (QA (α:=LV) ZJ J (.d _))<|rR J J J (Q2 Zt J)<|rR J J J (Q6 Xh J J J)<|rR J J J (QA (α:=LV) ZJ J (.d _))<|rR J J J (Q7 J J J)<|rR J J J (Qc J J)<|Q3 ?_
 have e:=sI h1;subst e
 exact Qd ((a0.vs.length:Int) != (a1.vs.length:Int)) (sL (Nat.zero_le _) J J J J J) h0
 intro v1 h0
 refine Q4 ?_
 refine Qh (b:=v1) J (fun c3=>?_) (fun c3=>?_)
 replace h0:=Qk c3 h0
 refine Q5<|Q0<|rA J J J<|Q3<|Q4<|QD ?_
 have e:=sI h0;subst e
 exact QL (fun _ _ h=>h) J (QC J .nil) (.cons (.one (.d _)) .nil)
 replace h0:=Ql c3 h0
 refine Qm<|Q4<|Q5<|Q5<|Q0<|rA J J J<|Q3<|Q4<|Qf ?_
 refine QY 0 (fun (o4:Unit)=>⟨[],[(0,.cells 87 (cE a0)),(1,.cells 87 (cE a1))],[],2,38,[]⟩) (fun (o4:Unit)=>(some true)=some r) ?_ ?_
 refine Qb h0 (fun o5 hl1 h0=>?_)
 refine QX (m61_l0 a0 a1) (fun s1=>⟨[(2,.v (.one (.ptr 0 0))),(3,.v (.one (.ptr 1 0))),(5,.v (.one (dI s1)))],[(0,.cells 87 (cE a0)),(1,.cells 87 (cE a1))],[],2,38,[]⟩) 0 o5 (sL (Nat.zero_le _) J J J J J) hl1 (fun s1 n1 oo1 h1 ho1=>?_)
 unfold m61_l0 at h1
 refine Q5<|Q5<|Q0<|rM J J J<|rR J J J (Q2 Zt J)<|rR J J J (Q6 Xh J J J)<|rR J J J (QA (α:=LV) ZJ J (.d _))<|rR J J J (Q7 J J J)<|Q3<|Q4 ?_
 refine Qh (b:=(decide (s1 < (a0.vs.length:Int)))) J (fun c6=>?_) (fun c6=>?_)
 replace h1:=Qk c6 h1
 refine Qm<|Q4<|Q5<|Qf<|Q5 ?_
 refine Jv [] [] YQ (by kernel_rfl) (by kernel_rfl) (by kernel_rfl) ?_
 refine RunA.rd J J J (Q1 (Q2 Zt J)) J<|RunA.rd J J J (Q1 (Q6 Xh J J J)) J<|RunA.rd J J J (Q1 (Qr J)) J ?_
 refine Qb h1 (fun x7 hx7 h1=>?_)
 refine RunA.rd J J J (Q1 (Qy (α:=LV) ZJ J (.d _) J hx7)) J<|RunA.rd J J J (Q1 (Qv (x7:LV) Gh J)) J<|RunA.rd J J J (Q1 (Q2 Zt J)) J<|RunA.rd J J J (Q1 (Q6 Xh J J J)) J<|RunA.rd J J J (Q1 (Qr J)) J ?_
 refine Qb h1 (fun x8 hx8 h1=>?_)
 refine RunA.rd J J J (Q1 (Qy (α:=LV) ZJ J (.d _) J hx8)) J<|RunA.rd J J J (Q1 (Qv (x8:LV) Gh J)) J<|RunA.rd J J J (Q1 (RO.neqPair ip_124 J J)) J ?_
 refine RunA.nil ⟨?ex,_,_,J,?_⟩
 case ex=>exact trivial
 refine JW (st':=⟨[(2,.v (.one (.ptr 0 0))),(3,.v (.one (.ptr 1 0))),(5,.v (.one (dI s1))),(37,.v (.one (dB (!((x7.1==x8.1)&&(x7.2==x8.2))))))],[(0,.cells 87 (cE a0)),(1,.cells 87 (cE a1))],[],2,38,[]⟩) (sL (Nat.zero_le _) J J J J J)<|Q4 ?_
 refine Qh (b:=(!((x7.1==x8.1)&&(x7.2==x8.2)))) J (fun c9=>?_) (fun c9=>?_)
 replace h1:=Qk c9 h1
 refine Q5<|Q0<|rA J J J<|Q3<|Q4<|QD ?_
 have e:=sI h1;subst e
 have e_:_=_:=ho1
 subst e_
 try dsimp only [Sum.elim_inl,Sum.elim_inr] at h0
 have e:=sI h0;subst e
 exact QL (fun _ _ h=>h) J (QC J .nil) (.cons (.one (.d _)) .nil)
 replace h1:=Ql c9 h1
 refine Qm<|Qe<|Q4<|Q0<|rM J J J<|rR J J J (Q7 J J J)<|rA J J J<|Q3 ?_
 have e:=sI h1;subst e
 refine QR (J9 (s1+1)) (sL (Nat.zero_le _) J J J J J) ho1
 replace h1:=Ql c6 h1
 refine J5<|Qo<|Qo ?_
 have e:=sI h1;subst e
 have e_:_=_:=ho1
 subst e_
 exact QW () (sL (Nat.zero_le _) J J J J J) h0
 intro o4 h0
 refine QM<|Q4<|Q5<|Q0<|rA J J J<|Q3<|Q4<|QD ?_
 have e:=sI h0;subst e
 exact QL (fun _ _ h=>h) J (QC J .nil) (.cons (.one (.d _)) .nil)
def m42_l0 (a0:List Lvl) (a1:List Lvl) (s1:Int):Option (LO Int (Unit⊕Bool)) :=
 cond (decide (s1 < (a0.length:Int)))
   (Option.bind (JC a0 s1) fun (x4:Lvl) =>
 Option.bind (JC a1 s1) fun (x5:Lvl) =>
 Option.bind (m61 x4 x5) fun (x6:Bool) =>
 cond (!x6)
   (some (.done (.inr false)))
   (some (.next (J9 (s1+1)))))
   (some (.done (.inl ())))
def m42 (a0:List Lvl) (a1:List Lvl):Option Bool :=
 cond ((a0.length:Int) != (a1.length:Int))
   (some false)
   (Option.bind (Qp (m42_l0 a0 a1) QF 0) (Sum.elim (fun (o2:Unit)=>some true) (fun o=>some o)))
theorem m42_ok (a0:List Lvl) (a1:List Lvl) (r:Bool) (h0:m42 a0 a1=some r):Fun Try.prog 42 [.one (dS a0),.one (dS a1)] (QK [.one (dB r)]):=by
 unfold m42 at h0
 refine QZ 9 27 Try.func42 J en_42 J (lb J) (fun S w=>?_)
 simp only [Ja]
 refine Q5<|Q0<|rA J J J<|Q3<|Q4<|Q5<|Q5<|Q0<|rM J J J<|rR J J J (QA (α:=Lvl) Zm J (.d _))<|rM J J J<|rR J J J (QA (α:=Lvl) Zm J (.d _))<|rR J J J (Q7 J J J)<|Q3 ?_
 refine Q4 ?_
 refine Qh (b:=((a0.length:Int) != (a1.length:Int))) J (fun c1=>?_) (fun c1=>?_)
 replace h0:=Qk c1 h0
 refine Q5<|Q0<|rA J J J<|Q3<|Q4<|QD ?_
 have e:=sI h0;subst e
 exact QL (fun _ _ h=>h) J (QC J .nil) (.cons (.one (.d _)) .nil)
 replace h0:=Ql c1 h0
 refine Qm<|Q4<|Q5<|Q5<|Q0<|rA J J J<|Q3<|Q4<|Qf ?_
 refine QY 0 (fun (o2:Unit)=>⟨[],[],[],0,27,[]⟩) (fun (o2:Unit)=>(some true)=some r) ?_ ?_
 refine Qb h0 (fun o3 hl1 h0=>?_)
 refine QX (m42_l0 a0 a1) (fun s1=>⟨[(0,.v (.one (dS a0))),(1,.v (.one (dS a1))),(5,.v (.one (dI s1)))],[],[],0,27,[]⟩) 0 o3 (sL (Nat.zero_le _) J J J J J) hl1 (fun s1 n1 oo1 h1 ho1=>?_)
 unfold m42_l0 at h1
 refine Q5<|Q5<|Q0<|rM J J J<|rM J J J<|rR J J J (QA (α:=Lvl) Zm J (.d _))<|rR J J J (Q7 J J J)<|Q3<|Q4 ?_
 refine Qh (b:=(decide (s1 < (a0.length:Int)))) J (fun c4=>?_) (fun c4=>?_)
 replace h1:=Qk c4 h1
 refine Qm<|Q4<|Q5<|Qf<|Q5 ?_
 refine Jv [] [] YQ (by kernel_rfl) (by kernel_rfl) (by kernel_rfl) ?_
 refine RunA.rd J J J (Q1 (Qr J)) J<|RunA.rd J J J (Q1 (Qr J)) J ?_
 refine Qb h1 (fun x5 hx5 h1=>?_)
 refine RunA.rd J J J (Q1 (Qy (α:=Lvl) Zm J (.d _) J hx5)) J<|RunA.rd J J J (Q1 (Qv (x5:Lvl) Ky J)) J<|RunA.rd J J J (Q1 (Qr J)) J<|RunA.rd J J J (Q1 (Qr J)) J ?_
 refine Qb h1 (fun x6 hx6 h1=>?_)
 refine RunA.rd J J J (Q1 (Qy (α:=Lvl) Zm J (.d _) J hx6)) J<|RunA.rd J J J (Q1 (Qv (x6:Lvl) Ky J)) J ?_
 refine Qb h1 (fun x7 hx7 h1=>?_)
 refine RunA.rd J J J (Qq (m61_ok x5 x6 x7 hx7) J (.cons (.agg (.cons (.d _) (.cons (.d _) .nil))) (.cons (.agg (.cons (.d _) (.cons (.d _) .nil))) .nil))) J<|RunA.rd J J J (Q1 (Ji J)) J ?_
 refine RunA.nil ⟨?ex,_,_,J,?_⟩
 case ex=>exact trivial
 refine JW (st':=⟨[(0,.v (.one (dS a0))),(1,.v (.one (dS a1))),(5,.v (.one (dI s1))),(26,.v (.one (dB (!x7))))],[],[],0,27,[]⟩) (sL (Nat.zero_le _) J J J J J)<|Q4 ?_
 refine Qh (b:=(!x7)) J (fun c8=>?_) (fun c8=>?_)
 replace h1:=Qk c8 h1
 refine Q5<|Q0<|rA J J J<|Q3<|Q4<|QD ?_
 have e:=sI h1;subst e
 have e_:_=_:=ho1
 subst e_
 try dsimp only [Sum.elim_inl,Sum.elim_inr] at h0
 have e:=sI h0;subst e
 exact QL (fun _ _ h=>h) J (QC J .nil) (.cons (.one (.d _)) .nil)
 replace h1:=Ql c8 h1
 refine Qm<|Qe<|Q4<|Q0<|rM J J J<|rR J J J (Q7 J J J)<|rA J J J<|Q3 ?_
 have e:=sI h1;subst e
 refine QR (J9 (s1+1)) (sL (Nat.zero_le _) J J J J J) ho1
 replace h1:=Ql c4 h1
 refine J5<|Qo<|Qo ?_
 have e:=sI h1;subst e
 have e_:_=_:=ho1
 subst e_
 exact QW () (sL (Nat.zero_le _) J J J J J) h0
 intro o2 h0
 refine QM<|Q4<|Q5<|Q0<|rA J J J<|Q3<|Q4<|QD ?_
 have e:=sI h0;subst e
 exact QL (fun _ _ h=>h) J (QC J .nil) (.cons (.one (.d _)) .nil)
def Wt (a0:Tm) (a1:Tm) (rc:Tm×Tm→Option Bool) (s1:Int):Option (LO Int (Unit⊕Bool)) :=
 cond (decide (s1 < (a0.kids.length:Int)))
   (Option.bind (JC a0.kids s1) fun (x5:Tm) =>
 Option.bind (JC a1.kids s1) fun (x6:Tm) =>
 Option.bind (rc (x5,x6)) fun (x7:Bool) =>
 cond (!x7)
   (some (.done (.inr false)))
   (some (.next (J9 (s1+1)))))
   (some (.done (.inl ())))
def DM (rc:Tm×Tm→Option Bool) (a0:Tm) (a1:Tm):Option Bool :=
 Option.bind (cond (a0.kind != a1.kind)
   (some true)
   (cond (a0.index != a1.index)
   (some true)
   (cond (!(a0.name==a1.name))
   (some true)
   (Option.bind (m42 a0.levels a1.levels) fun (x5:Bool) =>
 cond (!x5)
   (some true)
   (some ((a0.kids.length:Int) != (a1.kids.length:Int))))))) (fun (v1:Bool)=>cond v1
   (some false)
   (Option.bind (Qp (Wt a0 a1 rc) QF 0) (Sum.elim (fun (o3:Unit)=>some true) (fun o=>some o))))
def m27F (rc:Tm×Tm→Option Bool) (u:Tm×Tm):Option Bool:=DM rc u.1 u.2
def m27 (a0:Tm) (a1:Tm):Option Bool:=Jr m27F QF (a0,a1)
theorem m27s_ok (rc:Tm×Tm→Option Bool) (H:∀ (a0:Tm) (a1:Tm) (r:Bool),rc (a0,a1)=some r→Fun Try.prog 27 [.agg (cE a0),.agg (cE a1)] (QK [.one (dB r)])) (a0:Tm) (a1:Tm) (r:Bool) (h0:DM rc a0 a1=some r):Fun Try.prog 27 [.agg (cE a0),.agg (cE a1)] (QK [.one (dB r)]):=by
 unfold DM at h0
 refine QZ 9 61 Try.func27 J en_27 J (lb J) (fun S w=>?_)
 simp only [Ja]
 refine Q5<|Q0<|Q9 J J (lb J) (QT J)<|Q9 J J (lb J) (QT J)<|rA J J J<|Q3<|Q4<|Q5<|Q5 ?_
 refine QS (fun (v1:Bool)=>⟨[(2,.v (.one (.ptr 0 0))),(3,.v (.one (.ptr 1 0))),(41,.v (.one (dB v1)))],[(0,.cells 33 (cE a0)),(1,.cells 33 (cE a1))],[],2,61,[]⟩) (fun (v1:Bool)=>(cond v1
     (some false)
     (Option.bind (Qp (Wt a0 a1 rc) QF 0) (Sum.elim (fun (o3:Unit)=>some true) (fun o=>some o))))=some r) ?_ ?_
 refine Qb h0 (fun w1_ h1 h0=>?_)
 refine Q0<|rR J J J (Q2 Yb J)<|rR J J J (Q6 QU J J J)<|rR J J J (Q2 Yb J)<|rR J J J (Q6 QU J J J)<|rR J J J (Q7 J J J)<|rM J J J ?_
 refine QG (d:=11) (c:=(a0.kind != a1.kind)) J (fun c2=>?_) (fun c2=>?_)
 replace h1:=Qk c2 h1
 refine Q8 J J<|Q8 J J<|Q8 J J<|Q8 J J<|Q8 J J<|rR J J J (Qg J J)<|rM J J J<|Q8 J J<|Q8 J J<|Q8 J J<|Q8 J J<|Q8 J J<|rR J J J (Qg J J)<|rM J J J ?_
 refine Q8 J J<|Q8 J J<|Q8 J J<|Q8 J J<|Q8 J J<|Q8 J J<|rR J J J (Qg J J)<|rM J J J<|Q8 J J<|Q8 J J<|Q8 J J<|Q8 J J<|Q8 J J<|Q8 J J ?_
 refine Q8 J J<|rR J J J (Qg J J)<|Q3 ?_
 have e:=sI h1;subst e
 exact Qd true (sL (Nat.zero_le _) J J J J J) h0
 replace h1:=Ql c2 h1
 refine rR J J J (Q2 Zh J)<|rR J J J (Q6 QU J J J)<|rR J J J (Q2 Zh J)<|rR J J J (Q6 QU J J J)<|rR J J J (Q7 J J J)<|rR J J J (Qc J J)<|rM J J J ?_
 refine QG (d:=18) (c:=(a0.index != a1.index)) J (fun c3=>?_) (fun c3=>?_)
 replace h1:=Qk c3 h1
 refine Q8 J J<|Q8 J J<|Q8 J J<|Q8 J J<|Q8 J J<|rR J J J (Qg J J)<|rM J J J<|Q8 J J<|Q8 J J<|Q8 J J<|Q8 J J<|Q8 J J<|Q8 J J<|rR J J J (Qg J J) ?_
 refine rM J J J<|Q8 J J<|Q8 J J<|Q8 J J<|Q8 J J<|Q8 J J<|Q8 J J<|Q8 J J<|rR J J J (Qg J J)<|Q3 ?_
 have e:=sI h1;subst e
 exact Qd true (sL (Nat.zero_le _) J J J J J) h0
 replace h1:=Ql c3 h1
 refine rR J J J (Q2 Zg J)<|rR J J J (Q6 JV J J J)<|rR J J J (Q2 Zg J)<|rR J J J (Q6 JV J J J)<|rR J J J (RO.neS J J)<|rR J J J (Qc J J)<|rM J J J ?_
 refine QG (d:=25) (c:=(!(a0.name==a1.name))) J (fun c4=>?_) (fun c4=>?_)
 replace h1:=Qk c4 h1
 refine Q8 J J<|Q8 J J<|Q8 J J<|Q8 J J<|Q8 J J<|Q8 J J<|rR J J J (Qg J J)<|rM J J J<|Q8 J J<|Q8 J J<|Q8 J J<|Q8 J J<|Q8 J J<|Q8 J J ?_
 refine Q8 J J<|rR J J J (Qg J J)<|Q3 ?_
 have e:=sI h1;subst e
 exact Qd true (sL (Nat.zero_le _) J J J J J) h0
 replace h1:=Ql c4 h1
 refine rR J J J (Q2 Zu J)<|rR J J J (Q6 Xi J J J)<|rR J J J (Q2 Zu J)<|rR J J J (Q6 Xi J J J) ?_
 refine Qb h1 (fun x5 hx5 h1=>?_)
 refine Q9 J J (lb J) (Qq (m42_ok a0.levels a1.levels x5 hx5) J (.cons (.one (.d _)) (.cons (.one (.d _)) .nil)))<|rR J J J (Ji J)<|rR J J J (Qc J J)<|rM J J J ?_
 refine QG (d:=33) (c:=(!x5)) J (fun c6=>?_) (fun c6=>?_)
 replace h1:=Qk c6 h1
 refine Q8 J J<|Q8 J J<|Q8 J J<|Q8 J J<|Q8 J J<|Q8 J J<|Q8 J J<|rR J J J (Qg J J)<|Q3 ?_
 have e:=sI h1;subst e
 exact Qd true (sL (Nat.zero_le _) J J J J J) h0
 replace h1:=Ql c6 h1
 refine rR J J J (Q2 JR J)<|rR J J J (Q6 JO J J J)<|rR J J J (QA (α:=Tm) Jl J (.d _))<|rR J J J (Q2 JR J)<|rR J J J (Q6 JO J J J)<|rR J J J (QA (α:=Tm) Jl J (.d _))<|rR J J J (Q7 J J J)<|rR J J J (Qc J J)<|Q3 ?_
 have e:=sI h1;subst e
 exact Qd ((a0.kids.length:Int) != (a1.kids.length:Int)) (sL (Nat.zero_le _) J J J J J) h0
 intro v1 h0
 refine Q4 ?_
 refine Qh (b:=v1) J (fun c7=>?_) (fun c7=>?_)
 replace h0:=Qk c7 h0
 refine Q5<|Q0<|rA J J J<|Q3<|Q4<|QD ?_
 have e:=sI h0;subst e
 exact QL (fun _ _ h=>h) J (QC J .nil) (.cons (.one (.d _)) .nil)
 replace h0:=Ql c7 h0
 refine Qm<|Q4<|Q5<|Q5<|Q0<|rA J J J<|Q3<|Q4<|Qf ?_
 refine QY 0 (fun (o8:Unit)=>⟨[],[(0,.cells 33 (cE a0)),(1,.cells 33 (cE a1))],[],2,61,[]⟩) (fun (o8:Unit)=>(some true)=some r) ?_ ?_
 refine Qb h0 (fun o9 hl1 h0=>?_)
 refine QX (Wt a0 a1 rc) (fun s1=>⟨[(2,.v (.one (.ptr 0 0))),(3,.v (.one (.ptr 1 0))),(5,.v (.one (dI s1)))],[(0,.cells 33 (cE a0)),(1,.cells 33 (cE a1))],[],2,61,[]⟩) 0 o9 (sL (Nat.zero_le _) J J J J J) hl1 (fun s1 n1 oo1 h1 ho1=>?_)
 unfold Wt at h1
 refine Q5<|Q5<|Q0<|rM J J J<|rR J J J (Q2 JR J)<|rR J J J (Q6 JO J J J)<|rR J J J (QA (α:=Tm) Jl J (.d _))<|rR J J J (Q7 J J J)<|Q3<|Q4 ?_
 refine Qh (b:=(decide (s1 < (a0.kids.length:Int)))) J (fun c10=>?_) (fun c10=>?_)
 replace h1:=Qk c10 h1
 refine Qm<|Q4<|Q5<|Qf<|Q5 ?_
 refine Jv [] [] YQ (by kernel_rfl) (by kernel_rfl) (by kernel_rfl) ?_
 refine RunA.rd J J J (Q1 (Q2 JR J)) J<|RunA.rd J J J (Q1 (Q6 JO J J J)) J<|RunA.rd J J J (Q1 (Qr J)) J ?_
 refine Qb h1 (fun x11 hx11 h1=>?_)
 refine RunA.rd J J J (Q1 (Qy (α:=Tm) Jl J (.d _) J hx11)) J<|RunA.rd J J J (Q1 (Qv (x11:Tm) QV J)) J<|RunA.rd J J J (Q1 (Q2 JR J)) J<|RunA.rd J J J (Q1 (Q6 JO J J J)) J<|RunA.rd J J J (Q1 (Qr J)) J ?_
 refine Qb h1 (fun x12 hx12 h1=>?_)
 refine RunA.rd J J J (Q1 (Qy (α:=Tm) Jl J (.d _) J hx12)) J<|RunA.rd J J J (Q1 (Qv (x12:Tm) QV J)) J ?_
 refine Qb h1 (fun x13 hx13 h1=>?_)
 refine RunA.rd J J J (Qq (H x11 x12 x13 hx13) J (.cons (.agg (.cons (.d _) (.cons (.d _) (.cons (.d _) (.cons (.d _) (.cons (.d _) .nil)))))) (.cons (.agg (.cons (.d _) (.cons (.d _) (.cons (.d _) (.cons (.d _) (.cons (.d _) .nil)))))) .nil))) J<|RunA.rd J J J (Q1 (Ji J)) J ?_
 refine RunA.nil ⟨?ex,_,_,J,?_⟩
 case ex=>exact trivial
 refine JW (st':=⟨[(2,.v (.one (.ptr 0 0))),(3,.v (.one (.ptr 1 0))),(5,.v (.one (dI s1))),(60,.v (.one (dB (!x13))))],[(0,.cells 33 (cE a0)),(1,.cells 33 (cE a1))],[],2,61,[]⟩) (sL (Nat.zero_le _) J J J J J)<|Q4 ?_
 refine Qh (b:=(!x13)) J (fun c14=>?_) (fun c14=>?_)
 replace h1:=Qk c14 h1
 refine Q5<|Q0<|rA J J J<|Q3<|Q4<|QD ?_
 have e:=sI h1;subst e
 have e_:_=_:=ho1
 subst e_
 try dsimp only [Sum.elim_inl,Sum.elim_inr] at h0
 have e:=sI h0;subst e
 exact QL (fun _ _ h=>h) J (QC J .nil) (.cons (.one (.d _)) .nil)
 replace h1:=Ql c14 h1
 refine Qm<|Qe<|Q4<|Q0<|rM J J J<|rR J J J (Q7 J J J)<|rA J J J<|Q3 ?_
 have e:=sI h1;subst e
 refine QR (J9 (s1+1)) (sL (Nat.zero_le _) J J J J J) ho1
 replace h1:=Ql c10 h1
 refine J5<|Qo<|Qo ?_
 have e:=sI h1;subst e
 have e_:_=_:=ho1
 subst e_
 exact QW () (sL (Nat.zero_le _) J J J J J) h0
 intro o8 h0
 refine QM<|Q4<|Q5<|Q0<|rA J J J<|Q3<|Q4<|QD ?_
 have e:=sI h0;subst e
 exact QL (fun _ _ h=>h) J (QC J .nil) (.cons (.one (.d _)) .nil)
theorem m27_all (n:Nat) (u:Tm×Tm) (r:Bool) (h0:Jr m27F n u=some r):Fun Try.prog 27 [.agg (cE u.1),.agg (cE u.2)] (QK [.one (dB r)]) :=
 YV (C:=fun u r=>Fun Try.prog 27 [.agg (cE u.1),.agg (cE u.2)] (QK [.one (dB r)])) (fun rc H u r h=>m27s_ok rc (fun a0 a1 r h=>H (a0,a1) r h) u.1 u.2 r h) n u r h0
theorem m27_ok (a0:Tm) (a1:Tm) (r:Bool) (h0:m27 a0 a1=some r):Fun Try.prog 27 [.agg (cE a0),.agg (cE a1)] (QK [.one (dB r)]):=m27_all QF (a0,a1) r h0
def m36_l0 (a0:Tr) (a1:Tr) (rc:Tr×Tr→Option Bool) (s1:Int):Option (LO Int (Unit⊕Bool)) :=
 cond (decide (s1 < (a0.branches.length:Int)))
   (Option.bind (JC a0.branches s1) fun (x5:Br) =>
 Option.bind (JC a1.branches s1) fun (x6:Br) =>
 Option.bind (cond (!(x5.ctor==x6.ctor))
   (some true)
   (cond (!(x5.absurd==x6.absurd))
   (some true)
   (Option.bind (rc (x5.tree,x6.tree)) fun (x10:Bool) =>
 some (!x10)))) (fun (v7:Bool)=>cond v7
   (some (.done (.inr false)))
   (some (.next (J9 (s1+1))))))
   (some (.done (.inl ())))
def m36s (rc:Tr×Tr→Option Bool) (a0:Tr) (a1:Tr):Option Bool :=
 Option.bind (cond (a0.kind != a1.kind)
   (some true)
   (cond (a0.var != a1.var)
   (some true)
   (Option.bind (m27 a0.body a1.body) fun (x4:Bool) =>
 cond (!x4)
   (some true)
   (some ((a0.branches.length:Int) != (a1.branches.length:Int)))))) (fun (v1:Bool)=>cond v1
   (some false)
   (Option.bind (Qp (m36_l0 a0 a1 rc) QF 0) (Sum.elim (fun (o3:Unit)=>some true) (fun o=>some o))))
def m36F (rc:Tr×Tr→Option Bool) (u:Tr×Tr):Option Bool:=m36s rc u.1 u.2
def m36 (a0:Tr) (a1:Tr):Option Bool:=Jr m36F QF (a0,a1)
def m22_l0 (a0:List Bs) (a1:List Bs) (s1:Int):Option (LO Int (Unit⊕Bool)) :=
 cond (decide (s1 < (a0.length:Int)))
   (Option.bind (JC a0 s1) fun (x4:Bs) =>
 Option.bind (JC a1 s1) fun (x5:Bs) =>
 cond (!(x4==x5))
   (some (.done (.inr false)))
   (some (.next (J9 (s1+1)))))
   (some (.done (.inl ())))
def m22 (a0:List Bs) (a1:List Bs):Option Bool :=
 cond ((a0.length:Int) != (a1.length:Int))
   (some false)
   (Option.bind (Qp (m22_l0 a0 a1) QF 0) (Sum.elim (fun (o2:Unit)=>some true) (fun o=>some o)))
theorem m22_ok (a0:List Bs) (a1:List Bs) (r:Bool) (h0:m22 a0 a1=some r):Fun Try.prog 22 [.one (dS a0),.one (dS a1)] (QK [.one (dB r)]):=by
 unfold m22 at h0
 refine QZ 9 26 Try.func22 J en_22 J (lb J) (fun S w=>?_)
 simp only [Ja]
 refine Q5<|Q0<|rA J J J<|Q3<|Q4<|Q5<|Q5<|Q0<|rM J J J<|rR J J J (QA (α:=Bs) Yc J (.d _))<|rM J J J<|rR J J J (QA (α:=Bs) Yc J (.d _))<|rR J J J (Q7 J J J)<|Q3 ?_
 refine Q4 ?_
 refine Qh (b:=((a0.length:Int) != (a1.length:Int))) J (fun c1=>?_) (fun c1=>?_)
 replace h0:=Qk c1 h0
 refine Q5<|Q0<|rA J J J<|Q3<|Q4<|QD ?_
 have e:=sI h0;subst e
 exact QL (fun _ _ h=>h) J (QC J .nil) (.cons (.one (.d _)) .nil)
 replace h0:=Ql c1 h0
 refine Qm<|Q4<|Q5<|Q5<|Q0<|rA J J J<|Q3<|Q4<|Qf ?_
 refine QY 0 (fun (o2:Unit)=>⟨[],[],[],0,26,[]⟩) (fun (o2:Unit)=>(some true)=some r) ?_ ?_
 refine Qb h0 (fun o3 hl1 h0=>?_)
 refine QX (m22_l0 a0 a1) (fun s1=>⟨[(0,.v (.one (dS a0))),(1,.v (.one (dS a1))),(5,.v (.one (dI s1)))],[],[],0,26,[]⟩) 0 o3 (sL (Nat.zero_le _) J J J J J) hl1 (fun s1 n1 oo1 h1 ho1=>?_)
 unfold m22_l0 at h1
 refine Q5<|Q5<|Q0<|rM J J J<|rM J J J<|rR J J J (QA (α:=Bs) Yc J (.d _))<|rR J J J (Q7 J J J)<|Q3<|Q4 ?_
 refine Qh (b:=(decide (s1 < (a0.length:Int)))) J (fun c4=>?_) (fun c4=>?_)
 replace h1:=Qk c4 h1
 refine Qm<|Q4<|Q5<|Qf<|Q5 ?_
 refine Jv [] [] YQ (by kernel_rfl) (by kernel_rfl) (by kernel_rfl) ?_
 refine RunA.rd J J J (Q1 (Qr J)) J<|RunA.rd J J J (Q1 (Qr J)) J ?_
 refine Qb h1 (fun x5 hx5 h1=>?_)
 refine RunA.rd J J J (Q1 (Qy (α:=Bs) Yc J (.d _) J hx5)) J<|RunA.rd J J J (Q1 (JQ JV J J)) J<|RunA.rd J J J (Q1 (Qr J)) J<|RunA.rd J J J (Q1 (Qr J)) J ?_
 refine Qb h1 (fun x6 hx6 h1=>?_)
 refine RunA.rd J J J (Q1 (Qy (α:=Bs) Yc J (.d _) J hx6)) J<|RunA.rd J J J (Q1 (JQ JV J J)) J<|RunA.rd J J J (Q1 (RO.neS J J)) J ?_
 refine RunA.nil ⟨?ex,_,_,J,?_⟩
 case ex=>exact trivial
 refine JW (st':=⟨[(0,.v (.one (dS a0))),(1,.v (.one (dS a1))),(5,.v (.one (dI s1))),(25,.v (.one (dB (!(x5==x6)))))],[],[],0,26,[]⟩) (sL (Nat.zero_le _) J J J J J)<|Q4 ?_
 refine Qh (b:=(!(x5==x6))) J (fun c7=>?_) (fun c7=>?_)
 replace h1:=Qk c7 h1
 refine Q5<|Q0<|rA J J J<|Q3<|Q4<|QD ?_
 have e:=sI h1;subst e
 have e_:_=_:=ho1
 subst e_
 try dsimp only [Sum.elim_inl,Sum.elim_inr] at h0
 have e:=sI h0;subst e
 exact QL (fun _ _ h=>h) J (QC J .nil) (.cons (.one (.d _)) .nil)
 replace h1:=Ql c7 h1
 refine Qm<|Qe<|Q4<|Q0<|rM J J J<|rR J J J (Q7 J J J)<|rA J J J<|Q3 ?_
 have e:=sI h1;subst e
 refine QR (J9 (s1+1)) (sL (Nat.zero_le _) J J J J J) ho1
 replace h1:=Ql c4 h1
 refine J5<|Qo<|Qo ?_
 have e:=sI h1;subst e
 have e_:_=_:=ho1
 subst e_
 exact QW () (sL (Nat.zero_le _) J J J J J) h0
 intro o2 h0
 refine QM<|Q4<|Q5<|Q0<|rA J J J<|Q3<|Q4<|QD ?_
 have e:=sI h0;subst e
 exact QL (fun _ _ h=>h) J (QC J .nil) (.cons (.one (.d _)) .nil)
end Go.Proofs.Ytafddfoefeploaa
namespace Go.Proofs.Ytafddfoefeploaa
open Go.RowKit Go.Shelf
def UI (a0:Dcl) (a2:Bs) (a1:Int) (s1:Int):Option (LO Int (Unit⊕Ent)) :=
 cond (decide (s1 < (a0.ctors.length:Int)))
   (Option.bind (JC a0.ctors s1) fun (x8:Ctr) =>
 cond (x8.name==a2)
   (Option.bind (JC a0.ctors s1) fun (x10:Ctr) =>
 some (.done (.inr (⟨4,a1,s1,a0.params,x10.ty⟩:Ent))))
   (some (.next (J9 (s1+1)))))
   (some (.done (.inl ())))
def UH (a0:Dcl) (a2:Bs) (a1:Int) (s1:Int):Option (LO Int (Unit⊕Ent)) :=
 cond (decide (s1 < (a0.funs.length:Int)))
   (Option.bind (JC a0.funs s1) fun (x14:Fn) =>
 cond (x14.name==a2)
   (Option.bind (JC a0.funs s1) fun (x16:Fn) =>
 some (.done (.inr (⟨6,a1,s1,a0.params,x16.ty⟩:Ent))))
   (some (.next (J9 (s1+1)))))
   (some (.done (.inl ())))
def DZ (a0:Dcl) (a1:Int) (a2:Bs):Option Ent :=
 cond (a0.kind==0)
   (some (⟨0,a1,0,a0.params,a0.ty⟩:Ent))
   (cond (a0.kind==1)
   (some (⟨1,a1,0,a0.params,a0.ty⟩:Ent))
   (cond (a0.kind==2)
   (some (⟨2,a1,0,a0.params,a0.ty⟩:Ent))
   (cond (a0.kind==3)
   (cond (a2==a0.name)
   (some (⟨3,a1,0,a0.params,a0.ty⟩:Ent))
   (Option.bind (Qp (UI a0 a2 a1) QF 0) (Sum.elim (fun (o6:Unit)=>some (⟨5,a1,0,a0.rcr.params,a0.rcr.ty⟩:Ent)) (fun o=>some o))))
   (Option.bind (Qp (UH a0 a2 a1) QF 0) (Sum.elim (fun (o12:Unit)=>some (⟨0,a1,0,a0.params,a0.ty⟩:Ent)) (fun o=>some o))))))
def m15_l0 (a0:List Dcl) (a1:Bs) (s1:Int):Option (LO Int (Unit⊕(Ent×Int))) :=
 cond (decide (s1 < (a0.length:Int)))
   (Option.bind (JC a0 s1) fun (x3:Dcl) =>
 Option.bind (m23 x3) fun (x4:(List Bs)) =>
 Option.bind (DK x4 a1) fun (x5:Bool) =>
 cond x5
   (Option.bind (JC a0 s1) fun (x7:Dcl) =>
 Option.bind (DZ x7 s1 a1) fun (x8:Ent) =>
 some (.done (.inr (x8,0))))
   (some (.next (J9 (s1+1)))))
   (some (.done (.inl ())))
def m15 (a0:List Dcl) (a1:Bs):Option (Ent×Int) :=
 Option.bind (Qp (m15_l0 a0 a1) QF 0) (Sum.elim (fun (o1:Unit)=>some ((⟨0,0,0,0,(Tm.mk 0 0 ([]:List UInt8) ([]:List Lvl) ([]:List Tm))⟩:Ent),9)) (fun o=>some o))
end Go.Proofs.Ytafddfoefeploaa
namespace Go.Proofs.Ytafddfoefeploaa
open Go.RowKit Go.Shelf
def JF {α:Type} (nm:α→Bs) (n:Bs):List α→Nat→Option (Nat×α)
 | [],_=>none
 | x::l,i=>if nm x=n then some (i,x) else JF nm n l (i+1)
theorem firstN_none {α:Type} (nm:α→Bs) (n:Bs):∀ (l:List α) (k:Nat),(∀ y∈l,nm y ≠ n)→JF nm n l k=none
 | [],_,_=>rfl
 | x::l,k,h=>by
  rw [JF,if_neg (h x (List.mem_cons_self ..))]
  exact firstN_none nm n l (k+1) fun y hy=>h y (List.mem_cons_of_mem _ hy)
theorem firstN_mid {α:Type} (nm:α→Bs) (n:Bs) (x:α) (b:List α) (hx:nm x=n):∀ (a:List α) (k:Nat),(∀ y∈a,nm y ≠ n)→JF nm n (a++x::b) k=some (k+a.length,x)
 | [],k,_=>by rw [List.nil_append,JF,if_pos hx];rfl
 | y::a,k,h=>by
  rw [List.cons_append,JF,if_neg (h y (List.mem_cons_self ..)),firstN_mid nm n x b hx a (k+1) fun z hz=>h z (List.mem_cons_of_mem _ hz),List.length_cons]
  congr 2
  omega
def Uh {α β:Type} (e0:β) (g:Int→α→β):Option (Nat×α)→β
 | none=>e0
 | some p=>g (p.1:Int) p.2
theorem loop_find {α β:Type} {step:Int→Option (LO Int β)} (nm:α→Bs) (n:Bs) (l:List α) (e0:β) (g:Int→α→β) (hlen:l.length≤900000000)
  (hin:∀ (a:List α) (x:α) (b:List α),l=a++x::b→step (a.length:Int)=some (if nm x=n then .done (g (a.length:Int) x) else .next (J9 ((a.length:Int)+1))))
  (hout:step (l.length:Int)=some (.done e0)):Qp step QF 0=some (Uh e0 g (JF nm n l 0)):=by
 obtain ⟨r,h1,h2⟩:=JG (step:=step) l (fun i (_:Unit)=>i) (fun a _=>∀ y∈a,nm y ≠ n) (fun r=>r=(Uh e0 g (JF nm n l 0))) hlen
  (fun a x b s hl hI=>by
   by_cases hx:nm x=n
   ·refine .inl ⟨g (a.length:Int) x,by rw [hin a x b hl,if_pos hx],?_⟩
    rw [hl,firstN_mid nm n x b hx a 0 hI,Nat.zero_add];rfl
   ·refine .inr ⟨(),by rw [hin a x b hl,if_neg hx],fun y hy=>?_⟩
    rcases List.mem_append.1 hy with h | h
    ·exact hI y h
    ·rw [List.mem_singleton.1 h];exact hx)
  (fun s hI=>⟨e0,hout,by rw [firstN_none nm n l 0 hI];rfl⟩) () (fun y hy=>by cases hy)
 rw [h1,h2]
def Ur:Bs:=[46,114,101,99]
def Yi (d:Dcl) (at_:Int) (n:Bs):Option Ent :=
 if d.kind=0∨d.kind=1∨d.kind=2 then (if d.name=n then some ⟨d.kind,at_,0,d.params,d.ty⟩ else none)
 else if d.kind=3 then (if d.name=n then some ⟨3,at_,0,d.params,d.ty⟩ else match JF (·.name) n d.ctors 0 with
  | some (i,c)=>some ⟨4,at_,i,d.params,c.ty⟩
  | none=>if d.name++Ur=n then some ⟨5,at_,0,d.rcr.params,d.rcr.ty⟩ else none)
 else if d.kind=4 then (match JF (·.name) n d.funs 0 with
  | some (i,f)=>some ⟨6,at_,i,d.params,f.ty⟩
  | none=>none)
 else none
abbrev Y8:=Int×Int×Int×Int×Int×Bs×List Lvl×List Tm
theorem m14_l0_eq (d:Dcl) (n:Bs) (h:d.size≤900000000):Qp (XG d n) QF 0=some (Uh (β:=Unit⊕(Unit⊕Y8)) (.inl ()) (fun i c=>.inr (.inr (4,i,d.params,c.ty.kind,c.ty.index,c.ty.name,c.ty.levels,c.ty.kids))) (JF (·.name) n d.ctors 0)):=by
 have hl:=Yx d
 refine loop_find (β:=Unit⊕(Unit⊕Y8)) (step:=XG d n) (·.name) n d.ctors (.inl ()) (fun i (c:Ctr)=>.inr (.inr (4,i,d.params,c.ty.kind,c.ty.index,c.ty.name,c.ty.levels,c.ty.kids))) (by omega) (fun a x b e=>?_) (by unfold XG;rw [J7];rfl)
 unfold XG
 rw [e,JI,Js]
 show Option.bind (cond (x.name==n) (some (Sum.inr ())) (some (Sum.inl ()))) _=_
 rw [UZ]
 by_cases hx:x.name=n
 ·rw [decide_eq_true hx,if_pos hx];rfl
 ·rw [decide_eq_false hx,if_neg hx];rfl
theorem m14_l2_eq (d:Dcl) (n:Bs) (h:d.size≤900000000):Qp (XF d n) QF 0=some (Uh (β:=Unit⊕(Unit⊕Y8)) (.inl ()) (fun i c=>.inr (.inr (6,i,d.params,c.ty.kind,c.ty.index,c.ty.name,c.ty.levels,c.ty.kids))) (JF (·.name) n d.funs 0)):=by
 have hl:=YY d
 refine loop_find (β:=Unit⊕(Unit⊕Y8)) (step:=XF d n) (·.name) n d.funs (.inl ()) (fun i (c:Fn)=>.inr (.inr (6,i,d.params,c.ty.kind,c.ty.index,c.ty.name,c.ty.levels,c.ty.kids))) (by omega) (fun a x b e=>?_) (by unfold XF;rw [J7];rfl)
 unfold XF
 rw [e,JI,Js]
 show Option.bind (cond (x.name==n) (some (Sum.inr ())) (some (Sum.inl ()))) _=_
 rw [UZ]
 by_cases hx:x.name=n
 ·rw [decide_eq_true hx,if_pos hx];rfl
 ·rw [decide_eq_false hx,if_neg hx];rfl
def ansE:Option Ent→Unit⊕Y8
 | none=>.inl ()
 | some e=>.inr (e.kind,e.item,e.params,e.ty.kind,e.ty.index,e.ty.name,e.ty.levels,e.ty.kids)
theorem name_len (d:Dcl):d.name.length < d.size:=by unfold Dcl.size;omega
theorem m14_k1_eq (d:Dcl) (n:Bs) (at_:Int) (h:d.size≤900000000):UM d n=some (ansE (if d.name++Ur=n then some ⟨5,at_,0,d.rcr.params,d.rcr.ty⟩ else none)):=by
 have hl:=name_len d
 unfold UM
 rw [JM (by show d.name.length+4≤1000000000;omega),UZ]
 by_cases hx:d.name++Ur=n
 ·rw [decide_eq_true (show d.name++[46,114,101,99]=n from hx),if_pos hx];rfl
 ·rw [decide_eq_false (show ¬ d.name++[46,114,101,99]=n from hx),if_neg hx];rfl
theorem m14_decl (d:Dcl) (n:Bs) (at_:Int) (h:d.size≤900000000):Option.bind (cond (d.kind==0) (some (d.kind==0)) (cond (d.kind==1) (some (d.kind==1)) (some (d.kind==2)))) (fun v10=>Wz v10 d n)=some (ansE (Yi d at_ n)):=by
 rw [kinds_eq]
 show Wz (decide (d.kind=0∨d.kind=1∨d.kind=2)) d n=_
 unfold Wz Yi
 by_cases hk:d.kind=0∨d.kind=1∨d.kind=2
 ·rw [decide_eq_true hk,if_pos hk]
  show Option.bind (JC [0,1,2] d.kind) _=_
  have e1:JC ([0,1,2]:List Int) d.kind=some d.kind:=by rcases hk with e | e | e <;> rw [e] <;> rfl
  rw [e1]
  show Option.bind (cond (d.name==n) _ _) _=_
  rw [UZ]
  by_cases hx:d.name=n
  ·rw [decide_eq_true hx,if_pos hx];rfl
  ·rw [decide_eq_false hx,if_neg hx];rfl
 ·rw [decide_eq_false hk,if_neg hk]
  show cond (d.kind==3) _ _=_
  rw [Yf]
  by_cases h3:d.kind=3
  ·rw [decide_eq_true h3,if_pos h3]
   show Option.bind (cond (d.name==n) _ _) _=_
   rw [UZ]
   by_cases hx:d.name=n
   ·rw [decide_eq_true hx,if_pos hx];rfl
   ·rw [decide_eq_false hx,if_neg hx]
    show Option.bind (Qp (XG d n) QF 0) _=_
    rw [m14_l0_eq d n h]
    cases JF (·.name) n d.ctors 0 with
    | none=>exact m14_k1_eq d n at_ h
    | some p=>rfl
  ·rw [decide_eq_false h3,if_neg h3]
   show cond (d.kind==4) _ _=_
   rw [Yf]
   by_cases h4:d.kind=4
   ·rw [decide_eq_true h4,if_pos h4]
    show Option.bind (Qp (XF d n) QF 0) _=_
    rw [m14_l2_eq d n h]
    cases JF (·.name) n d.funs 0 with
    | none=>rfl
    | some p=>rfl
   ·rw [decide_eq_false h4,if_neg h4];rfl
theorem m34_l0_eq (d:Dcl) (n:Bs) (at_:Int) (h:d.size≤900000000):Qp (UI d n at_) QF 0=some (Uh (β:=Unit⊕Ent) (.inl ()) (fun i c=>.inr ⟨4,at_,i,d.params,c.ty⟩) (JF (·.name) n d.ctors 0)):=by
 have hl:=Yx d
 refine loop_find (β:=Unit⊕Ent) (step:=UI d n at_) (·.name) n d.ctors (.inl ()) (fun i (c:Ctr)=>.inr ⟨4,at_,i,d.params,c.ty⟩) (by omega) (fun a x b e=>?_) (by unfold UI;rw [J7];rfl)
 unfold UI
 rw [e,JI,Js]
 show cond (x.name==n) _ _=_
 rw [UZ]
 by_cases hx:x.name=n
 ·rw [decide_eq_true hx,if_pos hx];rfl
 ·rw [decide_eq_false hx,if_neg hx];rfl
theorem m34_l1_eq (d:Dcl) (n:Bs) (at_:Int) (h:d.size≤900000000):Qp (UH d n at_) QF 0=some (Uh (β:=Unit⊕Ent) (.inl ()) (fun i c=>.inr ⟨6,at_,i,d.params,c.ty⟩) (JF (·.name) n d.funs 0)):=by
 have hl:=YY d
 refine loop_find (β:=Unit⊕Ent) (step:=UH d n at_) (·.name) n d.funs (.inl ()) (fun i (c:Fn)=>.inr ⟨6,at_,i,d.params,c.ty⟩) (by omega) (fun a x b e=>?_) (by unfold UH;rw [J7];rfl)
 unfold UH
 rw [e,JI,Js]
 show cond (x.name==n) _ _=_
 rw [UZ]
 by_cases hx:x.name=n
 ·rw [decide_eq_true hx,if_pos hx];rfl
 ·rw [decide_eq_false hx,if_neg hx];rfl
theorem m34_eq (d:Dcl) (n:Bs) (at_:Int) (e:Ent) (h:d.size≤900000000) (he:Yi d at_ n=some e):DZ d at_ n=some e:=by
 unfold Yi at he
 unfold DZ
 simp only [Yf]
 by_cases hk:d.kind=0∨d.kind=1∨d.kind=2
 ·rw [if_pos hk] at he
  by_cases hn:d.name=n
  ·rw [if_pos hn] at he
   cases he
   rcases hk with hk | hk | hk <;> rw [hk] <;> rfl
  ·rw [if_neg hn] at he;cases he
 ·rw [if_neg hk] at he
  rw [decide_eq_false (show ¬ d.kind=0 from fun x=>hk (.inl x)),decide_eq_false (show ¬ d.kind=1 from fun x=>hk (.inr (.inl x))),decide_eq_false (show ¬ d.kind=2 from fun x=>hk (.inr (.inr x)))]
  simp only [cond_false]
  by_cases h3:d.kind=3
  ·rw [if_pos h3] at he
   rw [decide_eq_true h3,cond_true,UZ]
   by_cases hn:d.name=n
   ·rw [if_pos hn] at he
    rw [decide_eq_true hn.symm,cond_true];exact he
   ·rw [if_neg hn] at he
    rw [decide_eq_false (fun x=>hn x.symm),cond_false,m34_l0_eq d n at_ h]
    cases hf:JF (·.name) n d.ctors 0 with
    | none =>
     rw [hf] at he
     simp only at he
     by_cases hr:d.name++Ur=n
     ·rw [if_pos hr] at he;exact he
     ·rw [if_neg hr] at he;cases he
    | some p=>rw [hf] at he;exact he
  ·rw [if_neg h3] at he
   rw [decide_eq_false h3,cond_false,m34_l1_eq d n at_ h]
   by_cases h4:d.kind=4
   ·rw [if_pos h4] at he
    cases hf:JF (·.name) n d.funs 0 with
    | none=>rw [hf] at he;cases he
    | some p=>rw [hf] at he;exact he
   ·rw [if_neg h4] at he;cases he
theorem firstN_is {α:Type} (nm:α→Bs) (n:Bs):∀ (l:List α) (k:Nat),(JF nm n l k).isSome=decide (n∈l.map nm)
 | [],k=>rfl
 | x::l,k=>by
  rw [JF]
  by_cases hx:nm x=n
  ·rw [if_pos hx,List.map_cons,decide_eq_true (by rw [hx];exact List.mem_cons_self ..)];rfl
  ·rw [if_neg hx,firstN_is nm n l (k+1),List.map_cons]
   congr 1
   rw [List.mem_cons,eq_iff_iff]
   exact ⟨.inr,fun h=>h.resolve_left fun h=>hx h.symm⟩
theorem Xa (d:Dcl) (at_:Int) (n:Bs):(Yi d at_ n).isSome=decide (n∈J3 d):=by
 unfold Yi J3
 by_cases hk:d.kind=0∨d.kind=1∨d.kind=2
 ·rw [if_pos hk,if_pos hk]
  by_cases hn:d.name=n
  ·rw [if_pos hn,decide_eq_true (by rw [hn];exact List.mem_singleton_self _)];rfl
  ·rw [if_neg hn,decide_eq_false (by rw [List.mem_singleton];exact fun h=>hn h.symm)];rfl
 ·rw [if_neg hk,if_neg hk]
  by_cases h3:d.kind=3
  ·rw [if_pos h3,if_pos h3]
   by_cases hn:d.name=n
   ·rw [if_pos hn,decide_eq_true (by rw [hn];simp)];rfl
   ·rw [if_neg hn]
    have h5:=firstN_is (·.name) n d.ctors 0
    cases hf:JF (·.name) n d.ctors 0 with
    | none =>
     rw [hf] at h5
     have h6:n∉d.ctors.map (·.name):=of_decide_eq_false h5.symm
     simp only
     by_cases hr:d.name++Ur=n
     ·rw [if_pos hr,decide_eq_true (by rw [← hr];unfold Ur;simp)];rfl
     ·rw [if_neg hr,decide_eq_false]
      ·rfl
      ·rw [List.mem_append,List.mem_cons,List.mem_singleton]
       rintro ((h | h) | h)
       ·exact hn h.symm
       ·exact h6 h
       ·exact hr h.symm
    | some p =>
     rw [hf] at h5
     have h6:n∈d.ctors.map (·.name):=of_decide_eq_true h5.symm
     rw [decide_eq_true]
     ·rfl
     ·exact List.mem_append_left _ (List.mem_cons_of_mem _ h6)
  ·rw [if_neg h3,if_neg h3]
   by_cases h4:d.kind=4
   ·rw [if_pos h4,if_pos h4,← firstN_is (·.name) n d.funs 0]
    cases JF (·.name) n d.funs 0 <;> rfl
   ·rw [if_neg h4,if_neg h4];rfl
theorem look_decl {d:Dcl} {at_:Int} {n:Bs} {e:Ent} (h:Yi d at_ n=some e):e.decl=at_:=by
 unfold Yi at h
 split at h
 ·split at h <;> cases h;rfl
 ·split at h
  ·split at h
   ·cases h;rfl
   ·split at h
    ·cases h;rfl
    ·split at h <;> cases h;rfl
  ·split at h
   ·split at h <;> cases h;rfl
   ·cases h
def D8 {α γ:Type} (f:Nat→α→Option γ):List α→Nat→Option γ
 | [],_=>none
 | x::l,i=>(f i x).elim (D8 f l (i+1)) some
theorem WR {α γ:Type} (f:Nat→α→Option γ) (b:List α):∀ (a:List α) (k:Nat),D8 f (a++b) k=(D8 f a k).elim (D8 f b (k+a.length)) some
 | [],k=>rfl
 | x::a,k=>by
  rw [List.cons_append,D8,D8]
  cases f k x with
  | some y=>rfl
  | none =>
   show D8 f (a++b) (k+1)=_
   rw [WR f b a (k+1),List.length_cons,show k+1+a.length=k+(a.length+1) from by omega];rfl
theorem fsI_some {α γ:Type} (f:Nat→α→Option γ) {y:γ}:∀ (l:List α) (k:Nat),D8 f l k=some y→∃ i x,l[i]?=some x∧f (k+i) x=some y
 | [],k,h=>by cases h
 | x::l,k,h=>by
  rw [D8] at h
  cases hf:f k x with
  | some z=>rw [hf] at h;cases h;exact ⟨0,x,rfl,hf⟩
  | none =>
   rw [hf] at h
   obtain ⟨i,z,h1,h2⟩:=fsI_some f l (k+1) h
   exact ⟨i+1,z,h1,by rw [← h2];congr 1;omega⟩
theorem loop_fs {α β γ:Type} {step:Int→Option (LO Int β)} (l:List α) (f:Nat→α→Option γ) (e0:β) (g:γ→β) (hlen:l.length≤900000000)
  (hin:∀ (a:List α) (x:α) (b:List α),l=a++x::b→step (a.length:Int)=some ((f a.length x).elim (.next (J9 ((a.length:Int)+1))) fun y=>.done (g y)))
  (hout:step (l.length:Int)=some (.done e0)):Qp step QF 0=some ((D8 f l 0).elim e0 g):=by
 obtain ⟨r,h1,h2⟩:=JG (step:=step) l (fun i (_:Unit)=>i) (fun a _=>D8 f a 0=none) (fun r=>r=((D8 f l 0).elim e0 g)) hlen
  (fun a x b s hl hI=>by
   have h3:=hin a x b hl
   have h4:D8 f l 0=(f a.length x).elim (D8 f b (a.length+1)) some:=by rw [hl,WR,hI,Nat.zero_add];rfl
   cases hf:f a.length x with
   | some y=>refine .inl ⟨g y,by rw [h3,hf];rfl,?_⟩;rw [h4,hf];rfl
   | none =>
    refine .inr ⟨(),by rw [h3,hf];rfl,?_⟩
    rw [WR,hI,Nat.zero_add]
    show D8 f [x] a.length=none
    rw [D8,hf];rfl)
  (fun s hI=>⟨e0,hout,by rw [hI];rfl⟩) () rfl
 rw [h1,h2]
def Y2 (env:List Dcl) (n:Bs):Option Ent:=D8 (fun k d=>Yi d (k:Int) n) env 0
def XP (env:List Dcl) (n:Bs):Ent×Int:=(Y2 env n).elim (ent0,9) fun e=>(e,0)
theorem m14_eq (env:List Dcl) (n:Bs) (h:Yn env≤900000000):m14 env n=some (XP env n):=by
 have hl:=WV env
 unfold m14
 rw [loop_fs (β:=Unit⊕(Ent×Int)) env (fun k d=>Yi d (k:Int) n) (.inl ()) (fun e=>.inr (e,0)) (by omega) (fun a x b e=>?_) (by unfold UL;rw [J7];rfl)]
 ·unfold XP Y2
  cases D8 (fun k d=>Yi d (k:Int) n) env 0 <;> rfl
 ·have hx:x.size≤900000000:=Nat.le_trans (size_le (env:=env) (d:=x) (by rw [e];simp)) h
  unfold UL
  rw [e,JI,Js]
  show Option.bind (Option.bind (cond (x.kind==0) (some (x.kind==0)) (cond (x.kind==1) (some (x.kind==1)) (some (x.kind==2)))) (fun v10=>Wz v10 x n)) _=_
  rw [m14_decl x n (a.length:Int) hx]
  cases hf:Yi x (a.length:Int) n with
  | none=>rfl
  | some e =>
   have hd:=look_decl hf
   cases e with
   | mk k dd it ps ty =>
    cases hd
    cases ty
    rfl
theorem UK (env:List Dcl) (n:Bs) (h:Yn env≤800000000):m15 env n=some (XP env n):=by
 have hl:=WV env
 unfold m15
 rw [loop_fs (β:=Unit⊕(Ent×Int)) env (fun k d=>Yi d (k:Int) n) (.inl ()) (fun e=>.inr (e,0)) (by omega) (fun a x b e=>?_) (by unfold m15_l0;rw [J7];rfl)]
 ·unfold XP Y2
  cases D8 (fun k d=>Yi d (k:Int) n) env 0 <;> rfl
 ·have hx:x.size≤800000000:=Nat.le_trans (size_le (env:=env) (d:=x) (by rw [e];simp)) h
  have hn:=KI x
  unfold m15_l0
  rw [e,JI,Js]
  show Option.bind (m23 x) _=_
  rw [Ue x (by omega)]
  show Option.bind (DK (J3 x) n) _=_
  rw [m33_eq (J3 x) n (by omega)]
  show cond (decide (n∈J3 x)) _ _=_
  rw [← Xa x (a.length:Int) n]
  cases hf:Yi x (a.length:Int) n with
  | none=>rfl
  | some e =>
   show Option.bind (DZ x (a.length:Int) n) _=_
   rw [m34_eq x n _ e (by omega) hf];rfl
end Go.Proofs.Ytafddfoefeploaa
namespace Go.Proofs.Ytafddfoefeploaa
open Go.RowKit Go.Shelf
theorem Ge:J1 Try.prog 124 0=some 0:=by kernel_rfl
theorem fo_124_1:J1 Try.prog 124 1=some 1:=by kernel_rfl
theorem z_124:JD Try.prog 124=some [.int .i64 0,.int .i64 0]:=by kernel_rfl
theorem en_103:J4 Try.prog 103:=enters_of Try.func103 (by kernel_rfl) rfl
theorem en_108:J4 Try.prog 108:=enters_of Try.func108 (by kernel_rfl) rfl
theorem en_111:J4 Try.prog 111:=enters_of Try.func111 (by kernel_rfl) rfl
theorem en_112:J4 Try.prog 112:=enters_of Try.func112 (by kernel_rfl) rfl
theorem en_113:J4 Try.prog 113:=enters_of Try.func113 (by kernel_rfl) rfl
def m112f2 (a0:LV) (a1:Lvl):Option Unit :=
 some ()
theorem m112f2_ok (a0:LV) (a1:Lvl) (r:Unit) (h0:m112f2 a0 a1=some r):CallM Try.prog 112 [.agg (cE a0),.one (.ptr 0 0)] ⟨[(0,.cells 87 (cE a1))],[],1⟩ (QK [.one (dB (decide (a1.c≤a0.2)))]) ⟨[(0,.cells 87 (cE a1))],[],2⟩:=by
 unfold m112f2 at h0
 refine J0 ⟨[(3,.v (.one (dB (decide (a1.c≤a0.2)))))],[(0,.cells 87 (cE a1))],[],2,9,[]⟩ J J en_112 (lb J) J (QC J .nil) (fun w0 M V0 Q hv0 hQ0=>?_)
 simp only [Ja]
 refine Q5<|Q0<|Q9 J J (lb J) (QT J)<|rA J J J<|Q3<|Q4<|Q5<|Q0<|rR J J J (Q2 fo_124_1 J)<|rR J J J (Q6 QU J J J)<|rR J J J (Q2 Gr J)<|rR J J J (Q6 QU J J J)<|rR J J J (Q7 J J J)<|rA J J J ?_
 refine Q3<|Q4<|QD ?_
 have e:=sI h0;subst e
 exact hQ0 _ _ _ (.inr J) J (sL (Nat.le_trans hv0 (lb J)) J J J J J)
def ZC (a0:List LV) (a1:Lvl) (s1:Int):Option (LO Int (Unit⊕Int)) :=
 cond (decide (s1 < (a0.length:Int)))
   (Option.bind (JC a0 s1) fun (x3:LV) =>
 Option.bind (m112f2 x3 a1) fun (x4:Unit) =>
 cond (decide (a1.c≤x3.2))
   (some (.done (.inr s1)))
   (some (.next (J9 (s1+1)))))
   (some (.done (.inl ())))
def m113f1 (a0:List LV) (a1:Lvl):Option Int :=
 Option.bind (Qp (ZC a0 a1) QF 0) (Sum.elim (fun (o1:Unit)=>some (-1)) (fun o=>some o))
theorem m113f1_ok (a0:List LV) (a1:Lvl) (r:Int) (h0:m113f1 a0 a1=some r):CallM Try.prog 113 [.one (dS a0),.one (.fn 112 [(0,0)])] ⟨[(0,.cells 87 (cE a1))],[],1⟩ (QK [.one (dI r)]) ⟨[(0,.cells 87 (cE a1))],[],1⟩:=by
 unfold m113f1 at h0
 refine J0 ⟨[(4,.v (.one (dI r)))],[(0,.cells 87 (cE a1))],[],1,19,[]⟩ J J en_113 (lb J) J (QC J .nil) (fun w0 M V0 Q hv0 hQ0=>?_)
 simp only [Ja]
 refine Q5<|Q0<|rA J J J<|Q3<|Q4<|Q5<|Q5<|Q0<|rM J J J<|rR J J J (QA (α:=LV) ZJ J (.d _))<|rM J J J<|Q3<|Q4<|Qf ?_
 refine QY 0 (fun (o1:Unit)=>⟨[],[(0,.cells 87 (cE a1))],[],1,19,[]⟩) (fun (o1:Unit)=>(some (-1))=some r) ?_ ?_
 refine Qb h0 (fun o2 hl1 h0=>?_)
 refine QX (ZC a0 a1) (fun s1=>⟨[(0,.v (.one (dS a0))),(1,.v (.one (.fn 112 [(0,0)]))),(7,.v (.one (dI (a0.length:Int)))),(8,.v (.one (dI s1)))],[(0,.cells 87 (cE a1))],[],1,19,[]⟩) 0 o2 (sL (Nat.le_trans hv0 (lb J)) J J J J J) hl1 (fun s1 n1 oo1 h1 ho1=>?_)
 unfold ZC at h1
 refine Q5<|Q0<|rR J J J (Q7 J J J)<|Q3<|Q4<|Q5 ?_
 refine Qh (b:=(decide (s1 < (a0.length:Int)))) J (fun c3=>?_) (fun c3=>?_)
 replace h1:=Qk c3 h1
 refine Qm<|Q4<|Q5<|Qf<|Q5<|Q0<|rM J J J<|rA J J J<|Q3<|Q4<|Q5<|Q0<|rM J J J<|rM J J J ?_
 refine rM J J J ?_
 refine Qb h1 (fun x4 hx4 h1=>?_)
 refine rR J J J (Qy (α:=LV) ZJ J (.d _) J hx4)<|rR J J J (Qv (x4:LV) Gh J) ?_
 refine Qb h1 (fun x5 hx5 h1=>?_)
 refine Q9 J J (lb J) (Jj (hp1':=[(0,.cells 87 (cE a1))]) (tk1':=[]) (hpF:=[]) (tkF:=[]) (res2:=QK [.one (dB (decide (a1.c≤x4.2)))]) (nx2:=2) [0] J J (m112f2_ok x4 a1 x5 hx5) J J (qB J J qZ) J J (gR J gZ) jZ hZ kZ J J J J J (bA J) J J J J)<|Q3<|Q4 ?_
 refine Qh (b:=(decide (a1.c≤x4.2))) J (fun c6=>?_) (fun c6=>?_)
 replace h1:=Qk c6 h1
 refine Q5<|Q0<|rM J J J<|rA J J J<|Q3<|Q4<|QD ?_
 have e:=sI h1;subst e
 have e_:_=_:=ho1
 subst e_
 try dsimp only [Sum.elim_inl,Sum.elim_inr] at h0
 have e:=sI h0;subst e
 exact hQ0 _ _ _ (.inr J) J (sL (Nat.le_trans hv0 (lb J)) J J J J J)
 replace h1:=Ql c6 h1
 refine Qm<|Qe<|Q4<|Q0<|rR J J J (Q7 J J J)<|rM J J J<|Q3 ?_
 have e:=sI h1;subst e
 refine QR (J9 (s1+1)) (sL (Nat.le_trans hv0 (lb J)) J J J J J) ho1
 replace h1:=Ql c3 h1
 refine J5<|Qo<|Qo ?_
 have e:=sI h1;subst e
 have e_:_=_:=ho1
 subst e_
 exact QW () (sL (Nat.le_trans hv0 (lb J)) J J J J J) h0
 intro o1 h0
 refine QM<|Q4<|Q5<|Q0<|rA J J J<|Q3<|Q4<|QD ?_
 have e:=sI h0;subst e
 exact hQ0 _ _ _ (.inr J) J (sL (Nat.le_trans hv0 (lb J)) J J J J J)
def UP (a0:List LV) (a1:Lvl):Option Bool :=
 Option.bind (m113f1 a0 a1) fun (x1:Int) =>
 some (decide (0≤x1))
theorem m111f0_ok (a0:List LV) (a1:Lvl) (r:Bool) (h0:UP a0 a1=some r):CallM Try.prog 111 [.one (dS a0),.one (.fn 112 [(0,0)])] ⟨[(0,.cells 87 (cE a1))],[],1⟩ (QK [.one (dB r)]) ⟨[(0,.cells 87 (cE a1))],[],1⟩:=by
 unfold UP at h0
 refine J0 ⟨[(4,.v (.one (dB r)))],[(0,.cells 87 (cE a1))],[],1,9,[]⟩ J J en_111 (lb J) J (QC J .nil) (fun w0 M V0 Q hv0 hQ0=>?_)
 simp only [Ja]
 refine Q5<|Q0<|rA J J J<|Q3<|Q4<|Q5<|Q0<|rM J J J<|rM J J J ?_
 refine Qb h0 (fun x1 hx1 h0=>?_)
 refine Q9 J J (lb J) (Jj (hp1':=[(0,.cells 87 (cE a1))]) (tk1':=[]) (hpF:=[]) (tkF:=[]) (res2:=QK [.one (dI x1)]) (nx2:=1) [0] J J (m113f1_ok a0 a1 x1 hx1) J J (qB J J qZ) J J (gR J gZ) jZ hZ kZ J J J J J (bA J) J J J J)<|rR J J J (Q7 J J J)<|rA J J J<|Q3<|Q4<|QD ?_
 have e:=sI h0;subst e
 exact hQ0 _ _ _ (.inr J) J (sL (Nat.le_trans hv0 (lb J)) J J J J J)
def Gn (a0:Lvl) (s1:Int):Option (LO Int (Unit⊕Bool)) :=
 cond (decide (s1 < (a0.vs.length:Int)))
   (Option.bind (JC a0.vs s1) fun (x5:LV) =>
 Option.bind (cond (decide (x5.1 < (-65536)))
   (some true)
   (cond (decide (7 < x5.1))
   (some true)
   (cond (decide (x5.2 < 0))
   (some true)
   (cond (decide (100 < x5.2))
   (some true)
   (cond (decide (0 < s1))
   (Option.bind (JC a0.vs (J9 (s1 - 1))) fun (x12:LV) =>
 some (decide (x5.1≤x12.1)))
   (some false)))))) (fun (v6:Bool)=>cond v6
   (some (.done (.inr false)))
   (some (.next (J9 (s1+1))))))
   (some (.done (.inl ())))
def Dw (a0:Lvl):Option Bool :=
 Option.bind (cond (decide (a0.c < 0))
   (some true)
   (cond (decide (100 < a0.c))
   (some true)
   (cond (decide (0 < a0.c))
   (Option.bind (Option.bind (UP a0.vs a0) fun (x7:Bool) =>
 some x7) (fun (y5:Bool)=>some y5))
   (some false)))) (fun (v1:Bool)=>cond v1
   (some false)
   (Option.bind (Qp (Gn a0) QF 0) (Sum.elim (fun (o3:Unit)=>some true) (fun o=>some o))))
theorem m103_ok (a0:Lvl) (r:Bool) (h0:Dw a0=some r):Fun Try.prog 103 [.agg (cE a0)] (QK [.one (dB r)]):=by
 unfold Dw at h0
 refine QZ 9 65 Try.func103 J en_103 J (lb J) (fun S w=>?_)
 simp only [Ja]
 refine Q5<|Q0<|Q9 J J (lb J) (QT J)<|rA J J J<|Q3<|Q4<|Q5<|Q5 ?_
 refine QS (fun (v1:Bool)=>⟨[(1,.v (.one (.ptr 0 0))),(21,.v (.one (dB v1)))],[(0,.cells 87 (cE a0))],[],1,65,[]⟩) (fun (v1:Bool)=>(cond v1
     (some false)
     (Option.bind (Qp (Gn a0) QF 0) (Sum.elim (fun (o3:Unit)=>some true) (fun o=>some o))))=some r) ?_ ?_
 refine Qb h0 (fun w1_ h1 h0=>?_)
 refine Q0<|rR J J J (Q2 Gr J)<|rR J J J (Q6 QU J J J)<|rR J J J (Q7 J J J)<|rM J J J ?_
 refine QG (d:=8) (c:=(decide (a0.c < 0))) J (fun c2=>?_) (fun c2=>?_)
 replace h1:=Qk c2 h1
 refine Q8 J J<|Q8 J J<|Q8 J J<|rR J J J (Qg J J)<|rM J J J<|Q8 J J<|Q8 J J<|Q8 J J<|Q8 J J<|Q8 J J<|Q8 J J<|Q8 J J<|rR J J J (Qg J J)<|Q3 ?_
 have e:=sI h1;subst e
 exact Qd true (sL (Nat.zero_le _) J J J J J) h0
 replace h1:=Ql c2 h1
 refine rR J J J (Q2 Gr J)<|rR J J J (Q6 QU J J J)<|rR J J J (Q7 J J J)<|rR J J J (Qc J J)<|rM J J J ?_
 refine QG (d:=13) (c:=(decide (100 < a0.c))) J (fun c3=>?_) (fun c3=>?_)
 replace h1:=Qk c3 h1
 refine Q8 J J<|Q8 J J<|Q8 J J<|Q8 J J<|Q8 J J<|Q8 J J<|Q8 J J<|rR J J J (Qg J J)<|Q3 ?_
 have e:=sI h1;subst e
 exact Qd true (sL (Nat.zero_le _) J J J J J) h0
 replace h1:=Ql c3 h1
 refine rR J J J (Q2 Gr J)<|rR J J J (Q6 QU J J J)<|rR J J J (Q7 J J J)<|rM J J J ?_
 refine QG (d:=17) (c:=(decide (0 < a0.c))) J (fun c4=>?_) (fun c4=>?_)
 replace h1:=Qk c4 h1
 refine rR J J J (QN (a0:Lvl) Ky J J) ?_
 refine Qb h1 (fun y5 h2 h1=>?_)
 have hc6:CallM Try.prog 108 [.agg (cE a0)] ⟨[(0,.cells 87 (cE a0))],[],1⟩ (QK [.one (dB y5)]) ⟨[(0,.cells 87 (cE a0))],[],2⟩:=by
  refine J0 ⟨[(2,.v (.one (dB y5)))],[(0,.cells 87 (cE a0))],[],2,7,[]⟩ J J en_108 (lb J) J (QC J .nil) (fun w0 M V0 Q hv2 hQ2=>?_)
  simp only [Ja]
  refine Q5<|Q0<|Q9 J J (lb J) (QT J)<|rA J J J<|Q3<|Q4<|Q5<|Q0<|rR J J J (Q2 Zt J)<|rR J J J (Q6 Xh J J J)<|rR J J J (YU J) ?_
  refine Qb h2 (fun x7 hx7 h2=>?_)
  refine Q9 J J (lb J) (Jj (hp1':=[(1,.cells 87 (cE a0))]) (tk1':=[]) (hpF:=[(0,.cells 87 (cE a0))]) (tkF:=[]) (res2:=QK [.one (dB x7)]) (nx2:=2) [1] J J (m111f0_ok a0.vs a0 x7 hx7) J J (qB J J qZ) J J (gR J gZ) jZ (hA J) kZ J J J J J (bA J) J J J J)<|rA J J J<|Q3<|Q4<|QD ?_
  have e:=sI h2;subst e
  exact hQ2 _ _ _ (.inr J) J (sL (Nat.le_trans hv2 (lb J)) J J J J J)
 refine Q9 J J (lb J) (JJ J J J hc6 J (hA J) kZ)<|rR J J J (Qg J J)<|rR J J J (Qc J J)<|Q3 ?_
 have e:=sI h1;subst e
 exact Qd y5 (sL (Nat.zero_le _) J J J J J) h0
 replace h1:=Ql c4 h1
 refine Q8 J J<|Q8 J J<|rR J J J (Qc J J)<|rR J J J (Qc J J)<|Q3 ?_
 have e:=sI h1;subst e
 exact Qd false (sL (Nat.zero_le _) J J J J J) h0
 intro v1 h0
 refine Q4 ?_
 refine Qh (b:=v1) J (fun c8=>?_) (fun c8=>?_)
 replace h0:=Qk c8 h0
 refine Q5<|Q0<|rA J J J<|Q3<|Q4<|QD ?_
 have e:=sI h0;subst e
 exact QL (fun _ _ h=>h) J (QC J .nil) (.cons (.one (.d _)) .nil)
 replace h0:=Ql c8 h0
 refine Qm<|Q4<|Q5<|Q5<|Q0<|rR J J J (Q2 Zt J)<|rR J J J (Q6 Xh J J J)<|rR J J J (QA (α:=LV) ZJ J (.d _))<|rM J J J<|Q3<|Q4<|Qf ?_
 refine QY 0 (fun (o9:Unit)=>⟨[],[(0,.cells 87 (cE a0))],[],1,65,[]⟩) (fun (o9:Unit)=>(some true)=some r) ?_ ?_
 refine Qb h0 (fun o10 hl1 h0=>?_)
 refine QX (Gn a0) (fun s1=>⟨[(1,.v (.one (.ptr 0 0))),(23,.v (.one (dS a0.vs))),(24,.v (.one (dI (a0.vs.length:Int)))),(25,.v (.one (dI s1)))],[(0,.cells 87 (cE a0))],[],1,65,[]⟩) 0 o10 (sL (Nat.zero_le _) J J J J J) hl1 (fun s1 n1 oo1 h1 ho1=>?_)
 unfold Gn at h1
 refine Q5<|Q0<|rR J J J (Q7 J J J)<|Q3<|Q4<|Q5 ?_
 refine Qh (b:=(decide (s1 < (a0.vs.length:Int)))) J (fun c11=>?_) (fun c11=>?_)
 replace h1:=Qk c11 h1
 refine Qm<|Q4<|Q5<|Qf<|Q5<|Q0<|rM J J J ?_
 refine Qb h1 (fun x12 hx12 h1=>?_)
 refine rR J J J (Qy (α:=LV) ZJ J (.d _) J hx12)<|rR J J J (Qv (x12:LV) Gh J)<|Q9 J J (lb J) (Qj z_124 J)<|rA J J J<|Qx J J (Qz (x12:LV) Gh J J J J J)<|Q3<|Q4<|Q5 ?_
 refine QS (fun (v13:Bool)=>⟨[(1,.v (.one (.ptr 0 0))),(23,.v (.one (dS a0.vs))),(24,.v (.one (dI (a0.vs.length:Int)))),(25,.v (.one (dI s1))),(63,.v (.one (dB v13)))],[(0,.cells 87 (cE a0)),(1,.cells 124 (cE x12))],[],2,65,[]⟩) (fun (v13:Bool)=>(cond v13
     (some (.done (.inr false)))
     (some (.next (J9 (s1+1)))))=some oo1) ?_ ?_
 refine Qb h1 (fun w2_ h2 h1=>?_)
 refine Jv [] [] YQ (by kernel_rfl) (by kernel_rfl) (by kernel_rfl) ?_
 refine RunA.rd J J J (Q1 (Q2 Ge J)) J<|RunA.rd J J J (Q1 (Q6 QU J J J)) J<|RunA.rd J J J (Q1 (Q7 J J J)) J ?_
 refine Y7 (c:=(decide (x12.1 < (-65536)))) J J J (Q1 (Qr J)) J (fun c14=>?_) (fun c14=>?_)
 replace h2:=Qk c14 h2
 refine RunA.no J J J J<|RunA.no J J J J<|RunA.no J J J J<|RunA.rd J J J (Q1 (Qg J J)) J<|RunA.rd J J J (Q1 (Qr J)) J<|RunA.no J J J J<|RunA.no J J J J<|RunA.no J J J J<|RunA.rd J J J (Q1 (Qg J J)) J<|RunA.rd J J J (Q1 (Qr J)) J<|RunA.no J J J J<|RunA.no J J J J<|RunA.no J J J J<|RunA.rd J J J (Q1 (Qg J J)) J ?_
 refine RunA.rd J J J (Q1 (Qr J)) J<|RunA.no J J J J<|RunA.no J J J J<|RunA.no J J J J<|RunA.no J J J J<|RunA.no J J J J<|RunA.no J J J J<|RunA.no J J J J<|RunA.no J J J J<|RunA.no J J J J<|RunA.no J J J J<|RunA.no J J J J<|RunA.no J J J J<|RunA.no J J J J ?_
 refine RunA.no J J J J<|RunA.rd J J J (Q1 (Qg J J)) J ?_
 refine RunA.nil ⟨?ex,_,_,J,?_⟩
 case ex=>exact trivial
 have e:=sI h2;subst e
 exact Qd true (sL (Nat.zero_le _) J J J J J) h1
 replace h2:=Ql c14 h2
 refine RunA.rd J J J (Q1 (Q2 Ge J)) J<|RunA.rd J J J (Q1 (Q6 QU J J J)) J<|RunA.rd J J J (Q1 (Q7 J J J)) J<|RunA.rd J J J (Q1 (Qc J J)) J ?_
 refine Y7 (c:=(decide (7 < x12.1))) J J J (Q1 (Qr J)) J (fun c15=>?_) (fun c15=>?_)
 replace h2:=Qk c15 h2
 refine RunA.no J J J J<|RunA.no J J J J<|RunA.no J J J J<|RunA.rd J J J (Q1 (Qg J J)) J<|RunA.rd J J J (Q1 (Qr J)) J<|RunA.no J J J J<|RunA.no J J J J<|RunA.no J J J J<|RunA.rd J J J (Q1 (Qg J J)) J<|RunA.rd J J J (Q1 (Qr J)) J<|RunA.no J J J J<|RunA.no J J J J<|RunA.no J J J J<|RunA.no J J J J ?_
 refine RunA.no J J J J<|RunA.no J J J J<|RunA.no J J J J<|RunA.no J J J J<|RunA.no J J J J<|RunA.no J J J J<|RunA.no J J J J<|RunA.no J J J J<|RunA.no J J J J<|RunA.no J J J J<|RunA.rd J J J (Q1 (Qg J J)) J ?_
 refine RunA.nil ⟨?ex,_,_,J,?_⟩
 case ex=>exact trivial
 have e:=sI h2;subst e
 exact Qd true (sL (Nat.zero_le _) J J J J J) h1
 replace h2:=Ql c15 h2
 refine RunA.rd J J J (Q1 (Q2 fo_124_1 J)) J<|RunA.rd J J J (Q1 (Q6 QU J J J)) J<|RunA.rd J J J (Q1 (Q7 J J J)) J<|RunA.rd J J J (Q1 (Qc J J)) J ?_
 refine Y7 (c:=(decide (x12.2 < 0))) J J J (Q1 (Qr J)) J (fun c16=>?_) (fun c16=>?_)
 replace h2:=Qk c16 h2
 refine RunA.no J J J J<|RunA.no J J J J<|RunA.no J J J J<|RunA.rd J J J (Q1 (Qg J J)) J<|RunA.rd J J J (Q1 (Qr J)) J<|RunA.no J J J J<|RunA.no J J J J<|RunA.no J J J J<|RunA.no J J J J<|RunA.no J J J J<|RunA.no J J J J<|RunA.no J J J J<|RunA.no J J J J<|RunA.no J J J J ?_
 refine RunA.no J J J J<|RunA.no J J J J<|RunA.no J J J J<|RunA.no J J J J<|RunA.no J J J J<|RunA.rd J J J (Q1 (Qg J J)) J ?_
 refine RunA.nil ⟨?ex,_,_,J,?_⟩
 case ex=>exact trivial
 have e:=sI h2;subst e
 exact Qd true (sL (Nat.zero_le _) J J J J J) h1
 replace h2:=Ql c16 h2
 refine RunA.rd J J J (Q1 (Q2 fo_124_1 J)) J<|RunA.rd J J J (Q1 (Q6 QU J J J)) J<|RunA.rd J J J (Q1 (Q7 J J J)) J<|RunA.rd J J J (Q1 (Qc J J)) J ?_
 refine Y7 (c:=(decide (100 < x12.2))) J J J (Q1 (Qr J)) J (fun c17=>?_) (fun c17=>?_)
 replace h2:=Qk c17 h2
 refine RunA.no J J J J<|RunA.no J J J J<|RunA.no J J J J<|RunA.no J J J J<|RunA.no J J J J<|RunA.no J J J J<|RunA.no J J J J<|RunA.no J J J J<|RunA.no J J J J<|RunA.no J J J J<|RunA.no J J J J<|RunA.no J J J J<|RunA.no J J J J<|RunA.no J J J J ?_
 refine RunA.rd J J J (Q1 (Qg J J)) J ?_
 refine RunA.nil ⟨?ex,_,_,J,?_⟩
 case ex=>exact trivial
 have e:=sI h2;subst e
 exact Qd true (sL (Nat.zero_le _) J J J J J) h1
 replace h2:=Ql c17 h2
 refine RunA.rd J J J (Q1 (Qr J)) J<|RunA.rd J J J (Q1 (Q7 J J J)) J ?_
 refine Y7 (c:=(decide (0 < s1))) J J J (Q1 (Qr J)) J (fun c18=>?_) (fun c18=>?_)
 replace h2:=Qk c18 h2
 refine RunA.rd J J J (Q1 (Q2 Zt J)) J<|RunA.rd J J J (Q1 (Q6 Xh J J J)) J<|RunA.rd J J J (Q1 (Qr J)) J<|RunA.rd J J J (Q1 (Q7 J J J)) J ?_
 refine Qb h2 (fun x19 hx19 h2=>?_)
 refine RunA.rd J J J (Q1 (Qy (α:=LV) ZJ J (.d _) J hx19)) J<|RunA.rd J J J (Q1 (YI Ge J)) J<|RunA.rd J J J (Q1 (JQ QU J J)) J<|RunA.rd J J J (Q1 (Q2 Ge J)) J<|RunA.rd J J J (Q1 (Q6 QU J J J)) J<|RunA.rd J J J (Q1 (Q7 J J J)) J<|RunA.rd J J J (Q1 (Qg J J)) J<|RunA.rd J J J (Q1 (Qc J J)) J ?_
 refine RunA.nil ⟨?ex,_,_,J,?_⟩
 case ex=>exact trivial
 have e:=sI h2;subst e
 exact Qd (decide (x12.1≤x19.1)) (sL (Nat.zero_le _) J J J J J) h1
 replace h2:=Ql c18 h2
 refine RunA.no J J J J<|RunA.no J J J J<|RunA.no J J J J<|RunA.no J J J J<|RunA.no J J J J<|RunA.no J J J J<|RunA.no J J J J<|RunA.no J J J J<|RunA.no J J J J<|RunA.no J J J J<|RunA.rd J J J (Q1 (Qc J J)) J<|RunA.rd J J J (Q1 (Qc J J)) J ?_
 refine RunA.nil ⟨?ex,_,_,J,?_⟩
 case ex=>exact trivial
 have e:=sI h2;subst e
 exact Qd false (sL (Nat.zero_le _) J J J J J) h1
 intro v13 h1
 refine Q4 ?_
 refine Qh (b:=v13) J (fun c20=>?_) (fun c20=>?_)
 replace h1:=Qk c20 h1
 refine Q5<|Q0<|rA J J J<|Q3<|Q4<|QD ?_
 have e:=sI h1;subst e
 have e_:_=_:=ho1
 subst e_
 try dsimp only [Sum.elim_inl,Sum.elim_inr] at h0
 have e:=sI h0;subst e
 exact QL (fun _ _ h=>h) J (QC J .nil) (.cons (.one (.d _)) .nil)
 replace h1:=Ql c20 h1
 refine Qm<|Qe<|Q4<|Q0<|rR J J J (Q7 J J J)<|rM J J J<|Q3 ?_
 have e:=sI h1;subst e
 refine QR (J9 (s1+1)) (sL (Nat.zero_le _) J J J J J) ho1
 replace h1:=Ql c11 h1
 refine J5<|Qo<|Qo ?_
 have e:=sI h1;subst e
 have e_:_=_:=ho1
 subst e_
 exact QW () (sL (Nat.zero_le _) J J J J J) h0
 intro o9 h0
 refine QM<|Q4<|Q5<|Q0<|rA J J J<|Q3<|Q4<|QD ?_
 have e:=sI h0;subst e
 exact QL (fun _ _ h=>h) J (QC J .nil) (.cons (.one (.d _)) .nil)
end Go.Proofs.Ytafddfoefeploaa
namespace Go.Proofs.Ytafddfoefeploaa
open Go.RowKit Go.Shelf
theorem en_65:J4 Try.prog 65:=enters_of Try.func65 (by kernel_rfl) rfl
theorem en_79:J4 Try.prog 79:=enters_of Try.func79 (by kernel_rfl) rfl
theorem en_81:J4 Try.prog 81:=enters_of Try.func81 (by kernel_rfl) rfl
def m79 (a0:Byt):Option Bool :=
 Option.bind (cond (decide (97≤a0.n))
   (cond (decide (a0.n≤122))
   (some true)
   (cond (decide (65≤a0.n))
   (cond (decide (a0.n≤90))
   (some true)
   (some (a0.n==95)))
   (some (a0.n==95))))
   (cond (decide (65≤a0.n))
   (cond (decide (a0.n≤90))
   (some true)
   (some (a0.n==95)))
   (some (a0.n==95)))) (fun (v1:Bool)=>some v1)
theorem m79_ok (a0:Byt) (r:Bool) (h0:m79 a0=some r):Fun Try.prog 79 [.one (.d (.v (.int .u8 a0.n)))] (QK [.one (dB r)]):=by
 unfold m79 at h0
 refine QZ 9 21 Try.func79 J en_79 J (lb J) (fun S w=>?_)
 simp only [Ja]
 refine Q5<|Q0<|rA J J J<|Q3<|Q4<|Q5 ?_
 refine QS (fun (v1:Bool)=>⟨[(2,.v (.one (dB v1)))],[],[],0,21,[]⟩) (fun (v1:Bool)=>(some v1)=some r) ?_ ?_
 refine Qb h0 (fun w1_ h1 h0=>?_)
 refine Q0<|rM J J J<|rR J J J (Q7 J J J)<|rM J J J ?_
 refine QG (d:=5) (c:=(decide (97≤a0.n))) J (fun c2=>?_) (fun c2=>?_)
 replace h1:=Qk c2 h1
 refine rM J J J<|rR J J J (Q7 J J J)<|rR J J J (Qg J J)<|rM J J J ?_
 refine QG (d:=9) (c:=(decide (a0.n≤122))) J (fun c3=>?_) (fun c3=>?_)
 replace h1:=Qk c3 h1
 refine Q8 J J<|Q8 J J<|Q8 J J<|Q8 J J<|Q8 J J<|Q8 J J<|rR J J J (Qg J J)<|rM J J J<|Q8 J J<|Q8 J J<|rR J J J (Qg J J)<|rA J J J<|Q3 ?_
 have e:=sI h1;subst e
 exact Qd true (sL (Nat.zero_le _) J J J J J) h0
 replace h1:=Ql c3 h1
 refine rM J J J<|rR J J J (Q7 J J J)<|rM J J J ?_
 refine QG (d:=12) (c:=(decide (65≤a0.n))) J (fun c4=>?_) (fun c4=>?_)
 replace h1:=Qk c4 h1
 refine rM J J J<|rR J J J (Q7 J J J)<|rR J J J (Qg J J)<|rR J J J (Qc J J)<|rM J J J ?_
 refine QG (d:=17) (c:=(decide (a0.n≤90))) J (fun c5=>?_) (fun c5=>?_)
 replace h1:=Qk c5 h1
 refine Q8 J J<|Q8 J J<|rR J J J (Qg J J)<|rA J J J<|Q3 ?_
 have e:=sI h1;subst e
 exact Qd true (sL (Nat.zero_le _) J J J J J) h0
 replace h1:=Ql c5 h1
 refine rM J J J<|rR J J J (Q7 J J J)<|rR J J J (Qc J J)<|rA J J J<|Q3 ?_
 have e:=sI h1;subst e
 exact Qd (a0.n==95) (sL (Nat.zero_le _) J J J J J) h0
 replace h1:=Ql c4 h1
 refine Q8 J J<|Q8 J J<|rR J J J (Qc J J)<|rR J J J (Qc J J)<|rM J J J<|rM J J J<|rR J J J (Q7 J J J)<|rR J J J (Qc J J)<|rA J J J<|Q3 ?_
 have e:=sI h1;subst e
 exact Qd (a0.n==95) (sL (Nat.zero_le _) J J J J J) h0
 replace h1:=Ql c2 h1
 refine Q8 J J<|Q8 J J<|rR J J J (Qc J J)<|rM J J J<|rM J J J<|rR J J J (Q7 J J J)<|rM J J J ?_
 refine QG (d:=12) (c:=(decide (65≤a0.n))) J (fun c6=>?_) (fun c6=>?_)
 replace h1:=Qk c6 h1
 refine rM J J J<|rR J J J (Q7 J J J)<|rR J J J (Qg J J)<|rR J J J (Qc J J)<|rM J J J ?_
 refine QG (d:=17) (c:=(decide (a0.n≤90))) J (fun c7=>?_) (fun c7=>?_)
 replace h1:=Qk c7 h1
 refine Q8 J J<|Q8 J J<|rR J J J (Qg J J)<|rA J J J<|Q3 ?_
 have e:=sI h1;subst e
 exact Qd true (sL (Nat.zero_le _) J J J J J) h0
 replace h1:=Ql c7 h1
 refine rM J J J<|rR J J J (Q7 J J J)<|rR J J J (Qc J J)<|rA J J J<|Q3 ?_
 have e:=sI h1;subst e
 exact Qd (a0.n==95) (sL (Nat.zero_le _) J J J J J) h0
 replace h1:=Ql c6 h1
 refine Q8 J J<|Q8 J J<|rR J J J (Qc J J)<|rR J J J (Qc J J)<|rM J J J<|rM J J J<|rR J J J (Q7 J J J)<|rR J J J (Qc J J)<|rA J J J<|Q3 ?_
 have e:=sI h1;subst e
 exact Qd (a0.n==95) (sL (Nat.zero_le _) J J J J J) h0
 intro v1 h0
 refine Q4<|QD ?_
 have e:=sI h0;subst e
 exact QL (fun _ _ h=>h) J (QC J .nil) (.cons (.one (.d _)) .nil)
def Wk (a0:Bs) (s1:Bool×Int):Option (LO (Bool×Int) (Bool⊕Bool)) :=
 cond (decide (s1.2 < (a0.length:Int)))
   (Option.bind (JC a0 s1.2) fun (x3:UInt8) =>
 Option.bind (m79 (⟨(x3.toNat:Int)⟩:Byt)) fun (x4:Bool) =>
 cond x4
   (some (.next (false,(J9 (s1.2+1)))))
   (cond s1.1
   (some (.done (.inr false)))
   (cond ((x3.toNat:Int)==46)
   (some (.next (true,(J9 (s1.2+1)))))
   (Option.bind (cond (decide ((x3.toNat:Int) < 48))
   (some true)
   (some (decide (57 < (x3.toNat:Int))))) (fun (v8:Bool)=>cond v8
   (cond ((x3.toNat:Int) != 39)
   (some (.done (.inr false)))
   (some (.next (s1.1,(J9 (s1.2+1))))))
   (some (.next (s1.1,(J9 (s1.2+1))))))))))
   (some (.done (.inl s1.1)))
def m65 (a0:Bs):Option Bool :=
 Option.bind (Qp (Wk a0) QF (true,0)) (Sum.elim (fun (o1:Bool)=>Option.bind (cond (!o1)
   (some (decide ((a0.length:Int)≤64)))
   (some false)) (fun (v2:Bool)=>some v2)) (fun o=>some o))
theorem m65_ok (a0:Bs) (r:Bool) (h0:m65 a0=some r):Fun Try.prog 65 [.one (Jn a0)] (QK [.one (dB r)]):=by
 unfold m65 at h0
 refine QZ 9 39 Try.func65 J en_65 J (lb J) (fun S w=>?_)
 simp only [Ja]
 refine Q5<|Q0<|rA J J J<|Q3<|Q4<|Q5<|Q0<|rA J J J<|Q3<|Q4<|Q5<|Q5<|Q0<|rM J J J ?_
 refine rR J J J (W3 Dp J)<|rM J J J<|Q3<|Q4<|Qf ?_
 refine QY 0 (fun (o1:Bool)=>⟨[(0,.v (.one (Jn a0))),(3,.v (.one (dB o1)))],[],[],0,39,[]⟩) (fun (o1:Bool)=>(Option.bind (cond (!o1)
     (some (decide ((a0.length:Int)≤64)))
     (some false)) (fun (v2:Bool)=>some v2))=some r) ?_ ?_
 refine Qb h0 (fun o2 hl1 h0=>?_)
 refine QX (Wk a0) (fun s1=>⟨[(0,.v (.one (Jn a0))),(3,.v (.one (dB s1.1))),(7,.v (.one (dI (a0.length:Int)))),(8,.v (.one (dI s1.2)))],[],[],0,39,[]⟩) (true,0) o2 (sL (Nat.zero_le _) J J J J J) hl1 (fun s1 n1 oo1 h1 ho1=>?_)
 unfold Wk at h1
 refine Q5<|Q0<|rR J J J (Q7 J J J)<|Q3<|Q4<|Q5 ?_
 refine Qh (b:=(decide (s1.2 < (a0.length:Int)))) J (fun c3=>?_) (fun c3=>?_)
 replace h1:=Qk c3 h1
 refine Qm<|Q4<|Q5<|Qf<|Q5<|Q0<|rM J J J<|rA J J J<|Q3<|Q4<|Q5<|Q0<|rM J J J<|rM J J J ?_
 refine Qb h1 (fun x4 hx4 h1=>?_)
 refine rR J J J (RO.ixS Dp J J hx4)<|rA J J J<|Q3<|Q4<|Qf<|Q5<|Q0<|rM J J J ?_
 refine Qb h1 (fun x5 hx5 h1=>?_)
 refine Q9 J J (lb J) (Qq (m79_ok (⟨(x4.toNat:Int)⟩:Byt) x5 hx5) J (.cons (.one (.d _)) .nil))<|rA J J J<|Q3<|Q4 ?_
 refine Qh (b:=x5) J (fun c6=>?_) (fun c6=>?_)
 replace h1:=Qk c6 h1
 refine Q0<|rA J J J<|Q3<|Qe<|Qe<|Q4<|Q0<|rR J J J (Q7 J J J)<|rM J J J<|Q3 ?_
 have e:=sI h1;subst e
 refine QR (false,(J9 (s1.2+1))) (sL (Nat.zero_le _) J J J J J) ho1
 replace h1:=Ql c6 h1
 refine Q5<|Q0<|rM J J J<|rA J J J<|Q3<|Q4 ?_
 refine Qh (b:=s1.1) J (fun c7=>?_) (fun c7=>?_)
 replace h1:=Qk c7 h1
 refine Q5<|Q0<|rA J J J<|Q3<|Q4<|QD ?_
 have e:=sI h1;subst e
 have e_:_=_:=ho1
 subst e_
 try dsimp only [Sum.elim_inl,Sum.elim_inr] at h0
 have e:=sI h0;subst e
 exact QL (fun _ _ h=>h) J (QC J .nil) (.cons (.one (.d _)) .nil)
 replace h1:=Ql c7 h1
 refine Q5<|Q0<|rM J J J<|rR J J J (Q7 J J J)<|rA J J J<|Q3<|Q4 ?_
 refine Qh (b:=((x4.toNat:Int)==46)) J (fun c8=>?_) (fun c8=>?_)
 replace h1:=Qk c8 h1
 refine Q0<|rA J J J<|Q3<|Qe<|Qe<|Q4<|Q0<|rR J J J (Q7 J J J)<|rM J J J<|Q3 ?_
 have e:=sI h1;subst e
 refine QR (true,(J9 (s1.2+1))) (sL (Nat.zero_le _) J J J J J) ho1
 replace h1:=Ql c8 h1
 refine Q5 ?_
 refine QS (fun (v9:Bool)=>⟨[(0,.v (.one (Jn a0))),(3,.v (.one (dB s1.1))),(5,.v (.one (.d (.v (.int .u8 (x4.toNat:Int)))))),(7,.v (.one (dI (a0.length:Int)))),(8,.v (.one (dI s1.2))),(22,.v (.one (dB v9)))],[],[],0,39,[]⟩) (fun (v9:Bool)=>(cond v9
     (cond ((x4.toNat:Int) != 39)
     (some (.done (.inr false)))
     (some (.next (s1.1,(J9 (s1.2+1))))))
     (some (.next (s1.1,(J9 (s1.2+1))))))=some oo1) ?_ ?_
 refine Qb h1 (fun w2_ h2 h1=>?_)
 refine Q0<|rM J J J<|rR J J J (Q7 J J J)<|rM J J J ?_
 refine QG (d:=25) (c:=(decide ((x4.toNat:Int) < 48))) J (fun c10=>?_) (fun c10=>?_)
 replace h2:=Qk c10 h2
 refine Q8 J J<|Q8 J J<|rR J J J (Qg J J)<|rA J J J<|Q3 ?_
 have e:=sI h2;subst e
 exact Qd true (sL (Nat.zero_le _) J J J J J) h1
 replace h2:=Ql c10 h2
 refine rM J J J<|rR J J J (Q7 J J J)<|rR J J J (Qc J J)<|rA J J J<|Q3 ?_
 have e:=sI h2;subst e
 exact Qd (decide (57 < (x4.toNat:Int))) (sL (Nat.zero_le _) J J J J J) h1
 intro v9 h1
 refine Q4 ?_
 refine Qh (b:=v9) J (fun c11=>?_) (fun c11=>?_)
 replace h1:=Qk c11 h1
 refine Q5<|Q0<|rM J J J<|rR J J J (Q7 J J J)<|Q3<|Q4 ?_
 refine Qh (b:=((x4.toNat:Int) != 39)) J (fun c12=>?_) (fun c12=>?_)
 replace h1:=Qk c12 h1
 refine Q5<|Q0<|rA J J J<|Q3<|Q4<|QD ?_
 have e:=sI h1;subst e
 have e_:_=_:=ho1
 subst e_
 try dsimp only [Sum.elim_inl,Sum.elim_inr] at h0
 have e:=sI h0;subst e
 exact QL (fun _ _ h=>h) J (QC J .nil) (.cons (.one (.d _)) .nil)
 replace h1:=Ql c12 h1
 refine Qm<|Qe<|Qe<|Q4<|Q0<|rR J J J (Q7 J J J)<|rM J J J<|Q3 ?_
 have e:=sI h1;subst e
 refine QR (s1.1,(J9 (s1.2+1))) (sL (Nat.zero_le _) J J J J J) ho1
 replace h1:=Ql c11 h1
 refine Qm<|Qe<|Qe<|Q4<|Q0<|rR J J J (Q7 J J J)<|rM J J J<|Q3 ?_
 have e:=sI h1;subst e
 refine QR (s1.1,(J9 (s1.2+1))) (sL (Nat.zero_le _) J J J J J) ho1
 replace h1:=Ql c3 h1
 refine J5<|Qo<|Qo ?_
 have e:=sI h1;subst e
 have e_:_=_:=ho1
 subst e_
 exact QW s1.1 (sL (Nat.zero_le _) J J J J J) h0
 intro o1 h0
 refine QM<|Q4<|Q5 ?_
 refine QS (fun (v13:Bool)=>⟨[(2,.v (.one (dB v13)))],[],[],0,39,[]⟩) (fun (v13:Bool)=>(some v13)=some r) ?_ ?_
 refine Qb h0 (fun w1_ h1 h0=>?_)
 refine Q0<|rM J J J<|rR J J J (Ji J)<|rM J J J ?_
 refine QG (d:=34) (c:=(!o1)) J (fun c14=>?_) (fun c14=>?_)
 replace h1:=Qk c14 h1
 refine rM J J J<|rR J J J (W3 Dp J)<|rR J J J (Q7 J J J)<|rR J J J (Qg J J)<|rA J J J<|Q3 ?_
 have e:=sI h1;subst e
 exact Qd (decide ((a0.length:Int)≤64)) (sL (Nat.zero_le _) J J J J J) h0
 replace h1:=Ql c14 h1
 refine Q8 J J<|Q8 J J<|Q8 J J<|rR J J J (Qc J J)<|rA J J J<|Q3 ?_
 have e:=sI h1;subst e
 exact Qd false (sL (Nat.zero_le _) J J J J J) h0
 intro v13 h0
 refine Q4<|QD ?_
 have e:=sI h0;subst e
 exact QL (fun _ _ h=>h) J (QC J .nil) (.cons (.one (.d _)) .nil)
def m81_l0 (a0:Tm) (rc:Tm→Option Int) (s1:Int×Int):Option (LO (Int×Int) Int) :=
 cond (decide (s1.2 < (a0.kids.length:Int)))
   (Option.bind (JC a0.kids s1.2) fun (x3:Tm) =>
 Option.bind (rc x3) fun (x4:Int) =>
 some (.next ((max s1.1 x4),(J9 (s1.2+1)))))
   (some (.done s1.1))
def m81s (rc:Tm→Option Int) (a0:Tm):Option Int :=
 Option.bind (Qp (m81_l0 a0 rc) QF (0,0)) (fun (o1:Int)=>some (J9 (o1+1)))
def m81F (rc:Tm→Option Int) (u:Tm):Option Int:=m81s rc u
def m81 (a0:Tm):Option Int:=Jr m81F QF a0
theorem m81s_ok (rc:Tm→Option Int) (H:∀ (a0:Tm) (r:Int),rc a0=some r→Fun Try.prog 81 [.agg (cE a0)] (QK [.one (dI r)])) (a0:Tm) (r:Int) (h0:m81s rc a0=some r):Fun Try.prog 81 [.agg (cE a0)] (QK [.one (dI r)]):=by
 unfold m81s at h0
 refine QZ 9 20 Try.func81 J en_81 J (lb J) (fun S w=>?_)
 simp only [Ja]
 refine Q5<|Q0<|Q9 J J (lb J) (QT J)<|rA J J J<|Q3<|Q4<|Q5<|Q0<|rA J J J<|Q3<|Q4<|Q5<|Q5<|Q0 ?_
 refine rR J J J (Q2 JR J)<|rR J J J (Q6 JO J J J)<|rR J J J (QA (α:=Tm) Jl J (.d _))<|rM J J J<|Q3<|Q4<|Qf ?_
 refine QY 0 (fun (o1:Int)=>⟨[(3,.v (.one (dI o1)))],[(0,.cells 33 (cE a0))],[],1,20,[]⟩) (fun (o1:Int)=>(some (J9 (o1+1)))=some r) ?_ ?_
 refine Qb h0 (fun o2 hl1 h0=>?_)
 refine QX (m81_l0 a0 rc) (fun s1=>⟨[(3,.v (.one (dI s1.1))),(7,.v (.one (dS a0.kids))),(8,.v (.one (dI (a0.kids.length:Int)))),(9,.v (.one (dI s1.2)))],[(0,.cells 33 (cE a0))],[],1,20,[]⟩) (0,0) o2 (sL (Nat.zero_le _) J J J J J) hl1 (fun s1 n1 oo1 h1 ho1=>?_)
 unfold m81_l0 at h1
 refine Q5<|Q0<|rR J J J (Q7 J J J)<|Q3<|Q4<|Q5 ?_
 refine Qh (b:=(decide (s1.2 < (a0.kids.length:Int)))) J (fun c3=>?_) (fun c3=>?_)
 replace h1:=Qk c3 h1
 refine Qm<|Q4<|Q5<|Qf<|Q5<|Q0 ?_
 refine Qb h1 (fun x4 hx4 h1=>?_)
 refine rR J J J (Qy (α:=Tm) Jl J (.d _) J hx4)<|rR J J J (Qv (x4:Tm) QV J)<|Q9 J J (lb J) (Qj K4 J)<|Qx J J (Qz (x4:Tm) QV J J J J J)<|Q3<|Q4<|Q0<|rM J J J<|rR J J J (QN (x4:Tm) QV J J) ?_
 refine Qb h1 (fun x5 hx5 h1=>?_)
 refine Q9 J J (lb J) (Qq (H x4 x5 hx5) J (.cons (.agg (.cons (.d _) (.cons (.d _) (.cons (.d _) (.cons (.d _) (.cons (.d _) .nil)))))) .nil))<|rR J J J (Xe J J)<|rA J J J<|Q3<|Qe<|Q4<|Q0<|rR J J J (Q7 J J J)<|rM J J J<|Q3 ?_
 have e:=sI h1;subst e
 refine QR ((max s1.1 x5),(J9 (s1.2+1))) (sL (Nat.zero_le _) J J J J J) ho1
 replace h1:=Ql c3 h1
 refine J5<|Qo<|Qo ?_
 have e:=sI h1;subst e
 have e_:_=_:=ho1
 subst e_
 exact QW s1.1 (sL (Nat.zero_le _) J J J J J) h0
 intro o1 h0
 refine QM<|Q4<|Q5<|Q0<|rM J J J<|rR J J J (Q7 J J J)<|rA J J J<|Q3<|Q4<|QD ?_
 have e:=sI h0;subst e
 exact QL (fun _ _ h=>h) J (QC J .nil) (.cons (.one (.d _)) .nil)
theorem m81_all (n:Nat) (u:Tm) (r:Int) (h0:Jr m81F n u=some r):Fun Try.prog 81 [.agg (cE u)] (QK [.one (dI r)]) :=
 YV (C:=fun u r=>Fun Try.prog 81 [.agg (cE u)] (QK [.one (dI r)])) (fun rc H u r h=>m81s_ok rc (fun a0 r h=>H a0 r h) u r h) n u r h0
theorem m81_ok (a0:Tm) (r:Int) (h0:m81 a0=some r):Fun Try.prog 81 [.agg (cE a0)] (QK [.one (dI r)]):=m81_all QF a0 r h0
end Go.Proofs.Ytafddfoefeploaa
namespace Go.Proofs.Ytafddfoefeploaa
open Go.RowKit Go.Shelf
theorem fo_127_0:J1 Try.prog 127 0=some 0:=by kernel_rfl
theorem fo_127_1:J1 Try.prog 127 1=some 1:=by kernel_rfl
theorem fo_127_2:J1 Try.prog 127 2=some 2:=by kernel_rfl
theorem fo_127_3:J1 Try.prog 127 3=some 3:=by kernel_rfl
theorem fo_134_0:J1 Try.prog 134 0=some 0:=by kernel_rfl
theorem fo_134_1:J1 Try.prog 134 1=some 1:=by kernel_rfl
theorem Km:J1 Try.prog 134 2=some 2:=by kernel_rfl
theorem Kl:J1 Try.prog 134 3=some 3:=by kernel_rfl
theorem ag_127:Jw Try.prog 127=some (true,4):=by kernel_rfl
theorem ag_134:Jw Try.prog 134=some (true,5):=by kernel_rfl
theorem Dz:JD Try.prog 87=some [.int .i64 0,.slice none 0 0]:=by kernel_rfl
theorem z_134:JD Try.prog 134=some [.bool false,.bool false,.int .i64 0,.int .i64 0,.int .i64 0]:=by kernel_rfl
theorem en_80:J4 Try.prog 80:=enters_of Try.func80 (by kernel_rfl) rfl
theorem en_96:J4 Try.prog 96:=enters_of Try.func96 (by kernel_rfl) rfl
theorem en_97:J4 Try.prog 97:=enters_of Try.func97 (by kernel_rfl) rfl
theorem as_135:tyArrS Try.prog 135=some (13,5):=by kernel_rfl
def m90 :Option ((List Use)) :=
 some ([(⟨true,false,0,0,(-1)⟩:Use),(⟨false,false,0,0,(-1)⟩:Use),(⟨false,false,1,0,(-1)⟩:Use),(⟨false,true,(-1),0,(-1)⟩:Use),(⟨false,false,0,2,(-1)⟩:Use),(⟨false,false,0,2,1⟩:Use),(⟨false,false,0,2,1⟩:Use),(⟨false,false,0,2,1⟩:Use),(⟨false,false,0,3,(-1)⟩:Use),(⟨false,false,0,1,(-1)⟩:Use),(⟨false,false,0,1,(-1)⟩:Use),(⟨false,false,0,3,2⟩:Use),(⟨true,false,0,0,(-1)⟩:Use)]:List Use)
theorem m90_ok  (r:(List Use)) (h0:m90 =some r):Fun Try.prog 90 [] (QK [.agg (Gv (r:List Use))]):=by
 unfold m90 at h0
 refine QZ 9 15 Try.func90 J en_90 J (lb J) (fun S w=>?_)
 simp only [Ja]
 refine Q5<|Q0<|Q9 J J (lb J) (Qj Dg J)<|Q3<|Q4<|Q5<|Q0<|rR J J J (Jb JB J J J J)<|rR J J J (X2 JB J J J)<|rR J J J (Jb JB J J J J)<|rR J J J (ZH JB J J J J J)<|rR J J J (Jb JB J J J J)<|rR J J J (Jb JB J J J J)<|rR J J J (Jb JB J J J J) ?_
 refine rR J J J (Jb JB J J J J)<|rR J J J (Jb JB J J J J)<|rR J J J (Jb JB J J J J)<|rR J J J (Jb JB J J J J)<|rR J J J (Jb JB J J J J)<|rR J J J (Jb JB J J J J)<|rR J J J (Y0 bd_135 J (.cons J (.cons J (.cons J (.cons J (.cons J (.cons J (.cons J (.cons J (.cons J (.cons J (.cons J (.cons J (.cons J .nil))))))))))))) J)<|Qx J J (Yw XU J J J J J J)<|Q3<|Q4<|QD ?_
 have e:=sI h0;subst e
 exact QL (fun _ _ h=>h) J (Z6 XU J J J J .nil) (.cons (.agg (.cons (.d _) (.cons (.d _) (.cons (.d _) (.cons (.d _) (.cons (.d _) (.cons (.d _) (.cons (.d _) (.cons (.d _) (.cons (.d _) (.cons (.d _) (.cons (.d _) (.cons (.d _) (.cons (.d _) (.cons (.d _) (.cons (.d _) (.cons (.d _) (.cons (.d _) (.cons (.d _) (.cons (.d _) (.cons (.d _) (.cons (.d _) (.cons (.d _) (.cons (.d _) (.cons (.d _) (.cons (.d _) (.cons (.d _) (.cons (.d _) (.cons (.d _) (.cons (.d _) (.cons (.d _) (.cons (.d _) (.cons (.d _) (.cons (.d _) (.cons (.d _) (.cons (.d _) (.cons (.d _) (.cons (.d _) (.cons (.d _) (.cons (.d _) (.cons (.d _) (.cons (.d _) (.cons (.d _) (.cons (.d _) (.cons (.d _) (.cons (.d _) (.cons (.d _) (.cons (.d _) (.cons (.d _) (.cons (.d _) (.cons (.d _) (.cons (.d _) (.cons (.d _) (.cons (.d _) (.cons (.d _) (.cons (.d _) (.cons (.d _) (.cons (.d _) (.cons (.d _) (.cons (.d _) (.cons (.d _) (.cons (.d _) (.cons (.d _) (.cons (.d _) (.cons (.d _) (.cons (.d _) .nil)))))))))))))))))))))))))))))))))))))))))))))))))))))))))))))))))) .nil)
def m96_k0 (p0_:Bool) (p1_:Tm):Option Bool :=
 cond p0_
   (some false)
   (Option.bind (m90 ) fun (b0_:(List Use)) =>
 Option.bind (JC b0_ p1_.kind) fun (b1_:Use) =>
 Jd (Nat.beq b0_.length 13)
 (Option.bind (cond b1_.index
   (cond b1_.name
   (cond (decide (b1_.levels < 0))
   (some ((p1_.kids.length:Int)==b1_.kids))
   (cond ((p1_.levels.length:Int)==b1_.levels)
   (some ((p1_.kids.length:Int)==b1_.kids))
   (some false)))
   (cond (p1_.name==([]:List UInt8))
   (cond (decide (b1_.levels < 0))
   (some ((p1_.kids.length:Int)==b1_.kids))
   (cond ((p1_.levels.length:Int)==b1_.levels)
   (some ((p1_.kids.length:Int)==b1_.kids))
   (some false)))
   (some false)))
   (cond (p1_.index==0)
   (cond b1_.name
   (cond (decide (b1_.levels < 0))
   (some ((p1_.kids.length:Int)==b1_.kids))
   (cond ((p1_.levels.length:Int)==b1_.levels)
   (some ((p1_.kids.length:Int)==b1_.kids))
   (some false)))
   (cond (p1_.name==([]:List UInt8))
   (cond (decide (b1_.levels < 0))
   (some ((p1_.kids.length:Int)==b1_.kids))
   (cond ((p1_.levels.length:Int)==b1_.levels)
   (some ((p1_.kids.length:Int)==b1_.kids))
   (some false)))
   (some false)))
   (some false))) (fun (b2_:Bool)=>some b2_)))
def DY (a0:Tm):Option Bool :=
 Option.bind (cond (decide (a0.kind < 0))
   (some true)
   (some (decide (13≤a0.kind)))) (fun (v1:Bool)=>m96_k0 v1 a0)
theorem m96_ok (a0:Tm) (r:Bool) (h0:DY a0=some r):Fun Try.prog 96 [.agg (cE a0)] (QK [.one (dB r)]):=by
 unfold DY at h0
 refine QZ 9 53 Try.func96 J en_96 J (lb J) (fun S w=>?_)
 simp only [Ja]
 refine Q5<|Q0<|Q9 J J (lb J) (QT J)<|rA J J J<|Q3<|Q4<|Q5<|Q5 ?_
 refine QS (fun (v1:Bool)=>⟨[(1,.v (.one (.ptr 0 0))),(11,.v (.one (dB v1)))],[(0,.cells 33 (cE a0))],[],1,53,[]⟩) (fun (v1:Bool)=>(m96_k0 v1 a0)=some r) ?_ ?_
 refine Qb h0 (fun w1_ h1 h0=>?_)
 refine Q0<|rR J J J (Q2 Yb J)<|rR J J J (Q6 QU J J J)<|rR J J J (Q7 J J J)<|rM J J J ?_
 refine QG (d:=7) (c:=(decide (a0.kind < 0))) J (fun c2=>?_) (fun c2=>?_)
 replace h1:=Qk c2 h1
 refine Q8 J J<|Q8 J J<|Q8 J J<|rR J J J (Qg J J)<|Q3 ?_
 have e:=sI h1;subst e
 exact Qd true (sL (Nat.zero_le _) J J J J J) h0
 replace h1:=Ql c2 h1
 refine rR J J J (Q2 Yb J)<|rR J J J (Q6 QU J J J)<|rR J J J (Q7 J J J)<|rR J J J (Qc J J)<|Q3 ?_
 have e:=sI h1;subst e
 exact Qd (decide (13≤a0.kind)) (sL (Nat.zero_le _) J J J J J) h0
 intro v1 h0
 unfold m96_k0 at h0
 refine Q4 ?_
 refine Qh (b:=v1) J (fun c3=>?_) (fun c3=>?_)
 replace h0:=Qk c3 h0
 refine Q5<|Q0<|rA J J J<|Q3<|Q4<|QD ?_
 have e:=sI h0;subst e
 exact QL (fun _ _ h=>h) J (QC J .nil) (.cons (.one (.d _)) .nil)
 replace h0:=Ql c3 h0
 refine Qm<|Q4<|Q5 ?_
 refine Jv [4,5] [(0,1),(1,1),(2,1),(3,1)] YQ (by kernel_rfl) (by kernel_rfl) (by kernel_rfl) ?_
 refine Qb h0 (fun x4 hx4 h0=>?_)
 refine RunA.rd J J J (Qq (m90_ok  x4 hx4) J .nil) J<|RunA.rd J J J (Q1 (Q2 Yb J)) J<|RunA.rd J J J (Q1 (Q6 QU J J J)) J ?_
 refine Qb h0 (fun x5 hx5 h0=>?_)
 refine Yo h0 (fun g6 h0=>?_)
 refine RunA.rd J J J (Q1 (RO.indexAgg (α:=Use) (tbl:=x4) as_135 J J g6 J hx5)) J<|RunA.eff J J J (Qj z_134 J) J<|RunA.eff J J J (Qz (x5:Use) ag_134 J J J J J) J ?_
 refine RunA.nil ⟨?ex,_,_,J,?_⟩
 case ex=>exact ⟨⟨_,rfl,_,_,rfl,rfl,rfl,.inl ⟨rfl,_,Qq (m90_ok  x4 hx4) rfl .nil,rfl⟩⟩,⟨_,rfl,_,_,rfl,rfl,rfl,.inl ⟨rfl,_,Q1 (Q2 Yb rfl),rfl⟩⟩,⟨_,rfl,_,_,rfl,rfl,rfl,.inl ⟨rfl,_,Q1 (Q6 QU rfl rfl rfl),rfl⟩⟩,⟨_,rfl,_,_,rfl,rfl,rfl,.inl ⟨rfl,_,Q1 (RO.indexAgg (α:=Use) (tbl:=x4) as_135 rfl rfl g6 rfl hx5),rfl⟩⟩,trivial⟩
 refine JW (st':=⟨[(1,.v (.one (.ptr 0 0))),(3,.v (.one (.ptr 1 0)))],[(0,.cells 33 (cE a0)),(1,.cells 134 (cE x5))],[],2,53,[]⟩) (sL (Nat.zero_le _) J J J J J)<|Q4<|Q5 ?_
 refine QS (fun (v7:Bool)=>⟨[(2,.v (.one (dB v7)))],[(0,.cells 33 (cE a0)),(1,.cells 134 (cE x5))],[],2,53,[]⟩) (fun (v7:Bool)=>(some v7)=some r) ?_ ?_
 refine Qb h0 (fun w1_ h1 h0=>?_)
 refine Q0<|rR J J J (Q2 fo_134_0 J)<|rR J J J (Q6 DR J J J)<|rM J J J ?_
 refine QG (d:=18) (c:=x5.index) J (fun c8=>?_) (fun c8=>?_)
 replace h1:=Qk c8 h1
 refine Q8 J J<|Q8 J J<|Q8 J J<|rR J J J (Qg J J)<|rM J J J<|rR J J J (Q2 fo_134_1 J)<|rR J J J (Q6 DR J J J)<|rM J J J ?_
 refine QG (d:=26) (c:=x5.name) J (fun c9=>?_) (fun c9=>?_)
 replace h1:=Qk c9 h1
 refine Q8 J J<|Q8 J J<|Q8 J J<|rR J J J (Qg J J)<|rR J J J (Qg J J)<|rM J J J<|rR J J J (Q2 Km J)<|rR J J J (Q6 QU J J J)<|rR J J J (Q7 J J J)<|rM J J J ?_
 refine QG (d:=36) (c:=(decide (x5.levels < 0))) J (fun c10=>?_) (fun c10=>?_)
 replace h1:=Qk c10 h1
 refine Q8 J J<|Q8 J J<|Q8 J J<|Q8 J J<|Q8 J J<|Q8 J J<|rR J J J (Qg J J)<|rR J J J (Qg J J)<|rM J J J<|rR J J J (Q2 JR J)<|rR J J J (Q6 JO J J J)<|rR J J J (QA (α:=Tm) Jl J (.d _))<|rR J J J (Q2 Kl J)<|rR J J J (Q6 QU J J J) ?_
 refine rR J J J (Q7 J J J)<|rR J J J (Qg J J)<|rA J J J<|Q3 ?_
 have e:=sI h1;subst e
 exact Qd ((a0.kids.length:Int)==x5.kids) (sL (Nat.zero_le _) J J J J J) h0
 replace h1:=Ql c10 h1
 refine rR J J J (Q2 Zu J)<|rR J J J (Q6 Xi J J J)<|rR J J J (QA (α:=Lvl) Zm J (.d _))<|rR J J J (Q2 Km J)<|rR J J J (Q6 QU J J J)<|rR J J J (Q7 J J J)<|rR J J J (Qc J J)<|rR J J J (Qg J J)<|rM J J J ?_
 refine QG (d:=45) (c:=((a0.levels.length:Int)==x5.levels)) J (fun c11=>?_) (fun c11=>?_)
 replace h1:=Qk c11 h1
 refine rR J J J (Q2 JR J)<|rR J J J (Q6 JO J J J)<|rR J J J (QA (α:=Tm) Jl J (.d _))<|rR J J J (Q2 Kl J)<|rR J J J (Q6 QU J J J)<|rR J J J (Q7 J J J)<|rR J J J (Qg J J)<|rA J J J<|Q3 ?_
 have e:=sI h1;subst e
 exact Qd ((a0.kids.length:Int)==x5.kids) (sL (Nat.zero_le _) J J J J J) h0
 replace h1:=Ql c11 h1
 refine Q8 J J<|Q8 J J<|Q8 J J<|Q8 J J<|Q8 J J<|Q8 J J<|rR J J J (Qc J J)<|rA J J J<|Q3 ?_
 have e:=sI h1;subst e
 exact Qd false (sL (Nat.zero_le _) J J J J J) h0
 replace h1:=Ql c9 h1
 refine rR J J J (Q2 Zg J)<|rR J J J (Q6 JV J J J)<|rR J J J (Xf J J)<|rR J J J (Qc J J)<|rR J J J (Qg J J)<|rM J J J ?_
 refine QG (d:=32) (c:=(a0.name==([]:List UInt8))) J (fun c12=>?_) (fun c12=>?_)
 replace h1:=Qk c12 h1
 refine rR J J J (Q2 Km J)<|rR J J J (Q6 QU J J J)<|rR J J J (Q7 J J J)<|rM J J J ?_
 refine QG (d:=36) (c:=(decide (x5.levels < 0))) J (fun c13=>?_) (fun c13=>?_)
 replace h1:=Qk c13 h1
 refine Q8 J J<|Q8 J J<|Q8 J J<|Q8 J J<|Q8 J J<|Q8 J J<|rR J J J (Qg J J)<|rR J J J (Qg J J)<|rM J J J<|rR J J J (Q2 JR J)<|rR J J J (Q6 JO J J J)<|rR J J J (QA (α:=Tm) Jl J (.d _))<|rR J J J (Q2 Kl J)<|rR J J J (Q6 QU J J J) ?_
 refine rR J J J (Q7 J J J)<|rR J J J (Qg J J)<|rA J J J<|Q3 ?_
 have e:=sI h1;subst e
 exact Qd ((a0.kids.length:Int)==x5.kids) (sL (Nat.zero_le _) J J J J J) h0
 replace h1:=Ql c13 h1
 refine rR J J J (Q2 Zu J)<|rR J J J (Q6 Xi J J J)<|rR J J J (QA (α:=Lvl) Zm J (.d _))<|rR J J J (Q2 Km J)<|rR J J J (Q6 QU J J J)<|rR J J J (Q7 J J J)<|rR J J J (Qc J J)<|rR J J J (Qg J J)<|rM J J J ?_
 refine QG (d:=45) (c:=((a0.levels.length:Int)==x5.levels)) J (fun c14=>?_) (fun c14=>?_)
 replace h1:=Qk c14 h1
 refine rR J J J (Q2 JR J)<|rR J J J (Q6 JO J J J)<|rR J J J (QA (α:=Tm) Jl J (.d _))<|rR J J J (Q2 Kl J)<|rR J J J (Q6 QU J J J)<|rR J J J (Q7 J J J)<|rR J J J (Qg J J)<|rA J J J<|Q3 ?_
 have e:=sI h1;subst e
 exact Qd ((a0.kids.length:Int)==x5.kids) (sL (Nat.zero_le _) J J J J J) h0
 replace h1:=Ql c14 h1
 refine Q8 J J<|Q8 J J<|Q8 J J<|Q8 J J<|Q8 J J<|Q8 J J<|rR J J J (Qc J J)<|rA J J J<|Q3 ?_
 have e:=sI h1;subst e
 exact Qd false (sL (Nat.zero_le _) J J J J J) h0
 replace h1:=Ql c12 h1
 refine Q8 J J<|Q8 J J<|Q8 J J<|Q8 J J<|Q8 J J<|Q8 J J<|Q8 J J<|Q8 J J<|Q8 J J<|Q8 J J<|Q8 J J<|rR J J J (Qc J J)<|rM J J J<|Q8 J J ?_
 refine Q8 J J<|Q8 J J<|Q8 J J<|Q8 J J<|Q8 J J<|rR J J J (Qc J J)<|rA J J J<|Q3 ?_
 have e:=sI h1;subst e
 exact Qd false (sL (Nat.zero_le _) J J J J J) h0
 replace h1:=Ql c8 h1
 refine rR J J J (Q2 Zh J)<|rR J J J (Q6 QU J J J)<|rR J J J (Q7 J J J)<|rR J J J (Qc J J)<|rM J J J ?_
 refine QG (d:=23) (c:=(a0.index==0)) J (fun c15=>?_) (fun c15=>?_)
 replace h1:=Qk c15 h1
 refine rR J J J (Q2 fo_134_1 J)<|rR J J J (Q6 DR J J J)<|rM J J J ?_
 refine QG (d:=26) (c:=x5.name) J (fun c16=>?_) (fun c16=>?_)
 replace h1:=Qk c16 h1
 refine Q8 J J<|Q8 J J<|Q8 J J<|rR J J J (Qg J J)<|rR J J J (Qg J J)<|rM J J J<|rR J J J (Q2 Km J)<|rR J J J (Q6 QU J J J)<|rR J J J (Q7 J J J)<|rM J J J ?_
 refine QG (d:=36) (c:=(decide (x5.levels < 0))) J (fun c17=>?_) (fun c17=>?_)
 replace h1:=Qk c17 h1
 refine Q8 J J<|Q8 J J<|Q8 J J<|Q8 J J<|Q8 J J<|Q8 J J<|rR J J J (Qg J J)<|rR J J J (Qg J J)<|rM J J J<|rR J J J (Q2 JR J)<|rR J J J (Q6 JO J J J)<|rR J J J (QA (α:=Tm) Jl J (.d _))<|rR J J J (Q2 Kl J)<|rR J J J (Q6 QU J J J) ?_
 refine rR J J J (Q7 J J J)<|rR J J J (Qg J J)<|rA J J J<|Q3 ?_
 have e:=sI h1;subst e
 exact Qd ((a0.kids.length:Int)==x5.kids) (sL (Nat.zero_le _) J J J J J) h0
 replace h1:=Ql c17 h1
 refine rR J J J (Q2 Zu J)<|rR J J J (Q6 Xi J J J)<|rR J J J (QA (α:=Lvl) Zm J (.d _))<|rR J J J (Q2 Km J)<|rR J J J (Q6 QU J J J)<|rR J J J (Q7 J J J)<|rR J J J (Qc J J)<|rR J J J (Qg J J)<|rM J J J ?_
 refine QG (d:=45) (c:=((a0.levels.length:Int)==x5.levels)) J (fun c18=>?_) (fun c18=>?_)
 replace h1:=Qk c18 h1
 refine rR J J J (Q2 JR J)<|rR J J J (Q6 JO J J J)<|rR J J J (QA (α:=Tm) Jl J (.d _))<|rR J J J (Q2 Kl J)<|rR J J J (Q6 QU J J J)<|rR J J J (Q7 J J J)<|rR J J J (Qg J J)<|rA J J J<|Q3 ?_
 have e:=sI h1;subst e
 exact Qd ((a0.kids.length:Int)==x5.kids) (sL (Nat.zero_le _) J J J J J) h0
 replace h1:=Ql c18 h1
 refine Q8 J J<|Q8 J J<|Q8 J J<|Q8 J J<|Q8 J J<|Q8 J J<|rR J J J (Qc J J)<|rA J J J<|Q3 ?_
 have e:=sI h1;subst e
 exact Qd false (sL (Nat.zero_le _) J J J J J) h0
 replace h1:=Ql c16 h1
 refine rR J J J (Q2 Zg J)<|rR J J J (Q6 JV J J J)<|rR J J J (Xf J J)<|rR J J J (Qc J J)<|rR J J J (Qg J J)<|rM J J J ?_
 refine QG (d:=32) (c:=(a0.name==([]:List UInt8))) J (fun c19=>?_) (fun c19=>?_)
 replace h1:=Qk c19 h1
 refine rR J J J (Q2 Km J)<|rR J J J (Q6 QU J J J)<|rR J J J (Q7 J J J)<|rM J J J ?_
 refine QG (d:=36) (c:=(decide (x5.levels < 0))) J (fun c20=>?_) (fun c20=>?_)
 replace h1:=Qk c20 h1
 refine Q8 J J<|Q8 J J<|Q8 J J<|Q8 J J<|Q8 J J<|Q8 J J<|rR J J J (Qg J J)<|rR J J J (Qg J J)<|rM J J J<|rR J J J (Q2 JR J)<|rR J J J (Q6 JO J J J)<|rR J J J (QA (α:=Tm) Jl J (.d _))<|rR J J J (Q2 Kl J)<|rR J J J (Q6 QU J J J) ?_
 refine rR J J J (Q7 J J J)<|rR J J J (Qg J J)<|rA J J J<|Q3 ?_
 have e:=sI h1;subst e
 exact Qd ((a0.kids.length:Int)==x5.kids) (sL (Nat.zero_le _) J J J J J) h0
 replace h1:=Ql c20 h1
 refine rR J J J (Q2 Zu J)<|rR J J J (Q6 Xi J J J)<|rR J J J (QA (α:=Lvl) Zm J (.d _))<|rR J J J (Q2 Km J)<|rR J J J (Q6 QU J J J)<|rR J J J (Q7 J J J)<|rR J J J (Qc J J)<|rR J J J (Qg J J)<|rM J J J ?_
 refine QG (d:=45) (c:=((a0.levels.length:Int)==x5.levels)) J (fun c21=>?_) (fun c21=>?_)
 replace h1:=Qk c21 h1
 refine rR J J J (Q2 JR J)<|rR J J J (Q6 JO J J J)<|rR J J J (QA (α:=Tm) Jl J (.d _))<|rR J J J (Q2 Kl J)<|rR J J J (Q6 QU J J J)<|rR J J J (Q7 J J J)<|rR J J J (Qg J J)<|rA J J J<|Q3 ?_
 have e:=sI h1;subst e
 exact Qd ((a0.kids.length:Int)==x5.kids) (sL (Nat.zero_le _) J J J J J) h0
 replace h1:=Ql c21 h1
 refine Q8 J J<|Q8 J J<|Q8 J J<|Q8 J J<|Q8 J J<|Q8 J J<|rR J J J (Qc J J)<|rA J J J<|Q3 ?_
 have e:=sI h1;subst e
 exact Qd false (sL (Nat.zero_le _) J J J J J) h0
 replace h1:=Ql c19 h1
 refine Q8 J J<|Q8 J J<|Q8 J J<|Q8 J J<|Q8 J J<|Q8 J J<|Q8 J J<|Q8 J J<|Q8 J J<|Q8 J J<|Q8 J J<|rR J J J (Qc J J)<|rM J J J<|Q8 J J ?_
 refine Q8 J J<|Q8 J J<|Q8 J J<|Q8 J J<|Q8 J J<|rR J J J (Qc J J)<|rA J J J<|Q3 ?_
 have e:=sI h1;subst e
 exact Qd false (sL (Nat.zero_le _) J J J J J) h0
 replace h1:=Ql c15 h1
 refine Q8 J J<|Q8 J J<|Q8 J J<|Q8 J J<|Q8 J J<|Q8 J J<|Q8 J J<|rR J J J (Qc J J)<|rM J J J<|Q8 J J<|Q8 J J<|Q8 J J<|Q8 J J<|Q8 J J ?_
 refine Q8 J J<|Q8 J J<|Q8 J J<|Q8 J J<|Q8 J J<|Q8 J J<|rR J J J (Qc J J)<|rM J J J<|Q8 J J<|Q8 J J<|Q8 J J<|Q8 J J<|Q8 J J<|Q8 J J ?_
 refine rR J J J (Qc J J)<|rA J J J<|Q3 ?_
 have e:=sI h1;subst e
 exact Qd false (sL (Nat.zero_le _) J J J J J) h0
 intro v7 h0
 refine Q4<|QD ?_
 have e:=sI h0;subst e
 exact QL (fun _ _ h=>h) J (QC J .nil) (.cons (.one (.d _)) .nil)
def Wi (a1:Lvl) (a0:Scp) (s1:Int):Option (LO Int (Unit⊕Int)) :=
 cond (decide (s1 < (a1.vs.length:Int)))
   (Option.bind (JC a1.vs s1) fun (x5:LV) =>
 cond (decide (a0.params≤x5.1))
   (some (.done (.inr 15)))
   (some (.next (J9 (s1+1)))))
   (some (.done (.inl ())))
def Xq (a1:Lvl) (a0:Scp) (s1:Int):Option (LO Int (Unit⊕Int)) :=
 cond (decide (s1 < (a1.vs.length:Int)))
   (Option.bind (JC a1.vs s1) fun (x6:LV) =>
 Option.bind (cond (decide (x6.1 < 0))
   (some (decide (a0.levels≤(J9 ((-1) - x6.1)))))
   (some false)) (fun (v7:Bool)=>cond v7
   (some (.done (.inr 23)))
   (some (.next (J9 (s1+1))))))
   (some (.done (.inl ())))
noncomputable abbrev m97_h0 (p0_:Scp) (p1_:Lvl) (p2_:LV):List (Nat×HB) :=
 [(0,.cells 127 (cE p0_)),(1,.cells 87 (cE p1_)),(2,.cells 124 (cE p2_))]
def m97 (a0:Scp) (a1:Lvl):Option Int :=
 Option.bind (Dw a1) fun (x1:Bool) =>
 cond (!x1)
   (some 3)
   (Option.bind (Qp (Wi a1 a0) QF 0) (Sum.elim (fun (o3:Unit)=>Option.bind (Qp (Xq a1 a0) QF 0) (Sum.elim (fun (o4:Unit)=>some 0) (fun o=>some o))) (fun o=>some o)))
theorem m97_ok (a0:Scp) (a1:Lvl) (r:Int) (h0:m97 a0 a1=some r):Fun Try.prog 97 [.agg (cE a0),.agg (cE a1)] (QK [.one (dI r)]):=by
 unfold m97 at h0
 refine QZ 9 44 Try.func97 J en_97 J (lb J) (fun S w=>?_)
 simp only [Ja]
 refine Q5<|Q0<|Q9 J J (lb J) (QT J)<|Q9 J J (lb J) (QT J)<|rA J J J<|Q3<|Q4<|Q5<|Q5<|Q0<|rR J J J (QN (a1:Lvl) Ky J J) ?_
 refine Qb h0 (fun x1 hx1 h0=>?_)
 refine Q9 J J (lb J) (Qq (m103_ok a1 x1 hx1) J (.cons (.agg (.cons (.d _) (.cons (.d _) .nil))) .nil))<|rR J J J (Ji J)<|Q3<|Q4 ?_
 refine Qh (b:=(!x1)) J (fun c2=>?_) (fun c2=>?_)
 replace h0:=Qk c2 h0
 refine Q5<|Q0<|rA J J J<|Q3<|Q4<|QD ?_
 have e:=sI h0;subst e
 exact QL (fun _ _ h=>h) J (QC J .nil) (.cons (.one (.d _)) .nil)
 replace h0:=Ql c2 h0
 refine Qm<|Q4<|Q5<|Q5<|Q0<|rR J J J (Q2 Zt J)<|rR J J J (Q6 Xh J J J)<|rR J J J (QA (α:=LV) ZJ J (.d _))<|rM J J J<|Q3<|Q4<|Qf ?_
 refine QY 0 (fun (o3:Unit)=>⟨[(2,.v (.one (.ptr 0 0))),(3,.v (.one (.ptr 1 0)))],[(0,.cells 127 (cE a0)),(1,.cells 87 (cE a1))],[],2,44,[]⟩) (fun (o3:Unit)=>(Option.bind (Qp (Xq a1 a0) QF 0) (Sum.elim (fun (o4:Unit)=>some 0) (fun o=>some o)))=some r) ?_ ?_
 refine Qb h0 (fun o4 hl1 h0=>?_)
 refine QX (Wi a1 a0) (fun s1=>⟨[(2,.v (.one (.ptr 0 0))),(3,.v (.one (.ptr 1 0))),(13,.v (.one (dS a1.vs))),(14,.v (.one (dI (a1.vs.length:Int)))),(15,.v (.one (dI s1)))],[(0,.cells 127 (cE a0)),(1,.cells 87 (cE a1))],[],2,44,[]⟩) 0 o4 (sL (Nat.zero_le _) J J J J J) hl1 (fun s1 n1 oo1 h1 ho1=>?_)
 unfold Wi at h1
 refine Q5<|Q0<|rR J J J (Q7 J J J)<|Q3<|Q4<|Q5 ?_
 refine Qh (b:=(decide (s1 < (a1.vs.length:Int)))) J (fun c5=>?_) (fun c5=>?_)
 replace h1:=Qk c5 h1
 refine Qm<|Q4<|Q5<|Qf<|Q5<|Q0 ?_
 refine Qb h1 (fun x6 hx6 h1=>?_)
 refine rR J J J (Qy (α:=LV) ZJ J (.d _) J hx6)<|rR J J J (Qv (x6:LV) Gh J)<|Q9 J J (lb J) (Qj z_124 J)<|Qx J J (Qz (x6:LV) Gh J J J J J)<|Q3<|Q4<|Q5<|Q0<|rR J J J (Q2 Ge J)<|rR J J J (Q6 QU J J J)<|rR J J J (Q2 fo_127_1 J)<|rR J J J (Q6 QU J J J)<|rR J J J (Q7 J J J)<|Q3 ?_
 refine Q4 ?_
 refine Qh (b:=(decide (a0.params≤x6.1))) J (fun c7=>?_) (fun c7=>?_)
 replace h1:=Qk c7 h1
 refine Q5<|Q0<|rA J J J<|Q3<|Q4<|QD ?_
 have e:=sI h1;subst e
 have e_:_=_:=ho1
 subst e_
 try dsimp only [Sum.elim_inl,Sum.elim_inr] at h0
 have e:=sI h0;subst e
 exact QL (fun _ _ h=>h) J (QC J .nil) (.cons (.one (.d _)) .nil)
 replace h1:=Ql c7 h1
 refine Qm<|Qe<|Q4<|Q0<|rR J J J (Q7 J J J)<|rM J J J<|Q3 ?_
 have e:=sI h1;subst e
 refine QR (J9 (s1+1)) (sL (Nat.zero_le _) J J J J J) ho1
 replace h1:=Ql c5 h1
 refine J5<|Qo<|Qo ?_
 have e:=sI h1;subst e
 have e_:_=_:=ho1
 subst e_
 exact QW () (sL (Nat.zero_le _) J J J J J) h0
 intro o3 h0
 refine QM<|Q4<|Q5<|Q5<|Q0<|rR J J J (Q2 Zt J)<|rR J J J (Q6 Xh J J J)<|rR J J J (QA (α:=LV) ZJ J (.d _))<|rM J J J<|Q3<|Q4<|Qf ?_
 refine QY 2 (fun (o8:Unit)=>⟨[],[(0,.cells 127 (cE a0)),(1,.cells 87 (cE a1))],[],2,44,[]⟩) (fun (o8:Unit)=>(some 0)=some r) ?_ ?_
 refine Qb h0 (fun o9 hl1 h0=>?_)
 refine QX (Xq a1 a0) (fun s1=>⟨[(2,.v (.one (.ptr 0 0))),(26,.v (.one (dS a1.vs))),(27,.v (.one (dI (a1.vs.length:Int)))),(28,.v (.one (dI s1)))],[(0,.cells 127 (cE a0)),(1,.cells 87 (cE a1))],[],2,44,[]⟩) 0 o9 (sL (Nat.zero_le _) J J J J J) hl1 (fun s1 n1 oo1 h1 ho1=>?_)
 unfold Xq at h1
 refine Q5<|Q0<|rR J J J (Q7 J J J)<|Q3<|Q4<|Q5 ?_
 refine Qh (b:=(decide (s1 < (a1.vs.length:Int)))) J (fun c10=>?_) (fun c10=>?_)
 replace h1:=Qk c10 h1
 refine Qm<|Q4<|Q5<|Qf<|Q5<|Q0 ?_
 refine Qb h1 (fun x11 hx11 h1=>?_)
 refine rR J J J (Qy (α:=LV) ZJ J (.d _) J hx11)<|rR J J J (Qv (x11:LV) Gh J)<|Q9 J J (lb J) (Qj z_124 J)<|Qx J J (Qz (x11:LV) Gh J J J J J)<|Q3<|Q4<|Q5 ?_
 refine QS (fun (v12:Bool)=>⟨[(2,.v (.one (.ptr 0 0))),(26,.v (.one (dS a1.vs))),(27,.v (.one (dI (a1.vs.length:Int)))),(28,.v (.one (dI s1))),(42,.v (.one (dB v12)))],m97_h0 a0 a1 x11,[],3,44,[]⟩) (fun (v12:Bool)=>(cond v12
     (some (.done (.inr 23)))
     (some (.next (J9 (s1+1)))))=some oo1) ?_ ?_
 refine Qb h1 (fun w2_ h2 h1=>?_)
 refine Q0<|rR J J J (Q2 Ge J)<|rR J J J (Q6 QU J J J)<|rR J J J (Q7 J J J)<|rM J J J ?_
 refine QG (d:=35) (c:=(decide (x11.1 < 0))) J (fun c13=>?_) (fun c13=>?_)
 replace h2:=Qk c13 h2
 refine rR J J J (Q2 Ge J)<|rR J J J (Q6 QU J J J)<|rR J J J (Q7 J J J)<|rR J J J (Q2 fo_127_3 J)<|rR J J J (Q6 QU J J J)<|rR J J J (Q7 J J J)<|rR J J J (Qg J J)<|Q3 ?_
 have e:=sI h2;subst e
 exact Qd (decide (a0.levels≤(J9 ((-1) - x11.1)))) (sL (Nat.zero_le _) J J J J J) h1
 replace h2:=Ql c13 h2
 refine Q8 J J<|Q8 J J<|Q8 J J<|Q8 J J<|Q8 J J<|Q8 J J<|rR J J J (Qc J J)<|Q3 ?_
 have e:=sI h2;subst e
 exact Qd false (sL (Nat.zero_le _) J J J J J) h1
 intro v12 h1
 refine Q4 ?_
 refine Qh (b:=v12) J (fun c14=>?_) (fun c14=>?_)
 replace h1:=Qk c14 h1
 refine Q5<|Q0<|rA J J J<|Q3<|Q4<|QD ?_
 have e:=sI h1;subst e
 have e_:_=_:=ho1
 subst e_
 try dsimp only [Sum.elim_inl,Sum.elim_inr] at h0
 have e:=sI h0;subst e
 exact QL (fun _ _ h=>h) J (QC J .nil) (.cons (.one (.d _)) .nil)
 replace h1:=Ql c14 h1
 refine Qm<|Qe<|Q4<|Q0<|rR J J J (Q7 J J J)<|rM J J J<|Q3 ?_
 have e:=sI h1;subst e
 refine QR (J9 (s1+1)) (sL (Nat.zero_le _) J J J J J) ho1
 replace h1:=Ql c10 h1
 refine J5<|Qo<|Qo ?_
 have e:=sI h1;subst e
 have e_:_=_:=ho1
 subst e_
 exact QW () (sL (Nat.zero_le _) J J J J J) h0
 intro o8 h0
 refine QM<|Q4<|Q5<|Q0<|rA J J J<|Q3<|Q4<|QD ?_
 have e:=sI h0;subst e
 exact QL (fun _ _ h=>h) J (QC J .nil) (.cons (.one (.d _)) .nil)
def Ku (a1:Tm) (a0:Scp) (s1:Int):Option (LO Int (Unit⊕Int)) :=
 cond (decide (s1 < (a1.levels.length:Int)))
   (Option.bind (JC a1.levels s1) fun (x9:Lvl) =>
 Option.bind (m97 a0 x9) fun (x10:Int) =>
 cond (x10 != 0)
   (some (.done (.inr x10)))
   (some (.next (J9 (s1+1)))))
   (some (.done (.inl ())))
def G1 (p0_:Tm) (p1_:Scp) (p2_:Int):Option Int :=
 Option.bind (cond (p0_.kind==0)
   (cond (decide (p0_.index < 0))
   (some true)
   (some (decide (p1_.vars≤(J9 (p0_.index - p2_))))))
   (some false)) (fun (b0_:Bool)=>cond b0_
   (some 24)
   (Option.bind (cond (p0_.kind==12)
   (cond (decide (p0_.index < 0))
   (some true)
   (some (decide (p1_.metas≤p0_.index))))
   (some false)) (fun (b1_:Bool)=>cond b1_
   (some 23)
   (some 0))))
def m80 (a0:Scp) (a1:Tm) (a2:Int):Option Int :=
 Option.bind (DY a1) fun (x1:Bool) =>
 cond (!x1)
   (some 3)
   (cond (a1.kind==3)
   (Option.bind (m65 a1.name) fun (x4:Bool) =>
 cond (!x4)
   (some 29)
   (cond (decide (8 < (a1.levels.length:Int)))
   (some 6)
   (Option.bind (Qp (Ku a1 a0) QF 0) (Sum.elim (fun (o7:Unit)=>G1 a1 a0 a2) (fun o=>some o)))))
   (Option.bind (Qp (Ku a1 a0) QF 0) (Sum.elim (fun (o21:Unit)=>G1 a1 a0 a2) (fun o=>some o))))
theorem m80_ok (a0:Scp) (a1:Tm) (a2:Int) (r:Int) (h0:m80 a0 a1 a2=some r):Fun Try.prog 80 [.agg (cE a0),.agg (cE a1),.one (dI a2)] (QK [.one (dI r)]):=by
 unfold m80 at h0
 refine QZ 9 72 Try.func80 J en_80 J (lb J) (fun S w=>?_)
 simp only [Ja]
 refine Q5<|Q0<|Q9 J J (lb J) (QT J)<|Q9 J J (lb J) (QT J)<|rA J J J<|Q3<|Q4<|Q5<|Q5<|Q0<|rR J J J (QN (a1:Tm) QV J J) ?_
 refine Qb h0 (fun x1 hx1 h0=>?_)
 refine Q9 J J (lb J) (Qq (m96_ok a1 x1 hx1) J (.cons (.agg (.cons (.d _) (.cons (.d _) (.cons (.d _) (.cons (.d _) (.cons (.d _) .nil)))))) .nil))<|rR J J J (Ji J)<|Q3<|Q4 ?_
 refine Qh (b:=(!x1)) J (fun c2=>?_) (fun c2=>?_)
 replace h0:=Qk c2 h0
 refine Q5<|Q0<|rA J J J<|Q3<|Q4<|QD ?_
 have e:=sI h0;subst e
 exact QL (fun _ _ h=>h) J (QC J .nil) (.cons (.one (.d _)) .nil)
 replace h0:=Ql c2 h0
 refine Qm<|Q4<|Q5<|Q5<|Q0<|rR J J J (Q2 Yb J)<|rR J J J (Q6 QU J J J)<|rR J J J (Q7 J J J)<|Q3<|Q4 ?_
 refine Qh (b:=(a1.kind==3)) J (fun c3=>?_) (fun c3=>?_)
 replace h0:=Qk c3 h0
 refine Q5<|Q5<|Q0<|rR J J J (Q2 Zg J)<|rR J J J (Q6 JV J J J) ?_
 refine Qb h0 (fun x4 hx4 h0=>?_)
 refine Q9 J J (lb J) (Qq (m65_ok a1.name x4 hx4) J (.cons (.one (.d _)) .nil))<|rR J J J (Ji J)<|Q3<|Q4 ?_
 refine Qh (b:=(!x4)) J (fun c5=>?_) (fun c5=>?_)
 replace h0:=Qk c5 h0
 refine Q5<|Q0<|rA J J J<|Q3<|Q4<|QD ?_
 have e:=sI h0;subst e
 exact QL (fun _ _ h=>h) J (QC J .nil) (.cons (.one (.d _)) .nil)
 replace h0:=Ql c5 h0
 refine Qm<|Q4<|Q5<|Q0<|rR J J J (Q2 Zu J)<|rR J J J (Q6 Xi J J J)<|rR J J J (QA (α:=Lvl) Zm J (.d _))<|rR J J J (Q7 J J J)<|Q3<|Q4 ?_
 refine Qh (b:=(decide (8 < (a1.levels.length:Int)))) J (fun c6=>?_) (fun c6=>?_)
 replace h0:=Qk c6 h0
 refine Q5<|Q0<|rA J J J<|Q3<|Q4<|QD ?_
 have e:=sI h0;subst e
 exact QL (fun _ _ h=>h) J (QC J .nil) (.cons (.one (.d _)) .nil)
 replace h0:=Ql c6 h0
 refine Qm<|Q4<|Q5<|Q5<|Q0<|rR J J J (Q2 Zu J)<|rR J J J (Q6 Xi J J J)<|rR J J J (QA (α:=Lvl) Zm J (.d _))<|rM J J J<|Q3<|Q4<|Qf ?_
 refine QY 0 (fun (o7:Unit)=>⟨[(2,.v (.one (dI a2))),(3,.v (.one (.ptr 0 0))),(4,.v (.one (.ptr 1 0)))],[(0,.cells 127 (cE a0)),(1,.cells 33 (cE a1))],[],2,72,[]⟩) (fun (o7:Unit)=>(G1 a1 a0 a2)=some r) ?_ ?_
 refine Qb h0 (fun o8 hl1 h0=>?_)
 refine QX (Ku a1 a0) (fun s1=>⟨[(2,.v (.one (dI a2))),(3,.v (.one (.ptr 0 0))),(4,.v (.one (.ptr 1 0))),(25,.v (.one (dS a1.levels))),(26,.v (.one (dI (a1.levels.length:Int)))),(27,.v (.one (dI s1)))],[(0,.cells 127 (cE a0)),(1,.cells 33 (cE a1))],[],2,72,[]⟩) 0 o8 (sL (Nat.zero_le _) J J J J J) hl1 (fun s1 n1 oo1 h1 ho1=>?_)
 unfold Ku at h1
 refine Q5<|Q0<|rR J J J (Q7 J J J)<|Q3<|Q4<|Q5 ?_
 refine Qh (b:=(decide (s1 < (a1.levels.length:Int)))) J (fun c9=>?_) (fun c9=>?_)
 replace h1:=Qk c9 h1
 refine Qm<|Q4<|Q5<|Qf<|Q5<|Q0 ?_
 refine Qb h1 (fun x10 hx10 h1=>?_)
 refine rR J J J (Qy (α:=Lvl) Zm J (.d _) J hx10)<|rR J J J (Qv (x10:Lvl) Ky J)<|Q9 J J (lb J) (Qj Dz J)<|Qx J J (Qz (x10:Lvl) Ky J J J J J)<|Q3<|Q4<|Q5<|Q0<|rR J J J (QN (a0:Scp) ag_127 J J)<|rR J J J (QN (x10:Lvl) Ky J J) ?_
 refine Qb h1 (fun x11 hx11 h1=>?_)
 refine Q9 J J (lb J) (Qq (m97_ok a0 x10 x11 hx11) J (.cons (.agg (.cons (.d _) (.cons (.d _) (.cons (.d _) (.cons (.d _) .nil))))) (.cons (.agg (.cons (.d _) (.cons (.d _) .nil))) .nil)))<|rA J J J<|Q3<|Q4<|Q5<|Q0<|rM J J J<|rR J J J (Q7 J J J)<|Q3<|Q4 ?_
 refine Qh (b:=(x11 != 0)) J (fun c12=>?_) (fun c12=>?_)
 replace h1:=Qk c12 h1
 refine Q5<|Q0<|rM J J J<|rA J J J<|Q3<|Q4<|QD ?_
 have e:=sI h1;subst e
 have e_:_=_:=ho1
 subst e_
 try dsimp only [Sum.elim_inl,Sum.elim_inr] at h0
 have e:=sI h0;subst e
 exact QL (fun _ _ h=>h) J (QC J .nil) (.cons (.one (.d _)) .nil)
 replace h1:=Ql c12 h1
 refine Qm<|Qe<|Q4<|Q0<|rR J J J (Q7 J J J)<|rM J J J<|Q3 ?_
 have e:=sI h1;subst e
 refine QR (J9 (s1+1)) (sL (Nat.zero_le _) J J J J J) ho1
 replace h1:=Ql c9 h1
 refine J5<|Qo<|Qo ?_
 have e:=sI h1;subst e
 have e_:_=_:=ho1
 subst e_
 exact QW () (sL (Nat.zero_le _) J J J J J) h0
 intro o7 h0
 unfold G1 at h0
 refine QM<|Q4<|Q5<|Qf<|Q5 ?_
 refine QS (fun (v13:Bool)=>⟨[(3,.v (.one (.ptr 0 0))),(4,.v (.one (.ptr 1 0))),(38,.v (.one (dB v13)))],[(0,.cells 127 (cE a0)),(1,.cells 33 (cE a1))],[],2,72,[]⟩) (fun (v13:Bool)=>(cond v13
     (some 24)
     (Option.bind (cond (a1.kind==12)
     (cond (decide (a1.index < 0))
     (some true)
     (some (decide (a0.metas≤a1.index))))
     (some false)) (fun (v15:Bool)=>cond v15
     (some 23)
     (some 0))))=some r) ?_ ?_
 refine Qb h0 (fun w1_ h1 h0=>?_)
 refine Q0<|rR J J J (Q2 Yb J)<|rR J J J (Q6 QU J J J)<|rR J J J (Q7 J J J)<|rM J J J ?_
 refine QG (d:=42) (c:=(a1.kind==0)) J (fun c14=>?_) (fun c14=>?_)
 replace h1:=Qk c14 h1
 refine rR J J J (Q2 Zh J)<|rR J J J (Q6 QU J J J)<|rR J J J (Q7 J J J)<|rM J J J ?_
 refine QG (d:=46) (c:=(decide (a1.index < 0))) J (fun c15=>?_) (fun c15=>?_)
 replace h1:=Qk c15 h1
 refine Q8 J J<|Q8 J J<|Q8 J J<|Q8 J J<|Q8 J J<|Q8 J J<|Q8 J J<|rR J J J (Qg J J)<|rR J J J (Qg J J)<|rA J J J<|Q3 ?_
 have e:=sI h1;subst e
 exact Qd true (sL (Nat.zero_le _) J J J J J) h0
 replace h1:=Ql c15 h1
 refine rR J J J (Q2 Zh J)<|rR J J J (Q6 QU J J J)<|rM J J J<|rR J J J (Q7 J J J)<|rR J J J (Q2 fo_127_0 J)<|rR J J J (Q6 QU J J J)<|rR J J J (Q7 J J J)<|rR J J J (Qc J J)<|rR J J J (Qg J J)<|rA J J J<|Q3 ?_
 have e:=sI h1;subst e
 exact Qd (decide (a0.vars≤(J9 (a1.index - a2)))) (sL (Nat.zero_le _) J J J J J) h0
 replace h1:=Ql c14 h1
 refine Q8 J J<|Q8 J J<|Q8 J J<|Q8 J J<|Q8 J J<|Q8 J J<|Q8 J J<|Q8 J J<|Q8 J J<|Q8 J J<|Q8 J J<|Q8 J J<|rR J J J (Qc J J)<|rA J J J ?_
 refine Q3 ?_
 have e:=sI h1;subst e
 exact Qd false (sL (Nat.zero_le _) J J J J J) h0
 intro v13 h0
 refine Q4 ?_
 refine Qh (b:=v13) J (fun c16=>?_) (fun c16=>?_)
 replace h0:=Qk c16 h0
 refine Q5<|Q0<|rA J J J<|Q3<|Q4<|QD ?_
 have e:=sI h0;subst e
 exact QL (fun _ _ h=>h) J (QC J .nil) (.cons (.one (.d _)) .nil)
 replace h0:=Ql c16 h0
 refine Q5 ?_
 refine QS (fun (v17:Bool)=>⟨[(56,.v (.one (dB v17)))],[(0,.cells 127 (cE a0)),(1,.cells 33 (cE a1))],[],2,72,[]⟩) (fun (v17:Bool)=>(cond v17
     (some 23)
     (some 0))=some r) ?_ ?_
 refine Qb h0 (fun w1_ h1 h0=>?_)
 refine Q0<|rR J J J (Q2 Yb J)<|rR J J J (Q6 QU J J J)<|rR J J J (Q7 J J J)<|rM J J J ?_
 refine QG (d:=60) (c:=(a1.kind==12)) J (fun c18=>?_) (fun c18=>?_)
 replace h1:=Qk c18 h1
 refine rR J J J (Q2 Zh J)<|rR J J J (Q6 QU J J J)<|rR J J J (Q7 J J J)<|rM J J J ?_
 refine QG (d:=64) (c:=(decide (a1.index < 0))) J (fun c19=>?_) (fun c19=>?_)
 replace h1:=Qk c19 h1
 refine Q8 J J<|Q8 J J<|Q8 J J<|Q8 J J<|Q8 J J<|rR J J J (Qg J J)<|rR J J J (Qg J J)<|rA J J J<|Q3 ?_
 have e:=sI h1;subst e
 exact Qd true (sL (Nat.zero_le _) J J J J J) h0
 replace h1:=Ql c19 h1
 refine rR J J J (Q2 Zh J)<|rR J J J (Q6 QU J J J)<|rR J J J (Q2 fo_127_2 J)<|rR J J J (Q6 QU J J J)<|rR J J J (Q7 J J J)<|rR J J J (Qc J J)<|rR J J J (Qg J J)<|rA J J J<|Q3 ?_
 have e:=sI h1;subst e
 exact Qd (decide (a0.metas≤a1.index)) (sL (Nat.zero_le _) J J J J J) h0
 replace h1:=Ql c18 h1
 refine Q8 J J<|Q8 J J<|Q8 J J<|Q8 J J<|Q8 J J<|Q8 J J<|Q8 J J<|Q8 J J<|Q8 J J<|Q8 J J<|rR J J J (Qc J J)<|rA J J J<|Q3 ?_
 have e:=sI h1;subst e
 exact Qd false (sL (Nat.zero_le _) J J J J J) h0
 intro v17 h0
 refine Q4 ?_
 refine Qh (b:=v17) J (fun c20=>?_) (fun c20=>?_)
 replace h0:=Qk c20 h0
 refine Q5<|Q0<|rA J J J<|Q3<|Q4<|QD ?_
 have e:=sI h0;subst e
 exact QL (fun _ _ h=>h) J (QC J .nil) (.cons (.one (.d _)) .nil)
 replace h0:=Ql c20 h0
 refine Qm<|Qe<|Q4<|Q5<|Q0<|rA J J J<|Q3<|Q4<|QD ?_
 have e:=sI h0;subst e
 exact QL (fun _ _ h=>h) J (QC J .nil) (.cons (.one (.d _)) .nil)
 replace h0:=Ql c3 h0
 refine Qm<|Q4<|Q5<|Q5<|Q0<|rR J J J (Q2 Zu J)<|rR J J J (Q6 Xi J J J)<|rR J J J (QA (α:=Lvl) Zm J (.d _))<|rM J J J<|Q3<|Q4<|Qf ?_
 refine QY 0 (fun (o21:Unit)=>⟨[(2,.v (.one (dI a2))),(3,.v (.one (.ptr 0 0))),(4,.v (.one (.ptr 1 0)))],[(0,.cells 127 (cE a0)),(1,.cells 33 (cE a1))],[],2,72,[]⟩) (fun (o21:Unit)=>(G1 a1 a0 a2)=some r) ?_ ?_
 refine Qb h0 (fun o22 hl1 h0=>?_)
 refine QX (Ku a1 a0) (fun s1=>⟨[(2,.v (.one (dI a2))),(3,.v (.one (.ptr 0 0))),(4,.v (.one (.ptr 1 0))),(25,.v (.one (dS a1.levels))),(26,.v (.one (dI (a1.levels.length:Int)))),(27,.v (.one (dI s1)))],[(0,.cells 127 (cE a0)),(1,.cells 33 (cE a1))],[],2,72,[]⟩) 0 o22 (sL (Nat.zero_le _) J J J J J) hl1 (fun s1 n1 oo1 h1 ho1=>?_)
 unfold Ku at h1
 refine Q5<|Q0<|rR J J J (Q7 J J J)<|Q3<|Q4<|Q5 ?_
 refine Qh (b:=(decide (s1 < (a1.levels.length:Int)))) J (fun c23=>?_) (fun c23=>?_)
 replace h1:=Qk c23 h1
 refine Qm<|Q4<|Q5<|Qf<|Q5<|Q0 ?_
 refine Qb h1 (fun x24 hx24 h1=>?_)
 refine rR J J J (Qy (α:=Lvl) Zm J (.d _) J hx24)<|rR J J J (Qv (x24:Lvl) Ky J)<|Q9 J J (lb J) (Qj Dz J)<|Qx J J (Qz (x24:Lvl) Ky J J J J J)<|Q3<|Q4<|Q5<|Q0<|rR J J J (QN (a0:Scp) ag_127 J J)<|rR J J J (QN (x24:Lvl) Ky J J) ?_
 refine Qb h1 (fun x25 hx25 h1=>?_)
 refine Q9 J J (lb J) (Qq (m97_ok a0 x24 x25 hx25) J (.cons (.agg (.cons (.d _) (.cons (.d _) (.cons (.d _) (.cons (.d _) .nil))))) (.cons (.agg (.cons (.d _) (.cons (.d _) .nil))) .nil)))<|rA J J J<|Q3<|Q4<|Q5<|Q0<|rM J J J<|rR J J J (Q7 J J J)<|Q3<|Q4 ?_
 refine Qh (b:=(x25 != 0)) J (fun c26=>?_) (fun c26=>?_)
 replace h1:=Qk c26 h1
 refine Q5<|Q0<|rM J J J<|rA J J J<|Q3<|Q4<|QD ?_
 have e:=sI h1;subst e
 have e_:_=_:=ho1
 subst e_
 try dsimp only [Sum.elim_inl,Sum.elim_inr] at h0
 have e:=sI h0;subst e
 exact QL (fun _ _ h=>h) J (QC J .nil) (.cons (.one (.d _)) .nil)
 replace h1:=Ql c26 h1
 refine Qm<|Qe<|Q4<|Q0<|rR J J J (Q7 J J J)<|rM J J J<|Q3 ?_
 have e:=sI h1;subst e
 refine QR (J9 (s1+1)) (sL (Nat.zero_le _) J J J J J) ho1
 replace h1:=Ql c23 h1
 refine J5<|Qo<|Qo ?_
 have e:=sI h1;subst e
 have e_:_=_:=ho1
 subst e_
 exact QW () (sL (Nat.zero_le _) J J J J J) h0
 intro o21 h0
 unfold G1 at h0
 refine QM<|Q4<|Q5<|Qf<|Q5 ?_
 refine QS (fun (v27:Bool)=>⟨[(3,.v (.one (.ptr 0 0))),(4,.v (.one (.ptr 1 0))),(38,.v (.one (dB v27)))],[(0,.cells 127 (cE a0)),(1,.cells 33 (cE a1))],[],2,72,[]⟩) (fun (v27:Bool)=>(cond v27
     (some 24)
     (Option.bind (cond (a1.kind==12)
     (cond (decide (a1.index < 0))
     (some true)
     (some (decide (a0.metas≤a1.index))))
     (some false)) (fun (v29:Bool)=>cond v29
     (some 23)
     (some 0))))=some r) ?_ ?_
 refine Qb h0 (fun w1_ h1 h0=>?_)
 refine Q0<|rR J J J (Q2 Yb J)<|rR J J J (Q6 QU J J J)<|rR J J J (Q7 J J J)<|rM J J J ?_
 refine QG (d:=42) (c:=(a1.kind==0)) J (fun c28=>?_) (fun c28=>?_)
 replace h1:=Qk c28 h1
 refine rR J J J (Q2 Zh J)<|rR J J J (Q6 QU J J J)<|rR J J J (Q7 J J J)<|rM J J J ?_
 refine QG (d:=46) (c:=(decide (a1.index < 0))) J (fun c29=>?_) (fun c29=>?_)
 replace h1:=Qk c29 h1
 refine Q8 J J<|Q8 J J<|Q8 J J<|Q8 J J<|Q8 J J<|Q8 J J<|Q8 J J<|rR J J J (Qg J J)<|rR J J J (Qg J J)<|rA J J J<|Q3 ?_
 have e:=sI h1;subst e
 exact Qd true (sL (Nat.zero_le _) J J J J J) h0
 replace h1:=Ql c29 h1
 refine rR J J J (Q2 Zh J)<|rR J J J (Q6 QU J J J)<|rM J J J<|rR J J J (Q7 J J J)<|rR J J J (Q2 fo_127_0 J)<|rR J J J (Q6 QU J J J)<|rR J J J (Q7 J J J)<|rR J J J (Qc J J)<|rR J J J (Qg J J)<|rA J J J<|Q3 ?_
 have e:=sI h1;subst e
 exact Qd (decide (a0.vars≤(J9 (a1.index - a2)))) (sL (Nat.zero_le _) J J J J J) h0
 replace h1:=Ql c28 h1
 refine Q8 J J<|Q8 J J<|Q8 J J<|Q8 J J<|Q8 J J<|Q8 J J<|Q8 J J<|Q8 J J<|Q8 J J<|Q8 J J<|Q8 J J<|Q8 J J<|rR J J J (Qc J J)<|rA J J J ?_
 refine Q3 ?_
 have e:=sI h1;subst e
 exact Qd false (sL (Nat.zero_le _) J J J J J) h0
 intro v27 h0
 refine Q4 ?_
 refine Qh (b:=v27) J (fun c30=>?_) (fun c30=>?_)
 replace h0:=Qk c30 h0
 refine Q5<|Q0<|rA J J J<|Q3<|Q4<|QD ?_
 have e:=sI h0;subst e
 exact QL (fun _ _ h=>h) J (QC J .nil) (.cons (.one (.d _)) .nil)
 replace h0:=Ql c30 h0
 refine Q5 ?_
 refine QS (fun (v31:Bool)=>⟨[(56,.v (.one (dB v31)))],[(0,.cells 127 (cE a0)),(1,.cells 33 (cE a1))],[],2,72,[]⟩) (fun (v31:Bool)=>(cond v31
     (some 23)
     (some 0))=some r) ?_ ?_
 refine Qb h0 (fun w1_ h1 h0=>?_)
 refine Q0<|rR J J J (Q2 Yb J)<|rR J J J (Q6 QU J J J)<|rR J J J (Q7 J J J)<|rM J J J ?_
 refine QG (d:=60) (c:=(a1.kind==12)) J (fun c32=>?_) (fun c32=>?_)
 replace h1:=Qk c32 h1
 refine rR J J J (Q2 Zh J)<|rR J J J (Q6 QU J J J)<|rR J J J (Q7 J J J)<|rM J J J ?_
 refine QG (d:=64) (c:=(decide (a1.index < 0))) J (fun c33=>?_) (fun c33=>?_)
 replace h1:=Qk c33 h1
 refine Q8 J J<|Q8 J J<|Q8 J J<|Q8 J J<|Q8 J J<|rR J J J (Qg J J)<|rR J J J (Qg J J)<|rA J J J<|Q3 ?_
 have e:=sI h1;subst e
 exact Qd true (sL (Nat.zero_le _) J J J J J) h0
 replace h1:=Ql c33 h1
 refine rR J J J (Q2 Zh J)<|rR J J J (Q6 QU J J J)<|rR J J J (Q2 fo_127_2 J)<|rR J J J (Q6 QU J J J)<|rR J J J (Q7 J J J)<|rR J J J (Qc J J)<|rR J J J (Qg J J)<|rA J J J<|Q3 ?_
 have e:=sI h1;subst e
 exact Qd (decide (a0.metas≤a1.index)) (sL (Nat.zero_le _) J J J J J) h0
 replace h1:=Ql c32 h1
 refine Q8 J J<|Q8 J J<|Q8 J J<|Q8 J J<|Q8 J J<|Q8 J J<|Q8 J J<|Q8 J J<|Q8 J J<|Q8 J J<|rR J J J (Qc J J)<|rA J J J<|Q3 ?_
 have e:=sI h1;subst e
 exact Qd false (sL (Nat.zero_le _) J J J J J) h0
 intro v31 h0
 refine Q4 ?_
 refine Qh (b:=v31) J (fun c34=>?_) (fun c34=>?_)
 replace h0:=Qk c34 h0
 refine Q5<|Q0<|rA J J J<|Q3<|Q4<|QD ?_
 have e:=sI h0;subst e
 exact QL (fun _ _ h=>h) J (QC J .nil) (.cons (.one (.d _)) .nil)
 replace h0:=Ql c34 h0
 refine Qm<|Qe<|Q4<|Q5<|Q0<|rA J J J<|Q3<|Q4<|QD ?_
 have e:=sI h0;subst e
 exact QL (fun _ _ h=>h) J (QC J .nil) (.cons (.one (.d _)) .nil)
end Go.Proofs.Ytafddfoefeploaa
