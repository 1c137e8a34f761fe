/- Part 2 of the proof: rules, mirrors and plain laws. The card of TextDecls (second form) is proved here: for every declaration the law returns true, and the arguments read behind the call as they did before; conditions: what is read is of bulk at most 1048576, and the listed package-level variables hold what the text of the program lays (tied). -/
import Derived.Test.YtjcfppnjamjjhaaGreatDoorK81
import Derived.Lib.Bytes
import Derived.Laws.Cover3
import Derived.Laws.BytesArg
import Derived.Shelf.Abstract
import Derived.Shelf.Strings.SlTrimAscii
import Derived.Shelf.Strings.Prefix
import Derived.Shelf.Small.Strs
import Derived.Shelf.Strings.OnBuilder
import Derived.Shelf.Strconv.Atoi
import Derived.Shelf.Strconv.Itoa3
import Derived.Ground.NamesProg
import Derived.Test.YtjcfppnjamjjhaaGreatDoorProg
import Derived.Lib.AppendStr
set_option maxHeartbeats 2000000
set_option maxRecDepth 100000
set_option linter.unusedSimpArgs false
set_option linter.unusedVariables false
set_option linter.unusedSectionVars false
namespace Go.Proofs.YtjcfppnjamjjhaaGreatDoor
section
open Go.RowKit
theorem ownsRow_same {w w':World} {b e s n:Nat} {v:Value} {xs:List Value} (h:w.ownsRow b e s v n xs) (hs:∀ g,v.ownBlock=some g→w'.heap[g]?=w.heap[g]?):w'.ownsRow b e s v n xs:=by
 obtain ⟨h1,h2⟩:=h
 refine ⟨h1,h2.imp id ?_⟩
 rintro ⟨g,cap,cur,rfl,h3,h4,h5⟩
 exact ⟨g,cap,cur,Z,h3,(hs g Z).trans h4,h5⟩
def X2 (V:Vu) (hp:List (Nat×HB)) (tk:List (Nat×Option Tok)) (k:Nat):Prop :=
 (∃ i B,Qcq hp i=some B∧V.ι i=k)∨∃ i T,Qcq tk i=some (some T)∧(V.κ i T.n).ownBlock=some k
theorem lk_app {α:Type}:∀ (a b:List (Nat×α)) (i:Nat),Qcq (a++b) i=match Qcq a i with
    | some x=>some x
    | none=>Qcq b i
  | [],b,i=>rfl
  | (k,x)::a,b,i=>by
    rw [List.cons_append,Q8,Q8]
    split
    · rfl
    · exact lk_app a b i
theorem Y1 {α:Type} {a b:List (Nat×α)} {i:Nat} {x:α} (h:Qcq (a++b) i=some x):Qcq a i=some x∨Qcq b i=some x:=by
 rw [lk_app] at h
 cases h1:Qcq a i with
 | none=>rw [h1] at h;exact .inr h
 | some y=>rw [h1] at h;exact .inl h
theorem Q2n {α:Type}:∀ {a:List (Nat×α)} {i:Nat} {x:α},Qcq a i=some x→(i,x)∈a
  | [],i,x,h=>by cases h
  | (k,y)::a,i,x,h=>by
    rw [Q8] at h
    split at h
    · rename_i e;subst e;cases h;exact List.mem_cons_self
    · exact List.mem_cons_of_mem _ (Q2n h)
def K7:List Nat→Nat→Nat→Nat
 | [],n,i=>n+i
 | j::_,_,0=>j
 | _::r,n,i+1=>K7 r n i
theorem Q1y:∀ {rs:List Nat} {n i:Nat},i < rs.length→∃ j,rs[i]?=some j∧K7 rs n i=j
 | [],n,i,h=>by simp at h
 | j::r,n,0,h=>⟨j,rfl,rfl⟩
 | j::r,n,i+1,h=>Q1y (rs:=r) (n:=n) (i:=i) (by simpa using h)
theorem Ws:∀ {rs:List Nat} {n i:Nat},rs.length≤i→K7 rs n i=n+(i - rs.length)
 | [],n,i,h=>rfl
 | j::r,n,0,h=>by simp at h
 | j::r,n,i+1,h=>by
  have h1:r.length≤i:=by simpa using h
  have h2:=Ws (rs:=r) (n:=n) (i:=i) h1
  simp only [K7,List.length_cons]
  omega
theorem KG {rs:List Nat} {n i:Nat} (h:i < rs.length):K7 rs n i∈rs:=by
 obtain ⟨j,h1,h2⟩:=Q1y (n:=n) h
 rw [h2];exact List.mem_of_getElem? h1
theorem nodup_get {α:Type}:∀ {l:List α} {i j:Nat} {a:α},l.Nodup→l[i]?=some a→l[j]?=some a→i=j
 | [],i,j,a,_,h,_=>by simp at h
 | x::l,0,0,a,_,_,_=>rfl
 | x::l,0,j+1,a,hn,h1,h2=>by
  simp at h1 h2
  subst h1
  exact absurd (List.mem_of_getElem? h2) (List.nodup_cons.1 hn).1
 | x::l,i+1,0,a,hn,h1,h2=>by
  simp at h1 h2
  subst h2
  exact absurd (List.mem_of_getElem? h1) (List.nodup_cons.1 hn).1
 | x::l,i+1,j+1,a,hn,h1,h2=>by
  simp at h1 h2
  rw [nodup_get (List.nodup_cons.1 hn).2 h1 h2]
theorem rho_inj {rs:List Nat} {n:Nat} (hnd:rs.Nodup) (hlt:∀ j∈rs,j < n) {i j:Nat} (h:K7 rs n i=K7 rs n j):i=j:=by
 by_cases h1:i < rs.length <;> by_cases h2:j < rs.length
 ·obtain ⟨a,h3,h4⟩:=Q1y (n:=n) h1
  obtain ⟨b,h5,h6⟩:=Q1y (n:=n) h2
  rw [h4,h6] at h
  subst h
  exact nodup_get hnd h3 h5
 ·have:=hlt _ (KG (n:=n) h1)
  rw [h,Ws (Nat.le_of_not_lt h2)] at this;omega
 ·have:=hlt _ (KG (n:=n) h2)
  rw [← h,Ws (Nat.le_of_not_lt h1)] at this;omega
 ·rw [Ws (Nat.le_of_not_lt h1),Ws (Nat.le_of_not_lt h2)] at h;omega
def CA.ren (ρ:Nat→Nat):CA→CA
 | .d c=>.d c
 | .ptr i off=>.ptr (ρ i) off
 | .pel e off=>.pel e off
 | .fn f caps=>.fn f (caps.map fun p=>(ρ p.1,p.2))
 | .app i sz es=>.app (ρ i) sz es
 | .apv i sz n es=>.apv (ρ i) sz n es
 | .tp i n off=>.tp (ρ i) n off
 | .osl i off len cap=>.osl (ρ i) off len cap
 | .mp i=>.mp (ρ i)
 | .yld i=>.yld (ρ i)
 | .clo f caps=>.clo f caps
 | .any=>.any
def AV.ren (ρ:Nat→Nat):AV→AV
 | .one x=>.one (x.ren ρ)
 | .agg xs=>.agg (xs.map (CA.ren ρ))
def TV.ren (ρ:Nat→Nat):TV→TV
 | .v x=>.v (x.ren ρ)
 | .tup xs=>.tup (xs.map (AV.ren ρ))
 | .unk=>.unk
def HB.ren (ρ:Nat→Nat):HB→HB
 | .cells T xs=>.cells T (xs.map (CA.ren ρ))
 | .obj o=>.obj o
 | .loop s p tm nt ps assign body D=>.loop s p (tm.map fun q=>(q.1,q.2.ren ρ)) nt ps assign body (ρ D)
 | .mp es c=>.mp (es.map fun e=>(e.1,e.2.1.ren ρ,e.2.2)) c
def JW (ρ:Nat→Nat) (l:List (Nat×HB)):List (Nat×HB):=l.map fun p=>(ρ p.1,p.2.ren ρ)
def Yl (ρ:Nat→Nat) (l:List (Nat×Option Tok)):List (Nat×Option Tok):=l.map fun p=>(ρ p.1,p.2)
theorem Q2o {α β:Type} (f:α→β):∀ (l:List (Nat×α)) (t:Nat),Qcq (l.map fun q=>(q.1,f q.2)) t=(Qcq l t).map f
  | [],t=>rfl
  | (k,x)::l,t=>by
    rw [List.map_cons,Q8,Q8]
    split
    · rfl
    · exact Q2o f l t
theorem Q2l {α β:Type} {ρ:Nat→Nat} {f:α→β} (inj:∀ i j,ρ i=ρ j→i=j):∀ (l:List (Nat×α)) (i:Nat),Qcq (l.map fun p=>(ρ p.1,f p.2)) (ρ i)=(Qcq l i).map f
  | [],i=>rfl
  | (k,x)::l,i=>by
    rw [List.map_cons,Q8,Q8]
    by_cases h:k=i
    · subst h;rw [if_pos rfl,if_pos rfl];rfl
    · rw [if_neg h,if_neg (fun e=>h (inj _ _ e))];exact Q2l inj l i
theorem lk_ren_inv {α β:Type} {ρ:Nat→Nat} {f:α→β} (inj:∀ i j,ρ i=ρ j→i=j) {l:List (Nat×α)} {j:Nat} {y:β} (h:Qcq (l.map fun p=>(ρ p.1,f p.2)) j=some y):∃ i x,ρ i=j∧Qcq l i=some x∧y=f x:=by
 obtain ⟨p,h1,h2⟩:=List.mem_map.1 (Q2n h)
 have h3:ρ p.1=j:=(Prod.mk.inj h2).1
 subst h3
 rw [Q2l inj] at h
 cases h4:Qcq l p.1 with
 | none=>rw [h4] at h;cases h
 | some x=>rw [h4] at h;cases h;exact ⟨p.1,x,rfl,h4,rfl⟩
def pull (ρ:Nat→Nat) (V:Vu) (m:Nat):Vu:=⟨m,fun i=>V.ι (ρ i),fun i=>V.κ (ρ i),fun i=>V.cu (ρ i),V.S⟩
theorem CA.rel.pull {ρ:Nat→Nat} {V:Vu} {w:World} {m:Nat} {x:CA} {v:Value} (h:(x.ren ρ).rel V w v) (hb:x.below m):x.rel (pull ρ V m) w v:=by
 cases x with
 | ptr i off=>exact ⟨hb,h.2⟩
 | fn f caps =>
  have:=h.2
  rw [List.map_map] at this
  exact ⟨hb,this⟩
 | app i sz es=>exact ⟨hb,h.2⟩
 | apv i sz n es=>exact ⟨hb,h.2⟩
 | tp i n off=>exact ⟨hb,h.2⟩
 | osl i off len cap=>exact ⟨hb,h.2⟩
 | mp i=>exact ⟨hb,h.2⟩
 | yld i=>exact ⟨hb,h.2⟩
 | d c=>exact h
 | pel e off=>exact h
 | clo f caps=>exact h
 | any=>exact h
theorem rels.pull {ρ:Nat→Nat} {V:Vu} {w:World} {m:Nat} {xs:List CA} {vs:Array Value} (h:rels V w (xs.map (CA.ren ρ)) vs) (hb:∀ x∈xs,x.below m):rels (pull ρ V m) w xs vs :=
 ⟨by simpa using h.1,fun i x hx=>let ⟨u,h1,h2⟩:=h.2 i (x.ren ρ) (by rw [List.getElem?_map,hx];rfl);⟨u,h1,h2.pull (hb x (List.mem_of_getElem? hx))⟩⟩
theorem AV.rel.pull {ρ:Nat→Nat} {V:Vu} {w:World} {m:Nat} {x:AV} {v:Value} (h:(x.ren ρ).rel V w v) (hb:x.below m):x.rel (pull ρ V m) w v:=by
 cases x with
 | one x=>exact CA.rel.pull h hb
 | agg xs=>obtain ⟨vs,h1,h2⟩:=h;exact ⟨vs,h1,h2.pull hb⟩
theorem TV.rel.pull {ρ:Nat→Nat} {V:Vu} {w:World} {m:Nat} {x:TV} {v:Value} (h:(x.ren ρ).rel V w v) (hb:x.below m):x.rel (pull ρ V m) w v:=by
 cases x with
 | v x=>exact AV.rel.pull h hb
 | tup xs =>
  obtain ⟨vs,h1,h2,h3⟩:=h
  exact ⟨vs,h1,by simpa using h2,fun i x hx=>let ⟨u,h4,h5⟩:=h3 i (x.ren ρ) (by rw [List.getElem?_map,hx];rfl);⟨u,h4,h5.pull (hb x (List.mem_of_getElem? hx))⟩⟩
 | unk=>trivial
theorem HB.rel.pull {ρ:Nat→Nat} {V:Vu} {w:World} {m:Nat} {x:HB} {o:Obj} (h:(x.ren ρ).rel V w o) (hb:x.below m):x.rel (pull ρ V m) w o:=by
 cases x with
 | cells T xs=>obtain ⟨vs,h3,h4⟩:=h;exact ⟨vs,h3,h4.pull hb⟩
 | obj o'=>exact h
 | loop s p tm nt ps assign body D =>
  obtain ⟨-,fn,tmps,h3,h4,h5⟩:=h
  exact ⟨hb.1,fn,tmps,h3,h4,fun t x hx=>(h5 t (x.ren ρ) (by rw [Q2o,hx];rfl)).pull (hb.2 t x hx)⟩
 | mp es clock =>
  obtain ⟨ents,h3,h4,h5⟩:=h
  exact ⟨ents,h3,by simpa using h4,fun i k x b hi=>let ⟨v,h6,h7⟩:=h5 i k (x.ren ρ) b (by rw [List.getElem?_map,hi];rfl);⟨v,h6,h7.pull (hb _ (List.mem_of_getElem? hi))⟩⟩
structure Via (ρ:Nat→Nat) (V1 V2:Vu):Prop where
 ι:∀ i,i < V1.nx→ρ i < V2.nx∧V2.ι (ρ i)=V1.ι i
 cu:∀ i,i < V1.nx→V2.cu (ρ i)=V1.cu i
 κ:∀ i,i < V1.nx→V2.κ (ρ i)=V1.κ i
 S:∀ b o,V1.S b o→V2.S b o
section
variable {ρ:Nat→Nat} {V1 V2:Vu} {w:World}
theorem CA.rel.via (hV:Via ρ V1 V2) {x:CA} {v:Value} (h:x.rel V1 w v):(x.ren ρ).rel V2 w v:=by
 cases x with
 | ptr i off=>exact ⟨(hV.ι i h.1).1,by rw [(hV.ι i h.1).2];exact h.2⟩
 | fn f caps =>
  refine ⟨fun p hp=>?_,?_⟩
  ·obtain ⟨q,hq,rfl⟩:=List.mem_map.1 hp
   exact (hV.ι _ (h.1 q hq)).1
  ·rw [h.2,List.map_map]
   congr 2
   exact List.map_congr_left fun p hp=>by show _=Value.pointer (some ⟨V2.ι (ρ p.1),p.2,none⟩);rw [(hV.ι _ (h.1 p hp)).2]
 | app i sz es=>exact ⟨(hV.ι i h.1).1,by rw [hV.cu i h.1];exact h.2.1,by rw [hV.κ i h.1];exact h.2.2.1,Reads.mono hV.S (fun _ _ _=>rfl) h.2.2.2⟩
 | apv i sz n es =>
  obtain ⟨h1,h2,h3,a,cap,h4,h5,h6⟩:=h
  exact ⟨(hV.ι i h1).1,by rw [hV.cu i h1];exact h2,by rw [hV.κ i h1];exact h3,a,cap,h4,h5,Reads.mono hV.S (fun _ _ _=>rfl) h6⟩
 | tp i n off =>
  obtain ⟨h1,h2,g,cap,h3,h4⟩:=h
  exact ⟨(hV.ι i h1).1,by rw [hV.cu i h1];exact h2,g,cap,by rw [hV.κ i h1];exact h3,h4⟩
 | osl i off len cap=>exact ⟨(hV.ι i h.1).1,by rw [(hV.ι i h.1).2];exact h.2⟩
 | mp i=>exact ⟨(hV.ι i h.1).1,by rw [(hV.ι i h.1).2];exact h.2⟩
 | yld i=>exact ⟨(hV.ι i h.1).1,by rw [(hV.ι i h.1).2];exact h.2⟩
 | d c=>exact Reads.mono hV.S (fun _ _ _=>rfl) h
 | pel e off=>exact pelRel.mono hV.S (fun _ _ _=>rfl) h
 | clo f caps =>
  obtain ⟨ps,h1,h2,h3⟩:=h
  exact ⟨ps,h1,h2,fun i e off hi=>let ⟨p,h4,h5⟩:=h3 i e off hi;⟨p,h4,h5.mono hV.S (fun _ _ _=>rfl)⟩⟩
 | any=>exact h
theorem rels.via (hV:Via ρ V1 V2) {xs:List CA} {vs:Array Value} (h:rels V1 w xs vs):rels V2 w (xs.map (CA.ren ρ)) vs :=
 ⟨by simpa using h.1,fun i x hx=>by
  rw [List.getElem?_map] at hx
  cases h1:xs[i]? with
  | none=>rw [h1] at hx;cases hx
  | some y=>rw [h1] at hx;cases hx;obtain ⟨u,h2,h3⟩:=h.2 i y h1;exact ⟨u,h2,h3.via hV⟩⟩
theorem AV.rel.via (hV:Via ρ V1 V2) {x:AV} {v:Value} (h:x.rel V1 w v):(x.ren ρ).rel V2 w v:=by
 cases x with
 | one x=>exact CA.rel.via hV h
 | agg xs=>obtain ⟨vs,h1,h2⟩:=h;exact ⟨vs,h1,h2.via hV⟩
theorem TV.rel.via (hV:Via ρ V1 V2) {x:TV} {v:Value} (h:x.rel V1 w v):(x.ren ρ).rel V2 w v:=by
 cases x with
 | v x=>exact AV.rel.via hV h
 | tup xs =>
  obtain ⟨vs,h1,h2,h3⟩:=h
  refine ⟨vs,h1,by simpa using h2,fun i x hx=>?_⟩
  rw [List.getElem?_map] at hx
  cases h4:xs[i]? with
  | none=>rw [h4] at hx;cases hx
  | some y=>rw [h4] at hx;cases hx;obtain ⟨u,h5,h6⟩:=h3 i y h4;exact ⟨u,h5,h6.via hV⟩
 | unk=>trivial
theorem HB.rel.via (hV:Via ρ V1 V2) {x:HB} {o:Obj} (h:x.rel V1 w o):(x.ren ρ).rel V2 w o:=by
 cases x with
 | cells T xs=>obtain ⟨vs,h3,h4⟩:=h;exact ⟨vs,h3,h4.via hV⟩
 | obj o'=>exact h
 | loop s p tm nt ps assign body D =>
  obtain ⟨h1,fn,tmps,h3,h4,h5⟩:=h
  refine ⟨(hV.ι D h1).1,fn,tmps,by rw [(hV.ι D h1).2];exact h3,h4,fun t x hx=>?_⟩
  rw [Q2o] at hx
  cases h6:Qcq tm t with
  | none=>rw [h6] at hx;cases hx
  | some y=>rw [h6] at hx;cases hx;exact (h5 t y h6).via hV
 | mp es clock =>
  obtain ⟨ents,h3,h4,h5⟩:=h
  refine ⟨ents,h3,by simpa using h4,fun i k x b hi=>?_⟩
  rw [List.getElem?_map] at hi
  cases h6:es[i]? with
  | none=>rw [h6] at hi;cases hi
  | some y =>
   obtain ⟨k',x',b'⟩:=y
   rw [h6] at hi;cases hi
   obtain ⟨v,h7,h8⟩:=h5 i _ _ _ h6
   exact ⟨v,h7,h8.via hV⟩
end
open Classical in
noncomputable def ZF (ρ:Nat→Nat) (V V1:Vu) (n:Nat):Vu :=
 ⟨n,fun j=>if h:∃ i,ρ i=j then V1.ι h.choose else V.ι j,fun j=>if h:∃ i,ρ i=j then V1.κ h.choose else V.κ j,fun j=>if h:∃ i,ρ i=j then V1.cu h.choose else V.cu j,V1.S⟩
section
open Classical
variable {ρ:Nat→Nat} {V V1:Vu} {n:Nat}
theorem WJ (inj:∀ i j,ρ i=ρ j→i=j) {i:Nat} (h:∃ k,ρ k=ρ i):h.choose=i:=inj _ _ h.choose_spec
theorem ZA (inj:∀ i j,ρ i=ρ j→i=j) (i:Nat):(ZF ρ V V1 n).ι (ρ i)=V1.ι i:=by
 have h:∃ k,ρ k=ρ i:=⟨i,rfl⟩
 show (if h:∃ k,ρ k=ρ i then V1.ι h.choose else V.ι (ρ i))=_
 rw [dif_pos h,WJ inj h]
theorem Gq (inj:∀ i j,ρ i=ρ j→i=j) (i:Nat):(ZF ρ V V1 n).κ (ρ i)=V1.κ i:=by
 have h:∃ k,ρ k=ρ i:=⟨i,rfl⟩
 show (if h:∃ k,ρ k=ρ i then V1.κ h.choose else V.κ (ρ i))=_
 rw [dif_pos h,WJ inj h]
theorem Q0q (inj:∀ i j,ρ i=ρ j→i=j) (i:Nat):(ZF ρ V V1 n).cu (ρ i)=V1.cu i:=by
 have h:∃ k,ρ k=ρ i:=⟨i,rfl⟩
 show (if h:∃ k,ρ k=ρ i then V1.cu h.choose else V.cu (ρ i))=_
 rw [dif_pos h,WJ inj h]
theorem Zf {j:Nat} (h:¬ ∃ i,ρ i=j):(ZF ρ V V1 n).ι j=V.ι j:=dif_neg h
theorem Ki {j:Nat} (h:¬ ∃ i,ρ i=j):(ZF ρ V V1 n).κ j=V.κ j:=dif_neg h
theorem backV_cu' {j:Nat} (h:¬ ∃ i,ρ i=j):(ZF ρ V V1 n).cu j=V.cu j:=dif_neg h
end
section
variable {E:Env} {V V1:Vu} {hp hp0 hp1 hpF:List (Nat×HB)} {tk tk0 tk1 tkF:List (Nat×Option Tok)} {w w':World} {ρ:Nat→Nat} {nx0 n:Nat}
theorem HRel.part (inj:∀ i j,ρ i=ρ j→i=j) (h:HRel E V (JW ρ hp0) (Yl ρ tk0) w) (b0:hpBelow nx0 hp0) (c0:tkBelow nx0 tk0) :
  HRel ⟨E.P,w,X2 V (JW ρ hp0) (Yl ρ tk0),pull ρ V nx0⟩ (pull ρ V nx0) hp0 tk0 w:=by
 have eH:∀ i B,Qcq hp0 i=some B→Qcq (JW ρ hp0) (ρ i)=some (B.ren ρ):=fun i B hi=>by
  have:=Q2l (f:=HB.ren ρ) inj hp0 i
  rw [hi] at this;exact this
 have eT:∀ i T,Qcq tk0 i=some T→Qcq (Yl ρ tk0) (ρ i)=some T:=fun i T hi=>by
  have:=Q2l (f:=fun x:Option Tok=>x) inj tk0 i
  rw [hi] at this;exact this
 refine ⟨ExtM.refl _ _,Vu.Le.refl _ _,h.sz,fun b o hs=>.inl hs,fun i B hi=>?_,fun i j A B hi hj e=>?_,fun i B hi=>⟨.inr (.inl ⟨ρ i,_,eH i B hi,Z⟩),(h.new _ _ (eH i B hi)).2⟩,fun i T hi=>?_,fun i j T U g hi hj ei ej=>?_⟩
 ·obtain ⟨h1,h2⟩:=b0.get i B hi
  obtain ⟨-,o,h3,h4⟩:=h.own _ _ (eH i B hi)
  exact ⟨h1,o,h3,h4.pull h2⟩
 ·exact inj _ _ (h.inj _ _ _ _ (eH i A hi) (eH j B hj) e)
 ·obtain ⟨-,h2,xs,h3,h4⟩:=h.tok _ _ (eT i _ hi)
  exact ⟨c0.get i _ hi,h2,xs,h3,fun g hg=>⟨.inr (.inr ⟨ρ i,T,eT i _ hi,hg⟩),(h4 g hg).2.1,fun j B hj=>(h4 g hg).2.2 _ _ (eH j B hj)⟩⟩
 ·exact inj _ _ (h.tki _ _ T U g (eT i _ hi) (eT j _ hj) ei ej)
theorem HRel.turn (inj:∀ i j,ρ i=ρ j→i=j) (h:HRel E V hp tk w) (hh:hpLe hp (JW ρ hp0)) (ht:tkLe tk (Yl ρ tk0)) (hhF:hpLe hp hpF) (htF:tkLe tk tkF)
  (old:∀ i,i < nx0→ρ i < V.nx) (new:∀ i,nx0≤i→ρ i=V.nx+(i - nx0)) (dF:∀ i B,Qcq hpF i=some B→∀ k,k < nx0→ρ k ≠ i) (dT:∀ i T,Qcq tkF i=some (some T)→∀ k,k < nx0→ρ k ≠ i)
  (b0:hpBelow nx0 hp0) (c0:tkBelow nx0 tk0) (hn:V1.nx+V.nx=n+nx0) (hle:nx0≤V1.nx)
  (H:HRel ⟨E.P,w,X2 V (JW ρ hp0) (Yl ρ tk0),pull ρ V nx0⟩ V1 hp1 tk1 w') :
  HRel E (ZF ρ V V1 n) (JW ρ hp1++hpF) (Yl ρ tk1++tkF) w'∧V.Le (ZF ρ V V1 n) w w'∧Via ρ V1 (ZF ρ V V1 n):=by
 have L:=H.le0
 have h0:=h.forgetLe hh ht
 have hF:=h.forgetLe hhF htF
 have eHi:∀ {l:List (Nat×HB)} {j B},Qcq (JW ρ l) j=some B→∃ i x,ρ i=j∧Qcq l i=some x∧B=x.ren ρ:=fun hj=>lk_ren_inv inj hj
 have eTi:∀ {l:List (Nat×Option Tok)} {j T},Qcq (Yl ρ l) j=some T→∃ i x,ρ i=j∧Qcq l i=some x∧T=x:=fun hj=>lk_ren_inv (f:=fun x:Option Tok=>x) inj hj
 have pE:∀ k,X2 V (JW ρ hp0) (Yl ρ tk0) k→E.w0.heap.size≤k∨E.M k:=by
  rintro k (⟨i,B,hi,rfl⟩ | ⟨i,T,hi,hg⟩)
  ·exact (h0.new i B hi).1
  ·obtain ⟨-,-,xs,-,h4⟩:=h0.tok i T hi
   exact (h4 k hg).1
 have Fl:∀ i B,Qcq hpF i=some B→V.ι i < w.heap.size:=fun i B hi=>by
  obtain ⟨-,o,ho,-⟩:=hF.own i B hi
  exact YF ho
 have Tl:∀ i T g,Qcq tkF i=some (some T)→(V.κ i T.n).ownBlock=some g→g < w.heap.size:=fun i T g hi hg=>by
  obtain ⟨-,-,xs,h3,-⟩:=hF.tok i T hi
  exact (h3.1.lt g hg).2
 have nF:∀ i,i < V.nx→(∀ k,k < nx0→ρ k ≠ i)→¬ ∃ k,ρ k=i:=by
  rintro i hi hk ⟨k,hk2⟩
  rcases Nat.lt_or_ge k nx0 with h1 | h1
  ·exact hk k h1 hk2
  ·rw [new k h1] at hk2;omega
 have Fn:∀ i B,Qcq hpF i=some B→¬ ∃ k,ρ k=i:=fun i B hi=>nF i (hF.own i B hi).1 (dF i B hi)
 have Tn:∀ i T,Qcq tkF i=some (some T)→¬ ∃ k,ρ k=i:=fun i T hi=>nF i (hF.tok i T hi).1 (dT i T hi)
 have Fp:∀ i B,Qcq hpF i=some B→¬ X2 V (JW ρ hp0) (Yl ρ tk0) (V.ι i):=by
  rintro i B hi (⟨j,C,hj,e⟩ | ⟨j,T,hj,hg⟩)
  ·obtain ⟨x,hx,-⟩:=hh.get j C hj
   obtain ⟨y,hy,-⟩:=hhF.get i B hi
   have:=h.inj j i x y hx hy e
   subst this
   obtain ⟨k,-,hk,-⟩:=eHi hj
   exact Fn _ B hi ⟨k,hk⟩
  ·obtain ⟨y,hy,-⟩:=hhF.get i B hi
   obtain ⟨-,-,xs,-,h4⟩:=h.tok j T (ht.get j T hj)
   exact (h4 _ hg).2.2 i y hy Z
 have Tp:∀ i T g,Qcq tkF i=some (some T)→(V.κ i T.n).ownBlock=some g→¬ X2 V (JW ρ hp0) (Yl ρ tk0) g:=by
  rintro i T g hi hg (⟨j,C,hj,e⟩ | ⟨j,U,hj,hg'⟩)
  ·obtain ⟨x,hx,-⟩:=hh.get j C hj
   obtain ⟨-,-,xs,-,h4⟩:=h.tok i T (htF.get i T hi)
   exact (h4 _ hg).2.2 j x hx e
  ·have:=h.tki i j T U g (htF.get i T hi) (ht.get j U hj) hg hg'
   subst this
   obtain ⟨k,-,hk,-⟩:=eTi hj
   exact Tn _ T hi ⟨k,hk⟩
 have S1:∀ b o,V1.S b o→V.S b o∨w.heap.size≤b∨X2 V (JW ρ hp0) (Yl ρ tk0) b:=H.sub
 have nn:∀ i,i < V1.nx→ρ i < n:=fun i hi=>by
  rcases Nat.lt_or_ge i nx0 with h1 | h1
  ·have:=old i h1;omega
  ·rw [new i h1];omega
 have A2:Via ρ V1 (ZF ρ V V1 n):=⟨fun i hi=>⟨nn i hi,ZA inj i⟩,fun i hi=>Q0q inj i,fun i hi=>Gq inj i,fun b o hs=>hs⟩
 have isNew:∀ k,ρ k < V.nx→k < nx0:=fun k hk=>by
  rcases Nat.lt_or_ge k nx0 with h1 | h1
  ·exact h1
  ·rw [new k h1] at hk;omega
 have A1:V.Le (ZF ρ V V1 n) w w':=by
  refine ⟨by show V.nx≤n;omega,fun i hi=>?_,fun i hi=>?_,fun i hi m hm=>?_,L.S,L.cell,L.dk⟩
  ·by_cases hq:∃ k,ρ k=i
   ·obtain ⟨k,rfl⟩:=hq
    rw [ZA inj];exact L.ι k (isNew k hi)
   ·exact Zf hq
  ·by_cases hq:∃ k,ρ k=i
   ·obtain ⟨k,rfl⟩:=hq
    rw [Q0q inj];exact L.cu k (isNew k hi)
   ·rw [backV_cu' hq];exact Nat.le_refl _
  ·by_cases hq:∃ k,ρ k=i
   ·obtain ⟨k,rfl⟩:=hq
    rw [Gq inj];exact L.κ k (isNew k hi) m hm
   ·rw [Ki hq]
 have hsize:w.heap.size≤w'.heap.size:=H.ext.size
 have keep:∀ k,k < w.heap.size→¬ X2 V (JW ρ hp0) (Yl ρ tk0) k→w'.heap[k]?=w.heap[k]?:=H.ext.block
 have inE:∀ k,(w.heap.size≤k∨X2 V (JW ρ hp0) (Yl ρ tk0) k)→E.w0.heap.size≤k∨E.M k:=fun k hk=>by
  rcases hk with h1 | h1
  ·exact .inl (Nat.le_trans h.ext.size h1)
  ·exact pE k h1
 refine ⟨⟨?_,h.le0.trans A1,H.sz,?_,?_,?_,?_,?_,?_⟩,A1,A2⟩
 ·refine ⟨H.ext.os.trans h.ext.os,H.ext.tape.trans h.ext.tape,H.ext.output.trans h.ext.output,Nat.le_trans h.ext.size hsize,fun k hk hM=>?_⟩
  refine (keep k (Nat.lt_of_lt_of_le hk h.ext.size) fun hp=>?_).trans (h.ext.block k hk hM)
  rcases pE k hp with h1 | h1
  ·omega
  ·exact hM h1
 ·intro b o hs
  rcases S1 b o hs with h1 | h1
  ·exact h.sub b o h1
  ·exact .inr (inE b h1)
 ·intro i B hi
  rcases Y1 hi with hi | hi
  ·obtain ⟨k,x,rfl,hk,rfl⟩:=eHi hi
   obtain ⟨h1,o,h3,h4⟩:=H.own k x hk
   exact ⟨nn k h1,o,by rw [ZA inj];exact h3,h4.via A2⟩
  ·obtain ⟨h1,o,h3,h4⟩:=hF.own i B hi
   exact ⟨by show i < n;omega,o,by rw [Zf (Fn i B hi),keep _ (Fl i B hi) (Fp i B hi)];exact h3,h4.mono A1⟩
 ·have mix:∀ i j A B,Qcq (JW ρ hp1) i=some A→Qcq hpF j=some B→(ZF ρ V V1 n).ι i=(ZF ρ V V1 n).ι j→False:=fun i j A B hi hj e=>by
   obtain ⟨k,x,rfl,hk,-⟩:=eHi hi
   rw [ZA inj,Zf (Fn j B hj)] at e
   rcases (H.new k x hk).1 with h2 | h2
   ·rw [e] at h2
    exact absurd h2 (Nat.not_le.2 (Fl j B hj))
   ·rw [e] at h2
    exact Fp j B hj h2
  intro i j A B hi hj e
  rcases Y1 hi with hi | hi <;> rcases Y1 hj with hj | hj
  ·obtain ⟨k,x,rfl,hk,-⟩:=eHi hi
   obtain ⟨k',x',rfl,hk',-⟩:=eHi hj
   rw [ZA inj,ZA inj] at e
   rw [H.inj k k' x x' hk hk' e]
  ·exact (mix i j A B hi hj e).elim
  ·exact (mix j i B A hj hi e.symm).elim
  ·rw [Zf (Fn i A hi),Zf (Fn j B hj)] at e
   exact hF.inj i j A B hi hj e
 ·intro i B hi
  rcases Y1 hi with hi | hi
  ·obtain ⟨k,x,rfl,hk,-⟩:=eHi hi
   obtain ⟨h2,h3⟩:=H.new k x hk
   rw [ZA inj]
   exact ⟨inE _ h2,h3⟩
  ·obtain ⟨h2,h3⟩:=hF.new i B hi
   rw [Zf (Fn i B hi)]
   refine ⟨h2,fun o hs=>?_⟩
   rcases S1 _ o hs with h4 | h4 | h4
   ·exact h3 o h4
   ·exact absurd h4 (Nat.not_le.2 (Fl i B hi))
   ·exact Fp i B hi h4
 ·intro i T hi
  rcases Y1 hi with hi | hi
  ·obtain ⟨k,x,rfl,hk,e⟩:=eTi hi
   subst e
   obtain ⟨h1,h2,xs,h3,h4⟩:=H.tok k T hk
   refine ⟨nn k h1,by rw [Q0q inj];exact h2,xs,⟨by rw [Gq inj];exact h3.1,h3.2⟩,fun g hg=>?_⟩
   rw [Gq inj] at hg
   obtain ⟨h5,h6,h7⟩:=h4 g hg
   refine ⟨inE g h5,h6,fun j B hj=>?_⟩
   rcases Y1 hj with hj | hj
   ·obtain ⟨k',x',rfl,hk',-⟩:=eHi hj
    rw [ZA inj];exact h7 k' x' hk'
   ·intro e
    rw [Zf (Fn j B hj)] at e
    rcases h5 with h5 | h5
    ·have:=Fl j B hj
     rw [e] at this
     exact absurd h5 (Nat.not_le.2 this)
    ·exact Fp j B hj (by rw [e];exact h5)
  ·have hq:=Tn i T hi
   obtain ⟨h1,h2,xs,h3,h4⟩:=hF.tok i T hi
   refine ⟨by show i < n;omega,by rw [backV_cu' hq];exact h2,xs,?_,fun g hg=>?_⟩
   ·exact h3.keepW (congrFun (Ki hq) T.n) (ownsRow_same h3.1 fun g hg=>keep g (Tl i T g hi hg) (Tp i T g hi hg)) A1.lx
   ·rw [Ki hq] at hg
    obtain ⟨h5,h6,h7⟩:=h4 g hg
    refine ⟨h5,fun o hs=>?_,fun j B hj=>?_⟩
    ·rcases S1 _ o hs with h8 | h8 | h8
     ·exact h6 o h8
     ·exact absurd h8 (Nat.not_le.2 (Tl i T g hi hg))
     ·exact absurd h8 (Tp i T g hi hg)
    ·rcases Y1 hj with hj | hj
     ·intro e
      obtain ⟨k',x',rfl,hk',-⟩:=eHi hj
      rw [ZA inj] at e
      rcases (H.new k' x' hk').1 with h9 | h9
      ·rw [e] at h9
       exact absurd h9 (Nat.not_le.2 (Tl i T g hi hg))
      ·rw [e] at h9
       exact Tp i T g hi hg h9
     ·rw [Zf (Fn j B hj)];exact h7 j B hj
 ·have mix:∀ i j T U g,Qcq (Yl ρ tk1) i=some (some T)→Qcq tkF j=some (some U)→((ZF ρ V V1 n).κ i T.n).ownBlock=some g→((ZF ρ V V1 n).κ j U.n).ownBlock=some g→False:=fun i j T U g hi hj ei ej=>by
   obtain ⟨k,x,rfl,hk,e⟩:=eTi hi
   subst e
   rw [Gq inj] at ei
   rw [Ki (Tn j U hj)] at ej
   obtain ⟨-,-,xs,-,h4⟩:=H.tok k T hk
   rcases (h4 g ei).1 with h5 | h5
   ·exact absurd h5 (Nat.not_le.2 (Tl j U g hj ej))
   ·exact Tp j U g hj ej h5
  intro i j T U g hi hj ei ej
  rcases Y1 hi with hi | hi <;> rcases Y1 hj with hj | hj
  ·obtain ⟨k,x,rfl,hk,e⟩:=eTi hi
   subst e
   obtain ⟨k',x',rfl,hk',e⟩:=eTi hj
   subst e
   rw [Gq inj] at ei ej
   rw [H.tki k k' T U g hk hk' ei ej]
  ·exact (mix i j T U g hi hj ei ej).elim
  ·exact (mix j i U T g hj hi ej ei).elim
  ·rw [Ki (Tn i T hi)] at ei
   rw [Ki (Tn j U hj)] at ej
   exact hF.tki i j T U g hi hj ei ej
end
theorem tkBelow_all {m:Nat}:∀ {l:List (Nat×Option Tok)},(l.all fun p=>Nat.blt p.1 m)=true→tkBelow m l
  | [],_=>trivial
  | (i,x)::l,h=>by
    rw [List.all_cons,Bool.and_eq_true] at h
    exact ⟨Ub h.1,tkBelow_all h.2⟩
def Kr:List Nat→Bool
 | []=>true
 | x::l=>cond (l.any fun y=>Nat.beq x y) false (Kr l)
theorem XT:∀ {l:List Nat},Kr l=true→l.Nodup
 | [],_=>List.nodup_nil
 | x::l,h=>by
  unfold Kr at h
  cases h1:(l.any fun y=>Nat.beq x y) with
  | true=>rw [h1] at h;cases h
  | false =>
   rw [h1] at h
   refine List.nodup_cons.2 ⟨fun hm=>?_,XT h⟩
   have:=List.any_eq_false.1 h1 x hm
   simp at this
def Q6d {α:Type} (rs:List Nat) (l:List (Nat×α)):Bool:=l.all fun p=>rs.all fun q=>cond (Nat.beq q p.1) false true
theorem apartB_ok {α:Type} {rs:List Nat} {l:List (Nat×α)} (h:Q6d rs l=true) {i:Nat} {x:α} (hi:Qcq l i=some x):i∉rs:=fun hm=>by
 have h1:=List.all_eq_true.1 (List.all_eq_true.1 h _ (Q2n hi)) i hm
 have h2:Nat.beq i i=true:=by simp
 dsimp only at h1
 rw [h2] at h1;cases h1
theorem Z8 {E:Env} {st:St} {dd:Option Tmp} {ty:TypeId} {pos:String} {af:Array Edge} {g:Option (Nat×Bool)} {x:Operand} {f:FuncId} {caps:List (Nat×Nat)} {ars:Array Operand} {args args0:List AV} {ats:Array TypeId} {res res2:TV} {hp0 hp1 hp1' hpF:List (Nat×HB)} {tk0 tk1 tk1' tkF:List (Nat×Option Tok)} {nx0 nx1 nx2 n:Nat}
  (rs:List Nat) (hx:ev st.tm x=some (.v (.one (.fn f caps)))) (ha:YN st.tm ars.toList=some args)
  (hc:CallM E.P f args0 ⟨hp0,tk0,nx0⟩ res ⟨hp1,tk1,nx1⟩) (hst:st.nx=n) (he:args++ZC caps=args0.map (AV.ren (K7 rs n))) (e3:JW (K7 rs n) hp1=hp1') (e4:Yl (K7 rs n) tk1=tk1') (e5:res.ren (K7 rs n)=res2)
  (hh:hpLe st.hp (JW (K7 rs n) hp0)) (ht:tkLe st.tk (Yl (K7 rs n) tk0)) (hhF:hpLe st.hp hpF) (htF:tkLe st.tk tkF) (hl:Nat.beq rs.length nx0=true) (hnd:Kr rs=true) (hlt:(rs.all fun j=>Nat.blt j n)=true) (d1:Q6d rs hpF=true) (d2:Q6d rs tkF=true)
  (b0:hpBelow nx0 hp0) (c0:(tk0.all fun p=>Nat.blt p.1 nx0)=true) (ba:(args0.all fun y=>y.belowB nx0)=true) (hle:Nat.ble nx0 nx1=true) (hn:Nat.beq (nx1+n) (nx2+nx0)=true) :
  OpOK E ⟨dd,.call { callee:=.value x,args:=ars,argTypes:=ats },ty,pos,af,g⟩ st res2 ⟨hp1'++hpF,tk1'++tkF,nx2⟩:=by
 subst hst e3 e4 e5
 have c0':=tkBelow_all c0
 have hl':rs.length=nx0:=Nat.eq_of_beq_eq_true hl
 have hlt':∀ j∈rs,j < st.nx:=fun j hj=>Ub (List.all_eq_true.1 hlt j hj)
 have inj:∀ i j,K7 rs st.nx i=K7 rs st.nx j→i=j:=fun i j h=>rho_inj (XT hnd) hlt' h
 intro V a w hr ro n K Q hK
 refine ⟨fun _ _=>trivial,?_⟩
 rw [Oper.semAt_eq _ _ _ (by intro c h;cases h)]
 obtain ⟨hv1,hv2⟩:=hr.ev hx
 have hrun:(execOp a.eval ⟨dd,.call { callee:=.value x,args:=ars,argTypes:=ats },ty,pos,af,g⟩).run E.P w=.ok (.enter f (ars.map a.eval++(caps.map fun p=>Value.pointer (some ⟨V.ι p.1,p.2,none⟩)).toArray)) w:=by
  have:=hc.1 (ars.map a.eval++(caps.map fun p=>Value.pointer (some ⟨V.ι p.1,p.2,none⟩)).toArray) w
  simp [execOp,resolve,hv2,Deferred.ofValue,invoke]
  simpa using this
 rw [hrun]
 refine ⟨(by intro h;cases h),?_⟩
 have h0:=(hr.h.forgetLe hh ht).part inj b0 c0'
 have har:argsRel (pull (K7 rs st.nx) V nx0) w args0 (ars.map a.eval++(caps.map fun p=>Value.pointer (some ⟨V.ι p.1,p.2,none⟩)).toArray):=by
  obtain ⟨h1,h2⟩:=(ZV hr ha).append (Zo hv1)
  rw [he] at h1 h2
  refine ⟨by simpa using h1,fun i y hy=>?_⟩
  obtain ⟨u,hu,hyu⟩:=h2 i (y.ren _) (by rw [List.getElem?_map,hy];rfl)
  exact ⟨u,hu,hyu.pull (Kd (List.all_eq_true.1 ba y (List.mem_of_getElem? hy)))⟩
 have hc':CallsIn Fence.wide (n - 1) E.P f _ w _:=callsIn_wide.2 (hc.2 ⟨E.P,w,X2 V _ _,pull (K7 rs st.nx) V nx0⟩ _ w _ rfl h0 rfl har)
 refine CallsIn.mono (F:=Qdh ro) hc' ?_
 rintro e w' ⟨v,V1,rfl,H,hn1,L,hres⟩
 have hn2:=Nat.eq_of_beq_eq_true hn
 have hnx:=hr.nx
 dsimp only at hn1
 obtain ⟨H2,L2,L3⟩:=hr.h.turn (n:=nx2) inj hh ht hhF htF (fun i hi=>by rw [hnx];exact hlt' _ (KG (by omega))) (fun i hi=>by rw [Ws (by omega),hnx,hl'])
  (fun i B hi k hk e=>apartB_ok d1 hi (by rw [← e];exact KG (by omega))) (fun i T hi k hk e=>apartB_ok d2 hi (by rw [← e];exact KG (by omega))) b0 c0' (by rw [hn1,hnx];exact hn2) (by rw [hn1];exact Nat.le_of_ble_eq_true hle) H
 exact hK _ w' v H2 Z L2 (hres.via L3)
theorem Qcm {ρ:Nat→Nat}:JW ρ []=[]:=rfl
theorem Qcn {ρ:Nat→Nat} {i j:Nat} {x y:HB} {r r':List (Nat×HB)} (h1:ρ i=j) (h2:x.ren ρ=y) (h:JW ρ r=r'):JW ρ ((i,x)::r)=(j,y)::r':=by
 subst h1 h2 h;rfl
section
variable {ρ:Nat→Nat} {hp:List (Nat×HB)} {tk:List (Nat×Option Tok)}
theorem Qcw:hpLe hp (JW ρ []):=trivial
theorem Qcx {i:Nat} {x:HB} {r:List (Nat×HB)} (h:Qcq hp (ρ i)=some (x.ren ρ)) (l:hpLe hp (JW ρ r)):hpLe hp (JW ρ ((i,x)::r)):=⟨⟨_,h,.refl _⟩,l⟩
theorem Qcu:tkLe tk (Yl ρ []):=trivial
end
def QX {σ β:Type} (F:(σ→Option β)→σ→Option β):Nat→σ→Option β
 | 0,_=>none
 | n+1,u=>F (QX F n) u
theorem Jy {σ β:Type} {F:(σ→Option β)→σ→Option β} {C:σ→β→Prop} (h:∀ rc:σ→Option β,(∀ u y,rc u=some y→C u y)→∀ u y,F rc u=some y→C u y):∀ (n:Nat) (u:σ) (y:β),QX F n u=some y→C u y
 | 0,u,y,e=>by cases e
 | n+1,u,y,e=>h _ (Jy h n) u y e
end
section
open Go.RowKit
def Qci (l:List UInt8):ByteArray:=⟨l.toArray⟩
theorem sB_of (s:ByteArray):Qci s.data.toList=s:=by cases s;simp [Qci]
theorem YX (l:List UInt8):(Qci l).size=l.length:=by simp [Qci,ByteArray.size]
theorem sB_toList (l:List UInt8):(Qci l).toList=l:=by rw [Go.Lib.toList_data];rfl
theorem sB_append (a b:List UInt8):Qci a++Qci b=Qci (a++b):=by
 apply ByteArray.ext
 simp [Qci,ByteArray.data_append]
theorem sB_get (l:List UInt8) (k:Nat):(Qci l)[k]?=l[k]?:=by
 by_cases h:k < l.length
 ·rw [List.getElem?_eq_getElem h,getElem?_pos (Qci l) k (by rw [YX];exact h)]
  simp [Qci,ByteArray.get,ByteArray.getElem_eq_getElem_data]
 ·rw [List.getElem?_eq_none (by omega),getElem?_neg (Qci l) k (by rw [YX];exact h)]
theorem Wr (l:List UInt8) (a b:Nat):(Qci l).extract a b=Qci ((l.take b).drop a):=by
 apply ByteArray.ext
 simp [Qci,ByteArray.data_extract,List.extract_eq_take_drop,List.drop_take]
def Q12 (s:List UInt8):List C:=[.v (.string (Qci s))]
instance:Enc (List UInt8):=⟨1,Q12,fun l=>l.map Q12,rfl,fun a b=>List.map_append,fun _=>rfl⟩
abbrev Q9i (l:List UInt8):CA:=.d (.v (.string (Qci l)))
abbrev Qd9 (l:List UInt8):TV:=KV (.string (Qci l))
section
variable {E:Env} {st:St} {d:Option Tmp} {ty:TypeId} {pos:String} {af:Array Edge} {g:Option (Nat×Bool)}
theorem RO.addS {t t':TypeId} {x y:Operand} {a b:List UInt8} (hx:ev st.tm x=some (Qd9 a)) (hy:ev st.tm y=some (Qd9 b)) (hg:Nat.ble (a.length+b.length) 1000000000=true):RO E ⟨d,.binOp .add t x y t',ty,pos,af,g⟩ st (Qd9 (a++b)):=by
 have:=UP (E:=E) (d:=d) (ty:=ty) (pos:=pos) (af:=af) (g:=g) (t:=t) (t':=t') (op:=.add) hx hy (v:=.string (Qci a++Qci b)) (by
  have h1:=Nat.le_of_ble_eq_true hg
  have h2:decide ((((Qci a).size+(Qci b).size:Nat):Int) > IntKind.i64.max)=false:=by
   rw [YX,YX]
   refine decide_eq_false ?_
   have:IntKind.i64.max=9223372036854775807:=by decide
   omega
  simp only [Uk,h2,cond_false])
 rw [sB_append] at this
 exact this
theorem Q3k {t t':TypeId} {x y:Operand} {a b:List UInt8} (hx:ev st.tm x=some (Qd9 a)) (hy:ev st.tm y=some (Qd9 b)):RO E ⟨d,.binOp .eql t x y t',ty,pos,af,g⟩ st (Qdb (a==b)):=by
 have:=UP (E:=E) (d:=d) (ty:=ty) (pos:=pos) (af:=af) (g:=g) (t:=t) (t':=t') (op:=.eql) hx hy (v:=.bool (a==b)) (by simp only [Uk,sB_toList])
 exact this
theorem RO.neS {t t':TypeId} {x y:Operand} {a b:List UInt8} (hx:ev st.tm x=some (Qd9 a)) (hy:ev st.tm y=some (Qd9 b)):RO E ⟨d,.binOp .neq t x y t',ty,pos,af,g⟩ st (Qdb (!(a==b))):=by
 have:=UP (E:=E) (d:=d) (ty:=ty) (pos:=pos) (af:=af) (g:=g) (t:=t) (t':=t') (op:=.neq) hx hy (v:=.bool (!(a==b))) (by simp only [Uk,sB_toList])
 exact this
theorem Ue {t:TypeId} {x:Operand} {a:List UInt8} (ht:JN E.P t=true) (hx:ev st.tm x=some (Qd9 a)):RO E ⟨d,.call { callee:=.builtin .len,args:=#[x],argTypes:=#[t]},ty,pos,af,g⟩ st (Qda a.length):=by
 have:=RO.lenStr (E:=E) (d:=d) (ty:=ty) (pos:=pos) (af:=af) (g:=g) ht hx
 rw [YX] at this
 exact this
theorem Q6f {t:TypeId} {x y:Operand} {a:List UInt8} {k:IntKind} {m:Int} {b:UInt8} (ht:JN E.P t=true) (hx:ev st.tm x=some (Qd9 a)) (hy:ev st.tm y=some (KV (.int k m))) (hv:J3 a m=some b):RO E ⟨d,.index t x y,ty,pos,af,g⟩ st (KV (.int .u8 b.toNat)):=by
 obtain ⟨j,hj,hl⟩:=Q8k hv
 exact RO.indexStr ht hx hy hj (by rw [sB_get];exact hl)
theorem RO.fromS {t:TypeId} {o lo:Operand} {a:List UInt8} {m:Int} (ht:JN E.P t=true) (hx:ev st.tm o=some (Qd9 a)) (hlo:ev st.tm lo=some (Qda m)) (hm:(cond (decide (0≤m)) (Nat.ble m.toNat a.length) false)=true):RO E ⟨d,.slice t o (some lo) none none,ty,pos,af,g⟩ st (Qd9 (a.drop m.toNat)):=by
 have h0:0≤m:=of_decide_eq_true (Ju hm)
 have hb:=QU hm
 obtain ⟨k,rfl⟩:∃ k:Nat,m=(k:Int):=⟨m.toNat,(Int.toNat_of_nonneg h0).symm⟩
 simp only [Int.toNat_natCast] at hb ⊢
 have:=XI (E:=E) (st:=st) (d:=d) (ty:=ty) (pos:=pos) (af:=af) (g:=g) (l:=k) (h:=a.length) ht hx (lo:=some lo) (hi:=none) (mx:=none) (by
  have:ev st.tm lo=some (.v (.one (.d (.v (.int .i64 (.ofNat k)))))):=hlo
  rw [YX]
  simp only [YT,Q5w,Q4d,this,hb,cond_true])
 rw [Wr,List.take_length] at this
 exact this
theorem RO.toS {t:TypeId} {o hi:Operand} {a:List UInt8} {m:Int} (ht:JN E.P t=true) (hx:ev st.tm o=some (Qd9 a)) (hhi:ev st.tm hi=some (Qda m)) (hm:(cond (decide (0≤m)) (Nat.ble m.toNat a.length) false)=true):RO E ⟨d,.slice t o none (some hi) none,ty,pos,af,g⟩ st (Qd9 (a.take m.toNat)):=by
 have h0:0≤m:=of_decide_eq_true (Ju hm)
 have hb:=QU hm
 obtain ⟨k,rfl⟩:∃ k:Nat,m=(k:Int):=⟨m.toNat,(Int.toNat_of_nonneg h0).symm⟩
 simp only [Int.toNat_natCast] at hb ⊢
 have:=XI (E:=E) (st:=st) (d:=d) (ty:=ty) (pos:=pos) (af:=af) (g:=g) (l:=0) (h:=k) ht hx (lo:=none) (hi:=some hi) (mx:=none) (by
  have:ev st.tm hi=some (.v (.one (.d (.v (.int .i64 (.ofNat k)))))):=hhi
  rw [YX]
  simp only [YT,Q5w,Q4d,this,hb,cond_true])
 rw [Wr,List.drop_zero] at this
 exact this
theorem RO.midS {t:TypeId} {o lo hi:Operand} {a:List UInt8} {m n:Int} (ht:JN E.P t=true) (hx:ev st.tm o=some (Qd9 a)) (hlo:ev st.tm lo=some (Qda m)) (hhi:ev st.tm hi=some (Qda n)) (hm:(cond (decide (0≤m)) (cond (Nat.ble m.toNat n.toNat) (cond (decide (0≤n)) (Nat.ble n.toNat a.length) false) false) false)=true):RO E ⟨d,.slice t o (some lo) (some hi) none,ty,pos,af,g⟩ st (Qd9 ((a.take n.toNat).drop m.toNat)):=by
 have h0:0≤m:=of_decide_eq_true (Ju hm)
 have h1:=Ju (QU hm)
 have h2:0≤n:=of_decide_eq_true (Ju (QU (QU hm)))
 have h3:=QU (QU (QU hm))
 obtain ⟨k,rfl⟩:∃ k:Nat,m=(k:Int):=⟨m.toNat,(Int.toNat_of_nonneg h0).symm⟩
 obtain ⟨j,rfl⟩:∃ j:Nat,n=(j:Int):=⟨n.toNat,(Int.toNat_of_nonneg h2).symm⟩
 simp only [Int.toNat_natCast] at h1 h3 ⊢
 have:=XI (E:=E) (st:=st) (d:=d) (ty:=ty) (pos:=pos) (af:=af) (g:=g) (l:=k) (h:=j) ht hx (lo:=some lo) (hi:=some hi) (mx:=none) (by
  have e1:ev st.tm lo=some (.v (.one (.d (.v (.int .i64 (.ofNat k)))))):=hlo
  have e2:ev st.tm hi=some (.v (.one (.d (.v (.int .i64 (.ofNat j)))))):=hhi
  rw [YX]
  simp only [YT,Q5w,Q4d,e1,e2,h3,h1,cond_true])
 rw [Wr] at this
 exact this
end
end
section
open Go.RowKit
noncomputable section
abbrev Qdk:=List UInt8
inductive Tm where
 | mk (kind index:Int) (name:Qdk) (levels:List Lvl) (kids:List Tm)
def Tm.kind:Tm→Int | .mk k _ _ _ _=>k
def Tm.index:Tm→Int | .mk _ i _ _ _=>i
def Tm.name:Tm→Qdk | .mk _ _ n _ _=>n
def Tm.levels:Tm→List Lvl | .mk _ _ _ l _=>l
def Tm.kids:Tm→List Tm | .mk _ _ _ _ ks=>ks
theorem Tm.kids_lt (t:Tm):SizeOf.sizeOf t.kids < SizeOf.sizeOf t:=by
 cases t
 simp only [Tm.kids,Tm.mk.sizeOf_spec]
 omega
def Qak:Nat→List Tm→List (List C)
 | 0,_=>[]
 | n+1,l=>l.map fun t=>[.v (.int .i64 t.kind),.v (.int .i64 t.index),.v (.string (Qci t.name)),.sl 2 (Enc.encL t.levels),.sl 5 (Qak n t.kids)]
theorem tmF_eq:∀ (n m:Nat) (l:List Tm),SizeOf.sizeOf l≤n→SizeOf.sizeOf l≤m→Qak n l=Qak m l
 | 0,_,l,h,_=>by cases l <;> simp at h
 | _,0,l,_,h=>by cases l <;> simp at h
 | n+1,m+1,l,h1,h2=>by
  unfold Qak
  refine List.map_congr_left fun t ht=>?_
  have h3:=List.sizeOf_lt_of_mem ht
  have h4:=t.kids_lt
  rw [tmF_eq n m t.kids (by omega) (by omega)]
def Qb2 (l:List Tm):List (List C):=Qak (SizeOf.sizeOf l) l
def tmC (t:Tm):List C:=[.v (.int .i64 t.kind),.v (.int .i64 t.index),.v (.string (Qci t.name)),.sl 2 (Enc.encL t.levels),.sl 5 (Qb2 t.kids)]
theorem WR (l:List Tm):Qb2 l=l.map tmC:=by
 unfold Qb2
 have hpos:0 < SizeOf.sizeOf l:=by cases l <;> simp <;> omega
 obtain ⟨k,hk⟩:∃ k,SizeOf.sizeOf l=k+1:=⟨SizeOf.sizeOf l - 1,by omega⟩
 rw [hk]
 unfold Qak tmC
 refine List.map_congr_left fun t ht=>?_
 have h3:=List.sizeOf_lt_of_mem ht
 have h4:=t.kids_lt
 rw [tmF_eq k (SizeOf.sizeOf t.kids) t.kids (by omega) (Nat.le_refl _)]
 rfl
instance:Enc Tm:=⟨5,tmC,Qb2,WR [],fun a b=>by rw [WR,WR,WR,List.map_append],fun x=>WR [x]⟩
structure BrF (α:Type) where
 ctor:Qdk
 absurd:Bool
 tree:α
inductive Tr where
 | mk (kind:Int) (body:Tm) (var:Int) (branches:List (BrF Tr))
abbrev Qdl:=BrF Tr
def Tr.kind:Tr→Int | .mk k _ _ _=>k
def Tr.body:Tr→Tm | .mk _ b _ _=>b
def Tr.var:Tr→Int | .mk _ _ v _=>v
def Tr.branches:Tr→List Qdl | .mk _ _ _ l=>l
theorem Tr.branches_lt (t:Tr):SizeOf.sizeOf t.branches < SizeOf.sizeOf t:=by
 cases t
 simp only [Tr.branches,Tr.mk.sizeOf_spec]
 omega
theorem BrF.tree_lt (b:Qdl):SizeOf.sizeOf b.tree < SizeOf.sizeOf b:=by
 cases b
 simp only [BrF.mk.sizeOf_spec]
 omega
def Qar:Nat→List Qdl→List (List C)
 | 0,_=>[]
 | n+1,l=>l.map fun b=>[.v (.string (Qci b.ctor)),.v (.bool b.absurd),.v (.int .i64 b.tree.kind),.v (.int .i64 b.tree.body.kind),.v (.int .i64 b.tree.body.index),.v (.string (Qci b.tree.body.name)),.sl 2 (Enc.encL b.tree.body.levels),.sl 5 (Enc.encL b.tree.body.kids),.v (.int .i64 b.tree.var),.sl 10 (Qar n b.tree.branches)]
theorem brF_eq:∀ (n m:Nat) (l:List Qdl),SizeOf.sizeOf l≤n→SizeOf.sizeOf l≤m→Qar n l=Qar m l
 | 0,_,l,h,_=>by cases l <;> simp at h
 | _,0,l,_,h=>by cases l <;> simp at h
 | n+1,m+1,l,h1,h2=>by
  unfold Qar
  refine List.map_congr_left fun t ht=>?_
  have h3:=List.sizeOf_lt_of_mem ht
  have h4:=t.tree_lt
  have h5:=t.tree.branches_lt
  rw [brF_eq n m t.tree.branches (by omega) (by omega)]
def brL (l:List Qdl):List (List C):=Qar (SizeOf.sizeOf l) l
def brC (b:Qdl):List C:=[.v (.string (Qci b.ctor)),.v (.bool b.absurd),.v (.int .i64 b.tree.kind),.v (.int .i64 b.tree.body.kind),.v (.int .i64 b.tree.body.index),.v (.string (Qci b.tree.body.name)),.sl 2 (Enc.encL b.tree.body.levels),.sl 5 (Enc.encL b.tree.body.kids),.v (.int .i64 b.tree.var),.sl 10 (brL b.tree.branches)]
theorem Ua (l:List Qdl):brL l=l.map brC:=by
 unfold brL
 have hpos:0 < SizeOf.sizeOf l:=by cases l <;> simp <;> omega
 obtain ⟨k,hk⟩:∃ k,SizeOf.sizeOf l=k+1:=⟨SizeOf.sizeOf l - 1,by omega⟩
 rw [hk]
 unfold Qar brC
 refine List.map_congr_left fun t ht=>?_
 have h3:=List.sizeOf_lt_of_mem ht
 have h4:=t.tree_lt
 have h5:=t.tree.branches_lt
 rw [brF_eq k (SizeOf.sizeOf t.tree.branches) t.tree.branches (by omega) (Nat.le_refl _)]
 rfl
instance:Enc Qdl:=⟨10,brC,brL,Ua [],fun a b=>by rw [Ua,Ua,Ua,List.map_append],fun x=>Ua [x]⟩
def trC (t:Tr):List C:=[.v (.int .i64 t.kind),.v (.int .i64 t.body.kind),.v (.int .i64 t.body.index),.v (.string (Qci t.body.name)),.sl 2 (Enc.encL t.body.levels),.sl 5 (Enc.encL t.body.kids),.v (.int .i64 t.var),.sl 10 (Enc.encL t.branches)]
instance:Enc Tr:=⟨8,trC,fun l=>l.map trC,rfl,fun a b=>List.map_append,fun _=>rfl⟩
structure Ctr where
 name:Qdk
 ty:Tm
def ctrC (c:Ctr):List C:=[.v (.string (Qci c.name)),.v (.int .i64 c.ty.kind),.v (.int .i64 c.ty.index),.v (.string (Qci c.ty.name)),.sl 2 (Enc.encL c.ty.levels),.sl 5 (Enc.encL c.ty.kids)]
instance:Enc Ctr:=⟨6,ctrC,fun l=>l.map ctrC,rfl,fun a b=>List.map_append,fun _=>rfl⟩
structure Rcr where
 params:Int
 ty:Tm
 rules:List Tm
def rcrC (r:Rcr):List C:=[.v (.int .i64 r.params),.v (.int .i64 r.ty.kind),.v (.int .i64 r.ty.index),.v (.string (Qci r.ty.name)),.sl 2 (Enc.encL r.ty.levels),.sl 5 (Enc.encL r.ty.kids),.sl 5 (Enc.encL r.rules)]
instance:Enc Rcr:=⟨7,rcrC,fun l=>l.map rcrC,rfl,fun a b=>List.map_append,fun _=>rfl⟩
structure Fn where
 name:Qdk
 ty:Tm
 arity:Int
 tree:Tr
def fnC (f:Fn):List C:=[.v (.string (Qci f.name)),.v (.int .i64 f.ty.kind),.v (.int .i64 f.ty.index),.v (.string (Qci f.ty.name)),.sl 2 (Enc.encL f.ty.levels),.sl 5 (Enc.encL f.ty.kids),.v (.int .i64 f.arity),
 .v (.int .i64 f.tree.kind),.v (.int .i64 f.tree.body.kind),.v (.int .i64 f.tree.body.index),.v (.string (Qci f.tree.body.name)),.sl 2 (Enc.encL f.tree.body.levels),.sl 5 (Enc.encL f.tree.body.kids),.v (.int .i64 f.tree.var),.sl 10 (Enc.encL f.tree.branches)]
instance:Enc Fn:=⟨15,fnC,fun l=>l.map fnC,rfl,fun a b=>List.map_append,fun _=>rfl⟩
structure Dcl where
 kind:Int
 name:Qdk
 params:Int
 ty:Tm
 value:Tm
 fixed:Int
 ctors:List Ctr
 rcr:Rcr
 funs:List Fn
def Qab (d:Dcl):List C:=[.v (.int .i64 d.kind),.v (.string (Qci d.name)),.v (.int .i64 d.params),
 .v (.int .i64 d.ty.kind),.v (.int .i64 d.ty.index),.v (.string (Qci d.ty.name)),.sl 2 (Enc.encL d.ty.levels),.sl 5 (Enc.encL d.ty.kids),
 .v (.int .i64 d.value.kind),.v (.int .i64 d.value.index),.v (.string (Qci d.value.name)),.sl 2 (Enc.encL d.value.levels),.sl 5 (Enc.encL d.value.kids),
 .v (.int .i64 d.fixed),.sl 6 (Enc.encL d.ctors),
 .v (.int .i64 d.rcr.params),.v (.int .i64 d.rcr.ty.kind),.v (.int .i64 d.rcr.ty.index),.v (.string (Qci d.rcr.ty.name)),.sl 2 (Enc.encL d.rcr.ty.levels),.sl 5 (Enc.encL d.rcr.ty.kids),.sl 5 (Enc.encL d.rcr.rules),.sl 15 (Enc.encL d.funs)]
instance:Enc Dcl:=⟨23,Qab,fun l=>l.map Qab,rfl,fun a b=>List.map_append,fun _=>rfl⟩
structure Ent where
 kind:Int
 decl:Int
 item:Int
 params:Int
 ty:Tm
def entC (e:Ent):List C:=[.v (.int .i64 e.kind),.v (.int .i64 e.decl),.v (.int .i64 e.item),.v (.int .i64 e.params),.v (.int .i64 e.ty.kind),.v (.int .i64 e.ty.index),.v (.string (Qci e.ty.name)),.sl 2 (Enc.encL e.ty.levels),.sl 5 (Enc.encL e.ty.kids)]
instance:Enc Ent:=⟨9,entC,fun l=>l.map entC,rfl,fun a b=>List.map_append,fun _=>rfl⟩
def tm0:Tm:=.mk 0 0 [] [] []
def ent0:Ent:=⟨0,0,0,0,tm0⟩
end
end
section
open Go.RowKit
class MK (κ:Type) extends BEq κ where
 ib:Bool
 val:κ→Value
 key:∀ a,keyOf ib (val a)=true
 eq:∀ a b,keyEq (val a) (val b)=some (a==b)
class MV (β:Type) where
 av:β→AV
 z:β
 ren:∀ ρ x,(av x).ren ρ=av x
 below:∀ m x,(av x).below m
instance:MK Int:={ ib:=true,val:=fun n=>.int .i64 n,key:=fun _=>rfl,eq:=fun _ _=>rfl }
theorem sB_eq (a b:List UInt8):keyEq (.string (Qci a)) (.string (Qci b))=some (a==b):=by
 show some (Qci a==Qci b)=some (a==b)
 congr 1
 show (a.toArray==b.toArray)=(a==b)
 rw [Bool.eq_iff_iff,beq_iff_eq,beq_iff_eq]
 exact ⟨fun h=>by have:=congrArg Array.toList h;simpa using this,fun h=>by rw [h]⟩
instance:MK (List UInt8):={ ib:=false,val:=fun s=>.string (Qci s),key:=fun _=>rfl,eq:=sB_eq }
instance:MV Bool:=⟨fun b=>.one (Qd0 b),false,fun _ _=>rfl,fun _ _=>trivial⟩
instance:MV Int:=⟨fun n=>.one (Qcz n),0,fun _ _=>rfl,fun _ _=>trivial⟩
noncomputable instance:MV Ent:=⟨fun e=>.agg (Qd1 e),ent0,fun _ _=>rfl,fun m x y hy=>by
 obtain ⟨c,-,rfl⟩:=List.mem_map.1 hy
 trivial⟩
inductive Parts (st:St):List (Nat×Operand)→List (Nat×AV)→Prop
 | nil:Parts st [] []
 | cons {i:Nat} {o:Operand} {x:AV} {ps:List (Nat×Operand)} {xs:List (Nat×AV)} (h:ev st.tm o=some (.v x)) (t:Parts st ps xs):Parts st ((i,o)::ps) ((i,x)::xs)
theorem Parts.spec {st:St} {ps:List (Nat×Operand)} {xs:List (Nat×AV)} (h:Parts st ps xs):ps.length=xs.length∧∀ (j i:Nat) (x:AV),xs[j]?=some (i,x)→∃ o,ps[j]?=some (i,o)∧ev st.tm o=some (.v x):=by
 induction h with
 | nil=>exact ⟨rfl,fun j i x hx=>by simp at hx⟩
 | cons h t ih =>
  refine ⟨by simp [ih.1],fun j i x hx=>?_⟩
  cases j with
  | zero=>simp at hx;obtain ⟨rfl,rfl⟩:=hx;exact ⟨_,rfl,h⟩
  | succ j=>exact ih.2 j i x (by simpa using hx)
section
variable {E:Env} {st:St} {dd:Option Tmp} {ty:TypeId} {pos:String} {af:Array Edge} {g:Option (Nat×Bool)}
theorem UO {t:TypeId} {pl:List (Nat×Nat)} {zs:List Value} {parts:Array (Nat×Operand)} {avs:List (Nat×AV)} {ys:List CA} (ht:K0 E.P t pl zs) (hz:zs.all (·.oneCell')=true) (hp:Parts st parts.toList avs) (hf:X3 pl (zs.map fun z=>.d (.v z)) avs=some ys) :
  RO E ⟨dd,.build t parts,ty,pos,af,g⟩ st (.v (.agg ys)):=XK ht hz hp.spec.1 hp.spec.2 hf
end
end
section
open Go.RowKit
instance:EncLen Tm:=⟨fun t=>by cases t;rfl,Nat.succ_pos 4⟩
instance:EncLen Qdl:=⟨fun t=>by cases t;rfl,Nat.succ_pos 9⟩
instance:EncLen Tr:=⟨fun t=>rfl,Nat.succ_pos 7⟩
instance:EncLen Ctr:=⟨fun t=>rfl,Nat.succ_pos 5⟩
instance:EncLen Rcr:=⟨fun t=>rfl,Nat.succ_pos 6⟩
instance:EncLen Fn:=⟨fun t=>rfl,Nat.succ_pos 14⟩
instance:EncLen Dcl:=⟨fun t=>rfl,Nat.succ_pos 22⟩
instance:EncLen Ent:=⟨fun t=>rfl,Nat.succ_pos 8⟩
instance:EncLen (List UInt8):=⟨fun _=>rfl,Nat.succ_pos 0⟩
instance:EncLen Bool:=⟨fun _=>rfl,Nat.succ_pos 0⟩
instance {α:Type} [Enc α]:EncLen (List α):=⟨fun _=>rfl,Nat.succ_pos 0⟩
section
variable {E:Env} {st:St} {dd:Option Tmp} {ty:TypeId} {pos:String} {af:Array Edge} {g:Option (Nat×Bool)} {α:Type} [Enc α] [EncLen α]
theorem J6 {t i:Nat} {T:TypeId} {x:Operand} (v:α) (ht:Jp E.P t=some (true,Enc.sz α)) (hx:ev st.tm x=some (.v (.one (.ptr i 0)))) (hi:Qcq st.hp i=some (.cells T (Qd1 v))):RO E ⟨dd,.load t x,ty,pos,af,g⟩ st (.v (.agg (Qd1 v))):=by
 have hl:(Qd1 v).length=Enc.sz α:=by rw [List.length_map,EncLen.len]
 exact G6 ht hx hi (by rw [List.drop_zero,List.take_of_length_le (Nat.le_of_eq hl)]) hl
theorem Jc {t:Nat} {x:Operand} (v:α) (ht:Jp E.P t=some (true,Enc.sz α)) (hx:ev st.tm x=some (.v (.one (.pel (Enc.enc v) 0)))):RO E ⟨dd,.load t x,ty,pos,af,g⟩ st (.v (.agg (Qd1 v))) :=
 RO.loadPelAgg ht hx (by rw [List.drop_zero,List.take_of_length_le (Nat.le_of_eq (EncLen.len v))]) (EncLen.len v)
theorem Jx {t i:Nat} {ag:Bool} {T:TypeId} {xs:List CA} {o1 o2:Operand} (v:α) (ht:Jp E.P t=some (ag,Enc.sz α)) (h1:ev st.tm o1=some (.v (.one (.ptr i 0)))) (h2:ev st.tm o2=some (.v (.agg (Qd1 v)))) (hi:Qcq st.hp i=some (.cells T xs)) (hl:xs.length=Enc.sz α) (hdd:dd=none) :
  OpOK E ⟨dd,.store t o1 o2,ty,pos,af,g⟩ st (.tup []) ⟨(i,.cells T (Qd1 v))::QN i st.hp,st.tk,st.nx⟩:=by
 have hc:(AV.agg (Qd1 v)).cells.length=Enc.sz α:=by show (Qd1 v).length=_;rw [List.length_map,EncLen.len]
 have:=JS (dd:=dd) (ty:=ty) (pos:=pos) (af:=af) (g:=g) ht h1 h2 hi hc (by omega) hdd
 have e1:setL xs 0 (AV.agg (Qd1 v)).cells=Qd1 v:=by
  have:=DG (AV.agg (Qd1 v)).cells xs [] (by rw [hc,hl])
  rw [List.append_nil,List.append_nil] at this
  exact this
 rw [e1] at this
 exact this
end
end
section
open Go.RowKit
structure SwInv (E:Env) (ops:Array Oper) (st:St) (fx:List (Nat×TV)) (effs:List Nat) (dns:List (List Nat)) (ms:List Mem) (listed:Array Bool) (a:Act) (w:World) (V:Vu) (j:Nat) (d:List Nat) (m:Mem):Prop where
 size:listed.size=ops.size
 closed:∀ i,listed.getD i false=true→∀ k∈QH ops i,listed.getD k false=true
 stage:dns[j]?=some d
 done:∀ e∈d,listed.getD e false=true
 todo:∀ e∈effs,e∉d→listed.getD e false=false
 mem:ms[j]?=some m
 rel:Rel E V ⟨XB (Jt ops) st.tm,m.hp,m.tk,m.nx,st.nt,st.df⟩ a w
 fact:∀ i,listed.getD i false=true→∀ d x,Jn ops i=some d→Qcq fx i=some x→x.rel V w (a.tmps.getD d undef)
 old:∀ t x,Qcq st.tm t=some x→(∀ k,Jn ops k=some t→listed.getD k false=false)→x.rel V w (a.tmps.getD t undef)
end
section
open Go.RowKit
section
variable {E:Env} {st:St} {dd d:Option Tmp} {ty:TypeId} {pos:String} {af:Array Edge} {g:Option (Nat×Bool)}
theorem RO.indexA {t n sz i off:Nat} {x y:Operand} {m:Int} (ht:DC E.P t=some (n,sz)) (hx:ev st.tm x=some (.v (.one (.ptr i off)))) (hy:ev st.tm y=some (Qda m)) (hm:(cond (decide (0≤m)) (Nat.blt m.toNat n) false)=true) :
  RO E ⟨d,.indexAddr t x y,ty,pos,af,g⟩ st (.v (.one (.ptr i (off+m.toNat * sz)))) :=
 RO.indexArrOwn ht hx hy (Int.toNat_of_nonneg (of_decide_eq_true (Ju hm))).symm (Ub (QU hm))
theorem HRel.skip {V:Vu} {hp:List (Nat×HB)} {tk:List (Nat×Option Tok)} {w:World} (h:HRel E V hp tk w) (N:Nat) (hN:V.nx≤N):HRel E { V with nx:=N } hp tk w∧V.Le { V with nx:=N } w w:=by
 have hle:V.Le { V with nx:=N } w w:=⟨hN,fun _ _=>rfl,fun _ _=>Nat.le_refl _,fun _ _ _ _=>rfl,fun _ _ h=>h,fun _ _ _=>rfl,fun _ _ _ _ h=>h⟩
 refine ⟨⟨h.ext,h.le0.trans hle,h.sz,h.sub,fun i B hi=>?_,h.inj,h.new,fun i T hi=>?_,h.tki⟩,hle⟩
 ·obtain ⟨h1,o,h2,h3⟩:=h.own i B hi
  exact ⟨Nat.lt_of_lt_of_le h1 hN,o,h2,h3.mono hle⟩
 ·obtain ⟨h1,h2⟩:=h.tok i T hi
  exact ⟨Nat.lt_of_lt_of_le h1 hN,h2⟩
theorem XQ.skipTo {e_:Exit} {Q:Exit→Act→World→Prop} (N:Nat) (hN:st.nx≤N) (k:XQ E Q e_ ⟨st.tm,st.hp,st.tk,N,st.nt,st.df⟩):XQ E Q e_ st:=fun V a w hr=>by
 obtain ⟨H,L⟩:=hr.h.skip N (by rw [hr.nx];exact hN)
 exact k _ a w ⟨H,Z,hr.nt,hr.df.le L,fun t x hx=>(hr.tm t x hx).mono L⟩
theorem XQ.adoptT {e_:Exit} {Q:Exit→Act→World→Prop} {t:Nat} (e sz:Nat) (h:Qcq st.tm t=some (KV (.slice none 0 0))) (k:XQ E Q e_ ⟨(t,.v (.one (.app st.nx sz [])))::st.tm,st.hp,(st.nx,some ⟨e,sz,0,[]⟩)::st.tk,st.nx+1,st.nt,st.df⟩):XQ E Q e_ st:=by
 intro V a w hr
 obtain ⟨H,L⟩:=hr.h.tokNil e sz
 refine k (V.tok V.nx 0 (.slice none 0 0) 0 0) a w ⟨by dsimp only;rw [← hr.nx];exact H,?_,hr.nt,hr.df.le L,fun t' x hx=>?_⟩
 ·show max V.nx (V.nx+1)=st.nx+1;rw [hr.nx];omega
 ·dsimp only at hx;rw [Q8] at hx
  split at hx
  ·rename_i e1;subst e1;cases hx
   have:=QV (hr.tm _ _ h)
   rw [this,← hr.nx]
   exact KS e sz
  ·exact (hr.tm t' x hx).mono L
theorem XQ.adoptC {e_:Exit} {Q:Exit→Act→World→Prop} {i off:Nat} {T:TypeId} {xs:List CA} (e sz:Nat) (hi:Qcq st.hp i=some (.cells T xs)) (hx:xs[off]?=some (.d (.v (.slice none 0 0)))) (k:XQ E Q e_ ⟨st.tm,(i,.cells T (xs.set off (.app st.nx sz [])))::st.hp,(st.nx,some ⟨e,sz,0,[]⟩)::st.tk,st.nx+1,st.nt,st.df⟩):XQ E Q e_ st:=by
 intro V a w hr
 obtain ⟨H,L⟩:=hr.h.tokNil e sz
 have hnx:(V.tok V.nx 0 (.slice none 0 0) 0 0).nx=st.nx+1:=by show max V.nx (V.nx+1)=_;rw [hr.nx];omega
 have hl:∀ (A:HB) j,j ≠ i→Qcq ((i,A)::st.hp) j=Qcq st.hp j:=fun A j hj=>by rw [Q8,if_neg (fun h=>hj h.symm)]
 obtain ⟨hb,o,ho,vs,hvo,hvs⟩:=H.own i _ hi
 have hcell:(xs[off]?).isSome:=by rw [hx];rfl
 obtain ⟨u,hu,hur⟩:=hvs.2 off _ hx
 have hu0:u=.slice none 0 0:=by cases hur;rfl
 refine k _ a w ⟨?_,hnx,hr.nt,hr.df.le L,fun t' x hx=>(hr.tm t' x hx).mono L⟩
 have H':=H
 rw [hr.nx] at H'
 refine ⟨H.ext,H.le0,H.sz,H.sub,?_,?_,?_,?_,?_⟩
 ·intro j B hj
  dsimp only at hj
  by_cases e1:j=i
  ·subst e1
   rw [Q8,if_pos rfl] at hj;cases hj
   refine ⟨hb,o,ho,vs,hvo,by rw [List.length_set];exact hvs.1,fun m y hy=>?_⟩
   rw [List.getElem?_set] at hy
   split at hy
   ·rename_i e2;subst e2
    split at hy
    ·cases hy;exact ⟨u,hu,by rw [hu0,← hr.nx];exact KS e sz⟩
    ·cases hy
   ·exact hvs.2 m y hy
  ·rw [hl _ j e1] at hj;exact H.own j B hj
 ·intro j m A B hj hm e1
  dsimp only at hj hm
  rw [Q8] at hj hm
  split at hj <;> split at hm
  ·rename_i a1 a2;exact a1.symm.trans a2
  ·rename_i a1 a2;subst a1;exact H.inj _ _ _ _ hi hm e1
  ·rename_i a1 a2;subst a2;exact H.inj _ _ _ _ hj hi e1
  ·exact H.inj _ _ _ _ hj hm e1
 ·intro j B hj
  dsimp only at hj
  rw [Q8] at hj
  split at hj
  ·rename_i a1;subst a1;exact H.new _ _ hi
  ·exact H.new _ _ hj
 ·intro j T' hj
  rw [← hr.nx] at hj
  obtain ⟨b1,b2,ys,b3,b4⟩:=H.tok j T' hj
  refine ⟨b1,b2,ys,b3,fun g' hg'=>⟨(b4 g' hg').1,(b4 g' hg').2.1,fun m B hm=>?_⟩⟩
  dsimp only at hm
  rw [Q8] at hm
  split at hm
  ·rename_i a1;subst a1;exact (b4 g' hg').2.2 _ _ hi
  ·exact (b4 g' hg').2.2 _ _ hm
 ·intro j m T' U g' hj hm
  rw [← hr.nx] at hj hm
  exact H.tki j m T' U g' hj hm
end
end
section
open Go.RowKit
structure Byt where
 n:Int
def Byt.u8 (b:Byt):UInt8:=UInt8.ofNat b.n.toNat
def bytC (b:Byt):List C:=[.v (.int .u8 b.n)]
instance:Enc Byt:=⟨1,bytC,fun l=>l.map bytC,rfl,fun a b=>List.map_append,fun _=>rfl⟩
instance:EncLen Byt:=⟨fun _=>rfl,by decide⟩
theorem tyBytes_spec {P:Program} {s:TypeId} (h:Dn P s=true):∃ e,P.underlying s=some (.slice e)∧P.underlying e=some (.int .u8):=by
 unfold Dn at h
 split at h
 ·rename_i e he
  split at h
  ·rename_i h2;exact ⟨e,he,h2⟩
  ·cases h
 ·cases h
section
variable {E:Env} {st:St} {d:Option Tmp} {ty:TypeId} {pos:String} {af:Array Edge} {g:Option (Nat×Bool)}
theorem RO.bytesO {s t:TypeId} {x:Operand} {y:CA} {l:List Byt} (hs:Dn E.P s=true) (ht:JN E.P t=true) (hx:ev st.tm x=some (.v (.one y))) (hl:SlOf y 1 (Enc.encL l)):RO E ⟨d,.convert s t x,ty,pos,af,g⟩ st (Qd9 (l.map Byt.u8)):=by
 refine ⟨(fun _ h=>nomatch h),fun V a w hr=>⟨.string (Qci (l.map Byt.u8)),?_,Jk Z⟩⟩
 obtain ⟨e,h1,h2⟩:=tyBytes_spec hs
 have h3:E.P.underlying t=some .string:=by
  unfold JN at ht
  split at ht
  ·rename_i h;exact h
  ·cases ht
 have hR:=hl.reads (hr.ev hx)
 have key:(convert s t (a.eval x)).run E.P w=.ok (.string (Qci (l.map Byt.u8))) w:=by
  generalize hv:a.eval x=v at hR
  have hle:∀ es:List (List C),es=Enc.encL l→Reads V.S w (.sl 1 es) v→(convert s t v).run E.P w=.ok (.string (Qci (l.map Byt.u8))) w:=by
   intro es hes hR
   cases hR with
   | sl _ _ ad cap b off f hcap ha hln hc _ hr' =>
    have hlen:es.length=l.length:=by rw [hes,Enc.len]
    have cells:∀ i,i < l.length→w.cell? ⟨b,off+i,none⟩=some (.int .u8 ((l.map Byt.n).getD i 0)):=fun i hi=>by
     have hg:es[i]?=some [.v (.int .u8 (l[i]).n)]:=by rw [hes];exact Enc.get (List.getElem?_eq_getElem hi)
     have c1:=hc i _ 0 _ hg rfl
     have c2:=hr' i _ 0 _ hg rfl
     generalize hf:f i 0=u at c1 c2
     cases c2
     rw [show off+i * 1+0=off+i by omega] at c1
     rw [c1]
     simp [List.getD,hi]
    by_cases h0:es=[]
    ·have hl0:l=[]:=List.eq_nil_of_length_eq_zero (by rw [← hlen,h0];rfl)
     subst hl0
     rw [h0]
     rw [run_convert_bytes_string w s t e ad _ cap h1 h2 h3]
     cases ad with
     | none=>simp [Conv.bytesToString];rfl
     | some ad =>
      rw [run_bytesToString w ad _ cap [] (by
       have:=run_loadCells_list (P:=E.P) w ad [] (fun j v hj=>by simp at hj)
       simpa using this)]
      rfl
    ·rw [ha h0,hlen]
     rw [run_convert_bytes_arg w s e h1 h2 b off l.length cap (l.map Byt.n) (by simp) cells t h3]
     congr 2
     unfold strOfNums Qci
     rw [List.map_map];rfl
  exact hle _ Z hR
 simp only [execOp,Sem.run_bind,key,Result.andThen_ok]
 rfl
end
end
section
open Go.RowKit
section
variable {E:Env} {st:St} {dd:Option Tmp} {ty:TypeId} {pos:String} {af:Array Edge} {g:Option (Nat×Bool)}
theorem RO.loadCol {t b m0 sz f:Nat} {T:TypeId} {xs:List CA} {x:Operand} {col:List Int} {m v:Int} (ht:Jp E.P t=some (false,m0)) (hx:ev st.tm x=some (.v (.one (.ptr b (0+m.toNat * sz+f))))) (hb:Qcq st.hp b=some (.cells T xs))
  (hc:(List.range col.length).map (fun j=>xs[j * sz+f]?)=col.map fun n=>some (Qcz n)) (hv:J3 col m=some v):RO E ⟨dd,.load t x,ty,pos,af,g⟩ st (Qda v):=by
 obtain ⟨k,rfl,hk⟩:=Q8k hv
 have h1:=congrArg (fun l:List (Option CA)=>l[k]?) hc
 have hlt:=(List.getElem?_eq_some_iff.1 hk).1
 rw [List.getElem?_map,List.getElem?_map,List.getElem?_range hlt,hk] at h1
 have h2:=Option.some.inj h1
 refine Q7 (y:=Qcz v) ht hx hb ?_
 rw [Int.toNat_natCast,Nat.zero_add]
 exact h2
end
section
variable {E:Env} {st:St} {dd:Option Tmp} {ty:TypeId} {pos:String} {af:Array Edge} {g:Option (Nat×Bool)}
theorem RO.makeFunc3 {f:FuncId} {o1 o2 o3:Operand} {i1 k1 i2 k2 i3 Qct:Nat} {dd:Option Tmp} (h1:ev st.tm o1=some (.v (.one (.ptr i1 k1)))) (h2:ev st.tm o2=some (.v (.one (.ptr i2 k2)))) (h3:ev st.tm o3=some (.v (.one (.ptr i3 Qct)))):RO E ⟨dd,.makeFunc (.func f) #[] #[o1,o2,o3],ty,pos,af,g⟩ st (.v (.one (.fn f [(i1,k1),(i2,k2),(i3,Qct)]))) :=
 XJ rfl (fun k p hk=>by
  match k,hk with
  | 0,hk=>cases hk;exact ⟨o1,rfl,h1⟩
  | 1,hk=>cases hk;exact ⟨o2,rfl,h2⟩
  | 2,hk=>cases hk;exact ⟨o3,rfl,h3⟩)
end
end
section
open Go.RowKit
def CallD (P:Program) (f:FuncId) (args:List AV) (m:Mem) (pv:Value) (m':Mem):Prop :=
 Qe P f∧∀ (E:Env) (V:Vu) (w:World) (vs:Array Value),E.P=P→HRel E V m.hp m.tk w→V.nx=m.nx→argsRel V w args vs →
  Calls P f vs w fun e w'=>∃ V',e=.panicked (ZP pv)∧HRel E V' m'.hp m'.tk w'∧V'.nx=m'.nx∧V.Le V' w w'
inductive EK where
 | ret (xs:List AV)
 | pan (v:Value)
def CallE (P:Program) (f:FuncId) (args:List AV) (m:Mem) (k:EK) (m':Mem):Prop:=match k with
 | .ret xs=>CallM P f args m (Qw xs) m'
 | .pan v=>CallD P f args m v m'
def EK.ok (P:Program) (st:St) (rs:List ResultVar):EK→Prop
 | .ret xs=>RAs P st rs xs
 | .pan _=>True
def EK.by:EK→Exit→Prop
 | .ret _,e=>e=.normal∨e=.ret
 | .pan v,e=>e=.panic (ZP v)
theorem Qbt {xs:List AV}:EK.by (.ret xs) .ret:=.inr rfl
theorem okR {P:Program} {st:St} {rs:List ResultVar} {xs:List AV} (h:RAs P st rs xs):EK.ok P st rs (.ret xs):=h
theorem CallE.m {P:Program} {f:FuncId} {args:List AV} {m m':Mem} {xs:List AV} (h:CallE P f args m (.ret xs) m'):CallM P f args m (Qw xs) m':=h
theorem sumE {α β γ δ:Type} (ι:α⊕β→δ) {o:Option δ} {y:α⊕β} {f:α→Option γ} {g:β→Option γ} {r:γ} {G:Prop} (ho:o=some (ι y)) (h:Sum.elim f g y=some r) (k1:∀ a,o=some (ι (.inl a))→f a=some r→G) (k2:∀ b,o=some (ι (.inr b))→g b=some r→G):G:=by
 cases y with
 | inl a=>exact k1 a ho h
 | inr b=>exact k2 b ho h
def OpD (E:Env) (o:Oper) (st:St) (pv:Value) (m:Mem):Prop:=∀ V a w,Rel E V st a w→∀ (ro:Option Nat) (n:Nat) (K:Act→World→Prop) (Q:Exit→Act→World→Prop),
 (∀ V' w',HRel E V' m.hp m.tk w'→V'.nx=m.nx→V.Le V' w w'→Q (.panic (ZP pv)) a w')→o.wpIn (Qdh ro) n E.P a w K Q
section
variable {E:Env} {ro:Option Nat} {n:Nat} {ops:Array Oper} {Q:Exit→Act→World→Prop} {rest:List Oper} {st:St} {o:Oper} {x:TV} {d dd:Option Tmp} {ty:TypeId} {pos:String} {af:Array Edge} {g:Option (Nat×Bool)}
theorem XL.die {pv:Value} {hp:List (Nat×HB)} {tk:List (Nat×Option Tok)} {nx:Nat} (hg:QJ ops st.tm o=some true) (ho:OpD E o st pv ⟨hp,tk,nx⟩) (k:XQ E Q (.panic (ZP pv)) ⟨st.tm,hp,tk,nx,st.nt,st.df⟩):XL E ro n ops Q (o::rest) st:=by
 intro V a w h
 unfold wpListIn
 rw [if_pos (YD h hg)]
 exact ho V a w h ro n _ Q (fun V' w' H hn L=>k V' a w' (h.mem H hn L))
theorem DieOp.mk {fx:List (Nat×TV)} {i:Nat} {m m':Mem} {pv:Value} (ho:ops[i]?=some o) (hw:QJ ops (QF ops st fx i m).tm o=some true) (h:OpD E o (QF ops st fx i m) pv m') (k:XQ E Q (.panic (ZP pv)) ⟨(QF ops st fx i m).tm,m'.hp,m'.tk,m'.nx,st.nt,st.df⟩):DieOp E Q ops st fx i m :=
 ⟨o,ho,hw,fun V a w hr ro n K=>h V a w hr ro n K Q (fun V' w' H hn L=>k V' a w' (hr.mem H hn L))⟩
theorem OpD.panic {x:Operand} {v:Value} {T:TypeId} (hx:ev st.tm x=some (KV (.iface T v))):OpD E ⟨dd,.panic x,ty,pos,af,g⟩ st (.iface T v) st.mem:=by
 intro V a w hr ro n K Q hK
 refine ⟨fun _ _=>trivial,?_⟩
 rw [Oper.semAt_eq _ _ _ (by intro c h;cases h)]
 have h1:=QV (hr.ev hx)
 have h2:(execOp a.eval ⟨dd,.panic x,ty,pos,af,g⟩).run E.P w=.halt (.panic (.iface T v)) w:=by
  simp [execOp,Instr.panic,h1,goPanic]
 rw [h2]
 exact hK V w hr.h hr.nx (Vu.Le.refl _ _)
end
theorem Xu {E:Env} {hp:List (Nat×HB)} {tk:List (Nat×Option Tok)} {F:Fence} {n:Nat} {P:Program} {fn:Func} {tmps:Array Value} {R:Ending→World→Prop} {u:FrameMode} (hu:u ≠ .run) {rest:List Deferred}:∀ (bs:List Nat) (w:World) (V:Vu),HRel E V hp tk w→bs.Nodup →
  (∀ b∈bs,V.S b 0∧w.heap[b]?=some (.deferred (some []))∧∀ o,¬ E.V0.S b o) →
  (∀ w' V',HRel E V' hp tk w'→V'.nx=V.nx→V'.ι=V.ι→V.Lx V' w w'→(∀ b o,b∉bs→V.S b o→V'.S b o)→(∀ b,b∉bs→w'.heap[b]?=w.heap[b]?)→LeavesInM F n P fn tmps R rest u w') →
  LeavesInM F n P fn tmps R (bs.map (fun b=>{ target:=.collected b,args:=#[]})++rest) u w
 | [],w,V,h,_,_,hK=>hK w V h rfl rfl (Vu.Lx.refl _ _) (fun _ _ _ h=>h) (fun _ _=>rfl)
 | b::bs,w,V,h,hn,hb,hK=>by
  obtain ⟨h1,h2,h3⟩:=hb b (by simp)
  obtain ⟨h4,h5⟩:=List.nodup_cons.1 hn
  obtain ⟨H,L⟩:=h.take h1 h2 h3
  refine ⟨hu,.inl ⟨b,_,Z,run_takeDeferred h2,?_⟩⟩
  refine Xu hu bs _ _ H h5 (fun b' hb'=>?_) (fun w' V' hw' hn' hι' L' hS' hh'=>hK w' V' hw' hn' hι' (L.trans L') (fun b' o hm hs=>hS' b' o (fun h=>hm (by simp [h])) ⟨hs,fun e=>hm (by simp [e])⟩) (fun b' hm=>(hh' b' (fun h=>hm (by simp [h]))).trans (World.putObj_heap_other (fun e=>hm (by simp [e])))))
  obtain ⟨h6,h7,h8⟩:=hb b' (by simp [hb'])
  have hne:b' ≠ b:=fun e=>h4 (by rw [← e];exact hb')
  exact ⟨⟨h6,hne⟩,(World.putObj_heap_other hne).trans h7,h8⟩
theorem Wz {E:Env} {V:Vu} {st:St} {a:Act} {w:World} (hr:Rel E V st a w) (hd:st.df=[]) {F:Fence} {n:Nat} {P:Program} {fn:Func} {tmps:Array Value} {R:Ending→World→Prop} {ch:List PanicEntry}
  (hK:∀ w' V',HRel E V' st.hp st.tk w'→V'.nx=V.nx→V.Lx V' w w'→R (.panicked ch) w'):LeavesInM F n P fn tmps R a.defers (.panicking ch) w:=by
 obtain ⟨bs,h1,h2,h3⟩:=hr.df.of_nil hd
 rw [h1,← List.append_nil (List.map _ bs)]
 exact Xu (by simp) bs w V hr.h h2 h3 (fun w' V' H hn hι L _ _=>hK w' V' H hn L)
theorem CallE.of_body {P:Program} {f:FuncId} {fn:Func} {c:Code} {args:List AV} {m:Mem} {Y:Type} (y:Y) (stf:Y→St) (kf:Y→EK) (hf:P.funcs[f]?=some fn) (hb:fn.body=some c) (hen:Qe P f) (hnt:args.length≤fn.ntmps)
  (hdf:∀ y,(stf y).df=[]) (hres:∀ y,(kf y).ok P (stf y) fn.results.toList)
  (h:∀ (w0:World) (M:Nat→Prop) (V0:Vu) (Q:Exit→Act→World→Prop),V0.nx≤m.nx →
   (∀ (e:Exit) (st':St),(kf y).by e→st'.df=[]→StLe ⟨P,w0,M,V0⟩ st' (stf y)→XQ ⟨P,w0,M,V0⟩ Q e st')→XC ⟨P,w0,M,V0⟩ none 0 Q c ⟨J4 0 args,m.hp,m.tk,m.nx,fn.ntmps,[]⟩) (hP0:P=Tryz.prog:=by rfl) :
  CallE P f args m (kf y) ⟨(stf y).hp,(stf y).tk,(stf y).nx⟩:=by
 have hd:=hdf y
 have hr:=hres y
 generalize stf y=st1 at hd hr h ⊢
 cases hk:kf y with
 | ret xs =>
  rw [hk] at hr
  refine JG st1 hf hb hen hnt hd hr (fun w0 M V0 Q hv hQ=>h w0 M V0 Q hv (fun e st' he hdf' hle=>?_)) hP0
  rw [hk] at he
  exact hQ e st' st'.hp he (by rw [hdf'];rfl) (by cases st';dsimp only at hdf';subst hdf';exact hle)
 | pan pv =>
  refine ⟨hen,fun E V w vs hP H hn hargs=>?_⟩
  refine (callsIn_wide (n:=0)).1 (Zz (F:=Fence.wide) (UU hP0 hf) hf hb trivial ?_)
  have hR0:Rel (E.at V w) V ⟨J4 0 args,m.hp,m.tk,m.nx,fn.ntmps,[]⟩ { tmps:=vs++Array.replicate (fn.ntmps - vs.size) undef,defers:=[]} w:=by
   refine ⟨H.rebase,hn,by simp [hargs.1];omega,dfRel.nil,fun t x hx=>?_⟩
   obtain ⟨k,y,h1,h2,rfl⟩:=Gf args 0 t x hx
   obtain ⟨u,hu,hy⟩:=hargs.2 k y h2
   have hk:k < vs.size:=(Array.getElem?_eq_some_iff.1 hu).1
   have:(vs++Array.replicate (fn.ntmps - vs.size) undef).getD t undef=u:=by
    rw [show t=k by omega,Array.getD_eq_getD_getElem?,Array.getElem?_append_left hk,hu];rfl
   rw [this];exact hy
  have hgo:∀ E':Env,E'=E.at V w→E'.P=P→E'.V0=V→XC E' none 0 (bodyPostM Fence.wide 0 P fn (fun e w'=>∃ V',e=.panicked (ZP pv)∧HRel E V' st1.hp st1.tk w'∧V'.nx=st1.nx∧V.Le V' w w')) c ⟨J4 0 args,m.hp,m.tk,m.nx,fn.ntmps,[]⟩:=by
   rintro ⟨P',w0,M,V0⟩ he hP' hV'
   dsimp only at hP' hV'
   subst hP'
   refine h w0 M V0 _ (by rw [hV',hn];exact Nat.le_refl _) ?_
   intro e st' hby hdf' hle
   rw [hk] at hby
   cases (show e=.panic (ZP pv) from hby)
   intro V1 a1 w1 hr1
   rw [he] at hr1 hle
   obtain ⟨V2,hr2⟩:=hr1.less hle
   refine Wz hr2 hd (fun w' V' H' hn' L'=>?_)
   obtain ⟨H5,L5⟩:=H.back H'
   exact ⟨V',Z,H5,hn'.trans hr2.nx,L5⟩
  have:=hgo (E.at V w) rfl hP rfl V _ w hR0
  rw [show (E.at V w).P=P from hP] at this
  exact this
end
section
open Go.RowKit
noncomputable section
structure Use where
 index:Bool
 name:Bool
 levels:Int
 kids:Int
 below:Int
def useC (u:Use):List C:=[.v (.bool u.index),.v (.bool u.name),.v (.int .i64 u.levels),.v (.int .i64 u.kids),.v (.int .i64 u.below)]
instance:Enc Use:=⟨5,useC,fun l=>l.map useC,rfl,fun a b=>List.map_append,fun _=>rfl⟩
instance:EncLen Use:=⟨fun _=>rfl,by decide⟩
structure Scp where
 vars:Int
 params:Int
 metas:Int
 levels:Int
def scpC (u:Scp):List C:=[.v (.int .i64 u.vars),.v (.int .i64 u.params),.v (.int .i64 u.metas),.v (.int .i64 u.levels)]
instance:Enc Scp:=⟨4,scpC,fun l=>l.map scpC,rfl,fun a b=>List.map_append,fun _=>rfl⟩
instance:EncLen Scp:=⟨fun _=>rfl,by decide⟩
end
section
variable {E:Env} {st:St} {d:Option Tmp} {ty:TypeId} {pos:String} {af:Array Edge} {g:Option (Nat×Bool)}
def Q4u (P:Program) (t:TypeId):Option (Nat×Nat):=match P.underlying t with
 | some (.array n e)=>match Jp P e with
  | some (true,sz)=>some (n,sz)
  | _=>none
 | _=>none
theorem RO.indexAgg {α:Type} [Enc α] [EncLen α] {t n:Nat} {x y:Operand} {xs:List CA} {tbl:List α} {m:Int} {v:α} (ht:Q4u E.P t=some (n,Enc.sz α)) (hx:ev st.tm x=some (.v (.agg xs))) (hxs:xs=Q07 tbl) (hn:Nat.beq tbl.length n=true) (hy:ev st.tm y=some (Qda m)) (hv:J3 tbl m=some v) :
  RO E ⟨d,.index t x y,ty,pos,af,g⟩ st (.v (.agg (Qd1 v))):=by
 refine ⟨(fun _ h=>nomatch h),fun V a w hr=>?_⟩
 obtain ⟨k,rfl,hk⟩:=Q8k hv
 obtain ⟨vs,h1,h2,h3⟩:=hr.ev hx
 subst hxs
 have hlt:k < tbl.length:=(List.getElem?_eq_some_iff.1 hk).1
 have hn':=Nat.eq_of_beq_eq_true hn
 unfold Q4u at ht
 split at ht
 ·rename_i n' e hu
  split at ht
  ·rename_i sz ha
   cases ht
   obtain ⟨h4,h5⟩:=ZG ha w
   have hsz:vs.size=tbl.length * Enc.sz α:=by rw [h2,flatE_len]
   refine ⟨.agg (vs.extract (k * Enc.sz α) (k * Enc.sz α+Enc.sz α)),?_,_,Z,?_,fun i c hc=>?_⟩
   ·have h6:(k:Int) < (n:Int):=by omega
    have h7:¬ n≤k:=by omega
    simp [execOp,Instr.index,h1,QV (hr.ev hy),asIntOf,run_underlying hu,part,h4,h5,h6,h7]
   ·have:k * Enc.sz α+Enc.sz α≤vs.size:=by rw [hsz,← Nat.succ_mul];exact Nat.mul_le_mul_right _ hlt
    rw [Array.size_extract,List.length_map,EncLen.len];omega
   ·have hi:i < Enc.sz α:=by have:=(List.getElem?_eq_some_iff.1 hc).1;rw [List.length_map,EncLen.len] at this;exact this
    have hc':(Q07 tbl)[k * Enc.sz α+i]?=some c:=by rw [flatE_get hk hi,← List.getElem?_map];exact hc
    obtain ⟨u,h6,h7⟩:=h3 _ c hc'
    refine ⟨u,?_,h7⟩
    rw [Array.getElem?_extract]
    have:k * Enc.sz α+Enc.sz α≤vs.size:=by rw [hsz,← Nat.succ_mul];exact Nat.mul_le_mul_right _ hlt
    rw [if_pos (by omega)];exact h6
  ·cases ht
 ·cases ht
end
end
section
open Go.RowKit
noncomputable section
structure Rsc where
 env:List Dcl
 own:List (List UInt8)
 d:Dcl
def rscC (s:Rsc):List C:=.sl 23 (Enc.encL s.env)::.sl 1 (Enc.encL s.own)::Qab s.d
instance:Enc Rsc:=⟨25,rscC,fun l=>l.map rscC,rfl,fun a b=>List.map_append,fun _=>rfl⟩
instance:EncLen Rsc:=⟨fun _=>rfl,by decide⟩
end
section
variable {E:Env} {st:St} {dd:Option Tmp} {ty:TypeId} {pos:String} {af:Array Edge} {g:Option (Nat×Bool)}
theorem G7 {t i n:Nat} {ag:Bool} {T:TypeId} {xs ys:List CA} {o1 o2:Operand} (ht:Jp E.P t=some (ag,n)) (h1:ev st.tm o1=some (.v (.one (.ptr i 0)))) (h2:ev st.tm o2=some (.v (.agg ys)))
  (hi:Qcq st.hp i=some (.cells T xs)) (hl:ys.length=n) (hx:xs.length=n) (hdd:dd=none) :
  OpOK E ⟨dd,.store t o1 o2,ty,pos,af,g⟩ st (.tup []) ⟨(i,.cells T ys)::QN i st.hp,st.tk,st.nx⟩:=by
 have:=JS (dd:=dd) (ty:=ty) (pos:=pos) (af:=af) (g:=g) ht h1 h2 hi hl (by omega) hdd
 have e1:setL xs 0 (AV.agg ys).cells=ys:=by
  have:=DG ys xs [] (by omega)
  rw [List.append_nil,List.append_nil] at this
  exact this
 rw [e1] at this
 exact this
variable {α:Type} [Enc α] [EncLen α]
end
end
section
open Go.RowKit
structure Tkn where
 text:Qdk
 at_:Int
def tknC (t:Tkn):List C:=[.v (.string (Qci t.text)),.v (.int .i64 t.at_)]
instance:Enc Tkn:=⟨2,tknC,fun l=>l.map tknC,rfl,fun a b=>List.map_append,fun _=>rfl⟩
instance:EncLen Tkn:=⟨fun _=>rfl,by decide⟩
structure Rdr where
 l:List Tkn
 n:Int
def rdrC (t:Rdr):List C:=[.sl 2 (Enc.encL t.l),.v (.int .i64 t.n)]
instance:Enc Rdr:=⟨2,rdrC,fun l=>l.map rdrC,rfl,fun a b=>List.map_append,fun _=>rfl⟩
instance:EncLen Rdr:=⟨fun _=>rfl,by decide⟩
structure RRd where
 s:Qdk
 at_:Int
 bad:Bool
def rrdC (t:RRd):List C:=[.v (.string (Qci t.s)),.v (.int .i64 t.at_),.v (.bool t.bad)]
instance:Enc RRd:=⟨3,rrdC,fun l=>l.map rrdC,rfl,fun a b=>List.map_append,fun _=>rfl⟩
instance:EncLen RRd:=⟨fun _=>rfl,by decide⟩
structure RWr where
 s:Qdk
 e:Int
def rwrC (t:RWr):List C:=[.v (.string (Qci t.s)),.v (.int .i64 t.e)]
instance:Enc RWr:=⟨2,rwrC,fun l=>l.map rwrC,rfl,fun a b=>List.map_append,fun _=>rfl⟩
instance:EncLen RWr:=⟨fun _=>rfl,by decide⟩
structure Rfd where
 e:Int
 at_:Int
def rfdC (t:Rfd):List C:=[.v (.int .i64 t.e),.v (.int .i64 t.at_)]
instance:Enc Rfd:=⟨2,rfdC,fun l=>l.map rfdC,rfl,fun a b=>List.map_append,fun _=>rfl⟩
instance:EncLen Rfd:=⟨fun _=>rfl,by decide⟩
end
end Go.Proofs.YtjcfppnjamjjhaaGreatDoor
namespace Go.Proofs
section
open Go.Shelf
def Tryz.lays171_ren:Go.Shelf.Ren:=⟨fun | 171=>62 | 243=>113 | 246=>138 | 283=>159 | 284=>160 | 285=>161 | 286=>162 | 129=>191 | 317=>190 | 318=>192 | 319=>193 | 320=>194 | 337=>212 | 338=>213 | n=>n,fun | 3=>3 | 9=>9 | 2=>2 | 4=>4 | 171=>194 | 0=>0 | 53=>195 | 37=>60 | 5=>5 | 173=>198 | 212=>230 | 51=>231 | 20=>20 | 213=>232 | 46=>234 | 232=>260 | 233=>261 | n=>n,fun | 17=>0 | 18=>4 | 19=>5 | n=>n⟩
theorem Tryz.lays171:Go.Proofs.LaysM.n171 Tryz.prog Tryz.lays171_ren:={
 mixed:=by kernel_rfl
 f129:=Tryz.func191.trans (congrArg some (by kernel_rfl))
 f171:=Tryz.func62.trans (congrArg some (by kernel_rfl))
 f243:=Tryz.func113.trans (congrArg some (by kernel_rfl))
 f246:=Tryz.func138.trans (congrArg some (by kernel_rfl))
 f283:=Tryz.func159.trans (congrArg some (by kernel_rfl))
 f284:=Tryz.func160.trans (congrArg some (by kernel_rfl))
 f285:=Tryz.func161.trans (congrArg some (by kernel_rfl))
 f286:=Tryz.func162.trans (congrArg some (by kernel_rfl))
 f317:=Tryz.func190.trans (congrArg some (by kernel_rfl))
 f318:=Tryz.func192.trans (congrArg some (by kernel_rfl))
 f319:=Tryz.func193.trans (congrArg some (by kernel_rfl))
 f320:=Tryz.func194.trans (congrArg some (by kernel_rfl))
 f337:=Tryz.func212.trans (congrArg some (by kernel_rfl))
 f338:=Tryz.func213.trans (congrArg some (by kernel_rfl))
 t0:=Tryz.underlying0
 a0:=Tryz.isAgg0
 z0:=Tryz.sizeOf0
 v0:=Tryz.zeroValue0
 t2:=Tryz.underlying2
 a2:=Tryz.isAgg2
 z2:=Tryz.sizeOf2
 v2:=Tryz.zeroValue2
 t3:=Tryz.underlying3
 a3:=Tryz.isAgg3
 z3:=Tryz.sizeOf3
 v3:=Tryz.zeroValue3
 t4:=Tryz.underlying4
 a4:=Tryz.isAgg4
 z4:=Tryz.sizeOf4
 v4:=Tryz.zeroValue4
 t5:=Tryz.underlying5
 a5:=Tryz.isAgg5
 z5:=Tryz.sizeOf5
 v5:=Tryz.zeroValue5
 t9:=Tryz.underlying9
 a9:=Tryz.isAgg9
 z9:=Tryz.sizeOf9
 v9:=Tryz.zeroValue9
 t20:=Tryz.underlying20
 a20:=Tryz.isAgg20
 z20:=Tryz.sizeOf20
 v20:=Tryz.zeroValue20
 t37:=Tryz.underlying60
 a37:=Tryz.isAgg60
 z37:=Tryz.sizeOf60
 v37:=Tryz.zeroValue60
 t46:=Tryz.underlying234
 a46:=Tryz.isAgg234
 z46:=Tryz.sizeOf234
 v46:=Tryz.zeroValue234
 t51:=Tryz.underlying231
 a51:=Tryz.isAgg231
 z51:=Tryz.sizeOf231
 v51:=Tryz.zeroValue231
 t53:=Tryz.underlying195
 a53:=Tryz.isAgg195
 z53:=Tryz.sizeOf195
 v53:=Tryz.zeroValue195
 t171:=Tryz.underlying194
 a171:=Tryz.isAgg194
 z171:=Tryz.sizeOf194
 v171:=Tryz.zeroValue194
 t173:=Tryz.underlying198
 a173:=Tryz.isAgg198
 z173:=Tryz.sizeOf198
 v173:=Tryz.zeroValue198
 t212:=Tryz.underlying230
 a212:=Tryz.isAgg230
 z212:=Tryz.sizeOf230
 v212:=Tryz.zeroValue230
 t213:=Tryz.underlying232
 a213:=Tryz.isAgg232
 z213:=Tryz.sizeOf232
 t232:=Tryz.underlying260
 a232:=Tryz.isAgg260
 z232:=Tryz.sizeOf260
 v232:=Tryz.zeroValue260
 t233:=Tryz.underlying261
 a233:=Tryz.isAgg261
 z233:=Tryz.sizeOf261
 v233:=Tryz.zeroValue261
 g17:=by kernel_rfl
 g18:=by kernel_rfl
 g19:=by kernel_rfl
 i0:=by kernel_rfl
 i2:=by kernel_rfl
 i3:=by kernel_rfl
 i4:=by kernel_rfl
 i5:=by kernel_rfl
 i9:=by kernel_rfl
 i20:=by kernel_rfl
 i37:=by kernel_rfl
 i46:=by kernel_rfl
 i51:=by kernel_rfl
 i53:=by kernel_rfl
 i171:=by kernel_rfl
 i173:=by kernel_rfl
 i212:=by kernel_rfl
 i232:=by kernel_rfl
 i233:=by kernel_rfl
 m17:=by kernel_rfl
 m18:=by kernel_rfl
 m19:=by kernel_rfl }
def Tryz.lays160_ren:Go.Shelf.Ren:=⟨fun | 160=>146 | 232=>167 | 231=>166 | 227=>168 | 234=>170 | 233=>169 | 236=>172 | 235=>171 | 228=>196 | 271=>199 | 151=>198 | 197=>197 | 120=>217 | 152=>216 | 260=>215 | 137=>122 | 119=>224 | 224=>225 | 225=>226 | 217=>143 | 266=>165 | n=>n,fun | 9=>9 | 4=>4 | 3=>3 | 5=>5 | 117=>204 | 116=>203 | 0=>0 | 124=>207 | 21=>21 | 105=>236 | 46=>234 | 119=>262 | 139=>265 | 138=>264 | n=>n,fun | 3=>6 | 4=>7 | n=>n⟩
theorem Tryz.lays160:Go.Proofs.Lays.n160 Tryz.prog Tryz.lays160_ren:={
 mixed:=by kernel_rfl
 f119:=Tryz.func224.trans (congrArg some (by kernel_rfl))
 f120:=Tryz.func217.trans (congrArg some (by kernel_rfl))
 f137:=Tryz.func122.trans (congrArg some (by kernel_rfl))
 f151:=Tryz.func198.trans (congrArg some (by kernel_rfl))
 f152:=Tryz.func216.trans (congrArg some (by kernel_rfl))
 f160:=Tryz.func146.trans (congrArg some (by kernel_rfl))
 f197:=Tryz.func197.trans (congrArg some (by kernel_rfl))
 f217:=Tryz.func143.trans (congrArg some (by kernel_rfl))
 f224:=Tryz.func225.trans (congrArg some (by kernel_rfl))
 f225:=Tryz.func226.trans (congrArg some (by kernel_rfl))
 f227:=Tryz.func168.trans (congrArg some (by kernel_rfl))
 f228:=Tryz.func196.trans (congrArg some (by kernel_rfl))
 f231:=Tryz.func166.trans (congrArg some (by kernel_rfl))
 f232:=Tryz.func167.trans (congrArg some (by kernel_rfl))
 f233:=Tryz.func169.trans (congrArg some (by kernel_rfl))
 f234:=Tryz.func170.trans (congrArg some (by kernel_rfl))
 f235:=Tryz.func171.trans (congrArg some (by kernel_rfl))
 f236:=Tryz.func172.trans (congrArg some (by kernel_rfl))
 f260:=Tryz.func215.trans (congrArg some (by kernel_rfl))
 f266:=Tryz.func165.trans (congrArg some (by kernel_rfl))
 f271:=Tryz.func199.trans (congrArg some (by kernel_rfl))
 t0:=Tryz.underlying0
 a0:=Tryz.isAgg0
 z0:=Tryz.sizeOf0
 v0:=Tryz.zeroValue0
 t3:=Tryz.underlying3
 a3:=Tryz.isAgg3
 z3:=Tryz.sizeOf3
 v3:=Tryz.zeroValue3
 t4:=Tryz.underlying4
 a4:=Tryz.isAgg4
 z4:=Tryz.sizeOf4
 v4:=Tryz.zeroValue4
 t5:=Tryz.underlying5
 a5:=Tryz.isAgg5
 z5:=Tryz.sizeOf5
 v5:=Tryz.zeroValue5
 t9:=Tryz.underlying9
 a9:=Tryz.isAgg9
 z9:=Tryz.sizeOf9
 v9:=Tryz.zeroValue9
 t21:=Tryz.underlying21
 a21:=Tryz.isAgg21
 z21:=Tryz.sizeOf21
 v21:=Tryz.zeroValue21
 t46:=Tryz.underlying234
 a46:=Tryz.isAgg234
 z46:=Tryz.sizeOf234
 v46:=Tryz.zeroValue234
 t105:=Tryz.underlying236
 a105:=Tryz.isAgg236
 z105:=Tryz.sizeOf236
 v105:=Tryz.zeroValue236
 t116:=Tryz.underlying203
 a116:=Tryz.isAgg203
 z116:=Tryz.sizeOf203
 t117:=Tryz.underlying204
 a117:=Tryz.isAgg204
 z117:=Tryz.sizeOf204
 v117:=Tryz.zeroValue204
 t119:=Tryz.underlying262
 a119:=Tryz.isAgg262
 z119:=Tryz.sizeOf262
 t124:=Tryz.underlying207
 a124:=Tryz.isAgg207
 z124:=Tryz.sizeOf207
 v124:=Tryz.zeroValue207
 t138:=Tryz.underlying264
 a138:=Tryz.isAgg264
 z138:=Tryz.sizeOf264
 v138:=Tryz.zeroValue264
 t139:=Tryz.underlying265
 a139:=Tryz.isAgg265
 z139:=Tryz.sizeOf265
 v139:=Tryz.zeroValue265
 g3:=by kernel_rfl
 g4:=by kernel_rfl }
def Tryz.lays137_ren:Go.Shelf.Ren:=⟨fun | 137=>122 | 217=>143 | 266=>165 | n=>n,fun | 9=>9 | 5=>5 | 3=>3 | n=>n,fun | n=>n⟩
theorem Tryz.lays137:Go.Proofs.Lays.n137 Tryz.prog Tryz.lays137_ren:={
 mixed:=by kernel_rfl
 f137:=Tryz.func122.trans (congrArg some (by kernel_rfl))
 f217:=Tryz.func143.trans (congrArg some (by kernel_rfl))
 f266:=Tryz.func165.trans (congrArg some (by kernel_rfl))
 t3:=Tryz.underlying3
 a3:=Tryz.isAgg3
 z3:=Tryz.sizeOf3
 v3:=Tryz.zeroValue3
 t5:=Tryz.underlying5
 a5:=Tryz.isAgg5
 z5:=Tryz.sizeOf5
 v5:=Tryz.zeroValue5
 t9:=Tryz.underlying9
 a9:=Tryz.isAgg9
 z9:=Tryz.sizeOf9
 v9:=Tryz.zeroValue9 }
def Tryz.lays99_ren:Go.Shelf.Ren:=⟨fun | 99=>126 | 206=>148 | n=>n,fun | 9=>9 | 4=>4 | 3=>3 | n=>n,fun | n=>n⟩
theorem Tryz.lays99:Go.Proofs.Lays.n99 Tryz.prog Tryz.lays99_ren:={
 mixed:=by kernel_rfl
 f99:=Tryz.func126.trans (congrArg some (by kernel_rfl))
 f206:=Tryz.func148.trans (congrArg some (by kernel_rfl))
 t3:=Tryz.underlying3
 a3:=Tryz.isAgg3
 z3:=Tryz.sizeOf3
 v3:=Tryz.zeroValue3
 t4:=Tryz.underlying4
 a4:=Tryz.isAgg4
 z4:=Tryz.sizeOf4
 v4:=Tryz.zeroValue4
 t9:=Tryz.underlying9
 a9:=Tryz.isAgg9
 z9:=Tryz.sizeOf9
 v9:=Tryz.zeroValue9 }
def Tryz.lays172_ren:Go.Shelf.Ren:=⟨fun | 172=>147 | 244=>173 | 245=>174 | 247=>200 | 279=>201 | 280=>202 | 281=>203 | 282=>204 | 287=>218 | 316=>219 | 171=>62 | 205=>220 | 321=>227 | 322=>228 | 243=>113 | 246=>138 | 283=>159 | 284=>160 | 285=>161 | 286=>162 | 129=>191 | 317=>190 | 318=>192 | 319=>193 | 320=>194 | 337=>212 | 338=>213 | n=>n,fun | 9=>9 | 3=>3 | 75=>114 | 76=>115 | 4=>4 | 5=>5 | 167=>239 | 37=>60 | 0=>0 | 85=>240 | 2=>2 | 168=>242 | 53=>195 | 175=>252 | 46=>234 | 210=>256 | 127=>121 | 145=>271 | 143=>269 | 21=>21 | 171=>194 | 173=>198 | 212=>230 | 51=>231 | 20=>20 | 213=>232 | 232=>260 | 233=>261 | 80=>65 | n=>n,fun | 15=>2 | 16=>3 | 17=>0 | 18=>4 | 19=>5 | n=>n⟩
theorem Tryz.lays172:Go.Proofs.Lays.n172 Tryz.prog Tryz.lays172_ren:={
 mixed:=by kernel_rfl
 f129:=Tryz.func191.trans (congrArg some (by kernel_rfl))
 f171:=Tryz.func62.trans (congrArg some (by kernel_rfl))
 f172:=Tryz.func147.trans (congrArg some (by kernel_rfl))
 f205:=Tryz.func220.trans (congrArg some (by kernel_rfl))
 f243:=Tryz.func113.trans (congrArg some (by kernel_rfl))
 f244:=Tryz.func173.trans (congrArg some (by kernel_rfl))
 f245:=Tryz.func174.trans (congrArg some (by kernel_rfl))
 f246:=Tryz.func138.trans (congrArg some (by kernel_rfl))
 f247:=Tryz.func200.trans (congrArg some (by kernel_rfl))
 f279:=Tryz.func201.trans (congrArg some (by kernel_rfl))
 f280:=Tryz.func202.trans (congrArg some (by kernel_rfl))
 f281:=Tryz.func203.trans (congrArg some (by kernel_rfl))
 f282:=Tryz.func204.trans (congrArg some (by kernel_rfl))
 f283:=Tryz.func159.trans (congrArg some (by kernel_rfl))
 f284:=Tryz.func160.trans (congrArg some (by kernel_rfl))
 f285:=Tryz.func161.trans (congrArg some (by kernel_rfl))
 f286:=Tryz.func162.trans (congrArg some (by kernel_rfl))
 f287:=Tryz.func218.trans (congrArg some (by kernel_rfl))
 f316:=Tryz.func219.trans (congrArg some (by kernel_rfl))
 f317:=Tryz.func190.trans (congrArg some (by kernel_rfl))
 f318:=Tryz.func192.trans (congrArg some (by kernel_rfl))
 f319:=Tryz.func193.trans (congrArg some (by kernel_rfl))
 f320:=Tryz.func194.trans (congrArg some (by kernel_rfl))
 f321:=Tryz.func227.trans (congrArg some (by kernel_rfl))
 f322:=Tryz.func228.trans (congrArg some (by kernel_rfl))
 f337:=Tryz.func212.trans (congrArg some (by kernel_rfl))
 f338:=Tryz.func213.trans (congrArg some (by kernel_rfl))
 t0:=Tryz.underlying0
 a0:=Tryz.isAgg0
 z0:=Tryz.sizeOf0
 v0:=Tryz.zeroValue0
 t2:=Tryz.underlying2
 a2:=Tryz.isAgg2
 z2:=Tryz.sizeOf2
 v2:=Tryz.zeroValue2
 t3:=Tryz.underlying3
 a3:=Tryz.isAgg3
 z3:=Tryz.sizeOf3
 v3:=Tryz.zeroValue3
 t4:=Tryz.underlying4
 a4:=Tryz.isAgg4
 z4:=Tryz.sizeOf4
 v4:=Tryz.zeroValue4
 t5:=Tryz.underlying5
 a5:=Tryz.isAgg5
 z5:=Tryz.sizeOf5
 v5:=Tryz.zeroValue5
 t9:=Tryz.underlying9
 a9:=Tryz.isAgg9
 z9:=Tryz.sizeOf9
 v9:=Tryz.zeroValue9
 t20:=Tryz.underlying20
 a20:=Tryz.isAgg20
 z20:=Tryz.sizeOf20
 v20:=Tryz.zeroValue20
 t21:=Tryz.underlying21
 a21:=Tryz.isAgg21
 z21:=Tryz.sizeOf21
 v21:=Tryz.zeroValue21
 t37:=Tryz.underlying60
 a37:=Tryz.isAgg60
 z37:=Tryz.sizeOf60
 v37:=Tryz.zeroValue60
 t46:=Tryz.underlying234
 a46:=Tryz.isAgg234
 z46:=Tryz.sizeOf234
 v46:=Tryz.zeroValue234
 t51:=Tryz.underlying231
 a51:=Tryz.isAgg231
 z51:=Tryz.sizeOf231
 v51:=Tryz.zeroValue231
 t53:=Tryz.underlying195
 a53:=Tryz.isAgg195
 z53:=Tryz.sizeOf195
 v53:=Tryz.zeroValue195
 t75:=Tryz.underlying114
 a75:=Tryz.isAgg114
 z75:=Tryz.sizeOf114
 v75:=Tryz.zeroValue114
 t76:=Tryz.underlying115
 a76:=Tryz.isAgg115
 z76:=Tryz.sizeOf115
 v76:=Tryz.zeroValue115
 t85:=Tryz.underlying240
 a85:=Tryz.isAgg240
 z85:=Tryz.sizeOf240
 v85:=Tryz.zeroValue240
 t127:=Tryz.underlying121
 a127:=Tryz.isAgg121
 z127:=Tryz.sizeOf121
 v127:=Tryz.zeroValue121
 t143:=Tryz.underlying269
 a143:=Tryz.isAgg269
 z143:=Tryz.sizeOf269
 v143:=Tryz.zeroValue269
 t145:=Tryz.underlying271
 a145:=Tryz.isAgg271
 z145:=Tryz.sizeOf271
 v145:=Tryz.zeroValue271
 t167:=Tryz.underlying239
 a167:=Tryz.isAgg239
 z167:=Tryz.sizeOf239
 v167:=Tryz.zeroValue239
 t168:=Tryz.underlying242
 a168:=Tryz.isAgg242
 z168:=Tryz.sizeOf242
 v168:=Tryz.zeroValue242
 t171:=Tryz.underlying194
 a171:=Tryz.isAgg194
 z171:=Tryz.sizeOf194
 v171:=Tryz.zeroValue194
 t173:=Tryz.underlying198
 a173:=Tryz.isAgg198
 z173:=Tryz.sizeOf198
 v173:=Tryz.zeroValue198
 t175:=Tryz.underlying252
 a175:=Tryz.isAgg252
 z175:=Tryz.sizeOf252
 v175:=Tryz.zeroValue252
 t210:=Tryz.underlying256
 a210:=Tryz.isAgg256
 z210:=Tryz.sizeOf256
 v210:=Tryz.zeroValue256
 t212:=Tryz.underlying230
 a212:=Tryz.isAgg230
 z212:=Tryz.sizeOf230
 v212:=Tryz.zeroValue230
 t213:=Tryz.underlying232
 a213:=Tryz.isAgg232
 z213:=Tryz.sizeOf232
 t232:=Tryz.underlying260
 a232:=Tryz.isAgg260
 z232:=Tryz.sizeOf260
 v232:=Tryz.zeroValue260
 t233:=Tryz.underlying261
 a233:=Tryz.isAgg261
 z233:=Tryz.sizeOf261
 v233:=Tryz.zeroValue261
 g15:=by kernel_rfl
 g16:=by kernel_rfl
 g17:=by kernel_rfl
 g18:=by kernel_rfl
 g19:=by kernel_rfl }
def ZL:Go.Shelf.Ren:=⟨fun | 156=>141 | 165=>164 | 166=>61 | 169=>30 | 240=>112 | 241=>195 | 276=>137 | 277=>214 | n=>n,fun | 31=>41 | 9=>9 | 3=>3 | 4=>4 | 0=>0 | 20=>20 | 72=>62 | 76=>115 | 70=>59 | 37=>60 | 75=>114 | 127=>121 | 164=>176 | 5=>5 | 80=>65 | n=>n,fun | n=>n⟩
theorem GX:Go.Proofs.Lays.n156 Tryz.prog ZL:={
 mixed:=by kernel_rfl
 f156:=Tryz.func141.trans (congrArg some (by kernel_rfl))
 f165:=Tryz.func164.trans (congrArg some (by kernel_rfl))
 f166:=Tryz.func61.trans (congrArg some (by kernel_rfl))
 f169:=Tryz.func30.trans (congrArg some (by kernel_rfl))
 f240:=Tryz.func112.trans (congrArg some (by kernel_rfl))
 f241:=Tryz.func195.trans (congrArg some (by kernel_rfl))
 f276:=Tryz.func137.trans (congrArg some (by kernel_rfl))
 f277:=Tryz.func214.trans (congrArg some (by kernel_rfl))
 t0:=Tryz.underlying0
 a0:=Tryz.isAgg0
 z0:=Tryz.sizeOf0
 v0:=Tryz.zeroValue0
 t3:=Tryz.underlying3
 a3:=Tryz.isAgg3
 z3:=Tryz.sizeOf3
 v3:=Tryz.zeroValue3
 t4:=Tryz.underlying4
 a4:=Tryz.isAgg4
 z4:=Tryz.sizeOf4
 v4:=Tryz.zeroValue4
 t9:=Tryz.underlying9
 a9:=Tryz.isAgg9
 z9:=Tryz.sizeOf9
 v9:=Tryz.zeroValue9
 t20:=Tryz.underlying20
 a20:=Tryz.isAgg20
 z20:=Tryz.sizeOf20
 v20:=Tryz.zeroValue20
 t31:=Tryz.underlying41
 a31:=Tryz.isAgg41
 z31:=Tryz.sizeOf41
 v31:=Tryz.zeroValue41
 t37:=Tryz.underlying60
 a37:=Tryz.isAgg60
 z37:=Tryz.sizeOf60
 v37:=Tryz.zeroValue60
 t70:=Tryz.underlying59
 a70:=Tryz.isAgg59
 z70:=Tryz.sizeOf59
 v70:=Tryz.zeroValue59
 t72:=Tryz.underlying62
 a72:=Tryz.isAgg62
 z72:=Tryz.sizeOf62
 v72:=Tryz.zeroValue62
 t75:=Tryz.underlying114
 a75:=Tryz.isAgg114
 z75:=Tryz.sizeOf114
 v75:=Tryz.zeroValue114
 t76:=Tryz.underlying115
 a76:=Tryz.isAgg115
 z76:=Tryz.sizeOf115
 v76:=Tryz.zeroValue115
 t127:=Tryz.underlying121
 a127:=Tryz.isAgg121
 z127:=Tryz.sizeOf121
 v127:=Tryz.zeroValue121
 t164:=Tryz.underlying176
 a164:=Tryz.isAgg176
 z164:=Tryz.sizeOf176
 v164:=Tryz.zeroValue176 }
def Tryz.lays169_ren:Go.Shelf.Ren:=⟨fun | 169=>30 | n=>n,fun | 70=>59 | 9=>9 | 0=>0 | 72=>62 | 37=>60 | 127=>121 | 3=>3 | 5=>5 | n=>n,fun | n=>n⟩
theorem Tryz.lays169:Go.Proofs.Lays.n169 Tryz.prog Tryz.lays169_ren:={
 mixed:=by kernel_rfl
 f169:=Tryz.func30.trans (congrArg some (by kernel_rfl))
 t0:=Tryz.underlying0
 a0:=Tryz.isAgg0
 z0:=Tryz.sizeOf0
 v0:=Tryz.zeroValue0
 t3:=Tryz.underlying3
 a3:=Tryz.isAgg3
 z3:=Tryz.sizeOf3
 v3:=Tryz.zeroValue3
 t9:=Tryz.underlying9
 a9:=Tryz.isAgg9
 z9:=Tryz.sizeOf9
 v9:=Tryz.zeroValue9
 t37:=Tryz.underlying60
 a37:=Tryz.isAgg60
 z37:=Tryz.sizeOf60
 v37:=Tryz.zeroValue60
 t70:=Tryz.underlying59
 a70:=Tryz.isAgg59
 z70:=Tryz.sizeOf59
 v70:=Tryz.zeroValue59
 t72:=Tryz.underlying62
 a72:=Tryz.isAgg62
 z72:=Tryz.sizeOf62
 v72:=Tryz.zeroValue62
 t127:=Tryz.underlying121
 a127:=Tryz.isAgg121
 z127:=Tryz.sizeOf121
 v127:=Tryz.zeroValue121 }
theorem Tryz.bx156:Builder.Extra Tryz.prog ZL:={
 sizeBuilder:=by kernel_rfl
 liesBuilder:=by kernel_rfl
 t5:=Tryz.underlying5
 a5:=Tryz.isAgg5
 z5:=Tryz.sizeOf5
 v5:=Tryz.zeroValue5
 infoByte:=by kernel_rfl
 cellsByte:=by kernel_rfl
 sizeByte:=by kernel_rfl
 neB5:=by decide }
theorem Tryz.bx169:Builder.Extra Tryz.prog Tryz.lays169_ren:={
 sizeBuilder:=by kernel_rfl
 liesBuilder:=by kernel_rfl
 t5:=Tryz.underlying5
 a5:=Tryz.isAgg5
 z5:=Tryz.sizeOf5
 v5:=Tryz.zeroValue5
 infoByte:=by kernel_rfl
 cellsByte:=by kernel_rfl
 sizeByte:=by kernel_rfl
 neB5:=by decide }
theorem Kc:Go.Proofs.Lays.n240 Tryz.prog ZL:={ GX with }
end
end Go.Proofs
namespace Go.Proofs.YtjcfppnjamjjhaaGreatDoor
section
open Go.RowKit
structure Wd where
 p:(Nat→Nat→Prop)→World→Prop
 mono:∀ (V V':Vu) (w w':World),V.Le V' w w'→p V.S w→p V'.S w'
 mono2:∀ (S S':Nat→Nat→Prop) (w w':World),(∀ (b o:Nat),(∀ (ds:Option (List Deferred)),w.heap[b]? ≠ some (Obj.deferred ds))→S b o→S' b o)→(∀ (b:Nat),(∀ (ds:Option (List Deferred)),w.heap[b]? ≠ some (Obj.deferred ds))→w'.heap[b]?=w.heap[b]?)→p S w→p S' w'
def FunW (W:Wd) (P:Program) (f:FuncId) (args:List AV) (res:TV):Prop :=
 Qe P f∧∀ (S:Nat→Nat→Prop) (w:World) (vs:Array Value),(∀ b o,S b o→b < w.heap.size)→W.p S w→argsRel (Yh S) w args vs →
  Calls P f vs w fun e w'=>∃ v S',e=.returned v∧X6 w w'∧(∀ b o,S b o→S' b o)∧(∀ b o,S' b o→(S b o∨w.heap.size≤b)∧b < w'.heap.size)∧res.rel (Yh S') w' v
theorem W9 {W:Wd} {P:Program} {f:FuncId} {args:List AV} {res:TV} (h:Fun P f args res):FunW W P f args res:=⟨h.1,fun S w vs hS _ ha=>h.2 S w vs hS ha⟩
theorem HRel.wd {W:Wd} {E:Env} {V:Vu} {hp:List (Nat×HB)} {tk:List (Nat×Option Tok)} {w:World} (h:HRel E V hp tk w) (hW:W.p E.V0.S E.w0):W.p V.S w:=W.mono _ _ _ _ h.le0 hW
theorem OpOK.callFunW {W:Wd} {E:Env} {st:St} {d:Option Nat} {ty:TypeId} {pos:String} {af:Array Edge} {g:Option (Nat×Bool)} {x:Operand} {f:FuncId} {ars:Array Operand} {args ys:List AV} {ats:Array TypeId} {res:TV} (hW:W.p E.V0.S E.w0) (hx:ev st.tm x=some (.v (.one (.fn f [])))) (hF:FunW W E.P f ys res) (ha:YN st.tm ars.toList=some args) (hs:ASubL args ys) :
  OpOK E ⟨d,.call { callee:=.value x,args:=ars,argTypes:=ats },ty,pos,af,g⟩ st res ⟨st.hp,st.tk,st.nx⟩:=by
 intro V a w hr ro n K Q hK
 refine ⟨fun _ _=>trivial,?_⟩
 rw [Oper.semAt_eq _ _ _ (by intro c h;cases h)]
 rw [call_enters (by have:=(hr.ev hx).2;simpa using this) hF.1]
 refine ⟨(by intro h;cases h),?_⟩
 have har:argsRel (Yh V.S) w ys (ars.map a.eval):=by
  obtain ⟨h1,h2⟩:=ZV hr ha
  obtain ⟨h3,h4⟩:=hs.spec
  refine ⟨by omega,fun i y hy=>?_⟩
  obtain ⟨x,hx',hxy⟩:=h4 i y hy
  obtain ⟨u,hu,hxu⟩:=h2 i x hx'
  exact ⟨u,hu,hxy.rel hxu⟩
 have hc':CallsIn Fence.wide (n - 1) E.P f _ w _:=callsIn_wide.2 (hF.2 V.S w _ hr.h.sz (hr.h.wd hW) har)
 refine CallsIn.mono (F:=Qdh ro) hc' ?_
 rintro e w' ⟨v,S',rfl,hx,hS,hS',hv⟩
 have hg:V.Grow { V with S:=S' } w w':=⟨Nat.le_refl _,fun _ _=>rfl,fun _ _=>rfl,fun _ _ _ _=>rfl,hS,fun b o h=>(hS' b o h).1,fun b o h=>(hS' b o h).2⟩
 exact hK { V with S:=S' } w' v (hr.h.later hx hg) hr.nx (hr.h.le hx hg) (hv.mono (Q6n (V:={ V with S:=S' })))
def Q0y (W:Wd) (P:Program) (f:FuncId) (args:List AV) (m:Mem) (res:TV) (m':Mem):Prop :=
 Qe P f∧∀ (E:Env) (V:Vu) (w:World) (vs:Array Value),E.P=P→W.p V.S w→HRel E V m.hp m.tk w→V.nx=m.nx→argsRel V w args vs →
  Calls P f vs w fun e w'=>∃ v V',e=.returned v∧HRel E V' m'.hp m'.tk w'∧V'.nx=m'.nx∧V.Le V' w w'∧res.rel V' w' v
theorem OpOK.callXW {W:Wd} {E:Env} {st:St} {dd:Option Nat} {ty:TypeId} {pos:String} {af:Array Edge} {g:Option (Nat×Bool)} {x:Operand} {f:FuncId} {caps:List (Nat×Nat)} {ars:Array Operand} {args:List AV} {ats:Array TypeId} {res:TV} {m':Mem} (hW:W.p E.V0.S E.w0) (hx:ev st.tm x=some (.v (.one (.fn f caps)))) (ha:YN st.tm ars.toList=some args)
  (hc:Q0y W E.P f (args++ZC caps) st.mem res m'):OpOK E ⟨dd,.call { callee:=.value x,args:=ars,argTypes:=ats },ty,pos,af,g⟩ st res m':=by
 intro V a w hr ro n K Q hK
 refine ⟨fun _ _=>trivial,?_⟩
 rw [Oper.semAt_eq _ _ _ (by intro c h;cases h)]
 obtain ⟨hv1,hv2⟩:=hr.ev hx
 have hrun:(execOp a.eval ⟨dd,.call { callee:=.value x,args:=ars,argTypes:=ats },ty,pos,af,g⟩).run E.P w=.ok (.enter f (ars.map a.eval++(caps.map fun p=>Value.pointer (some ⟨V.ι p.1,p.2,none⟩)).toArray)) w:=by
  have:=hc.1 (ars.map a.eval++(caps.map fun p=>Value.pointer (some ⟨V.ι p.1,p.2,none⟩)).toArray) w
  simp [execOp,resolve,hv2,Deferred.ofValue,invoke]
  simpa using this
 rw [hrun]
 refine ⟨(by intro h;cases h),?_⟩
 have hc':CallsIn Fence.wide (n - 1) E.P f _ w _:=callsIn_wide.2 (hc.2 E V w _ rfl (hr.h.wd hW) hr.h hr.nx ((ZV hr ha).append (Zo hv1)))
 refine CallsIn.mono (F:=Qdh ro) hc' ?_
 rintro e w' ⟨v,V',rfl,H,hn,L,hres⟩
 exact hK V' w' v H hn L hres
def Q0z (W:Wd) (P:Program) (f:FuncId) (args:List AV) (m:Mem) (pv:Value) (m':Mem):Prop :=
 Qe P f∧∀ (E:Env) (V:Vu) (w:World) (vs:Array Value),E.P=P→W.p V.S w→HRel E V m.hp m.tk w→V.nx=m.nx→argsRel V w args vs →
  Calls P f vs w fun e w'=>∃ V',e=.panicked (ZP pv)∧HRel E V' m'.hp m'.tk w'∧V'.nx=m'.nx∧V.Le V' w w'
theorem OpD.callXW {W:Wd} {E:Env} {st:St} {dd:Option Nat} {ty:TypeId} {pos:String} {af:Array Edge} {g:Option (Nat×Bool)} {x:Operand} {f:FuncId} {caps:List (Nat×Nat)} {ars:Array Operand} {args:List AV} {ats:Array TypeId} {pv:Value} {m':Mem} (hW:W.p E.V0.S E.w0) (hx:ev st.tm x=some (.v (.one (.fn f caps)))) (ha:YN st.tm ars.toList=some args)
  (hc:Q0z W E.P f (args++ZC caps) st.mem pv m'):OpD E ⟨dd,.call { callee:=.value x,args:=ars,argTypes:=ats },ty,pos,af,g⟩ st pv m':=by
 intro V a w hr ro n K Q hK
 refine ⟨fun _ _=>trivial,?_⟩
 rw [Oper.semAt_eq _ _ _ (by intro c h;cases h)]
 obtain ⟨hv1,hv2⟩:=hr.ev hx
 have hrun:(execOp a.eval ⟨dd,.call { callee:=.value x,args:=ars,argTypes:=ats },ty,pos,af,g⟩).run E.P w=.ok (.enter f (ars.map a.eval++(caps.map fun p=>Value.pointer (some ⟨V.ι p.1,p.2,none⟩)).toArray)) w:=by
  have:=hc.1 (ars.map a.eval++(caps.map fun p=>Value.pointer (some ⟨V.ι p.1,p.2,none⟩)).toArray) w
  simp [execOp,resolve,hv2,Deferred.ofValue,invoke]
  simpa using this
 rw [hrun]
 refine ⟨(by intro h;cases h),?_⟩
 have hc':CallsIn Fence.wide (n - 1) E.P f _ w _:=callsIn_wide.2 (hc.2 E V w _ rfl (hr.h.wd hW) hr.h hr.nx ((ZV hr ha).append (Zo hv1)))
 refine CallsIn.mono (F:=Qdh ro) hc' ?_
 rintro e w' ⟨V',rfl,H,hn,L⟩
 exact hK V' w' H hn L
inductive OutM where
 | val (x:TV) (m:Mem)
 | die (v:Value) (m:Mem)
def CallO (W:Wd) (P:Program) (f:FuncId) (args:List AV) (m:Mem):OutM→Prop
 | .val x m'=>Q0y W P f args m x m'
 | .die v m'=>Q0z W P f args m v m'
def WP:Option Value→FrameMode
 | none=>.returning
 | some v=>.panicking (ZP v)
def YL (rc:Bool):Option Value→FrameMode
 | none=>.returning
 | some v=>.panicking [{ v:=v,recovered:=rc }]
def DefM (W:Wd) (P:Program) (g:FuncId) (is:List Nat) (u:Option Value) (m m2:Mem) (rc:Bool):Prop :=
 Qe P g∧∀ (E:Env) (V:Vu) (w:World) (n:Nat),E.P=P→W.p V.S w→HRel E V m.hp m.tk w→V.nx=m.nx→(∀ i∈is,i < V.nx) →
  CallsDIn Fence.wide n P g (is.map (Kp V)).toArray (WP u) w fun e u' w'=>(∃ v,e=.returned v)∧u'=YL rc u∧∃ V',HRel E V' m2.hp m2.tk w'∧V'.nx=m2.nx∧V.Le V' w w'
def To (E:Env) (x y:St):Prop:=∀ V ac w,Rel E V x ac w→∃ V',Rel E V' y ac w
def ToW (W:Wd) (P:Program) (nx0:Nat) (x y:St):Prop:=∀ E:Env,E.P=P→W.p E.V0.S E.w0→E.V0.nx≤nx0→To E x y
theorem ToW.refl (W:Wd) (P:Program) (nx0:Nat) (x:St):ToW W P nx0 x x:=fun E _ _ _ V a w hr=>⟨V,hr⟩
inductive EndO (W:Wd) (P:Program) (fn:Func) (nx0:Nat):Exit→St→OutM→Prop
 | ret {e:Exit} {st st1:St} {xs:List AV} (he:e=.normal∨e=.ret) (hd:st1.df=[]) (ht:ToW W P nx0 st st1) (hr:RAs P st1 fn.results.toList xs):EndO W P fn nx0 e st (.val (Qw xs) st1.mem)
 | die {v:Value} {st st1:St} (hd:st1.df=[]) (ht:ToW W P nx0 st st1):EndO W P fn nx0 (.panic (ZP v)) st (.die v st1.mem)
 | dret {e:Exit} {st st1:St} {f:Nat} {is:List Nat} {m2:Mem} {rc:Bool} {xs:List AV} (he:e=.normal∨e=.ret) (hd:st.df=f::is) (h:DefM W P f is none st.mem m2 rc) (hd1:st1.df=[]) (ht:ToW W P nx0 ⟨st.tm,m2.hp,m2.tk,m2.nx,st.nt,[]⟩ st1) (hr:RAs P st1 fn.results.toList xs):EndO W P fn nx0 e st (.val (Qw xs) st1.mem)
 | drec {v:Value} {st st1:St} {f:Nat} {is:List Nat} {m2:Mem} {xs:List AV} (hd:st.df=f::is) (h:DefM W P f is (some v) st.mem m2 true) (hd1:st1.df=[]) (ht:ToW W P nx0 ⟨st.tm,m2.hp,m2.tk,m2.nx,st.nt,[]⟩ st1) (hr:RAs P st1 fn.results.toList xs):EndO W P fn nx0 (.panic (ZP v)) st (.val (Qw xs) st1.mem)
 | ddie {v:Value} {st st1:St} {f:Nat} {is:List Nat} {m2:Mem} (hd:st.df=f::is) (h:DefM W P f is (some v) st.mem m2 false) (hd1:st1.df=[]) (ht:ToW W P nx0 ⟨st.tm,m2.hp,m2.tk,m2.nx,st.nt,[]⟩ st1):EndO W P fn nx0 (.panic (ZP v)) st (.die v st1.mem)
def Q9j (E:Env) (V:Vu) (w:World):OutM→Ending→World→Prop
 | .val x m'=>fun e w'=>∃ v V',e=.returned v∧HRel E V' m'.hp m'.tk w'∧V'.nx=m'.nx∧V.Le V' w w'∧x.rel V' w' v
 | .die pv m'=>fun e w'=>∃ V',e=.panicked (ZP pv)∧HRel E V' m'.hp m'.tk w'∧V'.nx=m'.nx∧V.Le V' w w'
theorem YI {W:Wd} {P:Program} {f:FuncId} {args:List AV} {m:Mem} {o:OutM} (hen:Qe P f)
  (h:∀ (E:Env) (V:Vu) (w:World) (vs:Array Value),E.P=P→W.p V.S w→HRel E V m.hp m.tk w→V.nx=m.nx→argsRel V w args vs→Calls P f vs w (Q9j E V w o)):CallO W P f args m o:=by
 cases o with
 | val x m'=>exact ⟨hen,h⟩
 | die v m'=>exact ⟨hen,h⟩
theorem leaves_end {E:Env} {hp:List (Nat×HB)} {tk:List (Nat×Option Tok)} {P:Program} {fn:Func} {tmps:Array Value} {R:Ending→World→Prop} (bs:List Nat) (w:World) (V:Vu) (h:HRel E V hp tk w) (hm:marksOK E V w bs)
  (hK:∀ w' V',HRel E V' hp tk w'→V'.nx=V.nx→V.Lx V' w w'→∃ v,(results fn tmps).run P w'=.ok v w'∧R (.returned v) w'):LeavesInM Fence.wide 0 P fn tmps R (bs.map fun b=>{ target:=.collected b,args:=#[]}) .returning w:=Uy bs w V h hm.1 hm.2 hK
def CallP (W:Wd) (P:Program) (f:FuncId) (args:List AV) (m:Mem) (Φ:OutM→Prop):Prop :=
 Qe P f∧∀ (E:Env) (V:Vu) (w:World) (vs:Array Value),E.P=P→W.p V.S w→HRel E V m.hp m.tk w→V.nx=m.nx→argsRel V w args vs→Calls P f vs w fun e w'=>∃ o,Φ o∧Q9j E V w o e w'
theorem G8 {W:Wd} {P:Program} {f:FuncId} {fn:Func} {c:Code} {args:List AV} {m:Mem} {Φ:OutM→Prop} (hf:P.funcs[f]?=some fn) (hb:fn.body=some c) (hen:Qe P f) (hnt:args.length≤fn.ntmps)
  (h:∀ (w0:World) (M:Nat→Prop) (V0:Vu) (Q:Exit→Act→World→Prop),W.p V0.S w0→V0.nx≤m.nx→(∀ e (st':St) o,Φ o→EndO W P fn m.nx e st' o→XQ ⟨P,w0,M,V0⟩ Q e st')→XC ⟨P,w0,M,V0⟩ none 0 Q c ⟨J4 0 args,m.hp,m.tk,m.nx,fn.ntmps,[]⟩) (hP0:P=Tryz.prog) :
  CallP W P f args m Φ:=by
 refine ⟨hen,fun E V w vs hP hWp H hn hargs=>?_⟩
 obtain ⟨R,hR⟩:∃ R:Ending→World→Prop,R=fun e w'=>∃ o,Φ o∧Q9j E V w o e w':=⟨_,rfl⟩
 rw [← hR]
 have toR:∀ o,Φ o→∀ e w',Q9j E V w o e w'→R e w':=fun o ho e w' h=>by rw [hR];exact ⟨o,ho,h⟩
 refine (callsIn_wide (n:=0)).1 (Zz (F:=Fence.wide) (UU hP0 hf) hf hb trivial ?_)
 have hR0:Rel (E.at V w) V ⟨J4 0 args,m.hp,m.tk,m.nx,fn.ntmps,[]⟩ { tmps:=vs++Array.replicate (fn.ntmps - vs.size) undef,defers:=[]} w:=by
  refine ⟨H.rebase,hn,by simp [hargs.1];omega,dfRel.nil,fun t x hx=>?_⟩
  obtain ⟨k,y,h1,h2,rfl⟩:=Gf args 0 t x hx
  obtain ⟨u,hu,hy⟩:=hargs.2 k y h2
  have hk:k < vs.size:=(Array.getElem?_eq_some_iff.1 hu).1
  have:(vs++Array.replicate (fn.ntmps - vs.size) undef).getD t undef=u:=by
   rw [show t=k by omega,Array.getD_eq_getD_getElem?,Array.getElem?_append_left hk,hu];rfl
  rw [this];exact hy
 have hWE:W.p (E.at V w).V0.S (E.at V w).w0:=hWp
 have hPE:(E.at V w).P=P:=hP
 have fin:∀ (st:St) (xs:List AV) (a1:Act) (V1:Vu) (w1:World),Φ (.val (Qw xs) st.mem)→st.df=[]→RAs P st fn.results.toList xs→Rel (E.at V w) V1 st a1 w1→LeavesInM Fence.wide 0 P fn a1.tmps R a1.defers .returning w1:=by
  intro st xs a1 V1 w1 hΦ hd hres hr1
  obtain ⟨bs,h1,h2,h3⟩:=hr1.df.of_nil hd
  rw [h1]
  refine leaves_end bs w1 V1 hr1.h ⟨h2,h3⟩ (fun w' V1' H' hn' L'=>?_)
  have est:(⟨st.tm,st.hp,st.tk,st.nx,st.nt,[]⟩:St)=st:=by rw [← hd]
  have hr':Rel (E.at V w) V1' ⟨st.tm,st.hp,st.tk,st.nx,st.nt,[]⟩ { tmps:=a1.tmps,defers:=[]} w':=⟨H',hn'.trans hr1.nx,hr1.nt,dfRel.nil,fun t x hx=>(hr1.tm t x hx).keep L'⟩
  obtain ⟨v,e1,e2⟩:=Xf (E:=E.at V w) (by rw [est];exact hres) hP hr'
  obtain ⟨H5,L5⟩:=H.back H'
  exact ⟨v,e1,toR _ hΦ _ _ ⟨v,V1',Z,H5,hn'.trans hr1.nx,L5,e2⟩⟩
 have tow:∀ {x y:St},ToW W P m.nx x y→To (E.at V w) x y:=fun h=>h _ hPE hWE (Nat.le_of_eq hn)
 have clo:∀ (st:St) (a1:Act) (V1:Vu) (w1:World) (f':Nat) (is:List Nat) (u:Option Value) (m2:Mem) (rc:Bool),st.df=f'::is→DefM W P f' is u st.mem m2 rc→Rel (E.at V w) V1 st a1 w1 →
   (∀ (ds:List Deferred) (V2:Vu) (w2:World),Rel (E.at V w) V2 ⟨st.tm,m2.hp,m2.tk,m2.nx,st.nt,[]⟩ { tmps:=a1.tmps,defers:=ds } w2→LeavesInM Fence.wide 0 P fn a1.tmps R ds (settle (YL rc u)) w2) →
   LeavesInM Fence.wide 0 P fn a1.tmps R a1.defers (WP u) w1:=by
  intro st a1 V1 w1 f' is u m2 rc hd hdm hr1 hK
  obtain ⟨bs,bs0,hi,hds,hm1,hm2⟩:∃ bs bs0,(∀ i∈is,i < V1.nx)∧a1.defers=bs.map (fun b=>{ target:=.collected b,args:=#[]})++Q68 f' (is.map (Kp V1))::bs0.map (fun b=>{ target:=.collected b,args:=#[]})∧marksOK (E.at V w) V1 w1 (bs++bs0):=by
   rcases hr1.df with ⟨h0,-⟩ | ⟨f2,is2,bs,bs0,h0,h1,h2,h3⟩
   ·rw [hd] at h0;cases h0
   ·rw [hd] at h0;cases h0
    exact ⟨bs,bs0,h1,h2,h3⟩
  obtain ⟨hn1,hn2,hn3⟩:=List.nodup_append.1 hm1
  rw [hds]
  have hu:WP u ≠ .run:=by cases u <;> (unfold WP;simp)
  refine Xu hu bs w1 V1 hr1.h hn1 (fun b hb=>hm2 b (by simp [hb])) (fun w' V' H' hn' hι' L' hS' hh'=>?_)
  have hinv:(invoke (.fn (.func f') (is.map (Kp V1)).toArray) #[]).run P w'=.ok (.enter f' (is.map (Kp V1)).toArray) w':=by
   have:=hdm.1 (#[]++(is.map (Kp V1)).toArray) w'
   simp only [invoke];simpa using this
  refine ⟨hu,.inr ⟨(by intro h;cases h),.func f',_,f',_,rfl,hinv,(fun _ _=>trivial),?_⟩⟩
  have hW1:W.p V1.S w1:=hr1.h.wd hWE
  have hnd:∀ b,(∀ ds,w1.heap[b]? ≠ some (Obj.deferred ds))→b∉bs:=fun b hb hmem=>hb _ (hm2 b (by simp [hmem])).2.1
  have hW':W.p V'.S w':=W.mono2 _ _ _ _ (fun b o hb=>hS' b o (hnd b hb)) (fun b hb=>hh' b (hnd b hb)) hW1
  have ep:is.map (Kp V1)=is.map (Kp V'):=by
   refine List.map_congr_left fun i _=>?_
   unfold Kp;rw [hι']
  rw [ep]
  have hmk:marksOK (E.at V w) V' w' bs0:=⟨hn2,fun b hb=>⟨hS' b 0 (fun h=>hn3 b h b hb rfl) (hm2 b (by simp [hb])).1,(hh' b (fun h=>hn3 b h b hb rfl)).trans (hm2 b (by simp [hb])).2.1,(hm2 b (by simp [hb])).2.2⟩⟩
  refine (hdm.2 (E.at V w) V' w' (0 - 1) hP hW' H' (hn'.trans hr1.nx) (fun i h=>by rw [hn'];exact hi i h)).mono ?_
  rintro e' u' w'' ⟨⟨v,rfl⟩,rfl,V2,H2,hn2',L2⟩
  exact hK _ V2 w'' ⟨H2,hn2',hr1.nt,.inl ⟨Z,bs0,Z,hmk.le L2⟩,fun t x hx=>((hr1.tm t x hx).keep L').mono L2⟩
 have key:∀ (e:Exit) (st':St) (o:OutM),Φ o→EndO W P fn m.nx e st' o→∀ (V1:Vu) (a1:Act) (w1:World),Rel (E.at V w) V1 st' a1 w1→bodyPostM Fence.wide 0 P fn R e a1 w1:=by
  intro e st' o hΦ hend V1 a1 w1 hr1
  cases hend with
  | ret he hd ht hres =>
   obtain ⟨V2,hr2⟩:=tow ht V1 a1 w1 hr1
   have hl:=fin _ _ a1 V2 w1 hΦ hd hres hr2
   rcases he with rfl | rfl
   ·exact hl
   ·exact hl
  | die hd ht =>
   obtain ⟨V2,hr2⟩:=tow ht V1 a1 w1 hr1
   exact Wz hr2 hd (fun w' V' H' hn' L'=>let ⟨H5,L5⟩:=H.back H';toR _ hΦ _ _ ⟨V',Z,H5,hn'.trans hr2.nx,L5⟩)
  | @dret _ _ st1 f' is m2 rc xs he hd hdm hd1 ht hres =>
   have hl:LeavesInM Fence.wide 0 P fn a1.tmps R a1.defers .returning w1:=clo st' a1 V1 w1 f' is none m2 rc hd hdm hr1 (fun ds V2 w2 hr2=>let ⟨V3,hr3⟩:=tow ht V2 _ w2 hr2;fin st1 xs _ V3 w2 hΦ hd1 hres hr3)
   rcases he with rfl | rfl
   ·exact hl
   ·exact hl
  | @drec v _ st1 f' is m2 xs hd hdm hd1 ht hres =>
   exact clo st' a1 V1 w1 f' is (some v) m2 true hd hdm hr1 (fun ds V2 w2 hr2=>let ⟨V3,hr3⟩:=tow ht V2 _ w2 hr2;fin st1 xs _ V3 w2 hΦ hd1 hres hr3)
  | @ddie v _ st1 f' is m2 hd hdm hd1 ht =>
   exact clo st' a1 V1 w1 f' is (some v) m2 false hd hdm hr1 (fun ds V2 w2 hr2=>let ⟨V3,hr3⟩:=tow ht V2 _ w2 hr2;Wz hr3 hd1 (fun w' V' H' hn' L'=>let ⟨H5,L5⟩:=H.back H';toR _ hΦ _ _ ⟨V',Z,H5,hn'.trans hr3.nx,L5⟩))
 have hgo:∀ E':Env,E'=E.at V w→E'.P=P→E'.V0=V→XC E' none 0 (bodyPostM Fence.wide 0 P fn R) c ⟨J4 0 args,m.hp,m.tk,m.nx,fn.ntmps,[]⟩:=by
  rintro ⟨P',w0,M,V0⟩ he hP' hV'
  dsimp only at hP' hV'
  subst hP'
  have ew:w0=w:=congrArg Env.w0 he
  refine h w0 M V0 _ (by rw [hV',ew];exact hWp) (by rw [hV',hn];exact Nat.le_refl _) ?_
  intro e st' o hΦ hend
  rw [he]
  exact fun V1 a1 w1 hr1=>key e st' o hΦ hend V1 a1 w1 hr1
 have:=hgo (E.at V w) rfl hP rfl V _ w hR0
 rw [show (E.at V w).P=P from hP] at this
 exact this
theorem CallO.of_p {W:Wd} {P:Program} {f:FuncId} {args:List AV} {m:Mem} {o:OutM} (h:CallP W P f args m fun o'=>o'=o):CallO W P f args m o:=by
 refine YI h.1 fun E V w vs hP hWp H hn hargs=>(h.2 E V w vs hP hWp H hn hargs).mono ?_
 rintro e w' ⟨o',rfl,ho⟩
 exact ho
theorem wpS_of_wpV {F:Fence} {n:Nat} {P:Program} {Q:Exit→Act→List Frame→World→Prop} {a:Act} {cs:List Frame} {w:World} {c:Code} (hro:F.round=none) (h:WO F n P c (fun e a' w'=>Q e a' cs w') a w) {b:Frame} (k:List Item) (hr:b.roundOf=none) (hb:F.fn b.fn) (hv:Qd8 b.fn) (hroom:F.room (cs.length+1+n)) :
  ∃ e a' cs' w',cs'.length=cs.length∧Q e a' cs' w'∧ArrivesIn (Machine.fenced P F) P (lone (b.atR a (.code c::k)) cs w) b k cs' e a' w' :=
 let ⟨e,a',w',q,r⟩:=h b k cs (hr.trans hro.symm) hb hv hroom
 ⟨e,a',cs,w',rfl,q,r⟩
def Q0x (P:Program) (K:World→Prop):List Deferred→World→Prop
 | [],w=>K w
 | d::ds,w=>∃ r w',d.target=.collected r∧(Instr.takeDeferred r).run P w=.ok [] w'∧Q0x P K ds w'
theorem Xn {F:Fence} {n:Nat} {P:Program} {K:World→Prop}:∀ (ds:List Deferred) (w:World) (fr:Frame) (cs:List Frame),fr.mode=.returning→fr.defers=ds→F.fn fr.fn→F.room (cs.length+1+n)→Q0x P K ds w →
  ∃ w',StepsIn (Machine.fenced P F) P (lone fr cs w) (lone { fr with defers:=[]} cs w')∧K w'
 | [],w,fr,cs,hm,hd,hb,hroom,h=>⟨w,by
   have:({ fr with defers:=[]}:Frame)=fr:=by rw [← hd]
   rw [this];exact StepsIn.refl _,h⟩
 | d::ds,w,fr,cs,hm,hd,hb,hroom,⟨r,w1,htar,htake,hrest⟩=>by
  have hrun:fr.mode ≠ .run:=by rw [hm];simp
  have h1:=step_collected (cs:=cs) hrun hd htar htake
  have i1:(lone fr cs w).fenced P F:=fenced_out hb hroom hrun hd (fun g hg=>by rw [htar] at hg;simp [Target.leads] at hg)
  obtain ⟨w',hs,hk⟩:=Xn ds w1 { fr with defers:=[]++ds } cs hm rfl hb hroom hrest
  exact ⟨w',.head i1 h1 hs,hk⟩
def Gp (P:Program) (fn:Func) (c₀:Frame) (cs:List Frame) (R:Ending→FrameMode→World→Prop):Exit→Act→List Frame→World→Prop
 | .normal,a,cs',w | .ret,a,cs',w=>∃ u',cs'={ c₀ with mode:=u' }::cs∧Q0x P (fun w'=>∃ v,(results fn a.tmps).run P w'=.ok v w'∧R (.returned v) u' w') a.defers w
 | _,_,_,_=>False
theorem callsD_of {F:Fence} {n:Nat} {P:Program} {f:FuncId} {fn:Func} {c:Code} {args:Array Value} {u:FrameMode} {w:World} {R:Ending→FrameMode→World→Prop} (hv:Qd8 f)
  (hf:P.funcs[f]?=some fn) (hb:fn.body=some c) (hF:F.fn f)
  (h:∀ (c₀:Frame) (cs:List Frame),c₀.mode=u→∀ (b:Frame) (k:List Item),b.kind=.deferred→b.roundOf=none→b.fn=f→F.room ((c₀::cs).length+1+n) →
   ∃ e a' cs' w',cs'.length=(c₀::cs).length∧Gp P fn c₀ cs R e a' cs' w'∧ArrivesIn (Machine.fenced P F) P (lone (b.atR { tmps:=args++Array.replicate (fn.ntmps - args.size) undef,defers:=[]} (.code c::k)) (c₀::cs) w) b k cs' e a' w') :
  CallsDIn F n P f args u w R:=by
 refine ⟨hF,fun c₀ cs hu hroom=>?_⟩
 let b:Frame:={ (default:Frame) with fn:=f,kind:=.deferred,roundOf:=none }
 have henter:Frame.enter P f args .deferred =
   b.atR { tmps:=args++Array.replicate (fn.ntmps - args.size) undef,defers:=[]} [.code c]:=by
  simp [Frame.enter,Frame.atR,hf,hb,b]
 obtain ⟨e,a',cs',w',hl,hq,harr⟩:=h c₀ cs hu b [] rfl rfl rfl hroom
 rw [← henter] at harr
 cases e with
 | normal =>
  obtain ⟨u',rfl,hm⟩:=hq
  obtain ⟨w2,hs2,v,hr,hR⟩:=Xn (F:=F) (n:=n) a'.defers w' { b.atR a' [] with mode:=.returning } ({ c₀ with mode:=u' }::cs) rfl rfl hF hroom hm
  exact ⟨.returned v,u',w2,_,hR,StepsIn.trans (StepsIn.trans harr (.one (fenced_calm (fr:=b.atR a' []) hF hroom Z) (stepR_end Z))) hs2,Z,Z,Z,Z,fn,hf,hr⟩
 | ret =>
  obtain ⟨u',rfl,hm⟩:=hq
  obtain ⟨todo,hs⟩:=harr.1 rfl
  obtain ⟨w2,hs2,v,hr,hR⟩:=Xn (F:=F) (n:=n) a'.defers w' { b.atR a' todo with mode:=.returning } ({ c₀ with mode:=u' }::cs) rfl rfl hF hroom hm
  exact ⟨.returned v,u',w2,_,hR,StepsIn.trans hs hs2,Z,Z,Z,Z,fn,hf,hr⟩
 | panic chain=>exact hq.elim
 | exit id=>exact hq.elim
 | goto l=>exact hq.elim
 | outgrown=>exact hq.elim
theorem marksL_of {E:Env} {hp:List (Nat×HB)} {tk:List (Nat×Option Tok)} {P:Program} {K:World→Prop}:∀ (bs:List Nat) (w:World) (V:Vu),HRel E V hp tk w→marksOK E V w bs→(∀ w' V',HRel E V' hp tk w'→V'.nx=V.nx→V.Lx V' w w'→K w')→Q0x P K (bs.map fun b=>{ target:=.collected b,args:=#[]}) w
 | [],w,V,h,_,hK=>hK w V h rfl (Vu.Lx.refl _ _)
 | b::bs,w,V,h,hm,hK=>by
  obtain ⟨h1,h2,h3⟩:=hm.2 b (by simp)
  obtain ⟨h4,h5⟩:=List.nodup_cons.1 hm.1
  obtain ⟨H,L⟩:=h.take h1 h2 h3
  refine ⟨b,_,Z,run_takeDeferred h2,marksL_of bs _ _ H ⟨h5,fun b' hb'=>?_⟩ (fun w' V' hw' hn' L'=>hK w' V' hw' hn' (L.trans L'))⟩
  obtain ⟨h6,h7,h8⟩:=hm.2 b' (by simp [hb'])
  have hne:b' ≠ b:=fun e=>h4 (by rw [← e];exact hb')
  exact ⟨⟨h6,hne⟩,(World.putObj_heap_other hne).trans h7,h8⟩
def Dv (W:Wd) (P:Program) (c:Code) (tm:List (Nat×TV)) (nt:Nat) (m m2:Mem):Prop:=∀ (E:Env) (Q:Exit→Act→World→Prop) (n:Nat),E.P=P→W.p E.V0.S E.w0→E.V0.nx≤m.nx →
 (∀ e (st':St),(e=.normal∨e=.ret)→st'.df=[]→st'.mem=m2→XQ E Q e st')→XC E none n Q c ⟨tm,m.hp,m.tk,m.nx,nt,[]⟩
theorem entryI_rel {E:Env} {V:Vu} {w:World} {m:Mem} {is:List Nat} {nt:Nat} (H:HRel E V m.hp m.tk w) (hn:V.nx=m.nx) (hi:∀ i∈is,i < V.nx) (hnt:is.length≤nt) :
  Rel (E.at V w) V ⟨J4 0 (is.map fun i=>.one (.ptr i 0)),m.hp,m.tk,m.nx,nt,[]⟩ { tmps:=(is.map (Kp V)).toArray++Array.replicate (nt - (is.map (Kp V)).toArray.size) undef,defers:=[]} w:=by
 refine ⟨H.rebase,hn,by simp;omega,dfRel.nil,fun t x hx=>?_⟩
 obtain ⟨k,y,h1,h2,rfl⟩:=Gf _ 0 t x hx
 rw [List.getElem?_map] at h2
 cases hk:is[k]? with
 | none=>rw [hk] at h2;cases h2
 | some i =>
  rw [hk] at h2;cases h2
  have hlt:k < is.length:=(List.getElem?_eq_some_iff.1 hk).1
  have hu:(is.map (Kp V)).toArray[k]?=some (Kp V i):=by simp [hk]
  have:((is.map (Kp V)).toArray++Array.replicate (nt - (is.map (Kp V)).toArray.size) undef).getD t undef=Kp V i:=by
   rw [show t=k by omega,Array.getD_eq_getD_getElem?,Array.getElem?_append_left (by simpa using hlt),hu];rfl
  rw [this]
  exact ⟨hi i (List.mem_of_getElem? hk),Z⟩
theorem res_none {P:Program} {fn:Func} (hr:fn.results.toList=[]) (tmps:Array Value) (w:World):∃ v,(results fn tmps).run P w=.ok v w:=by
 have:fn.results=#[]:=Array.ext' hr
 unfold results
 rw [this]
 exact ⟨_,by simp [go_sem];rfl⟩
theorem rest_post {W:Wd} {P:Program} {fn:Func} {c:Code} {tm:List (Nat×TV)} {m m2:Mem} {E:Env} {V:Vu} {w:World} {rc:Bool} {u:Option Value} {c₀:Frame} {cs:List Frame} {a:Act} {n:Nat} (hr:fn.results.toList=[]) (h:Dv W P c tm fn.ntmps m m2) (hP:E.P=P) (hWp:W.p V.S w) (H:HRel E V m.hp m.tk w) (hn:V.nx=m.nx)
  (hR:Rel (E.at V w) V ⟨tm,m.hp,m.tk,m.nx,fn.ntmps,[]⟩ a w) :
  WO Fence.wide n P c (fun e a' w'=>Gp P fn c₀ cs (fun e u' w'=>(∃ v,e=.returned v)∧u'=YL rc u∧∃ V',HRel E V' m2.hp m2.tk w'∧V'.nx=m2.nx∧V.Le V' w w') e a' ({ c₀ with mode:=YL rc u }::cs) w') a w:=by
 have hx:=h (E.at V w) (fun e a' w'=>Gp P fn c₀ cs (fun e u' w'=>(∃ v,e=.returned v)∧u'=YL rc u∧∃ V',HRel E V' m2.hp m2.tk w'∧V'.nx=m2.nx∧V.Le V' w w') e a' ({ c₀ with mode:=YL rc u }::cs) w') n hP hWp (Nat.le_of_eq hn) (fun e st' he hd hm V1 a1 w1 hr1=>?_) V _ w hR
 ·rw [show (E.at V w).P=P from hP] at hx
  exact hx
 ·have key:∃ u',({ c₀ with mode:=YL rc u }:Frame)::cs={ c₀ with mode:=u' }::cs∧Q0x P (fun w'=>∃ v,(results fn a1.tmps).run P w'=.ok v w'∧(∃ v',Ending.returned v=.returned v')∧u'=YL rc u∧∃ V',HRel E V' m2.hp m2.tk w'∧V'.nx=m2.nx∧V.Le V' w w') a1.defers w1:=by
   obtain ⟨bs,h1,h2,h3⟩:=hr1.df.of_nil hd
   refine ⟨_,Z,?_⟩
   rw [h1]
   refine marksL_of bs w1 V1 hr1.h ⟨h2,h3⟩ (fun w' V' H' hn' L'=>?_)
   obtain ⟨v,hv⟩:=res_none (P:=P) hr a1.tmps w'
   obtain ⟨H5,L5⟩:=H.back H'
   refine ⟨v,hv,⟨v,Z⟩,Z,V',?_,?_,L5⟩
   ·rw [← hm];exact H5
   ·rw [← hm];exact hn'.trans hr1.nx
  rcases he with rfl | rfl
  ·exact key
  ·exact key
theorem DefM.of_rest {W:Wd} {P:Program} {f:FuncId} {fn:Func} {c:Code} {is:List Nat} {u:Option Value} {m m2:Mem} (hf:P.funcs[f]?=some fn) (hb:fn.body=some c) (hen:Qe P f) (hnt:is.length≤fn.ntmps) (hr:fn.results.toList=[])
  (h:Dv W P c (J4 0 (is.map fun i=>.one (.ptr i 0))) fn.ntmps m m2) (hP0:P=Tryz.prog):DefM W P f is u m m2 false:=by
 refine ⟨hen,fun E V w n hP hWp H hn hi=>?_⟩
 refine callsD_of (UU hP0 hf) hf hb trivial (fun c₀ cs hu b k hk hro hbf hroom=>?_)
 have hvf:Qd8 b.fn:=by rw [hbf];exact UU hP0 hf
 have ec:(c₀::cs)=({ c₀ with mode:=YL false u }:Frame)::cs:=by
  have:YL false u=c₀.mode:=by rw [hu];cases u <;> rfl
  rw [this]
 have hx:=rest_post (c₀:=c₀) (cs:=cs) (rc:=false) (u:=u) (n:=n) hr h hP hWp H hn (entryI_rel (nt:=fn.ntmps) H hn hi hnt)
 rw [ec] at hroom ⊢
 exact wpS_of_wpV (F:=Fence.wide) (Q:=Gp P fn c₀ cs _) Z hx k hro trivial hvf hroom
def Q3j (P:Program) (nt:Nat) (id:Nat) (ops:Array Oper) (put:Act→Value→Act):Prop:=∀ (n:Nat) (a0:Act) (c₀:Frame) (cs:List Frame) (w:World) (u:Option Value),a0.tmps.size=nt→c₀.mode=WP u →
 (Code.region id ops false).wpSIn Fence.wide n P (fun e a' cs' w'=>e=.normal∧a'=put a0 (u.getD .nilIface)∧cs'={ c₀ with mode:=YL true u }::cs∧w'=w) a0 (c₀::cs) w
theorem recReg1 {P:Program} {nt id d:Nat} {ts:Array TypeId} {ty:TypeId} {pos:String} {af:Array Edge}:Q3j P nt id #[⟨some d,.call { callee:=.builtin .recover,args:=#[],argTypes:=ts },ty,pos,af,none⟩] fun a v=>a.put (some d) v:=fun n a0 c₀ cs w u hn hu=>by
 apply wpSIn_region
 cases u with
 | none =>
  have hc:recoverD (c₀::cs)=none:=by simp only [recoverD,hu,WP]
  have e0:({ c₀ with mode:=FrameMode.returning }:Frame)=c₀:=by
   have:c₀.mode=FrameMode.returning:=hu
   rw [← this]
  simp [wpOpsSIn,go_sem,List.range,List.range.loop,hc,YL,e0,Region.wanted,execOp,Oper.about]
 | some v =>
  have hc:recoverD (c₀::cs)=some (v,{ c₀ with mode:=.panicking [{ v:=v,recovered:=true }]}::cs):=by simp only [recoverD,hu,WP]
  simp [wpOpsSIn,go_sem,List.range,List.range.loop,hc,YL,Region.wanted,execOp,Oper.about]
theorem recReg2 {P:Program} {nt id d d2:Nat} {ts:Array TypeId} {ty ty2:TypeId} {pos pos2:String} {af af2:Array Edge} (hd:d < nt):Q3j P nt id #[⟨some d,.call { callee:=.builtin .recover,args:=#[],argTypes:=ts },ty,pos,af,none⟩,⟨some d2,.assign (.tmp d),ty2,pos2,af2,none⟩] fun a v=>(a.put (some d) v).put (some d2) v:=fun n a0 c₀ cs w u hn hu=>by
 apply wpSIn_region
 cases u with
 | none =>
  have hc:recoverD (c₀::cs)=none:=by simp only [recoverD,hu,WP]
  have e0:({ c₀ with mode:=FrameMode.returning }:Frame)=c₀:=by
   have:c₀.mode=FrameMode.returning:=hu
   rw [← this]
  have hg:d < a0.tmps.size:=hn▸hd
  simp [wpOpsSIn,go_sem,List.range,List.range.loop,hc,YL,e0,Region.wanted,execOp,Oper.about,hg]
 | some v =>
  have hc:recoverD (c₀::cs)=some (v,{ c₀ with mode:=.panicking [{ v:=v,recovered:=true }]}::cs):=by simp only [recoverD,hu,WP]
  have hg:d < a0.tmps.size:=hn▸hd
  simp [wpOpsSIn,go_sem,List.range,List.range.loop,hc,YL,Region.wanted,execOp,Oper.about,hg]
theorem DefM.of_rec {W:Wd} {P:Program} {f:FuncId} {fn:Func} {c:Code} {is:List Nat} {u:Option Value} {m m2:Mem} {id:Nat} {ops:Array Oper} {put:Act→Value→Act} {tmx:List (Nat×TV)} (hf:P.funcs[f]?=some fn) (hb:fn.body=some (.seq (.region id ops false) c)) (hen:Qe P f) (hnt:is.length≤fn.ntmps) (hr:fn.results.toList=[]) (hreg0:Q3j P fn.ntmps id ops put)
  (hput:∀ (E:Env) (V:Vu) (a:Act) (w:World),Rel E V ⟨J4 0 (is.map fun i=>.one (.ptr i 0)),m.hp,m.tk,m.nx,fn.ntmps,[]⟩ a w→Rel E V ⟨tmx,m.hp,m.tk,m.nx,fn.ntmps,[]⟩ (put a (u.getD .nilIface)) w)
  (h:Dv W P c tmx fn.ntmps m m2) (hP0:P=Tryz.prog):DefM W P f is u m m2 true:=by
 refine ⟨hen,fun E V w n hP hWp H hn hi=>?_⟩
 refine callsD_of (UU hP0 hf) hf hb trivial (fun c₀ cs hu b k hk hro hbf hroom=>?_)
 have hvf:Qd8 b.fn:=by rw [hbf];exact UU hP0 hf
 have hR:=entryI_rel (nt:=fn.ntmps) H hn hi hnt
 obtain ⟨a0,ha0⟩:∃ a0:Act,a0={ tmps:=(is.map (Kp V)).toArray++Array.replicate (fn.ntmps - (is.map (Kp V)).toArray.size) undef,defers:=[]}:=⟨_,rfl⟩
 rw [← ha0] at hR ⊢
 have hR2:=hput _ V a0 w hR
 have hx:=rest_post (c₀:=c₀) (cs:=cs) (rc:=true) (u:=u) (n:=n) hr h hP hWp H hn hR2
 have hlen:((({ c₀ with mode:=YL true u }:Frame)::cs)).length=(c₀::cs).length:=rfl
 have hreg:=hreg0 n a0 c₀ cs w u hR.nt hu
 obtain ⟨e,a1,cs1,w1,hl,⟨he,ha,hcs,hw⟩,harr⟩:=hreg b (.code c::k) hk hro trivial hroom
 subst he;subst ha;subst hcs;subst hw
 obtain ⟨e2,a2,cs2,w2,hl2,hq2,harr2⟩:=wpS_of_wpV (F:=Fence.wide) (Q:=Gp P fn c₀ cs _) rfl hx k hro trivial hvf (hlen▸hroom)
 have i0:(lone (b.atR a0 (.code (.seq (.region id ops false) c)::k)) (c₀::cs) w1).fenced P Fence.wide:=fenced_calm trivial hroom rfl
 exact ⟨e2,a2,cs2,w2,hl2.trans hlen,hq2,.of_steps (.head i0 stepR_seq harr) harr2⟩
def Q1n (W:Wd) (P:Program) (rn:Option Nat) (c:Code) (st:St) (e:Exit) (st':St):Prop :=
 ∀ (E:Env) (ro:Option Nat) (n:Nat) (Q:Exit→Act→World→Prop),E.P=P→W.p E.V0.S E.w0→E.V0.nx≤st.nx→Ud E rn ro→XQ E Q e st'→XC E ro n Q c st
section
variable {E:Env} {st:St} {dd:Option Nat} {ty:TypeId} {pos:String} {af:Array Edge} {g:Option (Nat×Bool)}
theorem OpOK.yieldW {W:Wd} {x:Operand} {L:Nat} {ars:Array Operand} {args:List AV} {ats:Array TypeId} {p0 p1 p2:Option Code} {tm0 tm1 tm2:List (Nat×TV)} {nt0 nt1 nt2:Nat} {ps0 ps1 ps2:Array Nat} {as0 as1 as2 bd0 bd1 bd2:Code} {D0 D1 D2:Nat} {sa sb:St} {e:Exit} {jump:Option Code}
  (hW:W.p E.V0.S E.w0) (hx:ev st.tm x=some (.v (.one (.yld L)))) (ha:YN st.tm ars.toList=some args) (hL:Qcq st.hp L=some (.loop .ready p0 tm0 nt0 ps0 as0 bd0 D0)) (hlen:ars.size=ps0.size) (hps:ps0.toList.all (fun t=>Nat.blt t nt0)=true)
  (h1:Q1n W E.P (some L) as0 ⟨Zn ps0.toList args tm0,st.hp,st.tk,st.nx,nt0,[]⟩ .normal sa)
  (hnx:st.nx≤sa.nx) (h2:Qcq sa.hp L=some (.loop .ready p1 tm1 nt1 ps1 as1 bd1 D1))
  (h3:Q1n W E.P (some L) bd0 ⟨sa.tm,(L,.loop .busy p1 tm1 nt1 ps1 as1 bd1 D1)::QN L sa.hp,sa.tk,sa.nx,sa.nt,sa.df⟩ e sb)
  (h4:Qcq sb.hp L=some (.loop .busy p2 tm2 nt2 ps2 as2 bd2 D2)) (he:Xx e=some jump) :
  OpOK E ⟨dd,.call { callee:=.value x,args:=ars,argTypes:=ats },ty,pos,af,g⟩ st (Qdb jump.isNone) ⟨(L,.loop (if jump.isNone then .ready else .done) jump tm2 nt2 ps2 as2 bd2 D2)::QN L sb.hp,sb.tk,sb.nx⟩:=by
 intro V a w hr ro n K Q hK
 refine ⟨fun _ _=>trivial,?_⟩
 rw [Oper.semAt_eq _ _ _ (by intro c h;cases h)]
 obtain ⟨hLnx,hv⟩:=hr.ev hx
 obtain ⟨-,ob,hob,hD,fn,tmps,rfl,hsz,htm⟩:=hr.h.own L _ hL
 rw [run_yieldOp rfl hv hob hlen]
 refine ⟨(by intro h;cases h),?_⟩
 have har:=ZV hr ha
 obtain ⟨hal,-⟩:=ZU ha
 have hput:=Xh (V:=V) (w:=w) ps0.toList args (ars.map a.eval).toList tm0 tmps (by simpa using hal.symm) (fun i y hy=>by
  obtain ⟨u,hu1,hu2⟩:=har.2 i y hy
  exact ⟨u,by simpa using hu1,hu2⟩) (fun t ht=>by rw [hsz];exact Nat.le_of_ble_eq_true (List.all_eq_true.1 hps t ht)) htm
 have hfold:(ps0.zip (ars.map a.eval)).foldl (fun tmps (x:Nat×Value)=>tmps.setIfInBounds x.1 x.2) tmps=(ps0.toList.zip (ars.map a.eval).toList).foldl (fun tmps (p:Nat×Value)=>tmps.setIfInBounds p.1 p.2) tmps:=by
  rw [← Array.foldl_toList,Array.toList_zip]
 refine roundIn_of_wpV (F:=Qdh ro) fn.2 trivial ?_
 have hR0:Rel (E.at V w) V ⟨Zn ps0.toList args tm0,st.hp,st.tk,st.nx,nt0,[]⟩ { tmps:=(ps0.zip (ars.map a.eval)).foldl (fun tmps (x:Nat×Value)=>tmps.setIfInBounds x.1 x.2) tmps,defers:=[]} w :=
  ⟨hr.h.rebase,hr.nx,by rw [hfold,hput.1];exact hsz,dfRel.nil,fun t y hy=>by rw [hfold];exact hput.2 t y hy⟩
 have hWp:W.p (E.at V w).V0.S (E.at V w).w0:=hr.h.wd hW
 have hv0:(E.at V w).V0.nx≤st.nx:=Nat.le_of_eq hr.nx
 refine h1 (E.at V w) (some (V.ι L)) (n - 1) _ Z hWp hv0 ⟨hLnx,Z⟩ ?_ V _ w hR0
 intro V1 a1 w1 hr1
 obtain ⟨hL1,ob1,hob1,hD1,fn1,tmps1,rfl,hsz1,htm1⟩:=hr1.h.own L _ h2
 have hι1:V1.ι L=V.ι L:=hr1.h.le0.ι L hLnx
 have hb:=run_beginRound (P:=E.P) hob1 rfl
 rw [hι1] at hb hob1
 refine ⟨_,hb,?_⟩
 obtain ⟨H2,L2⟩:=hr1.h.putObj (o':=.loop { state:=.busy,pending:=p1,fn:=fn1,tmps:=tmps1,params:=ps1,assign:=as1,body:=bd1,defers:=V1.ι D1 }) (B':=.loop .busy p1 tm1 nt1 ps1 as1 bd1 D1) h2 (fun hle=>⟨hD1,fn1,tmps1,rfl,hsz1,fun t y hy=>(htm1 t y hy).mono hle⟩)
 rw [hι1] at H2 L2
 have hR1:Rel (E.at V w) V1 ⟨sa.tm,(L,.loop .busy p1 tm1 nt1 ps1 as1 bd1 D1)::QN L sa.hp,sa.tk,sa.nx,sa.nt,sa.df⟩ a1 _ :=
  ⟨H2.congr (fun j=>JM L _ sa.hp j) (fun _=>rfl),hr1.nx,hr1.nt,hr1.df.le L2,fun t y hy=>(hr1.tm t y hy).mono L2⟩
 refine h3 (E.at V w) (some (V.ι L)) (n - 1) _ Z hWp (Nat.le_trans hv0 hnx) ⟨hLnx,Z⟩ ?_ V1 a1 _ hR1
 intro V3 a3 w3 hr3
 obtain ⟨hL3,ob3,hob3,hD3,fn3,tmps3,rfl,hsz3,htm3⟩:=hr3.h.own L _ h4
 have hι3:V3.ι L=V.ι L:=hr3.h.le0.ι L hLnx
 have fin:∃ v w',(Instr.endRound (V.ι L) jump).run E.P w3=.ok v w'∧K (a.put dd v) w':=by
  have hb:=run_endRound (P:=E.P) jump hob3
  obtain ⟨H4,L4⟩:=hr3.h.putObj (o':=.loop { state:=if jump.isNone then .ready else .done,pending:=jump,fn:=fn3,tmps:=tmps3,params:=ps2,assign:=as2,body:=bd2,defers:=V3.ι D2 }) (B':=.loop (if jump.isNone then .ready else .done) jump tm2 nt2 ps2 as2 bd2 D2) h4 (fun hle=>⟨hD3,fn3,tmps3,rfl,hsz3,fun t y hy=>(htm3 t y hy).mono hle⟩)
  obtain ⟨H5,L5⟩:=hr.h.back H4
  rw [hι3] at hb
  rw [hι3] at H5 L5
  refine ⟨_,_,hb,hK V3 _ _ (H5.congr (fun j=>JM L _ sb.hp j) (fun _=>rfl)) hr3.nx L5 (Jk rfl)⟩
 cases e with
 | normal=>cases he;exact fin
 | ret=>cases he;exact fin
 | exit id=>cases he;exact fin
 | goto t=>cases he
 | panic c=>cases he
 | outgrown=>cases he
end
theorem rangeFunc_outW {W:Wd} {P:Program} {g:Operand} {ps:Array Nat} {assign body:Code} {st:St} {gf:FuncId} {caps:List (Nat×Nat)} {res:TV} {m2:Mem} {s:LoopState} {jump:Option Code} {e:Exit} {tm2:List (Nat×TV)} {nt2:Nat} {ps2:Array Nat} {as2 bd2:Code} {D2:Nat}
  (hg:ev st.tm g=some (.v (.one (.fn gf caps))))
  (hc:Q0y W P gf (.one (.yld (st.nx+1))::ZC caps) ⟨(st.nx+1,.loop .ready none st.tm st.nt ps assign body st.nx)::(st.nx,.obj (.deferred (some [])))::st.hp,st.tk,st.nx+2⟩ res m2)
  (hL:Qcq m2.hp (st.nx+1)=some (.loop s jump tm2 nt2 ps2 as2 bd2 D2)) (hD:Qcq m2.hp st.nx=some (.obj (.deferred (some [])))) (hs:s ≠ .busy) (he:Xx e=some jump) :
  Q1n W P none (.rangeFunc g ps assign body) st e ⟨st.tm,QN st.nx (QN (st.nx+1) m2.hp),m2.tk,m2.nx,st.nt,st.df⟩:=by
 intro E ro n Q hP hW hv0 hro hQ V a w hr
 subst hP
 cases hro
 refine YO (fun fn _=>?_)
 obtain ⟨hv1,hv2⟩:=hr.ev hg
 have H1:=hr.h.addOwn (.deferred (some [])) (.obj (.deferred (some []))) rfl
 have L1:=hr.h.le (w':=w.alloc (.deferred (some []))) ⟨rfl,rfl,rfl,by simp,fun k hk _=>Below.heap_alloc w _ k hk⟩ (V.add_grow w.heap.size hr.h.sz ⟨rfl,rfl,rfl,by simp,fun k hk _=>Below.heap_alloc w _ k hk⟩)
 have L2:=H1.le (w':=(w.alloc (.deferred (some []))).alloc (.loop { state:=.ready,pending:=none,fn:=fn,tmps:=a.tmps,params:=ps,assign:=assign,body:=body,defers:=w.heap.size })) ⟨rfl,rfl,rfl,by simp,fun k hk _=>Below.heap_alloc _ _ k hk⟩ (Vu.add_grow _ (w.alloc (.deferred (some []))).heap.size H1.sz ⟨rfl,rfl,rfl,by simp,fun k hk _=>Below.heap_alloc _ _ k hk⟩)
 have hι:((V.add w.heap.size).add (w.alloc (.deferred (some []))).heap.size).ι V.nx=w.heap.size:=by
  rw [L2.ι V.nx (Nat.lt_succ_self _),V.add_at]
 have H2:=H1.addOwn (.loop { state:=.ready,pending:=none,fn:=fn,tmps:=a.tmps,params:=ps,assign:=assign,body:=body,defers:=w.heap.size }) (.loop .ready none st.tm st.nt ps assign body V.nx)
  ⟨Nat.lt_of_lt_of_le (Nat.lt_succ_self _) (Nat.le_succ _),fn,a.tmps,by rw [hι],hr.nt,fun t x hx=>((hr.tm t x hx).mono L1).mono L2⟩
 have L12:=L1.trans L2
 generalize hV2:(V.add w.heap.size).add (w.alloc (.deferred (some []))).heap.size=V2 at H2 L2 L12 hι
 have hnx2:V2.nx=st.nx+2:=by rw [← hV2];show V.nx+1+1=_;rw [hr.nx]
 have hιL:V2.ι (V.nx+1)=w.heap.size+1:=by
  rw [← hV2]
  have:=(V.add w.heap.size).add_at (w.alloc (.deferred (some []))).heap.size
  rw [World.size_alloc] at this
  rw [World.size_alloc];exact this
 have hcl:(V.add w.heap.size).nx=V.nx+1:=rfl
 rw [hcl] at H2
 rw [hr.nx] at H2 hιL hι
 obtain ⟨W2,hW2⟩:∃ W2,(w.alloc (.deferred (some []))).alloc (.loop { state:=.ready,pending:=none,fn:=fn,tmps:=a.tmps,params:=ps,assign:=assign,body:=body,defers:=w.heap.size })=W2:=⟨_,rfl⟩
 rw [hW2] at H2 L12
 refine ⟨w.heap.size+1,[{ target:=.collected w.heap.size,args:=#[]}],W2,{ target:=.fn (.func gf) (caps.map fun p=>Value.pointer (some ⟨V.ι p.1,p.2,none⟩)).toArray,args:=#[.func (.yield (w.heap.size+1)) #[] #[]]},W2,gf,
  #[.func (.yield (w.heap.size+1)) #[] #[]]++(caps.map fun p=>Value.pointer (some ⟨V.ι p.1,p.2,none⟩)).toArray,W2,?_,?_,?_,?_,(by intro h;cases h),?_⟩
 ·rw [← hW2];exact run_enterLoop_outer fn a.tmps ps assign body
 ·simp only [resolve,hv2]
  simp [go_sem]
 ·exact fun _ _=>trivial
 ·have:=hc.1 (#[.func (.yield (w.heap.size+1)) #[] #[]]++(caps.map fun p=>Value.pointer (some ⟨V.ι p.1,p.2,none⟩)).toArray) W2
  simp only [invoke];exact this
 ·have hargs:argsRel V2 W2 (.one (.yld (st.nx+1))::ZC caps) (#[.func (.yield (w.heap.size+1)) #[] #[]]++(caps.map fun p=>Value.pointer (some ⟨V.ι p.1,p.2,none⟩)).toArray):=by
   have h1:argsRel V2 W2 [.one (.yld (st.nx+1))] #[.func (.yield (w.heap.size+1)) #[] #[]]:=⟨rfl,fun i y hy=>by
    match i,hy with
    | 0,hy=>cases hy;exact ⟨_,rfl,by rw [hnx2];omega,by rw [hιL];rfl⟩⟩
   have h2:argsRel V2 W2 (ZC caps) (caps.map fun p=>Value.pointer (some ⟨V.ι p.1,p.2,none⟩)).toArray:=by
    have h3:=Zo (V:=V2) (w:=W2) (caps:=caps) (fun p hp=>Nat.lt_of_lt_of_le (hv1 p hp) L12.nx)
    rw [List.map_congr_left (g:=fun p=>Value.pointer (some ⟨V.ι p.1,p.2,none⟩)) (fun p hp=>by rw [L12.ι p.1 (hv1 p hp)])] at h3
    exact h3
   exact h1.append h2
  have hcall:=hc.2 E V2 W2 _ rfl (HRel.wd H2 hW) H2 hnx2 hargs
  have hcall':CallsIn Fence.wide (n - 1) E.P gf _ W2 _:=callsIn_wide.2 hcall
  refine CallsIn.mono (F:=Qdh none) hcall' ?_
  rintro e' w3 ⟨v,V3,rfl,H3,hn3,L3,-⟩
  obtain ⟨hL3,ob3,hob3,hD3,fn3,tmps3,rfl,hsz3,htm3⟩:=H3.own _ _ hL
  have hι3:V3.ι (st.nx+1)=w.heap.size+1:=by rw [L3.ι _ (by rw [hnx2];omega)];exact hιL
  have hend:=run_endLoop (P:=E.P) hob3 hs
  obtain ⟨H4,L4⟩:=H3.putObj (o':=.loop { state:=.exhausted,pending:=jump,fn:=fn3,tmps:=tmps3,params:=ps2,assign:=as2,body:=bd2,defers:=V3.ι D2 }) (B':=.loop .exhausted jump tm2 nt2 ps2 as2 bd2 D2) hL (fun hle=>⟨hD3,fn3,tmps3,rfl,hsz3,fun t y hy=>(htm3 t y hy).mono hle⟩)
  rw [hι3] at hend H4 L4
  have L:=(L12.trans L3).trans L4
  have hlk:∀ j,Qcq (QN (st.nx+1) m2.hp) j=Qcq (QN (st.nx+1) ((st.nx+1,HB.loop .exhausted jump tm2 nt2 ps2 as2 bd2 D2)::m2.hp)) j:=fun j=>by
   rw [JP,JP,Q8]
   split
   ·rfl
   ·rename_i e;rw [if_neg (fun e'=>e e'.symm)]
  have H5:=(H4.drop (st.nx+1)).congr (hp':=QN (st.nx+1) m2.hp) hlk (fun _=>rfl)
  have hD5:Qcq (QN (st.nx+1) m2.hp) st.nx=some (.obj (.deferred (some []))):=by
   rw [JP,if_neg (by omega)];exact hD
  obtain ⟨H6,L6⟩:=H5.freeze hD5
  have e1:V3.ι st.nx=w.heap.size:=by rw [L3.ι _ (by rw [hnx2];omega)];exact hι
  obtain ⟨-,oD,hoD,hDr⟩:=H5.own _ _ hD5
  have hoD':oD=.deferred (some []):=hDr
  rw [hoD',e1] at hoD
  obtain ⟨V6,hV6⟩:∃ V6:Vu,{ V3 with S:=fun b o=>V3.S b o∨b=V3.ι st.nx }=V6:=⟨_,rfl⟩
  have hS6:V6.S w.heap.size 0:=by rw [← hV6];exact .inr e1.symm
  have hn6:V6.nx=m2.nx:=by rw [← hV6];exact hn3
  rw [hV6] at H6 L6
  have hR:Rel E V6 ⟨st.tm,QN st.nx (QN (st.nx+1) m2.hp),m2.tk,m2.nx,st.nt,st.df⟩ { a with defers:=[{ target:=.collected w.heap.size,args:=#[]}]++a.defers } (w3.putObj (w.heap.size+1) (.loop { state:=.exhausted,pending:=jump,fn:=fn3,tmps:=tmps3,params:=ps2,assign:=as2,body:=bd2,defers:=V3.ι D2 })):=by
   have LL:=L.trans L6
   exact ⟨H6,hn6,hr.nt,hr.df.push LL (Nat.le_refl _) hS6 hoD (fun o hs=>(H5.new _ _ hD5).2 o (by rw [e1];exact H5.le0.S _ _ hs)),fun t x hx=>(hr.tm t x hx).mono LL⟩
  refine ⟨jump,_,hend,?_⟩
  cases e with
  | normal=>cases he;exact hQ V6 _ _ hR
  | ret=>cases he;exact Kj (wpIn_ret (hQ V6 _ _ hR))
  | exit id=>cases he;exact Kj (wpIn_exit (hQ V6 _ _ hR))
  | goto t=>cases he
  | panic c=>cases he
  | outgrown=>cases he
theorem rangeFunc_inW {W:Wd} {P:Program} {g:Operand} {ps:Array Nat} {assign body:Code} {st:St} {gf:FuncId} {caps:List (Nat×Nat)} {res:TV} {m2:Mem} {s s0:LoopState} {jump p0:Option Code} {e:Exit} {tm2 tm0:List (Nat×TV)} {nt2 nt0:Nat} {ps2 ps0:Array Nat} {as2 bd2 as0 bd0:Code} {D2 D0 L0:Nat}
    (hg:ev st.tm g=some (.v (.one (.fn gf caps)))) (h0:Qcq st.hp L0=some (.loop s0 p0 tm0 nt0 ps0 as0 bd0 D0))
    (hc:Q0y W P gf (.one (.yld st.nx)::ZC caps) ⟨(st.nx,.loop .ready none st.tm st.nt ps assign body D0)::st.hp,st.tk,st.nx+1⟩ res m2)
    (hL:Qcq m2.hp st.nx=some (.loop s jump tm2 nt2 ps2 as2 bd2 D2)) (hs:s ≠ .busy) (he:Xx e=some jump) :
    Q1n W P (some L0) (.rangeFunc g ps assign body) st e ⟨st.tm,QN st.nx m2.hp,m2.tk,m2.nx,st.nt,st.df⟩:=by
  intro E ro n Q hP hW hv0 hro hQ V a w hr
  subst hP
  obtain ⟨hL0,rfl⟩:=hro
  refine YO (fun fn _=>?_)
  obtain ⟨hv1,hv2⟩:=hr.ev hg
  obtain ⟨-,ob0,hob0,hD0,fn0,tmps0,rfl,hsz0,htm0⟩:=hr.h.own L0 _ h0
  have hι0:V.ι L0=E.V0.ι L0:=hr.h.le0.ι L0 hL0
  have H1:=hr.h.addOwn (.loop { state:=.ready,pending:=none,fn:=fn,tmps:=a.tmps,params:=ps,assign:=assign,body:=body,defers:=V.ι D0 }) (.loop .ready none st.tm st.nt ps assign body D0)
    (by
      have L1:=hr.h.le (w':=w.alloc (.loop { state:=.ready,pending:=none,fn:=fn,tmps:=a.tmps,params:=ps,assign:=assign,body:=body,defers:=V.ι D0 })) ⟨rfl,rfl,rfl,by simp,fun k hk _=>Below.heap_alloc w _ k hk⟩ (V.add_grow w.heap.size hr.h.sz ⟨rfl,rfl,rfl,by simp,fun k hk _=>Below.heap_alloc w _ k hk⟩)
      exact ⟨Nat.lt_of_lt_of_le hD0 L1.nx,fn,a.tmps,by rw [L1.ι D0 hD0],hr.nt,fun t x hx=>(hr.tm t x hx).mono L1⟩)
  have L1:=hr.h.le (w':=w.alloc (.loop { state:=.ready,pending:=none,fn:=fn,tmps:=a.tmps,params:=ps,assign:=assign,body:=body,defers:=V.ι D0 })) ⟨rfl,rfl,rfl,by simp,fun k hk _=>Below.heap_alloc w _ k hk⟩ (V.add_grow w.heap.size hr.h.sz ⟨rfl,rfl,rfl,by simp,fun k hk _=>Below.heap_alloc w _ k hk⟩)
  have hιL:(V.add w.heap.size).ι V.nx=w.heap.size:=V.add_at _
  generalize hV2:V.add w.heap.size=V2 at H1 L1 hιL
  have hnx2:V2.nx=st.nx+1:=by rw [← hV2];show V.nx+1=_;rw [hr.nx]
  rw [hr.nx] at H1 hιL
  obtain ⟨W2,hW2⟩:∃ W2,w.alloc (.loop { state:=.ready,pending:=none,fn:=fn,tmps:=a.tmps,params:=ps,assign:=assign,body:=body,defers:=V.ι D0 })=W2:=⟨_,rfl⟩
  rw [hW2] at H1 L1
  refine ⟨w.heap.size,[],W2,{ target:=.fn (.func gf) (caps.map fun p=>Value.pointer (some ⟨V.ι p.1,p.2,none⟩)).toArray,args:=#[.func (.yield w.heap.size) #[] #[]]},W2,gf,
    #[.func (.yield w.heap.size) #[] #[]]++(caps.map fun p=>Value.pointer (some ⟨V.ι p.1,p.2,none⟩)).toArray,W2,?_,?_,?_,?_,(by intro h;cases h),?_⟩
  · rw [← hW2]
    rw [hι0] at hob0
    unfold Instr.enterLoop
    simp only [Qdh,Sem.run_bind,run_getLoop hob0,run_newObj_alloc,Result.andThen,Sem.run_pure]
  · simp only [resolve,hv2]
    simp [go_sem]
  · exact fun _ _=>trivial
  · have:=hc.1 (#[.func (.yield w.heap.size) #[] #[]]++(caps.map fun p=>Value.pointer (some ⟨V.ι p.1,p.2,none⟩)).toArray) W2
    simp only [invoke];exact this
  · have hargs:argsRel V2 W2 (.one (.yld st.nx)::ZC caps) (#[.func (.yield w.heap.size) #[] #[]]++(caps.map fun p=>Value.pointer (some ⟨V.ι p.1,p.2,none⟩)).toArray):=by
      have h1:argsRel V2 W2 [.one (.yld st.nx)] #[.func (.yield w.heap.size) #[] #[]]:=⟨rfl,fun i y hy=>by
        match i,hy with
        | 0,hy=>cases hy;exact ⟨_,rfl,by rw [hnx2];omega,by rw [hιL];rfl⟩⟩
      have h2:argsRel V2 W2 (ZC caps) (caps.map fun p=>Value.pointer (some ⟨V.ι p.1,p.2,none⟩)).toArray:=by
        have h3:=Zo (V:=V2) (w:=W2) (caps:=caps) (fun p hp=>Nat.lt_of_lt_of_le (hv1 p hp) L1.nx)
        rw [List.map_congr_left (g:=fun p=>Value.pointer (some ⟨V.ι p.1,p.2,none⟩)) (fun p hp=>by rw [L1.ι p.1 (hv1 p hp)])] at h3
        exact h3
      exact h1.append h2
    have hcall:=hc.2 E V2 W2 _ rfl (HRel.wd H1 hW) H1 hnx2 hargs
    have hcall':CallsIn Fence.wide (n - 1) E.P gf _ W2 _:=callsIn_wide.2 hcall
    refine CallsIn.mono (F:=Qdh (some (E.V0.ι L0))) hcall' ?_
    rintro e' w3 ⟨v,V3,rfl,H3,hn3,L3,-⟩
    obtain ⟨hL3,ob3,hob3,hD3,fn3,tmps3,rfl,hsz3,htm3⟩:=H3.own _ _ hL
    have hι3:V3.ι st.nx=w.heap.size:=by rw [L3.ι _ (by rw [hnx2];omega)];exact hιL
    have hend:=run_endLoop (P:=E.P) hob3 hs
    obtain ⟨H4,L4⟩:=H3.putObj (o':=.loop { state:=.exhausted,pending:=jump,fn:=fn3,tmps:=tmps3,params:=ps2,assign:=as2,body:=bd2,defers:=V3.ι D2 }) (B':=.loop .exhausted jump tm2 nt2 ps2 as2 bd2 D2) hL (fun hle=>⟨hD3,fn3,tmps3,rfl,hsz3,fun t y hy=>(htm3 t y hy).mono hle⟩)
    rw [hι3] at hend H4 L4
    have hR:Rel E V3 ⟨st.tm,QN st.nx m2.hp,m2.tk,m2.nx,st.nt,st.df⟩ { a with defers:=[]++a.defers } (w3.putObj w.heap.size (.loop { state:=.exhausted,pending:=jump,fn:=fn3,tmps:=tmps3,params:=ps2,assign:=as2,body:=bd2,defers:=V3.ι D2 })):=by
      have L:=(L1.trans L3).trans L4
      refine ⟨(H4.drop st.nx).congr (fun j=>?_) (fun _=>rfl),hn3,hr.nt,hr.df.le L,fun t x hx=>(hr.tm t x hx).mono L⟩
      rw [JP,JP,Q8]
      split
      · rfl
      · rename_i e;rw [if_neg (fun e'=>e e'.symm)]
    refine ⟨jump,_,hend,?_⟩
    cases e with
    | normal=>cases he;exact hQ V3 _ _ hR
    | ret=>cases he;exact Kj (wpIn_ret (hQ V3 _ _ hR))
    | exit id=>cases he;exact Kj (wpIn_exit (hQ V3 _ _ hR))
    | goto t=>cases he
    | panic c=>cases he
    | outgrown=>cases he
theorem rangeFunc_outDW {W:Wd} {P:Program} {g:Operand} {ps:Array Nat} {assign body:Code} {st:St} {gf:FuncId} {caps:List (Nat×Nat)} {m2:Mem} {pv:Value}
  (hg:ev st.tm g=some (.v (.one (.fn gf caps))))
  (hc:Q0z W P gf (.one (.yld (st.nx+1))::ZC caps) ⟨(st.nx+1,.loop .ready none st.tm st.nt ps assign body st.nx)::(st.nx,.obj (.deferred (some [])))::st.hp,st.tk,st.nx+2⟩ pv m2)
  (hD:Qcq m2.hp st.nx=some (.obj (.deferred (some [])))) :
  Q1n W P none (.rangeFunc g ps assign body) st (.panic (ZP pv)) ⟨st.tm,QN st.nx (QN (st.nx+1) m2.hp),m2.tk,m2.nx,st.nt,st.df⟩:=by
 intro E ro n Q hP hW hv0 hro hQ V a w hr
 subst hP
 cases hro
 refine YO (fun fn _=>?_)
 obtain ⟨hv1,hv2⟩:=hr.ev hg
 have H1:=hr.h.addOwn (.deferred (some [])) (.obj (.deferred (some []))) rfl
 have L1:=hr.h.le (w':=w.alloc (.deferred (some []))) ⟨rfl,rfl,rfl,by simp,fun k hk _=>Below.heap_alloc w _ k hk⟩ (V.add_grow w.heap.size hr.h.sz ⟨rfl,rfl,rfl,by simp,fun k hk _=>Below.heap_alloc w _ k hk⟩)
 have L2:=H1.le (w':=(w.alloc (.deferred (some []))).alloc (.loop { state:=.ready,pending:=none,fn:=fn,tmps:=a.tmps,params:=ps,assign:=assign,body:=body,defers:=w.heap.size })) ⟨rfl,rfl,rfl,by simp,fun k hk _=>Below.heap_alloc _ _ k hk⟩ (Vu.add_grow _ (w.alloc (.deferred (some []))).heap.size H1.sz ⟨rfl,rfl,rfl,by simp,fun k hk _=>Below.heap_alloc _ _ k hk⟩)
 have hι:((V.add w.heap.size).add (w.alloc (.deferred (some []))).heap.size).ι V.nx=w.heap.size:=by
  rw [L2.ι V.nx (Nat.lt_succ_self _),V.add_at]
 have H2:=H1.addOwn (.loop { state:=.ready,pending:=none,fn:=fn,tmps:=a.tmps,params:=ps,assign:=assign,body:=body,defers:=w.heap.size }) (.loop .ready none st.tm st.nt ps assign body V.nx)
  ⟨Nat.lt_of_lt_of_le (Nat.lt_succ_self _) (Nat.le_succ _),fn,a.tmps,by rw [hι],hr.nt,fun t x hx=>((hr.tm t x hx).mono L1).mono L2⟩
 have L12:=L1.trans L2
 generalize hV2:(V.add w.heap.size).add (w.alloc (.deferred (some []))).heap.size=V2 at H2 L2 L12 hι
 have hnx2:V2.nx=st.nx+2:=by rw [← hV2];show V.nx+1+1=_;rw [hr.nx]
 have hιL:V2.ι (V.nx+1)=w.heap.size+1:=by
  rw [← hV2]
  have:=(V.add w.heap.size).add_at (w.alloc (.deferred (some []))).heap.size
  rw [World.size_alloc] at this
  rw [World.size_alloc];exact this
 have hcl:(V.add w.heap.size).nx=V.nx+1:=rfl
 rw [hcl] at H2
 rw [hr.nx] at H2 hιL hι
 obtain ⟨W2,hW2⟩:∃ W2,(w.alloc (.deferred (some []))).alloc (.loop { state:=.ready,pending:=none,fn:=fn,tmps:=a.tmps,params:=ps,assign:=assign,body:=body,defers:=w.heap.size })=W2:=⟨_,rfl⟩
 rw [hW2] at H2 L12
 refine ⟨w.heap.size+1,[{ target:=.collected w.heap.size,args:=#[]}],W2,{ target:=.fn (.func gf) (caps.map fun p=>Value.pointer (some ⟨V.ι p.1,p.2,none⟩)).toArray,args:=#[.func (.yield (w.heap.size+1)) #[] #[]]},W2,gf,
  #[.func (.yield (w.heap.size+1)) #[] #[]]++(caps.map fun p=>Value.pointer (some ⟨V.ι p.1,p.2,none⟩)).toArray,W2,?_,?_,?_,?_,(by intro h;cases h),?_⟩
 ·rw [← hW2];exact run_enterLoop_outer fn.1 a.tmps ps assign body
 ·simp only [resolve,hv2]
  simp [go_sem]
 ·exact fun _ _=>trivial
 ·have:=hc.1 (#[.func (.yield (w.heap.size+1)) #[] #[]]++(caps.map fun p=>Value.pointer (some ⟨V.ι p.1,p.2,none⟩)).toArray) W2
  simp only [invoke];exact this
 ·have hargs:argsRel V2 W2 (.one (.yld (st.nx+1))::ZC caps) (#[.func (.yield (w.heap.size+1)) #[] #[]]++(caps.map fun p=>Value.pointer (some ⟨V.ι p.1,p.2,none⟩)).toArray):=by
   have h1:argsRel V2 W2 [.one (.yld (st.nx+1))] #[.func (.yield (w.heap.size+1)) #[] #[]]:=⟨rfl,fun i y hy=>by
    match i,hy with
    | 0,hy=>cases hy;exact ⟨_,rfl,by rw [hnx2];omega,by rw [hιL];rfl⟩⟩
   have h2:argsRel V2 W2 (ZC caps) (caps.map fun p=>Value.pointer (some ⟨V.ι p.1,p.2,none⟩)).toArray:=by
    have h3:=Zo (V:=V2) (w:=W2) (caps:=caps) (fun p hp=>Nat.lt_of_lt_of_le (hv1 p hp) L12.nx)
    rw [List.map_congr_left (g:=fun p=>Value.pointer (some ⟨V.ι p.1,p.2,none⟩)) (fun p hp=>by rw [L12.ι p.1 (hv1 p hp)])] at h3
    exact h3
   exact h1.append h2
  have hcall:=hc.2 E V2 W2 _ rfl (HRel.wd H2 hW) H2 hnx2 hargs
  have hcall':CallsIn Fence.wide (n - 1) E.P gf _ W2 _:=callsIn_wide.2 hcall
  refine CallsIn.mono (F:=Qdh none) hcall' ?_
  rintro e' w3 ⟨V3,rfl,H3,hn3,L3⟩
  have L:=L12.trans L3
  have H5:=H3.drop (st.nx+1)
  have hD5:Qcq (QN (st.nx+1) m2.hp) st.nx=some (.obj (.deferred (some []))):=by
   rw [JP,if_neg (by omega)];exact hD
  obtain ⟨H6,L6⟩:=H5.freeze hD5
  have e1:V3.ι st.nx=w.heap.size:=by rw [L3.ι _ (by rw [hnx2];omega)];exact hι
  obtain ⟨-,oD,hoD,hDr⟩:=H5.own _ _ hD5
  have hoD':oD=.deferred (some []):=hDr
  rw [hoD',e1] at hoD
  obtain ⟨V6,hV6⟩:∃ V6:Vu,{ V3 with S:=fun b o=>V3.S b o∨b=V3.ι st.nx }=V6:=⟨_,rfl⟩
  have hS6:V6.S w.heap.size 0:=by rw [← hV6];exact .inr e1.symm
  have hn6:V6.nx=m2.nx:=by rw [← hV6];exact hn3
  rw [hV6] at H6 L6
  have LL:=L.trans L6
  exact hQ V6 _ _ ⟨H6,hn6,hr.nt,hr.df.push LL (Nat.le_refl _) hS6 hoD (fun o hs=>(H5.new _ _ hD5).2 o (by rw [e1];exact H5.le0.S _ _ hs)),fun t x hx=>(hr.tm t x hx).mono LL⟩
theorem rangeFunc_inDW {W:Wd} {P:Program} {g:Operand} {ps:Array Nat} {assign body:Code} {st:St} {gf:FuncId} {caps:List (Nat×Nat)} {m2:Mem} {s0:LoopState} {p0:Option Code} {tm0:List (Nat×TV)} {nt0:Nat} {ps0:Array Nat} {as0 bd0:Code} {D0 L0:Nat} {pv:Value}
  (hg:ev st.tm g=some (.v (.one (.fn gf caps)))) (h0:Qcq st.hp L0=some (.loop s0 p0 tm0 nt0 ps0 as0 bd0 D0))
  (hc:Q0z W P gf (.one (.yld st.nx)::ZC caps) ⟨(st.nx,.loop .ready none st.tm st.nt ps assign body D0)::st.hp,st.tk,st.nx+1⟩ pv m2) :
  Q1n W P (some L0) (.rangeFunc g ps assign body) st (.panic (ZP pv)) ⟨st.tm,QN st.nx m2.hp,m2.tk,m2.nx,st.nt,st.df⟩:=by
 intro E ro n Q hP hW hv0 hro hQ V a w hr
 subst hP
 obtain ⟨hL0,rfl⟩:=hro
 refine YO (fun fn _=>?_)
 obtain ⟨hv1,hv2⟩:=hr.ev hg
 obtain ⟨-,ob0,hob0,hD0,fn0,tmps0,rfl,hsz0,htm0⟩:=hr.h.own L0 _ h0
 have hι0:V.ι L0=E.V0.ι L0:=hr.h.le0.ι L0 hL0
 have L1:=hr.h.le (w':=w.alloc (.loop { state:=.ready,pending:=none,fn:=fn,tmps:=a.tmps,params:=ps,assign:=assign,body:=body,defers:=V.ι D0 })) ⟨rfl,rfl,rfl,by simp,fun k hk _=>Below.heap_alloc w _ k hk⟩ (V.add_grow w.heap.size hr.h.sz ⟨rfl,rfl,rfl,by simp,fun k hk _=>Below.heap_alloc w _ k hk⟩)
 have H1:=hr.h.addOwn (.loop { state:=.ready,pending:=none,fn:=fn,tmps:=a.tmps,params:=ps,assign:=assign,body:=body,defers:=V.ι D0 }) (.loop .ready none st.tm st.nt ps assign body D0)
  ⟨Nat.lt_of_lt_of_le hD0 L1.nx,fn,a.tmps,by rw [L1.ι D0 hD0],hr.nt,fun t x hx=>(hr.tm t x hx).mono L1⟩
 have hιL:(V.add w.heap.size).ι V.nx=w.heap.size:=V.add_at _
 generalize hV2:V.add w.heap.size=V2 at H1 L1 hιL
 have hnx2:V2.nx=st.nx+1:=by rw [← hV2];show V.nx+1=_;rw [hr.nx]
 rw [hr.nx] at H1 hιL
 obtain ⟨W2,hW2⟩:∃ W2,w.alloc (.loop { state:=.ready,pending:=none,fn:=fn,tmps:=a.tmps,params:=ps,assign:=assign,body:=body,defers:=V.ι D0 })=W2:=⟨_,rfl⟩
 rw [hW2] at H1 L1
 refine ⟨w.heap.size,[],W2,{ target:=.fn (.func gf) (caps.map fun p=>Value.pointer (some ⟨V.ι p.1,p.2,none⟩)).toArray,args:=#[.func (.yield w.heap.size) #[] #[]]},W2,gf,
  #[.func (.yield w.heap.size) #[] #[]]++(caps.map fun p=>Value.pointer (some ⟨V.ι p.1,p.2,none⟩)).toArray,W2,?_,?_,?_,?_,(by intro h;cases h),?_⟩
 ·rw [← hW2]
  rw [hι0] at hob0
  unfold Instr.enterLoop
  simp only [Qdh,Sem.run_bind,run_getLoop hob0,run_newObj_alloc,Result.andThen,Sem.run_pure]
 ·simp only [resolve,hv2]
  simp [go_sem]
 ·exact fun _ _=>trivial
 ·have:=hc.1 (#[.func (.yield w.heap.size) #[] #[]]++(caps.map fun p=>Value.pointer (some ⟨V.ι p.1,p.2,none⟩)).toArray) W2
  simp only [invoke];exact this
 ·have hargs:argsRel V2 W2 (.one (.yld st.nx)::ZC caps) (#[.func (.yield w.heap.size) #[] #[]]++(caps.map fun p=>Value.pointer (some ⟨V.ι p.1,p.2,none⟩)).toArray):=by
   have h1:argsRel V2 W2 [.one (.yld st.nx)] #[.func (.yield w.heap.size) #[] #[]]:=⟨rfl,fun i y hy=>by
    match i,hy with
    | 0,hy=>cases hy;exact ⟨_,rfl,by rw [hnx2];omega,by rw [hιL];rfl⟩⟩
   have h2:argsRel V2 W2 (ZC caps) (caps.map fun p=>Value.pointer (some ⟨V.ι p.1,p.2,none⟩)).toArray:=by
    have h3:=Zo (V:=V2) (w:=W2) (caps:=caps) (fun p hp=>Nat.lt_of_lt_of_le (hv1 p hp) L1.nx)
    rw [List.map_congr_left (g:=fun p=>Value.pointer (some ⟨V.ι p.1,p.2,none⟩)) (fun p hp=>by rw [L1.ι p.1 (hv1 p hp)])] at h3
    exact h3
   exact h1.append h2
  have hcall:=hc.2 E V2 W2 _ rfl (HRel.wd H1 hW) H1 hnx2 hargs
  have hcall':CallsIn Fence.wide (n - 1) E.P gf _ W2 _:=callsIn_wide.2 hcall
  refine CallsIn.mono (F:=Qdh (some (E.V0.ι L0))) hcall' ?_
  rintro e' w3 ⟨V3,rfl,H3,hn3,L3⟩
  have L:=L1.trans L3
  exact hQ V3 _ _ ⟨H3.drop st.nx,hn3,hr.nt,hr.df.le L,fun t x hx=>(hr.tm t x hx).mono L⟩
end
section
open Go.RowKit
structure StW (st st':St):Prop where
 tm:∀ t y,Qcq st'.tm t=some y→y=.unk∨∃ x,Qcq st.tm t=some x∧∀ V w v,x.rel V w v→y.rel V w v
 hp:∀ i B,Qcq st'.hp i=some B→∃ A,Qcq st.hp i=some A∧∀ V w o,A.rel V w o→B.rel V w o
 tk:∀ i T,Qcq st'.tk i=some (some T)→Qcq st.tk i=some (some T)
 nx:st'.nx=st.nx
 nt:st'.nt=st.nt
 df:st'.df=st.df
theorem StW.refl (st:St):StW st st:=⟨fun t y h=>.inr ⟨y,h,fun _ _ _ h=>h⟩,fun i B h=>⟨B,h,fun _ _ _ h=>h⟩,fun i T h=>h,rfl,rfl,rfl⟩
theorem HRel.weak {E:Env} {V:Vu} {hp hp':List (Nat×HB)} {tk tk':List (Nat×Option Tok)} {w:World} (h:HRel E V hp tk w)
  (hh:∀ i B,Qcq hp' i=some B→∃ A,Qcq hp i=some A∧∀ V w o,A.rel V w o→B.rel V w o) (ht:∀ i T,Qcq tk' i=some (some T)→Qcq tk i=some (some T)):HRel E V hp' tk' w:=by
 refine ⟨h.ext,h.le0,h.sz,h.sub,fun i B hi=>?_,fun i j A B hi hj=>?_,fun i B hi=>?_,fun i T hi=>?_,fun i j T U g hi hj=>h.tki i j T U g (ht i T hi) (ht j U hj)⟩
 ·obtain ⟨x,hx,hxy⟩:=hh i B hi
  obtain ⟨h1,o,h2,h3⟩:=h.own i x hx
  exact ⟨h1,o,h2,hxy _ _ _ h3⟩
 ·obtain ⟨x,hx,-⟩:=hh i A hi
  obtain ⟨y,hy,-⟩:=hh j B hj
  exact h.inj i j x y hx hy
 ·obtain ⟨x,hx,-⟩:=hh i B hi
  exact h.new i x hx
 ·obtain ⟨h1,h2,xs,h3,h4⟩:=h.tok i T (ht i T hi)
  refine ⟨h1,h2,xs,h3,fun g hg=>⟨(h4 g hg).1,(h4 g hg).2.1,fun j B hj=>?_⟩⟩
  obtain ⟨x,hx,-⟩:=hh j B hj
  exact (h4 g hg).2.2 j x hx
theorem Rel.weak {E:Env} {V:Vu} {st st':St} {a:Act} {w:World} (h:Rel E V st a w) (hl:StW st st'):Rel E V st' a w :=
 ⟨h.h.weak hl.hp hl.tk,h.nx.trans hl.nx.symm,h.nt.trans hl.nt.symm,by rw [hl.df];exact h.df,fun t y hy=>by
  rcases hl.tm t y hy with e | ⟨x,hx,hxy⟩
  ·subst e;trivial
  ·exact hxy _ _ _ (h.tm t x hx)⟩
structure StB (m:Nat) (st:St):Prop where
 tm:∀ t x,Qcq st.tm t=some x→x.below m
 hp:∀ i B,Qcq st.hp i=some B→i < m∧B.below m
 tk:∀ i T,Qcq st.tk i=some (some T)→i < m
 df:∀ i,i∈st.df.tail→i < m
theorem Rel.trimTo {E:Env} {V:Vu} {st:St} {a:Act} {w:World} {m:Nat} (h:Rel E V st a w) (hb:StB m st) (h0:E.V0.nx≤m):∃ V',Rel E V' ⟨st.tm,st.hp,st.tk,m,st.nt,st.df⟩ a w:=by
 have H:=h.h
 refine ⟨{ V with nx:=m },⟨H.ext,⟨h0,H.le0.ι,H.le0.cu,H.le0.κ,H.le0.S,H.le0.cell,H.le0.dk⟩,H.sz,H.sub,?_,H.inj,H.new,?_,?_⟩,Z,h.nt,h.df.trim hb.df,?_⟩
 ·intro i B hi
  obtain ⟨h1,h2⟩:=hb.hp i B hi
  obtain ⟨-,o,ho,hB⟩:=H.own i B hi
  refine ⟨h1,o,ho,?_⟩
  cases B with
  | cells T xs=>obtain ⟨vs,h3,h4⟩:=hB;exact ⟨vs,h3,h4.trim h2⟩
  | obj o'=>exact hB
  | loop s p tm nt ps assign body D=>obtain ⟨-,fn,tmps,h3,h4,h5⟩:=hB;exact ⟨h2.1,fn,tmps,h3,h4,fun t x hx=>(h5 t x hx).trim (h2.2 t x hx)⟩
  | mp es clock=>obtain ⟨ents,h3,h4,h5⟩:=hB;exact ⟨ents,h3,h4,fun i k x b hi=>let ⟨v,h6,h7⟩:=h5 i k x b hi;⟨v,h6,h7.trim (h2 _ (List.mem_of_getElem? hi))⟩⟩
 ·intro i T hi
  obtain ⟨h1,hcu,xs,h2,h3⟩:=H.tok i T hi
  exact ⟨hb.tk i _ hi,hcu,xs,h2,h3⟩
 ·exact H.tki
 ·intro t y hy
  exact (h.tm t y hy).trim (hb.tm t y hy)
structure Univ where
 T:Type
 R:T→Type
 eq:(a b:T)→Option (PLift (a=b))
 E:∀ t,Enc (R t)
section
variable (U:Univ)
inductive TC where
 | v (x:Value)
 | str (s:Qdk)
 | sl (t:U.T) (l:List (U.R t))
inductive TA where
 | c (x:TC U)
 | ptr (i off:Nat)
 | pel (t:U.T) (x:U.R t) (off:Nat)
 | fn (f:FuncId) (caps:List (Nat×Nat))
 | app (i ver:Nat)
 | raw (x:CA)
inductive It where
 | one (x:TA U)
 | grp (t:U.T) (x:U.R t)
inductive TAV where
 | one (x:TA U)
 | agg (xs:List (It U))
inductive TTV where
 | v (x:TAV U)
 | tup (xs:List (TAV U))
 | unk
structure TTok where
 E:TypeId
 t:U.T
 l:List (U.R t)
 ver:Nat
inductive Ev where
 | box (i:Nat) (T:TypeId) (xs:List (It U))
 | set (i off:Nat) (xs:List (It U))
 | raw (i:Nat) (B:HB)
 | lp (i:Nat) (s:LoopState) (p:Option Code) (tm:List (Nat×TTV U)) (nt:Nat) (ps:Array Nat) (a b:Code) (d:Nat)
 | ls (i:Nat) (xs:List (Nat×TTV U))
structure TMe where
 es:List (Ev U)
 tk:List (Nat×TTok U)
 nx:Nat
structure TSt where
 tm:List (Nat×TTV U)
 m:TMe U
 nt:Nat
 df:List Nat
structure Codec where
 fl:∀ t,U.R t→List (TC U)
 sub:∀ t,U.R t→Nat→Nat→Option (Sigma U.R)
 bld:∀ t,List (It U)→Option (U.R t)
end
section
variable {U:Univ}
def TC.er:TC U→C
 | .v x=>.v x
 | .str s=>.v (.string (Qci s))
 | .sl t l=>.sl (U.E t).sz ((U.E t).encL l)
def TTok.er (T:TTok U):Tok:=⟨T.E,(U.E T.t).sz,((U.E T.t).encL T.l).length,[]⟩
def TTok.erO (T:TTok U):Option Tok:=cond (Nat.beq T.E 0) none (some T.er)
theorem TTok.erO_some {T:TTok U} {x:Tok} (h:T.erO=some x):T.er=x∧Nat.beq T.E 0=false:=by
 unfold TTok.erO at h
 cases hb:Nat.beq T.E 0 with
 | true=>rw [hb] at h;cases h
 | false=>rw [hb] at h;exact ⟨Option.some.inj h,rfl⟩
theorem ZZ {T:TTok U} (h:Nat.beq T.E 0=false):T.erO=some T.er:=by unfold TTok.erO;rw [h];rfl
def X5 (tk:List (Nat×TTok U)):List (Nat×Option Tok):=tk.map fun p=>(p.1,p.2.erO)
def cur (tk:List (Nat×TTok U)) (i ver:Nat):Option (TTok U):=match Qcq tk i with
 | some T=>cond (Nat.beq T.ver ver) (some T) none
 | none=>none
def TA.er (tk:List (Nat×TTok U)):TA U→CA
 | .c x=>.d x.er
 | .ptr i off=>.ptr i off
 | .pel t x off=>.pel ((U.E t).enc x) off
 | .fn f caps=>.fn f caps
 | .app i ver=>match cur tk i ver with
  | some T=>.app i (U.E T.t).sz ((U.E T.t).encL T.l)
  | none=>.any
 | .raw x=>x
variable (D:Codec U)
def It.cells:It U→List (TA U)
 | .one x=>[x]
 | .grp t x=>(D.fl t x).map .c
def Yc (xs:List (It U)):List (TA U):=xs.flatMap (It.cells D)
def Jm (tk:List (Nat×TTok U)) (xs:List (It U)):List CA:=(Yc D xs).map (TA.er tk)
def TAV.er (tk:List (Nat×TTok U)):TAV U→AV
 | .one x=>.one (x.er tk)
 | .agg xs=>.agg (Jm D tk xs)
def TTV.er (tk:List (Nat×TTok U)):TTV U→TV
 | .v x=>.v (x.er D tk)
 | .tup xs=>.tup (xs.map (TAV.er D tk))
 | .unk=>.unk
def QP {α β:Type} (f:α→β) (l:List (Nat×α)):List (Nat×β):=l.map fun p=>(p.1,f p.2)
theorem QR {α β:Type} (f:α→β):∀ (l:List (Nat×α)) (i:Nat),Qcq (QP f l) i=(Qcq l i).map f
  | [],i=>rfl
  | (k,x)::l,i=>by
    show Qcq ((k,f x)::QP f l) i=_
    rw [Q8,Q8,QR f l i]
    split <;> rfl
theorem G9 {tk:List (Nat×TTok U)} {i j:Nat} {T0:TTok U} {x y:Tok} {l:List (Nat×Option Tok)} (hy:T0.er=y) (hl:∀ j,Qcq l j=Qcq ((i,some y)::X5 tk) j) (h:Qcq (X5 ((i,T0)::tk)) j=some (some x)):Qcq l j=some (some x):=by
 have h':Qcq ((i,T0.erO)::X5 tk) j=some (some x):=h
 rw [hl,Q8]
 rw [Q8] at h'
 by_cases e:i=j
 ·rw [if_pos e] at h' ⊢
  rw [← hy,(TTok.erO_some (Option.some.inj h')).1]
 ·rw [if_neg e] at h' ⊢
  exact h'
def Qr (tk:List (Nat×TTok U)):List (Ev U)→List (Nat×HB)
 | []=>[]
 | .box i T xs::es=>(i,.cells T (Jm D tk xs))::Qr tk es
 | .raw i B::es=>(i,B)::Qr tk es
 | .lp i s p tm nt ps a b d::es=>(i,.loop s p (QP (TTV.er D tk) tm) nt ps a b d)::Qr tk es
 | .ls i xs::es=>match Qcq (Qr tk es) i with
  | some (.loop s p tm nt ps a b d)=>(i,.loop s p (QP (TTV.er D tk) xs++tm) nt ps a b d)::Qr tk es
  | _=>Qr tk es
 | .set i off xs::es=>match Qcq (Qr tk es) i with
  | some (.cells T ys)=>(i,.cells T (setL ys off (Jm D tk xs)))::Qr tk es
  | _=>Qr tk es
def TMe.er (m:TMe U):Mem:=⟨Qr D m.tk m.es,X5 m.tk,m.nx⟩
def TSt.er (st:TSt U):St:=⟨QP (TTV.er D st.m.tk) st.tm,Qr D st.m.tk st.m.es,X5 st.m.tk,st.m.nx,st.nt,st.df⟩
structure Codec.OK:Prop where
 fl:∀ t x,(D.fl t x).map TC.er=(U.E t).enc x
 sz:∀ t x,((U.E t).enc x).length=(U.E t).sz
 sub:∀ t x off n t' x',D.sub t x off n=some ⟨t',x'⟩→((D.fl t x).drop off).take n=D.fl t' x'∧(D.fl t' x').length=n
 bld:∀ tk t xs x,D.bld t xs=some x→CSubs (Jm D tk xs) ((U.E t).enc x)
end
end
section
open Go.RowKit
section
variable {U:Univ} (D:Codec U)
def It.size:It U→Nat
 | .one _=>1
 | .grp t _=>(U.E t).sz
def QW:List (It U)→Nat
 | []=>0
 | x::xs=>x.size+QW xs
def Q3z (xs:List (TA U)):List (It U):=xs.map .one
def Zk:List (It U)→Nat→List (It U)×List (It U)
 | [],_=>([],[])
 | x::xs,n=>cond (Nat.beq n 0) ([],x::xs) (cond (Nat.ble x.size n) (x::(Zk xs (n - x.size)).1,(Zk xs (n - x.size)).2) (Q3z ((x.cells D).take n),Q3z ((x.cells D).drop n)++xs))
def grpSub (x:It U) (off n:Nat):List (It U):=match x with
 | .grp t v=>match D.sub t v off n with
  | some ⟨t',v'⟩=>[.grp t' v']
  | none=>Q3z ((((It.grp t v).cells D).drop off).take n)
 | .one v=>Q3z ((((It.one v).cells D).drop off).take n)
def Q11:List (It U)→Nat→Nat→List (It U)
 | [],_,_=>[]
 | x::xs,off,n=>cond (Nat.ble x.size off) (Q11 xs (off - x.size) n) (cond (Nat.ble (off+n) x.size&&!(Nat.beq off 0&&Nat.beq n x.size)) (grpSub D x off n) (cond (Nat.beq off 0) (Zk D (x::xs) n).1 (Zk D (Q3z ((x.cells D).drop off)++xs) n).1))
def Q82 (xs:List (It U)) (off:Nat) (ys:List (It U)):List (It U):=(Zk D xs off).1++ys++(Zk D xs (off+QW ys)).2
variable {D}
theorem Kh (xs:List (TA U)):Yc D (Q3z xs)=xs:=by
 induction xs with
 | nil=>rfl
 | cons x xs ih =>
  show Yc D (.one x::Q3z xs)=_
  unfold Yc at ih ⊢
  rw [List.flatMap_cons,ih];rfl
theorem Yb (x:It U) (xs:List (It U)):Yc D (x::xs)=x.cells D++Yc D xs:=List.flatMap_cons
theorem U4 (xs ys:List (It U)):Yc D (xs++ys)=Yc D xs++Yc D ys:=List.flatMap_append
variable (hD:D.OK)
include hD
theorem UK (x:It U):(x.cells D).length=x.size:=by
 cases x with
 | one x=>rfl
 | grp t x =>
  show ((D.fl t x).map TA.c).length=_
  rw [List.length_map]
  have h:=congrArg List.length (hD.fl t x)
  rw [List.length_map,hD.sz] at h
  exact h
theorem Zw:∀ xs:List (It U),(Yc D xs).length=QW xs
 | []=>rfl
 | x::xs=>by rw [Yb,List.length_append,UK hD,Zw xs];rfl
theorem ZH:∀ (xs:List (It U)) (n:Nat),Yc D (Zk D xs n).1=(Yc D xs).take n∧Yc D (Zk D xs n).2=(Yc D xs).drop n
 | [],n=>by constructor <;> (show ([]:List (TA U))=_;show []=_;simp [Yc])
 | x::xs,n=>by
  have hl:=UK hD x
  unfold Zk
  cases h0:Nat.beq n 0 with
  | true =>
   have:=Nat.eq_of_beq_eq_true h0
   subst this
   exact ⟨by simp [Yc],by simp⟩
  | false =>
   rw [cond_false]
   cases h1:Nat.ble x.size n with
   | true =>
    rw [cond_true]
    have hle:=Nat.le_of_ble_eq_true h1
    obtain ⟨i1,i2⟩:=ZH xs (n - x.size)
    dsimp only
    refine ⟨?_,?_⟩
    ·have t1:(x.cells D).take n=x.cells D:=List.take_of_length_le (by omega)
     rw [Yb,Yb,i1,List.take_append,hl,t1]
    ·have t1:(x.cells D).drop n=[]:=List.drop_of_length_le (by omega)
     rw [i2,Yb,List.drop_append,hl,t1,List.nil_append]
   | false =>
    rw [cond_false]
    have hlt:n < x.size:=by
     rcases Nat.lt_or_ge n x.size with h | h
     ·exact h
     ·rw [Nat.ble_eq_true_of_le h] at h1;cases h1
    dsimp only
    refine ⟨?_,?_⟩
    ·rw [Kh,Yb,List.take_append_of_le_length (by omega)]
    ·rw [U4,Kh,Yb,List.drop_append_of_le_length (by omega)]
theorem WV:∀ (xs:List (It U)) (off n:Nat),Yc D (Q11 D xs off n)=((Yc D xs).drop off).take n
 | [],off,n=>by simp [Q11,Yc]
 | x::xs,off,n=>by
  have hl:=UK hD x
  unfold Q11
  cases h1:Nat.ble x.size off with
  | true =>
   have hle:=Nat.le_of_ble_eq_true h1
   have t1:(x.cells D).drop off=[]:=List.drop_of_length_le (by omega)
   rw [cond_true,WV xs,Yb,List.drop_append,hl,t1,List.nil_append]
  | false =>
   have hlt:off < x.size:=by
    rcases Nat.lt_or_ge off x.size with h | h
    ·exact h
    ·rw [Nat.ble_eq_true_of_le h] at h1;cases h1
   rw [cond_false]
   cases h2:(Nat.ble (off+n) x.size&&!(Nat.beq off 0&&Nat.beq n x.size)) with
   | true =>
    rw [cond_true]
    have hle:off+n≤x.size:=Nat.le_of_ble_eq_true (Bool.and_eq_true_iff.1 h2).1
    have hc:((x.cells D).drop off).take n=((Yc D (x::xs)).drop off).take n:=by
     rw [Yb,List.drop_append_of_le_length (by omega),List.take_append_of_le_length (by rw [List.length_drop];omega)]
    rw [← hc]
    unfold grpSub
    cases x with
    | one v=>exact Kh _
    | grp t v =>
     dsimp only
     split
     ·rename_i t' v' hs
      obtain ⟨q1,q2⟩:=hD.sub t v off n t' v' hs
      show Yc D [It.grp t' v']=(((D.fl t v).map TA.c).drop off).take n
      rw [← List.map_drop,← List.map_take,q1]
      show (D.fl t' v').map TA.c++[]=_
      rw [List.append_nil]
     ·exact Kh _
   | false =>
    rw [cond_false]
    cases h3:Nat.beq off 0 with
    | true =>
     rw [cond_true,(ZH hD _ n).1,Nat.eq_of_beq_eq_true h3,List.drop_zero]
    | false =>
     rw [cond_false,(ZH hD _ n).1,U4,Kh,Yb,List.drop_append_of_le_length (by omega)]
theorem put_flat (xs:List (It U)) (off:Nat) (ys:List (It U)):Yc D (Q82 D xs off ys)=(Yc D xs).take off++Yc D ys++(Yc D xs).drop (off+QW ys):=by
 unfold Q82
 rw [U4,U4,(ZH hD xs off).1,(ZH hD xs _).2]
omit hD
theorem Q1u:∀ (ys xs:List CA) (off:Nat),off+ys.length≤xs.length→setL xs off ys=xs.take off++ys++xs.drop (off+ys.length)
 | [],xs,off,_=>by simp [setL]
 | y::ys,xs,off,h=>by
  rw [List.length_cons] at h
  show setL (xs.set off y) (off+1) ys=_
  rw [Q1u ys _ _ (by rw [List.length_set];omega),List.length_cons]
  have hoff:off < xs.length:=by omega
  rw [List.take_succ_eq_append_getElem (by rw [List.length_set];omega),List.getElem_set_self,List.take_set_of_le (Nat.le_refl _),List.drop_set_of_lt (by omega),show off+1+ys.length=off+(ys.length+1) by omega]
  simp
include hD
theorem Q52 (tk:List (Nat×TTok U)) (xs:List (It U)) (off:Nat) (ys:List (It U)) (h:off+QW ys≤QW xs):Jm D tk (Q82 D xs off ys)=setL (Jm D tk xs) off (Jm D tk ys):=by
 have h1:=Zw hD xs
 have h2:=Zw hD ys
 unfold Jm
 rw [put_flat hD,Q1u _ _ _ (by rw [List.length_map,List.length_map];omega),List.map_append,List.map_append,List.map_take,List.map_drop,List.length_map,h2]
omit hD
variable (D) in
def Wc:List (Ev U)→Nat→Nat→Nat→Option (List (It U))
 | [],_,_,_=>none
 | .box j T xs::es,i,off,n=>cond (Nat.beq j i) (cond (Nat.ble (off+n) (QW xs)) (some (Q11 D xs off n)) none) (Wc es i off n)
 | .raw j B::es,i,off,n=>cond (Nat.beq j i) none (Wc es i off n)
 | .lp j _ _ _ _ _ _ _ _::es,i,off,n=>cond (Nat.beq j i) none (Wc es i off n)
 | .ls j _::es,i,off,n=>cond (Nat.beq j i) none (Wc es i off n)
 | .set j o xs::es,i,off,n=>match Wc es i off n with
  | none=>none
  | some ys=>cond (Nat.beq j i) (cond (Nat.ble (off+n) o||Nat.ble (o+QW xs) off) (some ys)
    (cond (Nat.ble o off&&Nat.ble (off+n) (o+QW xs)) (some (Q11 D xs (off - o) n))
     (cond (Nat.ble off o&&Nat.ble (o+QW xs) (off+n)) (some (Q82 D ys (o - off) xs)) none))) (some ys)
variable (D) in
def Zd:List (Ev U)→Nat→Option (TypeId×Nat)
 | [],_=>none
 | .box j T xs::es,i=>cond (Nat.beq j i) (some (T,QW xs)) (Zd es i)
 | .raw j B::es,i=>cond (Nat.beq j i) none (Zd es i)
 | .lp j _ _ _ _ _ _ _ _::es,i=>cond (Nat.beq j i) none (Zd es i)
 | .ls j _::es,i=>cond (Nat.beq j i) none (Zd es i)
 | .set _ _ _::es,i=>Zd es i
theorem K5 {a b:Nat} (h:Nat.beq a b=false):a ≠ b:=fun e=>by subst e;simp at h
include hD
theorem Yo {tk:List (Nat×TTok U)}:∀ {es:List (Ev U)} {i n T:Nat},Zd es i=some (T,n)→∃ ys,Qcq (Qr D tk es) i=some (.cells T ys)∧ys.length=n
 | .box j T xs::es,i,n,T',h=>by
  unfold Zd at h
  unfold Qr
  rw [Q8]
  cases hb:Nat.beq j i with
  | true =>
   rw [hb] at h;cases h
   rw [if_pos (Nat.eq_of_beq_eq_true hb)]
   exact ⟨_,rfl,by unfold Jm;rw [List.length_map,Zw hD]⟩
  | false=>rw [hb] at h;rw [if_neg (K5 hb)];exact Yo h
 | .raw j B::es,i,n,T',h=>by
  unfold Zd at h
  unfold Qr
  rw [Q8]
  cases hb:Nat.beq j i with
  | true=>rw [hb] at h;cases h
  | false=>rw [hb] at h;rw [if_neg (K5 hb)];exact Yo h
 | .lp j _ _ _ _ _ _ _ _::es,i,n,T',h=>by
  unfold Zd at h
  unfold Qr
  rw [Q8]
  cases hb:Nat.beq j i with
  | true=>rw [hb] at h;cases h
  | false=>rw [hb] at h;rw [if_neg (K5 hb)];exact Yo h
 | .ls j xs::es,i,n,T',h=>by
  unfold Zd at h
  unfold Qr
  cases hb:Nat.beq j i with
  | true=>rw [hb] at h;cases h
  | false =>
   rw [hb] at h
   split
   ·rw [Q8,if_neg (K5 hb)];exact Yo h
   ·exact Yo h
 | .set j o xs::es,i,n,T',h=>by
  obtain ⟨ys,h1,h2⟩:=Yo (tk:=tk) (show Zd es i=some (T',n) from h)
  unfold Qr
  split
  ·rename_i T zs hz
   rw [Q8]
   by_cases e:j=i
   ·subst e;rw [hz] at h1;cases h1
    rw [if_pos rfl]
    exact ⟨_,rfl,by rw [Jq];exact h2⟩
   ·rw [if_neg e];exact ⟨ys,h1,h2⟩
  ·exact ⟨ys,h1,h2⟩
theorem Yr {tk:List (Nat×TTok U)}:∀ {es:List (Ev U)} {i off n:Nat} {xs:List (It U)},Wc D es i off n=some xs→∃ T ys,Qcq (Qr D tk es) i=some (.cells T ys)∧off+n≤ys.length∧(ys.drop off).take n=Jm D tk xs
 | .box j T xs::es,i,off,n,zs,h=>by
  unfold Wc at h
  unfold Qr
  rw [Q8]
  cases hb:Nat.beq j i with
  | true =>
   rw [hb,cond_true] at h
   rw [if_pos (Nat.eq_of_beq_eq_true hb)]
   cases hl:Nat.ble (off+n) (QW xs) with
   | false=>rw [hl] at h;cases h
   | true =>
    rw [hl] at h;cases h
    refine ⟨T,_,rfl,by unfold Jm;rw [List.length_map,Zw hD];exact Nat.le_of_ble_eq_true hl,?_⟩
    unfold Jm
    rw [WV hD,List.map_take,List.map_drop]
  | false=>rw [hb] at h;rw [if_neg (K5 hb)];exact Yr h
 | .raw j B::es,i,off,n,zs,h=>by
  unfold Wc at h
  unfold Qr
  rw [Q8]
  cases hb:Nat.beq j i with
  | true=>rw [hb] at h;cases h
  | false=>rw [hb] at h;rw [if_neg (K5 hb)];exact Yr h
 | .lp j _ _ _ _ _ _ _ _::es,i,off,n,zs,h=>by
  unfold Wc at h
  unfold Qr
  rw [Q8]
  cases hb:Nat.beq j i with
  | true=>rw [hb] at h;cases h
  | false=>rw [hb] at h;rw [if_neg (K5 hb)];exact Yr h
 | .ls j xs::es,i,off,n,zs,h=>by
  unfold Wc at h
  unfold Qr
  cases hb:Nat.beq j i with
  | true=>rw [hb] at h;cases h
  | false =>
   rw [hb] at h
   split
   ·rw [Q8,if_neg (K5 hb)];exact Yr h
   ·exact Yr h
 | .set j o xs::es,i,off,n,zs,h=>by
  unfold Wc at h
  split at h
  ·cases h
  ·rename_i ys hys
   obtain ⟨T,vs,h1,h2,h3⟩:=Yr (tk:=tk) hys
   have hx:(Jm D tk xs).length=QW xs:=by unfold Jm;rw [List.length_map,Zw hD]
   unfold Qr
   cases hb:Nat.beq j i with
   | false =>
    rw [hb] at h;cases h
    have hne:=K5 hb
    split
    ·rw [Q8,if_neg hne];exact ⟨T,vs,h1,h2,h3⟩
    ·exact ⟨T,vs,h1,h2,h3⟩
   | true =>
    have e:=Nat.eq_of_beq_eq_true hb
    subst e
    rw [hb,cond_true] at h
    rw [h1]
    dsimp only
    rw [Q8,if_pos rfl]
    refine ⟨T,_,rfl,by rw [Jq];exact h2,?_⟩
    have hin:∀ (k:Nat) (ys:List CA) (zs:List CA) (q:Nat),(setL zs q ys)[k]?=if q≤k∧k < q+ys.length∧k < zs.length then ys[k - q]? else zs[k]?:=by
     intro k ys
     induction ys with
     | nil =>
      intro zs q
      show zs[k]?=_
      rw [if_neg (by rw [List.length_nil];omega)]
     | cons y ys ih =>
      intro zs q
      show (setL (zs.set q y) (q+1) ys)[k]?=_
      rw [ih,List.length_set,List.length_cons,List.getElem?_set]
      by_cases c1:q+1≤k∧k < q+1+ys.length∧k < zs.length
      ·rw [if_pos c1,if_pos (by omega),show k - q=(k - (q+1))+1 by omega];rfl
      ·rw [if_neg c1]
       by_cases c2:q=k
       ·subst c2
        rw [if_pos rfl]
        by_cases c3:q < zs.length
        ·rw [if_pos c3,if_pos (by omega),Nat.sub_self];rfl
        ·rw [if_neg c3,if_neg (by omega),List.getElem?_eq_none (by omega)]
       ·rw [if_neg c2,if_neg (by omega)]
    have ext:∀ {us bs:List CA},us.length=bs.length→(∀ k,k < us.length→us[k]?=bs[k]?)→us=bs:=fun {us bs} hl hk=>List.ext_getElem? fun k=>by
     by_cases c:k < us.length
     ·exact hk k c
     ·rw [List.getElem?_eq_none (by omega),List.getElem?_eq_none (by omega)]
    have hzl:(List.take n (List.drop off vs)).length=n:=by rw [List.length_take,List.length_drop];omega
    have hkey:∀ k,k < n→((setL vs o (Jm D tk xs)).drop off |>.take n)[k]?=if o≤off+k∧off+k < o+QW xs then (Jm D tk xs)[off+k - o]? else (Jm D tk ys)[k]?:=by
     intro k hk
     rw [List.getElem?_take,if_pos hk,List.getElem?_drop,hin,hx]
     by_cases c:o≤off+k∧off+k < o+QW xs
     ·rw [if_pos c,if_pos (by omega)]
     ·rw [if_neg c,if_neg (by omega),← h3,List.getElem?_take,if_pos hk,List.getElem?_drop]
    have hlen:((setL vs o (Jm D tk xs)).drop off |>.take n).length=n:=by rw [List.length_take,List.length_drop,Jq];omega
    have hyl:QW ys=n:=by
     have:=congrArg List.length h3
     rw [hzl] at this
     unfold Jm at this
     rw [List.length_map,Zw hD] at this
     exact this.symm
    cases c1:(Nat.ble (off+n) o||Nat.ble (o+QW xs) off) with
    | true =>
     rw [c1] at h;cases h
     rw [← h3]
     refine ext (by rw [hlen,hzl]) (fun k hk=>?_)
     rw [hlen] at hk
     rw [hkey k hk,h3,if_neg]
     rcases Bool.or_eq_true_iff.1 c1 with c | c <;> have:=Nat.le_of_ble_eq_true c <;> omega
    | false =>
     rw [c1,cond_false] at h
     cases c2:(Nat.ble o off&&Nat.ble (off+n) (o+QW xs)) with
     | true =>
      rw [c2] at h;cases h
      obtain ⟨a1,a2⟩:=Bool.and_eq_true_iff.1 c2
      have b1:=Nat.le_of_ble_eq_true a1
      have b2:=Nat.le_of_ble_eq_true a2
      have hel:(Jm D tk (Q11 D xs (off - o) n))=((Jm D tk xs).drop (off - o)).take n:=by unfold Jm;rw [WV hD,List.map_take,List.map_drop]
      rw [hel]
      refine ext (by rw [hlen,List.length_take,List.length_drop,hx];omega) (fun k hk=>?_)
      rw [hlen] at hk
      rw [hkey k hk,if_pos (by omega),List.getElem?_take,if_pos hk,List.getElem?_drop,show off - o+k=off+k - o by omega]
     | false =>
      rw [c2,cond_false] at h
      cases c3:(Nat.ble off o&&Nat.ble (o+QW xs) (off+n)) with
      | false=>rw [c3] at h;cases h
      | true =>
       rw [c3] at h;cases h
       obtain ⟨a1,a2⟩:=Bool.and_eq_true_iff.1 c3
       have b1:=Nat.le_of_ble_eq_true a1
       have b2:=Nat.le_of_ble_eq_true a2
       rw [Q52 hD tk ys (o - off) xs (by omega)]
       have hyl':(Jm D tk ys).length=n:=by unfold Jm;rw [List.length_map,Zw hD,hyl]
       refine ext (by rw [hlen,Jq,hyl']) (fun k hk=>?_)
       rw [hlen] at hk
       rw [hkey k hk,hin,hx,hyl']
       by_cases c:o≤off+k∧off+k < o+QW xs
       ·rw [if_pos c,if_pos (by omega),show k - (o - off)=off+k - o by omega]
       ·rw [if_neg c,if_neg (by omega)]
end
end
section
open Go.RowKit
section
variable {E:Env} {st:St} {d:Option Nat} {ty:TypeId} {pos:String} {af:Array Edge} {g:Option (Nat×Bool)}
def Qd4 (s:Qdk):List (List C):=s.map fun b=>[C.v (.int .u8 b.toNat)]
theorem Q3a (s:Qdk):(Qd4 s).length=s.length:=List.length_map ..
theorem strCells_sB (s:Qdk):Lib.strCells (Qci s)=s.map fun b=>Value.int .u8 b.toNat:=rfl
theorem UC {P:Program} {u:TypeId} (h:JN P u=true):P.underlying u=some .string:=by
 unfold JN at h
 split at h
 ·rename_i h1;exact h1
 ·cases h
theorem append_runS {V:Vu} {hp:List (Nat×HB)} {tk:List (Nat×Option Tok)} {w:World} (h:HRel E V hp tk w) {t u ty e by_ i:Nat} {v:Value} {es:List (List C)} {s:Qdk} (ht:Je E.P t=some (e,1)) (hu:JN E.P u=true) (hte:Kl E.P e=some (1,by_))
  (hi:(Qcq tk i=some (some ⟨e,1,es.length,[]⟩)∧v=V.κ i es.length)∨(i=V.nx∧es=[]∧v=.slice none 0 0)) (hv:Reads V.S w (.sl 1 es) v) (hm:es.length+s.length≤1000000000) (hb:by_≤100000) (h2:s ≠ []) :
  ∃ v' w' gb m V',(Builtin.append_ #[t,u] ty #[v,.string (Qci s)]).run E.P w=.ok v' w'∧V'=V.tok i (es++Qd4 s).length v' gb m∧HRel E V' hp ((i,some ⟨e,1,(es++Qd4 s).length,[]⟩)::tk) w'∧V.Le V' w w'∧Reads V'.S w' (.sl 1 (es++Qd4 s)) v':=by
 obtain ⟨hut,i1,hi1,hs1⟩:=Jv ht
 obtain ⟨i0,z,hi0,hz,hzs,hpos,hsz,hby⟩:=tyElem_spec hte
 have:i1=i0:=Option.some.inj (hi1.symm.trans hi0)
 subst this
 have huu:=UC hu
 have hlen:(Qd4 s).length=s.length:=Q3a s
 have hne:Qd4 s ≠ []:=fun e=>h2 (List.eq_nil_of_length_eq_zero (by rw [← hlen,e];rfl))
 have hs0:0 < s.length:=List.length_pos_iff.2 h2
 have hbytes:∀ n,n≤1000000000→n * i1.bytes≤140737488355328:=fun n hn=>by
  rw [hby]
  calc n * by_≤1000000000 * 100000:=Nat.mul_le_mul hn hb
   _≤_:=by omega
 have hss:(Qci s).size=s.length:=YX s
 refine append_runG (i1:=i1) (us2:=Lib.strCells (Qci s)) h hzs hsz hi hv ?_ ?_ ?_ (by rw [hlen];exact hm) hne ?_ ?_ ?_
 ·intro e he
  obtain ⟨b,_,rfl⟩:=List.mem_map.1 he
  rfl
 ·rw [Lib.strCells_length,hss,hlen,Nat.mul_one]
 ·intro k c hk
  have e1:(Qd4 s).flatten=s.map fun b=>C.v (.int .u8 b.toNat):=by
   unfold Qd4
   clear hm hlen hne hs0 hss h2 hk
   induction s with
   | nil=>rfl
   | cons b s ih =>
    show [C.v (.int .u8 b.toNat)]++(s.map fun b=>[C.v (.int .u8 b.toNat)]).flatten=_
    rw [ih];rfl
  rw [e1,List.getElem?_map] at hk
  rw [strCells_sB,List.getElem?_map]
  cases hq:s[k]? with
  | none=>rw [hq] at hk;cases hk
  | some b=>rw [hq] at hk;cases hk;exact ⟨_,rfl,Reads.v _ rfl⟩
 ·rw [hlen]
  have hr:=run_append_nil_string (P:=E.P) w t u ty e i1 z hut huu hi1 hz (Qci s) (by rw [hss];exact hs0) (by rw [hss];omega) (by rw [hss];have:=hbytes s.length (by omega);omega)
  rw [hss] at hr
  have e1:((Qci s).data.map fun b=>Value.int .u8 b.toNat)=(Lib.strCells (Qci s)).toArray:=by
   apply Array.ext'
   simp [Lib.strCells]
  rw [e1] at hr
  exact hr
 ·intro gg n cap cur hg h1c hroom hfit
  rw [hlen] at hroom ⊢
  rw [Lib.strCells_length,hss,Nat.mul_one] at hfit
  have hr:=Lib.run_append_room_string (P:=E.P) w t u ty e i1 hut huu hi1 hsz gg n cap cur hg (Qci s) (by rw [hss];exact hroom) (by rw [hss];exact hfit)
  rw [hss] at hr
  rw [Lib.strCells_length,hss,Nat.mul_one]
  exact hr
 ·intro gg n cap olds hlo holds hcap hn
  rw [hlen] at hcap hn ⊢
  have hr:=Lib.run_append_grow_string (P:=E.P) w t u ty e i1 z hut huu hi1 hz ⟨gg,0,none⟩ n cap olds (by rw [hsz];exact hlo) holds (Qci s) (by rw [hss];exact hcap) (by rw [hss];omega) (by rw [hss];exact growslice_fits (by omega) (hbytes _ hn))
  rw [hss] at hr
  exact hr
theorem append0S {P:Program} {w:World} {t u ty e:Nat} {i:TypeInfo} (ht:P.underlying t=some (.slice e)) (hu:P.underlying u=some .string) (hi:P.info? e=some i) (hs:i.size=1) (v:Value) (a:Option Addr) (n c:Nat) (hv:v=.slice a n c) (hn:n≤c) :
  (Builtin.append_ #[t,u] ty #[v,.string (Qci [])]).run P w=.ok v w:=by
 subst hv
 have h0:(Qci []).size=0:=rfl
 have hf:=Lib.run_firstCells_string (P:=P) w 1 (Qci [])
 rw [h0] at hf
 cases a <;> simp [Builtin.append_,run_underlying ht,run_underlying hu,sizeOf,typeInfo,hi,hs,Builtin.lenOf,h0,hn,hf,storeCells,show Lib.strCells (Qci [])=[] from rfl]
theorem OpOK.appendSE {t u e by_ i:Nat} {o1 o2:Operand} {es:List (List C)} {s:Qdk} (ht:Je E.P t=some (e,1)) (hu:JN E.P u=true) (hte:Kl E.P e=some (1,by_)) (hb:Nat.ble by_ 100000=true)
  (h1:ev st.tm o1=some (.v (.one (.app i 1 es)))) (hi:Qcq st.tk i=some (some ⟨e,1,es.length,[]⟩)) (h2:ev st.tm o2=some (Qd9 s)) (hm:Nat.ble (es.length+s.length) 1000000000=true) :
  OpOK E ⟨d,.call { callee:=.builtin .append,args:=#[o1,o2],argTypes:=#[t,u]},ty,pos,af,g⟩ st (.v (.one (.app i 1 (es++Qd4 s)))) ⟨st.hp,(i,some ⟨e,1,(es++Qd4 s).length,[]⟩)::QN i st.tk,st.nx⟩:=by
 intro V a w hr ro n K Q hK
 refine ⟨fun _ _=>trivial,?_⟩
 rw [Oper.semAt_eq _ _ _ (by intro c h;cases h)]
 have r1:=hr.ev h1
 have r2:=QV (hr.ev h2)
 have hexec:∀ v' w',(Builtin.append_ #[t,u] ty #[a.eval o1,a.eval o2]).run E.P w=.ok v' w'→(execOp a.eval ⟨d,.call { callee:=.builtin .append,args:=#[o1,o2],argTypes:=#[t,u]},ty,pos,af,g⟩).run E.P w=.ok (.value v') w':=fun v' w' h=>by
  simp [execOp,resolve,invoke,builtin,h]
 by_cases h0:s=[]
 ·subst h0
  obtain ⟨hut,i1,hi1,hs1⟩:=Jv ht
  obtain ⟨-,a1,cap1,b1,off1,us1,e1,hc1,-⟩:=r1.2.2.2.row
  have:=append0S (w:=w) (ty:=ty) hut (UC hu) hi1 hs1 (a.eval o1) a1 _ cap1 e1 hc1
  rw [hexec (a.eval o1) w (by rw [r2];exact this)]
  have hl:∀ j,Qcq ((i,some (Tok.mk e 1 (es++Qd4 []).length []))::QN i st.tk) j=Qcq st.tk j:=fun j=>by
   rw [JM,Q8,show es++Qd4 []=es from List.append_nil es];split
   ·rename_i e3;subst e3;exact hi.symm
   ·rfl
  refine hK V w _ (hr.h.congr (fun _=>rfl) hl) hr.nx (Vu.Le.refl _ _) ?_
  rw [show es++Qd4 []=es from List.append_nil es];exact r1
 ·have hle:=Nat.le_of_ble_eq_true hm
  obtain ⟨v',w',gb,m,V',hrun,rfl,H,L,hrd⟩:=append_runS (ty:=ty) (s:=s) hr.h ht hu hte (.inl ⟨hi,r1.2.2.1⟩) r1.2.2.2 hle (Nat.le_of_ble_eq_true hb) h0
  rw [hexec v' w' (by rw [r2];exact hrun)]
  have hlt:i < V.nx:=r1.1
  have hnx:(V.tok i (es++Qd4 s).length v' gb m).nx=st.nx:=by show max V.nx (i+1)=st.nx;rw [← hr.nx];omega
  refine hK _ w' _ (H.congr (fun _=>rfl) (fun j=>JM i _ st.tk j)) hnx L ?_
  exact ⟨Nat.lt_of_lt_of_le hlt L.nx,by rw [tok_cu];exact Nat.le_refl _,by rw [Yq],hrd⟩
theorem OpOK.appendSNil {t u e by_:Nat} {o1 o2:Operand} {s:Qdk} (ht:Je E.P t=some (e,1)) (hu:JN E.P u=true) (hte:Kl E.P e=some (1,by_)) (hb:Nat.ble by_ 100000=true)
  (h1:ev st.tm o1=some (KV (.slice none 0 0))) (h2:ev st.tm o2=some (Qd9 s)) (hm:Nat.ble s.length 1000000000=true) :
  OpOK E ⟨d,.call { callee:=.builtin .append,args:=#[o1,o2],argTypes:=#[t,u]},ty,pos,af,g⟩ st (.v (.one (.app st.nx 1 (Qd4 s)))) ⟨st.hp,(st.nx,some ⟨e,1,(Qd4 s).length,[]⟩)::st.tk,st.nx+1⟩:=by
 intro V a w hr ro n K Q hK
 refine ⟨fun _ _=>trivial,?_⟩
 rw [Oper.semAt_eq _ _ _ (by intro c h;cases h)]
 have r1:=QV (hr.ev h1)
 have r2:=QV (hr.ev h2)
 have hexec:∀ v' w',(Builtin.append_ #[t,u] ty #[a.eval o1,a.eval o2]).run E.P w=.ok v' w'→(execOp a.eval ⟨d,.call { callee:=.builtin .append,args:=#[o1,o2],argTypes:=#[t,u]},ty,pos,af,g⟩).run E.P w=.ok (.value v') w':=fun v' w' h=>by
  simp [execOp,resolve,invoke,builtin,h]
 by_cases h0:s=[]
 ·subst h0
  obtain ⟨hut,i1,hi1,hs1⟩:=Jv ht
  have:=append0S (w:=w) (ty:=ty) hut (UC hu) hi1 hs1 (.slice none 0 0) none 0 0 rfl (Nat.le_refl _)
  rw [hexec _ w (by rw [r1,r2];exact this)]
  obtain ⟨H,L⟩:=hr.h.tokNil e 1
  refine hK _ w _ (by dsimp only;rw [← hr.nx];exact H) (by show max V.nx (V.nx+1)=st.nx+1;rw [hr.nx];omega) L ?_
  rw [← hr.nx];exact KS e 1
 ·have hle:=Nat.le_of_ble_eq_true hm
  have hnil:Reads V.S w (.sl 1 []) (.slice none 0 0):=(SlOf.nil 1).reads (V:=V) (Reads.v _ rfl)
  obtain ⟨v',w',gb,m,V',hrun,rfl,H,L,hrd⟩:=append_runS (ty:=ty) (i:=V.nx) (es:=[]) (s:=s) hr.h ht hu hte (.inr ⟨rfl,rfl,rfl⟩) hnil (by simpa using hle) (Nat.le_of_ble_eq_true hb) h0
  rw [hexec v' w' (by rw [r1,r2];exact hrun)]
  simp only [List.nil_append] at H L hrd
  refine hK _ w' _ (by rw [← hr.nx];exact H) (by show max V.nx (V.nx+1)=st.nx+1;rw [hr.nx];omega) L ?_
  rw [← hr.nx]
  exact ⟨Nat.lt_of_lt_of_le (Nat.lt_succ_self _) (Nat.le_max_right _ _),by rw [tok_cu];exact Nat.le_refl _,by rw [Yq],hrd⟩
end
end
section
open Go.RowKit
section
variable {E:Env} {st:St} {d:Option Nat} {ty:TypeId} {pos:String} {af:Array Edge} {g:Option (Nat×Bool)}
theorem part_one {P:Program} {e:TypeId} (h:Jp P e=some (false,1)) {vs:Array Value} {k:Nat} {u:Value} (hu:vs[k]?=some u) (w:World):(part e vs k).run P w=.ok u w:=by
 obtain ⟨h4,h5⟩:=ZG h w
 simp [part,h4,h5,hu]
theorem RO.fieldV {s f k:Nat} {x:Operand} {xs:List CA} {c:CA} (ht:Q7q E.P s f=some k) (hx:ev st.tm x=some (.v (.agg xs))) (hc:xs[k]?=some c):RO E ⟨d,.field s x f,ty,pos,af,g⟩ st (.v (.one c)):=by
 refine ⟨(fun _ h=>nomatch h),fun V a w hr=>?_⟩
 obtain ⟨vs,h1,h2,h3⟩:=hr.ev hx
 obtain ⟨u,h4,h5⟩:=h3 k c hc
 refine ⟨u,?_,h5⟩
 unfold Q7q at ht
 split at ht
 ·rename_i fs hu
  split at ht
  ·rename_i fd hf
   split at ht
   ·rename_i ha;cases ht
    simp [execOp,Instr.field,run_underlying hu,hf,h1,asAgg,part_one ha h4]
   ·cases ht
  ·cases ht
 ·cases ht
theorem RO.indexV {t n k:Nat} {x y:Operand} {xs:List CA} {c:CA} {m:Int} {kk:IntKind} (ht:Q7r E.P t=some n) (hx:ev st.tm x=some (.v (.agg xs))) (hy:ev st.tm y=some (KV (.int kk m))) (hm:m=(k:Int)) (hk:k < n) (hc:xs[k]?=some c):RO E ⟨d,.index t x y,ty,pos,af,g⟩ st (.v (.one c)):=by
 refine ⟨(fun _ h=>nomatch h),fun V a w hr=>?_⟩
 subst hm
 obtain ⟨vs,h1,h2,h3⟩:=hr.ev hx
 obtain ⟨u,h4,h5⟩:=h3 k c hc
 refine ⟨u,?_,h5⟩
 unfold Q7r at ht
 split at ht
 ·rename_i n' e hu
  split at ht
  ·rename_i ha;cases ht
   have h6:(k:Int) < (n:Int):=by omega
   have h7:¬ n≤k:=by omega
   obtain ⟨h8,h9⟩:=ZG ha w
   simp [execOp,Instr.index,h1,QV (hr.ev hy),asIntOf,run_underlying hu,h6,h7,h9,part_one ha h4]
  ·cases ht
 ·cases ht
theorem RO.makeI {T:TypeId} {x:Operand} {us:List Value} (ht:Q3q E.P T=true) (hx:ev st.tm x=some (.v (.agg (us.map fun u=>.d (.v u))))):RO E ⟨d,.makeInterface T x,ty,pos,af,g⟩ st (KV (.iface T (.agg us.toArray))):=by
 refine ⟨(fun _ h=>nomatch h),fun V a w hr=>⟨_,?_,Jk Z⟩⟩
 obtain ⟨vs,h1,h2,h3⟩:=hr.ev hx
 have e2:vs=us.toArray:=by
  apply Array.ext'
  rw [List.length_map] at h2
  apply List.ext_getElem?
  intro k
  by_cases hk:k < us.length
  ·obtain ⟨u,h4,h5⟩:=h3 k (.d (.v us[k])) (by rw [List.getElem?_map,List.getElem?_eq_getElem hk];rfl)
   have e1:u=us[k]:=by cases h5;rfl
   rw [Array.getElem?_toList,h4,e1,List.getElem?_eq_getElem hk]
  ·rw [List.getElem?_eq_none (by rw [Array.length_toList,h2];omega)]
   exact (List.getElem?_eq_none (by show us.length≤k;omega)).symm
 unfold Q3q at ht
 split at ht
 ·rename_i fs hu
  simp [execOp,Instr.makeInterface,run_underlying hu,h1,e2]
 ·cases ht
theorem RO.assertI {T t:TypeId} {x:Operand} {us:List Value} (ht:Q3q E.P T=true) (hx:ev st.tm x=some (KV (.iface T (.agg us.toArray)))) (ho:(us.all fun u=>u.oneCell')=true):RO E ⟨d,.typeAssert x t T true,ty,pos,af,g⟩ st (.tup [.agg (us.map fun u=>.d (.v u)),.one (.d (.v (.bool true)))]):=by
 refine ⟨(fun _ h=>nomatch h),fun V a w hr=>⟨.tuple #[.agg us.toArray,.bool true],?_,_,Z,Z,fun k y hk=>?_⟩⟩
 ·unfold Q3q at ht
  split at ht
  ·rename_i fs hu
   simp [execOp,Instr.typeAssert,run_underlying hu,QV (hr.ev hx)]
  ·cases ht
 ·match k,hk with
  | 0,hk =>
   cases hk
   refine ⟨_,rfl,_,rfl,by simp,fun j c hj=>?_⟩
   rw [List.getElem?_map] at hj
   cases hq:us[j]? with
   | none=>rw [hq] at hj;cases hj
   | some u =>
    rw [hq] at hj;cases hj
    exact ⟨u,by simpa using hq,Reads.v _ (List.all_eq_true.1 ho u (List.mem_of_getElem? hq))⟩
  | 1,hk=>cases hk;exact ⟨_,rfl,Reads.v _ rfl⟩
theorem tyIfc_spec {P:Program} {t:TypeId} (h:Q19 P t=true):∃ m,P.underlying t=some (.interface m):=by
 unfold Q19 at h
 split at h
 ·rename_i m h1;exact ⟨m,h1⟩
 ·cases h
def WE:Value→Option Bool
 | .nilIface=>some true
 | .iface _ _=>some false
 | _=>none
theorem ifc_run {P:Program} {t:TypeId} (h:Q19 P t=true) {v:Value} {b:Bool} (hv:WE v=some b) (w:World):(Op.equal t v .nilIface).run P w=.ok b w:=by
 obtain ⟨m,hm⟩:=tyIfc_spec h
 unfold WE at hv
 unfold Op.equal
 rw [show Op.maxDepth=(Op.maxDepth - 1)+1 from rfl]
 unfold Op.equalIn
 split at hv <;> cases hv <;> simp [run_underlying hm]
theorem RO.eqI {t t':TypeId} {x:Operand} {v:Value} {b:Bool} (ht:Q19 E.P t=true) (hx:ev st.tm x=some (KV v)) (hv:WE v=some b):RO E ⟨d,.binOp .eql t x (.const .nilIface) t',ty,pos,af,g⟩ st (Qdb b):=by
 refine ⟨(fun _ h=>nomatch h),fun V a w hr=>⟨.bool b,?_,Jk Z⟩⟩
 have e:=ifc_run ht hv w
 have e0:a.eval (.const .nilIface)=.nilIface:=rfl
 simp only [execOp,QV (hr.ev hx),e0,eqGuard,binOp,Sem.run_bind]
 unfold WE at hv
 split at hv <;> cases hv <;> simp [e]
theorem RO.neI {t t':TypeId} {x:Operand} {v:Value} {b:Bool} (ht:Q19 E.P t=true) (hx:ev st.tm x=some (KV v)) (hv:WE v=some b):RO E ⟨d,.binOp .neq t x (.const .nilIface) t',ty,pos,af,g⟩ st (Qdb (!b)):=by
 refine ⟨(fun _ h=>nomatch h),fun V a w hr=>⟨.bool (!b),?_,Jk Z⟩⟩
 have e:=ifc_run ht hv w
 have e0:a.eval (.const .nilIface)=.nilIface:=rfl
 simp only [execOp,QV (hr.ev hx),e0,eqGuard,binOp,Sem.run_bind]
 unfold WE at hv
 split at hv <;> cases hv <;> simp [e]
end
end
section
open Go.RowKit
structure BytOf (U:Univ) where
 t:U.T
 bs:Qdk→List (U.R t)
 sz:(U.E t).sz=1
 ok:∀ (l:List (U.R t)) s,(U.E t).encL (l++bs s)=(U.E t).encL l++Qd4 s
 sb:List (U.R t)→Qdk
 back:∀ l,∃ l':List Byt,(U.E t).encL l=Enc.encL l'∧sb l=l'.map Byt.u8
structure TCfg (U:Univ) where
 T:Tables
 cd:List (Nat×U.T)
 bt:Option (BytOf U)
section
variable {U:Univ}
instance (t:U.T):Enc (U.R t):=U.E t
def Wm:Value→TC U
 | .string s=>.str s.data.toList
 | v=>.v v
theorem WS (v:Value):(Wm (U:=U) v).er=.v v:=by
 cases v <;> first | rfl | (rename_i s;show C.v (.string (Qci s.data.toList))=_;rw [sB_of])
def YG (tm:List (Nat×TTV U)):Operand→Option (TTV U)
 | .tmp t=>Qcq tm t
 | .const v=>cond v.oneCell' (some (.v (.one (.c (Wm v))))) (match v with
  | .agg us=>cond (us.toList.all fun u=>u.oneCell') (some (.v (.agg (us.toList.map fun u=>.one (.c (Wm u)))))) none
  | _=>none)
 | .func f=>some (.v (.one (.fn f [])))
 | .global _=>none
variable {D:Codec U}
theorem W1 {α:Type} (f:α→TA U) (l:List α):Yc D (l.map fun u=>It.one (f u))=l.map f:=by
 have:=Kh (D:=D) (l.map f)
 unfold Q3z at this
 rw [List.map_map] at this
 exact this
theorem evT_ok {tk:List (Nat×TTok U)} {tm:List (Nat×TTV U)} {o:Operand} {x:TTV U} (h:YG tm o=some x):ev (QP (TTV.er D tk) tm) o=some (x.er D tk):=by
 cases o with
 | tmp t =>
  show Qcq (QP (TTV.er D tk) tm) t=_
  have h':Qcq tm t=some x:=h
  rw [QR,h'];rfl
 | const v =>
  simp only [YG] at h
  simp only [ev]
  cases hv:v.oneCell' with
  | true =>
   rw [hv,cond_true] at h;cases h
   show some (TV.v (.one (.d (.v v))))=some (TV.v (.one (.d (Wm (U:=U) v).er)))
   rw [WS]
  | false =>
   rw [hv,cond_false] at h
   rw [cond_false]
   split at h
   ·rename_i us
    cases ha:us.toList.all fun u=>u.oneCell' with
    | false=>rw [ha] at h;cases h
    | true =>
     rw [ha] at h;cases h
     dsimp only
     rw [ha,cond_true]
     show some (TV.v (.agg (us.toList.map fun u=>.d (.v u))))=some (TV.v (.agg ((Yc D _).map (TA.er tk))))
     rw [W1,List.map_map]
     congr 3
     refine List.map_congr_left fun u _=>?_
     show CA.d (.v u)=CA.d (Wm (U:=U) u).er
     rw [WS]
   ·cases h
 | func f=>cases h;rfl
 | global g=>cases h
variable (U) in
inductive RdR where
 | val (x:TTV U)
 | grd (g:Bool) (x:TTV U)
 | ix {α:Type} (o:Option α) (f:α→TTV U)
def RdR.run {β:Type} (k:TTV U→Option β):RdR U→Option β
 | .val x=>k x
 | .grd g x=>Qc g (k x)
 | .ix o f=>Option.bind o fun a=>k (f a)
variable (D) in
def RdOK (E:Env) (o:Oper) (st:TSt U):RdR U→Prop
 | .val x=>RO E o (st.er D) (x.er D st.m.tk)
 | .grd g x=>g=true→RO E o (st.er D) (x.er D st.m.tk)
 | .ix oo f=>∀ a,oo=some a→RO E o (st.er D) ((f a).er D st.m.tk)
def KO (a b:U.T) (l:List (U.R a)):Option (List (U.R b)):=match U.eq a b with
 | some ⟨h⟩=>some (h▸l)
 | none=>none
def KB (tk:List (Nat×TTok U)) (t:U.T):TTV U→Option (List (U.R t))
 | .v (.one (.c (.sl t' l)))=>KO t' t l
 | .v (.one (.c (.v (.slice none 0 0))))=>some []
 | .v (.one (.app i ver))=>match cur tk i ver with
  | some T=>KO T.t t T.l
  | none=>none
 | _=>none
theorem YS {a b:U.T} {l:List (U.R a)} {l':List (U.R b)} (h:KO a b l=some l'):∃ e:a=b,l'=e▸l:=by
 unfold KO at h
 split at h
 ·rename_i e _;cases h;exact ⟨e,rfl⟩
 ·cases h
theorem GT {tk:List (Nat×TTok U)} {t:U.T} {x:TTV U} {l:List (U.R t)} (h:KB tk t x=some l):∃ y,x.er D tk=.v (.one y)∧SlE y l:=by
 unfold KB at h
 split at h
 ·obtain ⟨e,rfl⟩:=YS h
  subst e
  exact ⟨_,Z,.d _⟩
 ·cases h;exact ⟨_,rfl,.nil⟩
 ·rename_i i ver
  split at h
  ·rename_i T hT
   obtain ⟨e,rfl⟩:=YS h
   subst e
   refine ⟨_,Z,?_⟩
   show SlE (match cur tk i ver with
    | some T=>CA.app i (U.E T.t).sz ((U.E T.t).encL T.l)
    | none=>.any) _
   rw [hT]
   exact .app i T.l
  ·cases h
 ·cases h
variable (C:TCfg U)
def Q74 (t:TypeId):Option (TypeId×U.T):=match Qcq C.T.sl t with
 | some (e,sz)=>match Qcq C.cd e with
  | some tc=>cond (Nat.beq sz (U.E tc).sz) (some (e,tc)) none
  | none=>none
 | none=>none
theorem Wo {C:TCfg U} {P:Program} (hT:C.T.OK P) {t e:TypeId} {tc:U.T} (h:Q74 C t=some (e,tc)):Je P t=some (e,Enc.sz (U.R tc)):=by
 unfold Q74 at h
 split at h
 ·rename_i e' sz hs
  split at h
  ·rename_i tc' hc
   cases hb:Nat.beq sz (U.E tc').sz with
   | false=>rw [hb] at h;cases h
   | true =>
    rw [hb] at h;cases h
    have:=hT.sl.get hs
    rw [Nat.eq_of_beq_eq_true hb] at this
    exact this
  ·cases h
 ·cases h
variable (D)
def Q97:Option (TTV U)→Option (IntKind×Int)
 | some (.v (.one (.c (.v (.int k a)))))=>some (k,a)
 | _=>none
def Wn:Option (TTV U)→Option Int
 | some (.v (.one (.c (.v (.int .i64 a)))))=>some a
 | _=>none
def Qcf (b:Bool):TTV U:=.v (.one (.c (.v (.bool b))))
def Qce (k:IntKind) (a:Int):TTV U:=.v (.one (.c (.v (.int k a))))
def Qcd (s:Qdk):TTV U:=.v (.one (.c (.str s)))
def Q6m (xs:List (It U)):Option (Int×Int):=match Yc D xs with
 | [.c (.v (.int .i64 a)),.c (.v (.int .i64 b))]=>some (a,b)
 | _=>none
def Qae (st:TSt U) (op:BinOp) (t:TypeId) (x y:Operand):Option (RdR U) :=
 match YG st.tm x,YG st.tm y with
 | some (.v (.one (.c (.v (.int k a))))),some (.v (.one (.c (.v (.int k' b)))))=>match op with
  | .rem=>cond (decide (k=k')) (some (.grd (!(b==0)) (Qce k (a.tmod b)))) none
  | op=>match Q04 op k a k' b with
   | some v=>some (.val (.v (.one (.c (.v v)))))
   | none=>none
 | some (.v (.one (.c (.str a)))),some (.v (.one (.c (.str b))))=>match op with
  | .add=>some (.grd (Nat.ble (a.length+b.length) 1000000000) (Qcd (a++b)))
  | .eql=>some (.val (Qcf (a==b)))
  | .neq=>some (.val (Qcf (!(a==b))))
  | _=>none
 | some (.v (.one (.c (.v (.bool a))))),some (.v (.one (.c (.v (.bool b)))))=>match Qcq C.T.bools t,op with
  | some _,.eql=>some (.val (Qcf (a==b)))
  | some _,.neq=>some (.val (Qcf (!(a==b))))
  | _,_=>none
 | some (.v (.one (.c (.v v)))),some (.v (.one (.c (.v .nilIface))))=>match y,Qcq C.T.ifc t,WE v,op with
  | .const .nilIface,some _,some b,.eql=>some (.val (Qcf b))
  | .const .nilIface,some _,some b,.neq=>some (.val (Qcf (!b)))
  | _,_,_,_=>none
 | some (.v (.agg xs)),some (.v (.agg ys))=>match Qcq C.T.pairs t,Q6m D xs,Q6m D ys,op with
  | some _,some a,some b,.eql=>some (.val (Qcf ((a.1==b.1)&&(a.2==b.2))))
  | some _,some a,some b,.neq=>some (.val (Qcf (!((a.1==b.1)&&(a.2==b.2)))))
  | _,_,_,_=>none
 | _,_=>none
def Qbw (st:TSt U) (op:UnOp) (x:Operand):Option (RdR U) :=
 match op,YG st.tm x with
 | .not,some (.v (.one (.c (.v (.bool b)))))=>some (.val (Qcf (!b)))
 | .neg,some (.v (.one (.c (.v (.int k m)))))=>some (.val (Qce k (k.wrap (0 - m))))
 | _,_=>none
def Q5z (st:TSt U) (s:TypeId) (x:Operand) (f:Nat):Option (RdR U) :=
 match Qcq C.T.fld s with
 | none=>none
 | some fs=>match Qcq fs f with
  | none=>none
  | some k=>match YG st.tm x with
   | some (.v (.one (.ptr i off)))=>some (.val (.v (.one (.ptr i (off+k)))))
   | some (.v (.one (.pel t e off)))=>some (.val (.v (.one (.pel t e (off+k)))))
   | _=>none
def Ux (st:TSt U) (t:TypeId) (x:Operand):Option (RdR U) :=
 match Qcq C.T.agg t with
 | none=>none
 | some (ag,n)=>match YG st.tm x with
  | some (.v (.one (.ptr i off)))=>match ag with
   | false=>match Wc D st.m.es i off 1 with
    | some [.one y]=>some (.val (.v (.one y)))
    | some [.grp t v]=>match D.fl t v with
     | [y]=>some (.val (.v (.one (.c y))))
     | _=>none
    | _=>none
   | true=>match Wc D st.m.es i off n with
    | some xs=>some (.val (.v (.agg xs)))
    | none=>none
  | some (.v (.one (.pel tc e off)))=>match ag with
   | false=>match (D.fl tc e)[off]? with
    | some c=>some (.val (.v (.one (.c c))))
    | none=>none
   | true=>cond (Nat.ble (off+n) (U.E tc).sz) (some (.val (.v (.agg (Q11 D [.grp tc e] off n))))) none
  | _=>none
def UE (st:TSt U) (t:TypeId) (x y:Operand):Option (RdR U) :=
 match Q74 C t,YG st.tm x,Wn (YG st.tm y) with
 | some (_,tc),some xv,some m=>match KB st.m.tk tc xv with
  | some l=>some (.ix (J3 l m) fun v=>.v (.one (.pel tc v 0)))
  | none=>none
 | _,_,_=>none
def Q1t:List (TA U)→Option (List Qdk)
 | []=>some []
 | .c (.str s)::r=>match Q1t r with
  | some l=>some (s::l)
  | none=>none
 | _=>none
def UD (st:TSt U) (t:TypeId) (x y:Operand):Option (RdR U) :=
 match Qcq C.T.strs t,YG st.tm x,Q97 (YG st.tm y) with
 | some _,some (.v (.one (.c (.str s)))),some (_,m)=>some (.ix (J3 s m) fun b=>Qce .u8 b.toNat)
 | _,some (.v (.agg xs)),some (_,m)=>match Qcq C.T.ars t,Q1t (Yc D xs) with
  | some n,some l=>cond (Nat.beq l.length n) (some (.ix (J3 l m) fun s=>Qcd s)) none
  | _,_=>none
 | _,_,_=>none
def Q0a (st:TSt U) (x:Operand) (k:Nat):Option (RdR U) :=
 match YG st.tm x with
 | some (.tup xs)=>match xs[k]? with
  | some y=>some (.val (.v y))
  | none=>none
 | _=>none
def TAV.items:TAV U→List (It U)
 | .one x=>[.one x]
 | .agg xs=>xs
def DM (tm:List (Nat×TTV U)):List (Nat×Operand)→Option (List (Nat×TAV U))
  | []=>some []
  | (i,o)::os=>match YG tm o,DM tm os with
    | some (.v x),some xs=>some ((i,x)::xs)
    | _,_=>none
def Q09 (pl:List (Nat×Nat)):List (It U)→List (Nat×TAV U)→Option (List (It U))
 | xs,[]=>some xs
 | xs,(i,x)::r=>match pl[i]? with
  | none=>none
  | some (off,size)=>cond (Nat.beq (QW x.items) size&&Nat.ble (off+size) (QW xs)) (Q09 pl (Q82 D xs off x.items) r) none
def Q69 (st:TSt U) (t:TypeId) (parts:List (Nat×Operand)):Option (RdR U) :=
 match Qcq C.T.places t,Qcq C.T.zero t,DM st.tm parts with
 | some pl,some zs,some avs=>match Q09 D pl (zs.map fun z=>.one (.c (Wm z))) avs with
  | some ys=>some (.val (.v (.agg ys)))
  | none=>none
 | _,_,_=>none
def Q6k (tm:List (Nat×TTV U)):List Operand→Option (List (Nat×Nat))
 | []=>some []
 | o::os=>match YG tm o,Q6k tm os with
  | some (.v (.one (.ptr i k))),some l=>some ((i,k)::l)
  | _,_=>none
def Q8m (st:TSt U) (fn:Go.Fn) (first caps:List Operand):Option (RdR U) :=
 match fn,first,Q6k st.tm caps with
 | .func f,[],some l=>some (.val (.v (.one (.fn f l))))
 | _,_,_=>none
def Q9w (st:TSt U) (x:Operand):Option (RdR U) :=
 match YG st.tm x with
 | some (.v (.one (.ptr i off)))=>some (.val (.v (.one (.ptr i off))))
 | some (.v (.one (.pel t e off)))=>some (.val (.v (.one (.pel t e off))))
 | _=>none
def UN (st:TSt U) (s t:TypeId) (x:Operand):Option (RdR U) :=
 match C.bt,Qcq C.T.byt s,Qcq C.T.strs t,YG st.tm x with
 | some B,some _,some _,some xv=>match KB st.m.tk B.t xv with
  | some l=>some (.val (Qcd (B.sb l)))
  | none=>none
 | _,_,_,_=>none
def Q1l (st:TSt U) (s t:TypeId) (x:Operand):Option (RdR U) :=
 match Qcq C.T.ints s,Qcq C.T.ints t,Q97 (YG st.tm x) with
 | some _,some k',some (_,m)=>some (.val (Qce k' (k'.wrap m)))
 | _,_,_=>UN C st s t x
def Q5y (st:TSt U) (s:TypeId) (x:Operand) (f:Nat):Option (RdR U) :=
 match Qcq C.T.fdv s,YG st.tm x with
 | some fs,some (.v (.agg xs))=>match Qcq fs f with
  | some k=>match (Yc D xs)[k]? with
   | some y=>some (.val (.v (.one y)))
   | none=>none
  | none=>none
 | _,_=>none
def Q25:List (TA U)→Option (List Value)
 | []=>some []
 | .c (.v (.int k a))::r=>match Q25 r with
  | some l=>some (.int k a::l)
  | none=>none
 | _=>none
def Q57 (st:TSt U) (T:TypeId) (x:Operand):Option (RdR U) :=
 match Qcq C.T.stc T,YG st.tm x with
 | some _,some (.v (.agg xs))=>match Q25 (Yc D xs) with
  | some us=>some (.val (.v (.one (.c (.v (.iface T (.agg us.toArray)))))))
  | none=>none
 | _,_=>none
def Q3b (st:TSt U) (x:Operand) (t T:TypeId) (ok:Bool):Option (RdR U) :=
 match ok,Qcq C.T.stc T,YG st.tm x with
 | true,some _,some (.v (.one (.c (.v (.iface T' (.agg us))))))=>cond (Nat.beq T' T&&us.toList.all fun u=>u.oneCell') (some (.val (.tup [.agg (us.toList.map fun u=>.one (.c (Wm u))),.one (.c (.v (.bool true)))]))) none
 | _,_,_=>none
def Q7l (m:Int) (n:Nat):Bool:=cond (decide (0≤m)) (Nat.ble m.toNat n) false
def Um (st:TSt U) (t:TypeId) (x:Operand) (lo hi mx:Option Operand):Option (RdR U) :=
 match mx,YG st.tm x with
 | none,some (.v (.one (.c (.str s))))=>match Qcq C.T.strs t,lo,hi with
  | some _,some a,none=>match Wn (YG st.tm a) with
   | some m=>some (.grd (Q7l m s.length) (Qcd (s.drop m.toNat)))
   | none=>none
  | some _,none,some b=>match Wn (YG st.tm b) with
   | some m=>some (.grd (Q7l m s.length) (Qcd (s.take m.toNat)))
   | none=>none
  | some _,some a,some b=>match Wn (YG st.tm a),Wn (YG st.tm b) with
   | some m,some n=>some (.grd (cond (decide (0≤m)) (cond (Nat.ble m.toNat n.toNat) (Q7l n s.length) false) false) (Qcd ((s.take n.toNat).drop m.toNat)))
   | _,_=>none
  | _,_,_=>none
 | none,some xv=>match Q74 C t with
  | some (_,tc)=>match KB st.m.tk tc xv,lo,hi with
   | some l,some a,none=>match Wn (YG st.tm a) with
    | some m=>some (.grd (Q7l m l.length) (.v (.one (.c (.sl tc (l.drop m.toNat))))))
    | none=>none
   | some l,none,some b=>match Wn (YG st.tm b) with
    | some m=>some (.grd (Q7l m l.length) (.v (.one (.c (.sl tc (l.take m.toNat))))))
    | none=>none
   | _,_,_=>none
  | none=>none
 | _,_=>none
def Q7d (st:TSt U) (t:TypeId) (x:Operand):Option (RdR U) :=
 match YG st.tm x with
 | some (.v (.one (.c (.str s))))=>match Qcq C.T.strs t with
  | some _=>some (.val (Qce .i64 s.length))
  | none=>none
 | some xv=>match Q74 C t with
  | some (_,tc)=>match KB st.m.tk tc xv with
   | some l=>some (.val (Qce .i64 l.length))
   | none=>none
  | none=>none
 | none=>none
def Gn (st:TSt U) (b:Builtin) (xs:List Operand) (ts:List TypeId):Option (RdR U) :=
 match b,xs,ts with
 | .len,[x],[t]=>Q7d C st t x
 | .max,[x,y],[_,_]=>match Wn (YG st.tm x),Wn (YG st.tm y) with
  | some a,some b=>some (.val (Qce .i64 (max a b)))
  | _,_=>none
 | .min,[x,y],[_,_]=>match Wn (YG st.tm x),Wn (YG st.tm y) with
  | some a,some b=>some (.val (Qce .i64 (min a b)))
  | _,_=>none
 | _,_,_=>none
def Q7p (x:Option (TTV U)):Option (RdR U):=match x with
 | some x=>some (.val x)
 | none=>none
def Q94 (st:TSt U) (o:Oper):Option (RdR U):=match o.op with
 | .move x=>Q7p (YG st.tm x)
 | .assign x=>Q7p (YG st.tm x)
 | .pick c x y=>match YG st.tm c with
  | some (.v (.one (.c (.v (.bool true)))))=>Q7p (YG st.tm x)
  | some (.v (.one (.c (.v (.bool false)))))=>Q7p (YG st.tm y)
  | _=>none
 | .binOp op t x y _=>Qae D C st op t x y
 | .unOp op _ x=>Qbw st op x
 | .fieldAddr s x f=>Q5z C st s x f
 | .load t x=>Ux D C st t x
 | .indexAddr t x y=>UE C st t x y
 | .index t x y=>UD D C st t x y
 | .field s x f=>Q5y D C st s x f
 | .makeInterface T x=>Q57 D C st T x
 | .typeAssert x t T ok=>Q3b C st x t T ok
 | .extract x k=>Q0a st x k
 | .build t parts=>Q69 D C st t parts.toList
 | .makeFunc fn first caps=>Q8m st fn first.toList caps.toList
 | .nilCheck x=>Q9w st x
 | .convert s t x=>Q1l C st s t x
 | .slice t x lo hi mx=>Um C st t x lo hi mx
 | .call c=>match c.callee with
  | .builtin b=>Gn C st b c.args.toList c.argTypes.toList
  | _=>none
 | _=>none
end
section
variable {U:Univ} {D:Codec U} {C:TCfg U} {E:Env} {st:TSt U} {dd:Option Nat} {ty:TypeId} {pos:String} {af:Array Edge} {g:Option (Nat×Bool)} {r:RdR U}
theorem YB {o:Operand} {x:TTV U} (h:YG st.tm o=some x):ev (st.er D).tm o=some (x.er D st.m.tk):=evT_ok h
theorem Q1q {x:Option (TTV U)} {k:IntKind} {a:Int} (h:Q97 x=some (k,a)):x=some (Qce k a):=by
 unfold Q97 at h
 split at h
 ·cases h;rfl
 ·cases h
theorem Zj {x:Option (TTV U)} {a:Int} (h:Wn x=some a):x=some (Qce .i64 a):=by
 unfold Wn at h
 split at h
 ·cases h;rfl
 ·cases h
theorem Dm {o:Oper} {x:Option (TTV U)} (h:Q7p x=some r) (hx:∀ y,x=some y→RO E o (st.er D) (y.er D st.m.tk)):RdOK D E o st r:=by
 cases x with
 | none=>cases h
 | some x=>cases h;exact hx x rfl
theorem WZ {xs:List (It U)} {a:Int×Int} (h:Q6m D xs=some a) (tk:List (Nat×TTok U)):Jm D tk xs=[.d (.v (.int .i64 a.1)),.d (.v (.int .i64 a.2))]:=by
 unfold Q6m at h
 split at h
 ·rename_i x y hf;cases h
  unfold Jm
  rw [hf];rfl
 ·cases h
theorem binR_ok (hT:C.T.OK E.P) {op:BinOp} {t t':TypeId} {x y:Operand} (h:Qae D C st op t x y=some r):RdOK D E ⟨dd,.binOp op t x y t',ty,pos,af,g⟩ st r:=by
 unfold Qae at h
 split at h
 ·rename_i k a k' b hx hy
  have ex:=YB (D:=D) hx
  have ey:=YB (D:=D) hy
  split at h
  ·cases hk:decide (k=k') with
   | false=>rw [hk] at h;cases h
   | true =>
    rw [hk] at h;cases h
    have e:=of_decide_eq_true hk
    subst e
    exact fun hg=>RO.remI ex ey hg
  ·split at h
   ·rename_i v hv;cases h;exact Q4 ex ey hv
   ·cases h
 ·rename_i a b hx hy
  have ex:=YB (D:=D) hx
  have ey:=YB (D:=D) hy
  split at h
  ·cases h;exact fun hg=>RO.addS ex ey hg
  ·cases h;exact Q3k ex ey
  ·cases h;exact RO.neS ex ey
  ·cases h
 ·rename_i a b hx hy
  have ex:=YB (D:=D) hx
  have ey:=YB (D:=D) hy
  split at h
  ·rename_i hb;cases h;exact RO.eqBool (hT.bools.get hb) ex ey
  ·rename_i hb;cases h;exact RO.neqBool (hT.bools.get hb) ex ey
  ·cases h
 ·rename_i v hx hy
  have ex:=YB (D:=D) hx
  split at h
  ·rename_i hi hb;cases h;exact RO.eqI (hT.ifc.get hi) ex hb
  ·rename_i hi hb;cases h;exact RO.neI (hT.ifc.get hi) ex hb
  ·cases h
 ·rename_i xs ys hx hy
  have ex:=YB (D:=D) hx
  have ey:=YB (D:=D) hy
  split at h
  ·rename_i a b hp ha hb;cases h
   have e1:(TTV.v (.agg xs):TTV U).er D st.m.tk=.v (.agg [.d (.v (.int .i64 a.1)),.d (.v (.int .i64 a.2))]):=congrArg (fun l=>TV.v (.agg l)) (WZ ha st.m.tk)
   have e2:(TTV.v (.agg ys):TTV U).er D st.m.tk=.v (.agg [.d (.v (.int .i64 b.1)),.d (.v (.int .i64 b.2))]):=congrArg (fun l=>TV.v (.agg l)) (WZ hb st.m.tk)
   rw [e1] at ex
   rw [e2] at ey
   exact RO.eqPair (hT.pairs.get hp) ex ey
  ·rename_i a b hp ha hb;cases h
   have e1:(TTV.v (.agg xs):TTV U).er D st.m.tk=.v (.agg [.d (.v (.int .i64 a.1)),.d (.v (.int .i64 a.2))]):=congrArg (fun l=>TV.v (.agg l)) (WZ ha st.m.tk)
   have e2:(TTV.v (.agg ys):TTV U).er D st.m.tk=.v (.agg [.d (.v (.int .i64 b.1)),.d (.v (.int .i64 b.2))]):=congrArg (fun l=>TV.v (.agg l)) (WZ hb st.m.tk)
   rw [e1] at ex
   rw [e2] at ey
   exact RO.neqPair (hT.pairs.get hp) ex ey
  ·cases h
 ·cases h
theorem unR_ok {op:UnOp} {t:TypeId} {x:Operand} (h:Qbw st op x=some r):RdOK D E ⟨dd,.unOp op t x,ty,pos,af,g⟩ st r:=by
 unfold Qbw at h
 split at h
 ·rename_i b hx;cases h;exact Z6 (YB (D:=D) hx)
 ·rename_i k m hx;cases h;exact RO.negI (YB (D:=D) hx)
 ·cases h
theorem fieldR_ok (hT:C.T.OK E.P) {s f:Nat} {x:Operand} (h:Q5z C st s x f=some r):RdOK D E ⟨dd,.fieldAddr s x f,ty,pos,af,g⟩ st r:=by
 unfold Q5z at h
 split at h
 ·cases h
 ·rename_i fs hfs
  split at h
  ·cases h
  ·rename_i k hk
   have hf:QY E.P s f=some k:=(hT.fld.get hfs).get hk
   split at h
   ·rename_i i off hx;cases h;exact Q5 hf (YB (D:=D) hx)
   ·rename_i t e off hx;cases h;exact YC hf (YB (D:=D) hx)
   ·cases h
theorem WU {α:Type} {ys:List α} {off:Nat} {z:α} (h:(ys.drop off).take 1=[z]):ys[off]?=some z:=by
 have h1:((ys.drop off).take 1)[0]?=some z:=by rw [h];rfl
 rw [List.getElem?_take,if_pos (by omega),List.getElem?_drop] at h1
 exact h1
theorem Kw (t:U.T) (x:U.R t):Yc D [.grp t x]=(D.fl t x).map .c:=by
 show (D.fl t x).map TA.c++[]=_
 rw [List.append_nil]
theorem Q1i (hD:D.OK) (tk:List (Nat×TTok U)) (t:U.T) (x:U.R t):((D.fl t x).map TA.c).map (TA.er tk)=((U.E t).enc x).map .d:=by
 rw [← hD.fl t x,List.map_map,List.map_map];rfl
theorem loadRd_ok (hT:C.T.OK E.P) (hD:D.OK) {t:Nat} {x:Operand} (h:Ux D C st t x=some r):RdOK D E ⟨dd,.load t x,ty,pos,af,g⟩ st r:=by
 unfold Ux at h
 split at h
 ·cases h
 ·rename_i ag n hag
  have ht:=hT.agg.get hag
  split at h
  ·rename_i i off hx
   have ex:=YB (D:=D) hx
   split at h
   ·split at h
    ·rename_i y hr;cases h
     obtain ⟨T,ys,h1,h2,h3⟩:=Yr hD (tk:=st.m.tk) hr
     exact Q7 ht ex h1 (WU h3)
    ·rename_i t' v hr
     split at h
     ·rename_i y hy;cases h
      obtain ⟨T,ys,h1,h2,h3⟩:=Yr hD (tk:=st.m.tk) hr
      have e:Jm D st.m.tk [It.grp t' v]=[(TA.c y).er st.m.tk]:=by unfold Jm;rw [Kw,hy];rfl
      rw [e] at h3
      exact Q7 ht ex h1 (WU h3)
     ·cases h
    ·cases h
   ·split at h
    ·rename_i xs hr;cases h
     obtain ⟨T,ys,h1,h2,h3⟩:=Yr hD (tk:=st.m.tk) hr
     refine G6 ht ex h1 h3 ?_
     rw [← h3,List.length_take,List.length_drop];omega
    ·cases h
  ·rename_i tc e off hx
   have ex:=YB (D:=D) hx
   split at h
   ·split at h
    ·rename_i c hc;cases h
     refine Z7 (e:=(U.E tc).enc e) (c:=c.er) ht ex ?_
     rw [← hD.fl,List.getElem?_map,hc];rfl
    ·cases h
   ·cases hb:Nat.ble (off+n) (U.E tc).sz with
    | false=>rw [hb] at h;cases h
    | true =>
     rw [hb] at h;cases h
     have hle:=Nat.le_of_ble_eq_true hb
     have:=RO.loadPelAgg (E:=E) (d:=dd) (ty:=ty) (pos:=pos) (af:=af) (g:=g) (e:=(U.E tc).enc e) (cs:=(((U.E tc).enc e).drop off).take n) ht ex rfl (by rw [List.length_take,List.length_drop,hD.sz];omega)
     have e1:Jm D st.m.tk (Q11 D [.grp tc e] off n)=((((U.E tc).enc e).drop off).take n).map .d:=by
      unfold Jm
      rw [WV hD,Kw,List.map_take,List.map_drop,Q1i hD,List.map_take,List.map_drop]
     show RO E _ _ (.v (.agg (Jm D st.m.tk (Q11 D [.grp tc e] off n))))
     rw [e1];exact this
  ·cases h
theorem indexR_ok (hT:C.T.OK E.P) {t:TypeId} {x y:Operand} (h:UE C st t x y=some r):RdOK D E ⟨dd,.indexAddr t x y,ty,pos,af,g⟩ st r:=by
 unfold UE at h
 split at h
 ·rename_i e tc xv m hs hx hm
  split at h
  ·rename_i l hl;cases h
   obtain ⟨z,hz,hzl⟩:=GT (D:=D) hl
   have ex:=YB (D:=D) hx
   rw [hz] at ex
   exact fun v hv=>J7 (α:=U.R tc) (Wo hT hs) ex hzl (YB (D:=D) (Zj hm)) hv
  ·cases h
 ·cases h
theorem strsOf_ok (tk:List (Nat×TTok U)):∀ {l:List (TA U)} {ss:List Qdk},Q1t l=some ss→l.map (TA.er tk)=ss.map fun s=>CA.d (.v (.string (Qci s)))
 | [],ss,h=>by cases h;rfl
 | x::l,ss,h=>by
  unfold Q1t at h
  split at h
  ·rename_i e;cases e
  ·rename_i s r e;cases e
   split at h
   ·rename_i q hq;cases h
    rw [List.map_cons,strsOf_ok tk hq];rfl
   ·cases h
  ·cases h
theorem indexStrR_ok (hT:C.T.OK E.P) {t:TypeId} {x y:Operand} (h:UD D C st t x y=some r):RdOK D E ⟨dd,.index t x y,ty,pos,af,g⟩ st r:=by
 unfold UD at h
 split at h
 ·rename_i s k m hs hx hm;cases h
  exact fun v hv=>Q6f (hT.strs.get hs) (YB (D:=D) hx) (YB (D:=D) (Q1q hm)) hv
 ·rename_i xs k m hx hm
  split at h
  ·rename_i n l hn hl
   cases hb:Nat.beq l.length n with
   | false=>rw [hb] at h;cases h
   | true =>
    rw [hb] at h;cases h
    intro v hv
    obtain ⟨j,hj,hk⟩:=Q8k hv
    have hlt:j < l.length:=(List.getElem?_eq_some_iff.1 hk).1
    refine RO.indexV (hT.ars.get hn) (YB (D:=D) hx) (YB (D:=D) (Q1q hm)) hj (by rw [← Nat.eq_of_beq_eq_true hb];exact hlt) (c:=.d (.v (.string (Qci v)))) ?_
    show ((Yc D xs).map (TA.er st.m.tk))[j]?=_
    rw [strsOf_ok _ hl,List.getElem?_map,hk];rfl
  ·cases h
 ·cases h
theorem extractR_ok {x:Operand} {k:Nat} (h:Q0a st x k=some r):RdOK D E ⟨dd,.extract x k,ty,pos,af,g⟩ st r:=by
 unfold Q0a at h
 split at h
 ·rename_i xs hx
  split at h
  ·rename_i y hy;cases h
   exact RO.extract (YB (D:=D) hx) (by rw [List.getElem?_map,hy];rfl)
  ·cases h
 ·cases h
theorem U8 (tk:List (Nat×TTok U)) (x:TAV U):(x.er D tk).cells=Jm D tk x.items:=by
 cases x with
 | one x=>rfl
 | agg xs=>rfl
theorem Zx (hD:D.OK) (tk:List (Nat×TTok U)) (xs:List (It U)):(Jm D tk xs).length=QW xs:=by unfold Jm;rw [List.length_map,Zw hD]
theorem Q08 (hD:D.OK) {tk:List (Nat×TTok U)} {pl:List (Nat×Nat)}:∀ {avs:List (Nat×TAV U)} {xs ys:List (It U)},Q09 D pl xs avs=some ys→X3 pl (Jm D tk xs) (avs.map fun p=>(p.1,p.2.er D tk))=some (Jm D tk ys)
  | [],xs,ys,h=>by cases h;rfl
  | (i,x)::avs,xs,ys,h=>by
    unfold Q09 at h
    rw [List.map_cons]
    unfold X3
    split at h
    · cases h
    · rename_i off size hp
      rw [hp]
      dsimp only
      rw [U8,Zx hD,Zx hD]
      cases hb:(Nat.beq (QW x.items) size&&Nat.ble (off+size) (QW xs)) with
      | false=>rw [hb] at h;cases h
      | true =>
        rw [hb,cond_true] at h
        rw [cond_true]
        obtain ⟨b1,b2⟩:=Bool.and_eq_true_iff.1 hb
        have e1:=Nat.eq_of_beq_eq_true b1
        have e2:=Nat.le_of_ble_eq_true b2
        rw [← Q52 hD tk xs off x.items (by omega)]
        exact Q08 hD h
theorem Uq:∀ {parts:List (Nat×Operand)} {avs:List (Nat×TAV U)},DM st.tm parts=some avs→parts.length=avs.length∧∀ (j i:Nat) (x:AV),(avs.map fun p=>(p.1,p.2.er D st.m.tk))[j]?=some (i,x)→∃ o,parts[j]?=some (i,o)∧ev (st.er D).tm o=some (.v x)
  | [],avs,h=>by cases h;exact ⟨rfl,fun j i x hx=>by simp at hx⟩
  | (i0,o0)::parts,avs,h=>by
    unfold DM at h
    split at h
    · rename_i x0 xs hx0 hxs
      cases h
      obtain ⟨h1,h2⟩:=Uq hxs
      refine ⟨by rw [List.length_cons,List.length_cons,h1],fun j i x hx=>?_⟩
      cases j with
      | zero =>
        cases hx
        exact ⟨o0,Z,YB (D:=D) hx0⟩
      | succ j=>exact h2 j i x hx
    · cases h
theorem zero_er (tk:List (Nat×TTok U)) (zs:List Value):Jm D tk (zs.map fun z=>.one (.c (Wm z)))=zs.map fun z=>.d (.v z):=by
 unfold Jm
 rw [W1,List.map_map]
 refine List.map_congr_left fun z _=>?_
 show CA.d (Wm (U:=U) z).er=_
 rw [WS]
theorem buildR_ok (hT:C.T.OK E.P) (hD:D.OK) {t:TypeId} {parts:Array (Nat×Operand)} (h:Q69 D C st t parts.toList=some r):RdOK D E ⟨dd,.build t parts,ty,pos,af,g⟩ st r:=by
 unfold Q69 at h
 split at h
 ·rename_i pl zs avs hp hz ha
  split at h
  ·rename_i ys hy;cases h
   obtain ⟨h1,h2⟩:=Uq (D:=D) ha
   have hf:=Q08 hD (tk:=st.m.tk) hy
   rw [zero_er] at hf
   exact XK ⟨hT.places.get hp,(hT.zero.get hz).1⟩ (hT.zero.get hz).2 (by rw [h1,List.length_map]) h2 hf
  ·cases h
 ·cases h
theorem ptrsT_ok:∀ {os:List Operand} {l:List (Nat×Nat)},Q6k st.tm os=some l→os.length=l.length∧∀ (k:Nat) (p:Nat×Nat),l[k]?=some p→∃ o,os[k]?=some o∧ev (st.er D).tm o=some (.v (.one (.ptr p.1 p.2)))
 | [],l,h=>by cases h;exact ⟨rfl,fun k p hp=>by simp at hp⟩
 | o::os,l,h=>by
  unfold Q6k at h
  split at h
  ·rename_i i k l' ho hl
   cases h
   obtain ⟨h1,h2⟩:=ptrsT_ok hl
   refine ⟨by rw [List.length_cons,List.length_cons,h1],fun j p hp=>?_⟩
   cases j with
   | zero=>cases hp;exact ⟨o,rfl,YB (D:=D) ho⟩
   | succ j=>exact h2 j p hp
  ·cases h
theorem funcR_ok {fn:Go.Fn} {first caps:Array Operand} (h:Q8m st fn first.toList caps.toList=some r):RdOK D E ⟨dd,.makeFunc fn first caps,ty,pos,af,g⟩ st r:=by
 unfold Q8m at h
 split at h
 ·rename_i f l hf hl;cases h
  obtain ⟨h1,h2⟩:=ptrsT_ok (D:=D) hl
  have e:first=#[]:=by
   apply Array.ext'
   exact hf
  subst e
  exact XJ (by simpa using h1) (fun k p hp=>let ⟨o,a,b⟩:=h2 k p hp;⟨o,by simpa using a,b⟩)
 ·cases h
theorem nilR_ok {x:Operand} (h:Q9w st x=some r):RdOK D E ⟨dd,.nilCheck x,ty,pos,af,g⟩ st r:=by
 unfold Q9w at h
 split at h
 ·rename_i hx;cases h;exact RO.nilCheckPtr (YB (D:=D) hx)
 ·rename_i hx;cases h;exact RO.nilCheckPel (YB (D:=D) hx)
 ·cases h
theorem bytesR_ok (hT:C.T.OK E.P) {s t:TypeId} {x:Operand} (h:UN C st s t x=some r):RdOK D E ⟨dd,.convert s t x,ty,pos,af,g⟩ st r:=by
 unfold UN at h
 split at h
 ·rename_i B u1 u2 xv hB hs ht hx
  split at h
  ·rename_i l hl;cases h
   obtain ⟨z,hz,hzl⟩:=GT (D:=D) hl
   have ex:=YB (D:=D) hx
   rw [hz] at ex
   obtain ⟨l',e1,e2⟩:=B.back l
   have hso:SlOf z 1 (Enc.encL l'):=by
    have:=hzl.sl
    rw [show Enc.encL l=(U.E B.t).encL l from rfl,e1] at this
    rw [← B.sz];exact this
   have:=RO.bytesO (E:=E) (d:=dd) (ty:=ty) (pos:=pos) (af:=af) (g:=g) (hT.byt.get hs) (hT.strs.get ht) ex hso
   show RO E _ _ (Qd9 (B.sb l))
   rw [e2];exact this
  ·cases h
 ·cases h
theorem convR_ok (hT:C.T.OK E.P) {s t:TypeId} {x:Operand} (h:Q1l C st s t x=some r):RdOK D E ⟨dd,.convert s t x,ty,pos,af,g⟩ st r:=by
 unfold Q1l at h
 split at h
 ·rename_i k0 k' k m hs ht hm;cases h
  exact RO.conv2 (hT.ints.get hs) (hT.ints.get ht) (YB (D:=D) (Q1q hm))
 ·exact bytesR_ok hT h
theorem fieldV_ok (hT:C.T.OK E.P) {s f:Nat} {x:Operand} (h:Q5y D C st s x f=some r):RdOK D E ⟨dd,.field s x f,ty,pos,af,g⟩ st r:=by
 unfold Q5y at h
 split at h
 ·rename_i fs xs hf hx
  split at h
  ·rename_i k hk
   split at h
   ·rename_i y hy;cases h
    refine RO.fieldV ((hT.fdv.get hf).get hk) (YB (D:=D) hx) ?_
    show ((Yc D xs).map (TA.er st.m.tk))[k]?=_
    rw [List.getElem?_map,hy];rfl
   ·cases h
  ·cases h
 ·cases h
theorem numsOf_ok (tk:List (Nat×TTok U)):∀ {l:List (TA U)} {us:List Value},Q25 l=some us→l.map (TA.er tk)=us.map fun u=>CA.d (.v u)
 | [],us,h=>by cases h;rfl
 | x::l,us,h=>by
  unfold Q25 at h
  split at h
  ·rename_i e;cases e
  ·rename_i k a r e;cases e
   split at h
   ·rename_i q hq;cases h
    rw [List.map_cons,numsOf_ok tk hq];rfl
   ·cases h
  ·cases h
theorem makeIR_ok (hT:C.T.OK E.P) {T:TypeId} {x:Operand} (h:Q57 D C st T x=some r):RdOK D E ⟨dd,.makeInterface T x,ty,pos,af,g⟩ st r:=by
 unfold Q57 at h
 split at h
 ·rename_i u xs ht hx
  split at h
  ·rename_i us hu;cases h
   have ex:=YB (D:=D) hx
   refine RO.makeI (hT.stc.get ht) ?_
   rw [ex]
   show some (TV.v (.agg ((Yc D xs).map (TA.er st.m.tk))))=_
   rw [numsOf_ok _ hu]
  ·cases h
 ·cases h
theorem assertR_ok (hT:C.T.OK E.P) {t T:TypeId} {x:Operand} {ok:Bool} (h:Q3b C st x t T ok=some r):RdOK D E ⟨dd,.typeAssert x t T ok,ty,pos,af,g⟩ st r:=by
 unfold Q3b at h
 split at h
 ·rename_i u T' us ht hx
  cases hc:(Nat.beq T' T&&us.toList.all fun u=>u.oneCell') with
  | false=>rw [hc] at h;cases h
  | true =>
   rw [hc] at h;cases h
   obtain ⟨c1,c2⟩:=Bool.and_eq_true_iff.1 hc
   have e1:=Nat.eq_of_beq_eq_true c1
   subst e1
   have ex:ev (st.er D).tm x=some (KV (.iface T' (.agg us.toList.toArray))):=YB (D:=D) hx
   have key:=RO.assertI (E:=E) (d:=dd) (ty:=ty) (pos:=pos) (af:=af) (g:=g) (t:=t) (hT.stc.get ht) ex c2
   have e2:(TTV.tup [.agg (us.toList.map fun u=>.one (.c (Wm u))),.one (.c (.v (.bool true)))]:TTV U).er D st.m.tk=.tup [.agg (us.toList.map fun u=>.d (.v u)),.one (.d (.v (.bool true)))]:=by
    show TV.tup [.agg ((Yc D _).map (TA.er st.m.tk)),_]=_
    rw [W1,List.map_map]
    have:us.toList.map (TA.er st.m.tk ∘ fun u=>TA.c (Wm u))=us.toList.map fun u=>CA.d (.v u):=List.map_congr_left fun u _=>by
     show CA.d (Wm (U:=U) u).er=_
     rw [WS]
    rw [this];rfl
   show RO E _ _ (TTV.er D st.m.tk _)
   rw [e2];exact key
 ·cases h
theorem sliceR_ok (hT:C.T.OK E.P) {t:TypeId} {x:Operand} {lo hi mx:Option Operand} (h:Um C st t x lo hi mx=some r):RdOK D E ⟨dd,.slice t x lo hi mx,ty,pos,af,g⟩ st r:=by
 unfold Um at h
 split at h
 ·rename_i s hx
  have ex:=YB (D:=D) hx
  split at h
  ·rename_i hs
   split at h
   ·rename_i m hm;cases h
    exact fun hg=>RO.fromS (hT.strs.get hs) ex (YB (D:=D) (Zj hm)) hg
   ·cases h
  ·rename_i hs
   split at h
   ·rename_i m hm;cases h
    exact fun hg=>RO.toS (hT.strs.get hs) ex (YB (D:=D) (Zj hm)) hg
   ·cases h
  ·rename_i hs
   split at h
   ·rename_i m n hm hn;cases h
    exact fun hg=>RO.midS (hT.strs.get hs) ex (YB (D:=D) (Zj hm)) (YB (D:=D) (Zj hn)) hg
   ·cases h
  ·cases h
 ·rename_i xv hx hns
  split at h
  ·rename_i e tc hs
   split at h
   ·rename_i l hl
    split at h
    ·rename_i m hm;cases h
     obtain ⟨z,hz,hzl⟩:=GT (D:=D) hl
     have ex:=YB (D:=D) hns
     rw [hz] at ex
     exact fun hg=>RO.sliceFrom (α:=U.R tc) (Wo hT hs) ex hzl (YB (D:=D) (Zj hm)) hg
    ·cases h
   ·rename_i l hl
    split at h
    ·rename_i m hm;cases h
     obtain ⟨z,hz,hzl⟩:=GT (D:=D) hl
     have ex:=YB (D:=D) hns
     rw [hz] at ex
     exact fun hg=>RO.sliceTo (α:=U.R tc) (Wo hT hs) ex hzl (YB (D:=D) (Zj hm)) hg
    ·cases h
   ·cases h
  ·cases h
 ·cases h
theorem lenR_ok (hT:C.T.OK E.P) {t:TypeId} {x:Operand} (h:Q7d C st t x=some r):RdOK D E ⟨dd,.call { callee:=.builtin .len,args:=#[x],argTypes:=#[t]},ty,pos,af,g⟩ st r:=by
 unfold Q7d at h
 split at h
 ·rename_i s hx
  split at h
  ·rename_i hs;cases h;exact Ue (hT.strs.get hs) (YB (D:=D) hx)
  ·cases h
 ·rename_i xv hns hx
  split at h
  ·rename_i e tc hs
   split at h
   ·rename_i l hl;cases h
    obtain ⟨z,hz,hzl⟩:=GT (D:=D) hl
    have ex:=YB (D:=D) hx
    rw [hz] at ex
    exact QS (α:=U.R tc) (Wo hT hs) ex hzl
   ·cases h
  ·cases h
 ·cases h
theorem builtinR_ok (hT:C.T.OK E.P) {b:Builtin} {xs:Array Operand} {ts:Array TypeId} (h:Gn C st b xs.toList ts.toList=some r):RdOK D E ⟨dd,.call { callee:=.builtin b,args:=xs,argTypes:=ts },ty,pos,af,g⟩ st r:=by
 obtain ⟨xs⟩:=xs
 obtain ⟨ts⟩:=ts
 unfold Gn at h
 dsimp only at h
 split at h
 ·exact lenR_ok hT h
 ·split at h
  ·rename_i a b ha hb;cases h;exact KW (YB (D:=D) (Zj ha)) (YB (D:=D) (Zj hb))
  ·cases h
 ·split at h
  ·rename_i a b ha hb;cases h;exact RO.min2 (YB (D:=D) (Zj ha)) (YB (D:=D) (Zj hb))
  ·cases h
 ·cases h
theorem Q4v (hT:C.T.OK E.P) (hD:D.OK) {o:Oper} (h:Q94 D C st o=some r):RdOK D E o st r:=by
 obtain ⟨dd,op,ty,pos,af,g⟩:=o
 unfold Q94 at h
 dsimp only at h
 split at h
 ·exact Dm h (fun y hy=>J8 (YB (D:=D) hy))
 ·exact Dm h (fun y hy=>UQ (YB (D:=D) hy))
 ·split at h
  ·rename_i hc;exact Dm h (fun y hy=>Qb (YB (D:=D) hc) (YB (D:=D) hy))
  ·rename_i hc;exact Dm h (fun y hy=>Qd (YB (D:=D) hc) (YB (D:=D) hy))
  ·cases h
 ·exact binR_ok hT h
 ·exact unR_ok h
 ·exact fieldR_ok hT h
 ·exact loadRd_ok hT hD h
 ·exact indexR_ok hT h
 ·exact indexStrR_ok hT h
 ·exact fieldV_ok hT h
 ·exact makeIR_ok hT h
 ·exact assertR_ok hT h
 ·exact extractR_ok h
 ·exact buildR_ok hT hD h
 ·exact funcR_ok h
 ·exact nilR_ok h
 ·exact convR_ok hT h
 ·exact sliceR_ok hT h
 ·rename_i c
  obtain ⟨callee,xs,ts⟩:=c
  dsimp only at h
  split at h
  ·exact builtinR_ok hT h
  ·cases h
 ·cases h
end
end
section
open Go.RowKit
section
variable (U:Univ)
structure OR where
 x:TTV U
 es:List (Ev U)
 tk:Option (Nat×TTok U)
 nx:Nat
inductive EfR where
 | val (o:OR U)
 | grd (g:Bool) (o:OR U)
 | ix {α:Type} (o:Option α) (f:α→OR U)
end
section
variable {U:Univ} {D:Codec U}
def YU (n:Option (Nat×TTok U)) (tk:List (Nat×TTok U)):List (Nat×TTok U):=match n with
 | some p=>p::tk
 | none=>tk
def EfR.run {β:Type} (k:OR U→Option β):EfR U→Option β
 | .val o=>k o
 | .grd g o=>Qc g (k o)
 | .ix o f=>Option.bind o fun a=>k (f a)
def OROK (D:Codec U) (E:Env) (o:Oper) (st:TSt U) (r:OR U):Prop :=
 ∃ hp tkx,OpOK E o (st.er D) (r.x.er D (YU r.tk st.m.tk)) ⟨hp,tkx,r.nx⟩∧(∀ j,Qcq hp j=Qcq (Qr D st.m.tk (r.es++st.m.es)) j)∧∀ j T,Qcq (X5 (YU r.tk st.m.tk)) j=some (some T)→Qcq tkx j=some (some T)
def EfOK (D:Codec U) (E:Env) (o:Oper) (st:TSt U):EfR U→Prop
 | .val x=>OROK D E o st x
 | .grd g x=>g=true→OROK D E o st x
 | .ix oo f=>∀ a,oo=some a→OROK D E o st (f a)
def TA.hasApp (i v:Nat):TA U→Bool
 | .app j u=>Nat.beq j i&&Nat.beq u v
 | _=>false
def It.hasApp (i v:Nat):It U→Bool
 | .one x=>x.hasApp i v
 | .grp _ _=>false
def TAV.hasApp (i v:Nat):TAV U→Bool
 | .one x=>x.hasApp i v
 | .agg xs=>xs.any (It.hasApp i v)
def TTV.hasApp (i v:Nat):TTV U→Bool
 | .v x=>x.hasApp i v
 | .tup xs=>xs.any (TAV.hasApp i v)
 | .unk=>false
def Ev.hasApp (i v:Nat):Ev U→Bool
 | .box _ _ xs=>xs.any (It.hasApp i v)
 | .set _ _ xs=>xs.any (It.hasApp i v)
 | .raw _ _=>false
 | .lp _ _ _ tm _ _ _ _ _=>tm.any fun p=>p.2.hasApp i v
 | .ls _ xs=>xs.any fun p=>p.2.hasApp i v
def Q42 (i v:Nat) (tm:List (Nat×TTV U)) (es:List (Ev U)):Bool:=!(tm.any fun p=>p.2.hasApp i v)&&!(es.any (Ev.hasApp i v))
def CW (x y:CA):Prop:=∀ V w v,x.rel V w v→y.rel V w v
theorem CW.refl (x:CA):CW x x:=fun _ _ _ h=>h
theorem Zy {tk:List (Nat×TTok U)} {i:Nat} {T:TTok U} (j u:Nat):cur ((i,T)::tk) j u=if i=j then (if T.ver=u then some T else none) else cur tk j u:=by
 unfold cur
 rw [Q8]
 by_cases h:i=j
 ·rw [if_pos h,if_pos h]
  dsimp only
  by_cases h2:T.ver=u
  ·rw [if_pos h2,h2];simp
  ·rw [if_neg h2]
   cases hb:Nat.beq T.ver u with
   | true=>exact absurd (Nat.eq_of_beq_eq_true hb) h2
   | false=>rfl
 ·rw [if_neg h,if_neg h]
def TkW (tk tk':List (Nat×TTok U)) (P:Nat→Nat→Prop):Prop:=∀ j u,P j u→cur tk' j u=none∨cur tk' j u=cur tk j u
theorem WL {tk:List (Nat×TTok U)} {i:Nat} {T:TTok U} {P:Nat→Nat→Prop} (h:¬ P i T.ver):TkW tk ((i,T)::tk) P:=by
 intro j u hp
 rw [Zy]
 by_cases e:i=j
 ·rw [if_pos e]
  by_cases e2:T.ver=u
  ·subst e;subst e2;exact (h hp).elim
  ·rw [if_neg e2];exact .inl rfl
 ·rw [if_neg e];exact .inr rfl
theorem TA.stale {tk tk':List (Nat×TTok U)} (x:TA U) (h:TkW tk tk' fun j u=>x.hasApp j u=true):CW (x.er tk) (x.er tk'):=by
 cases x with
 | app j u =>
  intro V w v hr
  show (match cur tk' j u with
   | some T=>CA.app j (U.E T.t).sz ((U.E T.t).encL T.l)
   | none=>CA.any).rel V w v
  rcases h j u (by show (Nat.beq j j&&Nat.beq u u)=true;simp) with e | e
  ·rw [e];exact CA.rel.one hr
  ·rw [e];exact hr
 | c x=>exact CW.refl _
 | ptr i off=>exact CW.refl _
 | pel t x off=>exact CW.refl _
 | fn f caps=>exact CW.refl _
 | raw x=>exact CW.refl _
def LW (xs ys:List CA):Prop:=xs.length=ys.length∧∀ (k:Nat) (x y:CA),xs[k]?=some x→ys[k]?=some y→CW x y
theorem LW.rels {xs ys:List CA} (h:LW xs ys) {V:Vu} {w:World} {vs:Array Value} (hv:rels V w xs vs):rels V w ys vs:=by
 refine ⟨hv.1.trans h.1,fun i y hy=>?_⟩
 have hi:i < ys.length:=(List.getElem?_eq_some_iff.1 hy).1
 have hx:xs[i]?=some (xs[i]'(by rw [h.1];exact hi)):=List.getElem?_eq_getElem _
 obtain ⟨u,h1,h2⟩:=hv.2 i _ hx
 exact ⟨u,h1,h.2 i _ y hx hy _ _ _ h2⟩
theorem LW.refl (xs:List CA):LW xs xs:=⟨rfl,fun k x y hx hy=>by rw [hx] at hy;cases hy;exact CW.refl _⟩
theorem flat_mem {xs:List (It U)} {i v:Nat} {x:TA U} (hx:x∈Yc D xs) (h:x.hasApp i v=true):xs.any (It.hasApp i v)=true:=by
 obtain ⟨it,h1,h2⟩:=List.mem_flatMap.1 hx
 refine List.any_eq_true.2 ⟨it,h1,?_⟩
 cases it with
 | one y =>
  rw [List.mem_singleton.1 h2] at h
  exact h
 | grp t y =>
  obtain ⟨z,_,rfl⟩:=List.mem_map.1 h2
  cases h
theorem W3 {tk tk':List (Nat×TTok U)} {xs:List (It U)} (h:TkW tk tk' fun j u=>xs.any (It.hasApp j u)=true):LW (Jm D tk xs) (Jm D tk' xs):=by
 unfold Jm
 refine ⟨by rw [List.length_map,List.length_map],fun k x y hx hy=>?_⟩
 rw [List.getElem?_map] at hx hy
 cases hz:(Yc D xs)[k]? with
 | none=>rw [hz] at hx;cases hx
 | some z =>
  rw [hz] at hx hy
  cases hx;cases hy
  exact TA.stale z (fun j u hp=>h j u (flat_mem (List.mem_of_getElem? hz) hp))
theorem TAV.stale {tk tk':List (Nat×TTok U)} {x:TAV U} (h:TkW tk tk' fun j u=>x.hasApp j u=true) {V:Vu} {w:World} {v:Value} (hv:(x.er D tk).rel V w v):(x.er D tk').rel V w v:=by
 cases x with
 | one x=>exact TA.stale x h V w v hv
 | agg xs=>obtain ⟨vs,h1,h2⟩:=hv;exact ⟨vs,h1,(W3 h).rels h2⟩
theorem ZM {tk tk':List (Nat×TTok U)} {x:TTV U} (h:TkW tk tk' fun j u=>x.hasApp j u=true) {V:Vu} {w:World} {v:Value} (hv:(x.er D tk).rel V w v):(x.er D tk').rel V w v:=by
 cases x with
 | v x=>exact TAV.stale h hv
 | tup xs =>
  obtain ⟨vs,h1,h2,h3⟩:=hv
  refine ⟨vs,h1,by rw [h2,List.length_map,List.length_map],fun k y hy=>?_⟩
  rw [List.getElem?_map] at hy
  cases hz:xs[k]? with
  | none=>rw [hz] at hy;cases hy
  | some z =>
   rw [hz] at hy;cases hy
   obtain ⟨u,h4,h5⟩:=h3 k (z.er D tk) (by rw [List.getElem?_map,hz];rfl)
   exact ⟨u,h4,TAV.stale (fun j u hp=>h j u (List.any_eq_true.2 ⟨z,List.mem_of_getElem? hz,hp⟩)) h5⟩
 | unk=>trivial
theorem Xe:∀ (ys zs:List CA) (q k:Nat),(setL zs q ys)[k]?=if q≤k∧k < q+ys.length∧k < zs.length then ys[k - q]? else zs[k]?
 | [],zs,q,k=>by
  show zs[k]?=_
  rw [if_neg (by rw [List.length_nil];omega)]
 | y::ys,zs,q,k=>by
  show (setL (zs.set q y) (q+1) ys)[k]?=_
  rw [Xe ys,List.length_set,List.length_cons,List.getElem?_set]
  by_cases c1:q+1≤k∧k < q+1+ys.length∧k < zs.length
  ·rw [if_pos c1,if_pos (by omega),show k - q=(k - (q+1))+1 by omega];rfl
  ·rw [if_neg c1]
   by_cases c2:q=k
   ·subst c2
    rw [if_pos rfl]
    by_cases c3:q < zs.length
    ·rw [if_pos c3,if_pos (by omega),Nat.sub_self];rfl
    ·rw [if_neg c3,if_neg (by omega),List.getElem?_eq_none (by omega)]
   ·rw [if_neg c2,if_neg (by omega)]
theorem LW.set {xs ys us vs:List CA} (h:LW xs ys) (k:LW us vs) (q:Nat):LW (setL xs q us) (setL ys q vs):=by
 refine ⟨by rw [Jq,Jq];exact h.1,fun j x y hx hy=>?_⟩
 rw [Xe] at hx hy
 by_cases c:q≤j∧j < q+us.length∧j < xs.length
 ·rw [if_pos c] at hx
  rw [if_pos (by rw [← k.1,← h.1];exact c)] at hy
  exact k.2 _ x y hx hy
 ·rw [if_neg c] at hx
  rw [if_neg (by rw [← k.1,← h.1];exact c)] at hy
  exact h.2 _ x y hx hy
inductive BW:HB→HB→Prop
 | refl (B:HB):BW B B
 | cells {T:TypeId} {xs ys:List CA} (h:LW xs ys):BW (.cells T xs) (.cells T ys)
 | loop {s:LoopState} {p:Option Code} {tm tm':List (Nat×TV)} {nt:Nat} {ps:Array Tmp} {a b:Code} {d:Nat} (h:∀ t y,Qcq tm' t=some y→∃ x,Qcq tm t=some x∧∀ V w v,x.rel V w v→y.rel V w v):BW (.loop s p tm nt ps a b d) (.loop s p tm' nt ps a b d)
theorem BW.rel {A B:HB} (h:BW A B) {V:Vu} {w:World} {o:Obj} (hr:A.rel V w o):B.rel V w o:=by
 cases h with
 | refl=>exact hr
 | cells h=>obtain ⟨vs,h1,h2⟩:=hr;exact ⟨vs,h1,h.rels h2⟩
 | loop h =>
  obtain ⟨h0,fn,tmps,h1,h2,h3⟩:=hr
  exact ⟨h0,fn,tmps,h1,h2,fun t y hy=>let ⟨x,hx,hxy⟩:=h t y hy;hxy _ _ _ (h3 t x hx)⟩
def OW:Option HB→Option HB→Prop
 | none,none=>True
 | some A,some B=>BW A B
 | _,_=>False
theorem YR {tk tk':List (Nat×TTok U)}:∀ {es:List (Ev U)},(TkW tk tk' fun j u=>es.any (Ev.hasApp j u)=true)→∀ j,OW (Qcq (Qr D tk es) j) (Qcq (Qr D tk' es) j)
 | [],_,j=>trivial
 | .box q T' xs::es,h,j=>by
  have h1:TkW tk tk' fun j u=>xs.any (It.hasApp j u)=true:=fun j u hp=>h j u (Bool.or_eq_true_iff.2 (.inl hp))
  have h2:TkW tk tk' fun j u=>es.any (Ev.hasApp j u)=true:=fun j u hp=>h j u (Bool.or_eq_true_iff.2 (.inr hp))
  unfold Qr
  rw [Q8,Q8]
  by_cases e:q=j
  ·rw [if_pos e,if_pos e];exact .cells (W3 h1)
  ·rw [if_neg e,if_neg e];exact YR h2 j
 | .raw q B::es,h,j=>by
  have h2:TkW tk tk' fun j u=>es.any (Ev.hasApp j u)=true:=fun j u hp=>h j u (Bool.or_eq_true_iff.2 (.inr hp))
  unfold Qr
  rw [Q8,Q8]
  by_cases e:q=j
  ·rw [if_pos e,if_pos e];exact .refl _
  ·rw [if_neg e,if_neg e];exact YR h2 j
 | .lp q s p tm nt ps a b d::es,h,j=>by
  have h1:TkW tk tk' fun j u=>tm.any (fun p=>p.2.hasApp j u)=true:=fun j u hp=>h j u (Bool.or_eq_true_iff.2 (.inl hp))
  have h2:TkW tk tk' fun j u=>es.any (Ev.hasApp j u)=true:=fun j u hp=>h j u (Bool.or_eq_true_iff.2 (.inr hp))
  unfold Qr
  rw [Q8,Q8]
  by_cases e:q=j
  ·rw [if_pos e,if_pos e]
   refine .loop fun t y hy=>?_
   rw [QR] at hy ⊢
   cases hz:Qcq tm t with
   | none=>rw [hz] at hy;cases hy
   | some z =>
    rw [hz] at hy;cases hy
    exact ⟨_,Z,fun V w v hv=>ZM (fun j u hp=>h1 j u (List.any_eq_true.2 ⟨_,Y3 hz,hp⟩)) hv⟩
  ·rw [if_neg e,if_neg e];exact YR h2 j
 | .ls q xs::es,h,j=>by
  have h1:TkW tk tk' fun j u=>xs.any (fun p=>p.2.hasApp j u)=true:=fun j u hp=>h j u (Bool.or_eq_true_iff.2 (.inl hp))
  have h2:TkW tk tk' fun j u=>es.any (Ev.hasApp j u)=true:=fun j u hp=>h j u (Bool.or_eq_true_iff.2 (.inr hp))
  have ih:=YR h2
  have hq:=ih q
  have hx:∀ t y,Qcq (QP (TTV.er D tk') xs) t=some y→∃ x,Qcq (QP (TTV.er D tk) xs) t=some x∧∀ V w v,x.rel V w v→y.rel V w v:=fun t y hy=>by
   rw [QR] at hy ⊢
   cases hz:Qcq xs t with
   | none=>rw [hz] at hy;cases hy
   | some z =>
    rw [hz] at hy;cases hy
    exact ⟨_,Z,fun V w v hv=>ZM (fun j u hp=>h1 j u (List.any_eq_true.2 ⟨_,Y3 hz,hp⟩)) hv⟩
  have hn:∀ t,Qcq (QP (TTV.er D tk') xs) t=none→Qcq (QP (TTV.er D tk) xs) t=none:=fun t hy=>by
   rw [QR] at hy ⊢
   cases hz:Qcq xs t with
   | none=>rfl
   | some z=>rw [hz] at hy;cases hy
  have ap:∀ {tm tm':List (Nat×TV)},(∀ t y,Qcq tm' t=some y→∃ x,Qcq tm t=some x∧∀ V w v,x.rel V w v→y.rel V w v)→∀ t y,Qcq (QP (TTV.er D tk') xs++tm') t=some y→∃ x,Qcq (QP (TTV.er D tk) xs++tm) t=some x∧∀ V w v,x.rel V w v→y.rel V w v:=fun {tm tm'} hl t y hy=>by
   rw [JH] at hy ⊢
   cases hz:Qcq (QP (TTV.er D tk') xs) t with
   | none=>rw [hz] at hy;rw [hn t hz];exact hl t y hy
   | some z =>
    rw [hz] at hy;cases hy
    obtain ⟨x,hx1,hx2⟩:=hx t _ hz
    rw [hx1];exact ⟨x,rfl,hx2⟩
  unfold Qr
  revert hq
  cases hA:Qcq (Qr D tk es) q with
  | none =>
   cases hB:Qcq (Qr D tk' es) q with
   | none=>intro _;exact ih j
   | some B=>intro hq;exact hq.elim
  | some A =>
   cases hB:Qcq (Qr D tk' es) q with
   | none=>intro hq;exact hq.elim
   | some B =>
    intro hq
    cases hq with
    | refl =>
     cases A with
     | cells T' ys=>exact ih j
     | obj o=>exact ih j
     | mp es clock=>exact ih j
     | loop s p tm nt ps assign body D =>
      dsimp only
      rw [Q8,Q8]
      by_cases e:q=j
      ·rw [if_pos e,if_pos e];exact .loop (ap fun t y hy=>⟨y,hy,fun _ _ _ h=>h⟩)
      ·rw [if_neg e,if_neg e];exact ih j
    | cells hl=>exact ih j
    | loop hl =>
     dsimp only
     rw [Q8,Q8]
     by_cases e:q=j
     ·rw [if_pos e,if_pos e];exact .loop (ap hl)
     ·rw [if_neg e,if_neg e];exact ih j
 | .set q off xs::es,h,j=>by
  have h1:TkW tk tk' fun j u=>xs.any (It.hasApp j u)=true:=fun j u hp=>h j u (Bool.or_eq_true_iff.2 (.inl hp))
  have h2:TkW tk tk' fun j u=>es.any (Ev.hasApp j u)=true:=fun j u hp=>h j u (Bool.or_eq_true_iff.2 (.inr hp))
  have ih:=YR h2
  have hq:=ih q
  unfold Qr
  revert hq
  cases hA:Qcq (Qr D tk es) q with
  | none =>
   cases hB:Qcq (Qr D tk' es) q with
   | none=>intro _;exact ih j
   | some B=>intro hq;exact hq.elim
  | some A =>
   cases hB:Qcq (Qr D tk' es) q with
   | none=>intro hq;exact hq.elim
   | some B =>
    intro hq
    cases hq with
    | refl =>
     cases A with
     | cells T' ys =>
      dsimp only
      rw [Q8,Q8]
      by_cases e:q=j
      ·rw [if_pos e,if_pos e];exact .cells ((LW.refl _).set (W3 h1) off)
      ·rw [if_neg e,if_neg e];exact ih j
     | obj o=>exact ih j
     | loop s p tm nt ps assign body D=>exact ih j
     | mp es clock=>exact ih j
    | loop hl=>exact ih j
    | cells hl =>
     dsimp only
     rw [Q8,Q8]
     by_cases e:q=j
     ·rw [if_pos e,if_pos e];exact .cells (hl.set (W3 h1) off)
     ·rw [if_neg e,if_neg e];exact ih j
def DQ (st:TSt U) (es:List (Ev U)):Option (Nat×TTok U)→Bool
 | none=>true
 | some (i,T)=>Q42 i T.ver st.tm es
def Y0 (st:TSt U):Option Nat→Bool
 | none=>true
 | some d=>Nat.blt d st.nt
def Wa (dst:Option Nat) (x:TTV U) (tm:List (Nat×TTV U)):List (Nat×TTV U):=match dst with
 | some d=>(d,x)::tm
 | none=>tm
def Q1c (st:TSt U) (dst:Option Nat) (r:OR U):TSt U:=⟨Wa dst r.x st.tm,⟨r.es++st.m.es,YU r.tk st.m.tk,r.nx⟩,st.nt,st.df⟩
theorem next_weak {st:TSt U} {dst:Option Nat} {r:OR U} {hp:List (Nat×HB)} {tkx:List (Nat×Option Tok)} (hh:∀ j,Qcq hp j=Qcq (Qr D st.m.tk (r.es++st.m.es)) j) (ht:∀ j T,Qcq (X5 (YU r.tk st.m.tk)) j=some (some T)→Qcq tkx j=some (some T)) (hn:DQ st (r.es++st.m.es) r.tk=true) :
  StW (Xm (st.er D) dst (r.x.er D (YU r.tk st.m.tk)) ⟨hp,tkx,r.nx⟩) ((Q1c st dst r).er D):=by
 have htm:∀ t y,Qcq (QP (TTV.er D (YU r.tk st.m.tk)) st.tm) t=some y→y=.unk∨∃ x,Qcq (QP (TTV.er D st.m.tk) st.tm) t=some x∧∀ V w v,x.rel V w v→y.rel V w v:=by
  intro t y hy
  rw [QR] at hy ⊢
  cases hz:Qcq st.tm t with
  | none=>rw [hz] at hy;cases hy
  | some z =>
   rw [hz] at hy;cases hy
   refine .inr ⟨_,Z,fun V w v hv=>?_⟩
   cases htk:r.tk with
   | none=>exact hv
   | some p =>
    obtain ⟨i,T⟩:=p
    rw [htk] at hn
    have h1:=(Bool.and_eq_true_iff.1 hn).1
    have h2:st.tm.any (fun p=>p.2.hasApp i T.ver)=false:=by simpa using h1
    exact ZM (WL fun hp=>by
     have h3:=List.any_eq_false.1 h2 (t,z) (Y3 hz)
     exact h3 hp) hv
 have hhp:∀ j B,Qcq (Qr D (YU r.tk st.m.tk) (r.es++st.m.es)) j=some B→∃ A,Qcq hp j=some A∧∀ V w o,A.rel V w o→B.rel V w o:=by
  intro j B hB
  rw [hh]
  cases htk:r.tk with
  | none=>rw [htk] at hB;exact ⟨B,hB,fun _ _ _ h=>h⟩
  | some p =>
   obtain ⟨i,T⟩:=p
   rw [htk] at hn hB
   have h1:=(Bool.and_eq_true_iff.1 hn).2
   have h2:(r.es++st.m.es).any (Ev.hasApp i T.ver)=false:=by simpa using h1
   have h3:=YR (D:=D) (tk:=st.m.tk) (tk':=(i,T)::st.m.tk) (es:=r.es++st.m.es) (WL fun hp=>by rw [h2] at hp;cases hp) j
   have hB':Qcq (Qr D ((i,T)::st.m.tk) (r.es++st.m.es)) j=some B:=hB
   rw [hB'] at h3
   cases hA:Qcq (Qr D st.m.tk (r.es++st.m.es)) j with
   | none=>rw [hA] at h3;exact h3.elim
   | some A=>rw [hA] at h3;exact ⟨A,rfl,fun V w o h=>BW.rel h3 h⟩
 cases dst with
 | none=>exact ⟨htm,hhp,fun i T h=>ht i T h,rfl,rfl,rfl⟩
 | some d =>
  refine ⟨fun t y hy=>?_,hhp,fun i T h=>ht i T h,Z,Z,Z⟩
  have hy':Qcq ((d,r.x.er D (YU r.tk st.m.tk))::QP (TTV.er D (YU r.tk st.m.tk)) st.tm) t=some y:=hy
  show y=.unk∨∃ x,Qcq ((d,r.x.er D (YU r.tk st.m.tk))::QN d (st.er D).tm) t=some x∧_
  rw [JM]
  rw [Q8] at hy' ⊢
  by_cases e:d=t
  ·rw [if_pos e] at hy' ⊢;cases hy';exact .inr ⟨_,rfl,fun _ _ _ h=>h⟩
  ·rw [if_neg e] at hy' ⊢;exact htm t y hy'
theorem Uc {E:Env} {ro:Option Nat} {n:Nat} {ops:Array Oper} {Q:Exit→Act→World→Prop} {rest:List Oper} {a b:St} (h:StW a b) (k:XL E ro n ops Q rest b):XL E ro n ops Q rest a:=fun V ac w hr=>k V ac w (hr.weak h)
theorem KU {E:Env} {Q:Exit→Act→World→Prop} {e:Exit} {a b:St} (h:StW a b) (k:XQ E Q e b):XQ E Q e a:=fun V ac w hr=>k V ac w (hr.weak h)
theorem OROK.next {E:Env} {o:Oper} {st:TSt U} {r:OR U} (h:OROK D E o st r) (hn:DQ st (r.es++st.m.es) r.tk=true) (hd:Y0 st o.dst=true) {ro:Option Nat} {n:Nat} {ops:Array Oper} {Q:Exit→Act→World→Prop} {rest:List Oper}
  (hg:QJ ops (st.er D).tm o=some true) (k:XL E ro n ops Q rest ((Q1c st o.dst r).er D)):XL E ro n ops Q (o::rest) (st.er D):=by
 obtain ⟨hp,tkx,h1,h2,h3⟩:=h
 refine Q3i hg h1 ?_ (Uc (next_weak h2 h3 hn) k)
 cases hdst:o.dst with
 | none=>rfl
 | some d=>rw [hdst] at hd;exact hd
variable (D) (C:TCfg U)
def K6 (tk:List (Nat×TTok U)):TA U→Option (TA U)
 | .c x=>some (.c x)
 | .app i ver=>match cur tk i ver with
  | some T=>some (.c (.sl T.t T.l))
  | none=>none
 | _=>none
def JT (tk:List (Nat×TTok U)):List (It U)→Option (List (It U))
 | []=>some []
 | .grp t x::r=>match JT tk r with
  | some ys=>some (.grp t x::ys)
  | none=>none
 | .one x::r=>match K6 tk x,JT tk r with
  | some y,some ys=>some (.one y::ys)
  | _,_=>none
def Q6x (a b:U.T) (x:U.R a):Option (U.R b):=match U.eq a b with
 | some ⟨h⟩=>some (h▸x)
 | none=>none
def Q0p (tk:List (Nat×TTok U)) (t:U.T):List (It U)→Option (U.R t)
 | [.grp t' x]=>Q6x t' t x
 | xs=>match JT tk xs with
  | some ys=>D.bld t ys
  | none=>none
def Q39 (tk:List (Nat×TTok U)) (t:U.T):Nat→List (It U)→Option (List (U.R t))
 | 0,_=>some []
 | n+1,xs=>match Q0p D tk t (Zk D xs (U.E t).sz).1,Q39 tk t n (Zk D xs (U.E t).sz).2 with
  | some x,some l=>some (x::l)
  | _,_=>none
def Qad (st:TSt U) (t:TypeId) (x:Operand):Option (EfR U):=match YG st.tm x with
 | some (.v v)=>some (.val ⟨.v (.one (.ptr st.m.nx 0)),[.box st.m.nx t v.items],none,st.m.nx+1⟩)
 | _=>none
def Q7m (zs:List Value):List (It U):=zs.map fun z=>.one (.c (Wm z))
def Q6e (st:TSt U) (t:TypeId):Option (EfR U):=match Qcq C.T.zero t with
 | some zs=>some (.val ⟨.v (.one (.ptr st.m.nx 0)),[.box st.m.nx t (Q7m zs)],none,st.m.nx+1⟩)
 | none=>none
def Q4y (st:TSt U) (t:TypeId) (x y:Operand):Option (EfR U) :=
 match Qcq C.T.agg t,YG st.tm x,YG st.tm y with
 | some (_,n),some (.v (.one (.ptr i off))),some (.v v)=>match Zd st.m.es i with
  | some (_,N)=>cond (Nat.beq (QW v.items) n&&Nat.ble (off+n) N) (some (.val ⟨.tup [],[.set i off v.items],none,st.m.nx⟩)) none
  | none=>none
 | _,_,_=>none
def Dw (zs:List Value) (len:Nat):List (It U):=(List.range (len * zs.length)).map fun k=>.one (.c (Wm (zs.getD (k % zs.length) undef)))
def Qa7 (st:TSt U) (t len:Nat) (parts:List (Nat×Operand)):Option (EfR U) :=
 match Q74 C t with
 | none=>none
 | some (e,tc)=>match Qcq C.T.zero e,DM st.tm parts with
  | some zs,some avs=>cond (Nat.beq zs.length (U.E tc).sz&&Nat.blt 0 (U.E tc).sz&&Nat.ble (len * (U.E tc).sz) 16777216) (match Q09 D (Gb (U.E tc).sz len) (Dw zs len) avs with
   | some ys=>match Q39 D st.m.tk tc len ys with
    | some l=>some (.val ⟨.v (.one (.app st.m.nx 0)),[],some (st.m.nx,⟨e,tc,l,0⟩),st.m.nx+1⟩)
    | none=>none
   | none=>none) none
  | _,_=>none
def Q3d (st:TSt U) (t:TypeId) (x y:Operand):Option (EfR U) :=
 match Q74 C t with
 | none=>none
 | some (e,tc)=>match Qcq C.T.elem e,YG st.tm y with
  | some (sz',by_),some yv=>cond (Nat.beq sz' (U.E tc).sz&&Nat.ble by_ 100000) (match KB st.m.tk tc yv with
   | some l2=>match YG st.tm x with
    | some (.v (.one (.app i ver)))=>match cur st.m.tk i ver with
     | some T=>match KO T.t tc T.l with
      | some l=>cond (Nat.beq T.E e&&!(Nat.beq e 0)) (some (.grd (Nat.ble (l.length+l2.length) 1000000000) ⟨.v (.one (.app i (ver+1))),[],some (i,⟨e,tc,l++l2,ver+1⟩),st.m.nx⟩)) none
      | none=>none
     | none=>none
    | some (.v (.one (.c (.v (.slice none 0 0)))))=>some (.grd (Nat.ble l2.length 1000000000) ⟨.v (.one (.app st.m.nx 0)),[],some (st.m.nx,⟨e,tc,l2,0⟩),st.m.nx+1⟩)
    | _=>none
   | none=>none) none
  | _,_=>none
def Q0t (st:TSt U) (t t':TypeId) (x y:Operand):Option (EfR U) :=
 match C.bt,Q74 C t,Qcq C.T.strs t',YG st.tm y with
 | some B,some (e,tc),some _,some (.v (.one (.c (.str s))))=>match U.eq B.t tc,Qcq C.T.elem e with
  | some _,some (sz',by_)=>cond (Nat.beq sz' 1&&Nat.ble by_ 100000) (match YG st.tm x with
   | some (.v (.one (.app i ver)))=>match cur st.m.tk i ver with
    | some T=>match KO T.t B.t T.l with
     | some l=>cond (Nat.beq T.E e&&!(Nat.beq e 0)) (some (.grd (Nat.ble (l.length+s.length) 1000000000) ⟨.v (.one (.app i (ver+1))),[],some (i,⟨e,B.t,l++B.bs s,ver+1⟩),st.m.nx⟩)) none
     | none=>none
    | none=>none
   | some (.v (.one (.c (.v (.slice none 0 0)))))=>some (.grd (Nat.ble s.length 1000000000) ⟨.v (.one (.app st.m.nx 0)),[],some (st.m.nx,⟨e,B.t,B.bs s,0⟩),st.m.nx+1⟩)
   | _=>none) none
  | _,_=>none
 | _,_,_,_=>none
variable (U) in
structure KR where
 α:Type
 o:Option α
 f:α→TTV U
def D9 (tm:List (Nat×TTV U)):List Operand→Option (List (TAV U))
 | []=>some []
 | o::os=>match YG tm o,D9 tm os with
  | some (.v x),some xs=>some (x::xs)
  | _,_=>none
def XR (tk:List (Nat×TTok U)):TAV U→Option (TAV U)
 | .one x=>match K6 tk x with
  | some y=>some (.one y)
  | none=>none
 | .agg xs=>match JT tk xs with
  | some ys=>some (.agg ys)
  | none=>none
def YP (tk:List (Nat×TTok U)):List (TAV U)→Option (List (TAV U))
 | []=>some []
 | x::xs=>match XR tk x,YP tk xs with
  | some y,some ys=>some (y::ys)
  | _,_=>none
variable (K:FuncId→List (TAV U)→Option (KR U))
def Q4m (st:TSt U) (x:Operand) (os:List Operand):Option (EfR U) :=
 match YG st.tm x,D9 st.tm os with
 | some (.v (.one (.fn f []))),some args=>match YP st.m.tk args with
  | some args'=>match K f args' with
   | some kr=>some (.ix kr.o fun a=>⟨kr.f a,[],none,st.m.nx⟩)
   | none=>none
  | none=>none
 | _,_=>none
def Qat (st:TSt U) (o:Oper):Option (EfR U):=match o.op with
 | .box t x=>Qad st t x
 | .alloc t=>Q6e C st t
 | .store t x y=>match o.dst with
  | none=>Q4y C st t x y
  | some _=>none
 | .buildSlice t len parts=>Qa7 D C st t len parts.toList
 | .call c=>match c.callee,c.args.toList,c.argTypes.toList with
  | .builtin .append,[x,y],[t,t']=>cond (Nat.beq t t') (Q3d C st t x y) (Q0t C st t t' x y)
  | .value x,os,_=>Q4m K st x os
  | _,_,_=>none
 | _=>none
end
section
variable {U:Univ} {D:Codec U} {C:TCfg U} {E:Env} {st:TSt U} {dd:Option Nat} {ty:TypeId} {pos:String} {af:Array Edge} {g:Option (Nat×Bool)} {r:EfR U}
theorem boxE_ok {t:TypeId} {x:Operand} (h:Qad st t x=some r):EfOK D E ⟨dd,.box t x,ty,pos,af,g⟩ st r:=by
 unfold Qad at h
 split at h
 ·rename_i v hx;cases h
  refine ⟨_,_,Jh (YB (D:=D) hx),fun j=>?_,fun j x hx=>hx⟩
  show Qcq ((st.m.nx,HB.cells t (v.er D st.m.tk).cells)::Qr D st.m.tk st.m.es) j=Qcq ((st.m.nx,HB.cells t (Jm D st.m.tk v.items))::Qr D st.m.tk st.m.es) j
  rw [U8]
 ·cases h
theorem zeroI_er (tk:List (Nat×TTok U)) (zs:List Value):Jm D tk (Q7m zs)=zs.map fun z=>.d (.v z):=zero_er tk zs
theorem allocE_ok (hT:C.T.OK E.P) {t:TypeId} (h:Q6e C st t=some r):EfOK D E ⟨dd,.alloc t,ty,pos,af,g⟩ st r:=by
 unfold Q6e at h
 split at h
 ·rename_i zs hz;cases h
  refine ⟨_,_,QZ (hT.zero.get hz).1 (hT.zero.get hz).2,fun j=>?_,fun j x hx=>hx⟩
  show Qcq ((st.m.nx,HB.cells t (zs.map fun z=>.d (.v z)))::Qr D st.m.tk st.m.es) j=Qcq ((st.m.nx,HB.cells t (Jm D st.m.tk (Q7m zs)))::Qr D st.m.tk st.m.es) j
  rw [zeroI_er]
 ·cases h
theorem storeE_ok (hT:C.T.OK E.P) (hD:D.OK) {t:TypeId} {x y:Operand} (h:Q4y C st t x y=some r):EfOK D E ⟨none,.store t x y,ty,pos,af,g⟩ st r:=by
 unfold Q4y at h
 split at h
 ·rename_i ag n i off v ht hx hy
  split at h
  ·rename_i T N hb
   cases hc:(Nat.beq (QW v.items) n&&Nat.ble (off+n) N) with
   | false=>rw [hc] at h;cases h
   | true =>
    rw [hc] at h;cases h
    obtain ⟨b1,b2⟩:=Bool.and_eq_true_iff.1 hc
    have e1:=Nat.eq_of_beq_eq_true b1
    have e2:=Nat.le_of_ble_eq_true b2
    obtain ⟨ys,h1,h2⟩:=Yo hD (tk:=st.m.tk) hb
    refine ⟨_,_,JS (hT.agg.get ht) (YB (D:=D) hx) (YB (D:=D) hy) h1 (by rw [U8,Zx hD];exact e1) (by omega) rfl,fun j=>?_,fun j x hx=>hx⟩
    show Qcq ((i,HB.cells T (setL ys off (v.er D st.m.tk).cells))::QN i (Qr D st.m.tk st.m.es)) j=Qcq (Qr D st.m.tk (.set i off v.items::st.m.es)) j
    rw [JM,U8]
    show _=Qcq (match Qcq (Qr D st.m.tk st.m.es) i with
     | some (.cells T ys)=>(i,.cells T (setL ys off (Jm D st.m.tk v.items)))::Qr D st.m.tk st.m.es
     | _=>Qr D st.m.tk st.m.es) j
    rw [h1]
  ·cases h
 ·cases h
theorem CSub.of_sl {sz:Nat} {es:List (List Proofs.YtjcfppnjamjjhaaGreatDoor.C)} {c:Proofs.YtjcfppnjamjjhaaGreatDoor.C} (h:CSub (.d (.sl sz es)) c) (i:Nat):CSub (.app i sz es) c:=by
 cases h with
 | d=>exact .app i sz es
theorem settleA_ok {tk:List (Nat×TTok U)} {x y:TA U} (h:K6 tk x=some y) {c:Proofs.YtjcfppnjamjjhaaGreatDoor.C} (hc:CSub (y.er tk) c):CSub (x.er tk) c:=by
 unfold K6 at h
 split at h
 ·cases h;exact hc
 ·rename_i i ver
  split at h
  ·rename_i T hT;cases h
   show CSub (match cur tk i ver with
    | some T=>CA.app i (U.E T.t).sz ((U.E T.t).encL T.l)
    | none=>CA.any) c
   rw [hT]
   exact hc.of_sl i
  ·cases h
 ·cases h
theorem csubs_app {xs ys:List CA} {cs:List Proofs.YtjcfppnjamjjhaaGreatDoor.C} (h:CSubs (xs++ys) cs):∃ c1 c2,cs=c1++c2∧CSubs xs c1∧CSubs ys c2:=by
 induction xs generalizing cs with
 | nil=>exact ⟨[],cs,rfl,.nil,h⟩
 | cons x xs ih =>
  cases h with
  | cons h t =>
   obtain ⟨c1,c2,e,h1,h2⟩:=ih t
   exact ⟨_::c1,c2,by rw [e];rfl,.cons h h1,h2⟩
theorem erL_cons (tk:List (Nat×TTok U)) (x:It U) (xs:List (It U)):Jm D tk (x::xs)=(x.cells D).map (TA.er tk)++Jm D tk xs:=by
 unfold Jm
 rw [Yb,List.map_append]
theorem Gw {tk:List (Nat×TTok U)}:∀ {xs ys:List (It U)},JT tk xs=some ys→∀ {cs:List Proofs.YtjcfppnjamjjhaaGreatDoor.C},CSubs (Jm D tk ys) cs→CSubs (Jm D tk xs) cs
 | [],ys,h,cs,hc=>by cases h;exact hc
 | .grp t x::r,ys,h,cs,hc=>by
  unfold JT at h
  split at h
  ·rename_i zs hz;cases h
   rw [erL_cons] at hc ⊢
   obtain ⟨c1,c2,rfl,h1,h2⟩:=csubs_app hc
   exact h1.append (Gw hz h2)
  ·cases h
 | .one x::r,ys,h,cs,hc=>by
  unfold JT at h
  split at h
  ·rename_i y zs hy hz;cases h
   rw [erL_cons] at hc ⊢
   cases hc with
   | cons h1 h2=>exact .cons (settleA_ok hy h1) (Gw hz h2)
  ·cases h
theorem Du (hD:D.OK) {tk:List (Nat×TTok U)} {t:U.T} {xs:List (It U)} {x:U.R t} (h:Q0p D tk t xs=some x):CSubs (Jm D tk xs) ((U.E t).enc x):=by
 unfold Q0p at h
 split at h
 ·rename_i t' y
  unfold Q6x at h
  split at h
  ·rename_i e _;cases h
   subst e
   have e1:Jm D tk [It.grp t' y]=((U.E t').enc y).map .d:=by
    unfold Jm
    rw [Kw,Q1i hD]
   rw [e1]
   generalize (U.E t').enc y=l
   induction l with
   | nil=>exact .nil
   | cons c l ih=>exact .cons (.d c) ih
  ·cases h
 ·split at h
  ·rename_i ys hy;exact Gw hy (hD.bld tk t ys x h)
  ·cases h
theorem bldRow_ok (hD:D.OK) {tk:List (Nat×TTok U)} {t:U.T}:∀ {n:Nat} {xs:List (It U)} {l:List (U.R t)},Q39 D tk t n xs=some l→n * (U.E t).sz=QW xs→CSubs (Jm D tk xs) ((U.E t).encL l).flatten∧l.length=n
 | 0,xs,l,h,hs=>by
  cases h
  have hl:=Zx hD tk xs
  have:Jm D tk xs=[]:=List.length_eq_zero_iff.1 (by omega)
  rw [this]
  show CSubs [] ((U.E t).encL []).flatten∧_
  rw [(U.E t).nil]
  exact ⟨.nil,Z⟩
 | n+1,xs,l,h,hs=>by
  unfold Q39 at h
  split at h
  ·rename_i x l' hx hl
   cases h
   obtain ⟨s1,s2⟩:=ZH hD xs (U.E t).sz
   have hlen2:QW (Zk D xs (U.E t).sz).2=n * (U.E t).sz:=by
    rw [← Zw hD,s2,List.length_drop,Zw hD,← hs,Nat.add_mul];omega
   obtain ⟨i1,i2⟩:=bldRow_ok hD hl hlen2.symm
   have h0:=Du hD hx
   refine ⟨?_,by rw [List.length_cons,i2]⟩
   have e:Jm D tk xs=Jm D tk (Zk D xs (U.E t).sz).1++Jm D tk (Zk D xs (U.E t).sz).2:=by
    unfold Jm
    rw [s1,s2,← List.map_append,List.take_append_drop]
   rw [e]
   have e2:((U.E t).encL (x::l')).flatten=(U.E t).enc x++((U.E t).encL l').flatten:=by
    have:=Enc.cons (α:=U.R t) x l'
    show (Enc.encL (x::l')).flatten=_
    rw [this];rfl
   rw [e2]
   exact h0.append i1
  ·cases h
theorem encL_all (hD:D.OK) (t:U.T) (l:List (U.R t)):∀ x∈(U.E t).encL l,x.length=(U.E t).sz:=by
 intro x hx
 have e:(U.E t).encL l=l.map (U.E t).enc:=Enc.map (α:=U.R t) l
 rw [e] at hx
 obtain ⟨y,_,rfl⟩:=List.mem_map.1 hx
 exact hD.sz t y
theorem encL_len (t:U.T) (l:List (U.R t)):((U.E t).encL l).length=l.length:=Enc.len (α:=U.R t) l
theorem zeroRowI_er (tk:List (Nat×TTok U)) (zs:List Value) (len:Nat):Jm D tk (Dw zs len)=KC zs len:=by
 unfold Jm Dw KC
 rw [W1,List.map_map]
 refine List.map_congr_left fun k _=>?_
 show CA.d (Wm (U:=U) _).er=_
 rw [WS]
theorem fillT_size (hD:D.OK) {pl:List (Nat×Nat)}:∀ {avs:List (Nat×TAV U)} {xs ys:List (It U)},Q09 D pl xs avs=some ys→QW ys=QW xs
  | [],xs,ys,h=>by cases h;rfl
  | (i,x)::avs,xs,ys,h=>by
    unfold Q09 at h
    split at h
    · cases h
    · rename_i off size hp
      cases hb:(Nat.beq (QW x.items) size&&Nat.ble (off+size) (QW xs)) with
      | false=>rw [hb] at h;cases h
      | true =>
        rw [hb,cond_true] at h
        obtain ⟨b1,b2⟩:=Bool.and_eq_true_iff.1 hb
        have e1:=Nat.eq_of_beq_eq_true b1
        have e2:=Nat.le_of_ble_eq_true b2
        rw [fillT_size hD h,← Zx hD ([]:List (Nat×TTok U)),Q52 hD _ _ _ _ (by omega),Jq,Zx hD]
theorem litE_ok (hT:C.T.OK E.P) (hD:D.OK) {t len:Nat} {parts:Array (Nat×Operand)} (h:Qa7 D C st t len parts.toList=some r):EfOK D E ⟨dd,.buildSlice t len parts,ty,pos,af,g⟩ st r:=by
 unfold Qa7 at h
 split at h
 ·cases h
 ·rename_i e tc hs
  split at h
  ·rename_i zs avs hz ha
   cases hc:(Nat.beq zs.length (U.E tc).sz&&Nat.blt 0 (U.E tc).sz&&Nat.ble (len * (U.E tc).sz) 16777216) with
   | false=>rw [hc] at h;cases h
   | true =>
    rw [hc,cond_true] at h
    obtain ⟨b12,b3⟩:=Bool.and_eq_true_iff.1 hc
    obtain ⟨b1,b2⟩:=Bool.and_eq_true_iff.1 b12
    have e1:=Nat.eq_of_beq_eq_true b1
    have e2:0 < (U.E tc).sz:=Nat.le_of_ble_eq_true b2
    have e3:=Nat.le_of_ble_eq_true b3
    split at h
    ·rename_i ys hy
     split at h
     ·rename_i l hl;cases h
      obtain ⟨p1,p2⟩:=Uq (D:=D) ha
      have hf:=Q08 hD (tk:=st.m.tk) hy
      rw [zeroRowI_er] at hf
      have hsz:len * (U.E tc).sz=QW ys:=by
       rw [fillT_size hD hy,← Zx hD st.m.tk,zeroRowI_er]
       unfold KC
       rw [List.length_map,List.length_range,e1]
      obtain ⟨q1,q2⟩:=bldRow_ok hD hl hsz
      have key:=OpOK.litApp (E:=E) (st:=st.er D) (dd:=dd) (ty:=ty) (pos:=pos) (af:=af) (g:=g) ((U.E tc).encL l) (Wo hT hs) (hT.zero.get hz).1 e1 (hT.zero.get hz).2 e2 e3 (by rw [p1,List.length_map]) p2 hf q1 (encL_all hD tc l) (by rw [encL_len,q2])
      refine ⟨_,_,?_,fun j=>rfl,fun j x hx=>G9 rfl (fun j=>rfl) hx⟩
      have ex:(TTV.v (.one (.app st.m.nx 0)):TTV U).er D (YU (some (st.m.nx,(⟨e,tc,l,0⟩:TTok U))) st.m.tk)=.v (.one (.app st.m.nx (U.E tc).sz ((U.E tc).encL l))):=by
       show TV.v (.one (match cur ((st.m.nx,(⟨e,tc,l,0⟩:TTok U))::st.m.tk) st.m.nx 0 with
        | some T=>CA.app st.m.nx (U.E T.t).sz ((U.E T.t).encL T.l)
        | none=>CA.any))=_
       rw [Zy,if_pos rfl,if_pos rfl]
      rw [ex]
      exact key
     ·cases h
    ·cases h
  ·cases h
theorem appendE_ok (hT:C.T.OK E.P) {t:TypeId} {x y:Operand} (h:Q3d C st t x y=some r):EfOK D E ⟨dd,.call { callee:=.builtin .append,args:=#[x,y],argTypes:=#[t,t]},ty,pos,af,g⟩ st r:=by
 unfold Q3d at h
 split at h
 ·cases h
 ·rename_i e tc hs
  have ht:=Wo hT hs
  split at h
  ·rename_i sz' by_ yv he hy
   cases hc:(Nat.beq sz' (U.E tc).sz&&Nat.ble by_ 100000) with
   | false=>rw [hc] at h;cases h
   | true =>
    rw [hc,cond_true] at h
    obtain ⟨b1,b2⟩:=Bool.and_eq_true_iff.1 hc
    have e1:=Nat.eq_of_beq_eq_true b1
    have hte:=hT.elem.get he
    rw [e1] at hte
    split at h
    ·rename_i l2 hl2
     obtain ⟨z,hz,hzl⟩:=GT (D:=D) hl2
     have ey:=YB (D:=D) hy
     rw [hz] at ey
     split at h
     ·rename_i i ver hx
      split at h
      ·rename_i T hcur
       split at h
       ·rename_i l hl
        obtain ⟨et,rfl⟩:=YS hl
        subst et
        cases hE:(Nat.beq T.E e&&!(Nat.beq e 0)) with
        | false=>rw [hE] at h;cases h
        | true =>
         rw [hE] at h;cases h
         obtain ⟨hE1,hE2⟩:=Bool.and_eq_true_iff.1 hE
         have eE:=Nat.eq_of_beq_eq_true hE1
         have eN:Nat.beq e 0=false:=by simpa using hE2
         intro hg
         have hcur':=hcur
         unfold cur at hcur'
         split at hcur'
         ·rename_i T0 hlk
          cases hv:Nat.beq T0.ver ver with
          | false=>rw [hv] at hcur';cases hcur'
          | true =>
           rw [hv] at hcur';cases hcur'
           have ex:=YB (D:=D) hx
           have ex':ev (st.er D).tm x=some (.v (.one (.app i (U.E T.t).sz ((U.E T.t).encL T.l)))):=by
            rw [ex]
            show some (TV.v (.one (match cur st.m.tk i ver with
             | some T=>CA.app i (U.E T.t).sz ((U.E T.t).encL T.l)
             | none=>CA.any)))=_
            rw [hcur]
           have htok:Qcq (st.er D).tk i=some (some ⟨e,(U.E T.t).sz,((U.E T.t).encL T.l).length,[]⟩):=by
            show Qcq (QP TTok.erO st.m.tk) i=_
            rw [QR,hlk]
            show some T.erO=_
            rw [ZZ (by rw [eE];exact eN)]
            unfold TTok.er
            rw [eE]
           have key:=OpOK.appendE (α:=U.R T.t) (E:=E) (st:=st.er D) (d:=dd) (ty:=ty) (pos:=pos) (af:=af) (g:=g) ht hte b2 ex' htok rfl ey hzl hg
           refine ⟨_,_,?_,fun j=>rfl,fun j x hx=>G9 (y:=⟨e,(U.E T.t).sz,((U.E T.t).encL (T.l++l2)).length,[]⟩) rfl (fun j=>JM i _ _ j) hx⟩
           have ex2:(TTV.v (.one (.app i (ver+1))):TTV U).er D (YU (some (i,(⟨e,T.t,T.l++l2,ver+1⟩:TTok U))) st.m.tk)=.v (.one (.app i (U.E T.t).sz ((U.E T.t).encL (T.l++l2)))):=by
            show TV.v (.one (match cur ((i,(⟨e,T.t,T.l++l2,ver+1⟩:TTok U))::st.m.tk) i (ver+1) with
             | some T=>CA.app i (U.E T.t).sz ((U.E T.t).encL T.l)
             | none=>CA.any))=_
            rw [Zy,if_pos rfl,if_pos rfl]
           rw [ex2]
           exact key
         ·cases hcur'
       ·cases h
      ·cases h
     ·rename_i hx;cases h
      intro hg
      have key:=OpOK.appendNilE (α:=U.R tc) (E:=E) (st:=st.er D) (d:=dd) (ty:=ty) (pos:=pos) (af:=af) (g:=g) ht hte b2 (YB (D:=D) hx) ey hzl hg
      refine ⟨_,_,?_,fun j=>rfl,fun j x hx=>G9 rfl (fun j=>rfl) hx⟩
      have ex2:(TTV.v (.one (.app st.m.nx 0)):TTV U).er D (YU (some (st.m.nx,(⟨e,tc,l2,0⟩:TTok U))) st.m.tk)=.v (.one (.app st.m.nx (U.E tc).sz ((U.E tc).encL l2))):=by
       show TV.v (.one (match cur ((st.m.nx,(⟨e,tc,l2,0⟩:TTok U))::st.m.tk) st.m.nx 0 with
        | some T=>CA.app st.m.nx (U.E T.t).sz ((U.E T.t).encL T.l)
        | none=>CA.any))=_
       rw [Zy,if_pos rfl,if_pos rfl]
      rw [ex2]
      exact key
     ·cases h
    ·cases h
  ·cases h
theorem appendSE_ok (hT:C.T.OK E.P) {t t':TypeId} {x y:Operand} (h:Q0t C st t t' x y=some r):EfOK D E ⟨dd,.call { callee:=.builtin .append,args:=#[x,y],argTypes:=#[t,t']},ty,pos,af,g⟩ st r:=by
 unfold Q0t at h
 split at h
 case h_2=>cases h
 rename_i B e tc _u s hB hs hst hy
 split at h
 case h_2=>cases h
 rename_i heq sz' by_ hU he
 obtain ⟨eBt⟩:=heq
 subst eBt
 have ht:=Wo hT hs
 have ht1:Je E.P t=some (e,1):=by rw [ht];exact congrArg (fun n=>some (e,n)) B.sz
 have hsr:=hT.strs.get hst
 cases hc:(Nat.beq sz' 1&&Nat.ble by_ 100000) with
 | false=>rw [hc] at h;cases h
 | true =>
  rw [hc,cond_true] at h
  obtain ⟨b1,b2⟩:=Bool.and_eq_true_iff.1 hc
  have e1:=Nat.eq_of_beq_eq_true b1
  have hte:=hT.elem.get he
  rw [e1] at hte
  have ey:=YB (D:=D) hy
  split at h
  ·rename_i i ver hx
   split at h
   ·rename_i T hcur
    split at h
    ·rename_i l hl
     obtain ⟨et,rfl⟩:=YS hl
     obtain ⟨TE,Tt,Tl,Tv⟩:=T
     dsimp only at et
     subst et
     cases hE:(Nat.beq TE e&&!(Nat.beq e 0)) with
     | false=>rw [hE] at h;cases h
     | true =>
      rw [hE] at h;cases h
      obtain ⟨hE1,hE2⟩:=Bool.and_eq_true_iff.1 hE
      have eE:=Nat.eq_of_beq_eq_true hE1
      have eN:Nat.beq e 0=false:=by simpa using hE2
      subst eE
      intro hg
      have hcur':=hcur
      unfold cur at hcur'
      split at hcur'
      ·rename_i T0 hlk
       cases hv:Nat.beq T0.ver ver with
       | false=>rw [hv] at hcur';cases hcur'
       | true =>
        rw [hv] at hcur';cases hcur'
        have ex:=YB (D:=D) hx
        have ex':ev (st.er D).tm x=some (.v (.one (.app i 1 ((U.E B.t).encL Tl)))):=by
         rw [ex]
         show some (TV.v (.one (match cur st.m.tk i ver with
          | some T=>CA.app i (U.E T.t).sz ((U.E T.t).encL T.l)
          | none=>CA.any)))=_
         rw [hcur]
         show some (TV.v (.one (CA.app i (U.E B.t).sz ((U.E B.t).encL Tl))))=_
         rw [B.sz]
        have htok:Qcq (st.er D).tk i=some (some ⟨TE,1,((U.E B.t).encL Tl).length,[]⟩):=by
         show Qcq (QP TTok.erO st.m.tk) i=_
         rw [QR,hlk]
         show some (TTok.erO (⟨TE,B.t,Tl,_⟩:TTok U))=_
         rw [ZZ eN]
         show some (some (⟨TE,(U.E B.t).sz,((U.E B.t).encL Tl).length,[]⟩:Tok))=_
         rw [B.sz]
        have hg':Nat.ble (((U.E B.t).encL Tl).length+s.length) 1000000000=true:=by rw [Enc.len];exact hg
        have key:=OpOK.appendSE (E:=E) (st:=st.er D) (d:=dd) (ty:=ty) (pos:=pos) (af:=af) (g:=g) ht1 hsr hte b2 ex' htok ey hg'
        have ek:(⟨TE,B.t,Tl++B.bs s,ver+1⟩:TTok U).er=⟨TE,1,((U.E B.t).encL Tl++Qd4 s).length,[]⟩:=by
         show (⟨TE,(U.E B.t).sz,((U.E B.t).encL (Tl++B.bs s)).length,[]⟩:Tok)=_
         rw [B.sz,B.ok]
        refine ⟨(st.er D).hp,(i,some ⟨TE,1,((U.E B.t).encL Tl++Qd4 s).length,[]⟩)::QN i (st.er D).tk,?_,fun j=>rfl,fun j=>?_⟩
        rotate_left
        ·exact fun x hx=>G9 ek (fun j=>JM i _ _ j) hx
        have ex2:(TTV.v (.one (.app i (ver+1))):TTV U).er D (YU (some (i,(⟨TE,B.t,Tl++B.bs s,ver+1⟩:TTok U))) st.m.tk)=.v (.one (.app i 1 ((U.E B.t).encL Tl++Qd4 s))):=by
         show TV.v (.one (match cur ((i,(⟨TE,B.t,Tl++B.bs s,ver+1⟩:TTok U))::st.m.tk) i (ver+1) with
          | some T=>CA.app i (U.E T.t).sz ((U.E T.t).encL T.l)
          | none=>CA.any))=_
         rw [Zy,if_pos rfl,if_pos rfl]
         show TV.v (.one (CA.app i (U.E B.t).sz ((U.E B.t).encL (Tl++B.bs s))))=_
         rw [B.sz,B.ok]
        rw [ex2]
        exact key
      ·cases hcur'
    ·cases h
   ·cases h
  ·rename_i hx;cases h
   intro hg
   have key:=OpOK.appendSNil (E:=E) (st:=st.er D) (d:=dd) (ty:=ty) (pos:=pos) (af:=af) (g:=g) ht1 hsr hte b2 (YB (D:=D) hx) ey hg
   have em:(U.E B.t).encL (B.bs s)=Qd4 s:=by
    have:=B.ok [] s
    rw [List.nil_append] at this
    rw [this,show (U.E B.t).encL []=[] from List.eq_nil_of_length_eq_zero (Enc.len (α:=U.R B.t) [])];rfl
   refine ⟨(st.er D).hp,(st.m.nx,some ⟨e,1,(Qd4 s).length,[]⟩)::(st.er D).tk,?_,fun j=>rfl,fun j=>?_⟩
   rotate_left
   ·have ek:(⟨e,B.t,B.bs s,0⟩:TTok U).er=⟨e,1,(Qd4 s).length,[]⟩:=by
     show (⟨e,(U.E B.t).sz,((U.E B.t).encL (B.bs s)).length,[]⟩:Tok)=_
     rw [B.sz,em]
    exact fun x hx=>G9 ek (fun j=>rfl) hx
   have ex2:(TTV.v (.one (.app st.m.nx 0)):TTV U).er D (YU (some (st.m.nx,(⟨e,B.t,B.bs s,0⟩:TTok U))) st.m.tk)=.v (.one (.app st.m.nx 1 (Qd4 s))):=by
    show TV.v (.one (match cur ((st.m.nx,(⟨e,B.t,B.bs s,0⟩:TTok U))::st.m.tk) st.m.nx 0 with
     | some T=>CA.app st.m.nx (U.E T.t).sz ((U.E T.t).encL T.l)
     | none=>CA.any))=_
    rw [Zy,if_pos rfl,if_pos rfl]
    show TV.v (.one (CA.app st.m.nx (U.E B.t).sz ((U.E B.t).encL (B.bs s))))=_
    rw [B.sz,em]
   rw [ex2]
   exact key
  ·cases h
def US (W:Wd) (D:Codec U) (P:Program) (K:FuncId→List (TAV U)→Option (KR U)):Prop :=
 ∀ f args kr a,K f args=some kr→kr.o=some a→∃ ys,(∀ tk,ASubL (args.map (TAV.er D tk)) ys)∧∀ tk,FunW W P f ys ((kr.f a).er D tk)
variable {W:Wd}
variable {K:FuncId→List (TAV U)→Option (KR U)}
theorem settleV_ok {tk:List (Nat×TTok U)} {x y:TAV U} (h:XR tk x=some y) {z:AV} (hz:ASub (y.er D tk) z):ASub (x.er D tk) z:=by
 unfold XR at h
 split at h
 ·rename_i a
  split at h
  ·rename_i b hb;cases h
   cases hz with
   | one h=>exact .one (settleA_ok hb h)
  ·cases h
 ·rename_i xs
  split at h
  ·rename_i ys hy;cases h
   cases hz with
   | agg h =>
    refine .agg ?_
    have key:∀ {us vs ws:List CA},LSub us ws→(∀ cs,CSubs us cs→CSubs vs cs)→LSub vs ws:=by
     intro us vs ws h hk
     have h1:∃ cs:List Proofs.YtjcfppnjamjjhaaGreatDoor.C,ws=cs.map .d∧CSubs us cs:=by
      clear hk
      induction h with
      | nil=>exact ⟨[],rfl,.nil⟩
      | cons h t ih=>obtain ⟨cs,e,h2⟩:=ih;exact ⟨_::cs,by rw [e];rfl,.cons h h2⟩
     obtain ⟨cs,rfl,h2⟩:=h1
     have h3:=hk cs h2
     clear hk h h2
     induction h3 with
     | nil=>exact .nil
     | cons h t ih=>exact .cons h ih
    exact key h (fun cs hc=>Gw hy hc)
  ·cases h
theorem KE {tk:List (Nat×TTok U)}:∀ {xs ys:List (TAV U)},YP tk xs=some ys→∀ {zs:List AV},ASubL (ys.map (TAV.er D tk)) zs→ASubL (xs.map (TAV.er D tk)) zs
 | [],ys,h,zs,hz=>by cases h;exact hz
 | x::xs,ys,h,zs,hz=>by
  unfold YP at h
  split at h
  ·rename_i y ys' hy hys;cases h
   cases hz with
   | cons h1 h2=>exact .cons (settleV_ok hy h1) (KE hys h2)
  ·cases h
theorem Gr:∀ {os:List Operand} {xs:List (TAV U)},D9 st.tm os=some xs→YN (st.er D).tm os=some (xs.map (TAV.er D st.m.tk))
 | [],xs,h=>by cases h;rfl
 | o::os,xs,h=>by
  unfold D9 at h
  split at h
  ·rename_i x ys hx hys;cases h
   unfold YN
   rw [YB (D:=D) hx,Gr hys];rfl
  ·cases h
theorem callE_ok (hW:W.p E.V0.S E.w0) (hK:US W D E.P K) {x:Operand} {os:Array Operand} {ts:Array TypeId} (h:Q4m K st x os.toList=some r):EfOK D E ⟨dd,.call { callee:=.value x,args:=os,argTypes:=ts },ty,pos,af,g⟩ st r:=by
 unfold Q4m at h
 split at h
 ·rename_i f args hx ha
  split at h
  ·rename_i args' hs
   split at h
   ·rename_i kr hk;cases h
    intro a hoa
    obtain ⟨ys,h1,h2⟩:=hK f args' kr a hk hoa
    exact ⟨_,_,OpOK.callFunW hW (YB (D:=D) hx) (h2 st.m.tk) (Gr (D:=D) ha) (KE hs (h1 st.m.tk)),fun j=>rfl,fun j x hx=>hx⟩
   ·cases h
  ·cases h
 ·cases h
theorem tef_ok (hT:C.T.OK E.P) (hD:D.OK) (hW:W.p E.V0.S E.w0) (hK:US W D E.P K) {o:Oper} (h:Qat D C K st o=some r):EfOK D E o st r:=by
 obtain ⟨dd,op,ty,pos,af,g⟩:=o
 unfold Qat at h
 dsimp only at h
 split at h
 ·exact boxE_ok h
 ·exact allocE_ok hT h
 ·split at h
  ·exact storeE_ok hT hD h
  ·cases h
 ·exact litE_ok hT hD h
 ·rename_i c
  obtain ⟨callee,⟨xs⟩,⟨ts⟩⟩:=c
  dsimp only at h
  split at h
  ·rename_i x y t t'
   cases hb:Nat.beq t t' with
   | false=>rw [hb] at h;exact appendSE_ok hT h
   | true =>
    rw [hb] at h
    have e:=Nat.eq_of_beq_eq_true hb
    subst e
    exact appendE_ok hT h
  ·exact callE_ok hW hK h
  ·cases h
 ·cases h
end
end
section
open Go.RowKit
section
variable {U:Univ}
structure Sfx (a b:TSt U):Prop where
 tm:∃ p,b.tm=p++a.tm
 es:∃ p,b.m.es=p++a.m.es
 tk:∃ p,b.m.tk=p++a.m.tk
 nx:a.m.nx≤b.m.nx
 nt:b.nt=a.nt
 df:a.df=[]∨b.df=a.df
theorem Sfx.refl (a:TSt U):Sfx a a:=⟨⟨[],rfl⟩,⟨[],rfl⟩,⟨[],rfl⟩,Nat.le_refl _,rfl,.inr rfl⟩
theorem Sfx.trans {a b c:TSt U} (h:Sfx a b) (k:Sfx b c):Sfx a c:=by
 obtain ⟨⟨p1,e1⟩,⟨p2,e2⟩,⟨p3,e3⟩,h4,h5,h6⟩:=h
 obtain ⟨⟨q1,f1⟩,⟨q2,f2⟩,⟨q3,f3⟩,k4,k5,k6⟩:=k
 exact ⟨⟨q1++p1,by rw [f1,e1,List.append_assoc]⟩,⟨q2++p2,by rw [f2,e2,List.append_assoc]⟩,⟨q3++p3,by rw [f3,e3,List.append_assoc]⟩,Nat.le_trans h4 k4,k5.trans h5,by
  rcases h6 with h | h
  ·exact .inl h
  ·rcases k6 with k | k
   ·exact .inl (h.symm.trans k)
   ·exact .inr (k.trans h)⟩
theorem Sfx.put (st:TSt U) (dst:Option Nat) (x:TTV U):Sfx st ⟨Wa dst x st.tm,st.m,st.nt,st.df⟩:=by
 refine ⟨?_,⟨[],Z⟩,⟨[],Z⟩,Nat.le_refl _,Z,.inr Z⟩
 cases dst with
 | none=>exact ⟨[],rfl⟩
 | some d=>exact ⟨[(d,x)],rfl⟩
theorem Sfx.next (st:TSt U) (dst:Option Nat) (r:OR U) (h:st.m.nx≤r.nx):Sfx st (Q1c st dst r):=by
 refine ⟨?_,⟨r.es,Z⟩,?_,h,Z,.inr Z⟩
 ·cases dst with
  | none=>exact ⟨[],rfl⟩
  | some d=>exact ⟨[(d,r.x)],rfl⟩
 ·show ∃ p,YU r.tk st.m.tk=p++st.m.tk
  cases r.tk with
  | none=>exact ⟨[],rfl⟩
  | some q=>exact ⟨[q],rfl⟩
inductive CalT where
 | fn (f:FuncId)
 | yld (L:Nat)
 | dfr (f:FuncId) (u:Option Value)
structure CO (U:Univ) where
 run:{β:Type}→(TTV U→TMe U→Option β)→(Value→TMe U→Option β)→Option β
abbrev Qd6 (U:Univ):=Nat→List (TAV U)→TMe U→Option (CO U)
abbrev Qd7 (U:Univ):=Qd6 U→CalT→List (TAV U)→TMe U→Option (CO U)
inductive OutT (U:Univ) where
 | val (x:TTV U) (m:TMe U)
 | die (v:Value) (m:TMe U)
def OutT.m:OutT U→TMe U
 | .val _ m=>m
 | .die _ m=>m
def OutT.to {β:Type} (k:TTV U→TMe U→Option β) (d:Value→TMe U→Option β):OutT U→Option β
 | .val x m=>k x m
 | .die v m=>d v m
def OutT.er (D:Codec U):OutT U→OutM
 | .val x m=>.val (x.er D m.tk) (m.er D)
 | .die v m=>.die v (m.er D)
structure SfM (m m':TMe U):Prop where
 es:∃ p,m'.es=p++m.es
 tk:∃ p,m'.tk=p++m.tk
 nx:m.nx≤m'.nx
theorem SfM.refl (m:TMe U):SfM m m:=⟨⟨[],rfl⟩,⟨[],rfl⟩,Nat.le_refl _⟩
theorem SfM.trans {a b c:TMe U} (h:SfM a b) (k:SfM b c):SfM a c:=by
 obtain ⟨⟨p2,e2⟩,⟨p3,e3⟩,h4⟩:=h
 obtain ⟨⟨q2,f2⟩,⟨q3,f3⟩,k4⟩:=k
 exact ⟨⟨q2++p2,by rw [f2,e2,List.append_assoc]⟩,⟨q3++p3,by rw [f3,e3,List.append_assoc]⟩,Nat.le_trans h4 k4⟩
theorem Sfx.sfm {a b:TSt U} (h:Sfx a b):SfM a.m b.m:=⟨h.es,h.tk,h.nx⟩
def OpOut (E:Env) (o:Oper) (st:St):OutM→Prop
 | .val x m=>OpOK E o st x m
 | .die v m=>OpD E o st v m
def Q6g (m:TMe U) (xo:CO U) (S:OutT U→Prop):Prop:=∀ ⦃β:Type⦄ (k:TTV U→TMe U→Option β) (d:Value→TMe U→Option β) (r:β),xo.run k d=some r→∃ o,S o∧SfM m o.m∧o.to k d=some r
def Q6z (W:Wd) (D:Codec U) (P:Program) (L:Nat) (args:List (TAV U)) (m:TMe U) (o:OutT U):Prop:=∀ (E:Env) (st:St) (dd:Option Nat) (ty:TypeId) (pos:String) (af:Array Edge) (g:Option (Nat×Bool)) (x:Operand) (ars:Array Operand) (ats:Array TypeId),E.P=P→W.p E.V0.S E.w0 →
 ev st.tm x=some (.v (.one (.yld L)))→YN st.tm ars.toList=some (args.map (TAV.er D m.tk))→st.mem=m.er D→OpOut E ⟨dd,.call { callee:=.value x,args:=ars,argTypes:=ats },ty,pos,af,g⟩ st (o.er D)
def Zv (is:List Nat):List (TAV U):=is.map fun i=>.one (.ptr i 0)
def Q4p (W:Wd) (D:Codec U) (P:Program) (c:CalT) (args:List (TAV U)) (m:TMe U) (o:OutT U):Prop:=match c with
 | .fn f=>CallO W P f (args.map (TAV.er D m.tk)) (m.er D) (o.er D)
 | .yld L=>Q6z W D P L args m o
 | .dfr f u=>∃ is rc m2,args=Zv is∧o=.val (Qcf rc) m2∧DefM W P f is u (m.er D) (m2.er D) rc
def YOK (W:Wd) (D:Codec U) (P:Program) (Y:Qd6 U) (m0:TMe U):Prop:=∀ L args m xo,SfM m0 m→Y L args m=some xo→Q6g m xo (Q6z W D P L args m)
theorem YOK.mono {W:Wd} {D:Codec U} {P:Program} {Y:Qd6 U} {m m':TMe U} (h:YOK W D P Y m) (k:SfM m m'):YOK W D P Y m':=fun L args m2 xo hm hx=>h L args m2 xo (k.trans hm) hx
def X7 (W:Wd) (D:Codec U) (P:Program) (X:Qd7 U):Prop:=∀ Y c args m xo,YOK W D P Y m→X Y c args m=some xo→Q6g m xo (Q4p W D P c args m)
def XG (tk' tk:List (Nat×TTok U)):List (Nat×Nat):=(tk'.take (tk'.length - tk.length)).map fun p=>(p.1,p.2.ver)
def Z5 (ap:List (Nat×Nat)) (tm:List (Nat×TTV U)):Bool:=ap.all fun p=>!(tm.any fun q=>q.2.hasApp p.1 p.2)
def Q1m (caps:List (Nat×Nat)):List (TAV U):=caps.map fun p=>.one (.ptr p.1 p.2)
def Q6y (X:Qd7 U) (Y:Qd6 U) (st:TSt U) (o:Oper):Option (CO U):=match o.op with
 | .call { callee:=.value x,args:=os,argTypes:=_ }=>match YG st.tm x with
  | some (.v (.one (.fn f caps)))=>match D9 st.tm os.toList with
   | some vs=>X Y (.fn f) (vs++Q1m caps) st.m
   | none=>none
  | some (.v (.one (.raw (.yld L))))=>match D9 st.tm os.toList with
   | some vs=>Y L vs st.m
   | none=>none
  | _=>none
 | _=>none
def Q9a (st:TSt U) (o:Oper):Option Value:=match o.op with
 | .panic x=>match YG st.tm x with
  | some (.v (.one (.c (.v (.iface T v)))))=>some (.iface T v)
  | _=>none
 | _=>none
def Q4l:List (Nat×Nat)→Option (List Nat)
  | []=>some []
  | (i,k)::r=>cond (Nat.beq k 0) (match Q4l r with
    | some l=>some (i::l)
    | none=>none) none
def defT (st:TSt U) (o:Oper):Option (List Nat):=match o with
 | ⟨none,.defer { callee:=.value x,args:=os,argTypes:=_ },_,_,_,none⟩=>match os.toList,YG st.tm x with
  | [],some (.v (.one (.fn f caps)))=>match Q4l caps with
   | some is=>some (f::is)
   | none=>none
  | _,_=>none
 | _=>none
variable (D:Codec U) (C:TCfg U) (K:FuncId→List (TAV U)→Option (KR U)) (X:Qd7 U) (Y:Qd6 U) (rn:Option Nat)
def Q1a {β:Type} (o:Oper) (st:TSt U) (p:Value→TSt U→Option β) (k:TSt U→Option β):Option β :=
 match Q94 D C st o with
 | some r=>cond (Y0 st o.dst) (r.run fun x=>k ⟨Wa o.dst x st.tm,st.m,st.nt,st.df⟩) none
 | none=>match Qat D C K st o with
  | some e=>e.run fun q=>cond (DQ st (q.es++st.m.es) q.tk&&Y0 st o.dst&&Nat.ble st.m.nx q.nx) (k (Q1c st o.dst q)) none
  | none=>match Q6y X Y st o with
   | some xo=>cond (Y0 st o.dst) (xo.run (fun x m=>cond (Z5 (XG m.tk st.m.tk) st.tm) (k ⟨Wa o.dst x st.tm,m,st.nt,st.df⟩) none) fun v m=>cond (Z5 (XG m.tk st.m.tk) st.tm) (p v ⟨st.tm,m,st.nt,st.df⟩) none) none
   | none=>match Q9a st o with
    | some v=>p v st
    | none=>match rn,st.df,defT st o with
     | none,[],some df=>k ⟨st.tm,st.m,st.nt,df⟩
     | _,_,_=>none
def K2 (o:Oper) (st:TSt U):TSt U:=⟨Wa o.dst (.tup []) st.tm,st.m,st.nt,st.df⟩
def setB (st:TSt U) (d:Nat) (b:Bool):TSt U:=⟨(d,Qcf b)::st.tm,st.m,st.nt,st.df⟩
def De {β:Type} (ops:Array Oper) (p:Value→TSt U→Option β):List Oper→TSt U→(TSt U→Option β)→Option β
 | [],st,k=>k st
 | o::os,st,k=>match o.guard with
  | none=>Q1a D C K X Y rn o st p fun s=>De ops p os s k
  | some (j,b)=>match (ops[j]?).bind (·.dst) with
   | none=>none
   | some d=>match Qcq st.tm d with
    | some (.v (.one (.c (.v (.bool c)))))=>cond c
     (cond b (Q1a D C K X Y rn o (setB st d true) p fun s=>De ops p os s k) (De ops p os (K2 o (setB st d true)) k))
     (cond b (De ops p os (K2 o (setB st d false)) k) (Q1a D C K X Y rn o (setB st d false) p fun s=>De ops p os s k))
    | some (.tup [])=>De ops p os (K2 o st) k
    | _=>none
variable {D C K X Y rn}
theorem cur_front {p tk:List (Nat×TTok U)} {j u:Nat} (h:(j,u)∉p.map fun q=>(q.1,q.2.ver)):cur (p++tk) j u=none∨cur (p++tk) j u=cur tk j u:=by
 induction p with
 | nil=>exact .inr rfl
 | cons q p ih =>
  obtain ⟨i,T⟩:=q
  rw [List.map_cons,List.mem_cons] at h
  show cur ((i,T)::(p++tk)) j u=none∨cur ((i,T)::(p++tk)) j u=_
  rw [Zy]
  by_cases e:i=j
  ·rw [if_pos e]
   by_cases e2:T.ver=u
   ·exact (h (.inl (by rw [e,e2]))).elim
   ·rw [if_neg e2];exact .inl rfl
  ·rw [if_neg e];exact ih fun hm=>h (.inr hm)
theorem Gs {D:Codec U} {tm:List (Nat×TTV U)} {tk tk':List (Nat×TTok U)} (hf:Z5 (XG tk' tk) tm=true) (hc:∃ p,tk'=p++tk) {t:Nat} {z:TTV U} (hz:Qcq tm t=some z) (V:Vu) (w:World) (v:Value) (hv:(z.er D tk).rel V w v):(z.er D tk').rel V w v:=by
 obtain ⟨p,rfl⟩:=hc
 have e:XG (p++tk) tk=p.map fun q=>(q.1,q.2.ver):=by
  unfold XG
  rw [List.length_append,Nat.add_sub_cancel,List.take_left]
 rw [e] at hf
 refine ZM (fun j u hu=>cur_front fun hm=>?_) hv
 have h1:=List.all_eq_true.1 hf (j,u) hm
 have h2:tm.any (fun q=>q.2.hasApp j u)=false:=by simpa using h1
 exact List.any_eq_false.1 h2 (t,z) (Y3 hz) hu
theorem capsT_er (tk:List (Nat×TTok U)) (caps:List (Nat×Nat)):(Q1m caps).map (TAV.er D tk)=ZC caps:=by
 unfold Q1m ZC
 rw [List.map_map];rfl
structure Fit (W:Wd) (P:Program) (rn:Option Nat) (E:Env) (ro:Option Nat):Prop where
 P:E.P=P
 W:W.p E.V0.S E.w0
 rn:Ud E rn ro
theorem callX_ok {W:Wd} {P:Program} (hX:X7 W D P X) {st:TSt U} (hY:YOK W D P Y st.m) {o:Oper} {xo:CO U} (h:Q6y X Y st o=some xo):Q6g st.m xo fun r=>∀ E,E.P=P→W.p E.V0.S E.w0→OpOut E o (st.er D) (r.er D):=by
 unfold Q6y at h
 split at h
 ·rename_i x os ts hop
  obtain ⟨dd,op,ty,pos,af,g⟩:=o
  dsimp only at hop
  subst hop
  split at h
  ·rename_i f caps hx
   split at h
   ·rename_i vs has
    intro β k d r hr
    obtain ⟨q,h1,h2,h3⟩:=hX Y _ _ _ _ hY h k d r hr
    refine ⟨q,fun E hP hW=>?_,h2,h3⟩
    subst hP
    have h1':CallO W E.P f ((vs++Q1m caps).map (TAV.er D st.m.tk)) (st.m.er D) (q.er D):=h1
    rw [List.map_append,capsT_er] at h1'
    cases q with
    | val y m=>exact OpOK.callXW hW (YB (D:=D) hx) (Gr (D:=D) has) h1'
    | die v m=>exact OpD.callXW hW (YB (D:=D) hx) (Gr (D:=D) has) h1'
   ·cases h
  ·rename_i L hx
   split at h
   ·rename_i vs has
    intro β k d r hr
    obtain ⟨q,h1,h2,h3⟩:=hY _ _ _ _ (SfM.refl _) h k d r hr
    exact ⟨q,fun E hP hW=>h1 E (st.er D) dd ty pos af g x os ts hP hW (YB (D:=D) hx) (Gr (D:=D) has) Z,h2,h3⟩
   ·cases h
  ·cases h
 ·cases h
theorem rd_run1 {o:Oper} {st:TSt U} {r:RdR U} {β:Type} {k:TTV U→Option β} {v:β} (hk:r.run k=some v):∃ x,k x=some v∧∀ E,RdOK D E o st r→RO E o (st.er D) (x.er D st.m.tk):=by
 cases r with
 | val x=>exact ⟨x,hk,fun E h=>h⟩
 | grd g x=>obtain ⟨h1,h2⟩:=G2 hk;exact ⟨x,h2,fun E h=>h h1⟩
 | ix oo f=>obtain ⟨a,h1,h2⟩:=Ze hk;exact ⟨f a,h2,fun E h=>h a h1⟩
theorem ef_run1 {o:Oper} {st:TSt U} {r:EfR U} {β:Type} {k:OR U→Option β} {v:β} (hk:r.run k=some v):∃ x,k x=some v∧∀ E,EfOK D E o st r→OROK D E o st x:=by
 cases r with
 | val x=>exact ⟨x,hk,fun E h=>h⟩
 | grd g x=>obtain ⟨h1,h2⟩:=G2 hk;exact ⟨x,h2,fun E h=>h h1⟩
 | ix oo f=>obtain ⟨a,h1,h2⟩:=Ze hk;exact ⟨f a,h2,fun E h=>h a h1⟩
theorem panV_ok {E:Env} {st:TSt U} {o:Oper} {v:Value} (h:Q9a st o=some v):OpD E o (st.er D) v (st.er D).mem:=by
 unfold Q9a at h
 split at h
 ·rename_i x hop
  split at h
  ·rename_i T u hx;cases h
   obtain ⟨dd,op,ty,pos,af,g⟩:=o
   dsimp only at hop
   subst hop
   exact OpD.panic (YB (D:=D) hx)
  ·cases h
 ·cases h
theorem capsZ_ok:∀ {caps:List (Nat×Nat)} {is:List Nat},Q4l caps=some is→caps=is.map fun i=>(i,0)
  | [],is,h=>by cases h;rfl
  | (i,k)::r,is,h=>by
    have h':cond (Nat.beq k 0) (match Q4l r with
      | some l=>some (i::l)
      | none=>none) none=some is:=h
    cases hk:Nat.beq k 0 with
    | false=>rw [hk] at h';cases h'
    | true =>
      rw [hk,cond_true] at h'
      have e:=Nat.eq_of_beq_eq_true hk
      subst e
      cases hl:Q4l r with
      | none=>rw [hl] at h';cases h'
      | some l=>rw [hl] at h';cases h';rw [capsZ_ok hl];rfl
theorem XL.deferT {E:Env} {n:Nat} {ops:Array Oper} {Q:Exit→Act→World→Prop} {rest:List Oper} {st:St} {pos:String} {af:Array Edge} {ty:TypeId} {x:Operand} {ats:Array TypeId} {f:Nat} {is:List Nat} (hx:ev st.tm x=some (.v (.one (.fn f (is.map fun i=>(i,0)))))) (hdf:st.df=[])
  (k:XL E none n ops Q rest ⟨st.tm,st.hp,st.tk,st.nx,st.nt,f::is⟩):XL E none n ops Q (⟨none,.defer { callee:=.value x,args:=#[],argTypes:=ats },ty,pos,af,none⟩::rest) st:=by
 intro V a w hr
 unfold wpListIn
 rw [if_pos (by simp [Region.wanted])]
 refine ⟨fun _ _=>trivial,?_⟩
 obtain ⟨hv1,hv2⟩:=hr.ev hx
 have hps:((is.map fun i=>((i,0):Nat×Nat)).map fun p=>Value.pointer (some ⟨V.ι p.1,p.2,none⟩))=is.map (Kp V):=by rw [List.map_map];rfl
 have hrun:(Oper.semAt (Qdh none).round a.eval ⟨none,.defer { callee:=.value x,args:=#[],argTypes:=ats },ty,pos,af,none⟩).run E.P w=.ok (.defer (Q68 f (is.map (Kp V)))) w:=by
  simp [Qdh,Oper.semAt_none,execOp,resolve,hv2,Deferred.ofValue,← hps]
 rw [hrun]
 refine k V _ w ⟨hr.h,hr.nx,hr.nt,?_,hr.tm⟩
 obtain ⟨bs,h1,h2,h3⟩:=hr.df.of_nil hdf
 exact .inr ⟨f,is,[],bs,rfl,fun i hi=>hv1 (i,0) (List.mem_map.2 ⟨i,hi,rfl⟩),by simp only [List.map_nil,List.nil_append];rw [← h1];rfl,by simpa using ⟨h2,h3⟩⟩
section
variable {ops:Array Oper} {rest:List Oper} {β:Type} {r:β}
theorem skip_er (o:Oper) (st:TSt U):StW (Xm (st.er D) o.dst (.tup []) (st.er D).mem) ((K2 o st).er D):=by
 unfold K2
 cases o.dst with
 | none=>exact StW.refl _
 | some d =>
  refine ⟨fun t y hy=>.inr ⟨y,?_,fun _ _ _ h=>h⟩,fun i B h=>⟨B,h,fun _ _ _ h=>h⟩,fun i T h=>h,Z,Z,Z⟩
  show Qcq ((d,TV.tup [])::QN d (st.er D).tm) t=some y
  rw [JM];exact hy
theorem putR_er (st:TSt U) (dst:Option Nat) (x:TTV U):StW (Xm (st.er D) dst (x.er D st.m.tk) (st.er D).mem) ((⟨Wa dst x st.tm,st.m,st.nt,st.df⟩:TSt U).er D):=by
 cases dst with
 | none=>exact StW.refl _
 | some d =>
  refine ⟨fun t y hy=>.inr ⟨y,?_,fun _ _ _ h=>h⟩,fun i B h=>⟨B,h,fun _ _ _ h=>h⟩,fun i T h=>h,Z,Z,Z⟩
  show Qcq ((d,x.er D st.m.tk)::QN d (st.er D).tm) t=some y
  rw [JM];exact hy
theorem okDst_er {st:TSt U} {d:Option Nat} (h:Y0 st d=true):Zc (st.er D) d=true:=by
 cases d with
 | none=>rfl
 | some d=>exact h
theorem put_weak {st:TSt U} {dst:Option Nat} {x:TTV U} {m:TMe U} (h:∀ t z,Qcq st.tm t=some z→∀ V w v,(z.er D st.m.tk).rel V w v→(z.er D m.tk).rel V w v):StW (Xm (st.er D) dst (x.er D m.tk) (m.er D)) ((⟨Wa dst x st.tm,m,st.nt,st.df⟩:TSt U).er D):=by
 have old:∀ t y,Qcq (QP (TTV.er D m.tk) st.tm) t=some y→y=.unk∨∃ x,Qcq (QP (TTV.er D st.m.tk) st.tm) t=some x∧∀ V w v,x.rel V w v→y.rel V w v:=fun t y hy=>by
  rw [QR] at hy ⊢
  cases hz:Qcq st.tm t with
  | none=>rw [hz] at hy;cases hy
  | some z=>rw [hz] at hy;cases hy;exact .inr ⟨_,rfl,h t z hz⟩
 cases dst with
 | none=>exact ⟨old,fun i B h=>⟨B,h,fun _ _ _ h=>h⟩,fun i T h=>h,rfl,rfl,rfl⟩
 | some d =>
  refine ⟨fun t y hy=>?_,fun i B h=>⟨B,h,fun _ _ _ h=>h⟩,fun i T h=>h,Z,Z,Z⟩
  have hy':Qcq ((d,x.er D m.tk)::QP (TTV.er D m.tk) st.tm) t=some y:=hy
  show y=.unk∨∃ z,Qcq ((d,x.er D m.tk)::QN d (st.er D).tm) t=some z∧_
  rw [JM]
  rw [Q8] at hy' ⊢
  by_cases e:d=t
  ·rw [if_pos e] at hy' ⊢;cases hy';exact .inr ⟨_,rfl,fun _ _ _ h=>h⟩
  ·rw [if_neg e] at hy' ⊢;exact old t y hy'
theorem die_weak {st:TSt U} {m:TMe U} (h:∀ t z,Qcq st.tm t=some z→∀ V w v,(z.er D st.m.tk).rel V w v→(z.er D m.tk).rel V w v):StW (⟨(st.er D).tm,(m.er D).hp,(m.er D).tk,(m.er D).nx,st.nt,st.df⟩:St) ((⟨st.tm,m,st.nt,st.df⟩:TSt U).er D) :=
 ⟨fun t y hy=>by
  have hy':Qcq (QP (TTV.er D m.tk) st.tm) t=some y:=hy
  rw [QR] at hy'
  cases hz:Qcq st.tm t with
  | none=>rw [hz] at hy';cases hy'
  | some z =>
   rw [hz] at hy';cases hy'
   exact .inr ⟨z.er D st.m.tk,by show Qcq (QP _ st.tm) t=_;rw [QR,hz];rfl,h t z hz⟩,fun i B h=>⟨B,h,fun _ _ _ h=>h⟩,fun i T h=>h,rfl,rfl,rfl⟩
def OneL (D:Codec U) (W:Wd) (P:Program) (rn:Option Nat) (ops:Array Oper) (l0 l1:List Oper) {β:Type} (st:TSt U) (p:Value→TSt U→Option β) (k:TSt U→Option β) (r:β):Prop :=
 (∃ s,Sfx st s∧k s=some r∧∀ E ro n Q,Fit W P rn E ro→XL E ro n ops Q l1 (s.er D)→XL E ro n ops Q l0 (st.er D))∨(∃ v s,Sfx st s∧p v s=some r∧∀ E ro n Q,Fit W P rn E ro→XQ E Q (.panic (ZP v)) (s.er D)→XL E ro n ops Q l0 (st.er D))
theorem runOp_ok {P:Program} (hT:C.T.OK P) (hD:D.OK) {W:Wd} (hK:US W D P K) (hX:X7 W D P X) {o:Oper} {st:TSt U} (hY:YOK W D P Y st.m) {p:Value→TSt U→Option β} {k:TSt U→Option β} (h:Q1a D C K X Y rn o st p k=some r) (hg:QJ ops (st.er D).tm o=some true) :
  OneL D W P rn ops (o::rest) rest st p k r:=by
 unfold Q1a at h
 split at h
 ·rename_i rd hrd
  cases hd:Y0 st o.dst with
  | false=>rw [hd] at h;cases h
  | true =>
   rw [hd,cond_true] at h
   obtain ⟨x,h1,h2⟩:=rd_run1 (D:=D) (o:=o) (st:=st) h
   exact .inl ⟨_,Sfx.put st o.dst x,h1,fun E ro n Q f hl=>Q3i hg (Q9 (h2 E (Q4v (D:=D) (f.P.symm▸hT) hD hrd))) (okDst_er hd) (Uc (putR_er st o.dst x) hl)⟩
 ·split at h
  ·rename_i e he
   obtain ⟨q,h1,h2⟩:=ef_run1 (D:=D) (o:=o) (st:=st) h
   cases hc:(DQ st (q.es++st.m.es) q.tk&&Y0 st o.dst&&Nat.ble st.m.nx q.nx) with
   | false=>rw [hc] at h1;cases h1
   | true =>
    rw [hc,cond_true] at h1
    obtain ⟨b12,b3⟩:=Bool.and_eq_true_iff.1 hc
    obtain ⟨b1,b2⟩:=Bool.and_eq_true_iff.1 b12
    exact .inl ⟨_,Sfx.next st o.dst q (Nat.le_of_ble_eq_true b3),h1,fun E ro n Q f hl=>(h2 E (tef_ok (D:=D) (f.P.symm▸hT) hD f.W (f.P.symm▸hK) he)).next b1 b2 hg hl⟩
  ·split at h
   ·rename_i xo hxo
    cases b1:Y0 st o.dst with
    | false=>rw [b1] at h;cases h
    | true =>
     rw [b1,cond_true] at h
     obtain ⟨q,q1,q2,h2⟩:=callX_ok hX hY hxo _ _ _ h
     cases q with
     | val x m =>
      dsimp only [OutT.to] at h2
      cases b2:Z5 (XG m.tk st.m.tk) st.tm with
      | false=>rw [b2] at h2;cases h2
      | true =>
      rw [b2,cond_true] at h2
      refine .inl ⟨⟨Wa o.dst x st.tm,m,st.nt,st.df⟩,⟨?_,q2.es,q2.tk,q2.nx,Z,.inr Z⟩,h2,fun E ro n Q f hl=>Q3i hg (q1 E f.P f.W) (okDst_er b1) (Uc ?_ hl)⟩
      ·cases o.dst with
       | none=>exact ⟨[],rfl⟩
       | some d=>exact ⟨[(d,x)],rfl⟩
      ·exact put_weak (fun t z hz V w v hv=>Gs b2 q2.tk hz V w v hv)
     | die v m =>
      dsimp only [OutT.to] at h2
      cases b2:Z5 (XG m.tk st.m.tk) st.tm with
      | false=>rw [b2] at h2;cases h2
      | true =>
      rw [b2,cond_true] at h2
      exact .inr ⟨v,⟨st.tm,m,st.nt,st.df⟩,⟨⟨[],Z⟩,q2.es,q2.tk,q2.nx,Z,.inr Z⟩,h2,fun E ro n Q f hq=>XL.die (hp:=(m.er D).hp) (tk:=(m.er D).tk) (nx:=(m.er D).nx) hg (q1 E f.P f.W) (KU (die_weak fun t z hz V w v hv=>Gs b2 q2.tk hz V w v hv) hq)⟩
   ·split at h
    ·rename_i v hv
     exact .inr ⟨v,st,Sfx.refl st,h,fun E ro n Q f hq=>XL.die (hp:=(st.er D).hp) (tk:=(st.er D).tk) (nx:=(st.er D).nx) hg (panV_ok hv) hq⟩
    ·split at h
     ·rename_i df hrn hdf hdt
      unfold defT at hdt
      split at hdt
      ·split at hdt
       ·rename_i f caps hos hx
        split at hdt
        ·rename_i is hz;cases hdt
         have e:=capsZ_ok hz
         subst e
         have eo:=Array.ext' (ys:=#[]) hos
         subst eo
         refine .inl ⟨⟨st.tm,st.m,st.nt,f::is⟩,⟨⟨[],Z⟩,⟨[],Z⟩,⟨[],Z⟩,Nat.le_refl _,Z,.inl hdf⟩,h,fun E ro n Q ft hl=>?_⟩
         have ero:ro=none:=ft.rn
         subst ero
         exact XL.deferT (st:=st.er D) (YB (D:=D) hx) hdf hl
        ·cases hdt
       ·cases hdt
      ·cases hdt
     ·cases h
theorem WW (st:TSt U) (d:Nat) (b:Bool):Sfx st (setB st d b):=Sfx.put st (some d) (Qcf b)
theorem lk_setB (st:TSt U) (d:Nat) (b:Bool):Qcq ((setB st d b).er D).tm d=some (Qdb b):=by
 show Qcq ((d,Qdb b)::(st.er D).tm) d=_
 rw [Q8,if_pos rfl]
theorem OneL.trans {l0 l1 l2:List Oper} {st s1:TSt U} {p:Value→TSt U→Option β} {k:TSt U→Option β} (hs:Sfx st s1) {W:Wd} {P:Program} (h1:∀ E ro n Q,Fit W P rn E ro→XL E ro n ops Q l1 (s1.er D)→XL E ro n ops Q l0 (st.er D)) (h2:OneL D W P rn ops l1 l2 s1 p k r):OneL D W P rn ops l0 l2 st p k r:=by
 rcases h2 with ⟨s,q1,q2,q3⟩ | ⟨v,s,q1,q2,q3⟩
 ·exact .inl ⟨s,hs.trans q1,q2,fun E ro n Q f hl=>h1 E ro n Q f (q3 E ro n Q f hl)⟩
 ·exact .inr ⟨v,s,hs.trans q1,q2,fun E ro n Q f hl=>h1 E ro n Q f (q3 E ro n Q f hl)⟩
theorem OneL.bind {l0 l1 l2:List Oper} {st s0:TSt U} {p:Value→TSt U→Option β} {k:TSt U→Option β} {f:TSt U→Option β} {W:Wd} {P:Program} (hs0:Sfx st s0) (he:∀ E ro n Q,Fit W P rn E ro→XL E ro n ops Q l0 (s0.er D)→XL E ro n ops Q l0 (st.er D)) (h1:OneL D W P rn ops l0 l1 s0 p f r) (h2:∀ s,Sfx s0 s→f s=some r→OneL D W P rn ops l1 l2 s p k r):OneL D W P rn ops l0 l2 st p k r:=by
 rcases h1 with ⟨s,q1,q2,q3⟩ | ⟨v,s,q1,q2,q3⟩
 ·exact OneL.trans (hs0.trans q1) (fun E ro n Q f hl=>he E ro n Q f (q3 E ro n Q f hl)) (h2 s q1 q2)
 ·exact .inr ⟨v,s,hs0.trans q1,q2,fun E ro n Q f hl=>he E ro n Q f (q3 E ro n Q f hl)⟩
theorem U0 {P:Program} (hT:C.T.OK P) (hD:D.OK) {W:Wd} (hK:US W D P K) (hX:X7 W D P X) {p:Value→TSt U→Option β}:∀ (rest:List Oper) {st:TSt U} {k:TSt U→Option β},YOK W D P Y st.m→De D C K X Y rn ops p rest st k=some r→OneL D W P rn ops rest [] st p k r
 | [],st,k,hY,h=>.inl ⟨st,Sfx.refl st,h,fun E ro n Q f hl=>hl⟩
 | o::os,st,k,hY,h=>by
  unfold De at h
  split at h
  ·rename_i hgd
   exact OneL.bind (Sfx.refl st) (fun E ro n Q f hl=>hl) (runOp_ok (rest:=os) hT hD hK hX hY h (by unfold QJ;rw [hgd])) (fun s hs h'=>U0 hT hD hK hX os (hY.mono hs.sfm) h')
  ·rename_i j b hgd
   split at h
   ·cases h
   ·rename_i d hj
    split at h
    ·rename_i c hc
     have hlk:Qcq (st.er D).tm d=some (Qdb c):=by
      show Qcq (QP (TTV.er D st.m.tk) st.tm) d=_
      rw [QR,hc];rfl
     have hw:∀ b',QJ ops ((setB st d b').er D).tm o=some (b'==b):=fun b'=>by
      unfold QJ
      rw [hgd]
      dsimp only
      rw [hj]
      dsimp only
      rw [lk_setB]
     have cse:∀ b',c=b'→∀ E ro n Q,Fit W P rn E ro→XL E ro n ops Q (o::os) ((setB st d b').er D)→XL E ro n ops Q (o::os) (st.er D):=fun b' e E ro n Q f hl=>by
      subst e
      refine Qt hlk (fun ec=>?_) (fun ec=>?_)
      ·subst ec;exact hl
      ·subst ec;exact hl
     have run:∀ b',c=b'→Q1a D C K X Y rn o (setB st d b') p (fun s=>De D C K X Y rn ops p os s k)=some r→(b'==b)=true→OneL D W P rn ops (o::os) [] st p k r:=fun b' ec h' e =>
      OneL.bind (WW st d b') (cse b' ec) (runOp_ok (rest:=os) (st:=setB st d b') hT hD hK hX hY h' (by rw [hw,e])) (fun s hs h''=>U0 hT hD hK hX os (hY.mono hs.sfm) h'')
     have skip:∀ b',c=b'→De D C K X Y rn ops p os (K2 o (setB st d b')) k=some r→(b'==b)=false→OneL D W P rn ops (o::os) [] st p k r:=fun b' ec h' e =>
      OneL.trans ((WW st d b').trans (Sfx.put _ o.dst _)) (fun E ro n Q f hl=>cse b' ec E ro n Q f (XL.opNo (st:=(setB st d b').er D) (by rw [hw,e]) (Uc (skip_er o _) hl))) (U0 (st:=K2 o (setB st d b')) hT hD hK hX os hY h')
     cases ec:c with
     | true =>
      rw [ec,cond_true] at h
      cases b with
      | true=>exact run true ec h rfl
      | false=>exact skip true ec h rfl
     | false =>
      rw [ec,cond_false] at h
      cases b with
      | true=>exact skip false ec h rfl
      | false=>exact run false ec h rfl
    ·rename_i hc
     have hlk:Qcq (st.er D).tm d=some (.tup []):=by
      show Qcq (QP (TTV.er D st.m.tk) st.tm) d=_
      rw [QR,hc];rfl
     refine OneL.trans (Sfx.put _ o.dst _) (fun E ro n Q f hl=>XL.opNo (by
      unfold QJ
      rw [hgd]
      dsimp only
      rw [hj]
      dsimp only
      rw [hlk]) (Uc (skip_er o st) hl)) (U0 (st:=K2 o st) hT hD hK hX os hY h)
    ·cases h
end
end
end
section
open Go.RowKit
section
variable {U:Univ} {D:Codec U} {C:TCfg U} {K:FuncId→List (TAV U)→Option (KR U)}
def Q13 {α:Type} (a b:List α):List α:=b.take (b.length - a.length)
def UY (i:Nat):Ev U→Bool
 | .box j _ _=>!(Nat.beq j i)
 | .raw j _=>!(Nat.beq j i)
 | .lp j _ _ _ _ _ _ _ _=>!(Nat.beq j i)
 | .ls j _=>!(Nat.beq j i)
 | .set j _ _=>!(Nat.beq j i)
theorem rdI_skip {i off n:Nat} {es:List (Ev U)}:∀ {p:List (Ev U)},p.all (UY i)=true→Wc D (p++es) i off n=Wc D es i off n
 | [],h=>rfl
 | e::p,h=>by
  obtain ⟨h1,h2⟩:=Bool.and_eq_true_iff.1 h
  have ih:=rdI_skip (es:=es) (off:=off) (n:=n) h2
  cases e with
  | box j T xs =>
   have hj:Nat.beq j i=false:=by simpa [UY] using h1
   show cond (Nat.beq j i) _ _=_
   rw [hj];exact ih
  | raw j B =>
   have hj:Nat.beq j i=false:=by simpa [UY] using h1
   show cond (Nat.beq j i) _ _=_
   rw [hj];exact ih
  | lp j s p tm nt ps a b d =>
   have hj:Nat.beq j i=false:=by simpa [UY] using h1
   show cond (Nat.beq j i) _ _=_
   rw [hj];exact ih
  | ls j xs =>
   have hj:Nat.beq j i=false:=by simpa [UY] using h1
   show cond (Nat.beq j i) _ _=_
   rw [hj];exact ih
  | set j o xs =>
   have hj:Nat.beq j i=false:=by simpa [UY] using h1
   show (match Wc D (p++es) i off n with
    | none=>none
    | some ys=>cond (Nat.beq j i) _ (some ys))=_
   rw [ih,hj]
   cases Wc D es i off n <;> rfl
def Q55:TA U→Bool
 | .app _ _=>false
 | _=>true
def noAppI:It U→Bool
 | .one x=>Q55 x
 | .grp _ _=>true
def Q28:TAV U→Bool
 | .one x=>Q55 x
 | .agg xs=>xs.all noAppI
def Xl:Option (TTV U)→Bool
 | some (.v (.one (.app _ _)))=>false
 | _=>true
theorem Q3c {tk tk':List (Nat×TTok U)} {t:U.T} {x:TTV U} (h:Xl (some x)=true):KB tk t x=KB tk' t x:=by
 unfold KB
 split
 ·rfl
 ·rfl
 ·cases h
 ·rfl
theorem settleA_na {tk tk':List (Nat×TTok U)} {x:TA U} (h:Q55 x=true):K6 tk x=K6 tk' x:=by
 cases x <;> first | rfl | cases h
theorem Wp {tk tk':List (Nat×TTok U)}:∀ {xs:List (It U)},xs.all noAppI=true→JT tk xs=JT tk' xs
 | [],h=>rfl
 | It.grp t x::r,h=>by
  have h2:=(Bool.and_eq_true_iff.1 h).2
  show (match JT tk r with
   | some ys=>some (It.grp t x::ys)
   | none=>none)=_
  rw [Wp (tk':=tk') h2];rfl
 | It.one x::r,h=>by
  obtain ⟨h1,h2⟩:=Bool.and_eq_true_iff.1 h
  show (match K6 tk x,JT tk r with
   | some y,some ys=>some (It.one y::ys)
   | _,_=>none)=_
  rw [Wp (tk':=tk') h2,settleA_na (tk':=tk') h1];rfl
theorem settleV_na {tk tk':List (Nat×TTok U)} {x:TAV U} (h:Q28 x=true):XR tk x=XR tk' x:=by
 cases x with
 | one x =>
  show (match K6 tk x with
   | some y=>some (TAV.one y)
   | none=>none)=_
  rw [settleA_na (tk':=tk') h];rfl
 | agg xs =>
  show (match JT tk xs with
   | some ys=>some (TAV.agg ys)
   | none=>none)=_
  rw [Wp (tk':=tk') h];rfl
theorem settleVs_na {tk tk':List (Nat×TTok U)}:∀ {xs:List (TAV U)},xs.all Q28=true→YP tk xs=YP tk' xs
 | [],h=>rfl
 | x::xs,h=>by
  obtain ⟨h1,h2⟩:=Bool.and_eq_true_iff.1 h
  show (match XR tk x,YP tk xs with
   | some y,some ys=>some (y::ys)
   | _,_=>none)=_
  rw [settleVs_na (tk':=tk') h2,settleV_na (tk':=tk') h1];rfl
def Qav (tm:List (Nat×TTV U)) (p:List (Ev U)) (o:Oper):Bool:=match o.op with
 | .load _ x=>match YG tm x with
  | some (.v (.one (.ptr i _)))=>p.all (UY i)
  | _=>true
 | .indexAddr _ x _=>Xl (YG tm x)
 | .slice _ x _ _ _=>match YG tm x with
  | some (.v (.one (.c (.str _))))=>true
  | _=>false
 | .convert _ _ x=>Xl (YG tm x)
 | .call c=>match c.callee with
  | .builtin _=>c.args.toList.all fun x=>Xl (YG tm x)
  | _=>match D9 tm c.args.toList with
   | some vs=>vs.all Q28
   | none=>false
 | _=>true
theorem lenR_q {tm:List (Nat×TTV U)} {m m':TMe U} {nt:Nat} {df:List Nat} {t:TypeId} {x:Operand} (h:Xl (YG tm x)=true):Q7d C ⟨tm,m',nt,df⟩ t x=Q7d C ⟨tm,m,nt,df⟩ t x:=by
 unfold Q7d
 dsimp only
 cases hx:YG tm x with
 | none=>rfl
 | some v =>
  rw [hx] at h
  have key:∀ t,KB m'.tk t v=KB m.tk t v:=fun t=>Q3c h
  have fin:∀ (w:TTV U),w=v→(match Q74 C t with
   | some (_,tc)=>match KB m'.tk tc w with
    | some l=>some (RdR.val (U:=U) (Qce .i64 l.length))
    | none=>none
   | none=>none)=(match Q74 C t with
   | some (_,tc)=>match KB m.tk tc w with
    | some l=>some (RdR.val (Qce .i64 l.length))
    | none=>none
   | none=>none):=fun w e=>by
   subst e
   cases Q74 C t with
   | none=>rfl
   | some q =>
    obtain ⟨e,tc⟩:=q
    dsimp only
    rw [key]
  cases v with
  | v a =>
   cases a with
   | one b =>
    cases b with
    | c z=>cases z <;> first | rfl | exact fin _ rfl
    | _=>exact fin _ rfl
   | agg xs=>exact fin _ rfl
  | tup xs=>exact fin _ rfl
  | unk=>exact fin _ rfl
theorem trd_q {tm:List (Nat×TTV U)} {m m':TMe U} {nt:Nat} {df:List Nat} {p:List (Ev U)} (he:m'.es=p++m.es) {o:Oper} (h:Qav tm p o=true):Q94 D C ⟨tm,m',nt,df⟩ o=Q94 D C ⟨tm,m,nt,df⟩ o:=by
 obtain ⟨dd,op,ty,pos,af,g⟩:=o
 cases op with
 | load t x =>
  show Ux D C ⟨tm,m',nt,df⟩ t x=Ux D C ⟨tm,m,nt,df⟩ t x
  have h':(match YG tm x with
   | some (.v (.one (.ptr i _)))=>p.all (UY i)
   | _=>true)=true:=h
  unfold Ux
  dsimp only
  cases hx:YG tm x with
  | none=>rfl
  | some v =>
   rw [hx] at h'
   cases v with
   | v a =>
    cases a with
    | one b =>
     cases b with
     | ptr i off =>
      have key:∀ n,Wc D m'.es i off n=Wc D m.es i off n:=fun n=>by rw [he];exact rdI_skip h'
      dsimp only
      simp only [key]
     | _=>rfl
    | agg xs=>rfl
   | tup xs=>rfl
   | unk=>rfl
 | indexAddr t x y =>
  show UE C ⟨tm,m',nt,df⟩ t x y=UE C ⟨tm,m,nt,df⟩ t x y
  have h':Xl (YG tm x)=true:=h
  unfold UE
  dsimp only
  cases hx:YG tm x with
  | none=>cases Q74 C t <;> cases Wn (YG tm y) <;> rfl
  | some v =>
   rw [hx] at h'
   have key:∀ t,KB m'.tk t v=KB m.tk t v:=fun t=>Q3c h'
   cases Q74 C t with
   | none=>rfl
   | some q =>
    obtain ⟨e,tc⟩:=q
    cases Wn (YG tm y) with
    | none=>rfl
    | some k =>
     dsimp only
     rw [key]
 | slice t x lo hi mx =>
  show Um C ⟨tm,m',nt,df⟩ t x lo hi mx=Um C ⟨tm,m,nt,df⟩ t x lo hi mx
  have h':(match YG tm x with
   | some (.v (.one (.c (.str _))))=>true
   | _=>false)=true:=h
  unfold Um
  dsimp only
  split at h'
  ·rename_i s hx
   rw [hx]
   cases mx <;> rfl
  ·cases h'
 | convert s t x =>
  show Q1l C ⟨tm,m',nt,df⟩ s t x=Q1l C ⟨tm,m,nt,df⟩ s t x
  have h':Xl (YG tm x)=true:=h
  have e:UN C ⟨tm,m',nt,df⟩ s t x=UN C ⟨tm,m,nt,df⟩ s t x:=by
   unfold UN
   dsimp only
   cases hx:YG tm x with
   | none=>cases C.bt <;> cases Qcq C.T.byt s <;> cases Qcq C.T.strs t <;> rfl
   | some v =>
    rw [hx] at h'
    have key:∀ t,KB m'.tk t v=KB m.tk t v:=fun t=>Q3c h'
    cases C.bt with
    | none=>rfl
    | some B =>
     cases Qcq C.T.byt s with
     | none=>rfl
     | some u1 =>
      cases Qcq C.T.strs t with
      | none=>rfl
      | some u2 =>
       dsimp only
       rw [key]
  unfold Q1l
  rw [e]
 | call c =>
  obtain ⟨callee,⟨xs⟩,⟨ts⟩⟩:=c
  cases callee with
  | builtin b =>
   have h':(xs.all fun x=>Xl (YG tm x))=true:=h
   show Gn C ⟨tm,m',nt,df⟩ b xs ts=Gn C ⟨tm,m,nt,df⟩ b xs ts
   unfold Gn
   split
   ·exact lenR_q (Bool.and_eq_true_iff.1 h').1
   ·rfl
   ·rfl
   ·rfl
  | _=>rfl
 | _=>rfl
def Q6c (q:List (Nat×TTok U)):TA U→Bool
 | .app j _=>q.all fun p=>!(Nat.beq p.1 j)
 | _=>true
variable (D) in
def Q6b (q:List (Nat×TTok U)):TAV U→Bool
 | .one x=>Q6c q x
 | .agg xs=>(Yc D xs).all (Q6c q)
variable (D) in
def Q0r (q:List (Nat×TTok U)):TTV U→Bool
 | .v x=>Q6b D q x
 | .tup xs=>xs.all (Q6b D q)
 | .unk=>true
theorem lk_out {α:Type} {j:Nat}:∀ {q:List (Nat×α)},(q.all fun p=>!(Nat.beq p.1 j))=true→Qcq q j=none
 | [],h=>rfl
 | p::q,h=>by
  obtain ⟨h1,h2⟩:=Bool.and_eq_true_iff.1 h
  have hj:Nat.beq p.1 j=false:=by simpa using h1
  show cond (Nat.beq p.1 j) _ _=_
  rw [hj];exact lk_out h2
theorem avoidA_er {q tk:List (Nat×TTok U)} {x:TA U} (h:Q6c q x=true):x.er (q++tk)=x.er tk:=by
 cases x with
 | app j u =>
  have h':(q.all fun p=>!(Nat.beq p.1 j))=true:=h
  show (match cur (q++tk) j u with
   | some T=>CA.app j (U.E T.t).sz ((U.E T.t).encL T.l)
   | none=>CA.any)=_
  have:cur (q++tk) j u=cur tk j u:=by
   unfold cur
   rw [JH,lk_out h']
  rw [this];rfl
 | c x=>rfl
 | ptr i off=>rfl
 | pel t x off=>rfl
 | fn f caps=>rfl
 | raw x=>rfl
theorem avoidV_er {q tk:List (Nat×TTok U)} {x:TAV U} (h:Q6b D q x=true):x.er D (q++tk)=x.er D tk:=by
 cases x with
 | one x=>exact congrArg AV.one (avoidA_er h)
 | agg xs =>
  show AV.agg ((Yc D xs).map (TA.er (q++tk)))=AV.agg ((Yc D xs).map (TA.er tk))
  congr 1
  exact List.map_congr_left fun x hx=>avoidA_er (List.all_eq_true.1 h x hx)
theorem W7 {q tk:List (Nat×TTok U)} {x:TTV U} (h:Q0r D q x=true):x.er D (q++tk)=x.er D tk:=by
 cases x with
 | v x=>exact congrArg TV.v (avoidV_er h)
 | tup xs =>
  show TV.tup (xs.map (TAV.er D (q++tk)))=TV.tup (xs.map (TAV.er D tk))
  congr 1
  exact List.map_congr_left fun x hx=>avoidV_er (List.all_eq_true.1 h x hx)
 | unk=>rfl
variable (D) in
def Q6o (tm:List (Nat×TTV U)) (m:TMe U) (o:Oper) (x:TTV U) (up:Bool) (m':TMe U):Bool :=
 cond up (Qav tm (Q13 m.es m'.es) o&&(Q0r D (Q13 m.tk m'.tk) x&&tm.all fun p=>Q0r D (Q13 m.tk m'.tk) p.2)) (Qav tm (Q13 m'.es m.es) o&&(Q0r D (Q13 m'.tk m.tk) x&&tm.all fun p=>Q0r D (Q13 m'.tk m.tk) p.2))
end
end
end Go.Proofs.YtjcfppnjamjjhaaGreatDoor
