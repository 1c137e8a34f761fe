/- The statement UniverseEntailsUpto is proved here: for every list of bounds and every bound the law returns true, and what it is given reads behind the call as it did before; condition: the arguments are of bulk at most 1048576 (the second form). -/
import Derived.Test.YtkimijmiphkddaaK54
import Derived.Deep.Slices
import Derived.ChangeSame
import Derived.Test.YtkimijmiphkddaaRows
import Derived.Test.YtkimijmiphkddaaProg
import Derived.Test.YtkimijmiphkddaaChecked
import Derived.ProofKit
import Derived.Carry
import Derived.JoinedCond
set_option maxRecDepth 100000
set_option maxHeartbeats 2000000
set_option linter.unusedSimpArgs false
set_option linter.unusedVariables false
set_option linter.unusedSectionVars false
namespace Go.Proofs.Ytkimijmiphkddaa
open Go.RowKit Go.Shelf
theorem least_nat (P:Nat→Prop):∀ n,P n→∃ k,P k∧∀ j,P j→k≤j:=by
 intro n
 induction n using Nat.strongRecOn with
 | _ n ih =>
  intro h
  by_cases c:∃ j,j < n∧P j
  ·obtain ⟨j,h1,h2⟩:=c
   exact ih j h1 h2
  ·exact ⟨n,h,fun j hj=>Nat.le_of_not_lt fun hlt=>c ⟨j,hlt,hj⟩⟩
def LeastF (N:Nat) (es:List Edg) (y:Nat→Int):Prop:=SolF N es y∧∀ z,SolF N es z→∀ i,i < N→y i≤z i
theorem least_ex {N:Nat} {es:List Edg} (hes:∀ e∈es,EdgOk N e) {x:Nat→Int} (hx:SolF N es x):∃ y,LeastF N es y:=by
 have h:∀ i,∃ k:Nat,i < N→(∃ z,SolF N es z∧z i=(k:Int))∧∀ j:Nat,(∃ z,SolF N es z∧z i=(j:Int))→k≤j:=by
  intro i
  by_cases hi:i < N
  ·obtain ⟨k,h1,h2⟩:=least_nat (fun k=>∃ z,SolF N es z∧z i=(k:Int)) (x i).toNat ⟨x,hx,by have:=hx.nn i hi;omega⟩
   exact ⟨k,fun _=>⟨h1,h2⟩⟩
  ·exact ⟨0,fun h=>(hi h).elim⟩
 obtain ⟨f,hf⟩:=Classical.axiomOfChoice h
 have hle:∀ z,SolF N es z→∀ i,i < N→(f i:Int)≤z i:=fun z hz i hi=>by
  have h0:=hz.nn i hi
  have:=(hf i hi).2 (z i).toNat ⟨z,hz,by omega⟩
  omega
 refine ⟨fun i=>(f i:Int),⟨fun e he=>?_,fun i hi=>?_,fun i hi=>Int.natCast_nonneg _⟩,hle⟩
 ·obtain ⟨q1,q2,q3,q4,q5,q6⟩:=hes e he
  obtain ⟨z,hz,hzi⟩:=(hf e.to.toNat (by omega)).1
  have h1:=hz.edge e he
  have h2:=hle z hz e.fr.toNat (by omega)
  unfold eSat at h1 ⊢
  dsimp only
  omega
 ·obtain ⟨z,hz,hzi⟩:=(hf i hi).1
  have h1:=hz.low i hi
  have h2:=hle z hz 0 (by omega)
  omega
theorem tight {N:Nat} {es:List Edg} (hes:∀ e∈es,EdgOk N e) {y:Nat→Int} (hy:LeastF N es y) (f:Nat→Int) (h0:∀ i,i < N→0≤f i) (hle:∀ i,i < N→f i≤y i) (hne:∃ i,i < N∧f i < y i) :
  (∃ e∈es,f e.fr.toNat=y e.fr.toNat∧f e.to.toNat < y e.to.toNat∧y e.fr.toNat+e.by_=y e.to.toNat)∨∃ i,i < N∧f 0=y 0∧f i < y i∧y 0=y i:=by
 refine Classical.byContradiction fun hn=>?_
 have hn1:∀ e∈es,f e.fr.toNat=y e.fr.toNat→f e.to.toNat < y e.to.toNat→y e.fr.toNat+e.by_ ≠ y e.to.toNat:=fun e he a b c=>hn (.inl ⟨e,he,a,b,c⟩)
 have hn2:∀ i,i < N→f 0=y 0→f i < y i→y 0 ≠ y i:=fun i hi a b c=>hn (.inr ⟨i,hi,a,b,c⟩)
 obtain ⟨i,hi,hlt⟩:=hne
 have hz:SolF N es (fun i=>if f i < y i then y i - 1 else y i):=by
  refine ⟨fun e he=>?_,fun i hi=>?_,fun i hi=>?_⟩
  ·obtain ⟨q1,q2,q3,q4,q5,q6⟩:=hes e he
   have g1:=hy.1.edge e he
   have g2:=hn1 e he
   have g3:=hle e.fr.toNat (by omega)
   have g4:=hle e.to.toNat (by omega)
   unfold eSat at g1 ⊢
   dsimp only
   generalize f e.fr.toNat=a at *
   generalize f e.to.toNat=b at *
   generalize y e.fr.toNat=c at *
   generalize y e.to.toNat=d at *
   split <;> split <;> omega
  ·have g1:=hy.1.low i hi
   have g2:=hn2 i hi
   have g3:=hle 0 (by omega)
   have g4:=hle i hi
   split <;> split <;> omega
  ·have g1:=h0 i hi
   have g2:=hle i hi
   split <;> omega
 have:=hy.2 _ hz i hi
 rw [if_pos hlt] at this
 omega
def cntF (f y:Nat→Int):Nat→Nat
 | 0=>0
 | n+1=>cntF f y n+(if f n < y n then 1 else 0)
theorem cntF_le {f g y:Nat→Int}:∀ n,(∀ i,i < n→f i≤g i)→cntF g y n≤cntF f y n
 | 0,_=>Nat.le_refl _
 | n+1,h=>by
  have h1:=cntF_le (y:=y) n (fun i hi=>h i (by omega))
  have h2:=h n (by omega)
  unfold cntF
  split <;> split <;> omega
theorem cntF_lt {f g y:Nat→Int} {v:Nat}:∀ n,(∀ i,i < n→f i≤g i)→v < n→f v < y v→y v≤g v→cntF g y n+1≤cntF f y n
 | 0,_,hv,_,_=>by omega
 | n+1,h,hv,h1,h2=>by
  have h3:=h n (by omega)
  unfold cntF
  by_cases c:v=n
  ·subst c
   have h4:=cntF_le (y:=y) v (fun i hi=>h i (by omega))
   rw [if_pos h1,if_neg (by omega)];omega
  ·have h4:=cntF_lt n (fun i hi=>h i (by omega)) (by omega) h1 h2
   split <;> split <;> omega
theorem cntF_bd {f y:Nat→Int}:∀ n,cntF f y n≤n
 | 0=>Nat.le_refl _
 | n+1=>by
  have:=cntF_bd (f:=f) (y:=y) n
  unfold cntF
  split <;> omega
theorem fa_rep (N i:Nat):fa (List.replicate N (0:Int)) i=0:=by
 unfold fa
 rw [List.getElem?_replicate]
 split <;> rfl
theorem feasible_eq (N:Nat) (es:List Edg) (hN0:0 < N) (hN:N≤10000) (hl:es.length≤10000) (hes:∀ e∈es,EdgOk N e):∃ b:Bool,m47 (N:Int) es=some b∧(b=true↔∃ y,SolF N es y):=by
 have key:=loop_all (step:=m47_l2 (N:Int) es) (List.range (N+1)) (fun i (far:List Int)=>(i,far))
  (fun a far=>far.length=N∧(∀ i,i < N→0≤fa far i)∧(∀ i,i < N→fa far i≤201 * (10000 * (a.length:Int)))∧∀ y,LeastF N es y→(∀ i,i < N→fa far i≤y i)∧cntF (fa far) y N+a.length≤N)
  (fun r=>(r=.inr true∧∃ y,SolF N es y)∨∃ s,r=.inl s∧¬ ∃ y,SolF N es y)
  (by rw [List.length_range];omega)
  (fun a x b far eq hI=>?_) (fun far hI=>?_) (List.replicate N 0)
  ⟨List.length_replicate,fun i hi=>by rw [fa_rep];exact Int.le_refl _,fun i hi=>by rw [fa_rep];show (0:Int)≤201 * (10000 * 0);omega,fun y hy=>⟨fun i hi=>by rw [fa_rep];exact hy.1.nn i hi,cntF_bd N⟩⟩
 ·obtain ⟨r,k1,k2⟩:=key
  have e1:m47 (N:Int) es=Option.bind (loopN (m47_l2 (N:Int) es) FUEL (0,List.replicate N 0)) (Sum.elim (fun (o2:List Int)=>some false) (fun o=>some o)):=by
   unfold m47
   rw [Int.toNat_natCast,decide_eq_true (show (0:Int)≤(N:Int) by omega),cond_true,guard_le (by omega)]
  rw [e1]
  have k1':loopN (m47_l2 (N:Int) es) FUEL (0,List.replicate N 0)=some r:=k1
  rw [k1']
  rcases k2 with ⟨rfl,k3⟩ | ⟨s,rfl,k3⟩
  ·exact ⟨true,rfl,fun _=>k3,fun _=>rfl⟩
  ·exact ⟨false,rfl,fun h=>(by cases h),fun h=>(k3 h).elim⟩
 ·obtain ⟨i1,i2,i3,i4⟩:=hI
  have ham:=mid_lt eq
  rw [List.length_range] at ham
  obtain ⟨r1,a1,a2,a3,a4,a5,a6,a7,a8⟩:=edges_eq N es (by omega) hes far i1 (201 * (10000 * (a.length:Int))) (by omega) (by omega) i2 i3
  obtain ⟨ch1,f1⟩:=r1
  dsimp only at a2 a3 a4 a5 a6 a7 a8
  obtain ⟨r2,b1,b2,b3,b4,b5,b6,b7,b8⟩:=floor_eq N hN0 (by omega) ch1 f1 a2 _ a8
  obtain ⟨ch,f⟩:=r2
  dsimp only at b2 b3 b4 b5 b6 b7 b8
  have hstep:m47_l2 (N:Int) es ((a.length:Int),far)=cond (!ch) (some (.done (.inr true))) (some (.next (w64 ((a.length:Int)+1),f))):=by
   unfold m47_l2
   dsimp only
   rw [decide_eq_true (show (a.length:Int)≤(N:Int) by omega),cond_true,a1,Option.bind_some]
   dsimp only
   rw [b1];rfl
  cases ch with
  | false =>
   obtain ⟨c1,c2,c3⟩:=b6 rfl
   obtain ⟨c4,c5⟩:=a6 c1
   refine .inl ⟨.inr true,by rw [hstep];rfl,.inl ⟨rfl,fa far,c5,fun i hi=>?_,i2⟩⟩
   rw [c4] at c3
   exact c3 i hi
  | true =>
   have hmono:∀ i,i < N→fa far i≤fa f i:=fun i hi=>Int.le_trans (a3 i hi) (b3 i hi)
   refine .inr ⟨f,by rw [hstep];rfl,b2,fun i hi=>Int.le_trans (i2 i hi) (hmono i hi),fun i hi=>?_,fun y hy=>?_⟩
   ·have:=b8 i hi
    rw [List.length_append,List.length_singleton]
    omega
   ·obtain ⟨h1,h2⟩:=i4 y hy
    have h3:=b4 y hy.1.low (a4 y hy.1 h1)
    refine ⟨h3,?_⟩
    rw [List.length_append,List.length_singleton]
    have hne:∃ i,i < N∧fa far i < y i:=Classical.byContradiction fun hn=>by
     have heq:∀ i,i < N→fa far i=y i:=fun i hi=>Int.le_antisymm (h1 i hi) (Int.not_lt.1 fun hlt=>hn ⟨i,hi,hlt⟩)
     have hsat:∀ e∈es,eSat (fa far) e:=fun e he=>by
      obtain ⟨q1,q2,q3,q4,q5,q6⟩:=hes e he
      have:=hy.1.edge e he
      unfold eSat at this ⊢
      rw [heq _ (by omega),heq _ (by omega)];exact this
     have c1:=a7 hsat
     have c2:=(a6 c1).1
     have:=b7 c1 (fun i hi=>by rw [c2,heq 0 hN0,heq i hi];exact hy.1.low i hi)
     cases this
    rcases tight hes hy (fa far) i2 h1 hne with ⟨e,he,t1,t2,t3⟩ | ⟨i,hi,t1,t2,t3⟩
    ·obtain ⟨q1,q2,q3,q4,q5,q6⟩:=hes e he
     have g1:=a5 e he
     have g2:=b3 e.to.toNat (by omega)
     have:=cntF_lt (y:=y) (v:=e.to.toNat) N hmono (by omega) t2 (by omega)
     omega
    ·have g1:=b5 i hi
     have g2:=a3 0 hN0
     have:=cntF_lt (y:=y) (v:=i) N hmono hi t2 (by omega)
     omega
 ·obtain ⟨i1,i2,i3,i4⟩:=hI
  refine ⟨.inl far,by
   unfold m47_l2
   dsimp only
   rw [List.length_range,decide_eq_false (by omega)];rfl,.inr ⟨far,rfl,fun ⟨x,hx⟩=>?_⟩⟩
  obtain ⟨y,hy⟩:=least_ex hes hx
  have:=(i4 y hy).2
  rw [List.length_range] at this
  omega
end Go.Proofs.Ytkimijmiphkddaa
namespace Go.Proofs.Ytkimijmiphkddaa
open Go.RowKit Go.Shelf
def posI:List Int→Int→Nat
 | [],_=>0
 | y::l,x=>if y=x then 0 else posI l x+1
theorem posI_lt {x:Int}:∀ {l:List Int},x∈l→posI l x < l.length∧l[posI l x]?=some x
 | y::l,h=>by
  unfold posI
  by_cases c:y=x
  ·rw [if_pos c,c];exact ⟨Nat.succ_pos _,rfl⟩
  ·rw [if_neg c]
   have:=posI_lt ((List.mem_cons.1 h).resolve_left (fun e=>c e.symm))
   exact ⟨Nat.succ_lt_succ this.1,this.2⟩
theorem posI_out {x:Int}:∀ {l:List Int},x∉l→posI l x=l.length
 | [],_=>rfl
 | y::l,h=>by
  unfold posI
  rw [if_neg (fun c=>h (by rw [c];exact List.mem_cons_self ..)),posI_out (fun h'=>h (List.mem_cons_of_mem _ h'))];rfl
theorem posI_app {x:Int} (t:List Int):∀ {l:List Int},x∈l→posI (l++t) x=posI l x
 | y::l,h=>by
  rw [List.cons_append]
  unfold posI
  by_cases c:y=x
  ·rw [if_pos c,if_pos c]
  ·rw [if_neg c,if_neg c,posI_app t ((List.mem_cons.1 h).resolve_left (fun e=>c e.symm))]
theorem posI_new {x:Int} {l:List Int} (h:x∉l):posI (l++[x]) x=l.length:=by
 have:∀ l:List Int,x∉l→posI (l++[x]) x=l.length:=by
  intro l
  induction l with
  | nil=>intro _;unfold posI;rw [List.nil_append];exact if_pos rfl
  | cons y l ih =>
   intro h
   rw [List.cons_append]
   unfold posI
   rw [if_neg (fun c=>h (by rw [c];exact List.mem_cons_self ..)),ih (fun h'=>h (List.mem_cons_of_mem _ h'))];rfl
 exact this l h
theorem posI_mid {x:Int} {a b:List Int} (h:∀ y∈a,y ≠ x):posI (a++x::b) x=a.length:=by
 induction a with
 | nil=>exact if_pos rfl
 | cons y a ih =>
  rw [List.cons_append]
  unfold posI
  rw [if_neg (h y (List.mem_cons_self ..)),ih (fun z hz=>h z (List.mem_cons_of_mem _ hz))];rfl
def ren (seen:List Int) (v:LV):LV:=((posI seen v.1:Int),v.2)
def renL (seen:List Int) (L:Lvl):Lvl:=⟨L.c,L.vs.map (ren seen)⟩
theorem ren_app {seen t:List Int} {v:LV} (h:v.1∈seen):ren (seen++t) v=ren seen v:=by unfold ren;rw [posI_app t h]
theorem renL_app {seen t:List Int} {L:Lvl} (h:∀ v∈L.vs,v.1∈seen):renL (seen++t) L=renL seen L:=by
 unfold renL
 rw [List.map_congr_left fun v hv=>ren_app (h v hv)]
theorem find_eq (s2:List Int×Int×List LV) (x:LV) (hl:s2.1.length≤900000000):loopN (m45_l0 s2 x) FUEL 0=some (posI s2.1 x.1:Int):=by
 obtain ⟨r,h1,h2⟩:=loop_all (step:=m45_l0 s2 x) s2.1 (fun i (_:Unit)=>i) (fun a _=>∀ y∈a,y ≠ x.1) (fun r=>r=(posI s2.1 x.1:Int)) hl
  (fun a y b s e hI=>by
   have hs:m45_l0 s2 x (a.length:Int)=cond (y != x.1) (some (.next (w64 ((a.length:Int)+1)))) (some (.done (a.length:Int))):=by
    unfold m45_l0
    rw [show decide ((a.length:Int) < (s2.1.length:Int))=true from by rw [e];exact lt_mid a y b,show idx s2.1 (a.length:Int)=some y from by rw [e];exact idx_mid a y b]
    rfl
   by_cases c:y=x.1
   ·refine .inl ⟨(a.length:Int),by rw [hs,c,bne_self_eq_false];rfl,?_⟩
    rw [e,c,posI_mid hI]
   ·refine .inr ⟨(),by rw [hs,bne_iff_ne.2 c];rfl,fun z hz=>?_⟩
    rcases List.mem_append.1 hz with hz | hz
    ·exact hI z hz
    ·rw [List.mem_singleton.1 hz];exact c)
  (fun s hI=>⟨(s2.1.length:Int),by unfold m45_l0;rw [lt_end];rfl,by rw [posI_out (fun h=>hI _ h rfl)]⟩) () (fun y hy=>by cases hy)
 rw [h1,h2]
structure SeenOk (seen:List Int):Prop where
 nd:seen.Nodup
 rg:∀ x∈seen,0≤x∧x≤7
theorem vars_eq (ls:List Lvl) (L:Lvl) (i:Nat) (hi:ls[i]?=some L) (hil:i < ls.length) (es:List Lvl) (hes:es.length=i) (s1:List Int) (hs:SeenOk s1) (hs1:s1.length≤100000) (hL:LvV L) (h6:L.vs.length≤100000) (hls:ls.length≤1000) :
  ∃ r,loopN (m45_l1 ls (s1,(i:Int),es)) FUEL (s1,0,[])=some r∧(∃ t,r.1=s1++t)∧SeenOk r.1∧r.1.length≤s1.length+L.vs.length∧(∀ v∈L.vs,v.1∈r.1)∧r.2=L.vs.map (ren r.1):=by
 refine loop_all (step:=m45_l1 ls (s1,(i:Int),es)) L.vs (fun k (s:List Int×List LV)=>(s.1,k,s.2)) (fun a r=>(∃ t,r.1=s1++t)∧SeenOk r.1∧r.1.length≤s1.length+a.length∧(∀ v∈a,v.1∈r.1)∧r.2=a.map (ren r.1))
  (fun r=>(∃ t,r.1=s1++t)∧SeenOk r.1∧r.1.length≤s1.length+L.vs.length∧(∀ v∈L.vs,v.1∈r.1)∧r.2=L.vs.map (ren r.1)) (by omega)
  (fun a v b s e hI=>?_) (fun s hI=>⟨s,by
   unfold m45_l1
   dsimp only
   rw [idx_at hi,Option.bind_some,lt_end];rfl,hI⟩) (s1,[]) ⟨⟨[],by simp⟩,hs,Nat.le_refl _,(fun v hv=>by cases hv),rfl⟩
 obtain ⟨sn,out⟩:=s
 obtain ⟨⟨t,i1⟩,i2,i3,i4,i5⟩:=hI
 dsimp only at i1 i2 i3 i4 i5
 have ham:=mid_lt e
 obtain ⟨v0,v7,p0,p1⟩:=hL.2.2 v (by rw [e];simp)
 have hout:out.length=a.length:=by rw [i5,List.length_map]
 have hpos:posI sn v.1≤sn.length:=by
  by_cases c:v.1∈sn
  ·exact Nat.le_of_lt (posI_lt c).1
  ·exact Nat.le_of_eq (posI_out c)
 have gd1:∀ {α:Type} (x:Option α),guardO (cond (decide (0≤(i:Int))) (Nat.blt (i:Int).toNat ((ls.length:Int).toNat)) false) x=x:=fun x=>by
  rw [decide_eq_true (show 0≤(i:Int) by omega),cond_true,Int.toNat_natCast,Int.toNat_natCast,show Nat.blt i ls.length=true from Nat.ble_eq_true_of_le hil];rfl
 have gd2:∀ {α:Type} (x:Option α),guardO (Nat.beq es.length (i:Int).toNat) x=x:=fun x=>by rw [Int.toNat_natCast];exact guard_eq hes
 have hstep:m45_l1 ls (s1,(i:Int),es) (sn,(a.length:Int),out)=Option.bind (cond (decide ((posI sn v.1:Int)=(sn.length:Int))) (some (sn++[v.1])) (some sn)) (fun v14=>some (.next (v14,w64 ((a.length:Int)+1),out++[((posI sn v.1:Int),v.2)]))):=by
  unfold m45_l1
  dsimp only
  rw [idx_at hi,Option.bind_some,show decide ((a.length:Int) < (L.vs.length:Int))=true from by rw [e];exact lt_mid a v b,cond_true,Option.bind_some,show idx L.vs (a.length:Int)=some v from by rw [e];exact idx_mid a v b,Option.bind_some,find_eq _ _ (by dsimp only;omega),Option.bind_some,guard_le (by rw [List.length_singleton];omega)]
  dsimp only
  rw [beqI]
  congr 1
  funext v14
  rw [gd1,gd2,guard_le (by rw [hout,List.length_singleton];omega),gd1,gd2]
 by_cases c:v.1∈sn
 ·have hne:¬ ((posI sn v.1:Int)=(sn.length:Int)):=by have:=(posI_lt c).1;omega
  rw [decide_eq_false hne] at hstep
  refine .inr ⟨(sn,out++[((posI sn v.1:Int),v.2)]),hstep,⟨t,i1⟩,i2,by rw [List.length_append];dsimp only;omega,fun u hu=>?_,?_⟩
  ·rcases List.mem_append.1 hu with hu | hu
   ·exact i4 u hu
   ·rw [List.mem_singleton.1 hu];exact c
  ·dsimp only
   rw [List.map_append,i5];rfl
 ·have hp:=posI_out c
  rw [decide_eq_true (by rw [hp])] at hstep
  refine .inr ⟨(sn++[v.1],out++[((posI sn v.1:Int),v.2)]),hstep,⟨t++[v.1],by rw [i1,List.append_assoc]⟩,⟨?_,fun x hx=>?_⟩,?_,fun u hu=>?_,?_⟩
  ·rw [List.nodup_append]
   exact ⟨i2.nd,by simp,fun x hx y hy e'=>c (by rw [List.mem_singleton.1 hy] at e';rw [← e'];exact hx)⟩
  ·rcases List.mem_append.1 hx with hx | hx
   ·exact i2.rg x hx
   ·rw [List.mem_singleton.1 hx];exact ⟨v0,v7⟩
  ·rw [List.length_append,List.length_append,List.length_singleton,List.length_singleton];omega
  ·rcases List.mem_append.1 hu with hu | hu
   ·exact List.mem_append_left _ (i4 u hu)
   ·rw [List.mem_singleton.1 hu];simp
  ·dsimp only
   rw [List.map_append,i5]
   congr 1
   ·exact List.map_congr_left fun u hu=>(ren_app (i4 u hu)).symm
   ·show _=[ren (sn++[v.1]) v]
    unfold ren
    rw [posI_new c,hp]
theorem compact_eq (ls:List Lvl) (hl:ls.length≤1000) (hv:∀ L∈ls,LvV L∧L.vs.length≤6):∃ seen:List Int,m45 ls=some (ls.map (renL seen),(seen.length:Int))∧SeenOk seen∧(∀ L∈ls,∀ v∈L.vs,v.1∈seen)∧seen.length≤6 * ls.length:=by
 have key:=loop_all (step:=m45_l2 ls) ls (fun i (s:List Int×List Lvl)=>(s.1,i,s.2)) (fun a s=>SeenOk s.1∧(∀ L∈a,∀ v∈L.vs,v.1∈s.1)∧s.1.length≤6 * a.length∧s.2=a.map (renL s.1))
  (fun s=>SeenOk s.1∧(∀ L∈ls,∀ v∈L.vs,v.1∈s.1)∧s.1.length≤6 * ls.length∧s.2=ls.map (renL s.1)) (by omega)
  (fun a L b s e hI=>?_) (fun s hI=>⟨s,by unfold m45_l2;dsimp only;rw [lt_end];rfl,hI⟩) ([],[]) ⟨⟨List.nodup_nil,fun x hx=>by cases hx⟩,(fun L hL=>by cases hL),Nat.le_refl _,rfl⟩
 ·obtain ⟨s,k1,k2,k3,k4,k5⟩:=key
  have k1':loopN (m45_l2 ls) FUEL (([]:List Int),0,([]:List Lvl))=some s:=k1
  refine ⟨s.1,?_,k2,k3,k4⟩
  unfold m45
  rw [Int.toNat_natCast,decide_eq_true (show (0:Int)≤(ls.length:Int) by omega),cond_true,guard_le hl,k1',Option.bind_some,guard_eq (by rw [k5,List.length_map]),k5]
 obtain ⟨sn,es⟩:=s
 obtain ⟨i1,i2,i3,i4⟩:=hI
 dsimp only at i1 i2 i3 i4
 have ham:=mid_lt e
 have hes:es.length=a.length:=by rw [i4,List.length_map]
 have hat:ls[a.length]?=some L:=by rw [e];simp
 have hLm:L∈ls:=by rw [e];simp
 obtain ⟨r,r1,⟨t,r2⟩,r3,r4,r5,r6⟩:=vars_eq ls L a.length hat ham es hes sn i1 (by omega) (hv L hLm).1 (by have:=(hv L hLm).2;omega) hl
 refine .inr ⟨(r.1,es++[(⟨L.c,r.2⟩:Lvl)]),?_,r3,fun M hM v hvm=>?_,?_,?_⟩
 ·unfold m45_l2
  dsimp only
  rw [show decide ((a.length:Int) < (ls.length:Int))=true from by rw [e];exact lt_mid a L b,cond_true,idx_at hat,Option.bind_some,decide_eq_true (show 0≤(a.length:Int) by omega),cond_true,Int.toNat_natCast,Int.toNat_natCast,
   show Nat.blt a.length ls.length=true from Nat.ble_eq_true_of_le ham,guard_eq hes,show Nat.blt es.length ls.length=true from by rw [hes];exact Nat.ble_eq_true_of_le ham]
  show Option.bind (loopN (m45_l1 ls (sn,(a.length:Int),es)) FUEL (sn,0,([]:List LV))) _=_
  rw [r1];rfl
 ·rcases List.mem_append.1 hM with hM | hM
  ·rw [r2];exact List.mem_append_left _ (i2 M hM v hvm)
  ·rw [List.mem_singleton.1 hM] at hvm;exact r5 v hvm
 ·have:=(hv L hLm).2
  rw [List.length_append,List.length_singleton]
  dsimp only
  omega
 ·dsimp only
  rw [List.map_append,i4]
  congr 1
  ·rw [r2]
   exact List.map_congr_left fun M hM=>(renL_app (i2 M hM)).symm
  ·show _=[renL r.1 L]
   unfold renL
   rw [r6]
end Go.Proofs.Ytkimijmiphkddaa
namespace Go.Proofs.Ytkimijmiphkddaa
open Go.RowKit Go.Shelf
theorem metas_nil (L:Lvl) (h:∀ v∈L.vs,0≤v.1) (hl:L.vs.length≤900000000):∀ (k n:Nat),k≤L.vs.length→k < n→loopN (m38_l0 L) n ((k:Int) - 1,[])=some []
 | 0,n,_,hn=>by
  cases n with
  | zero=>omega
  | succ n =>
   have:m38_l0 L (((0:Nat):Int) - 1,[])=some (.done []):=by unfold m38_l0;rfl
   simp only [loopN,this]
 | k+1,n,hk,hn=>by
  cases n with
  | zero=>omega
  | succ n =>
   have hx:L.vs[k]?=some L.vs[k]:=List.getElem?_eq_getElem (by omega)
   have h0:=h L.vs[k] (List.getElem_mem (by omega))
   have e1:((k+1:Nat):Int) - 1=(k:Int):=by omega
   have:m38_l0 L (((k+1:Nat):Int) - 1,[])=some (.next ((k:Int) - 1,[])):=by
    unfold m38_l0
    dsimp only
    rw [e1,decide_eq_true (show (0:Int)≤(k:Int) by omega),cond_true,idx_at hx,Option.bind_some,decide_eq_false (by omega)]
    show some (LO.next (w64 ((k:Int) - 1),([]:List Int)))=_
    rw [w64_id (by omega) (by omega)]
   simp only [loopN,this]
   exact metas_nil L h hl k n (by omega) (by omega)
theorem m38_eq (L:Lvl) (hv:m28 L=some true) (h:∀ v∈L.vs,0≤v.1) (hl:L.vs.length≤900000000):m38 L=some []:=by
 unfold m38
 rw [hv]
 simp only [Option.bind_some,cond_true,bs]
 rw [w64_id (by omega) (by omega)]
 exact metas_nil L h hl L.vs.length FUEL (Nat.le_refl _) (by unfold FUEL;omega)
structure BdE (bd:Bnd):Prop where
 v:BdV bd
 lo:m28 bd.lo=some true
 hi:m28 bd.hi=some true
theorem none_eq {l:List Bnd} (hl:l.length≤900000000) (h:∀ bd∈l,BdE bd):m35f19 l=some false∧m35f21 l=some false:=by
 have h1:loopN (m59f20_l0 l) FUEL 0=some (.inl ()):=by
  obtain ⟨r,e1,e2⟩:=loop_all (step:=m59f20_l0 l) l (fun i (_:Unit)=>i) (fun _ _=>True) (fun r=>r=.inl ()) hl (fun a bd b s e _=>by
   have hb:=h bd (by rw [e];simp)
   refine .inr ⟨(),?_,trivial⟩
   unfold m59f20_l0
   rw [e,lt_mid,idx_mid]
   simp only [cond_true,Option.bind_some]
   rw [hb.lo,hb.hi];rfl) (fun s _=>⟨_,by unfold m59f20_l0;rw [lt_end];rfl,rfl⟩) () trivial
  rw [← e2];exact e1
 have h2:loopN (m59f22_l0 l) FUEL 0=some (.inl ()):=by
  obtain ⟨r,e1,e2⟩:=loop_all (step:=m59f22_l0 l) l (fun i (_:Unit)=>i) (fun _ _=>True) (fun r=>r=.inl ()) hl (fun a bd b s e _=>by
   have hb:=h bd (by rw [e];simp)
   refine .inr ⟨(),?_,trivial⟩
   unfold m59f22_l0
   rw [e,lt_mid,idx_mid]
   simp only [cond_true,Option.bind_some]
   rw [m38_eq _ hb.lo (fun v hv=>(hb.v.lo.2.2 v hv).1) hb.v.ll,m38_eq _ hb.hi (fun v hv=>(hb.v.hi.2.2 v hv).1) hb.v.lh];rfl) (fun s _=>⟨_,by unfold m59f22_l0;rw [lt_end];rfl,rfl⟩) () trivial
  rw [← e2];exact e1
 unfold m35f19 m59f20 m35f21 m59f22
 rw [h1,h2]
 exact ⟨Z,Z⟩
def Refp (a0:List Bnd) (b:Bnd) (p:Lvl):Prop:=∃ x,Nt x∧(∀ bd∈a0,holdsB x bd)∧∀ o∈partsL b.hi,pv x o+1≤pv x p
theorem entails_eq (a0:List Bnd) (a1:Bnd) (hl:a0.length≤800000000) (h0:∀ bd∈a0,BdE bd) (h1:BdE a1):∃ r,m18 a0 a1=some r ∧
  ((r=(false,1)∧¬ ∀ bd∈a0,one1 bd)∨((∀ bd∈a0,one1 bd)∧∃ b:Bool,r=(b,0)∧(b=false↔∃ p∈partsL a1.lo,Refp a0 a1 p))):=by
 obtain ⟨n1,n2⟩:=none_eq (l:=a0++[a1]) (by rw [List.length_append,List.length_singleton];omega) (fun bd hb=>by
  rcases List.mem_append.1 hb with hb | hb
  ·exact h0 bd hb
  ·rw [List.mem_singleton.1 hb];exact h1)
 obtain ⟨r,e1,e2⟩:=bounds_eq a0 (by omega) (fun bd hb=>(h0 bd hb).v)
 unfold m18
 rw [guard_le (by show 0+a0.length≤_;omega),guard_le (by rw [List.length_singleton];omega),n1,n2]
 simp only [Option.bind_some,cond_false]
 rw [init_eq,Option.bind_some,e1,Option.bind_some]
 rcases e2 with ⟨rfl,e3⟩ | ⟨s,rfl,e3,e4,e5⟩
 ·exact ⟨_,rfl,.inl ⟨rfl,e3⟩⟩
 ·have hhi:=h1.v.hi
  have hlo:=h1.v.lo
  have hll:=h1.v.ll
  have hlh:=h1.v.lh
  have ref:∀ {p:Lvl} {b:Bool},(b=true↔∃ x,Nt x∧Sol x s∧∀ o∈partsL a1.hi,pv x o+1≤pv x p)→(b=true↔Refp a0 a1 p):=by
   intro p b hb
   refine hb.trans ⟨fun ⟨x,q1,q2,q3⟩=>⟨x,q1,((e5 x).1 q2).2,q3⟩,fun ⟨x,q1,q2,q3⟩=>⟨x,q1,(e5 x).2 ⟨M0_sol q1,q2⟩,q3⟩⟩
  have vars:∃ r,loopN (m18_l5 a1 s) FUEL 0=some r∧((r=.inl ()∧∀ v∈a1.lo.vs,¬ Refp a0 a1 ⟨0,[v]⟩)∨(r=.inr (.inr ())∧∃ v∈a1.lo.vs,Refp a0 a1 ⟨0,[v]⟩)):=by
   refine loop_all (step:=m18_l5 a1 s) a1.lo.vs (fun i (_:Unit)=>i) (fun a _=>∀ v∈a,¬ Refp a0 a1 ⟨0,[v]⟩) (fun r=>(r=.inl ()∧∀ v∈a1.lo.vs,¬ Refp a0 a1 ⟨0,[v]⟩)∨(r=.inr (.inr ())∧∃ v∈a1.lo.vs,Refp a0 a1 ⟨0,[v]⟩)) hll
    (fun a v b s0 e hI=>?_) (fun s0 hI=>⟨.inl (),by unfold m18_l5;rw [lt_end];rfl,.inl ⟨rfl,hI⟩⟩) () (fun v hv=>by cases hv)
   have hvm:v∈a1.lo.vs:=by rw [e];simp
   obtain ⟨b',g1,g2⟩:=ref_gen a1.hi ⟨0,[v]⟩ hhi (hlo.var hvm) hlh (step:=m18_l4 a1 v) (fun a u b s' e=>by
    unfold m18_l4
    dsimp only
    rw [e,lt_mid,idx_mid]
    simp only [cond_true,Option.bind_some,bs]
    rfl) (fun s'=>by unfold m18_l4;dsimp only;rw [lt_end];rfl) s e4
   have hstep:m18_l5 a1 s (a.length:Int)=some (cond b' (.done (.inr (.inr ()))) (.next (w64 ((a.length:Int)+1)))):=by
    unfold m18_l5
    rw [show decide ((a.length:Int) < (a1.lo.vs.length:Int))=true from by rw [e];exact lt_mid a v b,show idx a1.lo.vs (a.length:Int)=some v from by rw [e];exact idx_mid a v b]
    simp only [cond_true,Option.bind_some,bs]
    have g1':=g1
    simp only [← dem29] at g1'
    rw [g1']
    cases b' <;> rfl
   cases hb':b' with
   | true =>
    rw [hb'] at hstep
    exact .inl ⟨_,hstep,.inr ⟨Z,v,hvm,(ref g2).1 hb'⟩⟩
   | false =>
    rw [hb'] at hstep
    refine .inr ⟨(),hstep,fun u hu=>?_⟩
    rcases List.mem_append.1 hu with hu | hu
    ·exact hI u hu
    ·rw [List.mem_singleton.1 hu]
     intro hr
     have:=(ref g2).2 hr
     rw [hb'] at this
     cases this
  obtain ⟨rv,v1,v2⟩:=vars
  obtain ⟨bc,c1,c2⟩:=ref_gen a1.hi ⟨a1.lo.c,[]⟩ hhi (.inl ⟨rfl,hlo.1,hlo.2.1⟩) hlh (step:=m18_l6 a1) (fun a u b s' e=>by
    unfold m18_l6
    dsimp only
    rw [e,lt_mid,idx_mid]
    simp only [cond_true,Option.bind_some,bs]
    rfl) (fun s'=>by unfold m18_l6;dsimp only;rw [lt_end];rfl) s e4
  have c1':=c1
  simp only [← dem27] at c1'
  simp only [Sum.elim_inl,bs,Option.bind_some]
  rw [c1',len0 a1.lo.vs]
  have fin:∀ X:Unit⊕Unit,(X=.inr ()→∃ p∈partsL a1.lo,Refp a0 a1 p)→(X=.inl ()→∀ p∈partsL a1.lo,Refp a0 a1 p→∃ v∈a1.lo.vs,p=⟨0,[v]⟩) →
    ∃ r,Option.bind (Option.bind (some X) (Sum.elim (fun (v15:Unit)=>Option.bind (loopN (m18_l5 a1 s) FUEL 0) (Sum.elim (fun (o17:Unit)=>some (.inl ())) (fun o=>some o))) (fun (v16:Unit)=>some (.inr ())))) (Sum.elim (fun (y11:Unit)=>some (true,(0:Int))) (fun (y12:Unit)=>some (false,0)))=some r ∧
     ((r=(false,1)∧¬ ∀ bd∈a0,one1 bd)∨((∀ bd∈a0,one1 bd)∧∃ b:Bool,r=(b,0)∧(b=false↔∃ p∈partsL a1.lo,Refp a0 a1 p))):=by
   intro X hX1 hX2
   cases X with
   | inr u=>exact ⟨_,rfl,.inr ⟨e3,false,rfl,fun _=>hX1 rfl,fun _=>rfl⟩⟩
   | inl u =>
    simp only [Option.bind_some,Sum.elim_inl]
    rw [v1,Option.bind_some]
    rcases v2 with ⟨rfl,v3⟩ | ⟨rfl,v,v3,v4⟩
    ·refine ⟨_,rfl,.inr ⟨e3,true,rfl,fun h=>(by cases h),fun ⟨p,hp,hr⟩=>?_⟩⟩
     obtain ⟨v,hv,rfl⟩:=hX2 rfl p hp hr
     exact (v3 v hv hr).elim
    ·exact ⟨_,rfl,.inr ⟨e3,false,rfl,fun _=>⟨_,by unfold partsL;exact List.mem_append_right _ (List.mem_map.2 ⟨v,v3,rfl⟩),v4⟩,fun _=>rfl⟩⟩
  have hvar:∀ p,p∈a1.lo.vs.map (fun v=>(⟨0,[v]⟩:Lvl))→∃ v∈a1.lo.vs,p=⟨0,[v]⟩:=fun p hp=>by
   obtain ⟨v,hv,rfl⟩:=List.mem_map.1 hp
   exact ⟨v,hv,Z⟩
  have hconst:(0 < a1.lo.c∨a1.lo.vs=[])→∃ r,Option.bind (Option.bind (Option.bind (some (cond bc (Sum.inr ():Unit⊕Unit) (Sum.inl ()))) (Sum.elim (fun (y18:Unit)=>some (Sum.inl ():Unit⊕Unit)) (fun (y19:Unit)=>some (Sum.inr ())))) (Sum.elim (fun (v15:Unit)=>Option.bind (loopN (m18_l5 a1 s) FUEL 0) (Sum.elim (fun (o17:Unit)=>some (.inl ())) (fun o=>some o))) (fun (v16:Unit)=>some (.inr ())))) (Sum.elim (fun (y11:Unit)=>some (true,(0:Int))) (fun (y12:Unit)=>some (false,0)))=some r ∧
     ((r=(false,1)∧¬ ∀ bd∈a0,one1 bd)∨((∀ bd∈a0,one1 bd)∧∃ b:Bool,r=(b,0)∧(b=false↔∃ p∈partsL a1.lo,Refp a0 a1 p))):=by
   intro hc
   have hmem:(⟨a1.lo.c,[]⟩:Lvl)∈partsL a1.lo:=by unfold partsL;rw [if_pos hc];simp
   cases hb:bc with
   | true=>exact fin (.inr ()) (fun _=>⟨_,hmem,(ref c2).1 hb⟩) (fun h=>by cases h)
   | false =>
    refine fin (.inl ()) (fun h=>by cases h) (fun _ p hp hr=>?_)
    unfold partsL at hp
    rw [if_pos hc] at hp
    rcases List.mem_append.1 hp with hp | hp
    ·rw [List.mem_singleton.1 hp] at hr
     have:=(ref c2).2 hr
     rw [hb] at this
     cases this
    ·exact hvar p hp
  by_cases hc1:0 < a1.lo.c
  ·rw [decide_eq_true hc1]
   exact hconst (.inl hc1)
  ·rw [decide_eq_false hc1]
   by_cases hc2:a1.lo.vs=[]
   ·rw [decide_eq_true hc2]
    exact hconst (.inr hc2)
   ·rw [decide_eq_false hc2]
    refine fin (.inl ()) (fun h=>by cases h) (fun _ p hp _=>?_)
    unfold partsL at hp
    rw [if_neg (by rintro (h | h) <;> contradiction)] at hp
    exact hvar p hp
end Go.Proofs.Ytkimijmiphkddaa
namespace Go.Proofs.Ytkimijmiphkddaa
open Go.RowKit Go.Shelf
def val (x:Nat→Int) (L:Lvl):Int:=L.vs.foldl (fun m v=>max m (v.2+x (v.1.toNat+1))) L.c
def LvS (L:Lvl):Prop:=0≤L.c∧L.c≤3∧∀ v∈L.vs,0≤v.1∧v.1≤2∧0≤v.2∧v.2≤3
end Go.Proofs.Ytkimijmiphkddaa
namespace Go.Proofs.Ytkimijmiphkddaa
open Go.RowKit Go.Shelf
def xs (l:List Int):Nat→Int
 | 0=>0
 | i+1=>(l[i]?).getD 0
structure Sm (L:Lvl):Prop where
 s:LvS L
 v:m28 L=some true
def BdL (b:Bnd):Prop:=b.lo.vs.length≤900000000∧b.hi.vs.length≤900000000
structure SmB (b:Bnd):Prop where
 lo:LvS b.lo
 hi:LvS b.hi
 l:BdL b
end Go.Proofs.Ytkimijmiphkddaa
namespace Go.Proofs.Ytkimijmiphkddaa
open Go.RowKit Go.Shelf
theorem ib_4:isBoolTy Try.prog 4=true:=by kernel_rfl
theorem en_5:Enters Try.prog 5:=enters_of Try.func5 (by kernel_rfl) rfl
theorem en_11:Enters Try.prog 11:=enters_of Try.func11 (by kernel_rfl) rfl
def m11_l0 (a0:List Bnd) (s1:Int):Option (LO Int (Unit⊕Bool)) :=
 Option.bind (cond (decide (s1 < (a0.length:Int)))
   (some (decide (s1 < 12)))
   (some false)) (fun (v2:Bool)=>cond v2
   (Option.bind (Option.bind (idx a0 s1) fun (x5:Bnd) =>
 cond (decide (6 < (x5.lo.vs.length:Int)))
   (some true)
   (Option.bind (idx a0 s1) fun (x7:Bnd) =>
 some (decide (6 < (x7.hi.vs.length:Int))))) (fun (v4:Bool)=>cond v4
   (some (.done (.inr false)))
   (some (.next (w64 (s1+1))))))
   (some (.done (.inl ()))))
def m11 (a0:List Bnd):Option Bool :=
 Option.bind (loopN (m11_l0 a0) FUEL 0) (Sum.elim (fun (o1:Unit)=>some (decide ((a0.length:Int)≤12))) (fun o=>some o))
theorem m11_ok (a0:List Bnd) (r:Bool) (h0:m11 a0=some r):Fun Try.prog 11 [.one (dS a0)] (resOf [.one (dB r)]):=by
 unfold m11 at h0
 refine Fun.of_bodyM 9 35 Try.func11 Z en_11 Z (lb Z) (fun S w=>?_)
 simp only [entry]
 refine XC.seq<|XC.region<|rA Z Z Z<|XL.nil<|XQ.seq<|XC.seq<|XC.seq<|XC.region<|rA Z Z Z<|XL.nil<|XQ.seq<|XC.block ?_
 refine XC.joinX 0 (fun (o1:Unit)=>⟨[(0,.v (.one (dS a0)))],[],[],0,35,[]⟩) (fun (o1:Unit)=>(some (decide ((a0.length:Int)≤12)))=some r) ?_ ?_
 refine bindK h0 (fun o2 hl1 h0=>?_)
 refine XC.loopM (m11_l0 a0) (fun s1=>⟨[(0,.v (.one (dS a0))),(3,.v (.one (dI s1)))],[],[],0,35,[]⟩) 0 o2 (sL (Nat.zero_le _) Z Z Z Z Z) hl1 (fun s1 n1 oo1 h1 ho1=>?_)
 unfold m11_l0 at h1
 refine XC.seq<|XC.seq ?_
 refine XC.joinR (fun (v3:Bool)=>⟨[(0,.v (.one (dS a0))),(3,.v (.one (dI s1))),(11,.v (.one (dB v3)))],[],[],0,35,[]⟩) (fun (v3:Bool)=>(cond v3
     (Option.bind (Option.bind (idx a0 s1) fun (x6:Bnd) =>
   cond (decide (6 < (x6.lo.vs.length:Int)))
     (some true)
     (Option.bind (idx a0 s1) fun (x8:Bnd) =>
   some (decide (6 < (x8.hi.vs.length:Int))))) (fun (v5:Bool)=>cond v5
     (some (.done (.inr false)))
     (some (.next (w64 (s1+1))))))
     (some (.done (.inl ()))))=some oo1) ?_ ?_
 refine bindK h1 (fun w2_ h2 h1=>?_)
 refine XC.region<|rM Z Z Z<|rM Z Z Z<|rR Z Z Z (RO.lenE (α:=Bnd) sl_22 Z (.d _))<|rR Z Z Z (RO.binInt Z Z Z)<|rM Z Z Z ?_
 refine XL.case (d:=8) (c:=(decide (s1 < (a0.length:Int)))) Z (fun c4=>?_) (fun c4=>?_)
 replace h2:=condT c4 h2
 refine rM Z Z Z<|rR Z Z Z (RO.binInt Z Z Z)<|rR Z Z Z (RO.pickT Z Z)<|XL.nil ?_
 have e:=sI h2;subst e
 exact XQ.joinR (decide (s1 < 12)) (sL (Nat.zero_le _) Z Z Z Z Z) h1
 replace h2:=condF c4 h2
 refine XL.no Z Z<|XL.no Z Z<|rR Z Z Z (RO.pickF Z Z)<|XL.nil ?_
 have e:=sI h2;subst e
 exact XQ.joinR false (sL (Nat.zero_le _) Z Z Z Z Z) h1
 intro v3 h1
 refine XQ.seq ?_
 refine XC.cond (b:=v3) Z (fun c5=>?_) (fun c5=>?_)
 replace h1:=condT c5 h1
 refine XC.skip<|XQ.seq<|XC.seq<|XC.block<|XC.seq ?_
 refine XC.joinR (fun (v6:Bool)=>⟨[(0,.v (.one (dS a0))),(3,.v (.one (dI s1))),(31,.v (.one (dB v6)))],[],[],0,35,[]⟩) (fun (v6:Bool)=>(cond v6
     (some (.done (.inr false)))
     (some (.next (w64 (s1+1)))))=some oo1) ?_ ?_
 refine bindK h1 (fun w2_ h2 h1=>?_)
 refine XC.region<|rM Z Z Z<|rM Z Z Z ?_
 refine bindK h2 (fun x7 hx7 h2=>?_)
 refine rR Z Z Z (RO.indexE (α:=Bnd) sl_22 Z (.d _) Z hx7)<|rR Z Z Z (RO.fieldPel fo_41_0 Z)<|rR Z Z Z (RO.fieldPel fo_39_1 Z)<|rR Z Z Z (RO.loadPel ag_37 Z Z)<|rR Z Z Z (RO.lenE (α:=LV) sl_37 Z (.d _))<|rR Z Z Z (RO.binInt Z Z Z)<|rM Z Z Z ?_
 refine XL.case (d:=22) (c:=(decide (6 < (x7.lo.vs.length:Int)))) Z (fun c8=>?_) (fun c8=>?_)
 replace h2:=condT c8 h2
 refine XL.no Z Z<|XL.no Z Z<|XL.no Z Z<|XL.no Z Z<|XL.no Z Z<|XL.no Z Z<|XL.no Z Z<|XL.no Z Z<|rR Z Z Z (RO.pickT Z Z)<|XL.nil ?_
 have e:=sI h2;subst e
 exact XQ.joinR true (sL (Nat.zero_le _) Z Z Z Z Z) h1
 replace h2:=condF c8 h2
 refine rM Z Z Z<|rM Z Z Z ?_
 refine bindK h2 (fun x9 hx9 h2=>?_)
 refine rR Z Z Z (RO.indexE (α:=Bnd) sl_22 Z (.d _) Z hx9)<|rR Z Z Z (RO.fieldPel fo_41_1 Z)<|rR Z Z Z (RO.fieldPel fo_39_1 Z)<|rR Z Z Z (RO.loadPel ag_37 Z Z)<|rR Z Z Z (RO.lenE (α:=LV) sl_37 Z (.d _))<|rR Z Z Z (RO.binInt Z Z Z)<|rR Z Z Z (RO.pickF Z Z)<|XL.nil ?_
 have e:=sI h2;subst e
 exact XQ.joinR (decide (6 < (x9.hi.vs.length:Int))) (sL (Nat.zero_le _) Z Z Z Z Z) h1
 intro v6 h1
 refine XQ.seq ?_
 refine XC.cond (b:=v6) Z (fun c10=>?_) (fun c10=>?_)
 replace h1:=condT c10 h1
 refine XC.seq<|XC.region<|rA Z Z Z<|XL.nil<|XQ.seq<|XC.ret ?_
 have e:=sI h1;subst e
 have e_:_=_:=ho1
 subst e_
 try dsimp only [Sum.elim_inl,Sum.elim_inr] at h0
 have e:=sI h0;subst e
 exact XQ.retF (fun _ _ h=>h) Z (RAs.tmp Z .nil) (.cons (.one (.d _)) .nil)
 replace h1:=condF c10 h1
 refine XC.skip<|XQ.inBlock<|XQ.seq<|XC.region<|rM Z Z Z<|rR Z Z Z (RO.binInt Z Z Z)<|rA Z Z Z<|XL.nil ?_
 have e:=sI h1;subst e
 refine XQ.nextM (w64 (s1+1)) (sL (Nat.zero_le _) Z Z Z Z Z) ho1
 replace h1:=condF c5 h1
 refine XC.exit<|XQ.thenE<|XQ.thenE ?_
 have e:=sI h1;subst e
 have e_:_=_:=ho1
 subst e_
 exact XQ.joinX () (sL (Nat.zero_le _) Z Z Z Z Z) h0
 intro o1 h0
 refine XQ.blockX<|XQ.seq<|XC.seq<|XC.region<|rM Z Z Z<|rR Z Z Z (RO.lenE (α:=Bnd) sl_22 Z (.d _))<|rR Z Z Z (RO.binInt Z Z Z)<|rA Z Z Z<|XL.nil<|XQ.seq<|XC.ret ?_
 have e:=sI h0;subst e
 exact XQ.retF (fun _ _ h=>h) Z (RAs.tmp Z .nil) (.cons (.one (.d _)) .nil)
def m5 (a0:List Bnd) (a1:Bnd):Option Bool :=
 Option.bind (Option.bind (m11 a0) fun (x2:Bool) =>
 cond (!x2)
   (some true)
   (Option.bind (m11 ([a1])) fun (x4:Bool) =>
 some (!x4))) (fun (v1:Bool)=>cond v1
   (some true)
   (Option.bind (m18 a0 a1) fun (x3:Bool×Int) =>
 Option.bind (m19 a0 a1) fun (x4:Bool×Int) =>
 Option.bind (cond (x3.1==x4.1)
   (some (x3.2==x4.2))
   (some false)) (fun (v5:Bool)=>some v5)))
theorem m5_ok (a0:List Bnd) (a1:Bnd) (r:Bool) (h0:m5 a0 a1=some r):Fun Try.prog 5 [.one (dS a0),.agg (cE a1)] (resOf [.one (dB r)]):=by
 unfold m5 at h0
 refine Fun.of_bodyM 9 42 Try.func5 Z en_5 Z (lb Z) (fun S w=>?_)
 simp only [entry]
 refine XC.seq<|XC.region<|XL.put Z Z (lb Z) (OpOK.box Z)<|rA Z Z Z<|XL.nil<|XQ.seq<|XC.seq<|XC.seq ?_
 refine XC.joinR (fun (v1:Bool)=>⟨[(0,.v (.one (dS a0))),(3,.v (.one (.ptr 0 0))),(17,.v (.one (dB v1)))],[(0,.cells 41 (cE a1))],[],1,42,[]⟩) (fun (v1:Bool)=>(cond v1
     (some true)
     (Option.bind (m18 a0 a1) fun (x3:Bool×Int) =>
   Option.bind (m19 a0 a1) fun (x4:Bool×Int) =>
   Option.bind (cond (x3.1==x4.1)
     (some (x3.2==x4.2))
     (some false)) (fun (v5:Bool)=>some v5)))=some r) ?_ ?_
 refine bindK h0 (fun w1_ h1 h0=>?_)
 refine XC.region<|rM Z Z Z ?_
 refine bindK h1 (fun x2 hx2 h1=>?_)
 refine XL.put Z Z (lb Z) (OpOK.callFun (m11_ok a0 x2 hx2) Z (.cons (.one (.d _)) .nil))<|rR Z Z Z (RO.not Z)<|rM Z Z Z ?_
 refine XL.case (d:=12) (c:=(!x2)) Z (fun c3=>?_) (fun c3=>?_)
 replace h1:=condT c3 h1
 refine XL.no Z Z<|XL.no Z Z<|XL.no Z Z<|XL.no Z Z<|rR Z Z Z (RO.pickT Z Z)<|XL.nil ?_
 have e:=sI h1;subst e
 exact XQ.joinR true (sL (Nat.zero_le _) Z Z Z Z Z) h0
 replace h1:=condF c3 h1
 refine rR Z Z Z (RO.loadCE (a1:Bnd) ag_41 Z Z)<|XL.put Z Z (lb Z) (OpOK.lit1E (α:=Bnd) (a1) sl_22 z_41 Z Z (lb Z) (lb Z) Z Z (.cons (.d _) (.cons (.d _) (.cons (.d _) (.cons (.d _) .nil)))) Z) ?_
 refine bindK h1 (fun x4 hx4 h1=>?_)
 refine XL.put Z Z (lb Z) (OpOK.callFun (m11_ok ([a1]) x4 hx4) Z (.cons (.one (.app _ _ _)) .nil))<|rR Z Z Z (RO.not Z)<|rR Z Z Z (RO.pickF Z Z)<|XL.nil ?_
 have e:=sI h1;subst e
 exact XQ.joinR (!x4) (sL (Nat.zero_le _) Z Z Z Z Z) h0
 intro v1 h0
 refine XQ.seq ?_
 refine XC.cond (b:=v1) Z (fun c5=>?_) (fun c5=>?_)
 replace h0:=condT c5 h0
 refine XC.seq<|XC.region<|XL.put Z Z (lb Z) (OpOK.callFun (awake_fun) Z .nil)<|rA Z Z Z<|XL.nil<|XQ.seq<|XC.ret ?_
 have e:=sI h0;subst e
 exact XQ.retF (fun _ _ h=>h) Z (RAs.tmp Z .nil) (.cons (.one (.d _)) .nil)
 replace h0:=condF c5 h0
 refine XC.skip<|XQ.seq<|XC.seq<|XC.region<|rM Z Z Z<|rR Z Z Z (RO.loadCE (a1:Bnd) ag_41 Z Z) ?_
 refine bindK h0 (fun x6 hx6 h0=>?_)
 refine XL.put Z Z (lb Z) (OpOK.callFun (m18_ok a0 a1 x6 hx6) Z (.cons (.one (.d _)) (.cons (.agg (.cons (.d _) (.cons (.d _) (.cons (.d _) (.cons (.d _) .nil))))) .nil)))<|rM Z Z Z<|rR Z Z Z (RO.extract Z Z)<|rR Z Z Z (RO.extract Z Z)<|rA Z Z Z<|rA Z Z Z<|XL.nil<|XQ.seq<|XC.seq<|XC.region<|rM Z Z Z<|rR Z Z Z (RO.loadCE (a1:Bnd) ag_41 Z Z) ?_
 refine bindK h0 (fun x7 hx7 h0=>?_)
 refine XL.put Z Z (lb Z) (OpOK.callFun (m19_ok a0 a1 x7 hx7) Z (.cons (.one (.d _)) (.cons (.agg (.cons (.d _) (.cons (.d _) (.cons (.d _) (.cons (.d _) .nil))))) .nil)))<|rM Z Z Z<|rR Z Z Z (RO.extract Z Z)<|rR Z Z Z (RO.extract Z Z)<|rA Z Z Z<|rA Z Z Z<|XL.nil<|XQ.seq<|XC.seq ?_
 refine XC.joinR (fun (v8:Bool)=>⟨[(4,.v (.one (dB v8)))],[(0,.cells 41 (cE a1))],[],1,42,[]⟩) (fun (v8:Bool)=>(some v8)=some r) ?_ ?_
 refine bindK h0 (fun w1_ h1 h0=>?_)
 refine XC.region<|XL.put Z Z (lb Z) (OpOK.callFun (awake_fun) Z .nil)<|rM Z Z Z<|rM Z Z Z<|rM Z Z Z<|rR Z Z Z (RO.eqBool ib_4 Z Z)<|rR Z Z Z (RO.pickT Z Z)<|rM Z Z Z ?_
 refine XL.case (d:=37) (c:=(x6.1==x7.1)) Z (fun c9=>?_) (fun c9=>?_)
 replace h1:=condT c9 h1
 refine rM Z Z Z<|rM Z Z Z<|rR Z Z Z (RO.binInt Z Z Z)<|rR Z Z Z (RO.pickT Z Z)<|rA Z Z Z<|XL.nil ?_
 have e:=sI h1;subst e
 exact XQ.joinR (x6.2==x7.2) (sL (Nat.zero_le _) Z Z Z Z Z) h0
 replace h1:=condF c9 h1
 refine XL.no Z Z<|XL.no Z Z<|XL.no Z Z<|rR Z Z Z (RO.pickF Z Z)<|rA Z Z Z<|XL.nil ?_
 have e:=sI h1;subst e
 exact XQ.joinR false (sL (Nat.zero_le _) Z Z Z Z Z) h0
 intro v8 h0
 refine XQ.seq<|XC.ret ?_
 have e:=sI h0;subst e
 exact XQ.retF (fun _ _ h=>h) Z (RAs.tmp Z .nil) (.cons (.one (.d _)) .nil)
end Go.Proofs.Ytkimijmiphkddaa
namespace Go.Proofs.Ytkimijmiphkddaa
open Go.RowKit Go.Shelf
theorem loop_flat {α β τ:Type} {step:τ→Option (LO τ (List β))} (l:List α) (mk:Int→List β→τ) (g:α→List β) (s0:List β) (hlen:l.length≤900000000)
  (hin:∀ (a:List α) (x:α) (b:List α),l=a++x::b→step (mk (a.length:Int) (s0++a.flatMap g))=some (.next (mk (w64 ((a.length:Int)+1)) ((s0++a.flatMap g)++g x))))
  (hout:step (mk (l.length:Int) (s0++l.flatMap g))=some (.done (s0++l.flatMap g))):loopN step FUEL (mk 0 s0)=some (s0++l.flatMap g):=by
 obtain ⟨r,h1,h2⟩:=loop_all (step:=step) l mk (fun a s=>s=s0++a.flatMap g) (fun r=>r=s0++l.flatMap g) hlen
  (fun a x b s e hI=>.inr ⟨s++g x,by rw [hI];exact hin a x b e,by rw [hI,List.flatMap_append,List.append_assoc];simp⟩)
  (fun s hI=>⟨_,by rw [hI];exact hout,rfl⟩) s0 (by simp)
 rw [h1,h2]
theorem m43_eq (L:Lvl) (hl:L.vs.length≤900000000) (h:∀ v∈L.vs,-65536≤v.1):∃ r,m43 L=some r∧(0≤r.1↔∃ v∈L.vs,v.1 < 0):=by
 have key:=loop_all (step:=m43_l0 L) L.vs (fun i (s:Int×Int)=>(s.1,s.2,i)) (fun a s=>(0≤s.1↔∃ v∈a,v.1 < 0)) (fun s=>(0≤s.1↔∃ v∈L.vs,v.1 < 0)) hl
  (fun a v b s e hI=>?_) (fun s hI=>⟨s,by unfold m43_l0;dsimp only;rw [lt_end];rfl,hI⟩) (-1,0) ⟨fun h=>absurd h (by decide),fun ⟨v,hv,_⟩=>by cases hv⟩
 ·obtain ⟨r,h1,h2⟩:=key
  have h1':loopN (m43_l0 L) FUEL ((-1),0,0)=some r:=h1
  refine ⟨r,?_,h2⟩
  unfold m43
  rw [h1'];rfl
 have hv:=h v (by rw [e];simp)
 have hw:w64 ((-1) - v.1) = -1 - v.1∨0≤v.1:=by
  by_cases c:v.1 < 0
  ·exact .inl (w64_id (by omega) (by omega))
  ·exact .inr (by omega)
 have hs:m43_l0 L (s.1,s.2,(a.length:Int))=Option.bind (cond (decide (v.1 < 0)) (cond (decide (s.1 < 0)) (some true) (some (decide ((w64 ((-1) - v.1)) < s.1)))) (some false)) (fun (v4:Bool)=>cond v4
  (some (.next ((w64 ((-1) - v.1)),v.2,(w64 ((a.length:Int)+1))))) (some (.next (s.1,s.2,(w64 ((a.length:Int)+1)))))):=by
  unfold m43_l0
  dsimp only
  rw [e,lt_mid,idx_mid];rfl
 by_cases c:v.1 < 0
 ·have hw':=hw.resolve_right (by omega)
  rw [decide_eq_true c,cond_true,hw'] at hs
  have hex:∃ u∈a++[v],u.1 < 0:=⟨v,by simp,c⟩
  by_cases c2:s.1 < 0
  ·rw [decide_eq_true c2] at hs
   exact .inr ⟨(-1 - v.1,v.2),hs,fun _=>hex,fun _=>by show 0≤-1 - v.1;omega⟩
  ·rw [decide_eq_false c2] at hs
   by_cases c3:-1 - v.1 < s.1
   ·rw [decide_eq_true c3] at hs
    exact .inr ⟨(-1 - v.1,v.2),hs,fun _=>hex,fun _=>by show 0≤-1 - v.1;omega⟩
   ·rw [decide_eq_false c3] at hs
    exact .inr ⟨s,hs,fun _=>hex,fun _=>by omega⟩
 ·rw [decide_eq_false c] at hs
  refine .inr ⟨s,hs,fun h=>?_,fun ⟨u,hu,hn⟩=>?_⟩
  ·obtain ⟨u,hu,hn⟩:=hI.1 h
   exact ⟨u,List.mem_append_left _ hu,hn⟩
  ·rcases List.mem_append.1 hu with hu | hu
   ·exact hI.2 ⟨u,hu,hn⟩
   ·rw [List.mem_singleton.1 hu] at hn;exact (c hn).elim
theorem flat_one {α β:Type} (g:α→β) (l:List α):l.flatMap (fun x=>[g x])=l.map g:=by
 induction l with
 | nil=>rfl
 | cons x l ih=>rw [List.flatMap_cons,ih];rfl
theorem m44_eq (L:Lvl) (hl:L.vs.length≤900000000):m44 L=some (partsL L):=by
 have hloop:∀ s0:List Lvl,s0.length≤1→loopN (m44_l0 L) FUEL (s0,0)=some (s0++L.vs.map (fun v=>⟨0,[v]⟩)):=by
  intro s0 hs
  rw [← flat_one (fun v=>(⟨0,[v]⟩:Lvl))]
  refine loop_flat (step:=m44_l0 L) L.vs (fun i (s:List Lvl)=>(s,i)) (fun v=>[(⟨0,[v]⟩:Lvl)]) s0 hl (fun a x b e=>?_) ?_
  ·have hm:=mid_lt e
   unfold m44_l0
   dsimp only
   rw [show decide ((a.length:Int) < (L.vs.length:Int))=true from by rw [e];exact lt_mid a x b,show idx L.vs (a.length:Int)=some x from by rw [e];exact idx_mid a x b]
   simp only [cond_true,Option.bind_some]
   rw [guard_le (by rw [List.length_append,flat_one,List.length_map,List.length_singleton];omega)]
  ·unfold m44_l0
   dsimp only
   rw [lt_end];rfl
 unfold m44 partsL
 simp only [bs]
 rw [len0]
 by_cases c1:0 < L.c
 ·rw [decide_eq_true c1,cond_true,if_pos (Or.inl c1),guard_le (by simp)]
  exact hloop [⟨L.c,[]⟩] (by simp)
 ·rw [decide_eq_false c1,cond_false]
  by_cases c2:L.vs=[]
  ·rw [decide_eq_true c2,Option.bind_some,cond_true,if_pos (Or.inr c2),guard_le (by simp)]
   exact hloop [⟨L.c,[]⟩] (by simp)
  ·rw [decide_eq_false c2,if_neg (by rintro (h | h) <;> contradiction)]
   exact hloop [] (by simp)
def PartN (N:Nat) (l:Lvl):Prop:=(l.vs=[]∧0≤l.c∧l.c≤100)∨∃ v,l.vs=[v]∧0≤v.1∧v.1+1 < N∧0≤v.2∧v.2≤100
theorem m64_eq {N:Nat} (hN0:0 < N) (hN:N≤10000) {l:Lvl} (h:PartN N l):m64 l=some ((ptI l:Int),ptP l)∧ptI l < N∧0≤ptP l∧ptP l≤100:=by
 rcases h with ⟨h1,h2,h3⟩ | ⟨v,h1,h2,h3,h4,h5⟩
 ·unfold m64 ptI ptP
  rw [h1]
  exact ⟨Z,hN0,h2,h3⟩
 ·unfold m64 ptI ptP
  rw [h1]
  have hw:w64 (v.1+1)=((v.1.toNat+1:Nat):Int):=by rw [w64_id (by omega) (by omega)];omega
  refine ⟨?_,by dsimp only;omega,h4,h5⟩
  show some (w64 (v.1+1),v.2)=_
  rw [hw]
def edg (a b:Lvl) (k:Int):Edg:=⟨(ptI a:Int),(ptI b:Int),ptP a+k - ptP b⟩
theorem m46_eq {N:Nat} (hN0:0 < N) (hN:N≤10000) {a b:Lvl} (ha:PartN N a) (hb:PartN N b) {k:Int} (hk0:0≤k) (hk1:k≤1):m46 a b k=some (edg a b k)∧EdgOk N (edg a b k)∧∀ y,eSat y (edg a b k)↔pv y a+k≤pv y b:=by
 obtain ⟨e1,i9,p0,p1⟩:=m64_eq hN0 hN ha
 obtain ⟨e2,j9,q0,q1⟩:=m64_eq hN0 hN hb
 refine ⟨?_,⟨?_,?_,?_,?_,?_,?_⟩,fun y=>?_⟩
 ·unfold m46
  rw [e1,e2]
  show some (⟨_,_,w64 (w64 (ptP a+k) - ptP b)⟩:Edg)=_
  rw [w64_id (n:=ptP a+k) (by omega) (by omega),w64_id (by omega) (by omega)];rfl
 ·exact Int.natCast_nonneg _
 ·show (ptI a:Int) < (N:Int);omega
 ·exact Int.natCast_nonneg _
 ·show (ptI b:Int) < (N:Int);omega
 ·show -201≤ptP a+k - ptP b;omega
 ·show ptP a+k - ptP b≤201;omega
 ·unfold eSat pv edg
  dsimp only
  rw [Int.toNat_natCast,Int.toNat_natCast]
  omega
def VL (L:Lvl):Prop:=m28 L=some true
theorem VL.lo {L:Lvl} (h:VL L) (hl:L.vs.length≤900000000):lvP L:=by
 obtain ⟨b,h1,h2,h3⟩:=lv_same L hl
 have:b=true:=by have h':m28 L=some true:=h;rw [h'] at h1;cases h1;rfl
 exact h3 this
theorem VL.ge {L:Lvl} (h:VL L) (hl:L.vs.length≤900000000):∀ v∈L.vs,-65536≤v.1:=fun v hv=>by
 obtain ⟨a,b,e⟩:=List.append_of_mem hv
 have:=(h.lo hl).2.2.2 a v b e
 unfold lvBad at this
 exact Int.not_lt.1 fun h=>this (.inl h)
theorem VL.v {L:Lvl} (h:VL L) (hl:L.vs.length≤900000000) (h0:∀ v∈L.vs,0≤v.1):LvV L:=by
 have hp:=h.lo hl
 refine ⟨hp.1,hp.2.1,fun v hv=>?_⟩
 obtain ⟨a,b,e⟩:=List.append_of_mem hv
 have:=hp.2.2.2 a v b e
 unfold lvBad at this
 exact ⟨h0 v hv,Int.not_lt.1 fun h=>this (.inr (.inl h)),Int.not_lt.1 fun h=>this (.inr (.inr (.inl h))),Int.not_lt.1 fun h=>this (.inr (.inr (.inr (.inl h))))⟩
theorem m28_or (L:Lvl) (hl:L.vs.length≤900000000):(m28 L=some true∧m30 L=some true∧VL L)∨(m28 L=some false∧m30 L=some false∧¬ VL L):=by
 obtain ⟨b,h1,h2,_⟩:=lv_same L hl
 cases b with
 | true=>exact .inl ⟨h1,h2,h1⟩
 | false=>exact .inr ⟨h1,h2,fun h=>by have h':m28 L=some true:=h;rw [h'] at h1;cases h1⟩
theorem inv_eq {l:List Bnd} (hl:l.length≤900000000) (h:∀ bd∈l,BdL bd):∃ b:Bool,m35f19 l=some b∧(b=false↔∀ bd∈l,VL bd.lo∧VL bd.hi):=by
 have h1:∃ r,loopN (m59f20_l0 l) FUEL 0=some r∧((r=.inl ()∧∀ bd∈l,VL bd.lo∧VL bd.hi)∨(∃ k:Nat,r=.inr (k:Int))∧¬ ∀ bd∈l,VL bd.lo∧VL bd.hi):=by
  refine loop_all (step:=m59f20_l0 l) l (fun i (_:Unit)=>i) (fun a _=>∀ bd∈a,VL bd.lo∧VL bd.hi) (fun r=>(r=.inl ()∧∀ bd∈l,VL bd.lo∧VL bd.hi)∨(∃ k:Nat,r=.inr (k:Int))∧¬ ∀ bd∈l,VL bd.lo∧VL bd.hi) hl
   (fun a bd b s e hI=>?_) (fun s hI=>⟨_,by unfold m59f20_l0;rw [lt_end];rfl,.inl ⟨rfl,hI⟩⟩) () (fun v hv=>by cases hv)
  have hm:bd∈l:=by rw [e];simp
  have hb:=h bd hm
  have hs:m59f20_l0 l (a.length:Int)=Option.bind (Option.bind (Option.bind (m28 bd.lo) fun (x7:Bool)=>cond (!x7) (some true) (Option.bind (m28 bd.hi) fun (x9:Bool)=>some (!x9))) (fun (v6:Bool)=>some v6)) (fun (y4:Bool)=>cond y4 (some (.done (.inr (a.length:Int)))) (some (.next (w64 ((a.length:Int)+1))))):=by
   unfold m59f20_l0
   rw [show decide ((a.length:Int) < (l.length:Int))=true from by rw [e];exact lt_mid a bd b,show idx l (a.length:Int)=some bd from by rw [e];exact idx_mid a bd b]
   rfl
  rcases m28_or bd.lo hb.1 with ⟨e1,_,v1⟩ | ⟨e1,_,v1⟩
  ·rcases m28_or bd.hi hb.2 with ⟨e2,_,v2⟩ | ⟨e2,_,v2⟩
   ·refine .inr ⟨(),by rw [hs,e1,e2];rfl,fun x hx=>?_⟩
    rcases List.mem_append.1 hx with hx | hx
    ·exact hI x hx
    ·rw [List.mem_singleton.1 hx];exact ⟨v1,v2⟩
   ·exact .inl ⟨_,by rw [hs,e1,e2];rfl,.inr ⟨⟨a.length,rfl⟩,fun hh=>v2 (hh bd hm).2⟩⟩
  ·exact .inl ⟨_,by rw [hs,e1];rfl,.inr ⟨⟨a.length,rfl⟩,fun hh=>v1 (hh bd hm).1⟩⟩
 obtain ⟨r,e1,e2⟩:=h1
 unfold m35f19 m59f20
 rw [e1]
 rcases e2 with ⟨rfl,h2⟩ | ⟨⟨k,rfl⟩,h2⟩
 ·exact ⟨false,rfl,fun _=>h2,fun _=>rfl⟩
 ·refine ⟨true,?_,fun h=>(by cases h),fun h=>(h2 h).elim⟩
  show some (decide (0≤(k:Int)))=_
  rw [decide_eq_true (by omega)]
def NM (L:Lvl):Prop:=∀ v∈L.vs,0≤v.1
theorem metas_some (L:Lvl) (hl:L.vs.length≤400000000):∀ (k n:Nat) (acc:List Int),k≤L.vs.length→k < n→acc.length+k≤400000000 →
  ∃ r,loopN (m38_l0 L) n ((k:Int) - 1,acc)=some r∧r.length≤acc.length+k∧(r=[]↔acc=[]∧∀ i v,i < k→L.vs[i]?=some v→0≤v.1)
 | 0,n,acc,_,hn,_=>by
  cases n with
  | zero=>omega
  | succ n =>
   have:m38_l0 L (((0:Nat):Int) - 1,acc)=some (.done acc):=by unfold m38_l0;rfl
   refine ⟨acc,by simp only [loopN,this],by omega,fun h=>⟨h,fun i v hi=>by omega⟩,fun h=>h.1⟩
 | k+1,n,acc,hk,hn,ha=>by
  cases n with
  | zero=>omega
  | succ n =>
   have hx:L.vs[k]?=some L.vs[k]:=List.getElem?_eq_getElem (by omega)
   have e1:((k+1:Nat):Int) - 1=(k:Int):=by omega
   have hs:m38_l0 L (((k+1:Nat):Int) - 1,acc)=Option.bind (cond (decide (L.vs[k].1 < 0)) (some (acc++[w64 ((-1) - L.vs[k].1)])) (some acc)) (fun (y10:List Int)=>some (.next ((k:Int) - 1,y10))):=by
    unfold m38_l0
    dsimp only
    rw [e1,decide_eq_true (show (0:Int)≤(k:Int) by omega),cond_true,idx_at hx,Option.bind_some,guard_le (by rw [List.length_singleton];omega),w64_id (n:=(k:Int) - 1) (by omega) (by omega)]
   by_cases c:L.vs[k].1 < 0
   ·rw [decide_eq_true c] at hs
    obtain ⟨r,h1,h2,h3⟩:=metas_some L hl k n (acc++[w64 ((-1) - L.vs[k].1)]) (by omega) (by omega) (by rw [List.length_append,List.length_singleton];omega)
    rw [List.length_append,List.length_singleton] at h2
    refine ⟨r,?_,by omega,fun h=>?_,fun h=>?_⟩
    ·rw [loopN,hs]
     exact h1
    ·have:=(h3.1 h).1
     simp at this
    ·have:=h.2 k _ (by omega) hx
     omega
   ·rw [decide_eq_false c] at hs
    obtain ⟨r,h1,h2,h3⟩:=metas_some L hl k n acc (by omega) (by omega) (by omega)
    refine ⟨r,?_,by omega,fun h=>⟨(h3.1 h).1,fun i v hi hv=>?_⟩,fun h=>h3.2 ⟨h.1,fun i v hi=>h.2 i v (by omega)⟩⟩
    ·rw [loopN,hs]
     exact h1
    ·by_cases ci:i=k
     ·subst ci;rw [hx] at hv;cases hv;omega
     ·exact (h3.1 h).2 i v (by omega) hv
theorem m38_some (L:Lvl) (hv:VL L) (hl:L.vs.length≤400000000):∃ r,m38 L=some r∧r.length≤L.vs.length∧(r=[]↔NM L):=by
 obtain ⟨r,h1,h2,h3⟩:=metas_some L hl L.vs.length FUEL [] (Nat.le_refl _) (by unfold FUEL;omega) (by show 0+_≤_;omega)
 have hv':m28 L=some true:=hv
 refine ⟨r,?_,by simpa using h2,h3.trans ⟨fun h v hm=>?_,fun h=>⟨rfl,fun i v _ hi=>h v (List.mem_of_getElem? hi)⟩⟩⟩
 ·unfold m38
  rw [hv']
  simp only [Option.bind_some,cond_true,bs]
  rw [w64_id (by omega) (by omega)]
  exact h1
 ·obtain ⟨i,hi,e⟩:=List.getElem_of_mem hm
  exact h.2 i v hi (by rw [List.getElem?_eq_getElem hi,e])
theorem met_eq {l:List Bnd} (hl:l.length≤900000000) (h:∀ bd∈l,bd.lo.vs.length≤400000000∧bd.hi.vs.length≤400000000) (hv:∀ bd∈l,VL bd.lo∧VL bd.hi):∃ b:Bool,m35f21 l=some b∧(b=false↔∀ bd∈l,NM bd.lo∧NM bd.hi):=by
 have h1:∃ r,loopN (m59f22_l0 l) FUEL 0=some r∧((r=.inl ()∧∀ bd∈l,NM bd.lo∧NM bd.hi)∨(∃ k:Nat,r=.inr (k:Int))∧¬ ∀ bd∈l,NM bd.lo∧NM bd.hi):=by
  refine loop_all (step:=m59f22_l0 l) l (fun i (_:Unit)=>i) (fun a _=>∀ bd∈a,NM bd.lo∧NM bd.hi) (fun r=>(r=.inl ()∧∀ bd∈l,NM bd.lo∧NM bd.hi)∨(∃ k:Nat,r=.inr (k:Int))∧¬ ∀ bd∈l,NM bd.lo∧NM bd.hi) hl
   (fun a bd b s e hI=>?_) (fun s hI=>⟨_,by unfold m59f22_l0;rw [lt_end];rfl,.inl ⟨rfl,hI⟩⟩) () (fun v hv=>by cases hv)
  have hm:bd∈l:=by rw [e];simp
  have hb:=h bd hm
  obtain ⟨r1,a1,a2,a3⟩:=m38_some bd.lo (hv bd hm).1 hb.1
  obtain ⟨r2,b1,b2,b3⟩:=m38_some bd.hi (hv bd hm).2 hb.2
  have hs:m59f22_l0 l (a.length:Int)=cond (decide (0 < (w64 ((r1.length:Int)+(r2.length:Int))))) (some (.done (.inr (a.length:Int)))) (some (.next (w64 ((a.length:Int)+1)))):=by
   unfold m59f22_l0
   rw [show decide ((a.length:Int) < (l.length:Int))=true from by rw [e];exact lt_mid a bd b,show idx l (a.length:Int)=some bd from by rw [e];exact idx_mid a bd b]
   simp only [cond_true,Option.bind_some]
   rw [a1,b1];rfl
  rw [w64_id (by omega) (by omega)] at hs
  by_cases c:r1=[]∧r2=[]
  ·refine .inr ⟨(),by rw [hs,c.1,c.2];rfl,fun x hx=>?_⟩
   rcases List.mem_append.1 hx with hx | hx
   ·exact hI x hx
   ·rw [List.mem_singleton.1 hx];exact ⟨a3.1 c.1,b3.1 c.2⟩
  ·have hpos:0 < (r1.length:Int)+(r2.length:Int):=by
    have:¬ (r1.length=0∧r2.length=0):=fun h=>c ⟨List.length_eq_zero_iff.1 h.1,List.length_eq_zero_iff.1 h.2⟩
    omega
   exact .inl ⟨_,by rw [hs,decide_eq_true hpos];rfl,.inr ⟨⟨a.length,rfl⟩,fun hh=>c ⟨a3.2 (hh bd hm).1,b3.2 (hh bd hm).2⟩⟩⟩
 obtain ⟨r,e1,e2⟩:=h1
 unfold m35f21 m59f22
 rw [e1]
 rcases e2 with ⟨rfl,h2⟩ | ⟨⟨k,rfl⟩,h2⟩
 ·exact ⟨false,rfl,fun _=>h2,fun _=>rfl⟩
 ·refine ⟨true,?_,fun h=>(by cases h),fun h=>(h2 h).elim⟩
  show some (decide (0≤(k:Int)))=_
  rw [decide_eq_true (by omega)]
end Go.Proofs.Ytkimijmiphkddaa
namespace Go.Proofs.Ytkimijmiphkddaa
open Go.RowKit Go.Shelf
theorem partsL_ren (seen:List Int) (L:Lvl):partsL (renL seen L)=(partsL L).map (renL seen):=by
 unfold partsL renL
 dsimp only
 rw [List.map_append,List.map_map,List.map_map]
 congr 1
 ·by_cases c:0 < L.c∨L.vs=[]
  ·rw [if_pos c,if_pos (c.imp id fun h=>by rw [h];rfl)];rfl
  ·rw [if_neg c,if_neg (fun h=>c (h.imp id fun h=>List.map_eq_nil_iff.1 h))];rfl
theorem parts_mem {L p:Lvl} (hp:p∈partsL L):∀ v∈p.vs,v∈L.vs:=by
 unfold partsL at hp
 rcases List.mem_append.1 hp with hp | hp
 ·split at hp
  ·rw [List.mem_singleton.1 hp];intro v hv;cases hv
  ·cases hp
 ·obtain ⟨u,hu,rfl⟩:=List.mem_map.1 hp
  intro v hv
  rw [List.mem_singleton.1 hv];exact hu
theorem parts_len (L:Lvl):(partsL L).length≤L.vs.length+1:=by
 unfold partsL
 rw [List.length_append,List.length_map]
 split
 ·rw [List.length_singleton];omega
 ·rw [List.length_nil];omega
def Kn (seen:List Int) (p:Lvl):Prop:=∀ v∈p.vs,v.1∈seen
theorem partN_ren {seen:List Int} {p:Lvl} (hp:Part p) (hk:Kn seen p):PartN (seen.length+1) (renL seen p):=by
 rcases hp with ⟨h1,h2,h3⟩ | ⟨v,h1,h2,h3,h4,h5⟩
 ·exact .inl ⟨by unfold renL;rw [h1];rfl,h2,h3⟩
 ·have hm:=(posI_lt (hk v (by rw [h1];simp))).1
  refine .inr ⟨ren seen v,by unfold renL;rw [h1];rfl,?_,?_,h4,h5⟩
  ·show (0:Int)≤(posI seen v.1:Int);omega
  ·show (posI seen v.1:Int)+1 < ((seen.length+1:Nat):Int);omega
noncomputable def numX (seen:List Int) (y:Nat→Int):Nat→Int
 | 0=>0
 | i+1=>if (i:Int)∈seen then y (posI seen (i:Int)+1) - y 0 else 0
def numY (seen:List Int) (x:Nat→Int):Nat→Int
 | 0=>0
 | k+1=>x (((seen[k]?).getD 0).toNat+1)
theorem pv_X {seen:List Int} {y:Nat→Int} {p:Lvl} (hp:Part p) (hk:Kn seen p):pv (numX seen y) p=pv y (renL seen p) - y 0:=by
 rcases hp with ⟨h1,h2,h3⟩ | ⟨v,h1,h2,h3,h4,h5⟩
 ·unfold pv ptP ptI renL
  rw [h1]
  show p.c+0=p.c+y 0 - y 0
  omega
 ·have hm:=hk v (by rw [h1];simp)
  unfold pv ptP ptI renL
  rw [h1]
  show v.2+(if ((v.1.toNat:Nat):Int)∈seen then y (posI seen ((v.1.toNat:Nat):Int)+1) - y 0 else 0)=v.2+y ((posI seen v.1:Int).toNat+1) - y 0
  rw [show ((v.1.toNat:Nat):Int)=v.1 by omega,if_pos hm,Int.toNat_natCast]
  omega
theorem pv_Y {seen:List Int} {x:Nat→Int} (hx:x 0=0) {p:Lvl} (hp:Part p) (hk:Kn seen p):pv (numY seen x) (renL seen p)=pv x p:=by
 rcases hp with ⟨h1,h2,h3⟩ | ⟨v,h1,h2,h3,h4,h5⟩
 ·unfold pv ptP ptI renL
  rw [h1]
  show p.c+0=p.c+x 0
  rw [hx]
 ·have hm:=(posI_lt (hk v (by rw [h1];simp))).2
  unfold pv ptP ptI renL
  rw [h1]
  show v.2+x (((seen[(posI seen v.1:Int).toNat]?).getD 0).toNat+1)=v.2+x (v.1.toNat+1)
  rw [Int.toNat_natCast,hm];rfl
def hdP (L:Lvl):Lvl:=(partsL L).headD ⟨0,[]⟩
theorem hdP_one {bd:Bnd} (h:one1 bd):partsL bd.hi=[hdP bd.hi]:=by
 unfold one1 at h
 unfold hdP
 match partsL bd.hi,h with
 | [x],_=>rfl
def edgB (seen:List Int) (bd:Bnd):List Edg:=(partsL bd.lo).map (fun q=>edg (renL seen q) (renL seen (hdP bd.hi)) 0)
def edgR (seen:List Int) (hi p:Lvl):List Edg:=(partsL hi).map (fun o=>edg (renL seen o) (renL seen p) 1)
structure KnB (seen:List Int) (bd:Bnd):Prop where
 lo:∀ v∈bd.lo.vs,v.1∈seen
 hi:∀ v∈bd.hi.vs,v.1∈seen
theorem edgB_eq {seen:List Int} {N:Nat} (hN:N=seen.length+1) (hNN:N≤10000) {bd:Bnd} (hv:BdV bd) (hk:KnB seen bd) (h1:one1 bd) :
  (∀ e∈edgB seen bd,EdgOk N e)∧∀ y,(∀ e∈edgB seen bd,eSat y e)↔∀ q∈partsL bd.lo,pv y (renL seen q)≤pv y (renL seen (hdP bd.hi)):=by
 subst hN
 have hh:hdP bd.hi∈partsL bd.hi:=by rw [hdP_one h1];exact List.mem_singleton.2 rfl
 have hb:=partN_ren (seen:=seen) (hv.hi.part hh) (fun v hv'=>hk.hi v (parts_mem hh v hv'))
 have ha:∀ q∈partsL bd.lo,PartN (seen.length+1) (renL seen q):=fun q hq=>partN_ren (hv.lo.part hq) (fun v hv'=>hk.lo v (parts_mem hq v hv'))
 refine ⟨fun e he=>?_,fun y=>⟨fun h q hq=>?_,fun h e he=>?_⟩⟩
 ·obtain ⟨q,hq,rfl⟩:=List.mem_map.1 he
  exact (m46_eq (Nat.succ_pos _) hNN (ha q hq) hb (by omega) (by omega)).2.1
 ·have:=((m46_eq (Nat.succ_pos _) hNN (ha q hq) hb (k:=0) (by omega) (by omega)).2.2 y).1 (h _ (List.mem_map.2 ⟨q,hq,rfl⟩))
  omega
 ·obtain ⟨q,hq,rfl⟩:=List.mem_map.1 he
  have:=h q hq
  exact ((m46_eq (Nat.succ_pos _) hNN (ha q hq) hb (by omega) (by omega)).2.2 y).2 (by omega)
theorem edgR_eq {seen:List Int} {N:Nat} (hN:N=seen.length+1) (hNN:N≤10000) {bd:Bnd} (hv:BdV bd) (hk:KnB seen bd) {p:Lvl} (hp:p∈partsL bd.lo) :
  (∀ e∈edgR seen bd.hi p,EdgOk N e)∧∀ y,(∀ e∈edgR seen bd.hi p,eSat y e)↔∀ o∈partsL bd.hi,pv y (renL seen o)+1≤pv y (renL seen p):=by
 subst hN
 have hb:=partN_ren (seen:=seen) (hv.lo.part hp) (fun v hv'=>hk.lo v (parts_mem hp v hv'))
 have ha:∀ q∈partsL bd.hi,PartN (seen.length+1) (renL seen q):=fun q hq=>partN_ren (hv.hi.part hq) (fun v hv'=>hk.hi v (parts_mem hq v hv'))
 refine ⟨fun e he=>?_,fun y=>⟨fun h q hq=>?_,fun h e he=>?_⟩⟩
 ·obtain ⟨q,hq,rfl⟩:=List.mem_map.1 he
  exact (m46_eq (Nat.succ_pos _) hNN (ha q hq) hb (by omega) (by omega)).2.1
 ·exact ((m46_eq (Nat.succ_pos _) hNN (ha q hq) hb (by omega) (by omega)).2.2 y).1 (h _ (List.mem_map.2 ⟨q,hq,rfl⟩))
 ·obtain ⟨q,hq,rfl⟩:=List.mem_map.1 he
  exact ((m46_eq (Nat.succ_pos _) hNN (ha q hq) hb (by omega) (by omega)).2.2 y).2 (h q hq)
def edgA (seen:List Int) (a0:List Bnd):List Edg:=a0.flatMap (edgB seen)
theorem feas_ref {seen:List Int} (hs:SeenOk seen) (hNN:seen.length+1≤10000) {a0:List Bnd} {a1:Bnd} (h0:∀ bd∈a0,BdV bd) (h1:BdV a1) (k0:∀ bd∈a0,KnB seen bd) (k1:KnB seen a1) (hone:∀ bd∈a0,one1 bd) {p:Lvl} (hp:p∈partsL a1.lo) :
  (∀ e∈edgA seen a0++edgR seen a1.hi p,EdgOk (seen.length+1) e)∧((∃ y,SolF (seen.length+1) (edgA seen a0++edgR seen a1.hi p) y)↔Refp a0 a1 p):=by
 obtain ⟨r1,r2⟩:=edgR_eq rfl hNN h1 k1 hp
 refine ⟨fun e he=>?_,⟨fun ⟨y,hy⟩=>?_,fun ⟨x,hx,hb,hr⟩=>?_⟩⟩
 ·rcases List.mem_append.1 he with he | he
  ·obtain ⟨bd,hbd,he⟩:=List.mem_flatMap.1 he
   exact (edgB_eq Z hNN (h0 bd hbd) (k0 bd hbd) (hone bd hbd)).1 e he
  ·exact r1 e he
 ·refine ⟨numX seen y,⟨rfl,fun i hi=>?_⟩,fun bd hbd h hh q hq=>?_,fun o ho=>?_⟩
  ·cases i with
   | zero=>exact Int.le_refl _
   | succ i =>
    show 0≤(if (i:Int)∈seen then y (posI seen (i:Int)+1) - y 0 else 0)
    split
    ·next hm =>
     have:=hy.low (posI seen (i:Int)+1) (by have:=(posI_lt hm).1;omega)
     omega
    ·exact Int.le_refl _
  ·have hh':h=hdP bd.hi:=by
    rw [hdP_one (hone bd hbd)] at hh
    exact List.mem_singleton.1 hh
   have g:=((edgB_eq rfl hNN (h0 bd hbd) (k0 bd hbd) (hone bd hbd)).2 y).1 (fun e he=>hy.edge e (List.mem_append_left _ (List.mem_flatMap.2 ⟨bd,hbd,he⟩))) q hq
   rw [pv_X ((h0 bd hbd).lo.part hq) (fun v hv=>(k0 bd hbd).lo v (parts_mem hq v hv)),pv_X ((h0 bd hbd).hi.part hh) (fun v hv=>(k0 bd hbd).hi v (parts_mem hh v hv)),hh']
   omega
  ·have g:=(r2 y).1 (fun e he=>hy.edge e (List.mem_append_right _ he)) o ho
   rw [pv_X (h1.hi.part ho) (fun v hv=>k1.hi v (parts_mem ho v hv)),pv_X (h1.lo.part hp) (fun v hv=>k1.lo v (parts_mem hp v hv))]
   omega
 ·have hnn:∀ i,i < seen.length+1→0≤numY seen x i:=fun i hi=>by
   cases i with
   | zero=>exact Int.le_refl _
   | succ k =>
    have hk:k < seen.length:=by omega
    show 0≤x (((seen[k]?).getD 0).toNat+1)
    rw [List.getElem?_eq_getElem hk]
    have:=hs.rg seen[k] (List.getElem_mem hk)
    exact hx.2 _ (by show seen[k].toNat+1 < 9;omega)
  refine ⟨numY seen x,⟨fun e he=>?_,fun i hi=>hnn i hi,hnn⟩⟩
  rcases List.mem_append.1 he with he | he
  ·obtain ⟨bd,hbd,he⟩:=List.mem_flatMap.1 he
   refine ((edgB_eq Z hNN (h0 bd hbd) (k0 bd hbd) (hone bd hbd)).2 _).2 (fun q hq=>?_) e he
   have hh:hdP bd.hi∈partsL bd.hi:=by rw [hdP_one (hone bd hbd)];exact List.mem_singleton.2 rfl
   rw [pv_Y hx.1 ((h0 bd hbd).lo.part hq) (fun v hv=>(k0 bd hbd).lo v (parts_mem hq v hv)),pv_Y hx.1 ((h0 bd hbd).hi.part hh) (fun v hv=>(k0 bd hbd).hi v (parts_mem hh v hv))]
   exact hb bd hbd _ hh q hq
  ·refine (r2 _).2 (fun o ho=>?_) e he
   rw [pv_Y hx.1 (h1.hi.part ho) (fun v hv=>k1.hi v (parts_mem ho v hv)),pv_Y hx.1 (h1.lo.part hp) (fun v hv=>k1.lo v (parts_mem hp v hv))]
   exact hr o ho
end Go.Proofs.Ytkimijmiphkddaa
namespace Go.Proofs.Ytkimijmiphkddaa
open Go.RowKit Go.Shelf
def fl (l:List Bnd):List Lvl:=l.flatMap (fun b=>[b.lo,b.hi])
theorem fl_app (a b:List Bnd):fl (a++b)=fl a++fl b:=List.flatMap_append
theorem fl_len:∀ l:List Bnd,(fl l).length=2 * l.length
 | []=>rfl
 | x::l=>by
  show ([x.lo,x.hi]++fl l).length=_
  have h:([x.lo,x.hi]:List Lvl).length=2:=rfl
  have h2:(x::l).length=l.length+1:=rfl
  rw [List.length_append,fl_len l]
  omega
theorem fl_at {l a b:List Bnd} {x:Bnd} (e:l=a++x::b):(fl l)[2 * a.length]?=some x.lo∧(fl l)[2 * a.length+1]?=some x.hi:=by
 have e1:fl l=fl a++(x.lo::x.hi::fl b):=by rw [e,fl_app];rfl
 have hn:=fl_len a
 rw [e1]
 exact ⟨by rw [List.getElem?_append_right (by omega),show 2 * a.length - (fl a).length=0 by omega];rfl,by rw [List.getElem?_append_right (by omega),show 2 * a.length+1 - (fl a).length=1 by omega];rfl⟩
theorem all_fl {P:Lvl→Prop} {l:List Bnd}:(∀ L∈fl l,P L)↔∀ bd∈l,P bd.lo∧P bd.hi:=by
 refine ⟨fun h bd hb=>⟨h _ (List.mem_flatMap.2 ⟨bd,hb,by simp⟩),h _ (List.mem_flatMap.2 ⟨bd,hb,by simp⟩)⟩,fun h L hL=>?_⟩
 obtain ⟨bd,hb,hL⟩:=List.mem_flatMap.1 hL
 rcases List.mem_cons.1 hL with rfl | hL
 ·exact (h bd hb).1
 ·rw [List.mem_singleton.1 hL];exact (h bd hb).2
theorem idx_map {α β:Type} (f:α→β) {l a b:List α} {x:α} (e:l=a++x::b):idx (l.map f) (a.length:Int)=some (f x):=by
 show (l.map f)[a.length]?=_
 rw [List.getElem?_map,e]
 simp
theorem l0_eq (a0:List Bnd) (hl:a0.length≤1000):loopN (m19_l0 a0) FUEL (([]:List Lvl),0)=some (fl a0):=by
 refine loop_flat (step:=m19_l0 a0) a0 (fun i (s:List Lvl)=>(s,i)) (fun b=>[b.lo,b.hi]) [] (by omega) (fun a x b e=>?_) (by unfold m19_l0;dsimp only;rw [lt_end];rfl)
 have hm:=mid_lt e
 have hn:=fl_len a
 have hn':(a.flatMap (fun b=>[b.lo,b.hi])).length=2 * a.length:=hn
 unfold m19_l0
 dsimp only
 rw [show decide ((a.length:Int) < (a0.length:Int))=true from by rw [e];exact lt_mid a x b,show idx a0 (a.length:Int)=some x from by rw [e];exact idx_mid a x b]
 simp only [cond_true,Option.bind_some]
 rw [guard_le (by rw [List.nil_append,hn'];show _+2≤_;omega)]
theorem l1_eq (o1:List Lvl) (a1:Bnd) (ls:List Lvl) (hls:o1++[a1.lo,a1.hi]=ls) (hl:ls.length≤1000) (h:∀ L∈ls,L.vs.length≤1000) :
  ∃ r,loopN (m19_l1 o1 a1) FUEL 0=some r∧((r=.inl ()∧∀ L∈ls,VL L)∨(r=.inr (false,3)∧¬ ∀ L∈ls,VL L)):=by
 refine loop_all (step:=m19_l1 o1 a1) ls (fun i (_:Unit)=>i) (fun a _=>∀ L∈a,VL L) (fun r=>(r=.inl ()∧∀ L∈ls,VL L)∨(r=.inr (false,3)∧¬ ∀ L∈ls,VL L)) (by omega)
  (fun a L b s e hI=>?_) (fun s hI=>⟨_,by unfold m19_l1;rw [hls,lt_end];rfl,.inl ⟨rfl,hI⟩⟩) () (fun L hL=>by cases hL)
 have hm:L∈ls:=by rw [e];simp
 have hs:m19_l1 o1 a1 (a.length:Int)=Option.bind (m30 L) fun (x6:Bool)=>cond (!x6) (some (.done (.inr (false,3)))) (some (.next (w64 ((a.length:Int)+1)))):=by
  unfold m19_l1
  rw [hls,show decide ((a.length:Int) < (ls.length:Int))=true from by rw [e];exact lt_mid a L b,show idx ls (a.length:Int)=some L from by rw [e];exact idx_mid a L b]
  rfl
 rcases m28_or L (by have:=h L hm;omega) with ⟨_,e2,v⟩ | ⟨_,e2,v⟩
 ·refine .inr ⟨(),by rw [hs,e2];rfl,fun M hM=>?_⟩
  rcases List.mem_append.1 hM with hM | hM
  ·exact hI M hM
  ·rw [List.mem_singleton.1 hM];exact v
 ·exact .inl ⟨_,by rw [hs,e2];rfl,.inr ⟨rfl,fun hh=>v (hh L hm)⟩⟩
theorem l2_eq (o1:List Lvl) (a1:Bnd) (ls:List Lvl) (hls:o1++[a1.lo,a1.hi]=ls) (hl:ls.length≤1000) (h:∀ L∈ls,L.vs.length≤1000) (hv:∀ L∈ls,VL L) :
  ∃ r,loopN (m19_l2 o1 a1) FUEL 0=some r∧((r=.inl ()∧∀ L∈ls,NM L)∨(r=.inr (false,23)∧¬ ∀ L∈ls,NM L)):=by
 refine loop_all (step:=m19_l2 o1 a1) ls (fun i (_:Unit)=>i) (fun a _=>∀ L∈a,NM L) (fun r=>(r=.inl ()∧∀ L∈ls,NM L)∨(r=.inr (false,23)∧¬ ∀ L∈ls,NM L)) (by omega)
  (fun a L b s e hI=>?_) (fun s hI=>⟨_,by unfold m19_l2;rw [hls,lt_end];rfl,.inl ⟨rfl,hI⟩⟩) () (fun L hL=>by cases hL)
 have hm:L∈ls:=by rw [e];simp
 have hll:L.vs.length≤900000000:=by have:=h L hm;omega
 obtain ⟨r,r1,r2⟩:=m43_eq L hll ((hv L hm).ge hll)
 have hs:m19_l2 o1 a1 (a.length:Int)=cond (decide (0≤r.1)) (some (.done (.inr (false,23)))) (some (.next (w64 ((a.length:Int)+1)))):=by
  unfold m19_l2
  rw [hls,show decide ((a.length:Int) < (ls.length:Int))=true from by rw [e];exact lt_mid a L b,show idx ls (a.length:Int)=some L from by rw [e];exact idx_mid a L b]
  simp only [cond_true,Option.bind_some]
  rw [r1];rfl
 by_cases c:0≤r.1
 ·rw [decide_eq_true c] at hs
  refine .inl ⟨_,hs,.inr ⟨Z,fun hh=>?_⟩⟩
  obtain ⟨v,hv',hn⟩:=r2.1 c
  have:=hh L hm v hv'
  omega
 ·rw [decide_eq_false c] at hs
  refine .inr ⟨(),hs,fun M hM=>?_⟩
  rcases List.mem_append.1 hM with hM | hM
  ·exact hI M hM
  ·rw [List.mem_singleton.1 hM]
   exact fun v hv'=>Int.not_lt.1 fun hn=>c (r2.2 ⟨v,hv',hn⟩)
theorem l3_eq (a0:List Bnd) (hl:a0.length≤1000) (h:∀ bd∈a0,bd.hi.vs.length≤1000) :
  ∃ r,loopN (m19_l3 a0) FUEL 0=some r∧((r=.inl ()∧∀ bd∈a0,one1 bd)∨(r=.inr (false,1)∧¬ ∀ bd∈a0,one1 bd)):=by
 refine loop_all (step:=m19_l3 a0) a0 (fun i (_:Unit)=>i) (fun a _=>∀ bd∈a,one1 bd) (fun r=>(r=.inl ()∧∀ bd∈a0,one1 bd)∨(r=.inr (false,1)∧¬ ∀ bd∈a0,one1 bd)) (by omega)
  (fun a bd b s e hI=>?_) (fun s hI=>⟨_,by unfold m19_l3;rw [lt_end];rfl,.inl ⟨rfl,hI⟩⟩) () (fun L hL=>by cases hL)
 have hm:bd∈a0:=by rw [e];simp
 have hs:m19_l3 a0 (a.length:Int)=cond (decide (1 < ((partsL bd.hi).length:Int))) (some (.done (.inr (false,1)))) (some (.next (w64 ((a.length:Int)+1)))):=by
  unfold m19_l3
  rw [show decide ((a.length:Int) < (a0.length:Int))=true from by rw [e];exact lt_mid a bd b,show idx a0 (a.length:Int)=some bd from by rw [e];exact idx_mid a bd b]
  simp only [cond_true,Option.bind_some]
  rw [m44_eq _ (by have:=h bd hm;omega)];rfl
 have hne:0 < (partsL bd.hi).length:=List.length_pos_iff.2 (parts_ne bd.hi)
 by_cases c:1 < ((partsL bd.hi).length:Int)
 ·rw [decide_eq_true c] at hs
  exact .inl ⟨_,hs,.inr ⟨rfl,fun hh=>by have:=hh bd hm;unfold one1 at this;omega⟩⟩
 ·rw [decide_eq_false c] at hs
  refine .inr ⟨(),hs,fun M hM=>?_⟩
  rcases List.mem_append.1 hM with hM | hM
  ·exact hI M hM
  ·rw [List.mem_singleton.1 hM];unfold one1;omega
theorem ren_len (seen:List Int) (L:Lvl):(renL seen L).vs.length=L.vs.length:=List.length_map ..
theorem l4_eq {seen:List Int} (hNN:seen.length+1≤10000) {bd:Bnd} (hv:BdV bd) (hk:KnB seen bd) (h1:one1 bd) (x6:List Lvl×Int) (i:Int) (s:List Edg) (hx:idx x6.1 (w64 (w64 (2 * i)+1))=some (renL seen bd.hi))
  (hs:s.length≤1000) (hl:bd.lo.vs.length≤1000) (hh:bd.hi.vs.length≤1000):loopN (m19_l4 ((partsL bd.lo).map (renL seen)) x6 (s,i)) FUEL (s,0)=some (s++edgB seen bd):=by
 have hpl:=parts_len bd.lo
 unfold edgB
 rw [← flat_one (fun q=>edg (renL seen q) (renL seen (hdP bd.hi)) 0)]
 have hhd:hdP bd.hi∈partsL bd.hi:=by rw [hdP_one h1];exact List.mem_singleton.2 rfl
 have hbn:=partN_ren (seen:=seen) (hv.hi.part hhd) (fun v hv'=>hk.hi v (parts_mem hhd v hv'))
 refine loop_flat (step:=m19_l4 ((partsL bd.lo).map (renL seen)) x6 (s,i)) (partsL bd.lo) (fun i (s:List Edg)=>(s,i)) (fun q=>[edg (renL seen q) (renL seen (hdP bd.hi)) 0]) s (by omega) (fun a q b e=>?_) ?_
 ·have hm:=mid_lt e
  have hq:q∈partsL bd.lo:=by rw [e];simp
  have han:=partN_ren (seen:=seen) (hv.lo.part hq) (fun v hv'=>hk.lo v (parts_mem hq v hv'))
  unfold m19_l4
  dsimp only
  rw [List.length_map,show decide ((a.length:Int) < ((partsL bd.lo).length:Int))=true from by rw [e];exact lt_mid a q b,cond_true,idx_map (renL seen) e,Option.bind_some,hx,Option.bind_some,m44_eq _ (by rw [ren_len];omega),Option.bind_some,partsL_ren,hdP_one h1]
  show Option.bind (m46 (renL seen q) (renL seen (hdP bd.hi)) 0) _=_
  rw [(m46_eq (Nat.succ_pos _) hNN han hbn (by omega) (by omega)).1,Option.bind_some,guard_le (by rw [List.length_append,flat_one,List.length_map,List.length_singleton];omega)]
 ·unfold m19_l4
  dsimp only
  rw [List.length_map,lt_end];rfl
theorem edgA_len (seen:List Int):∀ (l:List Bnd),(∀ bd∈l,bd.lo.vs.length≤6)→(edgA seen l).length≤7 * l.length
 | [],_=>Nat.le_refl _
 | x::l,h=>by
  have h1:=edgA_len seen l (fun bd hb=>h bd (List.mem_cons_of_mem _ hb))
  have h2:=h x (List.mem_cons_self ..)
  have h3:=parts_len x.lo
  have h4:(edgB seen x).length=(partsL x.lo).length:=List.length_map ..
  show (edgB seen x++edgA seen l).length≤_
  rw [List.length_append,List.length_cons]
  omega
structure BdF (bd:Bnd):Prop where
 lo:bd.lo.vs.length≤6
 hi:bd.hi.vs.length≤6
theorem l5_eq {seen:List Int} (hNN:seen.length+1≤10000) (a0:List Bnd) (a1:Bnd) (n:Int) (hl:a0.length≤12) (hf:∀ bd∈a0,BdF bd) (h0:∀ bd∈a0,BdV bd) (k0:∀ bd∈a0,KnB seen bd) (hone:∀ bd∈a0,one1 bd) :
  loopN (m19_l5 a0 ((fl (a0++[a1])).map (renL seen),n)) FUEL (([]:List Edg),0)=some (edgA seen a0):=by
 refine loop_flat (step:=m19_l5 a0 ((fl (a0++[a1])).map (renL seen),n)) a0 (fun i (s:List Edg)=>(s,i)) (edgB seen) [] (by omega) (fun a bd b e=>?_) (by unfold m19_l5;dsimp only;rw [lt_end];rfl)
 have hm:=mid_lt e
 have hb:bd∈a0:=by rw [e];simp
 have e':a0++[a1]=a++bd::(b++[a1]):=by rw [e];simp
 obtain ⟨g1,g2⟩:=fl_at e'
 have hw:w64 (2 * (a.length:Int))=((2 * a.length:Nat):Int):=by rw [w64_id (by omega) (by omega)];omega
 have hw':w64 (w64 (2 * (a.length:Int))+1)=((2 * a.length+1:Nat):Int):=by rw [hw,w64_id (by omega) (by omega)];omega
 have q1:idx ((fl (a0++[a1])).map (renL seen)) (w64 (2 * (a.length:Int)))=some (renL seen bd.lo):=by
  rw [hw]
  show ((fl (a0++[a1])).map (renL seen))[2 * a.length]?=_
  rw [List.getElem?_map,g1];rfl
 have q2:idx ((fl (a0++[a1])).map (renL seen)) (w64 (w64 (2 * (a.length:Int))+1))=some (renL seen bd.hi):=by
  rw [hw']
  show ((fl (a0++[a1])).map (renL seen))[2 * a.length+1]?=_
  rw [List.getElem?_map,g2];rfl
 have hlen:(edgA seen a).length≤7 * a.length:=edgA_len seen a (fun bd hb=>(hf bd (by rw [e];exact List.mem_append_left _ hb)).lo)
 have hfb:=hf bd hb
 have hlo:=hfb.lo
 have hhi:=hfb.hi
 unfold m19_l5
 dsimp only
 rw [show decide ((a.length:Int) < (a0.length:Int))=true from by rw [e];exact lt_mid a bd b,cond_true,q1,Option.bind_some,m44_eq _ (by rw [ren_len];omega),Option.bind_some,partsL_ren,List.nil_append]
 have key:=l4_eq hNN (h0 bd hb) (k0 bd hb) (hone bd hb) ((fl (a0++[a1])).map (renL seen),n) (a.length:Int) (a.flatMap (edgB seen)) q2 (by show (edgA seen a).length≤_;omega) (by omega) (by omega)
 rw [key];rfl
theorem l6_eq {seen:List Int} (hNN:seen.length+1≤10000) {bd:Bnd} (hv:BdV bd) (hk:KnB seen bd) {p:Lvl} (hp:p∈partsL bd.lo) (x9:List Lvl) (i:Int) (hx:idx x9 i=some (renL seen p)) (s:List Edg) (hs:s.length≤1000) (hh:bd.hi.vs.length≤1000) :
  loopN (m19_l6 ((partsL bd.hi).map (renL seen)) x9 i) FUEL (s,0)=some (s++edgR seen bd.hi p):=by
 have hpl:=parts_len bd.hi
 unfold edgR
 rw [← flat_one (fun o=>edg (renL seen o) (renL seen p) 1)]
 have hbn:=partN_ren (seen:=seen) (hv.lo.part hp) (fun v hv'=>hk.lo v (parts_mem hp v hv'))
 refine loop_flat (step:=m19_l6 ((partsL bd.hi).map (renL seen)) x9 i) (partsL bd.hi) (fun i (s:List Edg)=>(s,i)) (fun o=>[edg (renL seen o) (renL seen p) 1]) s (by omega) (fun a q b e=>?_) ?_
 ·have hm:=mid_lt e
  have hq:q∈partsL bd.hi:=by rw [e];simp
  have han:=partN_ren (seen:=seen) (hv.hi.part hq) (fun v hv'=>hk.hi v (parts_mem hq v hv'))
  unfold m19_l6
  dsimp only
  rw [List.length_map,show decide ((a.length:Int) < ((partsL bd.hi).length:Int))=true from by rw [e];exact lt_mid a q b,cond_true,idx_map (renL seen) e,Option.bind_some,hx,Option.bind_some,(m46_eq (Nat.succ_pos _) hNN han hbn (by omega) (by omega)).1,Option.bind_some,
   guard_le (by rw [List.length_append,flat_one,List.length_map,List.length_singleton];omega)]
 ·unfold m19_l6
  dsimp only
  rw [List.length_map,lt_end];rfl
theorem l7_eq {seen:List Int} (hs:SeenOk seen) (hNN:seen.length+1≤10000) (a0:List Bnd) (a1:Bnd) (ls:List Lvl) (hl:a0.length≤12) (hf:∀ bd∈a0,BdF bd) (hf1:BdF a1) (h0:∀ bd∈a0,BdV bd) (h1:BdV a1) (k0:∀ bd∈a0,KnB seen bd) (k1:KnB seen a1) (hone:∀ bd∈a0,one1 bd) :
  ∃ r,loopN (m19_l7 ((partsL a1.lo).map (renL seen)) (edgA seen a0) ((partsL a1.hi).map (renL seen)) (ls,(seen.length:Int))) FUEL 0=some r∧((r=.inl ()∧∀ p∈partsL a1.lo,¬ Refp a0 a1 p)∨(r=.inr (false,0)∧∃ p∈partsL a1.lo,Refp a0 a1 p)):=by
 have hlen:=edgA_len seen a0 (fun bd hb=>(hf bd hb).lo)
 have hlo:=hf1.lo
 have hhi:=hf1.hi
 have hp1:=parts_len a1.lo
 have hp2:=parts_len a1.hi
 refine loop_all (step:=m19_l7 ((partsL a1.lo).map (renL seen)) (edgA seen a0) ((partsL a1.hi).map (renL seen)) (ls,(seen.length:Int))) (partsL a1.lo) (fun i (_:Unit)=>i) (fun a _=>∀ p∈a,¬ Refp a0 a1 p)
  (fun r=>(r=.inl ()∧∀ p∈partsL a1.lo,¬ Refp a0 a1 p)∨(r=.inr (false,0)∧∃ p∈partsL a1.lo,Refp a0 a1 p)) (by omega)
  (fun a p b s e hI=>?_) (fun s hI=>⟨.inl (),by unfold m19_l7;rw [List.length_map,lt_end];rfl,.inl ⟨rfl,hI⟩⟩) () (fun p hp=>by cases hp)
 have hm:=mid_lt e
 have hp:p∈partsL a1.lo:=by rw [e];simp
 obtain ⟨f1,f2⟩:=feas_ref hs hNN h0 h1 k0 k1 hone hp
 have hrl:(edgR seen a1.hi p).length=(partsL a1.hi).length:=List.length_map ..
 obtain ⟨bb,g1,g2⟩:=feasible_eq (seen.length+1) (edgA seen a0++edgR seen a1.hi p) (Nat.succ_pos _) hNN (by rw [List.length_append];omega) f1
 have hstep:m19_l7 ((partsL a1.lo).map (renL seen)) (edgA seen a0) ((partsL a1.hi).map (renL seen)) (ls,(seen.length:Int)) (a.length:Int)=cond bb (some (.done (.inr (false,0)))) (some (.next (w64 ((a.length:Int)+1)))):=by
  unfold m19_l7
  rw [List.length_map,show decide ((a.length:Int) < ((partsL a1.lo).length:Int))=true from by rw [e];exact lt_mid a p b,cond_true,guard_le (by show 0+_≤_;omega),List.nil_append]
  have k6:=l6_eq hNN h1 k1 hp ((partsL a1.lo).map (renL seen)) (a.length:Int) (idx_map (renL seen) e) (edgA seen a0) (by omega) (by omega)
  rw [k6,Option.bind_some]
  dsimp only
  rw [w64_nx (by omega),g1];rfl
 cases hb:bb with
 | true =>
  rw [hb] at hstep
  exact .inl ⟨_,hstep,.inr ⟨Z,p,hp,f2.1 (g2.1 hb)⟩⟩
 | false =>
  rw [hb] at hstep
  refine .inr ⟨(),hstep,fun q hq=>?_⟩
  rcases List.mem_append.1 hq with hq | hq
  ·exact hI q hq
  ·rw [List.mem_singleton.1 hq]
   intro hr
   have:=g2.2 (f2.2 hr)
   rw [hb] at this
   cases this
theorem main_eq (a0:List Bnd) (a1:Bnd) (hl:a0.length≤12) (hf0:∀ bd∈a0,BdF bd) (hf1:BdF a1):∃ r,m18 a0 a1=some r∧m19 a0 a1=some r:=by
 have hf:∀ bd∈a0++[a1],BdF bd:=fun bd hb=>by
  rcases List.mem_append.1 hb with hb | hb
  ·exact hf0 bd hb
  ·rw [List.mem_singleton.1 hb];exact hf1
 have hl2:(a0++[a1]).length≤13:=by rw [List.length_append,List.length_singleton];omega
 have hfl:=fl_len (a0++[a1])
 have hLs:∀ L∈fl (a0++[a1]),L.vs.length≤6:=all_fl.2 fun bd hb=>⟨(hf bd hb).lo,(hf bd hb).hi⟩
 have hsn:fl a0++[a1.lo,a1.hi]=fl (a0++[a1]):=by rw [fl_app];rfl
 obtain ⟨bi,i1,i2⟩:=inv_eq (l:=a0++[a1]) (by omega) (fun bd hb=>⟨by have:=(hf bd hb).lo;omega,by have:=(hf bd hb).hi;omega⟩)
 obtain ⟨r1,j1,j2⟩:=l1_eq (fl a0) a1 (fl (a0++[a1])) hsn (by omega) (fun L hL=>by have:=hLs L hL;omega)
 by_cases hv:∀ bd∈a0++[a1],VL bd.lo∧VL bd.hi
 ·have hbi:bi=false:=i2.2 hv
  subst hbi
  have hvl:∀ L∈fl (a0++[a1]),VL L:=all_fl.2 hv
  have hr1:r1=.inl ():=by
   rcases j2 with ⟨h,_⟩ | ⟨_,h⟩
   ·exact h
   ·exact (h hvl).elim
  subst hr1
  obtain ⟨bm,n1,n2⟩:=met_eq (l:=a0++[a1]) (by omega) (fun bd hb=>⟨by have:=(hf bd hb).lo;omega,by have:=(hf bd hb).hi;omega⟩) hv
  obtain ⟨r2,o1,o2⟩:=l2_eq (fl a0) a1 (fl (a0++[a1])) hsn (by omega) (fun L hL=>by have:=hLs L hL;omega) hvl
  by_cases hn:∀ bd∈a0++[a1],NM bd.lo∧NM bd.hi
  ·have hnl:∀ L∈fl (a0++[a1]),NM L:=all_fl.2 hn
   have hr2:r2=.inl ():=by
    rcases o2 with ⟨h,_⟩ | ⟨_,h⟩
    ·exact h
    ·exact (h hnl).elim
   subst hr2
   have hE:∀ bd∈a0++[a1],BdE bd:=fun bd hb=>by
    have q1:=(hf bd hb).lo
    have q2:=(hf bd hb).hi
    exact ⟨⟨(hv bd hb).1.v (by omega) (hn bd hb).1,(hv bd hb).2.v (by omega) (hn bd hb).2,by omega,by omega⟩,(hv bd hb).1,(hv bd hb).2⟩
   have hE0:∀ bd∈a0,BdE bd:=fun bd hb=>hE bd (List.mem_append_left _ hb)
   have hE1:BdE a1:=hE a1 (by simp)
   obtain ⟨r,f1,f2⟩:=entails_eq a0 a1 (by omega) hE0 hE1
   obtain ⟨r3,p1,p2⟩:=l3_eq a0 (by omega) (fun bd hb=>by have:=(hf0 bd hb).hi;omega)
   refine ⟨r,f1,?_⟩
   unfold m19
   rw [l0_eq a0 (by omega),Option.bind_some,guard_le (by rw [fl_len];show _+2≤_;omega),j1,Option.bind_some,Sum.elim_inl,o1,Option.bind_some,Sum.elim_inl,p1,Option.bind_some]
   rcases p2 with ⟨rfl,hone⟩ | ⟨rfl,hone⟩
   ·obtain ⟨b,rfl,hb⟩:∃ b:Bool,r=(b,0)∧(b=false↔∃ p∈partsL a1.lo,Refp a0 a1 p):=by
     rcases f2 with ⟨_,h⟩ | ⟨_,h⟩
     ·exact (h hone).elim
     ·exact h
    obtain ⟨seen,c1,c2,c3,c4⟩:=compact_eq (fl (a0++[a1])) (by omega) (all_fl.2 fun bd hb=>⟨⟨(hE bd hb).v.lo,(hf bd hb).lo⟩,⟨(hE bd hb).v.hi,(hf bd hb).hi⟩⟩)
    have hkn:∀ bd∈a0++[a1],KnB seen bd:=fun bd hb=>⟨(all_fl.1 c3 bd hb).1,(all_fl.1 c3 bd hb).2⟩
    have hNN:seen.length+1≤10000:=by omega
    have k5:=l5_eq (seen:=seen) hNN a0 a1 (seen.length:Int) hl hf0 (fun bd hb=>(hE0 bd hb).v) (fun bd hb=>hkn bd (List.mem_append_left _ hb)) hone
    obtain ⟨r7,s1,s2⟩:=l7_eq c2 hNN a0 a1 ((fl (a0++[a1])).map (renL seen)) hl hf0 hf1 (fun bd hb=>(hE0 bd hb).v) hE1.v (fun bd hb=>hkn bd (List.mem_append_left _ hb)) (hkn a1 (by simp)) hone
    obtain ⟨g1,g2⟩:=fl_at (l:=a0++[a1]) (a:=a0) (b:=[]) rfl
    have hlm:(((fl (a0++[a1])).map (renL seen)).length:Int)=2 * (a0.length:Int)+2:=by rw [List.length_map,hfl,List.length_append,List.length_singleton];omega
    have w1:w64 ((((fl (a0++[a1])).map (renL seen)).length:Int) - 2)=((2 * a0.length:Nat):Int):=by rw [hlm,w64_id (by omega) (by omega)];omega
    have w2:w64 ((((fl (a0++[a1])).map (renL seen)).length:Int) - 1)=((2 * a0.length+1:Nat):Int):=by rw [hlm,w64_id (by omega) (by omega)];omega
    have q1:idx ((fl (a0++[a1])).map (renL seen)) ((2 * a0.length:Nat):Int)=some (renL seen a1.lo):=by
     show ((fl (a0++[a1])).map (renL seen))[2 * a0.length]?=_
     rw [List.getElem?_map,g1];rfl
    have q2:idx ((fl (a0++[a1])).map (renL seen)) ((2 * a0.length+1:Nat):Int)=some (renL seen a1.hi):=by
     show ((fl (a0++[a1])).map (renL seen))[2 * a0.length+1]?=_
     rw [List.getElem?_map,g2];rfl
    have hlo:=hf1.lo
    have hhi:=hf1.hi
    rw [Sum.elim_inl,hsn,c1,Option.bind_some,k5,Option.bind_some]
    dsimp only
    rw [w1,q1,Option.bind_some,m44_eq _ (by rw [ren_len];omega),Option.bind_some,w2,q2,Option.bind_some,m44_eq _ (by rw [ren_len];omega),Option.bind_some,partsL_ren,partsL_ren,s1,Option.bind_some]
    rcases s2 with ⟨rfl,t⟩ | ⟨rfl,t⟩
    ·have hbt:b=true:=by
      cases b with
      | true=>rfl
      | false =>
       obtain ⟨p,hp,hr⟩:=hb.1 rfl
       exact (t p hp hr).elim
     rw [hbt];rfl
    ·rw [hb.2 t];rfl
   ·have:r=(false,1):=by
     rcases f2 with ⟨h,_⟩ | ⟨h,_⟩
     ·exact h
     ·exact (hone h).elim
    rw [this];rfl
  ·have hbm:bm=true:=by
    cases bm with
    | true=>rfl
    | false=>exact (hn (n2.1 rfl)).elim
   subst hbm
   have hr2:r2=.inr (false,23):=by
    rcases o2 with ⟨_,h⟩ | ⟨h,_⟩
    ·exact (hn (all_fl.1 h)).elim
    ·exact h
   subst hr2
   refine ⟨(false,23),?_,?_⟩
   ·unfold m18
    rw [guard_le (by show 0+a0.length≤_;omega),guard_le (by rw [List.length_singleton];omega),i1,Option.bind_some,cond_false,n1];rfl
   ·unfold m19
    rw [l0_eq a0 (by omega),Option.bind_some,guard_le (by rw [fl_len];show _+2≤_;omega),j1,Option.bind_some,Sum.elim_inl,o1];rfl
 ·have hbi:bi=true:=by
   cases bi with
   | true=>rfl
   | false=>exact (hv (i2.1 rfl)).elim
  subst hbi
  have hr1:r1=.inr (false,3):=by
   rcases j2 with ⟨_,h⟩ | ⟨h,_⟩
   ·exact (hv (all_fl.1 h)).elim
   ·exact h
  subst hr1
  refine ⟨(false,3),?_,?_⟩
  ·unfold m18
   rw [guard_le (by show 0+a0.length≤_;omega),guard_le (by rw [List.length_singleton];omega),i1];rfl
  ·unfold m19
   rw [l0_eq a0 (by omega),Option.bind_some,guard_le (by rw [fl_len];show _+2≤_;omega),j1];rfl
theorem m11_eq (l:List Bnd) (hl:l.length≤900000000):∃ b:Bool,m11 l=some b∧(b=true→l.length≤12∧∀ bd∈l,BdF bd):=by
 have hloop:∃ r,loopN (m11_l0 l) FUEL 0=some r∧(r=.inr false∨(r=.inl ()∧(l.length≤12→∀ bd∈l,BdF bd))):=by
  refine loop_all (step:=m11_l0 l) l (fun i (_:Unit)=>i) (fun a _=>∀ bd∈a,BdF bd) (fun r=>r=.inr false∨(r=.inl ()∧(l.length≤12→∀ bd∈l,BdF bd))) hl
   (fun a bd b s e hI=>?_) (fun s hI=>⟨.inl (),by unfold m11_l0;rw [lt_end];rfl,.inr ⟨rfl,fun _=>hI⟩⟩) () (fun p hp=>by cases hp)
  have hm:=mid_lt e
  have hs:m11_l0 l (a.length:Int)=cond (decide ((a.length:Int) < 12)) (Option.bind (cond (decide (6 < (bd.lo.vs.length:Int))) (some true) (some (decide (6 < (bd.hi.vs.length:Int))))) (fun (v4:Bool)=>cond v4 (some (.done (.inr false))) (some (.next (w64 ((a.length:Int)+1)))))) (some (.done (.inl ()))):=by
   unfold m11_l0
   rw [show decide ((a.length:Int) < (l.length:Int))=true from by rw [e];exact lt_mid a bd b,show idx l (a.length:Int)=some bd from by rw [e];exact idx_mid a bd b]
   rfl
  by_cases c:(a.length:Int) < 12
  ·rw [decide_eq_true c,cond_true] at hs
   by_cases c1:6 < (bd.lo.vs.length:Int)
   ·exact .inl ⟨_,by rw [hs,decide_eq_true c1];rfl,.inl rfl⟩
   by_cases c2:6 < (bd.hi.vs.length:Int)
   ·exact .inl ⟨_,by rw [hs,decide_eq_false c1,decide_eq_true c2];rfl,.inl rfl⟩
   refine .inr ⟨(),by rw [hs,decide_eq_false c1,decide_eq_false c2];rfl,fun x hx=>?_⟩
   rcases List.mem_append.1 hx with hx | hx
   ·exact hI x hx
   ·rw [List.mem_singleton.1 hx];exact ⟨by omega,by omega⟩
  ·exact .inl ⟨_,by rw [hs,decide_eq_false c];rfl,.inr ⟨rfl,fun h=>by omega⟩⟩
 obtain ⟨r,h1,h2⟩:=hloop
 unfold m11
 rw [h1]
 rcases h2 with rfl | ⟨rfl,h3⟩
 ·exact ⟨false,rfl,fun h=>by cases h⟩
 ·refine ⟨_,rfl,fun h=>?_⟩
  have:l.length≤12:=by have:=of_decide_eq_true h;omega
  exact ⟨this,h3 this⟩
theorem m5_true (a0:List Bnd) (a1:Bnd) (hl:a0.length≤900000000):m5 a0 a1=some true:=by
 obtain ⟨b,e1,e2⟩:=m11_eq a0 hl
 obtain ⟨c,e3,e4⟩:=m11_eq [a1] (by show 1≤_;omega)
 unfold m5
 rw [e1,Option.bind_some]
 cases b with
 | false=>rfl
 | true =>
  rw [e3]
  cases c with
  | false=>rfl
  | true =>
   obtain ⟨h1,h2⟩:=e2 rfl
   obtain ⟨r,f1,f2⟩:=main_eq a0 a1 h1 h2 ((e4 rfl).2 a1 (by simp))
   simp only [Bool.not_true,cond_false,Option.bind_some]
   rw [f1,f2]
   simp only [Option.bind_some,beq_self_eq_true,cond_true]
end Go.Proofs.Ytkimijmiphkddaa
namespace Go.Proofs.Ytkimijmiphkddaa
open Go.RowKit Go.ChangeShapes Go.WideShapes
def allS (w:World):Nat→Nat→Prop:=fun b _=>b < w.heap.size
def RC (w:World) (e:List C) (cs:List Value):Prop:=cs.length=e.length∧∀ (j:Nat) (c:C),e[j]?=some c→∃ u,cs[j]?=some u∧Reads (allS w) w c u
theorem RC.app {w:World} {e0 e1:List C} {cs:List Value} (h0:RC w e0 (cs.take e0.length)) (h1:RC w e1 (cs.drop e0.length)) (hl:cs.length=e0.length+e1.length):RC w (e0++e1) cs:=by
 refine ⟨by rw [hl,List.length_append],fun j c hj=>?_⟩
 rcases Nat.lt_or_ge j e0.length with h | h
 ·rw [List.getElem?_append_left h] at hj
  obtain ⟨u,h2,h3⟩:=h0.2 j c hj
  rw [List.getElem?_take,if_pos h] at h2
  exact ⟨u,h2,h3⟩
 ·rw [List.getElem?_append_right h] at hj
  obtain ⟨u,h2,h3⟩:=h1.2 _ c hj
  rw [List.getElem?_drop,show e0.length+(j - e0.length)=j by omega] at h2
  exact ⟨u,h2,h3⟩
section
variable {H:Type} (enc:TypeId×Value→H) (P:Program) (w:World)
end
section
variable {H:Type} {enc:TypeId×Value→H} {P:Program} {w:World}
end
end Go.Proofs.Ytkimijmiphkddaa
namespace Go.Proofs.Ytkimijmiphkddaa
open Go.RowKit Go.ChangeShapes Go.WideShapes
theorem bulk_pos {H:Type} (d:DataW H):1≤Rows.uptoBulk d:=by
 cases d with
 | lit l=>cases l <;> simp [Rows.uptoBulk]
 | nil=>simp [Rows.uptoBulk]
 | ptr d=>simp [Rows.uptoBulk]
 | slice elems spare=>simp [Rows.uptoBulk]
 | agg parts=>simp [Rows.uptoBulk]
 | iface t d=>simp [Rows.uptoBulk]
 | map entries=>simp [Rows.uptoBulk]
 | held h=>simp [Rows.uptoBulk]
theorem bulk_all {H:Type}:∀ l:List (DataW H),Rows.uptoBulkAll l=(l.map Rows.uptoBulk).sum
 | []=>by simp [Rows.uptoBulkAll]
 | x::l=>by simp only [Rows.uptoBulkAll,List.map_cons,List.sum_cons,bulk_all l]
theorem RC.nil {w:World} {cs:List Value}:RC w [] (cs.take 0):=⟨by simp,fun j c h=>by cases h⟩
theorem RC.snoc {w:World} {e0 e1:List C} {cs:List Value} {m k:Nat} (h0:RC w e0 (cs.take m)) (h1:RC w e1 ((cs.drop m).take k)) (hm:e0.length=m):RC w (e0++e1) (cs.take (m+k)):=by
 have h2:=h0.1
 have h3:=h1.1
 refine RC.app ?_ ?_ ?_
 ·rw [List.take_take,hm,Nat.min_eq_left (by omega)];exact h0
 ·rw [hm,List.drop_take,Nat.add_sub_cancel_left];exact h1
 ·rw [← h3,hm]
  simp only [List.length_take,List.length_drop] at h2 ⊢
  omega
theorem sum_mem {α:Type} (f:α→Nat) {x:α}:∀ {l:List α},x∈l→f x≤(l.map f).sum
 | y::l,h=>by
  rw [List.map_cons,List.sum_cons]
  rcases List.mem_cons.1 h with rfl | h
  ·omega
  ·have:=sum_mem f h;omega
section
variable {H:Type} (enc:TypeId×Value→H) (P:Program) (w:World)
def OpensZ (N:Nat) (t:TypeId) (α:Type) [Enc α] (μ:α→Nat):Prop:=∀ (fuel:Nat) (cs:List Value) (x:DataW H×List MemPlace),DataW.trod enc P w 0 (fun _=>true) true fuel t cs=some x→Rows.uptoBulk x.1≤N→∃ v:α,RC w (Enc.enc v) cs∧μ v≤Rows.uptoBulk x.1
end
section
variable {H:Type} {enc:TypeId×Value→H} {P:Program} {w:World} {N:Nat}
theorem z_int {t:TypeId} (ht:P.underlying t=some (.int .i64)):OpensZ enc P w N t Int (fun _=>1):=by
 intro fuel cs x h hb
 obtain ⟨n,rfl,rfl,-⟩:=DataW.trod_int ht h
 refine ⟨n,⟨Z,fun j c hj=>?_⟩,bulk_pos _⟩
 cases j with
 | zero=>cases hj;exact ⟨_,rfl,Reads.v _ rfl⟩
 | succ j=>cases hj
theorem z_slice {α:Type} [Enc α] [EncLen α] {μ:α→Nat} {t e:TypeId} (ht:P.underlying t=some (.slice e)) (hc:P.cellsOf e=Enc.sz α) (ho:OpensZ enc P w N e α μ):OpensZ enc P w N t (List α) (fun l=>1+(l.map μ).sum):=by
 intro fuel cs x h hb
 rcases Deep.open_slice ht h with ⟨rfl,rfl⟩ | ⟨a,len,cap,m,n,D,Pl,rfl,-,hlc,-,hm,rfl,hel⟩
 ·refine ⟨[],⟨rfl,fun j c hj=>?_⟩,by simp [Rows.uptoBulk]⟩
  cases j with
  | zero =>
   cases hj
   refine ⟨_,Z,?_⟩
   rw [Enc.nil]
   exact .sl _ [] none 0 0 0 (fun _ _=>undef) (Nat.le_refl _) (fun h=>absurd rfl h) (fun i e h=>by simp at h) (fun i e j c h=>by simp at h) (fun i e j c h=>by simp at h) (fun i e j c h=>by simp at h)
  | succ j=>cases hj
 ·have hm':m=cap:=by rw [hm];rfl
  have hbk:((List.range len).map fun i=>Rows.uptoBulk (D i)).sum+1≤Rows.uptoBulk (DataW.slice (H:=H) ((List.range len).map D) ((List.range (m - len)).map fun j=>D (len+j))):=by
   simp only [Rows.uptoBulk,bulk_all,List.map_map]
   have:(List.map (Rows.uptoBulk ∘ D) (List.range len)).sum=((List.range len).map fun i=>Rows.uptoBulk (D i)).sum:=rfl
   omega
  dsimp only at hb
  have hD:∀ k,k < len→Rows.uptoBulk (D k)≤N:=fun k hk=>by
   have:=sum_mem (fun i=>Rows.uptoBulk (D i)) (List.mem_range.2 hk)
   omega
  have hall:∀ k,k≤len→∃ l:List α,l.length=k∧(l.map μ).sum≤((List.range k).map fun i=>Rows.uptoBulk (D i)).sum∧∀ (i:Nat) (v:α),l[i]?=some v→∃ cs',w.cells? 0 (a.add (i * Enc.sz α)) (Enc.sz α)=some cs'∧RC w (Enc.enc v) cs':=by
   intro k
   induction k with
   | zero=>intro _;exact ⟨[],rfl,Nat.le_refl _,fun i v h=>by simp at h⟩
   | succ k ih =>
    intro hk
    obtain ⟨l,h1,hsum,h2⟩:=ih (by omega)
    obtain ⟨cs',h3,h4⟩:=hel k (by omega)
    rw [hc] at h3
    obtain ⟨v,hv,hμ⟩:=ho _ _ _ h4 (hD k (by omega))
    refine ⟨l++[v],by simp [h1],?_,fun i v' hi=>?_⟩
    ·rw [List.range_succ]
     simp only [List.map_append,List.map_cons,List.map_nil,List.sum_append,List.sum_cons,List.sum_nil]
     dsimp only at hμ
     omega
    rcases Nat.lt_or_ge i l.length with h | h
    ·rw [List.getElem?_append_left h] at hi;exact h2 i v' hi
    ·rw [List.getElem?_append_right h] at hi
     have hi0:i - l.length=0:=by
      rcases Nat.eq_zero_or_pos (i - l.length) with h0 | h0
      ·exact h0
      ·rw [List.getElem?_eq_none (by simp only [List.length_singleton];omega)] at hi;cases hi
     have hik:i=k:=by omega
     rw [hi0] at hi;cases hi
     rw [hik];exact ⟨cs',h3,hv⟩
  obtain ⟨l,hl,hsum,hcells⟩:=hall len (Nat.le_refl _)
  have hpos:0 < Enc.sz α:=EncLen.pos
  have hspot:l ≠ []→a.spot=none∧a.block < w.heap.size:=by
   intro hne
   obtain ⟨v,r,rfl⟩:=List.exists_cons_of_ne_nil hne
   obtain ⟨cs',h1,h2⟩:=hcells 0 v rfl
   obtain ⟨-,h3,h4⟩:=World.cells?_some h1
   have h5:=h4 0 hpos
   rw [Nat.zero_mul,Deep.add_add,Nat.zero_add] at h5
   have h6:(cs'[0]?).isSome:=by rw [List.getElem?_eq_getElem (by omega)];rfl
   rw [← h5] at h6
   have h7:(a.add 0)=a:=by simp [Addr.add]
   rw [h7] at h6
   unfold World.cell? at h6
   split at h6
   ·rename_i c _ _ hb
    refine ⟨?_,(Array.getElem?_eq_some_iff.1 hb).1⟩
    split at h6
    ·cases h6
    ·rename_i hs
     cases hsp:a.spot with
     | none=>rfl
     | some q=>rw [hsp] at hs;exact absurd rfl hs
   ·cases h6
  have hadd:l ≠ []→∀ k,a.add k=⟨a.block,a.off+k,none⟩:=by
   intro hne k
   have h1:=(hspot hne).1
   unfold Addr.add
   split
   ·rename_i h0;subst h0
    obtain ⟨b,o,sp⟩:=a
    simp only at h1;subst h1;rfl
   ·rfl
  have hcell:∀ (i:Nat) (e':List C) (j:Nat) (c:C),(Enc.encL l)[i]?=some e'→e'[j]?=some c→∃ u,w.cell? ⟨a.block,a.off+i * Enc.sz α+j,none⟩=some u∧Reads (allS w) w c u:=by
   intro i e' j c hi hj
   rw [Enc.map,List.getElem?_map] at hi
   cases hx:l[i]? with
   | none=>rw [hx] at hi;cases hi
   | some v =>
    rw [hx] at hi;cases hi
    have hne:l ≠ []:=by intro h0;rw [h0] at hx;simp at hx
    obtain ⟨cs',h1,h2⟩:=hcells i v hx
    obtain ⟨u,h3,h4⟩:=h2.2 j c hj
    obtain ⟨-,h5,h6⟩:=World.cells?_some h1
    have hjl:j < Enc.sz α:=by have:=(List.getElem?_eq_some_iff.1 h3).1;omega
    have h7:=h6 j hjl
    rw [Deep.add_add,hadd hne,h3,← Nat.add_assoc] at h7
    exact ⟨u,h7,h4⟩
  refine ⟨l,⟨rfl,fun j c hj=>?_⟩,by dsimp only;omega⟩
  cases j with
  | succ j=>cases hj
  | zero =>
   cases hj
   refine ⟨_,Z,?_⟩
   have hR:=Reads.sl (S:=allS w) (w:=w) (Enc.sz α) (Enc.encL l) (some a) cap a.block a.off (fun i j=>(w.cell? ⟨a.block,a.off+i * Enc.sz α+j,none⟩).getD undef) (by rw [Enc.len,hl];exact hlc)
    (fun hne=>by
     have hne':l ≠ []:=by intro h0;rw [h0,Enc.nil] at hne;exact hne rfl
     have h7:(a.add 0)=a:=by simp [Addr.add]
     rw [← h7,hadd hne'])
    (fun i e' hi=>encL_lens l e' (List.mem_of_getElem? hi))
    (fun i e' j c hi hj=>by obtain ⟨u,h1,-⟩:=hcell i e' j c hi hj;rw [h1];rfl)
    (fun i e' j c hi hj=>by
     have hne:l ≠ []:=by intro h0;rw [h0,Enc.nil] at hi;simp at hi
     exact (hspot hne).2)
    (fun i e' j c hi hj=>by obtain ⟨u,h1,h2⟩:=hcell i e' j c hi hj;rw [h1];exact h2)
   rw [Enc.len,hl] at hR
   exact hR
theorem z_pos {α:Type} [Enc α] {μ:α→Nat} {t:TypeId} (h:∀ N,OpensZ enc P w N t α μ→OpensZ enc P w (N+1) t α μ):∀ N,OpensZ enc P w N t α μ
 | 0=>fun fuel cs x _ hb=>by have:=bulk_pos x.1;omega
 | N+1=>h N (z_pos h N)
end
def lvz (L:Lvl):Nat:=1+(L.vs.map fun _=>1).sum
def bdz (b:Bnd):Nat:=lvz b.lo+lvz b.hi
theorem ones {α:Type}:∀ l:List α,(l.map fun _=>1).sum=l.length
 | []=>rfl
 | x::l=>by rw [List.map_cons,List.sum_cons,ones l,List.length_cons];omega
theorem lvz_len (L:Lvl):L.vs.length≤lvz L:=by unfold lvz;rw [ones];omega
section
variable {H:Type} {enc:TypeId×Value→H} {w:World} {N:Nat}
theorem cells_3:Try.prog.cellsOf 3=1:=by kernel_rfl
theorem cells_37:Try.prog.cellsOf 37=1:=by kernel_rfl
theorem cells_39:Try.prog.cellsOf 39=2:=by kernel_rfl
theorem cells_41:Try.prog.cellsOf 41=4:=by kernel_rfl
theorem cells_59:Try.prog.cellsOf 59=2:=by kernel_rfl
theorem z_lv:OpensZ enc Try.prog w (N+1) 59 LV (fun _=>1):=by
 intro fuel cs x h hb
 obtain ⟨xs,n,_,rfl,hl,hlen,hf⟩:=DataW.trod_struct Try.underlying59 h
 match xs,hlen with
 | [y0,y1],_ =>
  have hb':Rows.uptoBulk y0.1+Rows.uptoBulk y1.1+1≤Rows.uptoBulk (DataW.agg (H:=H) [y0.1,y1.1]):=by simp only [Rows.uptoBulk,Rows.uptoBulkAll];omega
  have hb2:Rows.uptoBulk (DataW.agg (H:=H) [y0.1,y1.1])≤N+1:=hb
  obtain ⟨v0,r0,m0⟩:=(z_int Try.underlying3:OpensZ enc Try.prog w N _ _ _) n _ _ (hf 0 _ rfl) (by omega)
  change RC w (Enc.enc v0) ((cs.drop 0).take (Try.prog.cellsOf 3)) at r0
  rw [cells_3] at r0
  obtain ⟨v1,r1,m1⟩:=(z_int Try.underlying3:OpensZ enc Try.prog w N _ _ _) n _ _ (hf 1 _ rfl) (by omega)
  change RC w (Enc.enc v1) ((cs.drop 1).take (Try.prog.cellsOf 3)) at r1
  rw [cells_3] at r1
  have hcs:cs.take 2=cs:=List.take_of_length_le (by rw [hl];exact Nat.le_of_eq cells_59)
  have hR:=((((RC.nil).snoc (k:=1) r0 rfl)).snoc (k:=1) r1 rfl)
  refine ⟨(v0,v1),by rw [← hcs];exact hR,Nat.le_trans ?_ hb'⟩
  show 1≤_
  omega
theorem z_lv':OpensZ enc Try.prog w N 59 LV (fun _=>1):=z_pos (fun _ _=>z_lv) N
theorem z_lvl:OpensZ enc Try.prog w (N+1) 39 Lvl lvz:=by
 intro fuel cs x h hb
 obtain ⟨xs,n,_,rfl,hl,hlen,hf⟩:=DataW.trod_struct Try.underlying39 h
 match xs,hlen with
 | [y0,y1],_ =>
  have hb':Rows.uptoBulk y0.1+Rows.uptoBulk y1.1+1≤Rows.uptoBulk (DataW.agg (H:=H) [y0.1,y1.1]):=by simp only [Rows.uptoBulk,Rows.uptoBulkAll];omega
  have hb2:Rows.uptoBulk (DataW.agg (H:=H) [y0.1,y1.1])≤N+1:=hb
  obtain ⟨v0,r0,m0⟩:=(z_int Try.underlying3:OpensZ enc Try.prog w N _ _ _) n _ _ (hf 0 _ rfl) (by omega)
  change RC w (Enc.enc v0) ((cs.drop 0).take (Try.prog.cellsOf 3)) at r0
  rw [cells_3] at r0
  obtain ⟨v1,r1,m1⟩:=(z_slice Try.underlying37 (by kernel_rfl) z_lv':OpensZ enc Try.prog w N _ _ _) n _ _ (hf 1 _ rfl) (by omega)
  change RC w (Enc.enc v1) ((cs.drop 1).take (Try.prog.cellsOf 37)) at r1
  rw [cells_37] at r1
  have hcs:cs.take 2=cs:=List.take_of_length_le (by rw [hl];exact Nat.le_of_eq cells_39)
  have hR:=((((RC.nil).snoc (k:=1) r0 rfl)).snoc (k:=1) r1 rfl)
  refine ⟨⟨v0,v1⟩,by rw [← hcs];exact hR,Nat.le_trans ?_ hb'⟩
  show lvz ⟨v0,v1⟩≤_
  unfold lvz
  dsimp only at m0 m1 ⊢
  omega
theorem z_lvl':OpensZ enc Try.prog w N 39 Lvl lvz:=z_pos (fun _ _=>z_lvl) N
theorem z_bnd:OpensZ enc Try.prog w (N+1) 41 Bnd bdz:=by
 intro fuel cs x h hb
 obtain ⟨xs,n,_,rfl,hl,hlen,hf⟩:=DataW.trod_struct Try.underlying41 h
 match xs,hlen with
 | [y0,y1],_ =>
  have hb':Rows.uptoBulk y0.1+Rows.uptoBulk y1.1+1≤Rows.uptoBulk (DataW.agg (H:=H) [y0.1,y1.1]):=by simp only [Rows.uptoBulk,Rows.uptoBulkAll];omega
  have hb2:Rows.uptoBulk (DataW.agg (H:=H) [y0.1,y1.1])≤N+1:=hb
  obtain ⟨v0,r0,m0⟩:=(z_lvl':OpensZ enc Try.prog w N _ _ _) n _ _ (hf 0 _ rfl) (by omega)
  change RC w (Enc.enc v0) ((cs.drop 0).take (Try.prog.cellsOf 39)) at r0
  rw [cells_39] at r0
  obtain ⟨v1,r1,m1⟩:=(z_lvl':OpensZ enc Try.prog w N _ _ _) n _ _ (hf 1 _ rfl) (by omega)
  change RC w (Enc.enc v1) ((cs.drop 2).take (Try.prog.cellsOf 39)) at r1
  rw [cells_39] at r1
  have hcs:cs.take 4=cs:=List.take_of_length_le (by rw [hl];exact Nat.le_of_eq cells_41)
  have hR:=((((RC.nil).snoc (k:=2) r0 rfl)).snoc (k:=2) r1 rfl)
  refine ⟨⟨v0,v1⟩,by rw [← hcs];exact hR,Nat.le_trans ?_ hb'⟩
  show bdz ⟨v0,v1⟩≤_
  unfold bdz
  dsimp only at m0 m1 ⊢
  omega
theorem z_bnd':OpensZ enc Try.prog w N 41 Bnd bdz:=z_pos (fun _ _=>z_bnd) N
theorem z_bnds:OpensZ enc Try.prog w N 22 (List Bnd) (fun l=>1+(l.map bdz).sum):=z_slice Try.underlying22 (by kernel_rfl) z_bnd'
end
end Go.Proofs.Ytkimijmiphkddaa
namespace Go.Proofs.Ytkimijmiphkddaa
open Go.ChangeShapes Go.WideShapes Go.ChangeAt Go.RowKit Go.WideElems
theorem own:ownKnob Try.prog.godebug=none:=by kernel_rfl
theorem laidOut:laidOutB Try.prog=true:=by kernel_rfl
theorem slice_readsZ {H:Type} {enc:TypeId×Value→H} {α:Type} [Enc α] [EncLen α] {μ:List α→Nat} {W:World} {base:Nat} {t e:TypeId} {v:Value} {d:DataW H} {p:List MemPlace} (ht:Try.prog.underlying t=some (.slice e)) (ho:∀ N,OpensZ enc Try.prog W N t (List α) μ)
  (hval:Value.okWide Try.prog W .any base t v) (h:DataW.Trod enc Try.prog W 0 (fun _=>true) true t v d p):∃ l:List α,Reads (allS W) W (.sl (Enc.sz α) (Enc.encL l)) v∧μ l≤Rows.uptoBulk d:=by
 obtain ⟨fuel,hf⟩:=h
 obtain ⟨l,hl,hμ⟩:=ho _ _ _ _ hf (Nat.le_refl _)
 refine ⟨l,?_,hμ⟩
 obtain ⟨u,h2,h3⟩:=hl.2 0 _ rfl
 have h4:v.cells=#[v]:=by
  have h5:=hl.1
  cases v with
  | agg cs =>
   exfalso
   obtain ⟨s,n,c,h7⟩:=okWide_slice ht hval
   cases h7
  | _=>rfl
 rw [h4] at h2
 cases h2
 exact h3
theorem bnd_readsZ {H:Type} {enc:TypeId×Value→H} {W:World} {base:Nat} {v:Value} {d:DataW H} {p:List MemPlace}
  (hval:Value.okWide Try.prog W .any base 41 v) (h:DataW.Trod enc Try.prog W 0 (fun _=>true) true 41 v d p):∃ L:Bnd,(AV.agg (cE L)).rel (Vu.of (allS W)) W v∧bdz L≤Rows.uptoBulk d:=by
 obtain ⟨fuel,hf⟩:=h
 obtain ⟨L,hl,hμ⟩:=z_bnd' (N:=Rows.uptoBulk d) _ _ _ hf (Nat.le_refl _)
 obtain ⟨cs,rfl,-⟩:=okWide_struct Try.underlying41 hval
 have hc:(Value.agg cs).cells=cs:=rfl
 rw [hc] at hl
 refine ⟨L,⟨cs,Z,?_,fun i x hx=>?_⟩,hμ⟩
 ·have:=hl.1
  rw [Array.length_toList] at this
  rw [this,List.length_map]
 ·rw [List.getElem?_map] at hx
  cases hy:(Enc.enc L)[i]? with
  | none=>rw [hy] at hx;cases hx
  | some c =>
   rw [hy] at hx
   cases hx
   obtain ⟨u,hu,hr⟩:=hl.2 i c hy
   exact ⟨u,by simpa using hu,hr⟩
end Go.Proofs.Ytkimijmiphkddaa
namespace Go.Proofs.Ytkimijmiphkddaa
open Go.ChangeShapes Go.WideShapes Go.ChangeAt Go.RowKit Go.WideElems
theorem bdz_ok {b:Bnd} {n:Nat} (h:bdz b≤n) (hn:n≤1048576):BdL b:=by
 have h1:=lvz_len b.lo
 have h2:=lvz_len b.hi
 unfold bdz at h
 exact ⟨by omega,by omega⟩
theorem bdzs_ok {l:List Bnd} {n:Nat} (h:1+(l.map bdz).sum≤n) (hn:n≤1048576):∀ b∈l,BdL b:=fun b hb=>bdz_ok (n:=n) (by have:=sum_mem bdz hb;omega) hn
theorem bdzs_len:∀ l:List Bnd,l.length≤(l.map bdz).sum
 | []=>Nat.le_refl _
 | x::l=>by
  have h:=bdzs_len l
  have h1:1≤bdz x:=by unfold bdz lvz;omega
  rw [List.map_cons,List.sum_cons,List.length_cons]
  omega
theorem law5 {W:World} (a0:List Bnd) (a1:Bnd) (h0:a0.length≤900000000) {v0:Value} (hv0:Reads (allS W) W (.sl 4 (Enc.encL a0)) v0) {v1:Value} (hv1:(AV.agg (cE a1)).rel (Vu.of (allS W)) W v1):Calls Try.prog 5 #[v0,v1] W fun e W'=>e=.returned (.bool true)∧Below W.heap.size W W':=by
 have hF:=m5_ok a0 a1 true (m5_true a0 a1 h0)
 refine Calls.mono (hF.2 (allS W) W #[v0,v1] (fun b o h=>h) ⟨Z,fun i y hy=>?_⟩) ?_
 ·match i,hy with
  | 0,hy=>cases hy;exact ⟨_,rfl,hv0⟩
  | 1,hy=>cases hy;exact ⟨_,rfl,hv1⟩
 ·rintro e W' ⟨u,S',rfl,hx,-,-,hu⟩
  have e1:u=.bool true:=by cases hu;rfl
  rw [e1]
  exact ⟨Z,hx.os,hx.tape,hx.output,hx.size,fun k hk=>hx.block k hk (fun h=>h)⟩
theorem contract (H:Type) (enc:TypeId×Value→H) (W:World) (base:Nat) (args:Array Value) (ds gs:List (DataW H)) (before:List MemPlace) (hk:Rows.uptoSmall H (ds++gs)=true)
  (hval0:∀ (j:Nat) t v,Try.f5.params[j]?=some t→args[j]?=some v→Value.okWide Try.prog W .any base t v)
  (hW:DataW.Whole enc Try.prog Try.f5.params.toList Rows.universeEntailsSpec.vars false W args.toList ds gs before) :
  Calls Try.prog 5 args W fun e W'=>∃ v,e=.returned v∧Rows.universeEntailsSpec.post enc Try.prog Try.f5 false true false false W args v W':=by
 have hval:∀ (j:Nat) t v,Try.f5.params[j]?=some t→args[j]?=some v→Value.okWide Try.prog W .any base t v:=hval0
 have hW':=hW
 obtain ⟨p,q,hA0,hV,rfl,hfz,hnd⟩:=hW
 have hA:DataW.TrodAll enc Try.prog W 0 (fun _=>true) true Try.f5.params.toList args.toList ds p:=hA0
 rw [Try.params5] at hA hval
 obtain ⟨v0,v1,d0,d1,p0,p1,rfl,rfl,rfl,h0,h1⟩:=trodAll_two hA
 obtain ⟨rfl,rfl⟩:=trodVars_none hV
 have h0k:=h0
 have h1k:=h1
 obtain ⟨a0,hv0,hz⟩:=slice_readsZ Try.underlying22 (fun N=>z_bnds) (hval 0 22 v0 rfl rfl) h0
 obtain ⟨a1,hv1,hz1⟩:=bnd_readsZ (hval 1 41 v1 rfl rfl) h1
 have hbk:Rows.uptoBulkAll ([d0,d1]++([]:List (DataW H)))≤1048576:=of_decide_eq_true hk
 simp only [List.append_nil,Rows.uptoBulkAll] at hbk
 clear hA0 hval0
 simp only [List.append_nil] at hW'
 have hlt:∀ x∈p0++p1,x.block < W.heap.size:=fun x hx=>by simpa using hW'.lt x hx
 refine (law5 a0 a1 (by have:=bdzs_len a0;omega) hv0 hv1).mono fun e W' ⟨he,hb⟩=>?_
 subst he
 have hargs:∀ sp:Nat→Bool,(∀ x∈p0++p1,sp x.block=true)→DataW.TrodAll enc Try.prog W' 0 sp true [22,41] [v0,v1] [d0,d1] (p0++p1):=fun sp hsp =>
  trodAll_mk2 (WideElems.Trod_stays laidOut (by kernel_rfl) (of_decide_eq_true (by kernel_rfl)) h0k (fun x hx=>hb.same (hlt x (by simp [hx]))) (fun x hx=>hsp x (by simp [hx]))) (WideElems.Trod_stays laidOut (by kernel_rfl) (of_decide_eq_true (by kernel_rfl)) h1k (fun x hx=>hb.same (hlt x (by simp [hx]))) (fun x hx=>hsp x (by simp [hx])))
 exact ⟨_,rfl,_,_,_,[],p0++p1,[],hW',trodAll_mk1 (shut_bool Try.underlying4 true),hargs _ (fun x hx=>by simpa using hlt x hx),rfl,hb.frame _,fun h=>by cases h⟩
theorem lifted (os:Os) (started:os.Started) (H:Type) (enc:TypeId×Value→H) (F:Stop.Interp) :
  ReturnsInHanded {} Try.checked os 5 .any ((Rows.OpenSpec.upto Rows.universeEntailsSpec).pre6 enc Try.prog Try.f5 Rows.universeEntailsUptoRow.domain false) (((Rows.OpenSpec.upto Rows.universeEntailsSpec).at F).post enc Try.prog Try.f5 false true false false):=by
 refine returnsInHanded_of_cond (C:=Try.checked) (s:=Rows.OpenSpec.upto Rows.universeEntailsSpec) (k:=Rows.uptoSmall) rfl own started (by kernel_rfl) Try.func5
  (OpenSpec.witness (enc:=enc) (C:=Try.checked) (s:=Rows.OpenSpec.upto Rows.universeEntailsSpec) (k:=Rows.uptoSmall) rfl false ⟨#[],#[.slice none 0 0,.agg #[.int .i64 0,.slice none 0 0,.int .i64 0,.slice none 0 0]],[]⟩ 8 (by kernel_rfl) (by kernel_rfl) (by kernel_rfl)
   (x:=([.nil,.agg [.agg [.lit (.int .i64 0),.nil],.agg [.lit (.int .i64 0),.nil]]],[],[])) (by kernel_rfl) rfl (by kernel_rfl)) ?_
 intro W base args ds gs before hval hW _ hk _
 exact contract H enc W base args ds gs before hk hval hW
theorem over:Rows.universeEntailsUptoRow.holds Try.pinned (Rows.OpenSpec.upto Rows.universeEntailsSpec) :=
 OpenClaim.holds_of_cond 5 Try.f5 rfl rfl rfl rfl rfl rfl rfl ⟨rfl,rfl,rfl,rfl,rfl⟩ rfl rfl rfl rfl rfl (by kernel_rfl) Try.func5 (by kernel_rfl)
  (of_decide_eq_true (by kernel_rfl)) (by unfold Func.isWrapper;first | (rw [if_pos (by decide +kernel)];kernel_rfl) | (rw [if_neg (by decide +kernel)];exact ⟨rfl,rfl⟩))
  (fun os started H enc _ F=>lifted os started H enc F)
theorem universeEntailsUpto:Rows.UniverseEntailsUptoSaid:=over
#print axioms universeEntailsUpto
end Go.Proofs.Ytkimijmiphkddaa
