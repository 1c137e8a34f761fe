/- Part 5 of the proof: rules, mirrors and plain laws. The card of TextDecls (second form) is proved here: for every declaration the law returns true, and the arguments read behind the call as they did before; conditions: what is read is of bulk at most 1048576, and the listed package-level variables hold what the text of the program lays (tied). -/
import Derived.Test.YtjcfppnjamjjhaaGreatDoorK84
import Derived.Shelf.Strings.Builder1
set_option maxHeartbeats 2000000
set_option maxRecDepth 100000
set_option linter.unusedSimpArgs false
set_option linter.unusedVariables false
set_option linter.unusedSectionVars false
namespace Go.Proofs.YtjcfppnjamjjhaaGreatDoor
section
open Go.RowKit Go.Shelf
theorem idx_some {α:Type} {l:List α} {i:Int} (h0:0≤i) (h1:i < (l.length:Int)):∃ x,J3 l i=some x:=by
 cases i with
 | ofNat k=>exact ⟨l[k]'(by have:(Int.ofNat k) < (l.length:Int):=h1;simp at this;omega),List.getElem?_eq_getElem _⟩
 | negSucc k=>omega
def DY (l:Lvl) (a:List Qde) (x:Qde):Prop:=x.1 < -65536∨7 < x.1∨x.2 < 0∨100 < x.2∨(0 < a.length∧∃ y,J3 l.vs (QE ((a.length:Int) - 1))=some y∧x.1≤y.1)
theorem prev_some {l:List Qde} {a:List Qde} {x:Qde} {b:List Qde} (h:l.length≤900000000) (e:l=a++x::b) (ha:0 < a.length):∃ y,J3 l (QE ((a.length:Int) - 1))=some y:=by
 have:=mid_lt e
 rw [YK (by omega) (by omega)]
 exact idx_some (by omega) (by omega)
theorem m211_eq (l:List Qde) (u:Lvl) (h:l.length≤900000000):∃ b,DS l u=some b∧(b=true↔∃ x∈l,u.c≤x.2):=by
 have h1:∃ r,Qj (Za l u) Qk 0=some r∧((r=.inl ())∧(∀ x∈l,¬ u.c≤x.2)∨∃ k:Nat,r=.inr (k:Int)∧∃ x∈l,u.c≤x.2):=by
  refine YA (step:=Za l u) l (fun i (_:Unit)=>i) (fun a _=>∀ x∈a,¬ u.c≤x.2) (fun r=>((r=.inl ())∧(∀ x∈l,¬ u.c≤x.2)∨∃ k:Nat,r=.inr (k:Int)∧∃ x∈l,u.c≤x.2)) h
   (fun a x b s e hI=>?_) (fun s hI=>⟨.inl (),by unfold Za;rw [J9];rfl,.inl ⟨rfl,hI⟩⟩) () (fun x hx=>by cases hx)
  by_cases hx:u.c≤x.2
  ·refine .inl ⟨.inr (a.length:Int),?_,.inr ⟨a.length,rfl,x,by rw [e];simp,hx⟩⟩
   unfold Za
   rw [e,Y9,JI]
   show cond (decide (u.c≤x.2)) _ _=_
   rw [decide_eq_true hx];rfl
  ·refine .inr ⟨(),?_,fun y hy=>?_⟩
   ·unfold Za
    rw [e,Y9,JI]
    show cond (decide (u.c≤x.2)) _ _=_
    rw [decide_eq_false hx];rfl
   ·rcases List.mem_append.1 hy with hy | hy
    ·exact hI y hy
    ·rw [List.mem_singleton.1 hy];exact hx
 obtain ⟨r,h2,h3⟩:=h1
 unfold DS Q2d
 rw [h2]
 rcases h3 with ⟨rfl,h4⟩ | ⟨k,rfl,h4⟩
 ·exact ⟨false,rfl,⟨fun h=>(by cases h),fun ⟨x,hx,h⟩=>(h4 x hx h).elim⟩⟩
 ·refine ⟨true,?_,⟨fun _=>h4,fun _=>rfl⟩⟩
  show some (decide ((0:Int)≤(k:Int)))=_
  rw [decide_eq_true (by omega)]
def DX (l:Lvl):Prop:=0≤l.c∧l.c≤100∧(0 < l.c→∀ x∈l.vs,¬ l.c≤x.2)∧∀ a x b,l.vs=a++x::b→¬ DY l a x
theorem Q2f (l:Lvl) (h:l.vs.length≤900000000):∃ b,Q49 l=some b∧(b=true↔DX l):=by
 have hloop:=loop_bad (β:=Unit⊕Bool) (step:=KH l) l.vs (DY l) (.inr false) (.inl ()) h (fun a x b e=>by
  have hprev:=fun ha=>prev_some (x:=x) (b:=b) h e ha
  have:KH l (a.length:Int)=Option.bind (cond (decide (x.1 < (-65536))) (some true) (cond (decide (7 < x.1)) (some true) (cond (decide (x.2 < 0)) (some true) (cond (decide (100 < x.2)) (some true)
    (cond (decide (0 < (a.length:Int))) (Option.bind (J3 l.vs (QE ((a.length:Int) - 1))) fun (x12:Qde)=>some (decide (x.1≤x12.1))) (some false)))))) (fun (v6:Bool)=>cond v6 (some (.done (.inr false))) (some (.next (QE ((a.length:Int)+1))))):=by
   unfold KH
   have e2:l.vs=a++x::b:=e
   rw [show decide ((a.length:Int) < (l.vs.length:Int))=true from by rw [e2];exact Y9 a x b,show J3 l.vs (a.length:Int)=some x from by rw [e2];exact JI a x b]
   rfl
  rw [this]
  unfold DY
  by_cases c1:x.1 < -65536
  ·rw [decide_eq_true c1];exact ⟨fun _=>rfl,fun h=>(h (.inl c1)).elim⟩
  rw [decide_eq_false c1,cond_false]
  by_cases c2:7 < x.1
  ·rw [decide_eq_true c2];exact ⟨fun _=>rfl,fun h=>(h (.inr (.inl c2))).elim⟩
  rw [decide_eq_false c2,cond_false]
  by_cases c3:x.2 < 0
  ·rw [decide_eq_true c3];exact ⟨fun _=>rfl,fun h=>(h (.inr (.inr (.inl c3)))).elim⟩
  rw [decide_eq_false c3,cond_false]
  by_cases c4:100 < x.2
  ·rw [decide_eq_true c4];exact ⟨fun _=>rfl,fun h=>(h (.inr (.inr (.inr (.inl c4))))).elim⟩
  rw [decide_eq_false c4,cond_false]
  by_cases c5:0 < a.length
  ·rw [decide_eq_true (show 0 < (a.length:Int) by omega),cond_true]
   obtain ⟨y,hy⟩:=hprev c5
   rw [hy,Option.bind_some]
   by_cases c6:x.1≤y.1
   ·rw [decide_eq_true c6];exact ⟨fun _=>rfl,fun h=>(h (.inr (.inr (.inr (.inr ⟨c5,y,rfl,c6⟩))))).elim⟩
   ·rw [decide_eq_false c6]
    refine ⟨fun h=>?_,fun _=>rfl⟩
    rcases h with h | h | h | h | ⟨-,z,hz,h⟩
    ·exact (c1 h).elim
    ·exact (c2 h).elim
    ·exact (c3 h).elim
    ·exact (c4 h).elim
    ·cases hz;exact (c6 h).elim
  ·rw [decide_eq_false (show ¬ 0 < (a.length:Int) by omega)]
   refine ⟨fun h=>?_,fun _=>rfl⟩
   rcases h with h | h | h | h | ⟨h,-⟩
   ·exact (c1 h).elim
   ·exact (c2 h).elim
   ·exact (c3 h).elim
   ·exact (c4 h).elim
   ·exact (c5 h).elim) (by unfold KH;rw [J9];rfl)
 obtain ⟨r,h1,h2⟩:=hloop
 obtain ⟨b,h3,h4⟩:=m211_eq l.vs l h
 unfold Q49
 rw [h3,h1]
 by_cases c1:l.c < 0
 ·rw [decide_eq_true c1];exact ⟨false,rfl,⟨fun h=>(Bool.false_ne_true h).elim,fun h=>by have:=h.1;omega⟩⟩
 rw [decide_eq_false c1,cond_false]
 by_cases c2:100 < l.c
 ·rw [decide_eq_true c2];exact ⟨false,rfl,⟨fun h=>(Bool.false_ne_true h).elim,fun h=>by have:=h.2.1;omega⟩⟩
 rw [decide_eq_false c2,cond_false]
 have key:(∃ x,(0 < l.c∧(∃ x∈l.vs,l.c≤x.2)→x=false)∧(¬ (0 < l.c∧∃ x∈l.vs,l.c≤x.2)→Option.bind (some r) (Sum.elim (fun (o3:Unit)=>some true) (fun o=>some o))=some x)∧cond (decide (0 < l.c)) (Option.bind (Option.bind (some b) fun (x7:Bool)=>some x7) (fun (y5:Bool)=>some y5)) (some false)=some (decide (0 < l.c∧∃ x∈l.vs,l.c≤x.2))∧(x=true→r=.inl ())∧(¬ (0 < l.c∧∃ x∈l.vs,l.c≤x.2)→r=.inl ()→x=true)):=by
  by_cases c3:0 < l.c
  ·rw [decide_eq_true c3]
   cases b with
   | true =>
    have h5:=h4.1 rfl
    exact ⟨false,fun _=>rfl,fun h=>(h ⟨c3,h5⟩).elim,by rw [decide_eq_true ⟨c3,h5⟩];rfl,fun h=>(by cases h),fun h=>(h ⟨c3,h5⟩).elim⟩
   | false =>
    have h5:¬ ∃ x∈l.vs,l.c≤x.2:=fun h=>by have:=h4.2 h;cases this
    rcases h2 with ⟨rfl,-⟩ | ⟨rfl,-⟩
    ·exact ⟨true,fun h=>(h5 h.2).elim,fun _=>rfl,by rw [decide_eq_false fun h=>h5 h.2];rfl,fun _=>rfl,fun _ _=>rfl⟩
    ·exact ⟨false,fun h=>(h5 h.2).elim,fun _=>rfl,by rw [decide_eq_false fun h=>h5 h.2];rfl,fun h=>(by cases h),fun _ h=>by cases h⟩
  ·rw [decide_eq_false c3]
   rcases h2 with ⟨rfl,-⟩ | ⟨rfl,-⟩
   ·exact ⟨true,fun h=>(c3 h.1).elim,fun _=>rfl,by rw [decide_eq_false fun h=>c3 h.1];rfl,fun _=>rfl,fun _ _=>rfl⟩
   ·exact ⟨false,fun h=>(c3 h.1).elim,fun _=>rfl,by rw [decide_eq_false fun h=>c3 h.1];rfl,fun h=>(by cases h),fun _ h=>by cases h⟩
 obtain ⟨x,k1,k2,Qct,k4,k5⟩:=key
 rw [Qct,Option.bind_some]
 by_cases c4:0 < l.c∧∃ x∈l.vs,l.c≤x.2
 ·rw [decide_eq_true c4]
  refine ⟨false,Z,fun h=>(Bool.false_ne_true h).elim,fun h=>?_⟩
  obtain ⟨y,hy,hy2⟩:=c4.2
  exact (h.2.2.1 c4.1 y hy hy2).elim
 ·rw [decide_eq_false c4]
  refine ⟨x,k2 c4,fun h=>?_,fun h=>?_⟩
  ·have h6:=k4 h
   rcases h2 with ⟨-,h7⟩ | ⟨h7,-⟩
   ·exact ⟨by omega,by omega,fun h8 y hy h9=>c4 ⟨h8,y,hy,h9⟩,h7⟩
   ·rw [h7] at h6;cases h6
  ·refine k5 c4 ?_
   rcases h2 with ⟨h7,-⟩ | ⟨-,a,y,c,h7,h8⟩
   ·exact h7
   ·exact (h.2.2.2 a y c h7 h8).elim
theorem m118_eq (l:Lvl) (h:l.vs.length≤900000000):∃ b,Q4b l=some b∧(b=true↔DX l):=by
 have hloop:=loop_bad (β:=Unit⊕Bool) (step:=KI l) l.vs (fun a x=>DY l a x∨(0 < l.c∧l.c≤x.2)) (.inr false) (.inl ()) h (fun a x b e=>by
  have hprev:=fun ha=>prev_some (x:=x) (b:=b) h e ha
  have:KI l (a.length:Int)=Option.bind (cond (decide (x.1 < (-65536))) (some true) (cond (decide (8≤x.1)) (some true) (cond (decide (x.2 < 0)) (some true) (some (decide (100 < x.2)))))) (fun (v6:Bool)=>Dq v6 (a.length:Int) l x):=by
   unfold KI
   have e2:l.vs=a++x::b:=e
   rw [show decide ((a.length:Int) < (l.vs.length:Int))=true from by rw [e2];exact Y9 a x b,show J3 l.vs (a.length:Int)=some x from by rw [e2];exact JI a x b]
   rfl
  rw [this]
  unfold DY
  by_cases c1:x.1 < -65536
  ·rw [decide_eq_true c1];exact ⟨fun _=>rfl,fun h=>(h (.inl (.inl c1))).elim⟩
  rw [decide_eq_false c1,cond_false]
  by_cases c2:7 < x.1
  ·rw [decide_eq_true (show 8≤x.1 by omega)];exact ⟨fun _=>rfl,fun h=>(h (.inl (.inr (.inl c2)))).elim⟩
  rw [decide_eq_false (show ¬ 8≤x.1 by omega),cond_false]
  by_cases c3:x.2 < 0
  ·rw [decide_eq_true c3];exact ⟨fun _=>rfl,fun h=>(h (.inl (.inr (.inr (.inl c3))))).elim⟩
  rw [decide_eq_false c3,cond_false]
  by_cases c4:100 < x.2
  ·rw [decide_eq_true c4];exact ⟨fun _=>rfl,fun h=>(h (.inl (.inr (.inr (.inr (.inl c4)))))).elim⟩
  rw [decide_eq_false c4,Option.bind_some]
  show (_→Option.bind (cond (decide (0 < (a.length:Int))) (Option.bind (J3 l.vs (QE ((a.length:Int) - 1))) fun (b0_:Qde)=>some (decide (x.1≤b0_.1))) (some false)) _=_)∧(_→Option.bind (cond (decide (0 < (a.length:Int))) (Option.bind (J3 l.vs (QE ((a.length:Int) - 1))) fun (b0_:Qde)=>some (decide (x.1≤b0_.1))) (some false)) _=_)
  have hlast:∀ (hno:¬ (0 < a.length∧∃ y,J3 l.vs (QE ((a.length:Int) - 1))=some y∧x.1≤y.1)),((((x.1 < -65536∨7 < x.1∨x.2 < 0∨100 < x.2∨(0 < a.length∧∃ y,J3 l.vs (QE ((a.length:Int) - 1))=some y∧x.1≤y.1)))∨(0 < l.c∧l.c≤x.2))→Option.bind (cond (decide (0 < l.c)) (some (decide (l.c≤x.2))) (some false)) (fun (b2_:Bool)=>(cond b2_ (some (.done (.inr false))) (some (.next (QE ((a.length:Int)+1)))):Option (LO Int (Unit⊕Bool))))=some (.done (.inr false:Unit⊕Bool)))∧(¬ (((x.1 < -65536∨7 < x.1∨x.2 < 0∨100 < x.2∨(0 < a.length∧∃ y,J3 l.vs (QE ((a.length:Int) - 1))=some y∧x.1≤y.1)))∨(0 < l.c∧l.c≤x.2))→Option.bind (cond (decide (0 < l.c)) (some (decide (l.c≤x.2))) (some false)) (fun (b2_:Bool)=>(cond b2_ (some (.done (.inr false))) (some (.next (QE ((a.length:Int)+1)))):Option (LO Int (Unit⊕Bool))))=some (.next (β:=Unit⊕Bool) (QE ((a.length:Int)+1)))):=by
   intro hno
   by_cases c7:0 < l.c
   ·rw [decide_eq_true c7]
    by_cases c8:l.c≤x.2
    ·rw [decide_eq_true c8];exact ⟨fun _=>rfl,fun h=>(h (.inr ⟨c7,c8⟩)).elim⟩
    ·rw [decide_eq_false c8]
     refine ⟨fun h=>?_,fun _=>rfl⟩
     rcases h with (h | h | h | h | h) | ⟨-,h⟩
     ·exact (c1 h).elim
     ·exact (c2 h).elim
     ·exact (c3 h).elim
     ·exact (c4 h).elim
     ·exact (hno h).elim
     ·exact (c8 h).elim
   ·rw [decide_eq_false c7]
    refine ⟨fun h=>?_,fun _=>rfl⟩
    rcases h with (h | h | h | h | h) | ⟨h,-⟩
    ·exact (c1 h).elim
    ·exact (c2 h).elim
    ·exact (c3 h).elim
    ·exact (c4 h).elim
    ·exact (hno h).elim
    ·exact (c7 h).elim
  by_cases c5:0 < a.length
  ·rw [decide_eq_true (show 0 < (a.length:Int) by omega),cond_true]
   obtain ⟨y,hy⟩:=hprev c5
   rw [hy,Option.bind_some]
   rw [hy] at hlast
   by_cases c6:x.1≤y.1
   ·rw [decide_eq_true c6];exact ⟨fun _=>rfl,fun h=>(h (.inl (.inr (.inr (.inr (.inr ⟨c5,y,rfl,c6⟩)))))).elim⟩
   ·rw [decide_eq_false c6]
    exact hlast fun ⟨_,z,hz,h⟩=>by cases hz;exact c6 h
  ·rw [decide_eq_false (show ¬ 0 < (a.length:Int) by omega)]
   exact hlast fun h=>c5 h.1) (by unfold KI;rw [J9];rfl)
 obtain ⟨r,h1,h2⟩:=hloop
 unfold Q4b
 rw [h1]
 by_cases c1:l.c < 0
 ·rw [decide_eq_true c1];exact ⟨false,rfl,⟨fun h=>(Bool.false_ne_true h).elim,fun h=>by have:=h.1;omega⟩⟩
 rw [decide_eq_false c1,cond_false]
 by_cases c2:100 < l.c
 ·rw [decide_eq_true c2];exact ⟨false,rfl,⟨fun h=>(Bool.false_ne_true h).elim,fun h=>by have:=h.2.1;omega⟩⟩
 rw [decide_eq_false c2,Option.bind_some,cond_false]
 rcases h2 with ⟨rfl,h3⟩ | ⟨rfl,a,x,b,e,h3⟩
 ·refine ⟨true,rfl,fun _=>⟨by omega,by omega,fun h4 y hy h5=>?_,fun a x b e h4=>h3 a x b e (.inl h4)⟩,fun _=>rfl⟩
  obtain ⟨a,b,e⟩:=List.append_of_mem hy
  exact h3 a y b e (.inr ⟨h4,h5⟩)
 ·refine ⟨false,rfl,fun h=>(Bool.false_ne_true h).elim,fun h4=>?_⟩
  rcases h3 with h3 | ⟨h3,h5⟩
  ·exact (h4.2.2.2 a x b e h3).elim
  ·exact (h4.2.2.1 h3 x (by rw [e];simp) h5).elim
theorem lv_same (l:Lvl) (h:l.vs.length≤900000000):∃ b,Q49 l=some b∧Q4b l=some b∧(b=true→DX l):=by
 obtain ⟨b,h1,h2⟩:=Q2f l h
 obtain ⟨c,h3,h4⟩:=m118_eq l h
 have:b=c:=Bool.eq_iff_iff.2 (h2.trans h4.symm)
 exact ⟨b,h1,by rw [this];exact h3,h2.1⟩
end
section
open Go.RowKit Go.Shelf
theorem loop2 {α σ1 τ1 β1 σ2 τ2 β2:Type} {step1:τ1→Option (LO τ1 β1)} {step2:τ2→Option (LO τ2 β2)} (l:List α) (mk1:Int→σ1→τ1) (mk2:Int→σ2→τ2) (I:List α→σ1→σ2→Prop) (Q:β1→β2→Prop) (hlen:l.length≤900000000)
  (hin:∀ (a:List α) (x:α) (b:List α) (s1:σ1) (s2:σ2),l=a++x::b→I a s1 s2 →
   (∃ r1 r2,step1 (mk1 (a.length:Int) s1)=some (.done r1)∧step2 (mk2 (a.length:Int) s2)=some (.done r2)∧Q r1 r2) ∨
   ∃ s1' s2',step1 (mk1 (a.length:Int) s1)=some (.next (mk1 (QE ((a.length:Int)+1)) s1'))∧step2 (mk2 (a.length:Int) s2)=some (.next (mk2 (QE ((a.length:Int)+1)) s2'))∧I (a++[x]) s1' s2')
  (hout:∀ s1 s2,I l s1 s2→∃ r1 r2,step1 (mk1 (l.length:Int) s1)=some (.done r1)∧step2 (mk2 (l.length:Int) s2)=some (.done r2)∧Q r1 r2) (s1:σ1) (s2:σ2) (h0:I [] s1 s2) :
  ∃ r1 r2,Qj step1 Qk (mk1 0 s1)=some r1∧Qj step2 Qk (mk2 0 s2)=some r2∧Q r1 r2:=by
 have key:∀ (b a:List α) (s1:σ1) (s2:σ2) (n:Nat),l=a++b→b.length < n→I a s1 s2→∃ r1 r2,Qj step1 n (mk1 (a.length:Int) s1)=some r1∧Qj step2 n (mk2 (a.length:Int) s2)=some r2∧Q r1 r2:=by
  intro b
  induction b with
  | nil =>
   intro a s1 s2 n hl hn hI
   rw [List.append_nil] at hl
   subst hl
   obtain ⟨r1,r2,h1,h2,h3⟩:=hout s1 s2 hI
   cases n with
   | zero=>omega
   | succ n=>exact ⟨r1,r2,by simp only [Qj,h1],by simp only [Qj,h2],h3⟩
  | cons x b ih =>
   intro a s1 s2 n hl hn hI
   cases n with
   | zero=>omega
   | succ n =>
    rcases hin a x b s1 s2 hl hI with ⟨r1,r2,h1,h2,h3⟩ | ⟨s1',s2',h1,h2,h3⟩
    ·exact ⟨r1,r2,by simp only [Qj,h1],by simp only [Qj,h2],h3⟩
    ·have hal:a.length≤900000000:=by rw [hl,List.length_append] at hlen;omega
     rw [Wl (by omega)] at h1 h2
     obtain ⟨r1,r2,h4,h5,h6⟩:=ih (a++[x]) s1' s2' n (by rw [hl,List.append_assoc];rfl) (by simp only [List.length_cons] at hn;omega) h3
     rw [List.length_append] at h4 h5
     exact ⟨r1,r2,by simp only [Qj,h1];exact h4,by simp only [Qj,h2];exact h5,h6⟩
 exact key l [] s1 s2 Qk rfl (by unfold Qk;omega) h0
theorem Wx {α β1 β2:Type} {step1:Int→Option (LO Int β1)} {step2:Int→Option (LO Int β2)} (l:List α) (z1:β1) (z2:β2) (g1:Int→β1) (g2:Int→β2) (hlen:l.length≤900000000)
  (hin:∀ (a:List α) (x:α) (b:List α),l=a++x::b→∃ e:Int,(e=0→step1 (a.length:Int)=some (.next (QE ((a.length:Int)+1)))∧step2 (a.length:Int)=some (.next (QE ((a.length:Int)+1))))∧(e ≠ 0→step1 (a.length:Int)=some (.done (g1 e))∧step2 (a.length:Int)=some (.done (g2 e))))
  (hout1:step1 (l.length:Int)=some (.done z1)) (hout2:step2 (l.length:Int)=some (.done z2)) :
  ∃ e:Int,(e=0→Qj step1 Qk 0=some z1∧Qj step2 Qk 0=some z2)∧(e ≠ 0→Qj step1 Qk 0=some (g1 e)∧Qj step2 Qk 0=some (g2 e)):=by
 obtain ⟨r1,r2,h1,h2,e,h3,h4⟩:=loop2 (step1:=step1) (step2:=step2) l (fun i (_:Unit)=>i) (fun i (_:Unit)=>i) (fun _ _ _=>True) (fun r1 r2=>∃ e:Int,(e=0→r1=z1∧r2=z2)∧(e ≠ 0→r1=g1 e∧r2=g2 e)) hlen
  (fun a x b _ _ hl _=>by
   obtain ⟨e,h1,h2⟩:=hin a x b hl
   by_cases he:e=0
   ·exact .inr ⟨(),(),(h1 he).1,(h1 he).2,trivial⟩
   ·exact .inl ⟨_,_,(h2 he).1,(h2 he).2,e,fun h=>(he h).elim,fun _=>⟨rfl,rfl⟩⟩)
  (fun _ _ _=>⟨z1,z2,hout1,hout2,0,fun _=>⟨rfl,rfl⟩,fun h=>(h rfl).elim⟩) () () trivial
 refine ⟨e,fun he=>?_,fun he=>?_⟩
 ·rw [h1,h2,(h3 he).1,(h3 he).2];exact ⟨rfl,rfl⟩
 ·rw [h1,h2,(h4 he).1,(h4 he).2];exact ⟨rfl,rfl⟩
theorem ZK {α:Type} {l a b:List α} {x:α} (e:l=a++x::b):decide ((a.length:Int) < (l.length:Int))=true∧J3 l (a.length:Int)=some x:=by
 rw [e];exact ⟨Y9 a x b,JI a x b⟩
def Q6t (ix nm ln A N L K:Bool):Option Bool :=
 Option.bind (cond ix (cond nm (cond ln (some K) (cond L (some K) (some false))) (cond N (cond ln (some K) (cond L (some K) (some false))) (some false)))
  (cond A (cond nm (cond ln (some K) (cond L (some K) (some false))) (cond N (cond ln (some K) (cond L (some K) (some false))) (some false))) (some false))) (fun b=>some b)
theorem formU_eq (ix nm ln A N L K:Bool):Q6t ix nm ln A N L K=some ((ix||A)&&(nm||N)&&(ln||L)&&K):=by
 cases ix <;> cases nm <;> cases ln <;> cases A <;> cases N <;> cases L <;> cases K <;> rfl
def formV (k0 k12 Qct k2 A N L0 L1 K:Bool):Option Bool :=
 cond (!K) (some false) (Option.bind (cond (!A) (cond (!k0) (some (!k12)) (some false)) (some false)) (fun v3=>cond v3 (some false) (Option.bind (cond (!N) (some (!Qct)) (some false)) (fun b0_=>cond b0_ (some false) (cond k2 (some L1) (Option.bind (cond L0 (some true) (some Qct)) (fun b1_=>some b1_)))))))
theorem formV_eq (k0 k12 Qct k2 A N L0 L1 K:Bool):formV k0 k12 Qct k2 A N L0 L1 K=some (((k0||k12)||A)&&(Qct||N)&&(cond k2 L1 (L0||Qct))&&K):=by
 cases k0 <;> cases k12 <;> cases Qct <;> cases k2 <;> cases A <;> cases N <;> cases L0 <;> cases L1 <;> cases K <;> rfl
theorem form_eq (t:Tm):∃ b,Uu t=some b∧Q4c t=some b∧(b=true→0≤t.kind∧t.kind < 13∧(t.kind ≠ 3→(t.levels.length:Int)≤1)):=by
 by_cases h1:t.kind < 0
 ·exact ⟨false,by unfold Uu;rw [decide_eq_true h1];rfl,by unfold Q4c;rw [decide_eq_true h1];rfl,fun h=>by cases h⟩
 by_cases h2:13≤t.kind
 ·exact ⟨false,by unfold Uu;rw [decide_eq_false h1,decide_eq_true h2];rfl,by unfold Q4c;rw [decide_eq_false h1,decide_eq_true h2];rfl,fun h=>by cases h⟩
 have hk:t.kind=0∨t.kind=1∨t.kind=2∨t.kind=3∨t.kind=4∨t.kind=5∨t.kind=6∨t.kind=7∨t.kind=8∨t.kind=9∨t.kind=10∨t.kind=11∨t.kind=12:=by omega
 have fin:∀ (ix nm ln:Bool) (lv kd:Int) (k0 k12 Qct k2:Bool),Uu t=Q6t ix nm ln (t.index==0) (t.name==[]) ((t.levels.length:Int)==lv) ((t.kids.length:Int)==kd) →
   Q4c t=formV k0 k12 Qct k2 (t.index==0) (t.name==[]) ((t.levels.length:Int)==0) ((t.levels.length:Int)==1) ((t.kids.length:Int)==kd) →
   ix=(k0||k12)→nm=Qct→(ln||(t.levels.length:Int)==lv)=(cond k2 ((t.levels.length:Int)==1) ((t.levels.length:Int)==0||Qct))→(Qct=false→ln=false∧lv≤1)→(t.kind ≠ 3→Qct=false) →
   ∃ b,Uu t=some b∧Q4c t=some b∧(b=true→0≤t.kind∧t.kind < 13∧(t.kind ≠ 3→(t.levels.length:Int)≤1)):=by
  intro ix nm ln lv kd k0 k12 Qct k2 e1 e2 e3 e4 e5 e6 e7
  rw [formU_eq] at e1
  rw [formV_eq,← e5,← e3,← e4] at e2
  refine ⟨_,e1,e2,fun h=>⟨by omega,by omega,fun h3=>?_⟩⟩
  obtain ⟨h4,h5⟩:=e6 (e7 h3)
  rw [h4,Bool.false_or,Bool.and_eq_true,Bool.and_eq_true] at h
  have h6:=eq_of_beq h.1.2
  omega
 obtain ⟨k,i,n,ls,ks⟩:=t
 dsimp only [Tm.kind,Tm.index,Tm.name,Tm.levels,Tm.kids] at *
 rcases hk with hk | hk | hk | hk | hk | hk | hk | hk | hk | hk | hk | hk | hk <;> subst hk
 ·exact fin true false false 0 0 true false false false rfl rfl rfl rfl (by cases ((ls.length:Int)==0) <;> rfl) (fun _=>⟨rfl,by omega⟩) (fun _=>rfl)
 ·exact fin false false false 0 0 false false false false rfl rfl rfl rfl (by cases ((ls.length:Int)==0) <;> rfl) (fun _=>⟨rfl,by omega⟩) (fun _=>rfl)
 ·exact fin false false false 1 0 false false false true rfl rfl rfl rfl rfl (fun _=>⟨rfl,by omega⟩) (fun _=>rfl)
 ·exact fin false true true (-1) 0 false false true false rfl rfl rfl rfl (by cases ((ls.length:Int)==0) <;> rfl) (fun h=>by cases h) (fun h=>(h rfl).elim)
 ·exact fin false false false 0 2 false false false false rfl rfl rfl rfl (by cases ((ls.length:Int)==0) <;> rfl) (fun _=>⟨rfl,by omega⟩) (fun _=>rfl)
 ·exact fin false false false 0 2 false false false false rfl rfl rfl rfl (by cases ((ls.length:Int)==0) <;> rfl) (fun _=>⟨rfl,by omega⟩) (fun _=>rfl)
 ·exact fin false false false 0 2 false false false false rfl rfl rfl rfl (by cases ((ls.length:Int)==0) <;> rfl) (fun _=>⟨rfl,by omega⟩) (fun _=>rfl)
 ·exact fin false false false 0 2 false false false false rfl rfl rfl rfl (by cases ((ls.length:Int)==0) <;> rfl) (fun _=>⟨rfl,by omega⟩) (fun _=>rfl)
 ·exact fin false false false 0 3 false false false false rfl rfl rfl rfl (by cases ((ls.length:Int)==0) <;> rfl) (fun _=>⟨rfl,by omega⟩) (fun _=>rfl)
 ·exact fin false false false 0 1 false false false false rfl rfl rfl rfl (by cases ((ls.length:Int)==0) <;> rfl) (fun _=>⟨rfl,by omega⟩) (fun _=>rfl)
 ·exact fin false false false 0 1 false false false false rfl rfl rfl rfl (by cases ((ls.length:Int)==0) <;> rfl) (fun _=>⟨rfl,by omega⟩) (fun _=>rfl)
 ·exact fin false false false 0 3 false false false false rfl rfl rfl rfl (by cases ((ls.length:Int)==0) <;> rfl) (fun _=>⟨rfl,by omega⟩) (fun _=>rfl)
 ·exact fin true false false 0 0 false true false false rfl rfl rfl rfl (by cases ((ls.length:Int)==0) <;> rfl) (fun _=>⟨rfl,by omega⟩) (fun _=>rfl)
def Yy (V P:Int):Scp:=⟨max V 0,max P 0,1000000,1000000⟩
theorem lv_code (V P:Int) (x:Lvl) (h:x.vs.length≤900000000):∃ e,DW (Yy V P) x=some e∧Q5n x P 1000000=some e:=by
 obtain ⟨b,h1,h2,-⟩:=lv_same x h
 unfold DW Q5n
 rw [h1,h2]
 cases b with
 | false=>exact ⟨3,rfl,rfl⟩
 | true =>
  show ∃ e,Option.bind (Qj (GH x (Yy V P)) Qk 0) _=_∧Option.bind (Qj (GG x P) Qk 0) _=_
  obtain ⟨e,h3,h4⟩:=Wx (β1:=Unit⊕Int) (β2:=Unit⊕Int) (step1:=GH x (Yy V P)) (step2:=GG x P) x.vs (.inl ()) (.inl ()) .inr .inr h (fun a y b e=>by
   obtain ⟨q1,q2⟩:=ZK e
   unfold GH GG
   rw [q1,q2]
   show ∃ e:Int,(_→cond (decide (max P 0≤y.1)) _ _=_∧Option.bind (cond (decide (0≤y.1)) (some (decide (P≤y.1))) (some false)) _=_)∧(_→cond (decide (max P 0≤y.1)) _ _=_∧Option.bind (cond (decide (0≤y.1)) (some (decide (P≤y.1))) (some false)) _=_)
   by_cases c:max P 0≤y.1
   ·rw [decide_eq_true c,decide_eq_true (show 0≤y.1 by omega),decide_eq_true (show P≤y.1 by omega)]
    exact ⟨15,fun h=>by omega,fun _=>⟨rfl,rfl⟩⟩
   ·rw [decide_eq_false c]
    refine ⟨0,fun _=>⟨Z,?_⟩,fun h=>(h Z).elim⟩
    by_cases c2:0≤y.1
    ·rw [decide_eq_true c2,decide_eq_false (show ¬ P≤y.1 by omega)];rfl
    ·rw [decide_eq_false c2];rfl)
   (by unfold GH;rw [J9];rfl) (by unfold GG;rw [J9];rfl)
  by_cases he:e=0
  ·obtain ⟨e1,e2⟩:=h3 he
   rw [e1,e2]
   show ∃ e,Option.bind (Qj (KK x (Yy V P)) Qk 0) _=_∧Option.bind (Qj (KJ x 1000000) Qk 0) _=_
   obtain ⟨e',h5,h6⟩:=Wx (β1:=Unit⊕Int) (β2:=Unit⊕Int) (step1:=KK x (Yy V P)) (step2:=KJ x 1000000) x.vs (.inl ()) (.inl ()) .inr .inr h (fun a y b e=>by
    obtain ⟨q1,q2⟩:=ZK e
    unfold KK KJ
    rw [q1,q2]
    show ∃ e:Int,(_→Option.bind (cond (decide (y.1 < 0)) (some (decide (1000000≤(QE ((-1) - y.1))))) (some false)) _=_∧Option.bind (cond (decide (y.1 < 0)) (some (decide (1000000≤(QE ((-1) - y.1))))) (some false)) _=_)∧(_→Option.bind (cond (decide (y.1 < 0)) (some (decide (1000000≤(QE ((-1) - y.1))))) (some false)) _=_∧Option.bind (cond (decide (y.1 < 0)) (some (decide (1000000≤(QE ((-1) - y.1))))) (some false)) _=_)
    cases decide (y.1 < 0) with
    | false=>exact ⟨0,fun _=>⟨rfl,rfl⟩,fun h=>(h rfl).elim⟩
    | true =>
     cases decide (1000000≤(QE ((-1) - y.1))) with
     | false=>exact ⟨0,fun _=>⟨rfl,rfl⟩,fun h=>(h rfl).elim⟩
     | true=>exact ⟨23,fun h=>by omega,fun _=>⟨rfl,rfl⟩⟩)
    (by unfold KK;rw [J9];rfl) (by unfold KJ;rw [J9];rfl)
   by_cases he':e'=0
   ·obtain ⟨e1,e2⟩:=h5 he'
    rw [e1,e2];exact ⟨0,rfl,rfl⟩
   ·obtain ⟨e1,e2⟩:=h6 he'
    rw [e1,e2];exact ⟨e',rfl,rfl⟩
  ·obtain ⟨e1,e2⟩:=h4 he
   rw [e1,e2];exact ⟨e,rfl,rfl⟩
theorem GK (t:Tm):(t.levels.map lvz).sum < t.size:=by rw [t.size_eq];omega
theorem Q2k (l:Lvl):l.vs.length < lvz l:=by
 have:=Ka (fun _:Qde=>1) (fun _=>Nat.le_refl 1) l.vs
 unfold lvz;omega
theorem Q0n {e:Int} (h:e ≠ 0):(e != 0)=true:=bne_iff_ne.2 h
theorem Q6a {α:Type} {e:Int} (he:e ≠ 0) (x:Int→Option α) (y:Option α):Option.bind (some e) (fun v=>cond (v != 0) (x v) y)=x e:=by
 rw [Option.bind_some,Q0n he];rfl
def Q1f (rc:Tm×Int×Int×Int×Int×Int→Option Int) (t:Tm) (dep V P:Int):Option Int:=Option.bind (Qj (Zr t rc dep V P 1000000 1000000) Qk 0) (Sum.elim (fun (b1_:Unit)=>some 0) (fun o=>some o))
theorem node_tail (t:Tm) (dep V P:Int) (h:t.size≤900000000):∃ e,Option.bind (Qj (Ys t (Yy V P)) Qk 0) (Sum.elim (fun (o7:Unit)=>Zs t (Yy V P) dep) (fun o=>some o))=some e ∧
  ∀ rc,(Option.bind (Qj (GE t P 1000000) Qk 0) (Sum.elim (fun (b0_:Unit)=>Option.bind (cond (t.kind==0) (cond (decide (t.index < 0)) (some true) (some (decide (max V 0≤(QE (t.index - dep)))))) (some false)) (fun (b1_:Bool)=>G0 b1_ t 1000000 rc dep (max V 0) P 1000000)) (fun o=>some o)))=if e=0 then Q1f rc t dep (max V 0) P else some e:=by
 have hl:=GK t
 have hl2:=Ka lvz (fun l=>by unfold lvz;omega) t.levels
 obtain ⟨e,h3,h4⟩:=Wx (β1:=Unit⊕Int) (β2:=Unit⊕Int) (step1:=Ys t (Yy V P)) (step2:=GE t P 1000000) t.levels (.inl ()) (.inl ()) .inr .inr (by omega) (fun a y b e=>by
  obtain ⟨q1,q2⟩:=ZK e
  have hy:y.vs.length≤900000000:=by
   have:=Q2k y
   have:=YW lvz (show y∈t.levels from by rw [e];simp)
   omega
  obtain ⟨e,h1,h2⟩:=lv_code V P y hy
  unfold Ys GE
  rw [q1,q2]
  show ∃ e:Int,(_→Option.bind (DW (Yy V P) y) _=_∧Option.bind (Q5n y P 1000000) _=_)∧(_→Option.bind (DW (Yy V P) y) _=_∧Option.bind (Q5n y P 1000000) _=_)
  rw [h1,h2]
  refine ⟨e,fun he=>?_,fun he=>?_⟩
  ·subst he;exact ⟨rfl,rfl⟩
  ·exact ⟨Q6a he _ _,Q6a he _ _⟩)
  (by unfold Ys;rw [J9];rfl) (by unfold GE;rw [J9];rfl)
 by_cases he:e=0
 ·obtain ⟨e1,e2⟩:=h3 he
  rw [e1,e2]
  show ∃ e,Zs t (Yy V P) dep=some e∧∀ rc,Option.bind (cond (t.kind==0) (cond (decide (t.index < 0)) (some true) (some (decide (max V 0≤(QE (t.index - dep)))))) (some false)) (fun (b1_:Bool)=>G0 b1_ t 1000000 rc dep (max V 0) P 1000000)=if e=0 then Q1f rc t dep (max V 0) P else some e
  unfold Zs
  show ∃ e,Option.bind (cond (t.kind==0) (cond (decide (t.index < 0)) (some true) (some (decide (max V 0≤(QE (t.index - dep)))))) (some false)) _=some e∧_
  obtain ⟨v,hv⟩:∃ v,cond (t.kind==0) (cond (decide (t.index < 0)) (some true) (some (decide (max V 0≤(QE (t.index - dep)))))) (some false)=some v:=by
   cases (t.kind==0) <;> cases decide (t.index < 0) <;> exact ⟨_,rfl⟩
  rw [hv]
  ·cases v with
   | true=>exact ⟨24,rfl,fun rc=>rfl⟩
   | false =>
    show ∃ e,Option.bind (cond (t.kind==12) (cond (decide (t.index < 0)) (some true) (some (decide ((1000000:Int)≤t.index)))) (some false)) _=some e∧∀ rc,G0 false t 1000000 rc dep (max V 0) P 1000000=_
    unfold G0
    simp only [cond_false]
    cases t.kind==12 with
    | false=>exact ⟨0,rfl,fun rc=>rfl⟩
    | true =>
     cases decide (t.index < 0) with
     | true=>exact ⟨23,rfl,fun rc=>rfl⟩
     | false =>
      cases decide ((1000000:Int)≤t.index) with
      | true=>exact ⟨23,rfl,fun rc=>rfl⟩
      | false=>exact ⟨0,rfl,fun rc=>rfl⟩
 ·obtain ⟨e1,e2⟩:=h4 he
  rw [e1,e2]
  exact ⟨e,rfl,fun rc=>by rw [if_neg he];rfl⟩
theorem node_eq (t:Tm) (dep V P:Int) (h:t.size≤900000000):∃ e,Q9y (Yy V P) t dep=some e∧(∀ rc,Q5b rc t dep (max V 0) P 1000000 1000000=if e=0 then Q1f rc t dep (max V 0) P else some e)∧(e=0→0≤t.kind∧t.kind < 13):=by
 obtain ⟨b,h1,h2,h3⟩:=form_eq t
 unfold Q9y Q5b
 rw [h1,h2]
 cases b with
 | false=>exact ⟨3,rfl,fun rc=>rfl,fun h=>by omega⟩
 | true =>
  obtain ⟨k1,k2,Qct⟩:=h3 rfl
  obtain ⟨e,h4,h5⟩:=node_tail t dep V P h
  have hn:t.name.length≤900000000:=by have:=t.size_eq;omega
  show ∃ e,cond (t.kind==3) (Option.bind (Q2i t.name) _) _=some e∧(∀ rc,Option.bind (cond (t.kind==3) (Option.bind (Q92 t.name) _) _) _=_)∧_
  rw [Q2h _ hn,Q58 _ hn,Yf]
  by_cases hk:t.kind=3
  ·rw [decide_eq_true hk]
   cases Z4 t.name with
   | false=>exact ⟨29,rfl,fun rc=>rfl,fun h=>by omega⟩
   | true =>
    show ∃ e,cond (decide (8 < (t.levels.length:Int))) (some 6) (Option.bind (Qj (Ys t (Yy V P)) Qk 0) (Sum.elim (fun (o7:Unit)=>Zs t (Yy V P) dep) (fun o=>some o)))=some e∧(∀ rc,cond (decide (8 < (t.levels.length:Int))) (some 6) (Option.bind (Qj (GE t P 1000000) Qk 0) (Sum.elim (fun (b0_:Unit)=>Option.bind (cond (t.kind==0) (cond (decide (t.index < 0)) (some true) (some (decide (max V 0≤(QE (t.index - dep)))))) (some false)) (fun (b1_:Bool)=>G0 b1_ t 1000000 rc dep (max V 0) P 1000000)) (fun o=>some o)))=_)∧_
    cases decide (8 < (t.levels.length:Int)) with
    | true=>exact ⟨6,rfl,fun rc=>rfl,fun h=>by omega⟩
    | false=>exact ⟨e,h4,h5,fun _=>⟨k1,k2⟩⟩
  ·rw [decide_eq_false hk]
   show ∃ e,Option.bind (Qj (Ys t (Yy V P)) Qk 0) (Sum.elim (fun (o7:Unit)=>Zs t (Yy V P) dep) (fun o=>some o))=some e∧(∀ rc,cond (decide (8 < (t.levels.length:Int))) (some 6) (Option.bind (Qj (GE t P 1000000) Qk 0) (Sum.elim (fun (b0_:Unit)=>Option.bind (cond (t.kind==0) (cond (decide (t.index < 0)) (some true) (some (decide (max V 0≤(QE (t.index - dep)))))) (some false)) (fun (b1_:Bool)=>G0 b1_ t 1000000 rc dep (max V 0) P 1000000)) (fun o=>some o)))=_)∧_
   rw [decide_eq_false (show ¬ 8 < (t.levels.length:Int) by have:=Qct hk;omega)]
   exact ⟨e,h4,h5,fun _=>⟨k1,k2⟩⟩
end
section
open Go.RowKit Go.Shelf
def Tm.num:Tm→Nat
 | .mk _ _ _ _ ks=>1+(ks.attach.map fun k=>Tm.num k.1).sum
termination_by t=>SizeOf.sizeOf t
decreasing_by
 have:=List.sizeOf_lt_of_mem k.2
 simp only [Tm.mk.sizeOf_spec];omega
theorem Tm.num_eq (t:Tm):t.num=1+(t.kids.map Tm.num).sum:=by
 cases t
 rw [Tm.num,List.attach_map_val];rfl
theorem Q1s {α:Type} (f g:α→Nat):∀ l:List α,(∀ x∈l,f x≤g x)→(l.map f).sum≤(l.map g).sum
 | [],_=>Nat.le_refl _
 | x::l,h=>by
  rw [List.map_cons,List.sum_cons,List.map_cons,List.sum_cons]
  have h1:=h x (List.mem_cons_self ..)
  have h2:=Q1s f g l fun y hy=>h y (List.mem_cons_of_mem _ hy)
  omega
theorem Tm.num_le (t:Tm):t.num≤t.size:=by
 induction t using Tm.ind with
 | h t ih =>
  rw [t.num_eq,t.size_eq]
  have:=Q1s Tm.num Tm.size t.kids ih
  omega
theorem Q26 {t:Tm} {a b:List Tm} {x:Tm} (e:t.kids=a++x::b):(a.map Tm.num).sum+x.size < t.size∧(a.map Tm.num).sum+x.num < t.num:=by
 have h1:=t.size_eq
 have h2:=t.num_eq
 rw [e,sum_split] at h1 h2
 have h3:=Q1s Tm.num Tm.size a fun x _=>x.num_le
 constructor <;> omega
theorem num_walk:∀ (n:Nat) (t:Tm),t.size≤n→t.size≤900000000→QX Q78 n t=some (t.num:Int)
 | 0,t,h,_=>by rw [t.size_eq] at h;omega
 | n+1,t,h,h2=>by
  show Q8c (QX Q78 n) t=_
  unfold Q8c
  have hl:=Kt t
  have hn:=t.num_le
  obtain ⟨r,e1,e2⟩:=YA (step:=Wv t (QX Q78 n)) t.kids (fun i (s:Nat)=>((s:Int),i)) (fun a s=>s=1+(a.map Tm.num).sum) (fun r=>r=(t.num:Int)) (by omega)
   (fun a x b s e hI=>by
    have hx:=JF (t:=t) (k:=x) (by rw [e];simp)
    have hr:=num_walk n x (by omega) (by omega)
    have h3:=Q26 e
    obtain ⟨q1,q2⟩:=ZK e
    refine .inr ⟨s+x.num,?_,?_⟩
    ·unfold Wv
     dsimp only
     rw [q1,q2]
     simp only [cond_true,Option.bind_some]
     rw [hr]
     simp only [Option.bind_some]
     rw [YK (n:=(s:Int)+(x.num:Int)) (by omega) (by omega)]
     rfl
    ·rw [hI,List.map_append,List.sum_append];simp;omega)
   (fun s hI=>⟨(s:Int),by unfold Wv;dsimp only;rw [J9];rfl,by rw [hI,t.num_eq]⟩) 1 rfl
  have e3:Qj (Wv t (QX Q78 n)) Qk (1,0)=some r:=e1
  rw [e3,e2];rfl
theorem m60_eq:Qc5=m67:=rfl
theorem bind_eq (k:Int) (h0:0≤k) (h1:k < 13):∃ v,J3 ([(-1),(-1),(-1),(-1),(-1),1,1,1,(-1),(-1),(-1),2,(-1)]:List Int) k=some v∧∀ j:Nat,DU k (j:Int)=some (if (j:Int)=v then 1 else 0):=by
 have hk:k=0∨k=1∨k=2∨k=3∨k=4∨k=5∨k=6∨k=7∨k=8∨k=9∨k=10∨k=11∨k=12:=by omega
 have no:∀ (c:Bool→Option Int) (j:Nat),DU k (j:Int)=some 0→DU k (j:Int)=some (if (j:Int) = -1 then 1 else 0):=fun _ j h=>by rw [h,if_neg (by omega)]
 rcases hk with hk | hk | hk | hk | hk | hk | hk | hk | hk | hk | hk | hk | hk <;> subst hk
 case inr.inr.inr.inr.inr.inl=>exact ⟨1,rfl,fun j=>by
  unfold DU;rw [Yf (j:Int) 1,Yf (j:Int) 2]
  by_cases h:(j:Int)=1
  ·rw [decide_eq_true h,if_pos h];rfl
  ·rw [decide_eq_false h,if_neg h]
   cases decide ((j:Int)=2) <;> rfl⟩
 case inr.inr.inr.inr.inr.inr.inl=>exact ⟨1,rfl,fun j=>by
  unfold DU;rw [Yf (j:Int) 1,Yf (j:Int) 2]
  by_cases h:(j:Int)=1
  ·rw [decide_eq_true h,if_pos h];rfl
  ·rw [decide_eq_false h,if_neg h]
   cases decide ((j:Int)=2) <;> rfl⟩
 case inr.inr.inr.inr.inr.inr.inr.inl=>exact ⟨1,rfl,fun j=>by
  unfold DU;rw [Yf (j:Int) 1,Yf (j:Int) 2]
  by_cases h:(j:Int)=1
  ·rw [decide_eq_true h,if_pos h];rfl
  ·rw [decide_eq_false h,if_neg h]
   cases decide ((j:Int)=2) <;> rfl⟩
 case inr.inr.inr.inr.inr.inr.inr.inr.inr.inr.inr.inl=>exact ⟨2,rfl,fun j=>by
  unfold DU;rw [Yf (j:Int) 1,Yf (j:Int) 2]
  by_cases h:(j:Int)=2
  ·rw [decide_eq_true h,if_pos h,decide_eq_false (show ¬ (j:Int)=1 by omega)];rfl
  ·rw [decide_eq_false h,if_neg h]
   cases decide ((j:Int)=1) <;> rfl⟩
 all_goals exact ⟨-1,rfl,fun j=>no (fun _=>none) j (by
  unfold DU;rw [Yf (j:Int) 1,Yf (j:Int) 2]
  cases decide ((j:Int)=1) <;> cases decide ((j:Int)=2) <;> rfl)⟩
theorem Dk (V P:Int) (root:Tm):∀ (n:Nat) (t:Tm) (dep cnt:Nat),t.size≤n→dep+t.size≤900000000→cnt+t.size≤900000000 →
  ∃ e:Int,QX Dg n (t,(dep:Int),max V 0,P,1000000,1000000)=some e∧(e=0→QX Zu n (t,(dep:Int),root,0,Yy V P,(cnt:Int),root)=some (.inr (true,((cnt+t.num:Nat):Int)))) ∧
   (e ≠ 0→∃ c,QX Zu n (t,(dep:Int),root,0,Yy V P,(cnt:Int),root)=some (.inl (e,c)))
 | 0,t,_,_,h,_,_=>by rw [t.size_eq] at h;omega
 | n+1,t,dep,cnt,h,hd,hc=>by
  show ∃ e:Int,Q5b (QX Dg n) t (dep:Int) (max V 0) P 1000000 1000000=some e∧(e=0→XV (QX Zu n) t (dep:Int) root 0 (Yy V P) (cnt:Int) root=_)∧(e ≠ 0→∃ c,XV (QX Zu n) t (dep:Int) root 0 (Yy V P) (cnt:Int) root=some (.inl (e,c)))
  obtain ⟨e,h1,h2,h3⟩:=node_eq t (dep:Int) V P (by omega)
  have hl:=Kt t
  have hnum:=t.num_le
  rw [h2]
  unfold XV
  rw [h1]
  by_cases he:e=0
  ·subst he
   obtain ⟨k0,k1⟩:=h3 rfl
   obtain ⟨v,hv,hj⟩:=bind_eq t.kind k0 k1
   rw [if_pos rfl]
   rw [decide_eq_true k0,decide_eq_true k1]
   show ∃ e:Int,Q1f (QX Dg n) t (dep:Int) (max V 0) P=some e∧(e=0→Ke true t (dep:Int) (QX Zu n) root 0 (Yy V P) root (cnt:Int)=_)∧(e ≠ 0→∃ c,Ke true t (dep:Int) (QX Zu n) root 0 (Yy V P) root (cnt:Int)=some (.inl (e,c)))
   have hg:Qc (cond (decide (0≤t.kind)) (Nat.blt t.kind.toNat 13) false) (some v)=some v:=by
    rw [decide_eq_true k0,cond_true,show Nat.blt t.kind.toNat 13=true from Nat.ble_eq_true_of_le (by omega)];rfl
   unfold Ke Q1f
   rw [hv]
   simp only [cond_true,Option.bind_some]
   rw [hg,Option.bind_some,Wl (by omega)]
   obtain ⟨r1,r2,e1,e2,e3⟩:=loop2 (β1:=Unit⊕Int) (β2:=Int⊕((Int×Int)⊕(Bool×Int))) (step1:=Zr t (QX Dg n) (dep:Int) (max V 0) P 1000000 1000000) (step2:=Zb t v (dep:Int) (QX Zu n) root 0 (Yy V P) root) t.kids (fun i (_:Unit)=>i) (fun i (c:Nat)=>(i,(c:Int)))
    (fun a _ c=>c=cnt+1+(a.map Tm.num).sum) (fun r1 r2=>(r1=.inl ()∧r2=.inl ((cnt+t.num:Nat):Int))∨∃ e c,e ≠ 0∧r1=.inr e∧r2=.inr (.inl (e,c))) (by omega)
    (fun a x b _ c e hI=>by
     obtain ⟨q1,q2⟩:=ZK e
     have hx:=Q26 e
     have hxs:=JF (t:=t) (k:=x) (by rw [e];simp)
     unfold Zr Zb
     dsimp only
     rw [q1,q2]
     simp only [cond_true,Option.bind_some]
     rw [hj a.length,Yf]
     obtain ⟨d',hd1,hd2,hd3⟩:∃ d':Nat,QE ((dep:Int)+(if (a.length:Int)=v then 1 else 0))=(d':Int)∧(cond (decide ((a.length:Int)=v)) (some (QE ((dep:Int)+1))) (some (dep:Int)))=some (d':Int)∧d'≤dep+1:=by
      by_cases hh:(a.length:Int)=v
      ·rw [if_pos hh,decide_eq_true hh,Wl (by omega)];exact ⟨dep+1,rfl,rfl,Nat.le_refl _⟩
      ·rw [if_neg hh,decide_eq_false hh,YK (by omega) (by omega)];exact ⟨dep,by omega,rfl,by omega⟩
     rw [hd2]
     simp only [Option.bind_some]
     rw [hd1]
     obtain ⟨e',w1,w2,w3⟩:=Dk V P root n x d' c (by omega) (by omega) (by omega)
     unfold XW
     rw [w1]
     simp only [Option.bind_some]
     by_cases he':e'=0
     ·rw [w2 he']
      subst he'
      refine .inr ⟨(),c+x.num,Z,Z,?_⟩
      rw [hI,List.map_append,List.sum_append];simp;omega
     ·obtain ⟨c',w4⟩:=w3 he'
      rw [w4,Q0n he']
      exact .inl ⟨_,_,Z,Z,.inr ⟨e',c',he',Z,Z⟩⟩)
    (fun _ c hI=>⟨_,_,by unfold Zr;rw [J9];rfl,by unfold Zb;dsimp only;rw [J9];rfl,.inl ⟨rfl,by rw [hI,t.num_eq];congr 2;omega⟩⟩) () (cnt+1) (by simp)
   have e1':Qj (Zr t (QX Dg n) (dep:Int) (max V 0) P 1000000 1000000) Qk 0=some r1:=e1
   have e2':Qj (Zb t v (dep:Int) (QX Zu n) root 0 (Yy V P) root) Qk (0,((cnt+1:Nat):Int))=some r2:=e2
   rw [e1',e2']
   rcases e3 with ⟨rfl,rfl⟩ | ⟨e',c',he',rfl,rfl⟩
   ·exact ⟨0,rfl,fun _=>rfl,fun h=>(h rfl).elim⟩
   ·exact ⟨e',rfl,fun h=>(he' h).elim,fun _=>⟨c',rfl⟩⟩
  ·rw [if_neg he]
   refine ⟨e,Z,fun h=>(he h).elim,fun _=>⟨(cnt:Int),?_⟩⟩
   simp only [Option.bind_some,Q0n he,cond_true];rfl
theorem m27_eq (t:Tm) (V P:Int) (h:t.size≤900000000):∃ e,Q9d t V P 1000000 1000000=some e∧Q9z t V P 1000000 1000000=some e:=by
 obtain ⟨e,h1,h2,h3⟩:=Dk V P t Qk t 0 0 (by unfold Qk;omega) (by omega) (by omega)
 obtain ⟨d,h4⟩:=depth_some Qk t (by unfold Qk;omega) h
 have h5:Qc4 t=some (t.num:Int):=num_walk Qk t (by unfold Qk;omega) h
 have h6:m67 t=some d:=h4
 have h1':Qbk t 0 (max V 0) P 1000000 1000000=some e:=h1
 have h7:∀ r,QX Zu Qk (t,((0:Nat):Int),t,0,Yy V P,((0:Nat):Int),t)=some r→Q5o t 0 t 0 (⟨(max V 0),(max P 0),(max 1000000 0),(max 1000000 0)⟩:Scp) 0 t=some r:=fun r h=>h
 unfold Q9d Q9z
 rw [h1',m60_eq,h5,h6]
 by_cases he:e=0
 ·have h8:=h7 _ (h2 he)
  rw [h8]
  subst he
  show ∃ e,cond (decide (4096 < (t.num:Int))) (some 5) (cond (decide (200 < d)) (some 7) (some 0))=some e∧cond (decide (4096 < ((0+t.num:Nat):Int))) (some 5) (cond (decide (200 < d)) (some 7) (some 0))=some e
  rw [Nat.zero_add]
  cases decide (4096 < (t.num:Int)) with
  | true=>exact ⟨5,rfl,rfl⟩
  | false=>cases decide (200 < d) <;> exact ⟨_,rfl,rfl⟩
 ·obtain ⟨c,h9⟩:=h3 he
  rw [h7 _ h9]
  simp only [Option.bind_some,Q0n he,cond_true]
  exact ⟨e,Z,Z⟩
end
section
open Go.RowKit
set_option maxRecDepth 100000
def m127 (s:List UInt8):Option (Lvl×Int):=none
noncomputable def k127:KF UV:=⟨[.str],[.stc .t82,.int .i64],fun s=>m127 s⟩
theorem k127_ok:Jo DV W0 Tryz.prog 127 k127:=⟨rfl,fun v r h=>by cases h⟩
theorem en_145:Qe Tryz.prog 145:=enters_of Tryz.func145 (by kernel_rfl) rfl
def Qa0 (a0:Int):Option (Bool) :=
 Option.bind (cond ((decide (97≤a0))) (cond ((decide (a0≤122))) (some true) (cond ((decide (65≤a0))) (cond ((decide (a0≤90))) (some true) (cond ((decide (48≤a0))) (cond ((decide (a0≤57))) (some true) (cond ((a0==95)) (some true) (cond ((a0==39)) (some true) (some (a0==46))))) (cond ((a0==95)) (some true) (cond ((a0==39)) (some true) (some (a0==46)))))) (cond ((decide (48≤a0))) (cond ((decide (a0≤57))) (some true) (cond ((a0==95)) (some true) (cond ((a0==39)) (some true) (some (a0==46))))) (cond ((a0==95)) (some true) (cond ((a0==39)) (some true) (some (a0==46))))))) (cond ((decide (65≤a0))) (cond ((decide (a0≤90))) (some true) (cond ((decide (48≤a0))) (cond ((decide (a0≤57))) (some true) (cond ((a0==95)) (some true) (cond ((a0==39)) (some true) (some (a0==46))))) (cond ((a0==95)) (some true) (cond ((a0==39)) (some true) (some (a0==46)))))) (cond ((decide (48≤a0))) (cond ((decide (a0≤57))) (some true) (cond ((a0==95)) (some true) (cond ((a0==39)) (some true) (some (a0==46))))) (cond ((a0==95)) (some true) (cond ((a0==39)) (some true) (some (a0==46))))))) fun (v1:Bool)=>some v1
noncomputable def k145:KF UV:=⟨[.int .u8],[.bool],fun v=>Qa0 v⟩
noncomputable def H145:Hints UV:=⟨[(1,⟨[([.reg 2],.bool)],[],false⟩)],[]⟩
theorem k145_ok:Jo DV W0 Tryz.prog 145 k145:=Js (C:=Qdj) rfl Qp Qf (Qo (tb:=[]) Qf trivial) J2 Tryz.func145 en_145 H145 k145 rfl (fun v=>by kernel_rfl)
theorem en_144:Qe Tryz.prog 144:=enters_of Tryz.func144 (by kernel_rfl) rfl
def Qa1 (a0:List UInt8) (a1:Int):Option (Int) :=
 Option.bind (Qj (σ:=Int) (β:=Int) (fun s11=>Option.bind (cond ((decide (s11 < (a0.length:Int)))) (Option.bind (J3 a0 s11) fun (x16:UInt8)=>Option.bind (Qa0 (x16.toNat:Int)) fun (x17:Bool)=>some x17) (some false)) fun (v15:Bool)=>cond v15 (some (.next (QE (s11+1)))) (some (.done s11))) Qk a1) fun (v12:Int)=>some v12
noncomputable def k144:KF UV:=⟨[.str,.int .i64],[.int .i64],fun v=>Qa1 v.1 v.2⟩
noncomputable def H144:Hints UV:=⟨[(1,⟨[([.reg 1],.int .i64)],[([.reg 1],.int .i64)],false⟩),(2,⟨[([.reg 14],.bool)],[],false⟩)],[]⟩
theorem k144_ok:Jo DV W0 Tryz.prog 144 k144:=Js (C:=Qdj) rfl Qp Qf (Qo (tb:=[(145,k145)]) Qf ⟨k145_ok,trivial⟩) J2 Tryz.func144 en_144 H144 k144 rfl (fun v=>by kernel_rfl)
theorem en_125:Qe Tryz.prog 125:=enters_of Tryz.func125 (by kernel_rfl) rfl
def Q9e (a0:List UInt8):Option (Int×Bool) :=
 Option.bind (cond ((decide (6 < (a0.length:Int)))) (some true) (cond ((a0==([]:List UInt8))) (some true) (Option.bind (m146 a0 ([48,49,50,51,52,53,54,55,56,57]:List UInt8)) fun (x4:(List UInt8))=>cond ((!(x4==([]:List UInt8)))) (some true) (cond ((decide (1 < (a0.length:Int)))) (Option.bind (J3 a0 0) fun (x5:UInt8)=>some ((x5.toNat:Int)==48)) (some false))))) fun (v3:Bool)=>cond v3 (some (0,false)) (Option.bind (Qc (cond (Nat.ble a0.length 18) (Lib.atoi a0).isSome false) (some ((Lib.atoi a0).getD 0))) fun (x6:Int)=>some (x6,true))
noncomputable def k125:KF UV:=⟨[.str],[.int .i64,.bool],fun v=>Q9e v⟩
noncomputable def H125:Hints UV:=⟨[(1,⟨[([.reg 27],.bool)],[],false⟩)],[(5,[])]⟩
theorem k125_ok:Jo DV W0 Tryz.prog 125 k125:=Js (C:=Qdj) rfl Qp Qf (kOr_ok (Qo (tb:=[(146,k146)]) Qf ⟨k146_ok,trivial⟩) atK_ok) J2 Tryz.func125 en_125 H125 k125 rfl (fun v=>by kernel_rfl)
theorem en_123:Qe Tryz.prog 123:=enters_of Tryz.func123 (by kernel_rfl) rfl
def m123 (a0:List UInt8) (a1:Int):Option (Int) :=
 Option.bind (J3 a0 a1) fun (x1:UInt8)=>Option.bind (cond (((x1.toNat:Int)==40)) (some true) (some ((x1.toNat:Int)==41))) fun (v2:Bool)=>cond v2 (some (QE (a1+1))) (Option.bind (α:=Unit⊕Int) (cond (((x1.toNat:Int)==91)) (Qc (Q7l a1 a0.length) (Option.bind (m122 (List.drop a1.toNat a0) 93) fun (x30:Int)=>cond ((decide (0≤x30))) (some (.inr (QE ((QE (a1+x30))+1)))) (some (.inl ())))) (Option.bind (cond (((x1.toNat:Int)==35)) (some true) (some ((x1.toNat:Int)==63))) fun (v31:Bool)=>Option.bind (α:=Unit⊕Int) (cond v31 (Option.bind (Qa1 a0 (QE (a1+1))) fun (x44:Int)=>Qc (cond (decide (0≤(QE (a1+1)))) (cond (Nat.ble (QE (a1+1)).toNat x44.toNat) (Q7l x44 a0.length) false) false) (Option.bind (Q9e (List.drop (QE (a1+1)).toNat (List.take x44.toNat a0))) fun (x45:Int×Bool)=>cond x45.2 (some (.inr x44)) (some (.inl ())))) (Option.bind (Qa0 (x1.toNat:Int)) fun (x46:Bool)=>Option.bind (α:=Unit⊕Int) (cond x46 (Option.bind (Qa1 a0 a1) fun (x51:Int)=>Qc (cond (decide (0≤a1)) (cond (Nat.ble a1.toNat x51.toNat) (Q7l x51 a0.length) false) false) (Option.bind (Q9e (List.drop a1.toNat (List.take x51.toNat a0))) fun (x52:Int×Bool)=>Option.bind (cond x52.2 (some true) (cond ((decide ((x1.toNat:Int) < 48))) (some true) (some (decide (57 < (x1.toNat:Int)))))) fun (v53:Bool)=>cond v53 (some (.inr x51)) (some (.inl ())))) (some (.inl ()))) (Sum.elim (fun (v50:Unit)=>some (.inl ())) (fun (o54:Int)=>some (.inr o54))))) (Sum.elim (fun (v43:Unit)=>some (.inl ())) (fun (o55:Int)=>some (.inr o55))))) (Sum.elim (fun (v29:Unit)=>some a1) (fun (o56:Int)=>some o56)))
noncomputable def k123:KF UV:=⟨[.str,.int .i64],[.int .i64],fun v=>m123 v.1 v.2⟩
noncomputable def H123:Hints UV:=⟨[(3,⟨[([.reg 16],.bool)],[],false⟩),(7,⟨[],[],true⟩),(12,⟨[([.reg 38],.bool)],[],false⟩),(13,⟨[],[],true⟩),(20,⟨[],[],true⟩),(23,⟨[([.reg 82],.bool)],[],false⟩)],[]⟩
theorem k123_ok:Jo DV W0 Tryz.prog 123 k123:=Js (C:=Qdj) rfl Qp Qf (Qo (tb:=[(122,k122),(125,k125),(144,k144),(145,k145)]) Qf ⟨Q2y,k125_ok,k144_ok,k145_ok,trivial⟩) J2 Tryz.func123 en_123 H123 k123 rfl (fun v=>by kernel_rfl)
theorem en_78:Qe Tryz.prog 78:=enters_of Tryz.func78 (by kernel_rfl) rfl
def m78 (a0:Int):Option (Int) :=
 Option.bind (cond ((a0==8)) (some (a0==8)) (some (a0==11))) fun (v1:Bool)=>cond v1 (some 3) (Option.bind (cond ((a0==9)) (some (a0==9)) (some (a0==10))) fun (v2:Bool)=>cond v2 (some 1) (some 2))
noncomputable def k78:KF UV:=⟨[.int .i64],[.int .i64],fun v=>m78 v⟩
noncomputable def H78:Hints UV:=⟨[(4,⟨[([.reg 4],.bool)],[],false⟩),(9,⟨[([.reg 7],.bool)],[],false⟩)],[]⟩
theorem k78_ok:Jo DV W0 Tryz.prog 78 k78:=Js (C:=Qdj) rfl Qp Qf (Qo (tb:=[]) Qf trivial) J2 Tryz.func78 en_78 H78 k78 rfl (fun v=>by kernel_rfl)
theorem en_74:Qe Tryz.prog 74:=enters_of Tryz.func74 (by kernel_rfl) rfl
def Q9o (b:Rdr):Option ((Rdr×((List UInt8)))⊕(Unit×Rdr)) :=
 Option.bind (J3 b.l b.n) fun (x1:Tkn)=>some (.inl (b,x1.text))
noncomputable def k74:PF UV:=⟨.stc 127 .t127,[],[.str],.p0 127,fun b v=>Q9o b⟩
noncomputable def H74:Hints UV:=⟨[],[(1,[])]⟩
theorem WC:ZD DV W0 Tryz.prog 74 k74:=YQ (C:=Qdj) rfl Qp Qf (Qo (tb:=[]) Qf trivial) J2 Tryz.func74 en_74 H74 k74 rfl rfl (fun b v=>by kernel_rfl)
theorem en_72:Qe Tryz.prog 72:=enters_of Tryz.func72 (by kernel_rfl) rfl
def Qc3 (b:Rdr) (a1:List UInt8):Option ((Rdr×Bool)⊕(Unit×Rdr)) :=
 Option.bind (QA (Q9o b)) fun (r1:Rdr×((List UInt8)))=>some (.inl (r1.1,(r1.2==a1)))
noncomputable def k72:PF UV:=⟨.stc 127 .t127,[.str],[.bool],.p0 127,fun b v=>Qc3 b v⟩
noncomputable def H72:Hints UV:=⟨[],[]⟩
theorem k72_ok:ZD DV W0 Tryz.prog 72 k72:=YQ (C:=Qdj) rfl Qp Qf (Qo (tb:=[]) Qf trivial) (Yt (tb:=[(74,k74)]) Qf ⟨WC,trivial⟩) Tryz.func72 en_72 H72 k72 rfl rfl (fun b v=>by kernel_rfl)
theorem en_124:Qe Tryz.prog 124:=enters_of Tryz.func124 (by kernel_rfl) rfl
def Qa4 (b:Rdr):Option ((Rdr×Unit)⊕((Int×Int)×Rdr)) :=
 Option.bind (J3 b.l b.n) fun (x1:Tkn)=>some (.inr ((4,x1.at_),b))
noncomputable def k124:PF UV:=⟨.stc 127 .t127,[],[],.p2 69,fun b v=>Qa4 b⟩
noncomputable def H124:Hints UV:=⟨[],[(0,[13])]⟩
theorem k124_ok:ZD DV W0 Tryz.prog 124 k124:=YQ (C:=Qdj) rfl Qp Qf (Qo (tb:=[]) Qf trivial) J2 Tryz.func124 en_124 H124 k124 rfl rfl (fun b v=>by kernel_rfl)
theorem en_77:Qe Tryz.prog 77:=enters_of Tryz.func77 (by kernel_rfl) rfl
def Q9n (b:Rdr) (a1:Bool):Option ((Rdr×Unit)⊕((Int×Int)×Rdr)) :=
 Option.bind (α:=((List Tkn)×Int)⊕((Rdr×Unit)⊕((Int×Int)×Rdr))) (cond ((!a1)) (Option.bind (Qa4 b) (Sum.elim (fun (r4:Rdr×Unit)=>some (.inl (r4.1.l,r4.1.n))) (fun (e5:(Int×Int)×Rdr)=>some (.inr (.inr ((e5.1.1,e5.1.2),e5.2)))))) (some (.inl (b.l,b.n)))) (Sum.elim (fun (v3:(List Tkn)×Int)=>some (.inl ((Rdr.mk v3.1 v3.2),()))) (fun (o6:(Rdr×Unit)⊕((Int×Int)×Rdr))=>some o6))
noncomputable def k77:PF UV:=⟨.stc 127 .t127,[.bool],[],.p2 69,fun b v=>Q9n b v⟩
noncomputable def H77:Hints UV:=⟨[(1,⟨[([.at 0 0],.sl .t132),([.at 0 1],.int .i64)],[],true⟩)],[]⟩
theorem Q01:ZD DV W0 Tryz.prog 77 k77:=YQ (C:=Qdj) rfl Qp Qf (Qo (tb:=[]) Qf trivial) (YV (tb:=[(124,k124)]) Qf ⟨k124_ok,trivial⟩) Tryz.func77 en_77 H77 k77 rfl rfl (fun b v=>by kernel_rfl)
theorem en_79:Qe Tryz.prog 79:=enters_of Tryz.func79 (by kernel_rfl) rfl
def Qbi (b:Rdr) (a1:List UInt8):Option ((Rdr×Unit)⊕((Int×Int)×Rdr)) :=
 Option.bind (QA (Q9o b)) fun (r1:Rdr×((List UInt8)))=>Option.bind (Q9n r1.1 (r1.2==a1)) (Sum.elim (fun (r3:Rdr×Unit)=>some (.inl ((Rdr.mk r3.1.l (QE (r3.1.n+1))),()))) (fun (e4:(Int×Int)×Rdr)=>some (.inr ((e4.1.1,e4.1.2),e4.2))))
noncomputable def k79:PF UV:=⟨.stc 127 .t127,[.str],[],.p2 69,fun b v=>Qbi b v⟩
noncomputable def H79:Hints UV:=⟨[],[]⟩
theorem k79_ok:ZD DV W0 Tryz.prog 79 k79:=YQ (C:=Qdj) rfl Qp Qf (Qo (tb:=[]) Qf trivial) (Z3 (Yt (tb:=[(74,k74)]) Qf ⟨WC,trivial⟩) (YV (tb:=[(77,k77)]) Qf ⟨Q01,trivial⟩)) Tryz.func79 en_79 H79 k79 rfl rfl (fun b v=>by kernel_rfl)
theorem en_76:Qe Tryz.prog 76:=enters_of Tryz.func76 (by kernel_rfl) rfl
def Qc1 (b:Rdr):Option ((Rdr×((List UInt8)))⊕((Int×Int)×Rdr)) :=
 Option.bind (QA (Q9o b)) fun (r1:Rdr×((List UInt8)))=>Option.bind (Q2i r1.2) fun (x3:Bool)=>Option.bind (Q9n r1.1 x3) (Sum.elim (fun (r4:Rdr×Unit)=>some (.inl ((Rdr.mk r4.1.l (QE (r4.1.n+1))),r1.2))) (fun (e5:(Int×Int)×Rdr)=>some (.inr ((e5.1.1,e5.1.2),e5.2))))
noncomputable def k76:PF UV:=⟨.stc 127 .t127,[],[.str],.p2 69,fun b v=>Qc1 b⟩
noncomputable def H76:Hints UV:=⟨[],[]⟩
theorem k76_ok:ZD DV W0 Tryz.prog 76 k76:=YQ (C:=Qdj) rfl Qp Qf (Qo (tb:=[(110,k110)]) Qf ⟨Q2z,trivial⟩) (Z3 (Yt (tb:=[(74,k74)]) Qf ⟨WC,trivial⟩) (YV (tb:=[(77,k77)]) Qf ⟨Q01,trivial⟩)) Tryz.func76 en_76 H76 k76 rfl rfl (fun b v=>by kernel_rfl)
theorem en_75:Qe Tryz.prog 75:=enters_of Tryz.func75 (by kernel_rfl) rfl
def Qc2 (b:Rdr):Option ((Rdr×Lvl)⊕((Int×Int)×Rdr)) :=
 Option.bind (QA (Q9o b)) fun (r1:Rdr×((List UInt8)))=>Option.bind (m126 r1.2 ([91]:List UInt8)) fun (x3:Bool)=>Option.bind (Q9n r1.1 x3) (Sum.elim (fun (r4:Rdr×Unit)=>Qc (cond (decide (0≤(1:Int))) (cond (Nat.ble (1:Int).toNat (QE ((r1.2.length:Int) - 1)).toNat) (Q7l (QE ((r1.2.length:Int) - 1)) r1.2.length) false) false) (Option.bind (m127 (List.drop (1:Int).toNat (List.take (QE ((r1.2.length:Int) - 1)).toNat r1.2))) fun (x6:Lvl×Int)=>Option.bind (Q9n r4.1 (x6.2==0)) (Sum.elim (fun (r7:Rdr×Unit)=>some (.inl ((Rdr.mk r7.1.l (QE (r7.1.n+1))),x6.1))) (fun (e8:(Int×Int)×Rdr)=>some (.inr ((e8.1.1,e8.1.2),e8.2)))))) (fun (e5:(Int×Int)×Rdr)=>some (.inr ((e5.1.1,e5.1.2),e5.2))))
noncomputable def k75:PF UV:=⟨.stc 127 .t127,[],[.stc .t82],.p2 69,fun b v=>Qc2 b⟩
noncomputable def H75:Hints UV:=⟨[],[]⟩
theorem k75_ok:ZD DV W0 Tryz.prog 75 k75:=YQ (C:=Qdj) rfl Qp Qf (Qo (tb:=[(126,k126),(127,k127)]) Qf ⟨k126_ok,k127_ok,trivial⟩) (Z3 (Yt (tb:=[(74,k74)]) Qf ⟨WC,trivial⟩) (YV (tb:=[(77,k77)]) Qf ⟨Q01,trivial⟩)) Tryz.func75 en_75 H75 k75 rfl rfl (fun b v=>by kernel_rfl)
theorem en_73:Qe Tryz.prog 73:=enters_of Tryz.func73 (by kernel_rfl) rfl
def m73 (b:Rdr):Option ((Rdr×Tm)⊕((Int×Int)×Rdr)) :=
 Option.bind (QA (Q9o b)) fun (r1:Rdr×((List UInt8)))=>Option.bind (α:=((List Tkn)×Int)⊕((Rdr×Tm)⊕((Int×Int)×Rdr))) (cond ((r1.2==([]:List UInt8))) (Option.bind (Qa4 r1.1) (Sum.elim (fun (r13:Rdr×Unit)=>some (.inl (r13.1.l,r13.1.n))) (fun (e14:(Int×Int)×Rdr)=>some (.inr (.inr ((e14.1.1,e14.1.2),e14.2)))))) (cond ((r1.2==([112,114,111,112]:List UInt8))) (some (.inr (.inl ((Rdr.mk r1.1.l (QE (r1.1.n+1))),(Tm.mk 1 0 ([]:List UInt8) ([]) ([])))))) (Option.bind (Option.bind (J3 r1.2 0) fun (x18:UInt8)=>cond (((x18.toNat:Int)==35)) (some true) (Option.bind (J3 r1.2 0) fun (x19:UInt8)=>some ((x19.toNat:Int)==63))) fun (v17:Bool)=>cond v17 (Qc (Q7l (1:Int) r1.2.length) (Option.bind (Q9e (List.drop (1:Int).toNat r1.2)) fun (x20:Int×Bool)=>Option.bind (J3 r1.2 0) fun (x21:UInt8)=>cond (((x21.toNat:Int)==63)) (some (.inr (.inl ((Rdr.mk r1.1.l (QE (r1.1.n+1))),(Tm.mk 12 x20.1 ([]:List UInt8) ([]) ([])))))) (some (.inr (.inl ((Rdr.mk r1.1.l (QE (r1.1.n+1))),(Tm.mk 0 x20.1 ([]:List UInt8) ([]) ([])))))))) (some (.inl (r1.1.l,r1.1.n)))))) (Sum.elim (fun (v12:(List Tkn)×Int)=>Option.bind (Qc1 (Rdr.mk v12.1 v12.2)) (Sum.elim (fun (r23:Rdr×((List UInt8)))=>some (.inl (r23.1,(Tm.mk 3 0 r23.2 ([]) ([]))))) (fun (e24:(Int×Int)×Rdr)=>some (.inr ((e24.1.1,e24.1.2),e24.2))))) (fun (o22:(Rdr×Tm)⊕((Int×Int)×Rdr))=>some o22))
noncomputable def k73:PF UV:=⟨.stc 127 .t127,[],[.stc .t25],.p2 69,fun b v=>m73 b⟩
noncomputable def H73:Hints UV:=⟨[(4,⟨[([.at 0 0],.sl .t132),([.at 0 1],.int .i64)],[],true⟩),(10,⟨[([.reg 24],.bool)],[],false⟩)],[]⟩
theorem k73_ok:ZD DV W0 Tryz.prog 73 k73:=YQ (C:=Qdj) rfl Qp Qf (Qo (tb:=[(125,k125)]) Qf ⟨k125_ok,trivial⟩) (Z3 (Yt (tb:=[(74,k74)]) Qf ⟨WC,trivial⟩) (YV (tb:=[(76,k76),(124,k124)]) Qf ⟨k76_ok,k124_ok,trivial⟩)) Tryz.func73 en_73 H73 k73 rfl rfl (fun b v=>by kernel_rfl)
theorem en_36:Qe Tryz.prog 36:=enters_of Tryz.func36 (by kernel_rfl) rfl
theorem Q8p:Qe Tryz.prog 64:=enters_of Tryz.func64 (by kernel_rfl) rfl
noncomputable def B64_36:IH UV:=⟨Tryz.f64,⟨[],[]⟩,.st⟩
def m36s (rc:Rdr×Unit→Option ((Rdr×Tm)⊕((Int×Int)×Rdr))) (b:Rdr):Option ((Rdr×Tm)⊕((Int×Int)×Rdr)) :=
 Option.bind (QA (Qc3 b ([40]:List UInt8))) fun (r1:Rdr×Bool)=>cond ((!r1.2)) (Option.bind (m73 r1.1) (Sum.elim (fun (r3:Rdr×Tm)=>some (.inl (r3.1,r3.2))) (fun (e4:(Int×Int)×Rdr)=>some (.inr ((e4.1.1,e4.1.2),e4.2))))) (Option.bind (QA (Q9o (Rdr.mk r1.1.l (QE (r1.1.n+1))))) fun (r5:Rdr×((List UInt8)))=>cond ((r5.2==([115,111,114,116]:List UInt8))) (Option.bind (Qc2 (Rdr.mk r5.1.l (QE (r5.1.n+1)))) (Sum.elim (fun (r7:Rdr×Lvl)=>Option.bind (Qbi r7.1 ([41]:List UInt8)) (Sum.elim (fun (r9:Rdr×Unit)=>some (.inl (r9.1,(Tm.mk 2 0 ([]:List UInt8) ([r7.2]:List Lvl) ([]))))) (fun (e10:(Int×Int)×Rdr)=>some (.inr ((e10.1.1,e10.1.2),e10.2))))) (fun (e8:(Int×Int)×Rdr)=>some (.inr ((e8.1.1,e8.1.2),e8.2))))) (cond ((r5.2==([99,111,110,115,116]:List UInt8))) (Option.bind (Qc1 (Rdr.mk r5.1.l (QE (r5.1.n+1)))) (Sum.elim (fun (r11:Rdr×((List UInt8)))=>Option.bind (Qj (σ:=(List Tkn)×Int×(List Lvl)) (β:=((List Tkn)×Int×(List Lvl))⊕((Rdr×Tm)⊕((Int×Int)×Rdr))) (fun s25=>Option.bind (QA (Qc3 (Rdr.mk s25.1 s25.2.1) ([41]:List UInt8))) fun (r27:Rdr×Bool)=>cond ((!r27.2)) (Option.bind (Qc2 r27.1) (Sum.elim (fun (r29:Rdr×Lvl)=>Qc (Nat.ble (s25.2.2.length+([r29.2]:List Lvl).length) 1000000000) (some (.next (r29.1.l,r29.1.n,(s25.2.2++([r29.2]:List Lvl)))))) (fun (e30:(Int×Int)×Rdr)=>some (.done (.inr (.inr ((e30.1.1,e30.1.2),e30.2))))))) (some (.done (.inl (r27.1.l,r27.1.n,s25.2.2))))) Qk (r11.1.l,r11.1.n,([]:List Lvl))) (Sum.elim (fun (v26:(List Tkn)×Int×(List Lvl))=>Option.bind (Qbi (Rdr.mk v26.1 v26.2.1) ([41]:List UInt8)) (Sum.elim (fun (r31:Rdr×Unit)=>some (.inl (r31.1,(Tm.mk 3 0 r11.2 v26.2.2 ([]))))) (fun (e32:(Int×Int)×Rdr)=>some (.inr ((e32.1.1,e32.1.2),e32.2))))) (fun (o33:(Rdr×Tm)⊕((Int×Int)×Rdr))=>some o33))) (fun (e12:(Int×Int)×Rdr)=>some (.inr ((e12.1.1,e12.1.2),e12.2))))) (Option.bind (Qj (σ:=Int×Int) (β:=Int) (fun s40=>cond ((decide (s40.1 < 8))) (Option.bind (J3 ([([97,112,112]:List UInt8),([108,97,109]:List UInt8),([112,105]:List UInt8),([115,105,103,109,97]:List UInt8),([112,97,105,114]:List UInt8),([102,115,116]:List UInt8),([115,110,100]:List UInt8),([108,101,116]:List UInt8)]:List (List UInt8)) s40.1) fun (x42:List UInt8)=>Option.bind (cond ((x42==r5.2)) (some (QE (4+s40.1))) (some s40.2)) fun (v43:Int)=>some (.next ((QE (s40.1+1)),v43))) (some (.done s40.2))) Qk (0,0)) fun (v41:Int)=>Option.bind (Q9n r5.1 (v41 != 0)) (Sum.elim (fun (r44:Rdr×Unit)=>Option.bind (m78 v41) fun (x46:Int)=>Option.bind (Qj (σ:=Int×(List Tkn)×Int×(List Tm)) (β:=((List Tkn)×Int×(List Tm))⊕((Rdr×Tm)⊕((Int×Int)×Rdr))) (fun s53=>cond ((decide (s53.1 < x46))) (Option.bind (rc ((Rdr.mk s53.2.1 s53.2.2.1),())) (Sum.elim (fun (r55:Rdr×Tm)=>Qc (Nat.ble (s53.2.2.2.length+([r55.2]:List Tm).length) 1000000000) (some (.next ((QE (s53.1+1)),r55.1.l,r55.1.n,(s53.2.2.2++([r55.2]:List Tm)))))) (fun (e56:(Int×Int)×Rdr)=>some (.done (.inr (.inr ((e56.1.1,e56.1.2),e56.2))))))) (some (.done (.inl (s53.2.1,s53.2.2.1,s53.2.2.2))))) Qk (0,r44.1.l,(QE (r44.1.n+1)),([]:List Tm))) (Sum.elim (fun (v54:(List Tkn)×Int×(List Tm))=>Option.bind (Qbi (Rdr.mk v54.1 v54.2.1) ([41]:List UInt8)) (Sum.elim (fun (r57:Rdr×Unit)=>some (.inl (r57.1,(Tm.mk v41 0 ([]:List UInt8) ([]) v54.2.2)))) (fun (e58:(Int×Int)×Rdr)=>some (.inr ((e58.1.1,e58.1.2),e58.2))))) (fun (o59:(Rdr×Tm)⊕((Int×Int)×Rdr))=>some o59))) (fun (e45:(Int×Int)×Rdr)=>some (.inr ((e45.1.1,e45.1.2),e45.2)))))))
def m36r:Rdr×Unit→Option ((Rdr×Tm)⊕((Int×Int)×Rdr)):=QX (fun rc v=>m36s rc v.1) Qk
def m36 (b:Rdr):Option ((Rdr×Tm)⊕((Int×Int)×Rdr)):=m36r (b,())
noncomputable def k36:PF UV:=⟨.stc 127 .t127,[],[.stc .t25],.p2 69,fun b v=>m36 b⟩
noncomputable def H36:Hints UV:=⟨[(17,⟨[([.at 0 0],.sl .t132),([.at 0 1],.int .i64),([.at 3 3],.app 82 .t82)],[([.at 0 0],.sl .t132),([.at 0 1],.int .i64),([.at 3 3],.app 82 .t82)],true⟩),(23,⟨[([.reg 24],.int .i64),([.at 3 0],.int .i64)],[([.at 3 0],.int .i64)],false⟩),(29,⟨[([.at 3 0],.int .i64)],[],false⟩),(35,⟨[([.reg 50],.int .i64),([.at 0 0],.sl .t132),([.at 0 1],.int .i64),([.at 3 4],.app 25 .t25)],[([.at 0 0],.sl .t132),([.at 0 1],.int .i64),([.at 3 4],.app 25 .t25)],true⟩)],[(21,[3,4,5,7]),(39,[3,4,5,7])]⟩
theorem k36s_ok (rc:Rdr×Unit→Option ((Rdr×Tm)⊕((Int×Int)×Rdr))) (H:∀ (u:Rdr×Unit) (r:(Rdr×Tm)⊕((Int×Int)×Rdr)),rc u=some r→CallO W0 Tryz.prog 36 (.one (.ptr 0 0)::QG DV k36.args u.2) ((Dj k36.bx u.1).er DV) (Q54 DV k36.bx k36.res k36.pk r)):ZD DV W0 Tryz.prog 36 ⟨k36.bx,k36.args,k36.res,k36.pk,fun b v=>m36s rc b⟩:=YQ (C:=Qdj) rfl Qp Qf (Qo (tb:=[(78,k78)]) Qf ⟨k78_ok,trivial⟩) (YE (C:=Qdj) rfl Qp Qf (Qo (tb:=[(78,k78)]) Qf ⟨k78_ok,trivial⟩) (Z3 (Yt (tb:=[(72,k72),(74,k74)]) Qf ⟨k72_ok,WC,trivial⟩) (YV (tb:=[(36,(⟨k36.bx,k36.args,k36.res,k36.pk,fun b v=>rc (b,v)⟩:PF UV)),(73,k73),(75,k75),(76,k76),(77,k77),(79,k79)]) Qf ⟨⟨⟨rfl,rfl⟩,fun b v y h=>H (b,v) y h⟩,k73_ok,k75_ok,k76_ok,Q01,k79_ok,trivial⟩)) (I:=[(64,B64_36)]) ⟨⟨Tryz.func64,Q8p⟩,trivial⟩ 8) Tryz.func36 en_36 H36 _ rfl rfl (fun b v=>by kernel_rfl)
theorem k36_ok:ZD DV W0 Tryz.prog 36 k36:=⟨⟨rfl,rfl⟩,fun b v r h=>Jy (C:=fun (u:Rdr×Unit) (r:(Rdr×Tm)⊕((Int×Int)×Rdr))=>CallO W0 Tryz.prog 36 (.one (.ptr 0 0)::QG DV k36.args u.2) ((Dj k36.bx u.1).er DV) (Q54 DV k36.bx k36.res k36.pk r)) (fun rc H u r h=>(k36s_ok rc H).2 u.1 u.2 r h) Qk (b,v) r h⟩
theorem en_37:Qe Tryz.prog 37:=enters_of Tryz.func37 (by kernel_rfl) rfl
def m37 (b:Rdr) (a1:List UInt8):Option ((Rdr×Unit)⊕((Int×Int)×Rdr)) :=
 Option.bind (α:=((List Tkn)×Int)⊕((Rdr×Unit)⊕((Int×Int)×Rdr))) (Option.bind (QA (Q9o b)) fun (r9:Rdr×((List UInt8)))=>cond ((r9.2==([]:List UInt8))) (Option.bind (J3 r9.1.l r9.1.n) fun (x11:Tkn)=>Option.bind (Q9n r9.1 (x11.at_==(a1.length:Int))) (Sum.elim (fun (r12:Rdr×Unit)=>some (.inl (r12.1.l,r12.1.n))) (fun (e13:(Int×Int)×Rdr)=>some (.inr (.inr ((e13.1.1,e13.1.2),e13.2)))))) (Option.bind (Q9n r9.1 false) (Sum.elim (fun (r14:Rdr×Unit)=>some (.inl (r14.1.l,r14.1.n))) (fun (e15:(Int×Int)×Rdr)=>some (.inr (.inr ((e15.1.1,e15.1.2),e15.2))))))) (Sum.elim (fun (v8:(List Tkn)×Int)=>some (.inl ((Rdr.mk v8.1 v8.2),()))) (fun (o16:(Rdr×Unit)⊕((Int×Int)×Rdr))=>some o16))
noncomputable def k37:PF UV:=⟨.stc 127 .t127,[.str],[],.p2 69,fun b v=>m37 b v⟩
noncomputable def H37:Hints UV:=⟨[(0,⟨[([.at 0 0],.sl .t132),([.at 0 1],.int .i64)],[],true⟩)],[(0,[2,20])]⟩
theorem k37_ok:ZD DV W0 Tryz.prog 37 k37:=YQ (C:=Qdj) rfl Qp Qf (Qo (tb:=[]) Qf trivial) (Z3 (Yt (tb:=[(74,k74)]) Qf ⟨WC,trivial⟩) (YV (tb:=[(77,k77)]) Qf ⟨Q01,trivial⟩)) Tryz.func37 en_37 H37 k37 rfl rfl (fun b v=>by kernel_rfl)
theorem en_139:Qe Tryz.prog 139:=enters_of Tryz.func139 (by kernel_rfl) rfl
def Q5l (a0:List UInt8) (a1:Int) (a2:Int):Option ((List UInt8)) :=
 Option.bind (Q7i a1) fun (x1:(List UInt8))=>Qc (Nat.ble (a0.length+x1.length) 1000000000) (Option.bind (cond ((decide (0 < a2))) (Option.bind (Q7i a2) fun (x4:(List UInt8))=>Qc (Nat.ble (([32,43,32]:List UInt8).length+x4.length) 1000000000) (Qc (Nat.ble ((a0++x1).length+(([32,43,32]:List UInt8)++x4).length) 1000000000) (some ((a0++x1)++(([32,43,32]:List UInt8)++x4))))) (some (a0++x1))) fun (v3:(List UInt8))=>some v3)
noncomputable def k139:KF UV:=⟨[.str,.int .i64,.int .i64],[.str],fun v=>Q5l v.1 v.2.1 v.2.2⟩
noncomputable def H139:Hints UV:=⟨[(3,⟨[([.reg 7],.str)],[],false⟩)],[]⟩
theorem k139_ok:Jo DV W0 Tryz.prog 139 k139:=Js (C:=Qdj) rfl Qp Qf (Qo (tb:=[(62,k62)]) Qf ⟨GM,trivial⟩) J2 Tryz.func139 en_139 H139 k139 rfl (fun v=>by kernel_rfl)
theorem en_114:Qe Tryz.prog 114:=enters_of Tryz.func114 (by kernel_rfl) rfl
theorem en_140:Qe Tryz.prog 140:=enters_of Tryz.func140 (by kernel_rfl) rfl
theorem en_163:Qe Tryz.prog 163:=enters_of Tryz.func163 (by kernel_rfl) rfl
noncomputable def B140_114:IH UV:=⟨Tryz.f140,⟨[],[]⟩,.st⟩
noncomputable def B163_114:IH UV:=⟨Tryz.f163,⟨[(1,⟨[([.reg 3],.int .i64),([.fat 0 4 0],.app 9 .t9)],[([.fat 0 4 0],.app 9 .t9)],false⟩),(4,⟨[([.fat 0 4 0],.app 9 .t9)],[],false⟩)],[]⟩,.st⟩
def Q9f (a0:Lvl):Option ((List UInt8)×Int) :=
 Option.bind (Q49 a0) fun (x1:Bool)=>cond ((!x1)) (some (([]:List UInt8),3)) (Option.bind (cond ((decide (0 < a0.c))) (some true) (some ((a0.vs.length:Int)==0))) fun (v2:Bool)=>Option.bind (cond v2 (Option.bind (Q7i a0.c) fun (x5:(List UInt8))=>Qc (Nat.ble (([]:List ((List UInt8))).length+([x5]:List ((List UInt8))).length) 1000000000) (some (([]:List ((List UInt8)))++([x5]:List ((List UInt8)))))) (some ([]:List ((List UInt8))))) fun (v4:(List ((List UInt8))))=>Option.bind (Qj (σ:=Int×(List ((List UInt8)))) (β:=(List ((List UInt8)))) (fun s12=>cond ((decide (s12.1 < (a0.vs.length:Int)))) (Option.bind (J3 a0.vs s12.1) fun (x14:Qde)=>cond ((decide (0≤x14.1))) (Option.bind (Q5l ([117]:List UInt8) x14.1 x14.2) fun (x15:(List UInt8))=>Qc (Nat.ble (s12.2.length+([x15]:List ((List UInt8))).length) 1000000000) (some (.next ((QE (s12.1+1)),(s12.2++([x15]:List ((List UInt8)))))))) (some (.next ((QE (s12.1+1)),s12.2)))) (some (.done s12.2))) Qk (0,v4)) fun (v13:(List ((List UInt8))))=>Option.bind (Qj (σ:=Int×(List ((List UInt8)))) (β:=(List ((List UInt8)))) (fun s31=>cond ((decide (0≤s31.1))) (Option.bind (Option.bind (J3 a0.vs s31.1) fun (x36:Qde)=>cond ((decide (x36.1 < 0))) (Option.bind (Q5l ([63]:List UInt8) (QE ((-1) - x36.1)) x36.2) fun (x37:(List UInt8))=>Qc (Nat.ble (s31.2.length+([x37]:List ((List UInt8))).length) 1000000000) (some (s31.2++([x37]:List ((List UInt8)))))) (some s31.2)) fun (v35:(List ((List UInt8))))=>some (.next ((QE (s31.1 - 1)),v35))) (some (.done s31.2))) Qk ((QE ((a0.vs.length:Int) - 1)),v13)) fun (v32:(List ((List UInt8))))=>cond (((v32.length:Int)==1)) (Option.bind (J3 v32 0) fun (x38:(List UInt8))=>some (x38,0)) (Option.bind (m141 v32 ([44,32]:List UInt8)) fun (x39:(List UInt8))=>Qc (Nat.ble (([109,97,120,40]:List UInt8).length+x39.length) 1000000000) (Qc (Nat.ble ((([109,97,120,40]:List UInt8)++x39).length+([41]:List UInt8).length) 1000000000) (some (((([109,97,120,40]:List UInt8)++x39)++([41]:List UInt8)),0)))))
noncomputable def k114:KF UV:=⟨[.stc .t82],[.str,.int .i64],fun v=>Q9f v⟩
noncomputable def H114:Hints UV:=⟨[(5,⟨[([.reg 20],.bool)],[],false⟩),(6,⟨[([.at 4 0],.app 9 .t9)],[],false⟩),(9,⟨[([.reg 30],.int .i64),([.at 4 0],.app 9 .t9)],[([.at 4 0],.app 9 .t9)],false⟩)],[(7,[4,5,6]),(16,[6,7,8]),(24,[7,8,9])]⟩
theorem k114_ok:Jo DV W0 Tryz.prog 114 k114:=Js (C:=Qdj) rfl Qp Qf (Qo (tb:=[(62,k62),(136,k136),(139,k139),(141,k141)]) Qf ⟨GM,k136_ok,k139_ok,k141_ok,trivial⟩) (YE (C:=Qdj) rfl Qp Qf (Qo (tb:=[(62,k62),(136,k136),(139,k139),(141,k141)]) Qf ⟨GM,k136_ok,k139_ok,k141_ok,trivial⟩) J2 (I:=[(140,B140_114),(163,B163_114)]) ⟨⟨Tryz.func140,en_140⟩,⟨Tryz.func163,en_163⟩,trivial⟩ 8) Tryz.func114 en_114 H114 k114 rfl (fun v=>by kernel_rfl)
theorem en_63:Qe Tryz.prog 63:=enters_of Tryz.func63 (by kernel_rfl) rfl
def Q9p (a0:Lvl):Option ((List UInt8)) :=
 Option.bind (Q9f a0) fun (x1:(List UInt8)×Int)=>Qc (Nat.ble (([91]:List UInt8).length+x1.1.length) 1000000000) (Qc (Nat.ble ((([91]:List UInt8)++x1.1).length+([93]:List UInt8).length) 1000000000) (some ((([91]:List UInt8)++x1.1)++([93]:List UInt8))))
noncomputable def k63:KF UV:=⟨[.stc .t82],[.str],fun v=>Q9p v⟩
noncomputable def H63:Hints UV:=⟨[],[]⟩
theorem Q2v:Jo DV W0 Tryz.prog 63 k63:=Js (C:=Qdj) rfl Qp Qf (Qo (tb:=[(114,k114)]) Qf ⟨k114_ok,trivial⟩) J2 Tryz.func63 en_63 H63 k63 rfl (fun v=>by kernel_rfl)
theorem en_28:Qe Tryz.prog 28:=enters_of Tryz.func28 (by kernel_rfl) rfl
theorem D8:Qe Tryz.prog 61:=enters_of Tryz.func61 (by kernel_rfl) rfl
noncomputable def B61_28:IH UV:=⟨Tryz.f61,⟨[],[]⟩,.st⟩
noncomputable def B64_28:IH UV:=⟨Tryz.f64,⟨[],[]⟩,.st⟩
def Q5g (rc:(List Byt)×Tm→Option (((List Byt)×Unit)⊕(Unit×(List Byt)))) (b:List Byt) (a1:Tm):Option (((List Byt)×Unit)⊕(Unit×(List Byt))) :=
 Option.bind (α:=((List Byt))⊕(((List Byt)×Unit)⊕(Unit×(List Byt)))) (cond ((a1.kind==0)) (Option.bind (Q7i a1.index) fun (x467:(List UInt8))=>Qc (Nat.ble (([35]:List UInt8).length+x467.length) 1000000000) (Qc (Nat.ble (b.length+(([35]:List UInt8)++x467).length) 1000000000) (some (.inl (b++(List.map (fun b:UInt8=>(⟨b.toNat⟩:Byt)) (([35]:List UInt8)++x467))))))) (Option.bind (α:=((List Byt))⊕(((List Byt)×Unit)⊕(Unit×(List Byt)))) (cond ((a1.kind==12)) (Option.bind (Q7i a1.index) fun (x700:(List UInt8))=>Qc (Nat.ble (([63]:List UInt8).length+x700.length) 1000000000) (Qc (Nat.ble (b.length+(([63]:List UInt8)++x700).length) 1000000000) (some (.inl (b++(List.map (fun b:UInt8=>(⟨b.toNat⟩:Byt)) (([63]:List UInt8)++x700))))))) (Option.bind (α:=((List Byt))⊕(((List Byt)×Unit)⊕(Unit×(List Byt)))) (cond ((a1.kind==1)) (Qc (Nat.ble (b.length+([112,114,111,112]:List UInt8).length) 1000000000) (some (.inl (b++(List.map (fun b:UInt8=>(⟨b.toNat⟩:Byt)) ([112,114,111,112]:List UInt8)))))) (Option.bind (α:=((List Byt))⊕(((List Byt)×Unit)⊕(Unit×(List Byt)))) (cond ((a1.kind==2)) (Option.bind (J3 a1.levels 0) fun (x873:Lvl)=>Option.bind (Q9p x873) fun (x874:(List UInt8))=>Qc (Nat.ble (([40,115,111,114,116,32]:List UInt8).length+x874.length) 1000000000) (Qc (Nat.ble ((([40,115,111,114,116,32]:List UInt8)++x874).length+([41]:List UInt8).length) 1000000000) (Qc (Nat.ble (b.length+((([40,115,111,114,116,32]:List UInt8)++x874)++([41]:List UInt8)).length) 1000000000) (some (.inl (b++(List.map (fun b:UInt8=>(⟨b.toNat⟩:Byt)) ((([40,115,111,114,116,32]:List UInt8)++x874)++([41]:List UInt8))))))))) (Option.bind (α:=((List Byt))⊕(((List Byt)×Unit)⊕(Unit×(List Byt)))) (cond ((a1.kind==3)) (Option.bind (cond (((a1.levels.length:Int)==0)) (some (!(a1.name==([112,114,111,112]:List UInt8)))) (some false)) fun (v902:Bool)=>cond v902 (Qc (Nat.ble (b.length+a1.name.length) 1000000000) (some (.inr (.inl ((b++(List.map (fun b:UInt8=>(⟨b.toNat⟩:Byt)) a1.name)),()))))) (Qc (Nat.ble (([40,99,111,110,115,116,32]:List UInt8).length+a1.name.length) 1000000000) (Qc (Nat.ble (b.length+(([40,99,111,110,115,116,32]:List UInt8)++a1.name).length) 1000000000) (Option.bind (Qj (σ:=Int×(List Byt)) (β:=(List Byt)) (fun s909=>cond ((decide (s909.1 < (a1.levels.length:Int)))) (Option.bind (J3 a1.levels s909.1) fun (x911:Lvl)=>Option.bind (Q9p x911) fun (x912:(List UInt8))=>Qc (Nat.ble (([32]:List UInt8).length+x912.length) 1000000000) (Qc (Nat.ble (s909.2.length+(([32]:List UInt8)++x912).length) 1000000000) (some (.next ((QE (s909.1+1)),(s909.2++(List.map (fun b:UInt8=>(⟨b.toNat⟩:Byt)) (([32]:List UInt8)++x912)))))))) (some (.done s909.2))) Qk (0,(b++(List.map (fun b:UInt8=>(⟨b.toNat⟩:Byt)) (([40,99,111,110,115,116,32]:List UInt8)++a1.name))))) fun (v910:(List Byt))=>Qc (Nat.ble (v910.length+([41]:List UInt8).length) 1000000000) (some (.inl (v910++(List.map (fun b:UInt8=>(⟨b.toNat⟩:Byt)) ([41]:List UInt8))))))))) (Option.bind (J3 ([([97,112,112]:List UInt8),([108,97,109]:List UInt8),([112,105]:List UInt8),([115,105,103,109,97]:List UInt8),([112,97,105,114]:List UInt8),([102,115,116]:List UInt8),([115,110,100]:List UInt8),([108,101,116]:List UInt8)]:List (List UInt8)) (QE (a1.kind - 4))) fun (x913:List UInt8)=>Qc (Nat.ble (([40]:List UInt8).length+x913.length) 1000000000) (Qc (Nat.ble (b.length+(([40]:List UInt8)++x913).length) 1000000000) (Option.bind (Qj (σ:=Int×(List Byt)) (β:=(List Byt)) (fun s923=>cond ((decide (s923.1 < (a1.kids.length:Int)))) (Option.bind (J3 a1.kids s923.1) fun (x925:Tm)=>Qc (Nat.ble (s923.2.length+([32]:List UInt8).length) 1000000000) (Option.bind (QA (rc ((s923.2++(List.map (fun b:UInt8=>(⟨b.toNat⟩:Byt)) ([32]:List UInt8))),x925))) fun (r926:(List Byt)×Unit)=>some (.next ((QE (s923.1+1)),r926.1)))) (some (.done s923.2))) Qk (0,(b++(List.map (fun b:UInt8=>(⟨b.toNat⟩:Byt)) (([40]:List UInt8)++x913))))) fun (v924:(List Byt))=>Qc (Nat.ble (v924.length+([41]:List UInt8).length) 1000000000) (some (.inl (v924++(List.map (fun b:UInt8=>(⟨b.toNat⟩:Byt)) ([41]:List UInt8))))))))) (Sum.elim (fun (v901:(List Byt))=>some (.inl v901)) (fun (o928:((List Byt)×Unit)⊕(Unit×(List Byt)))=>some (.inr o928))))) (Sum.elim (fun (v872:(List Byt))=>some (.inl v872)) (fun (o929:((List Byt)×Unit)⊕(Unit×(List Byt)))=>some (.inr o929))))) (Sum.elim (fun (v815:(List Byt))=>some (.inl v815)) (fun (o930:((List Byt)×Unit)⊕(Unit×(List Byt)))=>some (.inr o930))))) (Sum.elim (fun (v699:(List Byt))=>some (.inl v699)) (fun (o931:((List Byt)×Unit)⊕(Unit×(List Byt)))=>some (.inr o931))))) (Sum.elim (fun (v466:(List Byt))=>some (.inl (v466,()))) (fun (o932:((List Byt)×Unit)⊕(Unit×(List Byt)))=>some o932))
def m28r:(List Byt)×Tm→Option (((List Byt)×Unit)⊕(Unit×(List Byt))):=QX (fun rc v=>Q5g rc v.1 v.2) Qk
def Qc7 (b:List Byt) (a1:Tm):Option (((List Byt)×Unit)⊕(Unit×(List Byt))):=m28r (b,a1)
noncomputable def k28:PF UV:=⟨.bld 62 5 .t5,[.stc .t25],[],.p0 62,fun b v=>Qc7 b v⟩
noncomputable def H28:Hints UV:=⟨[(4,⟨[([.at 0 1],.app 5 .t5)],[],true⟩),(7,⟨[([.at 0 1],.app 5 .t5)],[],true⟩),(10,⟨[([.at 0 1],.app 5 .t5)],[],true⟩),(13,⟨[([.at 0 1],.app 5 .t5)],[],true⟩),(16,⟨[([.at 0 1],.app 5 .t5)],[],true⟩),(17,⟨[([.reg 74],.bool)],[],false⟩),(22,⟨[([.reg 87],.int .i64),([.at 0 1],.app 5 .t5)],[([.at 0 1],.app 5 .t5)],false⟩),(32,⟨[([.reg 21],.int .i64),([.at 0 1],.app 5 .t5)],[([.at 0 1],.app 5 .t5)],false⟩)],[(30,[1,7])]⟩
theorem k28s_ok (rc:(List Byt)×Tm→Option (((List Byt)×Unit)⊕(Unit×(List Byt)))) (H:∀ (u:(List Byt)×Tm) (r:((List Byt)×Unit)⊕(Unit×(List Byt))),rc u=some r→CallO W0 Tryz.prog 28 (.one (.ptr 0 0)::QG DV k28.args u.2) ((Dj k28.bx u.1).er DV) (Q54 DV k28.bx k28.res k28.pk r)):ZD DV W0 Tryz.prog 28 ⟨k28.bx,k28.args,k28.res,k28.pk,fun b v=>Q5g rc b v⟩:=YQ (C:=Qdj) rfl Qp Qf (Qo (tb:=[(62,k62),(63,k63)]) Qf ⟨GM,Q2v,trivial⟩) (YE (C:=Qdj) rfl Qp Qf (Qo (tb:=[(62,k62),(63,k63)]) Qf ⟨GM,Q2v,trivial⟩) (Z3 Q8s (Yt (tb:=[(28,(⟨k28.bx,k28.args,k28.res,k28.pk,fun b v=>rc (b,v)⟩:PF UV))]) Qf ⟨⟨⟨rfl,rfl⟩,fun b v y h=>H (b,v) y h⟩,trivial⟩)) (I:=[(61,B61_28),(64,B64_28)]) ⟨⟨Tryz.func61,D8⟩,⟨Tryz.func64,Q8p⟩,trivial⟩ 8) Tryz.func28 en_28 H28 _ rfl rfl (fun b v=>by kernel_rfl)
theorem k28_ok:ZD DV W0 Tryz.prog 28 k28:=⟨⟨rfl,rfl⟩,fun b v r h=>Jy (C:=fun (u:(List Byt)×Tm) (r:((List Byt)×Unit)⊕(Unit×(List Byt)))=>CallO W0 Tryz.prog 28 (.one (.ptr 0 0)::QG DV k28.args u.2) ((Dj k28.bx u.1).er DV) (Q54 DV k28.bx k28.res k28.pk r)) (fun rc H u r h=>(k28s_ok rc H).2 u.1 u.2 r h) Qk (b,v) r h⟩
theorem en_13:Qe Tryz.prog 13:=enters_of Tryz.func13 (by kernel_rfl) rfl
theorem en_29:Qe Tryz.prog 29:=enters_of Tryz.func29 (by kernel_rfl) rfl
noncomputable def B28_13:IH UV:=⟨Tryz.f28,⟨[(17,⟨[([.reg 74],.bool)],[],false⟩),(22,⟨[([.reg 87],.int .i64),([.at 0 1],.app 5 .t5)],[([.at 0 1],.app 5 .t5)],false⟩),(32,⟨[([.reg 21],.int .i64),([.at 0 1],.app 5 .t5)],[([.at 0 1],.app 5 .t5)],false⟩)],[(30,[1,7])]⟩,.st⟩
noncomputable def B29_13:IH UV:=⟨Tryz.f29,⟨[],[]⟩,.lab [([.reg 2],.int .i64)]⟩
noncomputable def B61_13:IH UV:=⟨Tryz.f61,⟨[],[]⟩,.st⟩
noncomputable def B64_13:IH UV:=⟨Tryz.f64,⟨[],[]⟩,.st⟩
def Q8g (a0:Tm):Option ((List UInt8)×Int) :=
 Option.bind (Q9z a0 1000000 1000000 1000000 1000000) fun (x1:Int)=>cond ((x1 != 0)) (some (([]:List UInt8),x1)) (cond ((a0.kind==0)) (Option.bind (Q7i a0.index) fun (x2:(List UInt8))=>Qc (Nat.ble (([35]:List UInt8).length+x2.length) 1000000000) (Qc (Nat.ble (([35]:List UInt8)++x2).length 1000000000) (Option.bind (some ((List.map (fun b:UInt8=>(⟨b.toNat⟩:Byt)) (([35]:List UInt8)++x2)).length:Int)) fun (v3:Int)=>cond ((decide (65536 < v3))) (some (([]:List UInt8),5)) (Qc (cond (List.all (List.map (fun b:UInt8=>(⟨b.toNat⟩:Byt)) (([35]:List UInt8)++x2)) (fun x:Byt=>cond (decide (0≤x.n)) (decide (x.n < 256)) false)) (!(List.isEmpty (List.map (fun b:UInt8=>(⟨b.toNat⟩:Byt)) (([35]:List UInt8)++x2)))) false) (some ((List.map Byt.u8 (List.map (fun b:UInt8=>(⟨b.toNat⟩:Byt)) (([35]:List UInt8)++x2))),0)))))) (cond ((a0.kind==12)) (Option.bind (Q7i a0.index) fun (x4:(List UInt8))=>Qc (Nat.ble (([63]:List UInt8).length+x4.length) 1000000000) (Qc (Nat.ble (([63]:List UInt8)++x4).length 1000000000) (Option.bind (some ((List.map (fun b:UInt8=>(⟨b.toNat⟩:Byt)) (([63]:List UInt8)++x4)).length:Int)) fun (v5:Int)=>cond ((decide (65536 < v5))) (some (([]:List UInt8),5)) (Qc (cond (List.all (List.map (fun b:UInt8=>(⟨b.toNat⟩:Byt)) (([63]:List UInt8)++x4)) (fun x:Byt=>cond (decide (0≤x.n)) (decide (x.n < 256)) false)) (!(List.isEmpty (List.map (fun b:UInt8=>(⟨b.toNat⟩:Byt)) (([63]:List UInt8)++x4)))) false) (some ((List.map Byt.u8 (List.map (fun b:UInt8=>(⟨b.toNat⟩:Byt)) (([63]:List UInt8)++x4))),0)))))) (cond ((a0.kind==1)) (Qc (Nat.ble ([112,114,111,112]:List UInt8).length 1000000000) (Option.bind (some ((List.map (fun b:UInt8=>(⟨b.toNat⟩:Byt)) ([112,114,111,112]:List UInt8)).length:Int)) fun (v6:Int)=>cond ((decide (65536 < v6))) (some (([]:List UInt8),5)) (Qc (cond (List.all (List.map (fun b:UInt8=>(⟨b.toNat⟩:Byt)) ([112,114,111,112]:List UInt8)) (fun x:Byt=>cond (decide (0≤x.n)) (decide (x.n < 256)) false)) (!(List.isEmpty (List.map (fun b:UInt8=>(⟨b.toNat⟩:Byt)) ([112,114,111,112]:List UInt8)))) false) (some ((List.map Byt.u8 (List.map (fun b:UInt8=>(⟨b.toNat⟩:Byt)) ([112,114,111,112]:List UInt8))),0))))) (cond ((a0.kind==2)) (Option.bind (J3 a0.levels 0) fun (x7:Lvl)=>Option.bind (Q9p x7) fun (x8:(List UInt8))=>Qc (Nat.ble (([40,115,111,114,116,32]:List UInt8).length+x8.length) 1000000000) (Qc (Nat.ble ((([40,115,111,114,116,32]:List UInt8)++x8).length+([41]:List UInt8).length) 1000000000) (Qc (Nat.ble ((([40,115,111,114,116,32]:List UInt8)++x8)++([41]:List UInt8)).length 1000000000) (Option.bind (some ((List.map (fun b:UInt8=>(⟨b.toNat⟩:Byt)) ((([40,115,111,114,116,32]:List UInt8)++x8)++([41]:List UInt8))).length:Int)) fun (v9:Int)=>cond ((decide (65536 < v9))) (some (([]:List UInt8),5)) (Qc (cond (List.all (List.map (fun b:UInt8=>(⟨b.toNat⟩:Byt)) ((([40,115,111,114,116,32]:List UInt8)++x8)++([41]:List UInt8))) (fun x:Byt=>cond (decide (0≤x.n)) (decide (x.n < 256)) false)) (!(List.isEmpty (List.map (fun b:UInt8=>(⟨b.toNat⟩:Byt)) ((([40,115,111,114,116,32]:List UInt8)++x8)++([41]:List UInt8))))) false) (some ((List.map Byt.u8 (List.map (fun b:UInt8=>(⟨b.toNat⟩:Byt)) ((([40,115,111,114,116,32]:List UInt8)++x8)++([41]:List UInt8)))),0))))))) (cond ((a0.kind==3)) (Option.bind (cond (((a0.levels.length:Int)==0)) (some (!(a0.name==([112,114,111,112]:List UInt8)))) (some false)) fun (v10:Bool)=>cond v10 (Qc (Nat.ble a0.name.length 1000000000) (Option.bind (some ((List.map (fun b:UInt8=>(⟨b.toNat⟩:Byt)) a0.name).length:Int)) fun (v11:Int)=>cond ((decide (65536 < v11))) (some (([]:List UInt8),5)) (Qc (cond (List.all (List.map (fun b:UInt8=>(⟨b.toNat⟩:Byt)) a0.name) (fun x:Byt=>cond (decide (0≤x.n)) (decide (x.n < 256)) false)) (!(List.isEmpty (List.map (fun b:UInt8=>(⟨b.toNat⟩:Byt)) a0.name))) false) (some ((List.map Byt.u8 (List.map (fun b:UInt8=>(⟨b.toNat⟩:Byt)) a0.name)),0))))) (Qc (Nat.ble (([40,99,111,110,115,116,32]:List UInt8).length+a0.name.length) 1000000000) (Qc (Nat.ble (([40,99,111,110,115,116,32]:List UInt8)++a0.name).length 1000000000) (Option.bind (Qj (σ:=Int×(List Byt)) (β:=(List Byt)) (fun s18=>cond ((decide (s18.1 < (a0.levels.length:Int)))) (Option.bind (J3 a0.levels s18.1) fun (x20:Lvl)=>Option.bind (Q9p x20) fun (x21:(List UInt8))=>Qc (Nat.ble (([32]:List UInt8).length+x21.length) 1000000000) (Qc (Nat.ble (s18.2.length+(([32]:List UInt8)++x21).length) 1000000000) (some (.next ((QE (s18.1+1)),(s18.2++(List.map (fun b:UInt8=>(⟨b.toNat⟩:Byt)) (([32]:List UInt8)++x21)))))))) (some (.done s18.2))) Qk (0,(List.map (fun b:UInt8=>(⟨b.toNat⟩:Byt)) (([40,99,111,110,115,116,32]:List UInt8)++a0.name)))) fun (v19:(List Byt))=>Qc (Nat.ble (v19.length+([41]:List UInt8).length) 1000000000) (Option.bind (some ((v19++(List.map (fun b:UInt8=>(⟨b.toNat⟩:Byt)) ([41]:List UInt8))).length:Int)) fun (v22:Int)=>cond ((decide (65536 < v22))) (some (([]:List UInt8),5)) (Qc (cond (List.all (v19++(List.map (fun b:UInt8=>(⟨b.toNat⟩:Byt)) ([41]:List UInt8))) (fun x:Byt=>cond (decide (0≤x.n)) (decide (x.n < 256)) false)) (!(List.isEmpty (v19++(List.map (fun b:UInt8=>(⟨b.toNat⟩:Byt)) ([41]:List UInt8))))) false) (some ((List.map Byt.u8 (v19++(List.map (fun b:UInt8=>(⟨b.toNat⟩:Byt)) ([41]:List UInt8)))),0)))))))) (Option.bind (J3 ([([97,112,112]:List UInt8),([108,97,109]:List UInt8),([112,105]:List UInt8),([115,105,103,109,97]:List UInt8),([112,97,105,114]:List UInt8),([102,115,116]:List UInt8),([115,110,100]:List UInt8),([108,101,116]:List UInt8)]:List (List UInt8)) (QE (a0.kind - 4))) fun (x23:List UInt8)=>Qc (Nat.ble (([40]:List UInt8).length+x23.length) 1000000000) (Qc (Nat.ble (([40]:List UInt8)++x23).length 1000000000) (Option.bind (Qj (σ:=Int×(List Byt)) (β:=(List Byt)) (fun s33=>cond ((decide (s33.1 < (a0.kids.length:Int)))) (Option.bind (J3 a0.kids s33.1) fun (x35:Tm)=>Qc (Nat.ble (s33.2.length+([32]:List UInt8).length) 1000000000) (Option.bind (QA (Qc7 (s33.2++(List.map (fun b:UInt8=>(⟨b.toNat⟩:Byt)) ([32]:List UInt8))) x35)) fun (r36:(List Byt)×Unit)=>some (.next ((QE (s33.1+1)),r36.1)))) (some (.done s33.2))) Qk (0,(List.map (fun b:UInt8=>(⟨b.toNat⟩:Byt)) (([40]:List UInt8)++x23)))) fun (v34:(List Byt))=>Qc (Nat.ble (v34.length+([41]:List UInt8).length) 1000000000) (Option.bind (some ((v34++(List.map (fun b:UInt8=>(⟨b.toNat⟩:Byt)) ([41]:List UInt8))).length:Int)) fun (v38:Int)=>cond ((decide (65536 < v38))) (some (([]:List UInt8),5)) (Qc (cond (List.all (v34++(List.map (fun b:UInt8=>(⟨b.toNat⟩:Byt)) ([41]:List UInt8))) (fun x:Byt=>cond (decide (0≤x.n)) (decide (x.n < 256)) false)) (!(List.isEmpty (v34++(List.map (fun b:UInt8=>(⟨b.toNat⟩:Byt)) ([41]:List UInt8))))) false) (some ((List.map Byt.u8 (v34++(List.map (fun b:UInt8=>(⟨b.toNat⟩:Byt)) ([41]:List UInt8)))),0))))))))))))
noncomputable def k13:KF UV:=⟨[.stc .t25],[.str,.int .i64],fun v=>Q8g v⟩
noncomputable def H13:Hints UV:=⟨[],[]⟩
theorem Q03:Jo DV W0 Tryz.prog 13 k13:=Js (C:=Qdj) rfl Qp Qf (Qo (tb:=[(27,k27),(62,k62),(63,k63)]) Qf ⟨k27_ok,GM,Q2v,trivial⟩) (YE (C:=Qdj) rfl Qp Qf (Qo (tb:=[(27,k27),(62,k62),(63,k63)]) Qf ⟨k27_ok,GM,Q2v,trivial⟩) (Z3 Q8s (Z3 st_ok (Yt (tb:=[(28,k28)]) Qf ⟨k28_ok,trivial⟩))) (I:=[(28,B28_13),(29,B29_13),(61,B61_13),(64,B64_13)]) ⟨⟨Tryz.func28,en_28⟩,⟨Tryz.func29,en_29⟩,⟨Tryz.func61,D8⟩,⟨Tryz.func64,Q8p⟩,trivial⟩ 8) Tryz.func13 en_13 H13 k13 rfl (fun v=>by kernel_rfl)
theorem en_15:Qe Tryz.prog 15:=enters_of Tryz.func15 (by kernel_rfl) rfl
theorem en_33:Qe Tryz.prog 33:=enters_of Tryz.func33 (by kernel_rfl) rfl
theorem en_34:Qe Tryz.prog 34:=enters_of Tryz.func34 (by kernel_rfl) rfl
theorem en_35:Qe Tryz.prog 35:=enters_of Tryz.func35 (by kernel_rfl) rfl
theorem en_71:Qe Tryz.prog 71:=enters_of Tryz.func71 (by kernel_rfl) rfl
theorem en_121:Qe Tryz.prog 121:=enters_of Tryz.func121 (by kernel_rfl) rfl
noncomputable def B33_15:IH UV:=⟨Tryz.f33,⟨[],[(4,[5,6,7])]⟩,.st⟩
noncomputable def B34_15:IH UV:=⟨Tryz.f34,⟨[],[]⟩,.st⟩
noncomputable def B35_15:IH UV:=⟨Tryz.f35,⟨[],[(6,[6,7,10])]⟩,.st⟩
noncomputable def B71_15:IH UV:=⟨Tryz.f71,⟨[],[]⟩,.st⟩
noncomputable def B121_15:IH UV:=⟨Tryz.f121,⟨[(1,⟨[([.reg 3],.int .i64),([.fat 0 6 0],.app 132 .t132)],[],true⟩),(3,⟨[([.reg 3],.int .i64)],[([.reg 3],.int .i64)],false⟩),(4,⟨[([.reg 15],.bool)],[],false⟩),(10,⟨[([.reg 4],.int .i64)],[],false⟩)],[]⟩,.lab [([.fat 0 6 0],.app 132 .t132)]⟩
def Qbr (a0:List UInt8):Option (Tm×Int×Int) :=
 cond ((decide (65536 < (a0.length:Int)))) (some ((Tm.mk 0 0 ([]:List UInt8) ([]) ([])),0,5)) (Option.bind (Option.bind (Qj (σ:=Int×(List Tkn)) (β:=Unit⊕((List Tkn))) (fun s42=>Option.bind (Qj (σ:=Int) (β:=Int) (fun s54=>Option.bind (cond ((decide (s54 < (a0.length:Int)))) (Option.bind (J3 a0 s54) fun (x59:UInt8)=>Option.bind (m122 ([32,9,13,10]:List UInt8) (x59.toNat:Int)) fun (x60:Int)=>some (decide (0≤x60))) (some false)) fun (v58:Bool)=>cond v58 (some (.next (QE (s54+1)))) (some (.done s54))) Qk s42.1) fun (v55:Int)=>Option.bind (cond ((decide (v55 < (a0.length:Int)))) (Option.bind (m123 a0 v55) fun (x63:Int)=>some x63) (some v55)) fun (v62:Int)=>Qc (cond (decide (0≤v55)) (cond (Nat.ble v55.toNat v62.toNat) (Q7l v62 a0.length) false) false) (Qc (Nat.ble (s42.2.length+([(Tkn.mk (List.drop v55.toNat (List.take v62.toNat a0)) v55)]:List Tkn).length) 1000000000) (cond ((v62==v55)) (some (.done (.inr (s42.2++([(Tkn.mk (List.drop v55.toNat (List.take v62.toNat a0)) v55)]:List Tkn))))) (some (.next (v62,(s42.2++([(Tkn.mk (List.drop v55.toNat (List.take v62.toNat a0)) v55)]:List Tkn)))))))) Qk (0,([]:List Tkn))) (Sum.elim (fun (v43:Unit)=>some ([]:List Tkn)) (fun (o64:(List Tkn))=>some o64))) fun (v1:(List Tkn))=>Option.bind (m36 (Rdr.mk v1 0)) (Sum.elim (fun (r65:Rdr×Tm)=>Option.bind (m37 r65.1 a0) (Sum.elim (fun (r67:Rdr×Unit)=>Option.bind (Q8g r65.2) fun (x69:(List UInt8)×Int)=>cond ((x69.2 != 0)) (some ((Tm.mk 0 0 ([]:List UInt8) ([]) ([])),0,x69.2)) (some (r65.2,0,0))) (fun (e68:(Int×Int)×Rdr)=>some ((Tm.mk 0 0 ([]:List UInt8) ([]) ([])),e68.1.2,e68.1.1)))) (fun (e66:(Int×Int)×Rdr)=>some ((Tm.mk 0 0 ([]:List UInt8) ([]) ([])),e66.1.2,e66.1.1))))
noncomputable def k15:KF UV:=⟨[.str],[.stc .t25,.int .i64,.int .i64],fun v=>Qbr v⟩
noncomputable def H15:Hints UV:=⟨[],[]⟩
theorem k15_ok:Jo DV W0 Tryz.prog 15 k15:=Js (C:=Qdj) rfl Qp Qf (Qo (tb:=[(13,k13),(122,k122),(123,k123)]) Qf ⟨Q03,Q2y,k123_ok,trivial⟩) (YE (C:=Qdj) rfl Qp Qf (Qo (tb:=[(13,k13),(122,k122),(123,k123)]) Qf ⟨Q03,Q2y,k123_ok,trivial⟩) (YV (tb:=[(36,k36),(37,k37)]) Qf ⟨k36_ok,k37_ok,trivial⟩) (I:=[(33,B33_15),(34,B34_15),(35,B35_15),(71,B71_15),(121,B121_15)]) ⟨⟨Tryz.func33,en_33⟩,⟨Tryz.func34,en_34⟩,⟨Tryz.func35,en_35⟩,⟨Tryz.func71,en_71⟩,⟨Tryz.func121,en_121⟩,trivial⟩ 8) Tryz.func15 en_15 H15 k15 rfl (fun v=>by kernel_rfl)
end
section
open Go.RowKit
set_option maxRecDepth 100000
theorem en_119:Qe Tryz.prog 119:=enters_of Tryz.func119 (by kernel_rfl) rfl
def Q4a (rc:Int→Option ((List UInt8))) (a0:Int):Option ((List UInt8)) :=
 cond ((decide (a0 < 10))) (some (List.map Byt.u8 ([(Byt.mk (IntKind.wrap .u8 (48+(IntKind.wrap .u8 a0))))]:List Byt))) (Option.bind (rc (QE (Int.tdiv a0 10))) fun (x1:(List UInt8))=>Qc (!(10==0)) (Qc (Nat.ble (x1.length+(List.map Byt.u8 ([(Byt.mk (IntKind.wrap .u8 (48+(IntKind.wrap .u8 (Int.tmod a0 10)))))]:List Byt)).length) 1000000000) (some (x1++(List.map Byt.u8 ([(Byt.mk (IntKind.wrap .u8 (48+(IntKind.wrap .u8 (Int.tmod a0 10)))))]:List Byt))))))
def m119r:Int→Option ((List UInt8)):=QX (fun rc v=>Q4a rc v) Qk
def Q7c (a0:Int):Option ((List UInt8)):=m119r a0
noncomputable def k119:KF UV:=⟨[.int .i64],[.str],fun v=>Q7c v⟩
noncomputable def H119:Hints UV:=⟨[],[(4,[7])]⟩
theorem k119s_ok (rc:tup k119.args→Option (tup k119.res)) (H:∀ u r,rc u=some r→FunW W0 Tryz.prog 119 (QG DV k119.args u) (Qw (QG DV k119.res r))):Jo DV W0 Tryz.prog 119 ⟨k119.args,k119.res,fun v=>Q4a rc v⟩:=Js (C:=Qdj) rfl Qp Qf (Qo (tb:=[(119,(⟨k119.args,k119.res,rc⟩:KF UV))]) Qf ⟨⟨rfl,H⟩,trivial⟩) J2 Tryz.func119 en_119 H119 _ rfl (fun v=>by kernel_rfl)
theorem k119_ok:Jo DV W0 Tryz.prog 119 k119:=⟨rfl,fun v r h=>Jy (C:=fun u r=>FunW W0 Tryz.prog 119 (QG DV k119.args u) (Qw (QG DV k119.res r))) (fun rc H u r h=>(k119s_ok rc H).2 u r h) Qk v r h⟩
theorem en_120:Qe Tryz.prog 120:=enters_of Tryz.func120 (by kernel_rfl) rfl
def Q5m (a0:List UInt8) (a1:Int) (a2:Int):Option ((List UInt8)) :=
 Option.bind (Q7c a1) fun (x1:(List UInt8))=>Qc (Nat.ble (a0.length+x1.length) 1000000000) (Option.bind (cond ((decide (0 < a2))) (Option.bind (Q7c a2) fun (x4:(List UInt8))=>Qc (Nat.ble (([32,43,32]:List UInt8).length+x4.length) 1000000000) (Qc (Nat.ble ((a0++x1).length+(([32,43,32]:List UInt8)++x4).length) 1000000000) (some ((a0++x1)++(([32,43,32]:List UInt8)++x4))))) (some (a0++x1))) fun (v3:(List UInt8))=>some v3)
noncomputable def k120:KF UV:=⟨[.str,.int .i64,.int .i64],[.str],fun v=>Q5m v.1 v.2.1 v.2.2⟩
noncomputable def H120:Hints UV:=⟨[(3,⟨[([.reg 7],.str)],[],false⟩)],[]⟩
theorem k120_ok:Jo DV W0 Tryz.prog 120 k120:=Js (C:=Qdj) rfl Qp Qf (Qo (tb:=[(119,k119)]) Qf ⟨k119_ok,trivial⟩) J2 Tryz.func120 en_120 H120 k120 rfl (fun v=>by kernel_rfl)
theorem en_69:Qe Tryz.prog 69:=enters_of Tryz.func69 (by kernel_rfl) rfl
def Qao (a0:Lvl):Option ((List UInt8)×Int) :=
 Option.bind (Q4b a0) fun (x1:Bool)=>cond ((!x1)) (some (([]:List UInt8),3)) (Option.bind (cond ((decide (0 < a0.c))) (some true) (some ((a0.vs.length:Int)==0))) fun (v2:Bool)=>Option.bind (cond v2 (Option.bind (Q7c a0.c) fun (x5:(List UInt8))=>Qc (Nat.ble (([]:List ((List UInt8))).length+([x5]:List ((List UInt8))).length) 1000000000) (some (([]:List ((List UInt8)))++([x5]:List ((List UInt8)))))) (some ([]:List ((List UInt8))))) fun (v4:(List ((List UInt8))))=>Option.bind (Qj (σ:=(List ((List UInt8)))×Int) (β:=(List ((List UInt8)))) (fun s14=>cond ((decide (s14.2 < (a0.vs.length:Int)))) (Option.bind (J3 a0.vs s14.2) fun (x16:Qde)=>cond ((decide (0≤x16.1))) (Option.bind (J3 a0.vs s14.2) fun (x17:Qde)=>Option.bind (J3 a0.vs s14.2) fun (x18:Qde)=>Option.bind (Q5m ([117]:List UInt8) x17.1 x18.2) fun (x19:(List UInt8))=>Qc (Nat.ble (s14.1.length+([x19]:List ((List UInt8))).length) 1000000000) (some (.next ((s14.1++([x19]:List ((List UInt8)))),(QE (s14.2+1)))))) (some (.next (s14.1,(QE (s14.2+1)))))) (some (.done s14.1))) Qk (v4,0)) fun (v15:(List ((List UInt8))))=>Option.bind (Qj (σ:=(List ((List UInt8)))×Int) (β:=(List ((List UInt8)))) (fun s28=>cond ((decide (0≤s28.2))) (Option.bind (J3 a0.vs s28.2) fun (x30:Qde)=>cond ((decide (x30.1 < 0))) (Option.bind (J3 a0.vs s28.2) fun (x31:Qde)=>Option.bind (J3 a0.vs s28.2) fun (x32:Qde)=>Option.bind (Q5m ([63]:List UInt8) (QE ((-1) - x31.1)) x32.2) fun (x33:(List UInt8))=>Qc (Nat.ble (s28.1.length+([x33]:List ((List UInt8))).length) 1000000000) (some (.next ((s28.1++([x33]:List ((List UInt8)))),(QE (s28.2 - 1)))))) (some (.next (s28.1,(QE (s28.2 - 1)))))) (some (.done s28.1))) Qk (v15,(QE ((a0.vs.length:Int) - 1)))) fun (v29:(List ((List UInt8))))=>cond (((v29.length:Int)==1)) (Option.bind (J3 v29 0) fun (x34:(List UInt8))=>some (x34,0)) (Option.bind (Qj (σ:=(List UInt8)×Int) (β:=(List UInt8)) (fun s39=>cond ((decide (s39.2 < (v29.length:Int)))) (Option.bind (cond ((decide (0 < s39.2))) (Qc (Nat.ble (s39.1.length+([44,32]:List UInt8).length) 1000000000) (some (s39.1++([44,32]:List UInt8)))) (some s39.1)) fun (v41:(List UInt8))=>Option.bind (J3 v29 s39.2) fun (x42:(List UInt8))=>Qc (Nat.ble (v41.length+x42.length) 1000000000) (some (.next ((v41++x42),(QE (s39.2+1)))))) (some (.done s39.1))) Qk (([109,97,120,40]:List UInt8),0)) fun (v40:(List UInt8))=>Qc (Nat.ble (v40.length+([41]:List UInt8).length) 1000000000) (some ((v40++([41]:List UInt8)),0))))
noncomputable def k69:KF UV:=⟨[.stc .t82],[.str,.int .i64],fun v=>Qao v⟩
noncomputable def H69:Hints UV:=⟨[(5,⟨[([.reg 20],.bool)],[],false⟩),(6,⟨[([.reg 4],.app 9 .t9)],[],false⟩),(9,⟨[([.reg 4],.app 9 .t9),([.reg 5],.int .i64)],[([.reg 4],.app 9 .t9)],false⟩),(18,⟨[([.reg 4],.app 9 .t9),([.reg 6],.int .i64)],[([.reg 4],.app 9 .t9)],false⟩),(31,⟨[([.reg 7],.str),([.reg 8],.int .i64)],[([.reg 7],.str)],false⟩),(36,⟨[([.reg 7],.str)],[],false⟩)],[(15,[14,15]),(24,[15,16])]⟩
theorem k69_ok:Jo DV W0 Tryz.prog 69 k69:=Js (C:=Qdj) rfl Qp Qf (Qo (tb:=[(118,k118),(119,k119),(120,k120)]) Qf ⟨k118_ok,k119_ok,k120_ok,trivial⟩) J2 Tryz.func69 en_69 H69 k69 rfl (fun v=>by kernel_rfl)
theorem en_68:Qe Tryz.prog 68:=enters_of Tryz.func68 (by kernel_rfl) rfl
def Q77 (rc:Int→Option ((List UInt8))) (a0:Int):Option ((List UInt8)) :=
 cond ((decide (a0 < 10))) (Qc (cond (decide (0≤a0)) (cond (Nat.ble a0.toNat (QE (a0+1)).toNat) (Q7l (QE (a0+1)) ([48,49,50,51,52,53,54,55,56,57]:List UInt8).length) false) false) (some (List.drop a0.toNat (List.take (QE (a0+1)).toNat ([48,49,50,51,52,53,54,55,56,57]:List UInt8))))) (Option.bind (rc (QE (Int.tdiv a0 10))) fun (x1:(List UInt8))=>Qc (!(10==0)) (Option.bind (rc (Int.tmod a0 10)) fun (x2:(List UInt8))=>Qc (Nat.ble (x1.length+x2.length) 1000000000) (some (x1++x2))))
def m68r:Int→Option ((List UInt8)):=QX (fun rc v=>Q77 rc v) Qk
def Qax (a0:Int):Option ((List UInt8)):=m68r a0
noncomputable def k68:KF UV:=⟨[.int .i64],[.str],fun v=>Qax v⟩
noncomputable def H68:Hints UV:=⟨[],[]⟩
theorem k68s_ok (rc:tup k68.args→Option (tup k68.res)) (H:∀ u r,rc u=some r→FunW W0 Tryz.prog 68 (QG DV k68.args u) (Qw (QG DV k68.res r))):Jo DV W0 Tryz.prog 68 ⟨k68.args,k68.res,fun v=>Q77 rc v⟩:=Js (C:=Qdj) rfl Qp Qf (Qo (tb:=[(68,(⟨k68.args,k68.res,rc⟩:KF UV))]) Qf ⟨⟨rfl,H⟩,trivial⟩) J2 Tryz.func68 en_68 H68 _ rfl (fun v=>by kernel_rfl)
theorem k68_ok:Jo DV W0 Tryz.prog 68 k68:=⟨rfl,fun v r h=>Jy (C:=fun u r=>FunW W0 Tryz.prog 68 (QG DV k68.args u) (Qw (QG DV k68.res r))) (fun rc H u r h=>(k68s_ok rc H).2 u r h) Qk v r h⟩
theorem en_70:Qe Tryz.prog 70:=enters_of Tryz.func70 (by kernel_rfl) rfl
def Qbj (a0:Int):Option ((List UInt8)) :=
 Option.bind (cond ((decide (a0 < 4))) (some true) (some (decide (11 < a0)))) fun (v1:Bool)=>cond v1 (some ([]:List UInt8)) (Option.bind (J3 ([([97,112,112]:List UInt8),([108,97,109]:List UInt8),([112,105]:List UInt8),([115,105,103,109,97]:List UInt8),([112,97,105,114]:List UInt8),([102,115,116]:List UInt8),([115,110,100]:List UInt8),([108,101,116]:List UInt8)]:List ((List UInt8))) (QE (a0 - 4))) fun (x2:(List UInt8))=>some x2)
noncomputable def k70:KF UV:=⟨[.int .i64],[.str],fun v=>Qbj v⟩
noncomputable def H70:Hints UV:=⟨[(2,⟨[([.reg 10],.bool)],[],false⟩)],[]⟩
theorem k70_ok:Jo DV W0 Tryz.prog 70 k70:=Js (C:=Qdj) rfl Qp Qf (Qo (tb:=[]) Qf trivial) J2 Tryz.func70 en_70 H70 k70 rfl (fun v=>by kernel_rfl)
theorem en_32:Qe Tryz.prog 32:=enters_of Tryz.func32 (by kernel_rfl) rfl
def Q5f (rc:Tm→Option ((List UInt8))) (a0:Tm):Option ((List UInt8)) :=
 cond ((a0.kind==0)) (Option.bind (Qax a0.index) fun (x1:(List UInt8))=>Qc (Nat.ble (([35]:List UInt8).length+x1.length) 1000000000) (some (([35]:List UInt8)++x1))) (cond ((a0.kind==12)) (Option.bind (Qax a0.index) fun (x2:(List UInt8))=>Qc (Nat.ble (([63]:List UInt8).length+x2.length) 1000000000) (some (([63]:List UInt8)++x2))) (cond ((a0.kind==1)) (some ([112,114,111,112]:List UInt8)) (cond ((a0.kind==2)) (Option.bind (J3 a0.levels 0) fun (x3:Lvl)=>Option.bind (Qao x3) fun (x4:(List UInt8)×Int)=>Qc (Nat.ble (([40,115,111,114,116,32,91]:List UInt8).length+x4.1.length) 1000000000) (Qc (Nat.ble ((([40,115,111,114,116,32,91]:List UInt8)++x4.1).length+([93,41]:List UInt8).length) 1000000000) (some ((([40,115,111,114,116,32,91]:List UInt8)++x4.1)++([93,41]:List UInt8))))) (cond ((a0.kind==3)) (Option.bind (cond (((a0.levels.length:Int)==0)) (some (!(a0.name==([112,114,111,112]:List UInt8)))) (some false)) fun (v5:Bool)=>cond v5 (some a0.name) (Qc (Nat.ble (([40,99,111,110,115,116,32]:List UInt8).length+a0.name.length) 1000000000) (Option.bind (Qj (σ:=(List UInt8)×Int) (β:=(List UInt8)) (fun s10=>cond ((decide (s10.2 < (a0.levels.length:Int)))) (Option.bind (J3 a0.levels s10.2) fun (x12:Lvl)=>Option.bind (Qao x12) fun (x13:(List UInt8)×Int)=>Qc (Nat.ble (([32,91]:List UInt8).length+x13.1.length) 1000000000) (Qc (Nat.ble ((([32,91]:List UInt8)++x13.1).length+([93]:List UInt8).length) 1000000000) (Qc (Nat.ble (s10.1.length+((([32,91]:List UInt8)++x13.1)++([93]:List UInt8)).length) 1000000000) (some (.next ((s10.1++((([32,91]:List UInt8)++x13.1)++([93]:List UInt8))),(QE (s10.2+1)))))))) (some (.done s10.1))) Qk ((([40,99,111,110,115,116,32]:List UInt8)++a0.name),0)) fun (v11:(List UInt8))=>Qc (Nat.ble (v11.length+([41]:List UInt8).length) 1000000000) (some (v11++([41]:List UInt8)))))) (Option.bind (Qbj a0.kind) fun (x14:(List UInt8))=>Qc (Nat.ble (([40]:List UInt8).length+x14.length) 1000000000) (Option.bind (Qj (σ:=(List UInt8)×Int) (β:=(List UInt8)) (fun s19=>cond ((decide (s19.2 < (a0.kids.length:Int)))) (Option.bind (J3 a0.kids s19.2) fun (x21:Tm)=>Option.bind (rc x21) fun (x22:(List UInt8))=>Qc (Nat.ble (([32]:List UInt8).length+x22.length) 1000000000) (Qc (Nat.ble (s19.1.length+(([32]:List UInt8)++x22).length) 1000000000) (some (.next ((s19.1++(([32]:List UInt8)++x22)),(QE (s19.2+1))))))) (some (.done s19.1))) Qk ((([40]:List UInt8)++x14),0)) fun (v20:(List UInt8))=>Qc (Nat.ble (v20.length+([41]:List UInt8).length) 1000000000) (some (v20++([41]:List UInt8)))))))))
def m32r:Tm→Option ((List UInt8)):=QX (fun rc v=>Q5f rc v) Qk
def Qc6 (a0:Tm):Option ((List UInt8)):=m32r a0
noncomputable def k32:KF UV:=⟨[.stc .t25],[.str],fun v=>Qc6 v⟩
noncomputable def H32:Hints UV:=⟨[(18,⟨[([.reg 50],.bool)],[],false⟩),(23,⟨[([.reg 5],.str),([.reg 6],.int .i64)],[([.reg 5],.str)],false⟩),(33,⟨[([.reg 9],.str),([.reg 10],.int .i64)],[([.reg 9],.str)],false⟩)],[]⟩
theorem k32s_ok (rc:tup k32.args→Option (tup k32.res)) (H:∀ u r,rc u=some r→FunW W0 Tryz.prog 32 (QG DV k32.args u) (Qw (QG DV k32.res r))):Jo DV W0 Tryz.prog 32 ⟨k32.args,k32.res,fun v=>Q5f rc v⟩:=Js (C:=Qdj) rfl Qp Qf (Qo (tb:=[(32,(⟨k32.args,k32.res,rc⟩:KF UV)),(68,k68),(69,k69),(70,k70)]) Qf ⟨⟨rfl,H⟩,k68_ok,k69_ok,k70_ok,trivial⟩) J2 Tryz.func32 en_32 H32 _ rfl (fun v=>by kernel_rfl)
theorem k32_ok:Jo DV W0 Tryz.prog 32 k32:=⟨rfl,fun v r h=>Jy (C:=fun u r=>FunW W0 Tryz.prog 32 (QG DV k32.args u) (Qw (QG DV k32.res r))) (fun rc H u r h=>(k32s_ok rc H).2 u r h) Qk v r h⟩
theorem en_14:Qe Tryz.prog 14:=enters_of Tryz.func14 (by kernel_rfl) rfl
def Qa3 (a0:Tm):Option ((List UInt8)×Int) :=
 Option.bind (Q9d a0 1000000 1000000 1000000 1000000) fun (x1:Int)=>cond ((x1 != 0)) (some (([]:List UInt8),x1)) (Option.bind (Qc6 a0) fun (x2:(List UInt8))=>cond ((decide (65536 < (x2.length:Int)))) (some (([]:List UInt8),5)) (some (x2,0)))
noncomputable def k14:KF UV:=⟨[.stc .t25],[.str,.int .i64],fun v=>Qa3 v⟩
noncomputable def H14:Hints UV:=⟨[],[]⟩
theorem k14_ok:Jo DV W0 Tryz.prog 14 k14:=Js (C:=Qdj) rfl Qp Qf (Qo (tb:=[(31,k31),(32,k32)]) Qf ⟨k31_ok,k32_ok,trivial⟩) J2 Tryz.func14 en_14 H14 k14 rfl (fun v=>by kernel_rfl)
end
section
open Go.RowKit Go.Shelf
theorem Kg {σ β:Type} {step:σ→Option (LO σ β)} (I:σ→Prop) (μ:σ→Nat) (spec:σ→β)
  (h:∀ s,I s→(step s=some (.done (spec s)))∨(∃ s',step s=some (.next s')∧I s'∧μ s' < μ s∧spec s'=spec s)):∀ (n:Nat) (s:σ),I s→μ s < n→Qj step n s=some (spec s)
 | 0,_,_,h0=>absurd h0 (Nat.not_lt_zero _)
 | n+1,s,hs,hn=>by
  rcases h s hs with h1 | ⟨s',h1,h2,h3,h4⟩
  ·simp only [Qj,h1]
  ·simp only [Qj,h1]
   rw [Kg I μ spec h n s' h2 (by omega),h4]
theorem XZ {α:Type} {l:List α} {i:Int} {x:α} (h0:0≤i) (hx:l[i.toNat]?=some x):J3 l i=some x:=by
 obtain ⟨k,rfl⟩:=Int.eq_ofNat_of_zero_le h0
 simpa [J3] using hx
theorem DA {k n:Nat} (h:k < n) (hn:n≤1000000000):QE ((k:Int)+1)=((k+1:Nat):Int):=by rw [YK (by omega) (by omega)];rfl
theorem w64_neg {n:Int} (h:-65536≤n∧n≤7):QE (-1 - n) = -1 - n:=YK (by omega) (by omega)
def okV (v:Qde):Prop:=-65536≤v.1∧v.1≤7∧0≤v.2∧v.2≤100
theorem Z9 {l:Lvl} (h:DX l) {x:Qde} (hx:x∈l.vs):okV x:=by
 obtain ⟨a,b,e⟩:=List.append_of_mem hx
 have:=h.2.2.2 a x b e
 unfold DY at this
 simp only [not_or,Int.not_lt] at this
 exact ⟨this.1,this.2.1,this.2.2.1,this.2.2.2.1⟩
theorem asc_at {l:Lvl} (h:DX l) (hn:l.vs.length≤900000000):∀ (k:Nat) (x:Qde),l.vs[k]?=some x→-65536+(k:Int)≤x.1
 | 0,x,hx=>by have:=(Z9 h (List.mem_of_getElem? hx)).1;omega
 | k+1,x,hx=>by
  obtain ⟨hk,e⟩:=List.getElem?_eq_some_iff.1 hx
  obtain ⟨y,hy⟩:∃ y,l.vs[k]?=some y:=⟨_,List.getElem?_eq_getElem (by omega)⟩
  have ih:=asc_at h hn k y hy
  have e1:l.vs=l.vs.take (k+1)++x::l.vs.drop (k+2):=by
   conv=>lhs;rw [← List.take_append_drop (k+1) l.vs,List.drop_eq_getElem_cons hk,e]
  have h1:=h.2.2.2 _ _ _ e1
  unfold DY at h1
  simp only [not_or] at h1
  have hl:(l.vs.take (k+1)).length=k+1:=by rw [List.length_take];omega
  rw [hl] at h1
  have h2:=h1.2.2.2.2
  by_cases hc:x.1≤y.1
  ·refine (h2 ⟨by omega,y,?_,hc⟩).elim
   rw [YK (by omega) (by omega),show ((k+1:Nat):Int) - 1=(k:Int) by omega]
   exact hy
  ·omega
theorem asc_len {l:Lvl} (h:DX l) (hn:l.vs.length≤900000000):l.vs.length≤65544:=by
 rcases Nat.eq_zero_or_pos l.vs.length with h0 | h0
 ·omega
 ·obtain ⟨x,hx⟩:∃ x,l.vs[l.vs.length - 1]?=some x:=⟨_,List.getElem?_eq_getElem (by omega)⟩
  have h1:=asc_at h hn _ x hx
  have h2:=(Z9 h (List.mem_of_getElem? hx)).2.1
  omega
abbrev Kb (n:Nat):Qdk:=Lib.decDigits n
theorem Q0d {n:Nat} (h:n < 10):Kb n=[UInt8.ofNat (48+n)]:=by unfold Kb Lib.decDigits;rw [dif_pos h]
theorem Q63 {n:Nat} (h:¬ n < 10):Kb n=Kb (n / 10)++[UInt8.ofNat (48+n % 10)]:=by
 show Lib.decDigits n=_
 rw [Lib.decDigits,dif_neg h]
theorem W5:∀ (k n:Nat),n < 10 ^ (k+1)→(Kb n).length≤k+1
 | 0,n,h=>by rw [Q0d (by omega)];exact Nat.le_refl _
 | k+1,n,h=>by
  by_cases h1:n < 10
  ·rw [Q0d h1];exact Nat.succ_le_succ (Nat.zero_le _)
  ·rw [Q63 h1,List.length_append]
   have:=W5 k (n / 10) (by rw [Nat.pow_succ] at h;omega)
   simp;omega
def Q3x (p:Int):Qdk:=if 0 < p then [32,43,32]++Kb p.toNat else []
def Q1o (c:UInt8) (n:Nat) (p:Int):Qdk:=c::(Kb n++Q3x p)
def Q10 (x:Qde):Qdk:=if 0≤x.1 then Q1o 117 x.1.toNat x.2 else Q1o 63 (-1 - x.1).toNat x.2
def WX:List Qdk→Qdk
 | []=>[]
 | [x]=>x
 | x::y::r=>x++([44,32]++WX (y::r))
theorem Qy {α:Type} {b:Bool} {x:Option α} (h:b=true):Qc b x=x:=by unfold Qc;rw [h];rfl
theorem byt_dig {k:Int} {n:Nat} (h0:IntKind.wrap .u8 k=(n:Int)) (hn:n < 10):([(⟨(IntKind.wrap .u8 (48+(IntKind.wrap .u8 k)))⟩:Byt)]).map Byt.u8=[UInt8.ofNat (48+n)]:=by
 rw [h0]
 have:IntKind.wrap .u8 (48+(n:Int))=((48+n:Nat):Int):=by
  have:n=0∨n=1∨n=2∨n=3∨n=4∨n=5∨n=6∨n=7∨n=8∨n=9:=by omega
  rcases this with rfl | rfl | rfl | rfl | rfl | rfl | rfl | rfl | rfl | rfl <;> rfl
 rw [this]
 rfl
theorem wrap_dig {n:Nat} (hn:n < 10):IntKind.wrap .u8 (n:Int)=(n:Int):=by
 have:n=0∨n=1∨n=2∨n=3∨n=4∨n=5∨n=6∨n=7∨n=8∨n=9:=by omega
 rcases this with rfl | rfl | rfl | rfl | rfl | rfl | rfl | rfl | rfl | rfl <;> rfl
def Q8h (rc:Int→Option (List UInt8)) (u:Int):Option (List UInt8):=Q4a rc u
theorem m119_rec:∀ (f n:Nat),n < 10 ^ f→n < 1000000→QX Q8h f (n:Int)=some (Kb n)∨(f=0)
 | 0,n,h,hn=>.inr rfl
 | f+1,n,h,hn=>by
  refine .inl ?_
  show Q4a (QX Q8h f) (n:Int)=_
  unfold Q4a
  by_cases h1:n < 10
  ·rw [decide_eq_true (by omega:(n:Int) < 10),cond_true,byt_dig (wrap_dig h1) h1,Q0d h1]
  ·rw [decide_eq_false (by omega:¬ (n:Int) < 10),cond_false]
   have ed:Int.tdiv (n:Int) 10=((n / 10:Nat):Int):=rfl
   have em:Int.tmod (n:Int) 10=((n % 10:Nat):Int):=rfl
   rw [ed,em,YK (by omega) (by omega)]
   have hr:QX Q8h f ((n / 10:Nat):Int)=some (Kb (n / 10)):=by
    rcases m119_rec f (n / 10) (by rw [Nat.pow_succ] at h;omega) (by omega) with h2 | h2
    ·exact h2
    ·subst h2;omega
   rw [hr,Option.bind_some,byt_dig (wrap_dig (by omega:n % 10 < 10)) (by omega)]
   rw [Qy (Nat.ble_eq_true_of_le (by
    have:=W5 5 (n / 10) (by omega)
    simp only [List.length_cons,List.length_nil];omega)),← Q63 h1]
   exact Qy Z
theorem Q2g {a:Int} (h0:0≤a) (h1:a < 1000000):Q7c a=some (Kb a.toNat):=by
 obtain ⟨n,rfl⟩:=Int.eq_ofNat_of_zero_le h0
 have hn:n < 1000000:=by omega
 rw [Int.toNat_natCast]
 unfold Q7c
 rcases m119_rec Qk n (Nat.lt_of_lt_of_le (by omega:n < 10 ^ 6) (Nat.pow_le_pow_right (by omega) (by unfold Qk;omega))) hn with h2 | h2
 ·exact h2
 ·unfold Qk at h2;omega
theorem itoa_nn {a:Int} (h0:0≤a):Lib.itoa a=Kb a.toNat:=by unfold Lib.itoa;rw [if_neg (by omega)]
theorem Yd {a:Int} (h1:a < 1000000):(Kb a.toNat).length≤6:=W5 5 _ (by omega)
theorem Q2a {a:Int} (h0:0≤a) (h1:a < 1000000):Q7i a=some (Kb a.toNat):=by
 unfold Q7i
 rw [Qy (by rw [decide_eq_true (by omega),decide_eq_true (by omega)];rfl),itoa_nn h0]
theorem m139_eq {c:UInt8} {a p:Int} (h0:0≤a) (h1:a < 1000000) (p0:0≤p) (p1:p≤100):Q5l [c] a p=some (Q1o c a.toNat p):=by
 have la:=Yd h1
 have lp:=Yd (a:=p) (by omega)
 unfold Q5l Q1o Q3x
 rw [Q2a h0 h1,Option.bind_some]
 rw [Qy (Nat.ble_eq_true_of_le (by simp only [List.length_cons,List.length_nil];omega))]
 by_cases hp:0 < p
 ·rw [decide_eq_true hp,cond_true,if_pos hp,Q2a p0 (by omega),Option.bind_some]
  rw [Qy (Nat.ble_eq_true_of_le (by simp only [List.length_cons,List.length_nil];omega)),Qy (Nat.ble_eq_true_of_le (by simp only [List.length_append,List.length_cons,List.length_nil];omega))]
  simp
 ·rw [decide_eq_false hp,cond_false,if_neg hp]
  simp
theorem m120_eq {c:UInt8} {a p:Int} (h0:0≤a) (h1:a < 1000000) (p0:0≤p) (p1:p≤100):Q5m [c] a p=some (Q1o c a.toNat p):=by
 have la:=Yd h1
 have lp:=Yd (a:=p) (by omega)
 unfold Q5m Q1o Q3x
 rw [Q2g h0 h1,Option.bind_some]
 rw [Qy (Nat.ble_eq_true_of_le (by simp only [List.length_cons,List.length_nil];omega))]
 by_cases hp:0 < p
 ·rw [decide_eq_true hp,cond_true,if_pos hp,Q2g p0 (by omega),Option.bind_some]
  rw [Qy (Nat.ble_eq_true_of_le (by simp only [List.length_cons,List.length_nil];omega)),Qy (Nat.ble_eq_true_of_le (by simp only [List.length_append,List.length_cons,List.length_nil];omega))]
  simp
 ·rw [decide_eq_false hp,cond_false,if_neg hp]
  simp
theorem varX_pos {x:Qde} (h:0≤x.1):Q10 x=Q1o 117 x.1.toNat x.2:=by unfold Q10;rw [if_pos h]
theorem varX_neg {x:Qde} (h:x.1 < 0):Q10 x=Q1o 63 (-1 - x.1).toNat x.2:=by unfold Q10;rw [if_neg (by omega)]
abbrev Db (vs:List Qde):List Qdk:=(vs.filter fun x=>decide (0≤x.1)).map Q10
abbrev Df (vs:List Qde):List Qdk:=(vs.filter fun x=>decide (x.1 < 0)).map Q10
theorem posV_cons (x:Qde) (vs:List Qde):Db (x::vs)=(if 0≤x.1 then [Q10 x] else [])++Db vs:=by
 unfold Db
 rw [List.filter_cons]
 by_cases h:0≤x.1
 ·rw [if_pos (decide_eq_true h),if_pos h];rfl
 ·rw [if_neg (by simpa using h),if_neg h];rfl
theorem negV_cons (x:Qde) (vs:List Qde):Df (x::vs)=(if x.1 < 0 then [Q10 x] else [])++Df vs:=by
 unfold Df
 rw [List.filter_cons]
 by_cases h:x.1 < 0
 ·rw [if_pos (decide_eq_true h),if_pos h];rfl
 ·rw [if_neg (by simpa using h),if_neg h];rfl
theorem Q35 {α:Type} {l:List α} {k:Nat} {x:α} (h:l[k]?=some x):l.drop k=x::l.drop (k+1):=by
 obtain ⟨hk,e⟩:=List.getElem?_eq_some_iff.1 h
 rw [List.drop_eq_getElem_cons hk,e]
theorem take_at {α:Type} {l:List α} {k:Nat} {x:α} (h:l[k]?=some x):(l.take (k+1)).reverse=x::(l.take k).reverse:=by
 obtain ⟨hk,e⟩:=List.getElem?_eq_some_iff.1 h
 rw [List.take_add_one,h,List.reverse_append]
 rfl
def Qb4 (a0:Lvl):(Int×(List ((List UInt8))))→Option (LO (Int×(List ((List UInt8)))) ((List ((List UInt8))))):=(fun s12=>cond ((decide (s12.1 < (a0.vs.length:Int)))) (Option.bind (J3 a0.vs s12.1) fun (x14:Qde)=>cond ((decide (0≤x14.1))) (Option.bind (Q5l ([117]:List UInt8) x14.1 x14.2) fun (x15:(List UInt8))=>Qc (Nat.ble (s12.2.length+([x15]:List ((List UInt8))).length) 1000000000) (some (.next ((QE (s12.1+1)),(s12.2++([x15]:List ((List UInt8)))))))) (some (.next ((QE (s12.1+1)),s12.2)))) (some (.done s12.2)))
def Qb3 (a0:Lvl):(Int×(List ((List UInt8))))→Option (LO (Int×(List ((List UInt8)))) ((List ((List UInt8))))):=(fun s31=>cond ((decide (0≤s31.1))) (Option.bind (Option.bind (J3 a0.vs s31.1) fun (x36:Qde)=>cond ((decide (x36.1 < 0))) (Option.bind (Q5l ([63]:List UInt8) (QE ((-1) - x36.1)) x36.2) fun (x37:(List UInt8))=>Qc (Nat.ble (s31.2.length+([x37]:List ((List UInt8))).length) 1000000000) (some (s31.2++([x37]:List ((List UInt8)))))) (some s31.2)) fun (v35:(List ((List UInt8))))=>some (.next ((QE (s31.1 - 1)),v35))) (some (.done s31.2)))
def Qb8 (a0:Lvl):((List ((List UInt8)))×Int)→Option (LO ((List ((List UInt8)))×Int) ((List ((List UInt8))))):=(fun s14=>cond ((decide (s14.2 < (a0.vs.length:Int)))) (Option.bind (J3 a0.vs s14.2) fun (x16:Qde)=>cond ((decide (0≤x16.1))) (Option.bind (J3 a0.vs s14.2) fun (x17:Qde)=>Option.bind (J3 a0.vs s14.2) fun (x18:Qde)=>Option.bind (Q5m ([117]:List UInt8) x17.1 x18.2) fun (x19:(List UInt8))=>Qc (Nat.ble (s14.1.length+([x19]:List ((List UInt8))).length) 1000000000) (some (.next ((s14.1++([x19]:List ((List UInt8)))),(QE (s14.2+1)))))) (some (.next (s14.1,(QE (s14.2+1)))))) (some (.done s14.1)))
def Qb7 (a0:Lvl):((List ((List UInt8)))×Int)→Option (LO ((List ((List UInt8)))×Int) ((List ((List UInt8))))):=(fun s28=>cond ((decide (0≤s28.2))) (Option.bind (J3 a0.vs s28.2) fun (x30:Qde)=>cond ((decide (x30.1 < 0))) (Option.bind (J3 a0.vs s28.2) fun (x31:Qde)=>Option.bind (J3 a0.vs s28.2) fun (x32:Qde)=>Option.bind (Q5m ([63]:List UInt8) (QE ((-1) - x31.1)) x32.2) fun (x33:(List UInt8))=>Qc (Nat.ble (s28.1.length+([x33]:List ((List UInt8))).length) 1000000000) (some (.next ((s28.1++([x33]:List ((List UInt8)))),(QE (s28.2 - 1)))))) (some (.next (s28.1,(QE (s28.2 - 1)))))) (some (.done s28.1)))
def Qb6 (o:List Qdk):((List UInt8)×Int)→Option (LO ((List UInt8)×Int) ((List UInt8))):=(fun s39=>cond ((decide (s39.2 < (o.length:Int)))) (Option.bind (cond ((decide (0 < s39.2))) (Qc (Nat.ble (s39.1.length+([44,32]:List UInt8).length) 1000000000) (some (s39.1++([44,32]:List UInt8)))) (some s39.1)) fun (v41:(List UInt8))=>Option.bind (J3 o s39.2) fun (x42:(List UInt8))=>Qc (Nat.ble (v41.length+x42.length) 1000000000) (some (.next ((v41++x42),(QE (s39.2+1)))))) (some (.done s39.1)))
section
variable {l:Lvl} (hv:DX l) (hl:l.vs.length≤65544)
include hv hl
theorem text_l0 (k:Nat) (acc:List Qdk) (hk:k≤l.vs.length) (ha:acc.length≤20+k):Qj (Qb4 l) Qk ((k:Int),acc)=some (acc++Db (l.vs.drop k)):=by
 refine (Kg (step:=Qb4 l) (fun s=>∃ j:Nat,s.1=(j:Int)∧j≤l.vs.length∧s.2.length≤20+j) (fun s=>l.vs.length - s.1.toNat) (fun s=>s.2++Db (l.vs.drop s.1.toNat)) ?_ Qk ((k:Int),acc) ⟨k,rfl,hk,ha⟩ ?_).trans (by rw [Int.toNat_natCast])
 ·rintro ⟨i,ac⟩ ⟨j,rfl,hj,hb⟩
  dsimp only at hb ⊢
  rw [Int.toNat_natCast]
  by_cases hlt:j < l.vs.length
  ·refine .inr ?_
   obtain ⟨x,hx⟩:∃ x,l.vs[j]?=some x:=⟨_,List.getElem?_eq_getElem hlt⟩
   have ok:=Z9 hv (List.mem_of_getElem? hx)
   obtain ⟨o1,o2,o3,o4⟩:=ok
   unfold Qb4
   rw [decide_eq_true (by omega:(j:Int) < l.vs.length),cond_true,XZ (Int.natCast_nonneg _) (by simpa using hx),Option.bind_some,DA hlt (by omega),Q35 hx,posV_cons]
   by_cases h0:0≤x.1
   ·rw [decide_eq_true h0,cond_true,m139_eq h0 (by omega) o3 o4,Option.bind_some,Qy (Nat.ble_eq_true_of_le (by simp only [List.length_cons,List.length_nil];omega)),if_pos h0,varX_pos h0]
    exact ⟨_,rfl,⟨j+1,rfl,hlt,by simp only [List.length_append,List.length_cons,List.length_nil];omega⟩,by simp only [Int.toNat_natCast];omega,by simp only [Int.toNat_natCast];simp⟩
   ·rw [decide_eq_false h0,cond_false,if_neg h0]
    exact ⟨_,rfl,⟨j+1,rfl,hlt,by dsimp only;omega⟩,by simp only [Int.toNat_natCast];omega,by simp only [Int.toNat_natCast];simp⟩
  ·refine .inl ?_
   unfold Qb4
   rw [decide_eq_false (by omega),cond_false,List.drop_eq_nil_of_le (by omega)]
   simp
 ·simp only [Int.toNat_natCast];unfold Qk;omega
theorem ref_l0 (k:Nat) (acc:List Qdk) (hk:k≤l.vs.length) (ha:acc.length≤20+k):Qj (Qb8 l) Qk (acc,(k:Int))=some (acc++Db (l.vs.drop k)):=by
 refine (Kg (step:=Qb8 l) (fun s=>∃ j:Nat,s.2=(j:Int)∧j≤l.vs.length∧s.1.length≤20+j) (fun s=>l.vs.length - s.2.toNat) (fun s=>s.1++Db (l.vs.drop s.2.toNat)) ?_ Qk (acc,(k:Int)) ⟨k,rfl,hk,ha⟩ ?_).trans (by rw [Int.toNat_natCast])
 ·rintro ⟨ac,i⟩ ⟨j,rfl,hj,hb⟩
  dsimp only at hb ⊢
  rw [Int.toNat_natCast]
  by_cases hlt:j < l.vs.length
  ·refine .inr ?_
   obtain ⟨x,hx⟩:∃ x,l.vs[j]?=some x:=⟨_,List.getElem?_eq_getElem hlt⟩
   have ok:=Z9 hv (List.mem_of_getElem? hx)
   obtain ⟨o1,o2,o3,o4⟩:=ok
   unfold Qb8
   rw [decide_eq_true (by omega:(j:Int) < l.vs.length),cond_true]
   dsimp only
   rw [XZ (Int.natCast_nonneg _) (by simpa using hx),Option.bind_some,DA hlt (by omega),Q35 hx,posV_cons]
   by_cases h0:0≤x.1
   ·rw [decide_eq_true h0,cond_true,Option.bind_some,Option.bind_some,m120_eq h0 (by omega) o3 o4,Option.bind_some,Qy (Nat.ble_eq_true_of_le (by simp only [List.length_cons,List.length_nil];omega)),if_pos h0,varX_pos h0]
    exact ⟨_,rfl,⟨j+1,rfl,hlt,by simp only [List.length_append,List.length_cons,List.length_nil];omega⟩,by simp only [Int.toNat_natCast];omega,by simp only [Int.toNat_natCast];simp⟩
   ·rw [decide_eq_false h0,cond_false,if_neg h0]
    exact ⟨_,rfl,⟨j+1,rfl,hlt,by dsimp only;omega⟩,by simp only [Int.toNat_natCast];omega,by simp only [Int.toNat_natCast];simp⟩
  ·refine .inl ?_
   unfold Qb8
   rw [decide_eq_false (by omega),cond_false,List.drop_eq_nil_of_le (by omega)]
   simp
 ·simp only [Int.toNat_natCast];unfold Qk;omega
theorem text_l1 (acc:List Qdk) (ha:acc.length≤100000):Qj (Qb3 l) Qk ((l.vs.length:Int) - 1,acc)=some (acc++Df l.vs.reverse):=by
 refine (Kg (step:=Qb3 l) (fun s=>∃ j:Nat,s.1=(j:Int) - 1∧j≤l.vs.length∧s.2.length+j≤200000) (fun s=>(s.1+1).toNat) (fun s=>s.2++Df (l.vs.take (s.1+1).toNat).reverse) ?_ Qk ((l.vs.length:Int) - 1,acc) ⟨l.vs.length,rfl,Nat.le_refl _,by dsimp only;omega⟩ ?_).trans (by
  rw [show ((l.vs.length:Int) - 1+1).toNat=l.vs.length by omega,List.take_length])
 ·rintro ⟨i,ac⟩ ⟨j,rfl,hj,hb⟩
  dsimp only at hb ⊢
  rw [show ((j:Int) - 1+1).toNat=j by omega]
  cases j with
  | zero =>
   refine .inl ?_
   unfold Qb3
   rw [decide_eq_false (by dsimp only;omega),cond_false]
   simp
  | succ k =>
   refine .inr ?_
   rw [show ((k+1:Nat):Int) - 1=(k:Int) by omega]
   obtain ⟨x,hx⟩:∃ x,l.vs[k]?=some x:=⟨_,List.getElem?_eq_getElem (by omega)⟩
   have ok:=Z9 hv (List.mem_of_getElem? hx)
   obtain ⟨o1,o2,o3,o4⟩:=ok
   unfold Qb3
   dsimp only
   rw [decide_eq_true (by omega:(0:Int)≤(k:Int)),cond_true,XZ (Int.natCast_nonneg _) (by simpa using hx),Option.bind_some,YK (n:=(k:Int) - 1) (by omega) (by omega),take_at hx,negV_cons]
   by_cases h0:x.1 < 0
   ·rw [decide_eq_true h0,cond_true,w64_neg ⟨o1,o2⟩,m139_eq (by omega) (by omega) o3 o4,Option.bind_some,Qy (Nat.ble_eq_true_of_le (by simp only [List.length_cons,List.length_nil];omega)),Option.bind_some,if_pos h0,varX_neg h0]
    exact ⟨_,rfl,⟨k,rfl,by omega,by simp only [List.length_append,List.length_cons,List.length_nil];omega⟩,by dsimp only;omega,by
     dsimp only;rw [show ((k:Int) - 1+1).toNat=k by omega];simp⟩
   ·rw [decide_eq_false h0,cond_false,Option.bind_some,if_neg h0]
    exact ⟨_,rfl,⟨k,rfl,by omega,by dsimp only;omega⟩,by dsimp only;omega,by
     dsimp only;rw [show ((k:Int) - 1+1).toNat=k by omega];simp⟩
 ·dsimp only;unfold Qk;omega
theorem ref_l1 (acc:List Qdk) (ha:acc.length≤100000):Qj (Qb7 l) Qk (acc,(l.vs.length:Int) - 1)=some (acc++Df l.vs.reverse):=by
 refine (Kg (step:=Qb7 l) (fun s=>∃ j:Nat,s.2=(j:Int) - 1∧j≤l.vs.length∧s.1.length+j≤200000) (fun s=>(s.2+1).toNat) (fun s=>s.1++Df (l.vs.take (s.2+1).toNat).reverse) ?_ Qk (acc,(l.vs.length:Int) - 1) ⟨l.vs.length,rfl,Nat.le_refl _,by dsimp only;omega⟩ ?_).trans (by
  rw [show ((l.vs.length:Int) - 1+1).toNat=l.vs.length by omega,List.take_length])
 ·rintro ⟨ac,i⟩ ⟨j,rfl,hj,hb⟩
  dsimp only at hb ⊢
  rw [show ((j:Int) - 1+1).toNat=j by omega]
  cases j with
  | zero =>
   refine .inl ?_
   unfold Qb7
   rw [decide_eq_false (by dsimp only;omega),cond_false]
   simp
  | succ k =>
   refine .inr ?_
   rw [show ((k+1:Nat):Int) - 1=(k:Int) by omega]
   obtain ⟨x,hx⟩:∃ x,l.vs[k]?=some x:=⟨_,List.getElem?_eq_getElem (by omega)⟩
   have ok:=Z9 hv (List.mem_of_getElem? hx)
   obtain ⟨o1,o2,o3,o4⟩:=ok
   unfold Qb7
   dsimp only
   rw [decide_eq_true (by omega:(0:Int)≤(k:Int)),cond_true,XZ (Int.natCast_nonneg _) (by simpa using hx),Option.bind_some,YK (n:=(k:Int) - 1) (by omega) (by omega),take_at hx,negV_cons]
   by_cases h0:x.1 < 0
   ·rw [decide_eq_true h0,cond_true,Option.bind_some,Option.bind_some,w64_neg ⟨o1,o2⟩,m120_eq (by omega) (by omega) o3 o4,Option.bind_some,Qy (Nat.ble_eq_true_of_le (by simp only [List.length_cons,List.length_nil];omega)),if_pos h0,varX_neg h0]
    exact ⟨_,rfl,⟨k,rfl,by omega,by simp only [List.length_append,List.length_cons,List.length_nil];omega⟩,by dsimp only;omega,by
     dsimp only;rw [show ((k:Int) - 1+1).toNat=k by omega];simp⟩
   ·rw [decide_eq_false h0,cond_false,if_neg h0]
    exact ⟨_,rfl,⟨k,rfl,by omega,by dsimp only;omega⟩,by dsimp only;omega,by
     dsimp only;rw [show ((k:Int) - 1+1).toNat=k by omega];simp⟩
 ·dsimp only;unfold Qk;omega
end
def D6 (r:List Qdk):Qdk:=(r.map ([44,32]++·)).flatten
theorem XS (x:Qdk):∀ r:List Qdk,WX (x::r)=x++D6 r
 | []=>by simp [WX,D6]
 | y::r=>by
  have:=XS y r
  simp only [WX] at this ⊢
  rw [this]
  simp [D6]
theorem sepT_join (r:List Qdk):Lib.join r [44,32]=WX r:=by
 cases r with
 | nil=>rfl
 | cons x r=>rw [XS,Lib.join_cons];rfl
theorem flatT_len:∀ (r:List Qdk),(∀ x∈r,x.length≤16)→(D6 r).length≤18 * r.length
 | [],h=>Nat.zero_le _
 | x::r,h=>by
  have:=flatT_len r fun y hy=>h y (List.mem_cons_of_mem _ hy)
  have hx:=h x List.mem_cons_self
  unfold D6 at this ⊢
  simp only [List.map_cons,List.flatten_cons,List.length_append,List.length_cons,List.length_nil] at this ⊢
  omega
theorem Q1w (r:List Qdk) (h:∀ x∈r,x.length≤16):(WX r).length≤18 * r.length:=by
 cases r with
 | nil=>exact Nat.zero_le _
 | cons x r =>
  rw [XS,List.length_append]
  have:=flatT_len r fun y hy=>h y (List.mem_cons_of_mem _ hy)
  have:=h x List.mem_cons_self
  simp only [List.length_cons];omega
theorem ref_l2 {o:List Qdk} (ho:o.length≤200000) (hx16:∀ x∈o,x.length≤16) (s:Qdk) (hs:s.length≤4):Qj (Qb6 o) Qk (s,0)=some (s++WX o):=by
 refine (Kg (step:=Qb6 o) (fun t=>∃ j:Nat,t.2=(j:Int)∧j≤o.length∧t.1.length≤4+18 * j) (fun t=>o.length - t.2.toNat) (fun t=>t.1++(if t.2=0 then WX o else D6 (o.drop t.2.toNat))) ?_ Qk (s,0) ⟨0,rfl,Nat.zero_le _,by dsimp only;omega⟩ ?_).trans (by rw [if_pos rfl])
 ·rintro ⟨ac,i⟩ ⟨j,rfl,hj,hb⟩
  dsimp only at hb ⊢
  rw [Int.toNat_natCast]
  by_cases hlt:j < o.length
  ·refine .inr ?_
   obtain ⟨x,hx⟩:∃ x,o[j]?=some x:=⟨_,List.getElem?_eq_getElem hlt⟩
   have hl:=hx16 x (List.mem_of_getElem? hx)
   unfold Qb6
   dsimp only
   rw [decide_eq_true (by omega:(j:Int) < o.length),cond_true,DA hlt (by omega)]
   by_cases h0:j=0
   ·subst h0
    rw [decide_eq_false (by omega),cond_false,Option.bind_some,XZ (Int.natCast_nonneg _) (by simpa using hx),Option.bind_some,Qy (Nat.ble_eq_true_of_le (by omega))]
    refine ⟨_,rfl,⟨1,rfl,hlt,by simp only [List.length_append];omega⟩,by simp only [Int.toNat_natCast];omega,?_⟩
    dsimp only
    rw [if_neg (by omega:¬ ((0+1:Nat):Int)=0),if_pos (by rfl:((0:Nat):Int)=0),Int.toNat_natCast]
    have:o=x::o.drop 1:=by have:=Q35 hx;simpa using this
    conv=>rhs;rw [this,XS]
    simp
   ·rw [decide_eq_true (by omega:(0:Int) < j),cond_true,Qy (Nat.ble_eq_true_of_le (by simp only [List.length_cons,List.length_nil];omega)),Option.bind_some,XZ (Int.natCast_nonneg _) (by simpa using hx),Option.bind_some,
     Qy (Nat.ble_eq_true_of_le (by simp only [List.length_append,List.length_cons,List.length_nil];omega))]
    refine ⟨_,rfl,⟨j+1,rfl,hlt,by simp only [List.length_append,List.length_cons,List.length_nil];omega⟩,by simp only [Int.toNat_natCast];omega,?_⟩
    dsimp only
    rw [if_neg (by omega),if_neg (by omega),Int.toNat_natCast,Q35 hx]
    simp [D6]
  ·refine .inl ?_
   unfold Qb6
   dsimp only
   rw [decide_eq_false (by omega),cond_false]
   by_cases h0:(j:Int)=0
   ·have e:o=[]:=List.eq_nil_of_length_eq_zero (by omega)
    rw [if_pos h0,e];simp [WX]
   ·rw [if_neg h0,List.drop_eq_nil_of_le (by omega)];simp [D6]
 ·dsimp only;unfold Qk;simp only [Int.toNat_zero];omega
def JU (l:Lvl):List Qdk:=(if 0 < l.c∨l.vs=[] then [Kb l.c.toNat] else [])++Db l.vs++Df l.vs.reverse
theorem varX_16 {x:Qde} (h:okV x):(Q10 x).length≤16:=by
 obtain ⟨h1,h2,h3,h4⟩:=h
 have hp:(Q3x x.2).length≤9:=by
  unfold Q3x
  split
  ·have:=Yd (a:=x.2) (by omega)
   simp only [List.length_append,List.length_cons,List.length_nil];omega
  ·exact Nat.zero_le _
 unfold Q10 Q1o
 split
 ·have:=Yd (a:=x.1) (by omega)
  simp only [List.length_cons,List.length_append];omega
 ·have:=Yd (a:=-1 - x.1) (by omega)
  simp only [List.length_cons,List.length_append];omega
theorem DL {l:Lvl} (h:DX l):∀ x∈JU l,x.length≤16:=by
 intro x hx
 unfold JU Db Df at hx
 rcases List.mem_append.1 hx with hx | hx
 ·rcases List.mem_append.1 hx with hx | hx
  ·split at hx
   ·rw [List.mem_singleton.1 hx]
    have:=Yd (a:=l.c) (by have:=h.2.1;omega)
    omega
   ·cases hx
  ·obtain ⟨y,hy,rfl⟩:=List.mem_map.1 hx
   exact varX_16 (Z9 h (List.mem_filter.1 hy).1)
 ·obtain ⟨y,hy,rfl⟩:=List.mem_map.1 hx
  exact varX_16 (Z9 h (List.mem_reverse.1 (List.mem_filter.1 hy).1))
theorem Up (l:Lvl):(JU l).length≤2 * l.vs.length+1:=by
 unfold JU Db Df
 have h1:=List.length_filter_le (fun x:Qde=>decide (0≤x.1)) l.vs
 have h2:=List.length_filter_le (fun x:Qde=>decide (x.1 < 0)) l.vs.reverse
 rw [List.length_reverse] at h2
 simp only [List.length_append,List.length_map]
 split <;> simp only [List.length_cons,List.length_nil] <;> omega
def Q3r (l:Lvl):Qdk:=if (JU l).length=1 then WX (JU l) else [109,97,120,40]++WX (JU l)++[41]
theorem Xc (l:Lvl):Q3r l=(if (JU l).length=1 then WX (JU l) else [109,97,120,40]++WX (JU l)++[41]):=rfl
theorem XP {l:Lvl} (h:DX l):(Q3r l).length≤36 * l.vs.length+23:=by
 rw [Xc]
 have h1:=Q1w _ (DL h)
 have h2:=Up l
 split
 ·omega
 ·simp only [List.length_append,List.length_cons,List.length_nil];omega
theorem first_parts (l:Lvl):(cond (decide (0 < l.c)) (some true) (some ((l.vs.length:Int)==0)))=some (decide (0 < l.c∨l.vs=[])):=by
 by_cases h0:0 < l.c
 ·rw [decide_eq_true h0,cond_true,decide_eq_true (.inl h0)]
 ·rw [decide_eq_false h0,cond_false]
  cases hl:l.vs with
  | nil=>simp
  | cons x r=>simp [h0];omega
theorem one_get {o:List Qdk} (h:o.length=1):J3 o 0=some (WX o):=by
 match o,h with
 | [x],_=>rfl
theorem Ja {α β:Type} {x:Option α} {k:α→Option β} (a:α) (h:x=some a) {r:Option β} (h2:k a=r):Option.bind x k=r:=by rw [h];exact h2
theorem m114_eq {l:Lvl} (hv:DX l) (hn:l.vs.length≤900000000):Q9f l=some (Q3r l,0):=by
 have hl:=asc_len hv hn
 obtain ⟨b,hb1,hb2⟩:=Q2f l hn
 have hb:b=true:=hb2.2 hv
 subst hb
 have hc:0≤l.c∧l.c≤100:=⟨hv.1,hv.2.1⟩
 unfold Q9f
 rw [hb1]
 refine Ja _ (first_parts l) ?_
 have l0:(if 0 < l.c∨l.vs=[] then [Kb l.c.toNat] else []).length≤1:=by split <;> simp
 refine Ja (if 0 < l.c∨l.vs=[] then [Kb l.c.toNat] else []) ?_ ?_
 ·by_cases h:0 < l.c∨l.vs=[]
  ·rw [decide_eq_true h,cond_true,if_pos h,Q2a hc.1 (by omega)];rfl
  ·rw [decide_eq_false h,cond_false,if_neg h]
 refine Ja _ (text_l0 hv hl 0 _ (Nat.zero_le _) (by omega)) ?_
 rw [List.drop_zero]
 have l1:=List.length_filter_le (fun x:Qde=>decide (0≤x.1)) l.vs
 rw [YK (by omega) (by omega)]
 refine Ja _ (text_l1 hv hl _ (by rw [List.length_append,List.length_map];omega)) ?_
 have ep:(if 0 < l.c∨l.vs=[] then [Kb l.c.toNat] else [])++Db l.vs++Df l.vs.reverse=JU l:=rfl
 rw [ep]
 have h16:=DL hv
 have hn:=Up l
 have hs:=Q1w _ h16
 rw [Xc]
 by_cases h1:(JU l).length=1
 ·rw [if_pos h1,show (((JU l).length:Int)==1)=true by rw [h1];rfl,cond_true,one_get h1,Option.bind_some]
 ·rw [if_neg h1,show (((JU l).length:Int)==1)=false by rw [beq_eq_false_iff_ne];omega,cond_false]
  unfold m141
  rw [sepT_join,Qy (by rw [Nat.ble_eq_true_of_le (by omega),Nat.ble_eq_true_of_le (by omega)];rfl),Option.bind_some,Qy (Nat.ble_eq_true_of_le (by simp only [List.length_cons,List.length_nil];omega)),Qy (Nat.ble_eq_true_of_le (by simp only [List.length_append,List.length_cons,List.length_nil];omega))]
theorem m69_eq {l:Lvl} (hv:DX l) (hn:l.vs.length≤900000000):Qao l=some (Q3r l,0):=by
 have hl:=asc_len hv hn
 obtain ⟨b,hb1,hb2⟩:=m118_eq l hn
 have hb:b=true:=hb2.2 hv
 subst hb
 have hc:0≤l.c∧l.c≤100:=⟨hv.1,hv.2.1⟩
 unfold Qao
 rw [hb1]
 refine Ja _ (first_parts l) ?_
 have l0:(if 0 < l.c∨l.vs=[] then [Kb l.c.toNat] else []).length≤1:=by split <;> simp
 refine Ja (if 0 < l.c∨l.vs=[] then [Kb l.c.toNat] else []) ?_ ?_
 ·by_cases h:0 < l.c∨l.vs=[]
  ·rw [decide_eq_true h,cond_true,if_pos h,Q2g hc.1 (by omega)];rfl
  ·rw [decide_eq_false h,cond_false,if_neg h]
 refine Ja _ (ref_l0 hv hl 0 _ (Nat.zero_le _) (by omega)) ?_
 rw [List.drop_zero]
 have l1:=List.length_filter_le (fun x:Qde=>decide (0≤x.1)) l.vs
 rw [YK (by omega) (by omega)]
 refine Ja _ (ref_l1 hv hl _ (by rw [List.length_append,List.length_map];omega)) ?_
 have ep:(if 0 < l.c∨l.vs=[] then [Kb l.c.toNat] else [])++Db l.vs++Df l.vs.reverse=JU l:=rfl
 rw [ep]
 have h16:=DL hv
 have hn:=Up l
 have hs:=Q1w _ h16
 rw [Xc]
 by_cases h1:(JU l).length=1
 ·rw [if_pos h1,show (((JU l).length:Int)==1)=true by rw [h1];rfl,cond_true,one_get h1,Option.bind_some]
 ·rw [if_neg h1,show (((JU l).length:Int)==1)=false by rw [beq_eq_false_iff_ne];omega,cond_false]
  refine Ja _ (ref_l2 (by omega) h16 _ (by simp)) ?_
  rw [Qy (Nat.ble_eq_true_of_le (by simp only [List.length_append,List.length_cons,List.length_nil];omega))]
end
section
open Go.RowKit Go.Shelf
def arity (k:Int):Nat:=if k=4∨k=5∨k=6∨k=7 then 2 else if k=8∨k=11 then 3 else if k=9∨k=10 then 1 else 0
structure NodeP (t:Tm):Prop where
 k:0≤t.kind∧t.kind < 13
 ix:t.kind ≠ 0→t.kind ≠ 12→t.index=0
 ix0:0≤t.index
 ix1:t.index < 1000000000
 me:t.kind=12→t.index < 1000000
 nm:t.kind ≠ 3→t.name=[]
 nk:t.kind=3→Z4 t.name=true
 l2:t.kind=2→t.levels.length=1
 l0:t.kind ≠ 2→t.kind ≠ 3→t.levels=[]
 l3:t.levels.length≤8
 kd:t.kids.length=arity t.kind
 lv:∀ l∈t.levels,DX l
inductive OkT:Tm→Prop
 | mk {t:Tm} (h:NodeP t) (hk:∀ k∈t.kids,OkT k):OkT t
theorem OkT.node {t:Tm} (h:OkT t):NodeP t:=by cases h;assumption
theorem OkT.kid {t k:Tm} (h:OkT t) (hk:k∈t.kids):OkT k:=by cases h with | mk _ h=>exact h k hk
structure FormP (t:Tm):Prop where
 k:0≤t.kind∧t.kind < 13
 ix:t.kind ≠ 0→t.kind ≠ 12→t.index=0
 nm:t.kind ≠ 3→t.name=[]
 l2:t.kind=2→t.levels.length=1
 l0:t.kind ≠ 2→t.kind ≠ 3→t.levels=[]
 kd:t.kids.length=arity t.kind
theorem fits_ok (t:Tm) (h:Uu t=some true):FormP t:=by
 by_cases h1:t.kind < 0
 ·exfalso;unfold Uu at h;rw [decide_eq_true h1] at h;cases h
 by_cases h2:13≤t.kind
 ·exfalso;unfold Uu at h;rw [decide_eq_false h1,decide_eq_true h2] at h;cases h
 have hk:t.kind=0∨t.kind=1∨t.kind=2∨t.kind=3∨t.kind=4∨t.kind=5∨t.kind=6∨t.kind=7∨t.kind=8∨t.kind=9∨t.kind=10∨t.kind=11∨t.kind=12:=by omega
 have fin:∀ (ix nm ln:Bool) (lv kd:Int),Uu t=Q6t ix nm ln (t.index==0) (t.name==[]) ((t.levels.length:Int)==lv) ((t.kids.length:Int)==kd) →
   (ix=false→t.index=0)∧(nm=false→t.name=[])∧(ln=false→(t.levels.length:Int)=lv)∧(t.kids.length:Int)=kd:=by
  intro ix nm ln lv kd e
  rw [h,formU_eq] at e
  have e:=(Option.some.inj e).symm
  simp only [Bool.and_eq_true,Bool.or_eq_true,beq_iff_eq] at e
  obtain ⟨⟨⟨e1,e2⟩,e3⟩,e4⟩:=e
  exact ⟨fun h=>by rcases e1 with e | e;rw [h] at e;cases e;exact e,fun h=>by rcases e2 with e | e;rw [h] at e;cases e;exact e,fun h=>by rcases e3 with e | e;rw [h] at e;cases e;exact e,e4⟩
 obtain ⟨k,i,n,ls,ks⟩:=t
 dsimp only [Tm.kind,Tm.index,Tm.name,Tm.levels,Tm.kids] at *
 have mk:∀ {ix nm ln:Bool} {lv kd:Int},Uu (Tm.mk k i n ls ks)=Q6t ix nm ln (i==0) (n==[]) ((ls.length:Int)==lv) ((ks.length:Int)==kd)→(k ≠ 0→k ≠ 12→ix=false)→(k ≠ 3→nm=false)→(k=2→ln=false∧lv=1)→(k ≠ 2→k ≠ 3→ln=false∧lv=0)→kd=(arity k:Nat)→FormP (Tm.mk k i n ls ks):=by
  intro ix nm ln lv kd e h3 h4 h5 h6 h7
  obtain ⟨f1,f2,f3,f4⟩:=fin ix nm ln lv kd e
  refine ⟨⟨by show 0≤k;omega,by show k < 13;omega⟩,fun a b=>f1 (h3 a b),fun a=>f2 (h4 a),fun a=>?_,fun a b=>?_,?_⟩
  ·obtain ⟨g1,g2⟩:=h5 a
   have:=f3 g1
   show ls.length=1;omega
  ·obtain ⟨g1,g2⟩:=h6 a b
   have:=f3 g1
   show ls=[]
   exact List.eq_nil_of_length_eq_zero (by omega)
  ·show ks.length=arity k;omega
 rcases hk with hk | hk | hk | hk | hk | hk | hk | hk | hk | hk | hk | hk | hk <;> subst hk
 ·exact mk (ix:=true) (nm:=false) (ln:=false) (lv:=0) (kd:=0) rfl (fun a=>(a rfl).elim) (fun _=>rfl) (fun a=>by omega) (fun _ _=>⟨rfl,rfl⟩) rfl
 ·exact mk (ix:=false) (nm:=false) (ln:=false) (lv:=0) (kd:=0) rfl (fun _ _=>rfl) (fun _=>rfl) (fun a=>by omega) (fun _ _=>⟨rfl,rfl⟩) rfl
 ·exact mk (ix:=false) (nm:=false) (ln:=false) (lv:=1) (kd:=0) rfl (fun _ _=>rfl) (fun _=>rfl) (fun _=>⟨rfl,rfl⟩) (fun a=>(a rfl).elim) rfl
 ·exact mk (ix:=false) (nm:=true) (ln:=true) (lv:=-1) (kd:=0) rfl (fun _ _=>rfl) (fun a=>(a rfl).elim) (fun a=>by omega) (fun _ a=>(a rfl).elim) rfl
 ·exact mk (ix:=false) (nm:=false) (ln:=false) (lv:=0) (kd:=2) rfl (fun _ _=>rfl) (fun _=>rfl) (fun a=>by omega) (fun _ _=>⟨rfl,rfl⟩) rfl
 ·exact mk (ix:=false) (nm:=false) (ln:=false) (lv:=0) (kd:=2) rfl (fun _ _=>rfl) (fun _=>rfl) (fun a=>by omega) (fun _ _=>⟨rfl,rfl⟩) rfl
 ·exact mk (ix:=false) (nm:=false) (ln:=false) (lv:=0) (kd:=2) rfl (fun _ _=>rfl) (fun _=>rfl) (fun a=>by omega) (fun _ _=>⟨rfl,rfl⟩) rfl
 ·exact mk (ix:=false) (nm:=false) (ln:=false) (lv:=0) (kd:=2) rfl (fun _ _=>rfl) (fun _=>rfl) (fun a=>by omega) (fun _ _=>⟨rfl,rfl⟩) rfl
 ·exact mk (ix:=false) (nm:=false) (ln:=false) (lv:=0) (kd:=3) rfl (fun _ _=>rfl) (fun _=>rfl) (fun a=>by omega) (fun _ _=>⟨rfl,rfl⟩) rfl
 ·exact mk (ix:=false) (nm:=false) (ln:=false) (lv:=0) (kd:=1) rfl (fun _ _=>rfl) (fun _=>rfl) (fun a=>by omega) (fun _ _=>⟨rfl,rfl⟩) rfl
 ·exact mk (ix:=false) (nm:=false) (ln:=false) (lv:=0) (kd:=1) rfl (fun _ _=>rfl) (fun _=>rfl) (fun a=>by omega) (fun _ _=>⟨rfl,rfl⟩) rfl
 ·exact mk (ix:=false) (nm:=false) (ln:=false) (lv:=0) (kd:=3) rfl (fun _ _=>rfl) (fun _=>rfl) (fun a=>by omega) (fun _ _=>⟨rfl,rfl⟩) rfl
 ·exact mk (ix:=true) (nm:=false) (ln:=false) (lv:=0) (kd:=0) rfl (fun _ a=>(a rfl).elim) (fun _=>rfl) (fun a=>by omega) (fun _ _=>⟨rfl,rfl⟩) rfl
theorem lv_ok {V P:Int} {x:Lvl} (h:x.vs.length≤900000000) (h0:DW (Yy V P) x=some 0):DX x:=by
 obtain ⟨b,hb1,hb2⟩:=Q2f x h
 unfold DW at h0
 rw [hb1] at h0
 cases b with
 | false=>cases h0
 | true=>exact hb2.1 rfl
theorem lvs_ok (t:Tm) (V P:Int) (h:t.size≤900000000):∃ r,Qj (Ys t (Yy V P)) Qk 0=some r∧((r=.inl ()∧∀ l∈t.levels,DX l)∨∃ e:Int,e ≠ 0∧r=.inr e):=by
 have hl:=GK t
 have hl2:=Ka lvz (fun l=>by unfold lvz;omega) t.levels
 refine YA (step:=Ys t (Yy V P)) t.levels (fun i (_:Unit)=>i) (fun a _=>∀ l∈a,DX l) (fun r=>(r=.inl ()∧∀ l∈t.levels,DX l)∨∃ e:Int,e ≠ 0∧r=.inr e) (by omega)
  (fun a y b _ e hI=>?_) (fun _ hI=>⟨.inl (),by unfold Ys;rw [J9];rfl,.inl ⟨rfl,hI⟩⟩) () (fun x hx=>by cases hx)
 obtain ⟨q1,q2⟩:=ZK e
 have hy:y.vs.length≤900000000:=by
  have:=Q2k y
  have:=YW lvz (show y∈t.levels from by rw [e];simp)
  omega
 obtain ⟨c,h1,-⟩:=lv_code V P y hy
 by_cases hc:c=0
 ·subst hc
  refine .inr ⟨(),?_,fun z hz=>?_⟩
  ·unfold Ys
   rw [q1,q2]
   show Option.bind (DW (Yy V P) y) _=_
   rw [h1];rfl
  ·rcases List.mem_append.1 hz with hz | hz
   ·exact hI z hz
   ·rw [List.mem_singleton.1 hz];exact lv_ok hy h1
 ·refine .inl ⟨.inr c,?_,.inr ⟨c,hc,rfl⟩⟩
  unfold Ys
  rw [q1,q2]
  show Option.bind (DW (Yy V P) y) _=_
  rw [h1]
  exact Q6a hc _ _
theorem node_ok (t:Tm) (dep:Nat) (P:Int) (h:t.size≤900000000) (hd:dep≤900000000) (h0:Q9y (Yy 1000000 P) t (dep:Int)=some 0):NodeP t:=by
 obtain ⟨b,hb,-⟩:=form_eq t
 have hi:=ir_in (n:=t.index) (by have:=t.size_eq;omega)
 have hn:t.name.length≤900000000:=by have:=t.size_eq;omega
 unfold Q9y at h0
 rw [hb] at h0
 cases b with
 | false=>cases h0
 | true =>
  have f:=fits_ok t hb
  obtain ⟨r,hr1,hr2⟩:=lvs_ok t 1000000 P h
  have tail:Option.bind (Qj (Ys t (Yy 1000000 P)) Qk 0) (Sum.elim (fun (o7:Unit)=>Zs t (Yy 1000000 P) (dep:Int)) (fun o=>some o))=some 0→(∀ l∈t.levels,DX l)∧0≤t.index∧t.index < 1000000000∧(t.kind=12→t.index < 1000000):=by
   intro h1
   rw [hr1] at h1
   rcases hr2 with ⟨rfl,hv⟩ | ⟨e,he,rfl⟩
   ·have h1:Zs t (Yy 1000000 P) (dep:Int)=some 0:=h1
    refine ⟨hv,?_⟩
    unfold Zs at h1
    rw [Yf t.kind 0,Yf t.kind 12] at h1
    by_cases k0:t.kind=0
    ·rw [decide_eq_true k0,decide_eq_false (show ¬ t.kind=12 by omega)] at h1
     by_cases c1:t.index < 0
     ·rw [decide_eq_true c1] at h1;cases h1
     ·rw [decide_eq_false c1] at h1
      by_cases c2:max 1000000 0≤QE (t.index - (dep:Int))
      ·rw [show decide ((Yy 1000000 P).vars≤QE (t.index - (dep:Int)))=true from decide_eq_true c2] at h1;cases h1
      ·rw [YK (by omega) (by omega)] at c2
       exact ⟨by omega,by omega,fun a=>by omega⟩
    ·rw [decide_eq_false k0] at h1
     by_cases k1:t.kind=12
     ·rw [decide_eq_true k1] at h1
      by_cases c1:t.index < 0
      ·rw [decide_eq_true c1] at h1;cases h1
      ·rw [decide_eq_false c1] at h1
       by_cases c2:1000000≤t.index
       ·rw [show decide ((Yy 1000000 P).metas≤t.index)=true from decide_eq_true c2] at h1;cases h1
       ·exact ⟨by omega,by omega,fun a=>by omega⟩
     ·have:=f.ix k0 k1
      exact ⟨by omega,by omega,fun a=>by omega⟩
   ·cases h1;exact (he rfl).elim
  have fin:(t.kind=3→Z4 t.name=true∧t.levels.length≤8)→(∀ l∈t.levels,DX l)∧0≤t.index∧t.index < 1000000000∧(t.kind=12→t.index < 1000000)→NodeP t:=fun h1 h2=>by
   refine ⟨f.k,f.ix,h2.2.1,h2.2.2.1,h2.2.2.2,f.nm,fun a=>(h1 a).1,f.l2,f.l0,?_,f.kd,h2.1⟩
   by_cases a:t.kind=3
   ·exact (h1 a).2
   ·by_cases a2:t.kind=2
    ·have:=f.l2 a2;omega
    ·rw [f.l0 a2 a];exact Nat.zero_le _
  simp only [Option.bind_some,Bool.not_true,cond_false] at h0
  rw [Yf] at h0
  by_cases Qct:t.kind=3
  ·rw [decide_eq_true Qct,cond_true,Q2h _ hn,Option.bind_some] at h0
   cases hN:Z4 t.name with
   | false=>rw [hN] at h0;cases h0
   | true =>
    rw [hN] at h0
    by_cases h8:8 < (t.levels.length:Int)
    ·rw [decide_eq_true h8] at h0;cases h0
    ·rw [decide_eq_false h8] at h0
     exact fin (fun _=>⟨hN,by omega⟩) (tail h0)
  ·rw [decide_eq_false Qct] at h0
   exact fin (fun a=>(Qct a).elim) (tail h0)
theorem walk_ok (P:Int):∀ (n:Nat) (t:Tm) (dep:Nat),t.size≤n→dep+t.size≤900000000→QX Dg n (t,(dep:Int),max 1000000 0,P,1000000,1000000)=some 0→OkT t
 | 0,t,_,h,_,_=>by rw [t.size_eq] at h;omega
 | n+1,t,dep,h,hd,h0=>by
  have h0:Q5b (QX Dg n) t (dep:Int) (max 1000000 0) P 1000000 1000000=some 0:=h0
  obtain ⟨e,h1,h2,h3⟩:=node_eq t (dep:Int) 1000000 P (by omega)
  rw [h2] at h0
  by_cases he:e=0
  ·subst he
   rw [if_pos rfl] at h0
   have hN:=node_ok t dep P (by omega) (by omega) h1
   obtain ⟨k0,k1⟩:=hN.k
   obtain ⟨v,hv,hj⟩:=bind_eq t.kind k0 k1
   have hl:=Kt t
   have key:∃ r,Qj (Zr t (QX Dg n) (dep:Int) (max 1000000 0) P 1000000 1000000) Qk 0=some r∧((r=.inl ()∧∀ k∈t.kids,OkT k)∨∃ e:Int,e ≠ 0∧r=.inr e):=by
    refine YA (step:=Zr t (QX Dg n) (dep:Int) (max 1000000 0) P 1000000 1000000) t.kids (fun i (_:Unit)=>i) (fun a _=>∀ k∈a,OkT k) (fun r=>(r=.inl ()∧∀ k∈t.kids,OkT k)∨∃ e:Int,e ≠ 0∧r=.inr e) (by omega)
     (fun a x b _ e hI=>?_) (fun _ hI=>⟨.inl (),by unfold Zr;rw [J9];rfl,.inl ⟨rfl,hI⟩⟩) () (fun x hx=>by cases hx)
    obtain ⟨q1,q2⟩:=ZK e
    have hxs:=JF (t:=t) (k:=x) (by rw [e];simp)
    have hx:=Q26 e
    obtain ⟨d',hd1,hd3⟩:∃ d':Nat,QE ((dep:Int)+(if (a.length:Int)=v then 1 else 0))=(d':Int)∧d'≤dep+1:=by
     by_cases hh:(a.length:Int)=v
     ·rw [if_pos hh,Wl (by omega)];exact ⟨dep+1,rfl,Nat.le_refl _⟩
     ·rw [if_neg hh,YK (by omega) (by omega)];exact ⟨dep,by omega,by omega⟩
    obtain ⟨e',w1,-,-⟩:=Dk 1000000 P t n x d' 0 (by omega) (by omega) (by omega)
    have st:Zr t (QX Dg n) (dep:Int) (max 1000000 0) P 1000000 1000000 (a.length:Int)=cond (e' != 0) (some (.done (.inr e'))) (some (.next (QE ((a.length:Int)+1)))):=by
     unfold Zr
     rw [q1,q2]
     simp only [cond_true,Option.bind_some]
     rw [hj a.length]
     simp only [Option.bind_some]
     rw [hd1,w1];rfl
    by_cases he:e'=0
    ·subst he
     refine .inr ⟨(),st,fun z hz=>?_⟩
     rcases List.mem_append.1 hz with hz | hz
     ·exact hI z hz
     ·rw [List.mem_singleton.1 hz];exact walk_ok P n x d' (by omega) (by omega) w1
    ·refine .inl ⟨_,by rw [st,Q0n he];rfl,.inr ⟨e',he,rfl⟩⟩
   obtain ⟨r,hr1,hr2⟩:=key
   unfold Q1f at h0
   rw [hr1] at h0
   rcases hr2 with ⟨rfl,hk⟩ | ⟨e,he,rfl⟩
   ·exact .mk hN hk
   ·cases h0;exact (he rfl).elim
  ·rw [if_neg he] at h0;cases h0;exact (he rfl).elim
theorem Q0j (t:Tm) (h:t.size≤900000000) (h0:Q9d t 1000000 1000000 1000000 1000000=some 0):OkT t:=by
 obtain ⟨e,h1,-,-⟩:=Dk 1000000 1000000 t Qk t 0 0 (by unfold Qk;omega) (by omega) (by omega)
 have h2:Qbk t 0 (max 1000000 0) 1000000 1000000 1000000=some e:=h1
 unfold Q9d at h0
 rw [h2,Option.bind_some] at h0
 by_cases he:e=0
 ·subst he
  exact walk_ok 1000000 Qk t 0 (by unfold Qk;omega) (by omega) h1
 ·rw [Q0n he] at h0;cases h0;exact (he rfl).elim
end
section
open Go.RowKit Go.Shelf
abbrev JV (s:Qdk):List Byt:=List.map (fun b:UInt8=>(⟨b.toNat⟩:Byt)) s
def Q4s:List Qdk:=[[97,112,112],[108,97,109],[112,105],[115,105,103,109,97],[112,97,105,114],[102,115,116],[115,110,100],[108,101,116]]
def Kk (k:Int):Qdk:=(Q4s[(k - 4).toNat]?).getD []
def Q4q (l:Lvl):Qdk:=[91]++Q3r l++[93]
def Uw (ls:List Lvl):Qdk:=(ls.map fun l=>[32]++Q4q l).flatten
def JO:Tm→Qdk
 | .mk k i n ls ks=>if k=0 then [35]++Kb i.toNat else if k=12 then [63]++Kb i.toNat else if k=1 then [112,114,111,112] else
  if k=2 then [40,115,111,114,116,32]++(ls.map Q4q).headD []++[41] else
  if k=3 then (if ls=[]∧n ≠ [112,114,111,112] then n else [40,99,111,110,115,116,32]++n++Uw ls++[41]) else
  [40]++Kk k++(ks.attach.map fun k=>[32]++JO k.1).flatten++[41]
termination_by t=>SizeOf.sizeOf t
decreasing_by
 have:=List.sizeOf_lt_of_mem k.2
 simp only [Tm.mk.sizeOf_spec];omega
def KL (ks:List Tm):Qdk:=(ks.map fun k=>[32]++JO k).flatten
theorem Km (k i:Int) (n:Qdk) (ls:List Lvl) (ks:List Tm):JO (.mk k i n ls ks)=if k=0 then [35]++Kb i.toNat else if k=12 then [63]++Kb i.toNat else if k=1 then [112,114,111,112] else
  if k=2 then [40,115,111,114,116,32]++(ls.map Q4q).headD []++[41] else
  if k=3 then (if ls=[]∧n ≠ [112,114,111,112] then n else [40,99,111,110,115,116,32]++n++Uw ls++[41]) else
  [40]++Kk k++KL ks++[41]:=by
 rw [JO]
 have:(ks.attach.map fun k=>[32]++JO k.1).flatten=KL ks:=by
  unfold KL
  rw [List.attach_map_val (f:=fun k=>[32]++JO k)]
 rw [this]
theorem Kz {i:Int} (h0:0≤i) (h:i < 1000000000):(Kb i.toNat).length≤9:=W5 8 _ (by omega)
theorem Ug {k:Int} (h:4≤k) (h2:k < 12):(Kk k).length≤5∧Q4s[(k - 4).toNat]?=some (Kk k):=by
 have:k=4∨k=5∨k=6∨k=7∨k=8∨k=9∨k=10∨k=11:=by omega
 rcases this with rfl | rfl | rfl | rfl | rfl | rfl | rfl | rfl <;> exact ⟨by decide,rfl⟩
theorem brT_len {l:Lvl} (h:DX l):(Q4q l).length+1≤36 * lvz l:=by
 have h1:=XP h
 have h2:lvz l=1+l.vs.length:=by unfold lvz;rw [List.map_const',List.sum_replicate_nat];omega
 unfold Q4q
 simp only [List.length_append,List.length_cons,List.length_nil]
 omega
theorem Q5x {α:Type} (f:α→Qdk) (g:α→Nat):∀ l:List α,(∀ x∈l,(f x).length≤g x)→(l.map f).flatten.length≤(l.map g).sum
 | [],h=>Nat.le_refl _
 | x::l,h=>by
  simp only [List.map_cons,List.flatten_cons,List.length_append,List.sum_cons]
  have h1:=h x List.mem_cons_self
  have h2:=Q5x f g l fun y hy=>h y (List.mem_cons_of_mem _ hy)
  omega
theorem Q1r {α:Type} (c:Nat) (g:α→Nat):∀ l:List α,(l.map fun x=>c * g x).sum=c * (l.map g).sum
 | []=>rfl
 | x::l=>by simp only [List.map_cons,List.sum_cons,Q1r c g l,Nat.mul_add]
theorem lvsT_len {ls:List Lvl} (h:∀ l∈ls,DX l):(Uw ls).length≤36 * (ls.map lvz).sum:=by
 rw [← Q1r]
 refine Q5x _ _ ls fun l hl=>?_
 have:=brT_len (h l hl)
 simp only [List.length_append,List.length_cons,List.length_nil];omega
theorem Uj (t:Tm):OkT t→(JO t).length+1≤60 * t.size:=by
 induction t using Tm.ind with
 | h t ih =>
  intro h
  have hN:=h.node
  have hk:(KL t.kids).length≤60 * (t.kids.map Tm.size).sum:=by
   rw [← Q1r]
   refine Q5x _ _ _ fun k hk=>?_
   have:=ih k hk (h.kid hk)
   simp only [List.length_append,List.length_cons,List.length_nil];omega
  have hv:=lvsT_len hN.lv
  have hs:=t.size_eq
  have hd:=Kz hN.ix0 hN.ix1
  obtain ⟨k,i,n,ls,ks⟩:=t
  obtain ⟨⟨c1,c2⟩,-,-,-,-,-,-,l2,-,-,-,lv⟩:=hN
  dsimp only [Tm.kind,Tm.index,Tm.name,Tm.levels,Tm.kids] at *
  rw [Km]
  split
  ·simp only [List.length_append,List.length_cons,List.length_nil];omega
  split
  ·simp only [List.length_append,List.length_cons,List.length_nil];omega
  split
  ·simp only [List.length_cons,List.length_nil];omega
  split
  ·rename_i h2
   have:=l2 h2
   match ls,this with
   | [l],_ =>
    have:=brT_len (lv l (by simp))
    simp only [List.map_cons,List.map_nil,List.headD_cons,List.length_append,List.length_cons,List.length_nil,List.sum_cons,List.sum_nil] at *
    omega
  split
  ·split
   ·omega
   ·simp only [List.length_append,List.length_cons,List.length_nil];omega
  ·have:=(Ug (k:=k) (by omega) (by omega)).1
   simp only [List.length_append,List.length_cons,List.length_nil];omega
theorem Q6p {a:Int} (h0:0≤a) (h1:a < 1000000000):Q7i a=some (Kb a.toNat):=by
 unfold Q7i
 rw [Qy (by rw [decide_eq_true (by omega),decide_eq_true (by omega)];rfl),itoa_nn h0]
def Q9c (rc:Int→Option Qdk) (u:Int):Option Qdk:=Q77 rc u
theorem m68_dig (rc:Int→Option Qdk) {n:Nat} (h:n < 10):Q77 rc (n:Int)=some (Kb n):=by
 have:n=0∨n=1∨n=2∨n=3∨n=4∨n=5∨n=6∨n=7∨n=8∨n=9:=by omega
 rcases this with rfl | rfl | rfl | rfl | rfl | rfl | rfl | rfl | rfl | rfl <;> (rw [Q0d (by omega)];rfl)
theorem m68_rec:∀ (f n:Nat),n < 10 ^ f→n < 1000000000→QX Q9c f (n:Int)=some (Kb n)∨(f=0)
 | 0,n,h,hn=>.inr rfl
 | f+1,n,h,hn=>by
  refine .inl ?_
  show Q77 (QX Q9c f) (n:Int)=_
  by_cases h1:n < 10
  ·exact m68_dig _ h1
  ·unfold Q77
   rw [decide_eq_false (by omega:¬ (n:Int) < 10),cond_false]
   have ed:Int.tdiv (n:Int) 10=((n / 10:Nat):Int):=rfl
   have em:Int.tmod (n:Int) 10=((n % 10:Nat):Int):=rfl
   rw [ed,em,YK (by omega) (by omega)]
   have hf:f ≠ 0:=fun hf=>by subst hf;omega
   have hr:QX Q9c f ((n / 10:Nat):Int)=some (Kb (n / 10)):=by
    rcases m68_rec f (n / 10) (by rw [Nat.pow_succ] at h;omega) (by omega) with h2 | h2
    ·exact h2
    ·exact (hf h2).elim
   have hm:QX Q9c f ((n % 10:Nat):Int)=some (Kb (n % 10)):=by
    cases f with
    | zero=>exact (hf rfl).elim
    | succ f=>exact m68_dig _ (by omega)
   have e10:Kb n=Kb (n / 10)++Kb (n % 10):=by rw [Q63 h1,Q0d (n:=n % 10) (by omega)]
   rw [hr,Option.bind_some]
   refine (Qy Z).trans ?_
   rw [hm,Option.bind_some,← e10]
   refine Qy (Nat.ble_eq_true_of_le ?_)
   have h3:=W5 8 (n / 10) (by omega)
   have h4:=W5 8 (n % 10) (by omega)
   omega
theorem Q5a {a:Int} (h0:0≤a) (h1:a < 1000000000):Qax a=some (Kb a.toNat):=by
 obtain ⟨n,rfl⟩:=Int.eq_ofNat_of_zero_le h0
 rw [Int.toNat_natCast]
 rcases m68_rec Qk n (Nat.lt_of_lt_of_le (by omega:n < 10 ^ 9) (Nat.pow_le_pow_right (by omega) (by unfold Qk;omega))) (by omega) with h2 | h2
 ·exact h2
 ·unfold Qk at h2;omega
theorem Q5d {l:Lvl} (h:DX l) (hn:l.vs.length≤2000000):Q9p l=some (Q4q l):=by
 have h1:=XP h
 unfold Q9p Q4q
 rw [m114_eq h (by omega),Option.bind_some]
 rw [Qy (Nat.ble_eq_true_of_le (by simp only [List.length_cons,List.length_nil];omega)),Qy (Nat.ble_eq_true_of_le (by simp only [List.length_append,List.length_cons,List.length_nil];omega))]
theorem app_loop {α β:Type} {step:Int×List β→Option (LO (Int×List β) (List β))} (l:List α) (g:α→List β) (b0:List β) (hlen:l.length≤900000000)
  (hin:∀ (a:List α) (x:α) (b:List α) (s:List β),l=a++x::b→s=b0++(a.map g).flatten→step ((a.length:Int),s)=some (.next (QE ((a.length:Int)+1),s++g x)))
  (hout:∀ s,step ((l.length:Int),s)=some (.done s)):Qj step Qk (0,b0)=some (b0++(l.map g).flatten):=by
 obtain ⟨r,h1,h2⟩:=YA (step:=step) l (fun i (s:List β)=>(i,s)) (fun a s=>s=b0++(a.map g).flatten) (fun r=>r=b0++(l.map g).flatten) hlen
  (fun a x b s e hI=>.inr ⟨s++g x,hin a x b s e hI,by rw [hI,List.map_append,List.flatten_append];simp⟩) (fun s hI=>⟨s,hout s,hI⟩) b0 (by simp)
 exact h1.trans (by rw [h2])
theorem app_loop2 {α β:Type} {step:List β×Int→Option (LO (List β×Int) (List β))} (l:List α) (g:α→List β) (b0:List β) (hlen:l.length≤900000000)
  (hin:∀ (a:List α) (x:α) (b:List α) (s:List β),l=a++x::b→s=b0++(a.map g).flatten→step (s,(a.length:Int))=some (.next (s++g x,QE ((a.length:Int)+1))))
  (hout:∀ s,step (s,(l.length:Int))=some (.done s)):Qj step Qk (b0,0)=some (b0++(l.map g).flatten):=by
 obtain ⟨r,h1,h2⟩:=YA (step:=step) l (fun i (s:List β)=>(s,i)) (fun a s=>s=b0++(a.map g).flatten) (fun r=>r=b0++(l.map g).flatten) hlen
  (fun a x b s e hI=>.inr ⟨s++g x,hin a x b s e hI,by rw [hI,List.map_append,List.flatten_append];simp⟩) (fun s hI=>⟨s,hout s,hI⟩) b0 (by simp)
 exact h1.trans (by rw [h2])
theorem Z2 (a b:Qdk):JV (a++b)=JV a++JV b:=List.map_append
theorem KQ (a:Qdk):(JV a).length=a.length:=List.length_map ..
theorem Q06 {α:Type} (f:α→Qdk):∀ l:List α,(l.map fun x=>JV (f x)).flatten=JV (l.map f).flatten
 | []=>rfl
 | x::l=>by simp only [List.map_cons,List.flatten_cons,Q06 f l,Z2]
theorem pre_len {α:Type} (f:α→Qdk) {l a b:List α} {x:α} (e:l=a++x::b):(a.map f).flatten.length+(f x).length≤(l.map f).flatten.length:=by
 rw [e];simp
end
section
open Go.RowKit Go.Shelf
def Qb1  (a1:Tm):(Int×(List Byt))→Option (LO (Int×(List Byt)) ((List Byt))):=(fun s909=>cond ((decide (s909.1 < (a1.levels.length:Int)))) (Option.bind (J3 a1.levels s909.1) fun (x911:Lvl)=>Option.bind (Q9p x911) fun (x912:(List UInt8))=>Qc (Nat.ble (([32]:List UInt8).length+x912.length) 1000000000) (Qc (Nat.ble (s909.2.length+(([32]:List UInt8)++x912).length) 1000000000) (some (.next ((QE (s909.1+1)),(s909.2++(List.map (fun b:UInt8=>(⟨b.toNat⟩:Byt)) (([32]:List UInt8)++x912)))))))) (some (.done s909.2)))
def Qb0 (rc:(List Byt)×Tm→Option (((List Byt)×Unit)⊕(Unit×(List Byt)))) (a1:Tm):(Int×(List Byt))→Option (LO (Int×(List Byt)) ((List Byt))):=(fun s923=>cond ((decide (s923.1 < (a1.kids.length:Int)))) (Option.bind (J3 a1.kids s923.1) fun (x925:Tm)=>Qc (Nat.ble (s923.2.length+([32]:List UInt8).length) 1000000000) (Option.bind (QA (rc ((s923.2++(List.map (fun b:UInt8=>(⟨b.toNat⟩:Byt)) ([32]:List UInt8))),x925))) fun (r926:(List Byt)×Unit)=>some (.next ((QE (s923.1+1)),r926.1)))) (some (.done s923.2)))
def Qba  (a0:Tm):((List UInt8)×Int)→Option (LO ((List UInt8)×Int) ((List UInt8))):=(fun s10=>cond ((decide (s10.2 < (a0.levels.length:Int)))) (Option.bind (J3 a0.levels s10.2) fun (x12:Lvl)=>Option.bind (Qao x12) fun (x13:(List UInt8)×Int)=>Qc (Nat.ble (([32,91]:List UInt8).length+x13.1.length) 1000000000) (Qc (Nat.ble ((([32,91]:List UInt8)++x13.1).length+([93]:List UInt8).length) 1000000000) (Qc (Nat.ble (s10.1.length+((([32,91]:List UInt8)++x13.1)++([93]:List UInt8)).length) 1000000000) (some (.next ((s10.1++((([32,91]:List UInt8)++x13.1)++([93]:List UInt8))),(QE (s10.2+1)))))))) (some (.done s10.1)))
def Qb9 (rc:Tm→Option (List UInt8)) (a0:Tm):((List UInt8)×Int)→Option (LO ((List UInt8)×Int) ((List UInt8))):=(fun s19=>cond ((decide (s19.2 < (a0.kids.length:Int)))) (Option.bind (J3 a0.kids s19.2) fun (x21:Tm)=>Option.bind (rc x21) fun (x22:(List UInt8))=>Qc (Nat.ble (([32]:List UInt8).length+x22.length) 1000000000) (Qc (Nat.ble (s19.1.length+(([32]:List UInt8)++x22).length) 1000000000) (some (.next ((s19.1++(([32]:List UInt8)++x22)),(QE (s19.2+1))))))) (some (.done s19.1)))
theorem app_loopB {α:Type} {step:Int×List Byt→Option (LO (Int×List Byt) (List Byt))} (l:List α) (f:α→Qdk) (b0:List Byt) (hlen:l.length≤900000000) (hb:b0.length+(l.map f).flatten.length≤900000000)
  (hin:∀ (a:List α) (x:α) (b:List α) (s:List Byt),l=a++x::b→s.length+(f x).length≤900000000→step ((a.length:Int),s)=some (.next (QE ((a.length:Int)+1),s++JV (f x))))
  (hout:∀ s,step ((l.length:Int),s)=some (.done s)):Qj step Qk (0,b0)=some (b0++JV (l.map f).flatten):=by
 rw [← Q06]
 refine app_loop l (fun x=>JV (f x)) b0 hlen (fun a x b s e hs=>hin a x b s e ?_) hout
 have:=pre_len f e
 rw [hs,Q06,List.length_append,KQ]
 omega
theorem app_loopS {α:Type} {step:Qdk×Int→Option (LO (Qdk×Int) Qdk)} (l:List α) (f:α→Qdk) (b0:Qdk) (hlen:l.length≤900000000) (hb:b0.length+(l.map f).flatten.length≤900000000)
  (hin:∀ (a:List α) (x:α) (b:List α) (s:Qdk),l=a++x::b→s.length+(f x).length≤900000000→step (s,(a.length:Int))=some (.next (s++f x,QE ((a.length:Int)+1))))
  (hout:∀ s,step (s,(l.length:Int))=some (.done s)):Qj step Qk (b0,0)=some (b0++(l.map f).flatten):=by
 refine app_loop2 l f b0 hlen (fun a x b s e hs=>hin a x b s e ?_) hout
 have:=pre_len f e
 rw [hs,List.length_append]
 omega
theorem Xq {t:Tm} (h:t.size≤2000000) {l:Lvl} (hl:l∈t.levels):l.vs.length≤2000000:=by
 have h1:=GK t
 have h2:=Q2k l
 have h3:=YW lvz hl
 omega
theorem Uv {t:Tm}:t.levels.length≤t.size:=by
 have h1:=GK t
 have h2:=Ka lvz (fun l=>by unfold lvz;omega) t.levels
 omega
theorem wL0_eq (t:Tm) (hv:∀ l∈t.levels,DX l) (hs:t.size≤2000000) (b0:List Byt) (hb:b0.length+(Uw t.levels).length≤900000000):Qj (Qb1 t) Qk (0,b0)=some (b0++JV (Uw t.levels)):=by
 refine app_loopB (step:=Qb1 t) t.levels (fun l=>[32]++Q4q l) b0 (by have:=Uv (t:=t);omega) hb (fun a x b s e hx=>?_) (fun s=>by unfold Qb1;dsimp only;rw [J9];rfl)
 obtain ⟨q1,q2⟩:=ZK e
 have hm:x∈t.levels:=by rw [e];simp
 simp only [List.length_append,List.length_cons,List.length_nil] at hx
 unfold Qb1
 dsimp only
 rw [q1,q2,cond_true,Option.bind_some,Q5d (hv x hm) (Xq hs hm),Option.bind_some,Qy (Nat.ble_eq_true_of_le (by simp only [List.length_cons,List.length_nil];omega)),Qy (Nat.ble_eq_true_of_le (by simp only [List.length_append,List.length_cons,List.length_nil];omega))]
theorem wL1_eq (rc:(List Byt)×Tm→Option (((List Byt)×Unit)⊕(Unit×(List Byt)))) (t:Tm) (hs:t.size≤2000000) (b0:List Byt) (hb:b0.length+(KL t.kids).length≤900000000)
  (hr:∀ k∈t.kids,∀ b:List Byt,b.length+(JO k).length≤900000000→rc (b,k)=some (.inl (b++JV (JO k),()))):Qj (Qb0 rc t) Qk (0,b0)=some (b0++JV (KL t.kids)):=by
 refine app_loopB (step:=Qb0 rc t) t.kids (fun k=>[32]++JO k) b0 (by have:=Kt t;omega) hb (fun a x b s e hx=>?_) (fun s=>by unfold Qb0;dsimp only;rw [J9];rfl)
 obtain ⟨q1,q2⟩:=ZK e
 have hm:x∈t.kids:=by rw [e];simp
 simp only [List.length_append,List.length_cons,List.length_nil] at hx
 unfold Qb0
 dsimp only
 rw [q1,q2,cond_true,Option.bind_some,Qy (Nat.ble_eq_true_of_le (by simp only [List.length_cons,List.length_nil];omega)),hr x hm _ (by simp only [List.length_append,List.length_cons,List.length_nil,List.length_map];omega)]
 show some _=some _
 rw [Z2,List.append_assoc]
theorem Dy {k:Int} (h:4≤k) (h2:k < 12):J3 Q4s (QE (k - 4))=some (Kk k):=by
 rw [YK (by omega) (by omega)]
 have h1:=(Ug h h2).2
 obtain ⟨n,hn⟩:=Int.eq_ofNat_of_zero_le (show 0≤k - 4 by omega)
 rw [hn] at h1 ⊢
 exact h1
theorem JA {a b:Int} (h:a ≠ b):(a==b)=false:=by rw [Yf,decide_eq_false h]
theorem GS {a b:Int} (h:a=b):(a==b)=true:=by rw [Yf,decide_eq_true h]
theorem Ur {t:Tm} (h:t.levels.length=1):∃ l,t.levels=[l]:=by
 match hl:t.levels,h with
 | [l],_=>exact ⟨l,rfl⟩
theorem bsne (a b:Qdk):(!(a==b))=decide (a ≠ b):=by rw [Q7h];by_cases h:a=b <;> simp [h]
theorem Q7w {t:Tm} (h:t.kind=0):JO t=[35]++Kb t.index.toNat:=by obtain ⟨k,i,n,ls,ks⟩:=t;rw [Km];exact if_pos h
theorem Q4x {t:Tm} (h:t.kind=12):JO t=[63]++Kb t.index.toNat:=by obtain ⟨k,i,n,ls,ks⟩:=t;have h:k=12:=h;rw [Km,if_neg (by omega),if_pos h];rfl
theorem Q7v {t:Tm} (h:t.kind=1):JO t=[112,114,111,112]:=by obtain ⟨k,i,n,ls,ks⟩:=t;have h:k=1:=h;rw [Km,if_neg (by omega),if_neg (by omega),if_pos h]
theorem Q7u {t:Tm} {l:Lvl} (h:t.kind=2) (hl:t.levels=[l]):JO t=[40,115,111,114,116,32]++Q4q l++[41]:=by
 obtain ⟨k,i,n,ls,ks⟩:=t
 have h:k=2:=h
 have hl:ls=[l]:=hl
 rw [Km,if_neg (by omega),if_neg (by omega),if_neg (by omega),if_pos h,hl];rfl
theorem Q7t {t:Tm} (h:t.kind=3):JO t=if t.levels=[]∧t.name ≠ [112,114,111,112] then t.name else [40,99,111,110,115,116,32]++t.name++Uw t.levels++[41]:=by
 obtain ⟨k,i,n,ls,ks⟩:=t
 have h:k=3:=h
 rw [Km,if_neg (by omega),if_neg (by omega),if_neg (by omega),if_neg (by omega),if_pos h];rfl
theorem Q7s {t:Tm} (h:4≤t.kind) (h2:t.kind ≠ 12):JO t=[40]++Kk t.kind++KL t.kids++[41]:=by
 obtain ⟨k,i,n,ls,ks⟩:=t
 have h:4≤k:=h
 have h2:k ≠ 12:=h2
 rw [Km,if_neg (by omega),if_neg (by omega),if_neg (by omega),if_neg (by omega),if_neg (by omega)];rfl
theorem GD (t:Tm):(cond (((t.levels.length:Int)==0)) (some (!(t.name==([112,114,111,112]:List UInt8)))) (some false))=some (decide (t.levels=[]∧t.name ≠ [112,114,111,112])):=by
 rw [Yf,bsne]
 by_cases h:t.levels=[]
 ·rw [h];simp
 ·have:t.levels.length ≠ 0:=fun h2=>h (List.eq_nil_of_length_eq_zero h2)
  rw [decide_eq_false (p:=(t.levels.length:Int)=0) (by omega),decide_eq_false (p:=t.levels=[]∧t.name ≠ [112,114,111,112]) (fun h2=>h h2.1)];rfl
theorem app3 (b:List Byt) (x y z:Qdk):b++JV x++JV y++JV z=b++JV (x++y++z):=by rw [Z2,Z2];simp
theorem write_rec:∀ (n:Nat) (t:Tm) (b:List Byt),t.size≤n→t.size≤2000000→OkT t→b.length+(JO t).length≤900000000→QX (fun rc v=>Q5g rc v.1 v.2) n (b,t)=some (.inl (b++JV (JO t),()))
 | 0,t,b,h,_,_,_=>by rw [t.size_eq] at h;omega
 | n+1,t,b,h,h2,ht,hb=>by
  show Q5g (QX (fun rc v=>Q5g rc v.1 v.2) n) b t=_
  have hN:=ht.node
  obtain ⟨k0,k1⟩:=hN.k
  unfold Q5g
  by_cases e0:t.kind=0
  ·rw [Q7w e0] at hb ⊢
   refine Ja (.inl (b++JV ([35]++Kb t.index.toNat))) ?_ Z
   rw [GS e0,cond_true,Q6p hN.ix0 hN.ix1,Option.bind_some]
   have:=Kz hN.ix0 hN.ix1
   simp only [List.length_append,List.length_cons,List.length_nil] at hb
   rw [Qy (Nat.ble_eq_true_of_le (by simp only [List.length_cons,List.length_nil];omega)),Qy (Nat.ble_eq_true_of_le (by simp only [List.length_append,List.length_cons,List.length_nil];omega))]
  by_cases e12:t.kind=12
  ·rw [Q4x e12] at hb ⊢
   refine Ja (.inl (b++JV ([63]++Kb t.index.toNat))) ?_ Z
   rw [JA e0,cond_false]
   refine Ja (.inl (b++JV ([63]++Kb t.index.toNat))) ?_ Z
   rw [GS e12,cond_true,Q6p hN.ix0 hN.ix1,Option.bind_some]
   have:=Kz hN.ix0 hN.ix1
   simp only [List.length_append,List.length_cons,List.length_nil] at hb
   rw [Qy (Nat.ble_eq_true_of_le (by simp only [List.length_cons,List.length_nil];omega)),Qy (Nat.ble_eq_true_of_le (by simp only [List.length_append,List.length_cons,List.length_nil];omega))]
  by_cases e1:t.kind=1
  ·rw [Q7v e1] at hb ⊢
   refine Ja (.inl (b++JV [112,114,111,112])) ?_ Z
   rw [JA e0,cond_false]
   refine Ja (.inl (b++JV [112,114,111,112])) ?_ Z
   rw [JA e12,cond_false]
   refine Ja (.inl (b++JV [112,114,111,112])) ?_ Z
   rw [GS e1,cond_true,Qy (Nat.ble_eq_true_of_le (by omega))]
  by_cases e2:t.kind=2
  ·obtain ⟨l,hl⟩:=Ur (hN.l2 e2)
   have hv:=hN.lv l (by rw [hl];simp)
   rw [Q7u e2 hl] at hb ⊢
   refine Ja (.inl (b++JV ([40,115,111,114,116,32]++Q4q l++[41]))) ?_ Z
   rw [JA e0,cond_false]
   refine Ja (.inl (b++JV ([40,115,111,114,116,32]++Q4q l++[41]))) ?_ Z
   rw [JA e12,cond_false]
   refine Ja (.inl (b++JV ([40,115,111,114,116,32]++Q4q l++[41]))) ?_ Z
   rw [JA e1,cond_false]
   refine Ja (.inl (b++JV ([40,115,111,114,116,32]++Q4q l++[41]))) ?_ Z
   simp only [List.length_append,List.length_cons,List.length_nil] at hb
   rw [GS e2,cond_true,hl,show J3 [l] 0=some l from rfl,Option.bind_some,Q5d hv (Xq h2 (by rw [hl];simp)),Option.bind_some,Qy (Nat.ble_eq_true_of_le (by simp only [List.length_cons,List.length_nil];omega)),Qy (Nat.ble_eq_true_of_le (by simp only [List.length_append,List.length_cons,List.length_nil];omega)),Qy (Nat.ble_eq_true_of_le (by simp only [List.length_append,List.length_cons,List.length_nil];omega))]
  by_cases e3:t.kind=3
  ·rw [Q7t e3] at hb ⊢
   by_cases hc:t.levels=[]∧t.name ≠ [112,114,111,112]
   ·rw [if_pos hc] at hb ⊢
    refine Ja (.inr (.inl (b++JV t.name,()))) ?_ Z
    rw [JA e0,cond_false]
    refine Ja (.inr (.inl (b++JV t.name,()))) ?_ Z
    rw [JA e12,cond_false]
    refine Ja (.inr (.inl (b++JV t.name,()))) ?_ Z
    rw [JA e1,cond_false]
    refine Ja (.inr (.inl (b++JV t.name,()))) ?_ Z
    rw [JA e2,cond_false]
    refine Ja (.inr (.inl (b++JV t.name,()))) ?_ Z
    rw [GS e3,cond_true,GD,Option.bind_some,decide_eq_true hc,cond_true,Qy (Nat.ble_eq_true_of_le (by omega))]
   ·rw [if_neg hc] at hb ⊢
    rw [← app3]
    simp only [List.length_append,List.length_cons,List.length_nil] at hb
    have hL:=wL0_eq t hN.lv h2 (b++JV ([40,99,111,110,115,116,32]++t.name)) (by simp only [List.length_append,List.length_cons,List.length_nil,List.length_map];omega)
    refine Ja (.inl (b++JV ([40,99,111,110,115,116,32]++t.name)++JV (Uw t.levels)++JV [41])) ?_ Z
    rw [JA e0,cond_false]
    refine Ja (.inl (b++JV ([40,99,111,110,115,116,32]++t.name)++JV (Uw t.levels)++JV [41])) ?_ Z
    rw [JA e12,cond_false]
    refine Ja (.inl (b++JV ([40,99,111,110,115,116,32]++t.name)++JV (Uw t.levels)++JV [41])) ?_ Z
    rw [JA e1,cond_false]
    refine Ja (.inl (b++JV ([40,99,111,110,115,116,32]++t.name)++JV (Uw t.levels)++JV [41])) ?_ Z
    rw [JA e2,cond_false]
    refine Ja (.inl (b++JV ([40,99,111,110,115,116,32]++t.name)++JV (Uw t.levels)++JV [41])) ?_ Z
    rw [GS e3,cond_true,GD,Option.bind_some,decide_eq_false hc,cond_false,Qy (Nat.ble_eq_true_of_le (by simp only [List.length_cons,List.length_nil];omega)),Qy (Nat.ble_eq_true_of_le (by simp only [List.length_append,List.length_cons,List.length_nil];omega))]
    refine Ja _ hL ?_
    rw [Qy (Nat.ble_eq_true_of_le (by simp only [List.length_append,List.length_cons,List.length_nil,List.length_map];omega))]
  ·rw [Q7s (by omega) e12] at hb ⊢
   rw [← app3]
   simp only [List.length_append,List.length_cons,List.length_nil] at hb
   have hw:=Ug (k:=t.kind) (by omega) (by omega)
   have hL:=wL1_eq (QX (fun rc v=>Q5g rc v.1 v.2) n) t h2 (b++JV ([40]++Kk t.kind)) (by simp only [List.length_append,List.length_cons,List.length_nil,List.length_map];omega) (fun k hk b' hb'=>write_rec n k b' (by have:=JF hk;omega) (by have:=JF hk;omega) (ht.kid hk) hb')
   refine Ja (.inl (b++JV ([40]++Kk t.kind)++JV (KL t.kids)++JV [41])) ?_ Z
   rw [JA e0,cond_false]
   refine Ja (.inl (b++JV ([40]++Kk t.kind)++JV (KL t.kids)++JV [41])) ?_ Z
   rw [JA e12,cond_false]
   refine Ja (.inl (b++JV ([40]++Kk t.kind)++JV (KL t.kids)++JV [41])) ?_ Z
   rw [JA e1,cond_false]
   refine Ja (.inl (b++JV ([40]++Kk t.kind)++JV (KL t.kids)++JV [41])) ?_ Z
   rw [JA e2,cond_false]
   refine Ja (.inl (b++JV ([40]++Kk t.kind)++JV (KL t.kids)++JV [41])) ?_ Z
   rw [JA e3,cond_false]
   refine Ja _ (Dy (by omega) (by omega)) ?_
   rw [Qy (Nat.ble_eq_true_of_le (by simp only [List.length_cons,List.length_nil];omega)),Qy (Nat.ble_eq_true_of_le (by simp only [List.length_append,List.length_cons,List.length_nil];omega))]
   refine Ja _ hL ?_
   rw [Qy (Nat.ble_eq_true_of_le (by simp only [List.length_append,List.length_cons,List.length_nil,List.length_map];omega))]
theorem m28_eq {t:Tm} {b:List Byt} (h:t.size≤2000000) (ht:OkT t) (hb:b.length+(JO t).length≤900000000):Qc7 b t=some (.inl (b++JV (JO t),())) :=
 write_rec Qk t b (by unfold Qk;omega) h ht hb
theorem cap {b:Nat} (h:b≤900000000):Nat.ble b 1000000000=true:=Nat.ble_eq_true_of_le (by omega)
theorem qL0_eq (t:Tm) (hv:∀ l∈t.levels,DX l) (hs:t.size≤2000000) (b0:Qdk) (hb:b0.length+(Uw t.levels).length≤900000000):Qj (Qba t) Qk (b0,0)=some (b0++Uw t.levels):=by
 refine app_loopS (step:=Qba t) t.levels (fun l=>[32]++Q4q l) b0 (by have:=Uv (t:=t);omega) hb (fun a x b s e hx=>?_) (fun s=>by unfold Qba;dsimp only;rw [J9];rfl)
 obtain ⟨q1,q2⟩:=ZK e
 have hm:x∈t.levels:=by rw [e];simp
 have ht:=XP (hv x hm)
 have hl:=Xq hs hm
 unfold Q4q at hx ⊢
 simp only [List.length_append,List.length_cons,List.length_nil] at hx
 unfold Qba
 dsimp only
 rw [q1,q2,cond_true,Option.bind_some,m69_eq (hv x hm) (by omega),Option.bind_some,Qy (Nat.ble_eq_true_of_le (by simp only [List.length_cons,List.length_nil];omega)),Qy (Nat.ble_eq_true_of_le (by simp only [List.length_append,List.length_cons,List.length_nil];omega)),Qy (Nat.ble_eq_true_of_le (by simp only [List.length_append,List.length_cons,List.length_nil];omega))]
 simp
theorem qL1_eq (rc:Tm→Option (List UInt8)) (t:Tm) (hs:t.size≤2000000) (b0:Qdk) (hb:b0.length+(KL t.kids).length≤900000000)
  (hr:∀ k∈t.kids,rc k=some (JO k)):Qj (Qb9 rc t) Qk (b0,0)=some (b0++KL t.kids):=by
 refine app_loopS (step:=Qb9 rc t) t.kids (fun k=>[32]++JO k) b0 (by have:=Kt t;omega) hb (fun a x b s e hx=>?_) (fun s=>by unfold Qb9;dsimp only;rw [J9];rfl)
 obtain ⟨q1,q2⟩:=ZK e
 have hm:x∈t.kids:=by rw [e];simp
 simp only [List.length_append,List.length_cons,List.length_nil] at hx
 unfold Qb9
 dsimp only
 rw [q1,q2,cond_true,Option.bind_some,hr x hm,Option.bind_some,Qy (Nat.ble_eq_true_of_le (by simp only [List.length_cons,List.length_nil];omega)),Qy (Nat.ble_eq_true_of_le (by simp only [List.length_append,List.length_cons,List.length_nil];omega))]
theorem m70_eq {k:Int} (h:4≤k) (h2:k < 12):Qbj k=some (Kk k):=by
 unfold Qbj
 rw [decide_eq_false (by omega),decide_eq_false (by omega),cond_false,Option.bind_some,cond_false]
 exact Ja _ (Dy h h2) Z
theorem ref_rec:∀ (n:Nat) (t:Tm),t.size≤n→t.size≤2000000→OkT t→QX (fun rc v=>Q5f rc v) n t=some (JO t)
 | 0,t,h,_,_=>by rw [t.size_eq] at h;omega
 | n+1,t,h,h2,ht=>by
  show Q5f (QX (fun rc v=>Q5f rc v) n) t=_
  have hN:=ht.node
  obtain ⟨k0,k1⟩:=hN.k
  have hb:=Uj t ht
  unfold Q5f
  by_cases e0:t.kind=0
  ·rw [Q7w e0]
   have:=Kz hN.ix0 hN.ix1
   rw [GS e0,cond_true,Q5a hN.ix0 hN.ix1,Option.bind_some,Qy (Nat.ble_eq_true_of_le (by simp only [List.length_cons,List.length_nil];omega))]
  by_cases e12:t.kind=12
  ·rw [Q4x e12]
   have:=Kz hN.ix0 hN.ix1
   rw [JA e0,cond_false,GS e12,cond_true,Q5a hN.ix0 hN.ix1,Option.bind_some,Qy (Nat.ble_eq_true_of_le (by simp only [List.length_cons,List.length_nil];omega))]
  by_cases e1:t.kind=1
  ·rw [Q7v e1,JA e0,cond_false,JA e12,cond_false,GS e1,cond_true]
  by_cases e2:t.kind=2
  ·obtain ⟨l,hl⟩:=Ur (hN.l2 e2)
   have hm:l∈t.levels:=by rw [hl];simp
   have hv:=hN.lv l hm
   have hL:=XP hv
   have hs:=Xq h2 hm
   rw [Q7u e2 hl,JA e0,cond_false,JA e12,cond_false,JA e1,cond_false,GS e2,cond_true,hl,show J3 [l] 0=some l from rfl,Option.bind_some,m69_eq hv (by omega),Option.bind_some,
    Qy (Nat.ble_eq_true_of_le (by simp only [List.length_cons,List.length_nil];omega)),Qy (Nat.ble_eq_true_of_le (by simp only [List.length_append,List.length_cons,List.length_nil];omega))]
   unfold Q4q;simp
  by_cases e3:t.kind=3
  ·rw [Q7t e3] at hb ⊢
   rw [JA e0,cond_false,JA e12,cond_false,JA e1,cond_false,JA e2,cond_false,GS e3,cond_true,GD,Option.bind_some]
   by_cases hc:t.levels=[]∧t.name ≠ [112,114,111,112]
   ·rw [if_pos hc,decide_eq_true hc,cond_true]
   ·rw [if_neg hc] at hb ⊢
    simp only [List.length_append,List.length_cons,List.length_nil] at hb
    rw [decide_eq_false hc,cond_false,Qy (Nat.ble_eq_true_of_le (by simp only [List.length_cons,List.length_nil];omega))]
    refine Ja _ (qL0_eq t hN.lv h2 ([40,99,111,110,115,116,32]++t.name) (by simp only [List.length_append,List.length_cons,List.length_nil];omega)) ?_
    rw [Qy (Nat.ble_eq_true_of_le (by simp only [List.length_append,List.length_cons,List.length_nil];omega))]
  ·rw [Q7s (by omega) e12] at hb ⊢
   simp only [List.length_append,List.length_cons,List.length_nil] at hb
   rw [JA e0,cond_false,JA e12,cond_false,JA e1,cond_false,JA e2,cond_false,JA e3,cond_false,m70_eq (by omega) (by omega),Option.bind_some,Qy (Nat.ble_eq_true_of_le (by simp only [List.length_cons,List.length_nil];omega))]
   refine Ja _ (qL1_eq (QX (fun rc v=>Q5f rc v) n) t h2 ([40]++Kk t.kind) (by simp only [List.length_append,List.length_cons,List.length_nil];omega) (fun k hk=>ref_rec n k (by have:=JF hk;omega) (by have:=JF hk;omega) (ht.kid hk))) ?_
   rw [Qy (Nat.ble_eq_true_of_le (by simp only [List.length_append,List.length_cons,List.length_nil];omega))]
theorem m32_eq {t:Tm} (h:t.size≤2000000) (ht:OkT t):Qc6 t=some (JO t):=ref_rec Qk t (by unfold Qk;omega) h ht
def Xi (e:Int) (t:Tm):Qdk×Int:=if e=0 then (if 65536 < (JO t).length then ([],5) else (JO t,0)) else ([],e)
theorem m14_eq {t:Tm} {e:Int} (h:t.size≤2000000) (he:Q9d t 1000000 1000000 1000000 1000000=some e):Qa3 t=some (Xi e t):=by
 unfold Qa3 Xi
 rw [he,Option.bind_some]
 by_cases h0:e=0
 ·subst h0
  rw [if_pos rfl,m32_eq h (Q0j t (by omega) he)]
  show cond (decide (65536 < ((JO t).length:Int))) _ _=_
  by_cases hl:65536 < (JO t).length
  ·rw [if_pos hl,decide_eq_true (by omega)];rfl
  ·rw [if_neg hl,decide_eq_false (by omega)];rfl
 ·rw [Q0n h0,if_neg h0];rfl
theorem u8_bts (s:Qdk):List.map Byt.u8 (JV s)=s:=by
 unfold JV
 rw [List.map_map]
 conv=>rhs;rw [← List.map_id s]
 refine List.map_congr_left fun b _=>?_
 show Byt.u8 ⟨(b.toNat:Int)⟩=b
 unfold Byt.u8
 simp
theorem all_bts (s:Qdk):List.all (JV s) (fun x:Byt=>cond (decide (0≤x.n)) (decide (x.n < 256)) false)=true:=by
 rw [List.all_eq_true]
 intro x hx
 obtain ⟨b,_,rfl⟩:=List.mem_map.1 hx
 have:=b.toNat_lt
 show cond (decide (0≤(b.toNat:Int))) (decide ((b.toNat:Int) < 256)) false=true
 rw [decide_eq_true (by omega),decide_eq_true (by omega)];rfl
theorem WG (v:List Byt) (s:Qdk) (hv:v=JV s) (hs:s ≠ []):Option.bind (some (v.length:Int)) (fun n=>cond (decide (65536 < n)) (some (([]:List UInt8),(5:Int))) (Qc (cond (List.all v (fun x:Byt=>cond (decide (0≤x.n)) (decide (x.n < 256)) false)) (!(List.isEmpty v)) false) (some ((List.map Byt.u8 v),0))))=some (if 65536 < s.length then ([],5) else (s,0)):=by
 subst hv
 rw [Option.bind_some,KQ]
 by_cases hl:65536 < s.length
 ·rw [if_pos hl,decide_eq_true (by omega)];rfl
 ·rw [if_neg hl,decide_eq_false (by omega),cond_false,Qy (by
   rw [all_bts,cond_true]
   cases s with
   | nil=>exact (hs rfl).elim
   | cons x s=>rfl),u8_bts]
theorem name_ne {s:Qdk} (h:Z4 s=true):s ≠ []:=by
 rintro rfl
 revert h
 decide
end
section
open Go.RowKit
set_option maxRecDepth 100000
theorem en_26:Qe Tryz.prog 26:=enters_of Tryz.func26 (by kernel_rfl) rfl
def Q47 (rc:Tm×Int→Option (Int)) (a0:Tm) (a1:Int):Option (Int) :=
 Option.bind (Qj (σ:=Int×Int) (β:=Int) (fun s5=>Option.bind (cond ((decide (s5.2 < (a0.levels.length:Int)))) (some (decide (0≤s5.1))) (some false)) fun (v7:Bool)=>cond v7 (Option.bind (J3 a0.levels s5.2) fun (x8:Lvl)=>some (.next ((QE (s5.1 - (x8.vs.length:Int))),(QE (s5.2+1))))) (some (.done s5.1))) Qk ((QE ((QE (a1 - 1)) - (a0.levels.length:Int))),0)) fun (v6:Int)=>Option.bind (Qj (σ:=Int×Int) (β:=Int) (fun s15=>Option.bind (cond ((decide (s15.2 < (a0.kids.length:Int)))) (some (decide (0≤s15.1))) (some false)) fun (v17:Bool)=>cond v17 (Option.bind (J3 a0.kids s15.2) fun (x18:Tm)=>Option.bind (rc (x18,s15.1)) fun (x19:Int)=>some (.next (x19,(QE (s15.2+1))))) (some (.done s15.1))) Qk (v6,0)) fun (v16:Int)=>cond ((decide (100 < (a0.name.length:Int)))) (some (-1)) (some v16)
def m26r:Tm×Int→Option (Int):=QX (fun rc v=>Q47 rc v.1 v.2) Qk
def Qaz (a0:Tm) (a1:Int):Option (Int):=m26r (a0,a1)
noncomputable def k26:KF UV:=⟨[.stc .t25,.int .i64],[.int .i64],fun v=>Qaz v.1 v.2⟩
noncomputable def H26:Hints UV:=⟨[(3,⟨[([.reg 1],.int .i64),([.reg 5],.int .i64)],[([.reg 1],.int .i64)],false⟩),(4,⟨[([.reg 21],.bool)],[],false⟩),(10,⟨[([.reg 1],.int .i64),([.reg 6],.int .i64)],[([.reg 1],.int .i64)],false⟩),(11,⟨[([.reg 41],.bool)],[],false⟩)],[]⟩
theorem k26s_ok (rc:tup k26.args→Option (tup k26.res)) (H:∀ u r,rc u=some r→FunW W0 Tryz.prog 26 (QG DV k26.args u) (Qw (QG DV k26.res r))):Jo DV W0 Tryz.prog 26 ⟨k26.args,k26.res,fun v=>Q47 rc v.1 v.2⟩:=Js (C:=Qdj) rfl Qp Qf (Qo (tb:=[(26,(⟨k26.args,k26.res,rc⟩:KF UV))]) Qf ⟨⟨rfl,H⟩,trivial⟩) J2 Tryz.func26 en_26 H26 _ rfl (fun v=>by kernel_rfl)
theorem k26_ok:Jo DV W0 Tryz.prog 26 k26:=⟨rfl,fun v r h=>Jy (C:=fun u r=>FunW W0 Tryz.prog 26 (QG DV k26.args u) (Qw (QG DV k26.res r))) (fun rc H u r h=>(k26s_ok rc H).2 u r h) Qk v r h⟩
theorem en_11:Qe Tryz.prog 11:=enters_of Tryz.func11 (by kernel_rfl) rfl
def Q7k (a0:Tm) (a1:Int):Option (Bool) :=
 Option.bind (Qaz a0 a1) fun (x1:Int)=>some (decide (0≤x1))
noncomputable def k11:KF UV:=⟨[.stc .t25,.int .i64],[.bool],fun v=>Q7k v.1 v.2⟩
noncomputable def H11:Hints UV:=⟨[],[]⟩
theorem k11_ok:Jo DV W0 Tryz.prog 11 k11:=Js (C:=Qdj) rfl Qp Qf (Qo (tb:=[(26,k26)]) Qf ⟨k26_ok,trivial⟩) J2 Tryz.func11 en_11 H11 k11 rfl (fun v=>by kernel_rfl)
theorem en_12:Qe Tryz.prog 12:=enters_of Tryz.func12 (by kernel_rfl) rfl
def Qap:Option (Bool) :=
 Option.bind (Qbr ([40,32,108,97,109,10,112,114,111,112,32,35,48,32,41]:List UInt8)) fun (x1:Tm×Int×Int)=>Option.bind (Q8g x1.1) fun (x2:(List UInt8)×Int)=>Option.bind (Qbr ([40,97,112,112,32,102,41]:List UInt8)) fun (x3:Tm×Int×Int)=>Option.bind (Qbr ([35,48,49]:List UInt8)) fun (x4:Tm×Int×Int)=>Option.bind (cond ((x1.2.2==0)) (cond ((x2.2==0)) (cond ((x2.1==([40,108,97,109,32,112,114,111,112,32,35,48,41]:List UInt8))) (cond ((x3.2.1==6)) (cond ((x3.2.2==4)) (cond ((x4.2.1==0)) (some (x4.2.2==4)) (some false)) (some false)) (some false)) (some false)) (some false)) (some false)) fun (v5:Bool)=>some v5
noncomputable def k12:KF UV:=⟨[],[.bool],fun v=>Qap⟩
noncomputable def H12:Hints UV:=⟨[(5,⟨[([.reg 0],.bool)],[],false⟩)],[]⟩
theorem k12_ok:Jo DV W0 Tryz.prog 12 k12:=Js (C:=Qdj) rfl Qp Qf (Qo (tb:=[(13,k13),(15,k15)]) Qf ⟨Q03,k15_ok,trivial⟩) J2 Tryz.func12 en_12 H12 k12 rfl (fun v=>by kernel_rfl)
def Qcp (a0:Tm):Option (Bool) :=
 Option.bind (Q7k a0 200) fun (x1:Bool)=>cond ((!x1)) (Option.bind (Qap) fun (x2:Bool)=>some x2) (Option.bind (Q8g a0) fun (x3:(List UInt8)×Int)=>Option.bind (Qa3 a0) fun (x4:(List UInt8)×Int)=>Option.bind (Option.bind (Qap) fun (x7:Bool)=>cond x7 (cond ((x3.1==x4.1)) (some (x3.2==x4.2)) (some false)) (some false)) fun (v6:Bool)=>some v6)
noncomputable def Qct:KF UV:=⟨[.stc .t25],[.bool],fun v=>Qcp v⟩
noncomputable def H3:Hints UV:=⟨[(6,⟨[([.reg 2],.bool)],[],false⟩)],[]⟩
end
section
open Go.RowKit Go.Shelf
theorem m13_ok1 {t:Tm} (h:t.size≤2000000) (ht:OkT t) (he:Q9z t 1000000 1000000 1000000 1000000=some 0):Q8g t=some (if 65536 < (JO t).length then ([],5) else (JO t,0)):=by
 have hN:=ht.node
 obtain ⟨k0,k1⟩:=hN.k
 have hb:=Uj t ht
 unfold Q8g
 rw [he,Option.bind_some,show ((0:Int) != 0)=false from rfl,cond_false]
 by_cases e0:t.kind=0
 ·rw [Q7w e0]
  have:=Kz hN.ix0 hN.ix1
  rw [GS e0,cond_true,Q6p hN.ix0 hN.ix1,Option.bind_some]
  rw [Qy (Nat.ble_eq_true_of_le (by simp only [List.length_cons,List.length_nil];omega)),Qy (Nat.ble_eq_true_of_le (by simp only [List.length_append,List.length_cons,List.length_nil];omega))]
  exact WG _ _ rfl (by simp)
 by_cases e12:t.kind=12
 ·rw [Q4x e12]
  have:=Kz hN.ix0 hN.ix1
  rw [JA e0,cond_false,GS e12,cond_true,Q6p hN.ix0 hN.ix1,Option.bind_some]
  rw [Qy (Nat.ble_eq_true_of_le (by simp only [List.length_cons,List.length_nil];omega)),Qy (Nat.ble_eq_true_of_le (by simp only [List.length_append,List.length_cons,List.length_nil];omega))]
  exact WG _ _ rfl (by simp)
 by_cases e1:t.kind=1
 ·rw [Q7v e1,JA e0,cond_false,JA e12,cond_false,GS e1,cond_true,Qy (Nat.ble_eq_true_of_le (by decide))]
  exact WG _ _ rfl (by simp)
 by_cases e2:t.kind=2
 ·obtain ⟨l,hl⟩:=Ur (hN.l2 e2)
  have hm:l∈t.levels:=by rw [hl];simp
  have hv:=hN.lv l hm
  rw [Q7u e2 hl] at hb ⊢
  simp only [List.length_append,List.length_cons,List.length_nil] at hb
  rw [JA e0,cond_false,JA e12,cond_false,JA e1,cond_false,GS e2,cond_true,hl,show J3 [l] 0=some l from rfl,Option.bind_some,Q5d hv (Xq h hm),Option.bind_some,Qy (Nat.ble_eq_true_of_le (by simp only [List.length_cons,List.length_nil];omega)),Qy (Nat.ble_eq_true_of_le (by simp only [List.length_append,List.length_cons,List.length_nil];omega)),Qy (Nat.ble_eq_true_of_le (by simp only [List.length_append,List.length_cons,List.length_nil];omega))]
  exact WG _ _ rfl (by simp)
 by_cases e3:t.kind=3
 ·rw [Q7t e3] at hb ⊢
  rw [JA e0,cond_false,JA e12,cond_false,JA e1,cond_false,JA e2,cond_false,GS e3,cond_true,GD,Option.bind_some]
  by_cases hc:t.levels=[]∧t.name ≠ [112,114,111,112]
  ·rw [if_pos hc] at hb ⊢
   rw [decide_eq_true hc,cond_true,Qy (Nat.ble_eq_true_of_le (by omega))]
   exact WG _ _ Z (name_ne (hN.nk e3))
  ·rw [if_neg hc] at hb ⊢
   simp only [List.length_append,List.length_cons,List.length_nil] at hb
   rw [decide_eq_false hc,cond_false,Qy (Nat.ble_eq_true_of_le (by simp only [List.length_cons,List.length_nil];omega)),Qy (Nat.ble_eq_true_of_le (by simp only [List.length_append,List.length_cons,List.length_nil];omega))]
   refine Ja _ (wL0_eq t hN.lv h (JV ([40,99,111,110,115,116,32]++t.name)) (by simp only [List.length_append,List.length_cons,List.length_nil,List.length_map];omega)) ?_
   rw [Qy (Nat.ble_eq_true_of_le (by simp only [List.length_append,List.length_cons,List.length_nil,List.length_map];omega))]
   exact WG _ _ (by rw [← Z2,← Z2]) (by simp)
 ·rw [Q7s (by omega) e12] at hb ⊢
  simp only [List.length_append,List.length_cons,List.length_nil] at hb
  rw [JA e0,cond_false,JA e12,cond_false,JA e1,cond_false,JA e2,cond_false,JA e3,cond_false]
  refine Ja _ (Dy (by omega) (by omega)) ?_
  rw [Qy (Nat.ble_eq_true_of_le (by simp only [List.length_cons,List.length_nil];omega)),Qy (Nat.ble_eq_true_of_le (by simp only [List.length_append,List.length_cons,List.length_nil];omega))]
  refine Ja _ (wL1_eq m28r t h (JV ([40]++Kk t.kind)) (by simp only [List.length_append,List.length_cons,List.length_nil,List.length_map];omega) (fun k hk b' hb'=>m28_eq (by have:=JF hk;omega) (ht.kid hk) hb')) ?_
  rw [Qy (Nat.ble_eq_true_of_le (by simp only [List.length_append,List.length_cons,List.length_nil,List.length_map];omega))]
  exact WG _ _ (by rw [← Z2,← Z2]) (by simp)
theorem print_eq (t:Tm) (h:t.size≤2000000):∃ e,Q8g t=some (Xi e t)∧Qa3 t=some (Xi e t):=by
 obtain ⟨e,h1,h2⟩:=m27_eq t 1000000 1000000 (by omega)
 refine ⟨e,?_,m14_eq h h1⟩
 by_cases h0:e=0
 ·subst h0
  unfold Xi
  rw [if_pos rfl]
  exact m13_ok1 h (Q0j t (by omega) h1) h2
 ·unfold Q8g Xi
  rw [h2,Option.bind_some,Q0n h0,if_neg h0];rfl
theorem awake_true:Qap=some true:=by kernel_rfl
theorem Wu:∀ (n:Nat) (t:Tm) (a:Int),t.size≤n→t.size≤2000000→∃ r,QX (fun rc v=>Q47 rc v.1 v.2) n (t,a)=some r
 | 0,t,a,h,_=>by rw [t.size_eq] at h;omega
 | n+1,t,a,h,h2=>by
  have hl:=Kt t
  have hv:=Uv (t:=t)
  show ∃ r,Q47 (QX (fun rc v=>Q47 rc v.1 v.2) n) t a=some r
  unfold Q47
  obtain ⟨r1,h3,-⟩:=YA (step:=fun (s5:Int×Int)=>Option.bind (cond ((decide (s5.2 < (t.levels.length:Int)))) (some (decide (0≤s5.1))) (some false)) fun (v7:Bool)=>cond v7 (Option.bind (J3 t.levels s5.2) fun (x8:Lvl)=>some (LO.next (β:=Int) ((QE (s5.1 - (x8.vs.length:Int))),(QE (s5.2+1))))) (some (.done s5.1)))
   t.levels (fun i (s:Int)=>(s,i)) (fun _ _=>True) (fun _=>True) (by omega)
   (fun x y b s e _=>by
    obtain ⟨q1,q2⟩:=ZK e
    dsimp only
    rw [q1,q2]
    cases hd:decide (0≤s) with
    | false=>exact .inl ⟨_,rfl,trivial⟩
    | true=>exact .inr ⟨_,rfl,trivial⟩)
   (fun s _=>⟨s,by dsimp only;rw [J9];rfl,trivial⟩) (QE ((QE (a - 1)) - (t.levels.length:Int))) trivial
  obtain ⟨r2,h4,-⟩:=YA (step:=fun (s15:Int×Int)=>Option.bind (cond ((decide (s15.2 < (t.kids.length:Int)))) (some (decide (0≤s15.1))) (some false)) fun (v17:Bool)=>cond v17 (Option.bind (J3 t.kids s15.2) fun (x18:Tm)=>Option.bind (QX (fun rc v=>Q47 rc v.1 v.2) n (x18,s15.1)) fun (x19:Int)=>some (LO.next (β:=Int) (x19,(QE (s15.2+1))))) (some (.done s15.1)))
   t.kids (fun i (s:Int)=>(s,i)) (fun _ _=>True) (fun _=>True) (by omega)
   (fun x y b s e _=>by
    obtain ⟨q1,q2⟩:=ZK e
    have hy:=JF (t:=t) (k:=y) (by rw [e];simp)
    obtain ⟨r,hr⟩:=Wu n y s (by omega) (by omega)
    dsimp only
    rw [q1,q2]
    cases hd:decide (0≤s) with
    | false=>exact .inl ⟨_,rfl,trivial⟩
    | true =>
     refine .inr ⟨r,?_,trivial⟩
     show Option.bind (QX (fun rc v=>Q47 rc v.1 v.2) n (y,s)) _=_
     rw [hr];rfl)
   (fun s _=>⟨s,by dsimp only;rw [J9];rfl,trivial⟩) r1 trivial
  have key:∃ r,(cond ((decide (100 < (t.name.length:Int)))) (some (-1)) (some r2))=some r:=by cases decide (100 < (t.name.length:Int)) <;> exact ⟨_,rfl⟩
  obtain ⟨r,hr⟩:=key
  exact ⟨r,Ja _ h3 (Ja _ h4 hr)⟩
theorem Gi (t:Tm) (a:Int) (h:t.size≤2000000):∃ b,Q7k t a=some b:=by
 obtain ⟨r,hr⟩:=Wu Qk t a (by unfold Qk;omega) h
 exact ⟨_,Ja (x:=Qaz t a) r hr Z⟩
end
section
open Go.RowKit Go.Shelf
variable {P:Program} {ρ:Ren}
theorem copyCheck_in (L:Lays.n240 P ρ) (X:Builder.X72 P ρ) {T:TypeId} (hT:liesAt P P.depth T (2 / P.cellsOf T) 0 (ρ.t 72) 1=true) (b:Nat) (w:World) (h0:w.cell? ⟨b,0,none⟩=some (.pointer none)) (hsh:w.shape? b=some (T,2)) (hfz:w.frozen? ⟨b,0,none⟩=false) :
  Calls P (ρ.f 240) #[.pointer (some ⟨b,0,none⟩)] w fun e w'=>e=.returned (.tuple #[])∧w'=w.setCell ⟨b,0,none⟩ (.pointer (some ⟨b,0,none⟩)):=by
 obtain ⟨j,hj,hjs⟩:=Option.map_eq_some_iff.1 X.sizeBuilder
 have mixed:=L.mixed
 have t72:=L.t72;have a72:=L.a72;have z72:=L.z72;have v72:=L.v72;have u72:=run_underlying L.t72
 have t70:=L.t70;have a70:=L.a70;have z70:=L.z70;have v70:=L.v70;have u70:=run_underlying L.t70
 have t9:=L.t9;have a9:=L.a9;have z9:=L.z9;have v9:=L.v9;have u9:=run_underlying L.t9
 have t4:=L.t4;have a4:=L.a4;have z4:=L.z4;have v4:=L.v4;have u4:=run_underlying L.t4
 have t164:=L.t164;have a164:=L.a164;have z164:=L.z164;have v164:=L.v164;have u164:=run_underlying L.t164
 go_enter L.f240,Body.n240_ntmps ρ
 go_wp2
 rw [Lib.run_to_unsafe w ⟨b,0,none⟩ L.t70 L.t164 hj (by rw [hjs];decide) hsh (Nat.zero_lt_succ 1)]
 simp only [Result.andThen]
 rw [Oper.upon_value]
 go_wp2
 rw [run_callFunc_extern L.f276 (by kernel_rfl) (by kernel_rfl) (by kernel_rfl) (e:=Extern.AbiNoEscape.same) (by kernel_rfl)]
 rw [Lib.run_noEscape]
 simp only [Result.andThen]
 rw [Oper.upon_value]
 go_wp2
 rw [Lib.run_from_unsafe w ⟨b,0,none⟩ L.t164 L.t70 hj hsh hT]
 simp only [Result.andThen]
 rw [Oper.upon_value]
 go_wp2
 go_end0
 exact ⟨Z,Z⟩
theorem cc95_ok:X7 W0 DV Tryz.prog (Qaq DV 112 95):=ccH_ok Qf en_112 (fun b w h=>Any.Builder_copyCheck_used Kc Tryz.bx156.toX72 b w h) (fun b w h h2 h3=>copyCheck_in Kc Tryz.bx156.toX72 (T:=95) (by kernel_rfl) b w h h2 h3)
theorem UM:X7 W0 DV Tryz.prog (Qbc (Qaq DV 112 62) (Qaq DV 112 95)):=Z3 Q8s cc95_ok
end
section
open Go.RowKit
set_option maxRecDepth 100000
theorem en_88:Qe Tryz.prog 88:=enters_of Tryz.func88 (by kernel_rfl) rfl
def m88 (a0:List Qde) (a1:List Qde):Option (Bool) :=
 cond (((a0.length:Int) != (a1.length:Int))) (some false) (Option.bind (Qj (σ:=Int) (β:=Unit⊕Bool) (fun s3=>cond ((decide (s3 < (a0.length:Int)))) (Option.bind (J3 a0 s3) fun (x5:Qde)=>Option.bind (J3 a1 s3) fun (x6:Qde)=>cond ((!((x5.1==x6.1)&&(x5.2==x6.2)))) (some (.done (.inr false))) (some (.next (QE (s3+1))))) (some (.done (.inl ())))) Qk 0) (Sum.elim (fun (v4:Unit)=>some true) (fun (o7:Bool)=>some o7)))
noncomputable def k88:KF UV:=⟨[.sl .t142,.sl .t142],[.bool],fun v=>m88 v.1 v.2⟩
noncomputable def H88:Hints UV:=⟨[(5,⟨[([.reg 13],.int .i64)],[],true⟩)],[(10,[])]⟩
theorem k88_ok:Jo DV W0 Tryz.prog 88 k88:=Js (C:=Qdj) rfl Qp Qf (Qo (tb:=[]) Qf trivial) J2 Tryz.func88 en_88 H88 k88 rfl (fun v=>by kernel_rfl)
theorem en_42:Qe Tryz.prog 42:=enters_of Tryz.func42 (by kernel_rfl) rfl
def m42 (a0:Lvl) (a1:Lvl):Option (Bool) :=
 Option.bind (cond ((a0.c==a1.c)) (Option.bind (m88 a0.vs a1.vs) fun (x3:Bool)=>some x3) (some false)) fun (v2:Bool)=>some v2
noncomputable def k42:KF UV:=⟨[.stc .t82,.stc .t82],[.bool],fun v=>m42 v.1 v.2⟩
noncomputable def H42:Hints UV:=⟨[(1,⟨[([.reg 4],.bool)],[],false⟩)],[]⟩
theorem k42_ok:Jo DV W0 Tryz.prog 42 k42:=Js (C:=Qdj) rfl Qp Qf (Qo (tb:=[(88,k88)]) Qf ⟨k88_ok,trivial⟩) J2 Tryz.func42 en_42 H42 k42 rfl (fun v=>by kernel_rfl)
theorem en_19:Qe Tryz.prog 19:=enters_of Tryz.func19 (by kernel_rfl) rfl
theorem en_41:Qe Tryz.prog 41:=enters_of Tryz.func41 (by kernel_rfl) rfl
theorem en_43:Qe Tryz.prog 43:=enters_of Tryz.func43 (by kernel_rfl) rfl
noncomputable def B41_19:IH UV:=⟨Tryz.f41,⟨[(5,⟨[([.reg 17],.int .i64)],[],true⟩)],[]⟩,.lab [([.reg 6],.bool)]⟩
noncomputable def B43_19:IH UV:=⟨Tryz.f43,⟨[(5,⟨[([.reg 17],.int .i64)],[],true⟩)],[]⟩,.lab [([.reg 6],.bool)]⟩
def Q7a (rc:Tm×Tm→Option (Bool)) (a0:Tm) (a1:Tm):Option (Bool) :=
 Option.bind (cond ((a0.kind==a1.kind)) (cond ((a0.index==a1.index)) (cond ((a0.name==a1.name)) (Option.bind (cond (((a0.levels.length:Int) != (a1.levels.length:Int))) (some false) (Option.bind (Qj (σ:=Int) (β:=Unit⊕Bool) (fun s26=>cond ((decide (s26 < (a0.levels.length:Int)))) (Option.bind (J3 a0.levels s26) fun (x28:Lvl)=>Option.bind (J3 a1.levels s26) fun (x29:Lvl)=>Option.bind (m42 x28 x29) fun (x30:Bool)=>cond ((!x30)) (some (.done (.inr false))) (some (.next (QE (s26+1))))) (some (.done (.inl ())))) Qk 0) (Sum.elim (fun (v27:Unit)=>some true) (fun (o31:Bool)=>some o31)))) fun (v22:Bool)=>cond v22 (Option.bind (cond (((a0.kids.length:Int) != (a1.kids.length:Int))) (some false) (Option.bind (Qj (σ:=Int) (β:=Unit⊕Bool) (fun s36=>cond ((decide (s36 < (a0.kids.length:Int)))) (Option.bind (J3 a0.kids s36) fun (x38:Tm)=>Option.bind (J3 a1.kids s36) fun (x39:Tm)=>Option.bind (rc (x38,x39)) fun (x40:Bool)=>cond ((!x40)) (some (.done (.inr false))) (some (.next (QE (s36+1))))) (some (.done (.inl ())))) Qk 0) (Sum.elim (fun (v37:Unit)=>some true) (fun (o41:Bool)=>some o41)))) fun (v32:Bool)=>some v32) (some false)) (some false)) (some false)) (some false)) fun (v21:Bool)=>some v21
def m19r:Tm×Tm→Option (Bool):=QX (fun rc v=>Q7a rc v.1 v.2) Qk
def m19 (a0:Tm) (a1:Tm):Option (Bool):=m19r (a0,a1)
noncomputable def k19:KF UV:=⟨[.stc .t25,.stc .t25],[.bool],fun v=>m19 v.1 v.2⟩
noncomputable def H19:Hints UV:=⟨[(1,⟨[([.reg 4],.bool)],[],false⟩)],[]⟩
theorem k19s_ok (rc:tup k19.args→Option (tup k19.res)) (H:∀ u r,rc u=some r→FunW W0 Tryz.prog 19 (QG DV k19.args u) (Qw (QG DV k19.res r))):Jo DV W0 Tryz.prog 19 ⟨k19.args,k19.res,fun v=>Q7a rc v.1 v.2⟩:=Js (C:=Qdj) rfl Qp Qf (Qo (tb:=[(19,(⟨k19.args,k19.res,rc⟩:KF UV)),(42,k42)]) Qf ⟨⟨rfl,H⟩,k42_ok,trivial⟩) (YE (C:=Qdj) rfl Qp Qf (Qo (tb:=[(19,(⟨k19.args,k19.res,rc⟩:KF UV)),(42,k42)]) Qf ⟨⟨rfl,H⟩,k42_ok,trivial⟩) J2 (I:=[(41,B41_19),(43,B43_19)]) ⟨⟨Tryz.func41,en_41⟩,⟨Tryz.func43,en_43⟩,trivial⟩ 8) Tryz.func19 en_19 H19 _ rfl (fun v=>by kernel_rfl)
theorem k19_ok:Jo DV W0 Tryz.prog 19 k19:=⟨rfl,fun v r h=>Jy (C:=fun u r=>FunW W0 Tryz.prog 19 (QG DV k19.args u) (Qw (QG DV k19.res r))) (fun rc H u r h=>(k19s_ok rc H).2 u r h) Qk v r h⟩
theorem en_131:Qe Tryz.prog 131:=enters_of Tryz.func131 (by kernel_rfl) rfl
def Q14 (a0:Tm):Option (Bool) :=
 Option.bind (m19 a0 (Tm.mk 0 0 ([]:List UInt8) ([]) ([]))) fun (x1:Bool)=>some x1
noncomputable def k131:KF UV:=⟨[.stc .t25],[.bool],fun v=>Q14 v⟩
noncomputable def H131:Hints UV:=⟨[],[]⟩
theorem Q2x:Jo DV W0 Tryz.prog 131 k131:=Js (C:=Qdj) rfl Qp Qf (Qo (tb:=[(19,k19)]) Qf ⟨k19_ok,trivial⟩) J2 Tryz.func131 en_131 H131 k131 rfl (fun v=>by kernel_rfl)
theorem en_92:Qe Tryz.prog 92:=enters_of Tryz.func92 (by kernel_rfl) rfl
noncomputable def B61_92:IH UV:=⟨Tryz.f61,⟨[],[]⟩,.st⟩
def Q9m (b:List Byt) (a1:List UInt8):Option (((List Byt)×Unit)⊕((Int×Int)×(List Byt))) :=
 Option.bind (Q2i a1) fun (x1:Bool)=>cond ((!x1)) (some (.inr ((29,0),b))) (Qc (Nat.ble (([32]:List UInt8).length+a1.length) 1000000000) (Qc (Nat.ble (b.length+(([32]:List UInt8)++a1).length) 1000000000) (some (.inl ((b++(List.map (fun b:UInt8=>(⟨b.toNat⟩:Byt)) (([32]:List UInt8)++a1))),())))))
noncomputable def k92:PF UV:=⟨.bld 95 5 .t5,[.str],[],.p2 69,fun b v=>Q9m b v⟩
noncomputable def H92:Hints UV:=⟨[],[]⟩
theorem Q5t:ZD DV W0 Tryz.prog 92 k92:=YQ (C:=Qdj) rfl Qp Qf (Qo (tb:=[(110,k110)]) Qf ⟨Q2z,trivial⟩) (YE (C:=Qdj) rfl Qp Qf (Qo (tb:=[(110,k110)]) Qf ⟨Q2z,trivial⟩) UM (I:=[(61,B61_92)]) ⟨⟨Tryz.func61,D8⟩,trivial⟩ 8) Tryz.func92 en_92 H92 k92 rfl rfl (fun b v=>by kernel_rfl)
theorem en_93:Qe Tryz.prog 93:=enters_of Tryz.func93 (by kernel_rfl) rfl
noncomputable def B61_93:IH UV:=⟨Tryz.f61,⟨[],[]⟩,.st⟩
def Q9l (b:List Byt) (a1:Int):Option (((List Byt)×Unit)⊕((Int×Int)×(List Byt))) :=
 Option.bind (cond ((decide (a1 < 0))) (some true) (some (decide (1000000≤a1)))) fun (v1:Bool)=>cond v1 (some (.inr ((2,0),b))) (Option.bind (Q7i a1) fun (x2:(List UInt8))=>Qc (Nat.ble (([32]:List UInt8).length+x2.length) 1000000000) (Qc (Nat.ble (b.length+(([32]:List UInt8)++x2).length) 1000000000) (some (.inl ((b++(List.map (fun b:UInt8=>(⟨b.toNat⟩:Byt)) (([32]:List UInt8)++x2))),())))))
noncomputable def k93:PF UV:=⟨.bld 95 5 .t5,[.int .i64],[],.p2 69,fun b v=>Q9l b v⟩
noncomputable def H93:Hints UV:=⟨[(0,⟨[([.reg 9],.bool)],[],false⟩)],[(3,[6])]⟩
theorem Q5s:ZD DV W0 Tryz.prog 93 k93:=YQ (C:=Qdj) rfl Qp Qf (Qo (tb:=[(62,k62)]) Qf ⟨GM,trivial⟩) (YE (C:=Qdj) rfl Qp Qf (Qo (tb:=[(62,k62)]) Qf ⟨GM,trivial⟩) UM (I:=[(61,B61_93)]) ⟨⟨Tryz.func61,D8⟩,trivial⟩ 8) Tryz.func93 en_93 H93 k93 rfl rfl (fun b v=>by kernel_rfl)
theorem en_95:Qe Tryz.prog 95:=enters_of Tryz.func95 (by kernel_rfl) rfl
noncomputable def B61_95:IH UV:=⟨Tryz.f61,⟨[],[]⟩,.st⟩
def Q89 (b:List Byt) (a1:Tm):Option (((List Byt)×Unit)⊕((Int×Int)×(List Byt))) :=
 Option.bind (Q8g a1) fun (x1:(List UInt8)×Int)=>cond ((x1.2 != 0)) (some (.inr ((x1.2,0),b))) (Qc (Nat.ble (([32]:List UInt8).length+x1.1.length) 1000000000) (Qc (Nat.ble (b.length+(([32]:List UInt8)++x1.1).length) 1000000000) (some (.inl ((b++(List.map (fun b:UInt8=>(⟨b.toNat⟩:Byt)) (([32]:List UInt8)++x1.1))),())))))
noncomputable def k95:PF UV:=⟨.bld 95 5 .t5,[.stc .t25],[],.p2 69,fun b v=>Q89 b v⟩
noncomputable def H95:Hints UV:=⟨[],[]⟩
theorem Q5r:ZD DV W0 Tryz.prog 95 k95:=YQ (C:=Qdj) rfl Qp Qf (Qo (tb:=[(13,k13)]) Qf ⟨Q03,trivial⟩) (YE (C:=Qdj) rfl Qp Qf (Qo (tb:=[(13,k13)]) Qf ⟨Q03,trivial⟩) UM (I:=[(61,B61_95)]) ⟨⟨Tryz.func61,D8⟩,trivial⟩ 8) Tryz.func95 en_95 H95 k95 rfl rfl (fun b v=>by kernel_rfl)
theorem en_96:Qe Tryz.prog 96:=enters_of Tryz.func96 (by kernel_rfl) rfl
theorem en_132:Qe Tryz.prog 132:=enters_of Tryz.func132 (by kernel_rfl) rfl
noncomputable def B61_96:IH UV:=⟨Tryz.f61,⟨[],[]⟩,.st⟩
noncomputable def B132_96:IH UV:=⟨Tryz.f132,⟨[(10,⟨[([.reg 53],.bool)],[],false⟩)],[]⟩,.st⟩
def Q76 (rc:(List Byt)×Tr→Option (((List Byt)×Unit)⊕((Int×Int)×(List Byt)))) (b:List Byt) (a1:Tr):Option (((List Byt)×Unit)⊕((Int×Int)×(List Byt))) :=
 Option.bind (cond ((a1.kind==0)) (cond ((a1.var==0)) (some ((a1.branches.length:Int)==0)) (some false)) (some false)) fun (v1:Bool)=>Option.bind (α:=((List Byt))⊕(((List Byt)×Unit)⊕((Int×Int)×(List Byt)))) (cond v1 (Qc (Nat.ble (b.length+([32,40,108,101,97,102]:List UInt8).length) 1000000000) (Option.bind (Q89 (b++(List.map (fun b:UInt8=>(⟨b.toNat⟩:Byt)) ([32,40,108,101,97,102]:List UInt8))) a1.body) (Sum.elim (fun (r101:(List Byt)×Unit)=>some (.inl r101.1)) (fun (e102:(Int×Int)×(List Byt))=>some (.inr (.inr ((e102.1.1,e102.1.2),e102.2))))))) (Option.bind (cond ((a1.kind==1)) (Option.bind (Q14 a1.body) fun (x105:Bool)=>some x105) (some false)) fun (v104:Bool)=>cond v104 (Qc (Nat.ble (b.length+([32,40,115,112,108,105,116]:List UInt8).length) 1000000000) (Option.bind (Q9l (b++(List.map (fun b:UInt8=>(⟨b.toNat⟩:Byt)) ([32,40,115,112,108,105,116]:List UInt8))) a1.var) (Sum.elim (fun (r106:(List Byt)×Unit)=>Option.bind (Qj (σ:=Int×(List Byt)) (β:=((List Byt))⊕(((List Byt)×Unit)⊕((Int×Int)×(List Byt)))) (fun s174=>cond ((decide (s174.1 < (a1.branches.length:Int)))) (Option.bind (α:=((List Byt))⊕(((List Byt)×Unit)⊕((Int×Int)×(List Byt)))) (Option.bind (J3 a1.branches s174.1) fun (x187:Qdl)=>cond ((!x187.absurd)) (Qc (Nat.ble (s174.2.length+([32,40,98,114,97,110,99,104]:List UInt8).length) 1000000000) (Option.bind (Q9m (s174.2++(List.map (fun b:UInt8=>(⟨b.toNat⟩:Byt)) ([32,40,98,114,97,110,99,104]:List UInt8))) x187.ctor) (Sum.elim (fun (r188:(List Byt)×Unit)=>Option.bind (rc (r188.1,x187.tree)) (Sum.elim (fun (r190:(List Byt)×Unit)=>Qc (Nat.ble (r190.1.length+([41]:List UInt8).length) 1000000000) (some (.inl (r190.1++(List.map (fun b:UInt8=>(⟨b.toNat⟩:Byt)) ([41]:List UInt8)))))) (fun (e191:(Int×Int)×(List Byt))=>some (.inr (.inr ((e191.1.1,e191.1.2),e191.2)))))) (fun (e189:(Int×Int)×(List Byt))=>some (.inr (.inr ((e189.1.1,e189.1.2),e189.2))))))) (Qc (Nat.ble (s174.2.length+([32,40,97,98,115,117,114,100]:List UInt8).length) 1000000000) (Option.bind (Q9m (s174.2++(List.map (fun b:UInt8=>(⟨b.toNat⟩:Byt)) ([32,40,97,98,115,117,114,100]:List UInt8))) x187.ctor) (Sum.elim (fun (r192:(List Byt)×Unit)=>Option.bind (cond ((x187.tree.kind != 0)) (some true) (Option.bind (Q14 x187.tree.body) fun (x196:Bool)=>cond ((!x196)) (some true) (cond ((x187.tree.var != 0)) (some true) (some (decide (0 < (x187.tree.branches.length:Int))))))) fun (v195:Bool)=>cond v195 (some (.inr (.inr ((3,0),r192.1)))) (Qc (Nat.ble (r192.1.length+([41]:List UInt8).length) 1000000000) (some (.inl (r192.1++(List.map (fun b:UInt8=>(⟨b.toNat⟩:Byt)) ([41]:List UInt8))))))) (fun (e193:(Int×Int)×(List Byt))=>some (.inr (.inr ((e193.1.1,e193.1.2),e193.2)))))))) (Sum.elim (fun (v186:(List Byt))=>some (.next ((QE (s174.1+1)),v186))) (fun (o197:((List Byt)×Unit)⊕((Int×Int)×(List Byt)))=>some (.done (.inr o197))))) (some (.done (.inl s174.2)))) Qk (0,r106.1)) (Sum.elim (fun (v175:(List Byt))=>some (.inl v175)) (fun (o198:((List Byt)×Unit)⊕((Int×Int)×(List Byt)))=>some (.inr o198)))) (fun (e107:(Int×Int)×(List Byt))=>some (.inr (.inr ((e107.1.1,e107.1.2),e107.2))))))) (some (.inr (.inr ((3,0),b)))))) (Sum.elim (fun (v100:(List Byt))=>Qc (Nat.ble (v100.length+([41]:List UInt8).length) 1000000000) (some (.inl ((v100++(List.map (fun b:UInt8=>(⟨b.toNat⟩:Byt)) ([41]:List UInt8))),())))) (fun (o199:((List Byt)×Unit)⊕((Int×Int)×(List Byt)))=>some o199))
def m96r:(List Byt)×Tr→Option (((List Byt)×Unit)⊕((Int×Int)×(List Byt))):=QX (fun rc v=>Q76 rc v.1 v.2) Qk
def Qbz (b:List Byt) (a1:Tr):Option (((List Byt)×Unit)⊕((Int×Int)×(List Byt))):=m96r (b,a1)
noncomputable def k96:PF UV:=⟨.bld 95 5 .t5,[.stc .t89],[],.p2 69,fun b v=>Qbz b v⟩
noncomputable def H96:Hints UV:=⟨[(2,⟨[([.reg 8],.bool)],[],false⟩),(3,⟨[([.at 0 1],.app 5 .t5)],[],true⟩),(6,⟨[([.reg 31],.bool)],[],false⟩),(11,⟨[([.reg 51],.int .i64),([.at 0 1],.app 5 .t5)],[([.at 0 1],.app 5 .t5)],true⟩),(14,⟨[([.at 0 1],.app 5 .t5)],[],true⟩)],[]⟩
theorem k96s_ok (rc:(List Byt)×Tr→Option (((List Byt)×Unit)⊕((Int×Int)×(List Byt)))) (H:∀ (u:(List Byt)×Tr) (r:((List Byt)×Unit)⊕((Int×Int)×(List Byt))),rc u=some r→CallO W0 Tryz.prog 96 (.one (.ptr 0 0)::QG DV k96.args u.2) ((Dj k96.bx u.1).er DV) (Q54 DV k96.bx k96.res k96.pk r)):ZD DV W0 Tryz.prog 96 ⟨k96.bx,k96.args,k96.res,k96.pk,fun b v=>Q76 rc b v⟩:=YQ (C:=Qdj) rfl Qp Qf (Qo (tb:=[(131,k131)]) Qf ⟨Q2x,trivial⟩) (YE (C:=Qdj) rfl Qp Qf (Qo (tb:=[(131,k131)]) Qf ⟨Q2x,trivial⟩) (Z3 UM (YV (tb:=[(96,(⟨k96.bx,k96.args,k96.res,k96.pk,fun b v=>rc (b,v)⟩:PF UV)),(92,k92),(93,k93),(95,k95)]) Qf ⟨⟨⟨rfl,rfl⟩,fun b v y h=>H (b,v) y h⟩,Q5t,Q5s,Q5r,trivial⟩)) (I:=[(61,B61_96),(132,B132_96)]) ⟨⟨Tryz.func61,D8⟩,⟨Tryz.func132,en_132⟩,trivial⟩ 8) Tryz.func96 en_96 H96 _ rfl rfl (fun b v=>by kernel_rfl)
theorem k96_ok:ZD DV W0 Tryz.prog 96 k96:=⟨⟨rfl,rfl⟩,fun b v r h=>Jy (C:=fun (u:(List Byt)×Tr) (r:((List Byt)×Unit)⊕((Int×Int)×(List Byt)))=>CallO W0 Tryz.prog 96 (.one (.ptr 0 0)::QG DV k96.args u.2) ((Dj k96.bx u.1).er DV) (Q54 DV k96.bx k96.res k96.pk r)) (fun rc H u r h=>(k96s_ok rc H).2 u.1 u.2 r h) Qk (b,v) r h⟩
theorem en_91:Qe Tryz.prog 91:=enters_of Tryz.func91 (by kernel_rfl) rfl
def Qbh (a0:Dcl):Option (Bool) :=
 Option.bind (cond ((a0.kind != 3)) (cond ((a0.fixed != 0)) (some true) (cond ((decide (0 < (a0.ctors.length:Int)))) (some true) (cond ((a0.rcr.params != 0)) (some true) (Option.bind (Q14 a0.rcr.ty) fun (x3:Bool)=>cond ((!x3)) (some true) (some (decide (0 < (a0.rcr.rules.length:Int)))))))) (some false)) fun (v2:Bool)=>cond v2 (some false) (Option.bind (cond ((a0.kind != 1)) (cond ((a0.kind != 2)) (Option.bind (Q14 a0.value) fun (x6:Bool)=>some (!x6)) (some false)) (some false)) fun (v5:Bool)=>cond v5 (some false) (cond ((a0.kind==4)) (Option.bind (cond ((a0.name==([]:List UInt8))) (Option.bind (Q14 a0.ty) fun (x9:Bool)=>some x9) (some false)) fun (v8:Bool)=>some v8) (some ((a0.funs.length:Int)==0))))
noncomputable def k91:KF UV:=⟨[.stc .t48],[.bool],fun v=>Qbh v⟩
noncomputable def H91:Hints UV:=⟨[(1,⟨[([.reg 36],.bool)],[],false⟩),(4,⟨[([.reg 50],.bool)],[],false⟩),(9,⟨[([.reg 2],.bool)],[],false⟩)],[]⟩
theorem k91_ok:Jo DV W0 Tryz.prog 91 k91:=Js (C:=Qdj) rfl Qp Qf (Qo (tb:=[(131,k131)]) Qf ⟨Q2x,trivial⟩) J2 Tryz.func91 en_91 H91 k91 rfl (fun v=>by kernel_rfl)
theorem en_94:Qe Tryz.prog 94:=enters_of Tryz.func94 (by kernel_rfl) rfl
noncomputable def B61_94:IH UV:=⟨Tryz.f61,⟨[],[]⟩,.st⟩
def Qbg (b:List Byt) (a1:Dcl):Option (((List Byt)×Unit)⊕((Int×Int)×(List Byt))) :=
 Option.bind (Q9l b a1.fixed) (Sum.elim (fun (r1:(List Byt)×Unit)=>Option.bind (Q89 r1.1 a1.ty) (Sum.elim (fun (r3:(List Byt)×Unit)=>Option.bind (Qj (σ:=Int×(List Byt)) (β:=((List Byt))⊕(((List Byt)×Unit)⊕((Int×Int)×(List Byt)))) (fun s20=>cond ((decide (s20.1 < (a1.ctors.length:Int)))) (Option.bind (J3 a1.ctors s20.1) fun (x22:Ctr)=>Qc (Nat.ble (s20.2.length+([32,40,99,116,111,114]:List UInt8).length) 1000000000) (Option.bind (Q9m (s20.2++(List.map (fun b:UInt8=>(⟨b.toNat⟩:Byt)) ([32,40,99,116,111,114]:List UInt8))) x22.name) (Sum.elim (fun (r23:(List Byt)×Unit)=>Option.bind (Q89 r23.1 x22.ty) (Sum.elim (fun (r25:(List Byt)×Unit)=>Qc (Nat.ble (r25.1.length+([41]:List UInt8).length) 1000000000) (some (.next ((QE (s20.1+1)),(r25.1++(List.map (fun b:UInt8=>(⟨b.toNat⟩:Byt)) ([41]:List UInt8))))))) (fun (e26:(Int×Int)×(List Byt))=>some (.done (.inr (.inr ((e26.1.1,e26.1.2),e26.2))))))) (fun (e24:(Int×Int)×(List Byt))=>some (.done (.inr (.inr ((e24.1.1,e24.1.2),e24.2)))))))) (some (.done (.inl s20.2)))) Qk (0,r3.1)) (Sum.elim (fun (v21:(List Byt))=>Qc (Nat.ble (v21.length+([32,40,114,101,99]:List UInt8).length) 1000000000) (Option.bind (Q9l (v21++(List.map (fun b:UInt8=>(⟨b.toNat⟩:Byt)) ([32,40,114,101,99]:List UInt8))) a1.rcr.params) (Sum.elim (fun (r27:(List Byt)×Unit)=>Option.bind (Q89 r27.1 a1.rcr.ty) (Sum.elim (fun (r29:(List Byt)×Unit)=>Option.bind (Qj (σ:=Int×(List Byt)) (β:=((List Byt))⊕(((List Byt)×Unit)⊕((Int×Int)×(List Byt)))) (fun s40=>cond ((decide (s40.1 < (a1.rcr.rules.length:Int)))) (Option.bind (J3 a1.rcr.rules s40.1) fun (x42:Tm)=>Option.bind (Q89 s40.2 x42) (Sum.elim (fun (r43:(List Byt)×Unit)=>some (.next ((QE (s40.1+1)),r43.1))) (fun (e44:(Int×Int)×(List Byt))=>some (.done (.inr (.inr ((e44.1.1,e44.1.2),e44.2))))))) (some (.done (.inl s40.2)))) Qk (0,r29.1)) (Sum.elim (fun (v41:(List Byt))=>Qc (Nat.ble (v41.length+([41]:List UInt8).length) 1000000000) (some (.inl ((v41++(List.map (fun b:UInt8=>(⟨b.toNat⟩:Byt)) ([41]:List UInt8))),())))) (fun (o45:((List Byt)×Unit)⊕((Int×Int)×(List Byt)))=>some o45))) (fun (e30:(Int×Int)×(List Byt))=>some (.inr ((e30.1.1,e30.1.2),e30.2))))) (fun (e28:(Int×Int)×(List Byt))=>some (.inr ((e28.1.1,e28.1.2),e28.2)))))) (fun (o46:((List Byt)×Unit)⊕((Int×Int)×(List Byt)))=>some o46))) (fun (e4:(Int×Int)×(List Byt))=>some (.inr ((e4.1.1,e4.1.2),e4.2))))) (fun (e2:(Int×Int)×(List Byt))=>some (.inr ((e2.1.1,e2.1.2),e2.2))))
noncomputable def k94:PF UV:=⟨.bld 95 5 .t5,[.stc .t48],[],.p2 69,fun b v=>Qbg b v⟩
noncomputable def H94:Hints UV:=⟨[(4,⟨[([.reg 19],.int .i64),([.at 0 1],.app 5 .t5)],[([.at 0 1],.app 5 .t5)],true⟩),(18,⟨[([.reg 58],.int .i64),([.at 0 1],.app 5 .t5)],[([.at 0 1],.app 5 .t5)],true⟩)],[]⟩
theorem k94_ok:ZD DV W0 Tryz.prog 94 k94:=YQ (C:=Qdj) rfl Qp Qf (Qo (tb:=[]) Qf trivial) (YE (C:=Qdj) rfl Qp Qf (Qo (tb:=[]) Qf trivial) (Z3 UM (YV (tb:=[(92,k92),(93,k93),(95,k95)]) Qf ⟨Q5t,Q5s,Q5r,trivial⟩)) (I:=[(61,B61_94)]) ⟨⟨Tryz.func61,D8⟩,trivial⟩ 8) Tryz.func94 en_94 H94 k94 rfl rfl (fun b v=>by kernel_rfl)
theorem en_21:Qe Tryz.prog 21:=enters_of Tryz.func21 (by kernel_rfl) rfl
theorem en_45:Qe Tryz.prog 45:=enters_of Tryz.func45 (by kernel_rfl) rfl
theorem en_46:Qe Tryz.prog 46:=enters_of Tryz.func46 (by kernel_rfl) rfl
theorem en_90:Qe Tryz.prog 90:=enters_of Tryz.func90 (by kernel_rfl) rfl
noncomputable def B29_21:IH UV:=⟨Tryz.f29,⟨[],[]⟩,.lab [([.reg 2],.int .i64)]⟩
noncomputable def B34_21:IH UV:=⟨Tryz.f34,⟨[],[]⟩,.st⟩
noncomputable def B45_21:IH UV:=⟨Tryz.f45,⟨[],[]⟩,.st⟩
noncomputable def B46_21:IH UV:=⟨Tryz.f46,⟨[(1,⟨[([.reg 20],.bool)],[],false⟩),(6,⟨[([.at 0 1],.app 5 .t5)],[],true⟩),(12,⟨[([.at 0 1],.app 5 .t5)],[],true⟩),(15,⟨[([.at 0 1],.app 5 .t5)],[],true⟩),(17,⟨[([.reg 66],.int .i64),([.at 0 1],.app 5 .t5)],[([.at 0 1],.app 5 .t5)],true⟩),(31,⟨[([.at 0 1],.app 5 .t5)],[],true⟩)],[(1,[6]),(4,[3,8])]⟩,.labP [([.at 0 0],.ptr 0 0),([.at 0 1],.app 5 .t5)] [([.at 0 0],.any),([.at 0 1],.app 5 .t5)] (.p2 69)⟩
noncomputable def B61_21:IH UV:=⟨Tryz.f61,⟨[],[]⟩,.st⟩
noncomputable def B90_21:IH UV:=⟨Tryz.f90,⟨[],[]⟩,.st⟩
def Qbp (a0:Dcl):Option ((List UInt8)×Int) :=
 Option.bind (α:=(Unit×(List Byt))⊕((Int×Int)×(Unit×(List Byt)))) (Option.bind (cond ((decide (a0.kind < 0))) (some true) (cond ((decide (5≤a0.kind))) (some true) (Option.bind (Qbh a0) fun (x5:Bool)=>some (!x5)))) fun (v4:Bool)=>cond v4 (some (.inr ((3,0),((),([]:List Byt))))) (Option.bind (J3 ([([97,120,105,111,109]:List UInt8),([100,101,102]:List UInt8),([116,104,101,111,114,101,109]:List UInt8),([102,97,109,105,108,121]:List UInt8),([102,117,110,99,116,105,111,110,115]:List UInt8)]:List (List UInt8)) a0.kind) fun (x6:List UInt8)=>Qc (Nat.ble (([40]:List UInt8).length+x6.length) 1000000000) (Qc (Nat.ble (([]:List Byt).length+(([40]:List UInt8)++x6).length) 1000000000) (Option.bind (α:=((List Byt))⊕((Unit×(List Byt))⊕((Int×Int)×(Unit×(List Byt))))) (cond ((a0.kind != 4)) (Option.bind (Q9m (([]:List Byt)++(List.map (fun b:UInt8=>(⟨b.toNat⟩:Byt)) (([40]:List UInt8)++x6))) a0.name) (Sum.elim (fun (r10:(List Byt)×Unit)=>some (.inl r10.1)) (fun (e11:(Int×Int)×(List Byt))=>some (.inr (.inr ((e11.1.1,e11.1.2),((),e11.2))))))) (some (.inl (([]:List Byt)++(List.map (fun b:UInt8=>(⟨b.toNat⟩:Byt)) (([40]:List UInt8)++x6)))))) (Sum.elim (fun (v9:(List Byt))=>Option.bind (Q9l v9 a0.params) (Sum.elim (fun (r13:(List Byt)×Unit)=>Option.bind (α:=((List Byt))⊕((Unit×(List Byt))⊕((Int×Int)×(Unit×(List Byt))))) (cond ((a0.kind==3)) (Option.bind (Qbg r13.1 a0) (Sum.elim (fun (r114:(List Byt)×Unit)=>some (.inl r114.1)) (fun (e115:(Int×Int)×(List Byt))=>some (.inr (.inr ((e115.1.1,e115.1.2),((),e115.2))))))) (Option.bind (α:=((List Byt))⊕((Unit×(List Byt))⊕((Int×Int)×(Unit×(List Byt))))) (cond ((a0.kind==4)) (Option.bind (Qj (σ:=Int×(List Byt)) (β:=((List Byt))⊕((Unit×(List Byt))⊕((Int×Int)×(Unit×(List Byt))))) (fun s191=>cond ((decide (s191.1 < (a0.funs.length:Int)))) (Option.bind (J3 a0.funs s191.1) fun (x193:Fn)=>Qc (Nat.ble (s191.2.length+([32,40,102,117,110]:List UInt8).length) 1000000000) (Option.bind (Q9m (s191.2++(List.map (fun b:UInt8=>(⟨b.toNat⟩:Byt)) ([32,40,102,117,110]:List UInt8))) x193.name) (Sum.elim (fun (r194:(List Byt)×Unit)=>Option.bind (Q9l r194.1 x193.arity) (Sum.elim (fun (r196:(List Byt)×Unit)=>Option.bind (Q89 r196.1 x193.ty) (Sum.elim (fun (r198:(List Byt)×Unit)=>Option.bind (Qbz r198.1 x193.tree) (Sum.elim (fun (r200:(List Byt)×Unit)=>Qc (Nat.ble (r200.1.length+([41]:List UInt8).length) 1000000000) (some (.next ((QE (s191.1+1)),(r200.1++(List.map (fun b:UInt8=>(⟨b.toNat⟩:Byt)) ([41]:List UInt8))))))) (fun (e201:(Int×Int)×(List Byt))=>some (.done (.inr (.inr ((e201.1.1,e201.1.2),((),e201.2)))))))) (fun (e199:(Int×Int)×(List Byt))=>some (.done (.inr (.inr ((e199.1.1,e199.1.2),((),e199.2)))))))) (fun (e197:(Int×Int)×(List Byt))=>some (.done (.inr (.inr ((e197.1.1,e197.1.2),((),e197.2)))))))) (fun (e195:(Int×Int)×(List Byt))=>some (.done (.inr (.inr ((e195.1.1,e195.1.2),((),e195.2))))))))) (some (.done (.inl s191.2)))) Qk (0,r13.1)) (Sum.elim (fun (v192:(List Byt))=>some (.inl v192)) (fun (o202:(Unit×(List Byt))⊕((Int×Int)×(Unit×(List Byt))))=>some (.inr o202)))) (Option.bind (Q89 r13.1 a0.ty) (Sum.elim (fun (r203:(List Byt)×Unit)=>Option.bind (α:=((List Byt))⊕((Unit×(List Byt))⊕((Int×Int)×(Unit×(List Byt))))) (cond ((a0.kind != 0)) (Option.bind (Q89 r203.1 a0.value) (Sum.elim (fun (r208:(List Byt)×Unit)=>some (.inl r208.1)) (fun (e209:(Int×Int)×(List Byt))=>some (.inr (.inr ((e209.1.1,e209.1.2),((),e209.2))))))) (some (.inl r203.1))) (Sum.elim (fun (v207:(List Byt))=>some (.inl v207)) (fun (o210:(Unit×(List Byt))⊕((Int×Int)×(Unit×(List Byt))))=>some (.inr o210)))) (fun (e204:(Int×Int)×(List Byt))=>some (.inr (.inr ((e204.1.1,e204.1.2),((),e204.2)))))))) (Sum.elim (fun (v163:(List Byt))=>some (.inl v163)) (fun (o211:(Unit×(List Byt))⊕((Int×Int)×(Unit×(List Byt))))=>some (.inr o211))))) (Sum.elim (fun (v113:(List Byt))=>Qc (Nat.ble (v113.length+([41]:List UInt8).length) 1000000000) (Option.bind (some ((v113++(List.map (fun b:UInt8=>(⟨b.toNat⟩:Byt)) ([41]:List UInt8))).length:Int)) fun (v213:Int)=>cond ((decide (65536 < v213))) (some (.inr ((5,0),((),(v113++(List.map (fun b:UInt8=>(⟨b.toNat⟩:Byt)) ([41]:List UInt8))))))) (some (.inl ((),(v113++(List.map (fun b:UInt8=>(⟨b.toNat⟩:Byt)) ([41]:List UInt8)))))))) (fun (o212:(Unit×(List Byt))⊕((Int×Int)×(Unit×(List Byt))))=>some o212))) (fun (e14:(Int×Int)×(List Byt))=>some (.inr ((e14.1.1,e14.1.2),((),e14.2)))))) (fun (o12:(Unit×(List Byt))⊕((Int×Int)×(Unit×(List Byt))))=>some o12)))))) (Sum.elim (fun (v1:Unit×(List Byt))=>Qc (cond (List.all v1.2 (fun x:Byt=>cond (decide (0≤x.n)) (decide (x.n < 256)) false)) (!(List.isEmpty v1.2)) false) (some ((List.map Byt.u8 v1.2),0))) (fun (e2:(Int×Int)×(Unit×(List Byt)))=>some (([]:List UInt8),e2.1.1)))
noncomputable def k21:KF UV:=⟨[.stc .t48],[.str,.int .i64],fun v=>Qbp v⟩
noncomputable def H21:Hints UV:=⟨[],[]⟩
theorem k21_ok:Jo DV W0 Tryz.prog 21 k21:=Js (C:=Qdj) rfl Qp Qf (Qo (tb:=[(91,k91)]) Qf ⟨k91_ok,trivial⟩) (YE (C:=Qdj) rfl Qp Qf (Qo (tb:=[(91,k91)]) Qf ⟨k91_ok,trivial⟩) (Z3 UM (Z3 st_ok (YV (tb:=[(92,k92),(93,k93),(94,k94),(95,k95),(96,k96)]) Qf ⟨Q5t,Q5s,k94_ok,Q5r,k96_ok,trivial⟩))) (I:=[(29,B29_21),(34,B34_21),(45,B45_21),(46,B46_21),(61,B61_21),(90,B90_21)]) ⟨⟨Tryz.func29,en_29⟩,⟨Tryz.func34,en_34⟩,⟨Tryz.func45,en_45⟩,⟨Tryz.func46,en_46⟩,⟨Tryz.func61,D8⟩,⟨Tryz.func90,en_90⟩,trivial⟩ 8) Tryz.func21 en_21 H21 k21 rfl (fun v=>by kernel_rfl)
end
section
open Go.RowKit
set_option maxRecDepth 100000
theorem en_87:Qe Tryz.prog 87:=enters_of Tryz.func87 (by kernel_rfl) rfl
def m87 (a0:Lvl) (a1:Lvl):Option (Bool) :=
 Option.bind (cond ((a0.c != a1.c)) (some true) (some ((a0.vs.length:Int) != (a1.vs.length:Int)))) fun (v1:Bool)=>cond v1 (some false) (Option.bind (Qj (σ:=Int) (β:=Unit⊕Bool) (fun s4=>cond ((decide (s4 < (a0.vs.length:Int)))) (Option.bind (J3 a0.vs s4) fun (x6:Qde)=>Option.bind (J3 a1.vs s4) fun (x7:Qde)=>cond ((!((x6.1==x7.1)&&(x6.2==x7.2)))) (some (.done (.inr false))) (some (.next (QE (s4+1))))) (some (.done (.inl ())))) Qk 0) (Sum.elim (fun (v5:Unit)=>some true) (fun (o8:Bool)=>some o8)))
noncomputable def k87:KF UV:=⟨[.stc .t82,.stc .t82],[.bool],fun v=>m87 v.1 v.2⟩
noncomputable def H87:Hints UV:=⟨[(1,⟨[([.reg 19],.bool)],[],false⟩),(5,⟨[([.reg 5],.int .i64)],[],true⟩)],[(9,[])]⟩
theorem k87_ok:Jo DV W0 Tryz.prog 87 k87:=Js (C:=Qdj) rfl Qp Qf (Qo (tb:=[]) Qf trivial) J2 Tryz.func87 en_87 H87 k87 rfl (fun v=>by kernel_rfl)
theorem en_40:Qe Tryz.prog 40:=enters_of Tryz.func40 (by kernel_rfl) rfl
def Qbn (a0:List Lvl) (a1:List Lvl):Option (Bool) :=
 cond (((a0.length:Int) != (a1.length:Int))) (some false) (Option.bind (Qj (σ:=Int) (β:=Unit⊕Bool) (fun s4=>cond ((decide (s4 < (a0.length:Int)))) (Option.bind (J3 a0 s4) fun (x6:Lvl)=>Option.bind (J3 a1 s4) fun (x7:Lvl)=>Option.bind (m87 x6 x7) fun (x8:Bool)=>cond ((!x8)) (some (.done (.inr false))) (some (.next (QE (s4+1))))) (some (.done (.inl ())))) Qk 0) (Sum.elim (fun (v5:Unit)=>some true) (fun (o9:Bool)=>some o9)))
noncomputable def k40:KF UV:=⟨[.sl .t82,.sl .t82],[.bool],fun v=>Qbn v.1 v.2⟩
noncomputable def H40:Hints UV:=⟨[(5,⟨[([.reg 5],.int .i64)],[],true⟩)],[(9,[])]⟩
theorem k40_ok:Jo DV W0 Tryz.prog 40 k40:=Js (C:=Qdj) rfl Qp Qf (Qo (tb:=[(87,k87)]) Qf ⟨k87_ok,trivial⟩) J2 Tryz.func40 en_40 H40 k40 rfl (fun v=>by kernel_rfl)
theorem en_17:Qe Tryz.prog 17:=enters_of Tryz.func17 (by kernel_rfl) rfl
def Q7b (rc:Tm×Tm→Option (Bool)) (a0:Tm) (a1:Tm):Option (Bool) :=
 Option.bind (cond ((a0.kind != a1.kind)) (some true) (cond ((a0.index != a1.index)) (some true) (cond ((!(a0.name==a1.name))) (some true) (Option.bind (Qbn a0.levels a1.levels) fun (x3:Bool)=>cond ((!x3)) (some true) (some ((a0.kids.length:Int) != (a1.kids.length:Int))))))) fun (v2:Bool)=>cond v2 (some false) (Option.bind (Qj (σ:=Int) (β:=Unit⊕Bool) (fun s7=>cond ((decide (s7 < (a0.kids.length:Int)))) (Option.bind (J3 a0.kids s7) fun (x9:Tm)=>Option.bind (J3 a1.kids s7) fun (x10:Tm)=>Option.bind (rc (x9,x10)) fun (x11:Bool)=>cond ((!x11)) (some (.done (.inr false))) (some (.next (QE (s7+1))))) (some (.done (.inl ())))) Qk 0) (Sum.elim (fun (v8:Unit)=>some true) (fun (o12:Bool)=>some o12)))
def m17r:Tm×Tm→Option (Bool):=QX (fun rc v=>Q7b rc v.1 v.2) Qk
def m17 (a0:Tm) (a1:Tm):Option (Bool):=m17r (a0,a1)
noncomputable def k17:KF UV:=⟨[.stc .t25,.stc .t25],[.bool],fun v=>m17 v.1 v.2⟩
noncomputable def H17:Hints UV:=⟨[(1,⟨[([.reg 41],.bool)],[],false⟩),(5,⟨[([.reg 5],.int .i64)],[],true⟩)],[(9,[])]⟩
theorem k17s_ok (rc:tup k17.args→Option (tup k17.res)) (H:∀ u r,rc u=some r→FunW W0 Tryz.prog 17 (QG DV k17.args u) (Qw (QG DV k17.res r))):Jo DV W0 Tryz.prog 17 ⟨k17.args,k17.res,fun v=>Q7b rc v.1 v.2⟩:=Js (C:=Qdj) rfl Qp Qf (Qo (tb:=[(17,(⟨k17.args,k17.res,rc⟩:KF UV)),(40,k40)]) Qf ⟨⟨rfl,H⟩,k40_ok,trivial⟩) J2 Tryz.func17 en_17 H17 _ rfl (fun v=>by kernel_rfl)
theorem Q2w:Jo DV W0 Tryz.prog 17 k17:=⟨rfl,fun v r h=>Jy (C:=fun u r=>FunW W0 Tryz.prog 17 (QG DV k17.args u) (Qw (QG DV k17.res r))) (fun rc H u r h=>(k17s_ok rc H).2 u r h) Qk v r h⟩
theorem en_99:Qe Tryz.prog 99:=enters_of Tryz.func99 (by kernel_rfl) rfl
def Qbe (a0:Tr):Option (Bool) :=
 Option.bind (cond ((a0.kind==0)) (Option.bind (m17 a0.body (Tm.mk 0 0 ([]:List UInt8) ([]) ([]))) fun (x3:Bool)=>cond x3 (cond ((a0.var==0)) (some ((a0.branches.length:Int)==0)) (some false)) (some false)) (some false)) fun (v2:Bool)=>some v2
noncomputable def k99:KF UV:=⟨[.stc .t89],[.bool],fun v=>Qbe v⟩
noncomputable def H99:Hints UV:=⟨[(1,⟨[([.reg 2],.bool)],[],false⟩)],[]⟩
theorem k99_ok:Jo DV W0 Tryz.prog 99 k99:=Js (C:=Qdj) rfl Qp Qf (Qo (tb:=[(17,k17)]) Qf ⟨Q2w,trivial⟩) J2 Tryz.func99 en_99 H99 k99 rfl (fun v=>by kernel_rfl)
theorem en_97:Qe Tryz.prog 97:=enters_of Tryz.func97 (by kernel_rfl) rfl
def Qbf (a0:Rcr):Option (Bool) :=
 Option.bind (cond ((a0.params==0)) (Option.bind (m17 a0.ty (Tm.mk 0 0 ([]:List UInt8) ([]) ([]))) fun (x3:Bool)=>cond x3 (some ((a0.rules.length:Int)==0)) (some false)) (some false)) fun (v2:Bool)=>some v2
noncomputable def k97:KF UV:=⟨[.stc .t45],[.bool],fun v=>Qbf v⟩
noncomputable def H97:Hints UV:=⟨[(1,⟨[([.reg 2],.bool)],[],false⟩)],[]⟩
theorem k97_ok:Jo DV W0 Tryz.prog 97 k97:=Js (C:=Qdj) rfl Qp Qf (Qo (tb:=[(17,k17)]) Qf ⟨Q2w,trivial⟩) J2 Tryz.func97 en_97 H97 k97 rfl (fun v=>by kernel_rfl)
theorem en_47:Qe Tryz.prog 47:=enters_of Tryz.func47 (by kernel_rfl) rfl
def Qbm (a0:Dcl):Option (Bool) :=
 Option.bind (cond ((a0.kind==1)) (some true) (some (a0.kind==2))) fun (v1:Bool)=>Option.bind (cond ((a0.kind==3)) (cond v1 (cond ((a0.kind==4)) (cond ((!(a0.kind==4))) (some true) (cond ((a0.name==([]:List UInt8))) (Option.bind (m17 a0.ty (Tm.mk 0 0 ([]:List UInt8) ([]) ([]))) fun (x14:Bool)=>some x14) (some false))) (cond (((a0.funs.length:Int)==0)) (cond ((!(a0.kind==4))) (some true) (cond ((a0.name==([]:List UInt8))) (Option.bind (m17 a0.ty (Tm.mk 0 0 ([]:List UInt8) ([]) ([]))) fun (x15:Bool)=>some x15) (some false))) (some false))) (Option.bind (m17 a0.value (Tm.mk 0 0 ([]:List UInt8) ([]) ([]))) fun (x16:Bool)=>cond x16 (cond ((a0.kind==4)) (cond ((!(a0.kind==4))) (some true) (cond ((a0.name==([]:List UInt8))) (Option.bind (m17 a0.ty (Tm.mk 0 0 ([]:List UInt8) ([]) ([]))) fun (x17:Bool)=>some x17) (some false))) (cond (((a0.funs.length:Int)==0)) (cond ((!(a0.kind==4))) (some true) (cond ((a0.name==([]:List UInt8))) (Option.bind (m17 a0.ty (Tm.mk 0 0 ([]:List UInt8) ([]) ([]))) fun (x18:Bool)=>some x18) (some false))) (some false))) (some false))) (cond ((a0.fixed==0)) (cond (((a0.ctors.length:Int)==0)) (Option.bind (Qbf a0.rcr) fun (x19:Bool)=>cond x19 (cond v1 (cond ((a0.kind==4)) (cond ((!(a0.kind==4))) (some true) (cond ((a0.name==([]:List UInt8))) (Option.bind (m17 a0.ty (Tm.mk 0 0 ([]:List UInt8) ([]) ([]))) fun (x20:Bool)=>some x20) (some false))) (cond (((a0.funs.length:Int)==0)) (cond ((!(a0.kind==4))) (some true) (cond ((a0.name==([]:List UInt8))) (Option.bind (m17 a0.ty (Tm.mk 0 0 ([]:List UInt8) ([]) ([]))) fun (x21:Bool)=>some x21) (some false))) (some false))) (Option.bind (m17 a0.value (Tm.mk 0 0 ([]:List UInt8) ([]) ([]))) fun (x22:Bool)=>cond x22 (cond ((a0.kind==4)) (cond ((!(a0.kind==4))) (some true) (cond ((a0.name==([]:List UInt8))) (Option.bind (m17 a0.ty (Tm.mk 0 0 ([]:List UInt8) ([]) ([]))) fun (x23:Bool)=>some x23) (some false))) (cond (((a0.funs.length:Int)==0)) (cond ((!(a0.kind==4))) (some true) (cond ((a0.name==([]:List UInt8))) (Option.bind (m17 a0.ty (Tm.mk 0 0 ([]:List UInt8) ([]) ([]))) fun (x24:Bool)=>some x24) (some false))) (some false))) (some false))) (some false)) (some false)) (some false))) fun (v13:Bool)=>some v13
noncomputable def k47:KF UV:=⟨[.stc .t48],[.bool],fun v=>Qbm v⟩
noncomputable def H47:Hints UV:=⟨[(4,⟨[([.reg 6],.bool)],[],false⟩),(5,⟨[([.reg 2],.bool)],[],false⟩)],[]⟩
theorem k47_ok:Jo DV W0 Tryz.prog 47 k47:=Js (C:=Qdj) rfl Qp Qf (Qo (tb:=[(17,k17),(97,k97)]) Qf ⟨Q2w,k97_ok,trivial⟩) J2 Tryz.func47 en_47 H47 k47 rfl (fun v=>by kernel_rfl)
theorem en_50:Qe Tryz.prog 50:=enters_of Tryz.func50 (by kernel_rfl) rfl
def XU (b:RWr) (a1:List UInt8):Option ((RWr×Unit)⊕(Unit×RWr)) :=
 Qc (Nat.ble (b.s.length+a1.length) 1000000000) (some (.inl ((RWr.mk (b.s++a1) b.e),())))
noncomputable def k50:PF UV:=⟨.stc 99 .t99,[.str],[],.p0 99,fun b v=>XU b v⟩
noncomputable def H50:Hints UV:=⟨[],[]⟩
theorem Q02:ZD DV W0 Tryz.prog 50 k50:=YQ (C:=Qdj) rfl Qp Qf (Qo (tb:=[]) Qf trivial) J2 Tryz.func50 en_50 H50 k50 rfl rfl (fun b v=>by kernel_rfl)
theorem en_48:Qe Tryz.prog 48:=enters_of Tryz.func48 (by kernel_rfl) rfl
def Q8d (b:RWr) (a1:List UInt8):Option ((RWr×Unit)⊕(Unit×RWr)) :=
 Option.bind (cond ((b.e==0)) (Option.bind (Q92 a1) fun (x3:Bool)=>some (!x3)) (some false)) fun (v2:Bool)=>Option.bind (cond v2 (some 29) (some b.e)) fun (v4:Int)=>Qc (Nat.ble (([32]:List UInt8).length+a1.length) 1000000000) (Option.bind (QA (XU (RWr.mk b.s v4) (([32]:List UInt8)++a1))) fun (r5:RWr×Unit)=>some (.inl (r5.1,())))
noncomputable def k48:PF UV:=⟨.stc 99 .t99,[.str],[],.p0 99,fun b v=>Q8d b v⟩
noncomputable def H48:Hints UV:=⟨[(0,⟨[([.reg 13],.bool)],[],false⟩),(1,⟨[([.at 0 1],.int .i64)],[],false⟩)],[]⟩
theorem k48_ok:ZD DV W0 Tryz.prog 48 k48:=YQ (C:=Qdj) rfl Qp Qf (Qo (tb:=[(98,k98)]) Qf ⟨k98_ok,trivial⟩) (Yt (tb:=[(50,k50)]) Qf ⟨Q02,trivial⟩) Tryz.func48 en_48 H48 k48 rfl rfl (fun b v=>by kernel_rfl)
theorem en_49:Qe Tryz.prog 49:=enters_of Tryz.func49 (by kernel_rfl) rfl
def Q7j (b:RWr) (a1:Int):Option ((RWr×Unit)⊕(Unit×RWr)) :=
 Option.bind (cond ((decide (a1 < 0))) (some true) (some (decide (1000000≤a1)))) fun (v1:Bool)=>cond v1 (Option.bind (cond ((b.e==0)) (some 2) (some b.e)) fun (v2:Int)=>some (.inl ((RWr.mk b.s v2),()))) (Option.bind (Qax a1) fun (x3:(List UInt8))=>Qc (Nat.ble (([32]:List UInt8).length+x3.length) 1000000000) (Option.bind (QA (XU b (([32]:List UInt8)++x3))) fun (r4:RWr×Unit)=>some (.inl (r4.1,()))))
noncomputable def k49:PF UV:=⟨.stc 99 .t99,[.int .i64],[],.p0 99,fun b v=>Q7j b v⟩
noncomputable def H49:Hints UV:=⟨[(0,⟨[([.reg 9],.bool)],[],false⟩),(3,⟨[([.at 0 1],.int .i64)],[],false⟩)],[]⟩
theorem k49_ok:ZD DV W0 Tryz.prog 49 k49:=YQ (C:=Qdj) rfl Qp Qf (Qo (tb:=[(68,k68)]) Qf ⟨k68_ok,trivial⟩) (Yt (tb:=[(50,k50)]) Qf ⟨Q02,trivial⟩) Tryz.func49 en_49 H49 k49 rfl rfl (fun b v=>by kernel_rfl)
theorem en_51:Qe Tryz.prog 51:=enters_of Tryz.func51 (by kernel_rfl) rfl
def Q3n (b:RWr) (a1:Tm):Option ((RWr×Unit)⊕(Unit×RWr)) :=
 Option.bind (Qa3 a1) fun (x1:(List UInt8)×Int)=>Option.bind (cond ((b.e==0)) (some x1.2) (some b.e)) fun (v2:Int)=>Qc (Nat.ble (([32]:List UInt8).length+x1.1.length) 1000000000) (Option.bind (QA (XU (RWr.mk b.s v2) (([32]:List UInt8)++x1.1))) fun (r3:RWr×Unit)=>some (.inl (r3.1,())))
noncomputable def k51:PF UV:=⟨.stc 99 .t99,[.stc .t25],[],.p0 99,fun b v=>Q3n b v⟩
noncomputable def H51:Hints UV:=⟨[(3,⟨[([.at 0 1],.int .i64)],[],false⟩)],[]⟩
theorem k51_ok:ZD DV W0 Tryz.prog 51 k51:=YQ (C:=Qdj) rfl Qp Qf (Qo (tb:=[(14,k14)]) Qf ⟨k14_ok,trivial⟩) (Yt (tb:=[(50,k50)]) Qf ⟨Q02,trivial⟩) Tryz.func51 en_51 H51 k51 rfl rfl (fun b v=>by kernel_rfl)
theorem en_52:Qe Tryz.prog 52:=enters_of Tryz.func52 (by kernel_rfl) rfl
def Q79 (rc:RWr×Tr→Option ((RWr×Unit)⊕(Unit×RWr))) (b:RWr) (a1:Tr):Option ((RWr×Unit)⊕(Unit×RWr)) :=
 cond ((b.e != 0)) (some (.inl (b,()))) (Option.bind (cond ((a1.kind==0)) (cond ((a1.var==0)) (some ((a1.branches.length:Int)==0)) (some false)) (some false)) fun (v1:Bool)=>Option.bind (α:=((List UInt8)×Int)⊕((RWr×Unit)⊕(Unit×RWr))) (cond v1 (Option.bind (QA (XU b ([32,40,108,101,97,102]:List UInt8))) fun (r96:RWr×Unit)=>Option.bind (QA (Q3n r96.1 a1.body)) fun (r98:RWr×Unit)=>some (.inl (r98.1.s,r98.1.e))) (Option.bind (cond ((a1.kind==1)) (Option.bind (m17 a1.body (Tm.mk 0 0 ([]:List UInt8) ([]) ([]))) fun (x102:Bool)=>some x102) (some false)) fun (v101:Bool)=>cond v101 (Option.bind (QA (XU b ([32,40,115,112,108,105,116]:List UInt8))) fun (r103:RWr×Unit)=>Option.bind (QA (Q7j r103.1 a1.var)) fun (r105:RWr×Unit)=>Option.bind (Qj (σ:=Int×(List UInt8)×Int) (β:=(List UInt8)×Int) (fun s167=>cond ((decide (s167.1 < (a1.branches.length:Int)))) (Option.bind (J3 a1.branches s167.1) fun (x169:Qdl)=>cond x169.absurd (Option.bind (QA (XU (RWr.mk s167.2.1 s167.2.2) ([32,40,97,98,115,117,114,100]:List UInt8))) fun (r170:RWr×Unit)=>Option.bind (QA (Q8d r170.1 x169.ctor)) fun (r172:RWr×Unit)=>cond ((r172.1.e==0)) (Option.bind (Qbe x169.tree) fun (x174:Bool)=>Option.bind (cond ((!x174)) (some 3) (some r172.1.e)) fun (v175:Int)=>Option.bind (QA (XU (RWr.mk r172.1.s v175) ([41]:List UInt8))) fun (r176:RWr×Unit)=>some (.next ((QE (s167.1+1)),r176.1.s,r176.1.e))) (Option.bind (some r172.1.e) fun (v178:Int)=>Option.bind (QA (XU (RWr.mk r172.1.s v178) ([41]:List UInt8))) fun (r179:RWr×Unit)=>some (.next ((QE (s167.1+1)),r179.1.s,r179.1.e)))) (Option.bind (QA (XU (RWr.mk s167.2.1 s167.2.2) ([32,40,98,114,97,110,99,104]:List UInt8))) fun (r181:RWr×Unit)=>Option.bind (QA (Q8d r181.1 x169.ctor)) fun (r183:RWr×Unit)=>Option.bind (QA (rc (r183.1,x169.tree))) fun (r185:RWr×Unit)=>Option.bind (QA (XU r185.1 ([41]:List UInt8))) fun (r187:RWr×Unit)=>some (.next ((QE (s167.1+1)),r187.1.s,r187.1.e)))) (some (.done (s167.2.1,s167.2.2)))) Qk (0,r105.1.s,r105.1.e)) fun (v168:(List UInt8)×Int)=>some (.inl (v168.1,v168.2))) (some (.inr (.inl ((RWr.mk b.s 3),())))))) (Sum.elim (fun (v95:(List UInt8)×Int)=>Option.bind (QA (XU (RWr.mk v95.1 v95.2) ([41]:List UInt8))) fun (r190:RWr×Unit)=>some (.inl (r190.1,()))) (fun (o189:(RWr×Unit)⊕(Unit×RWr))=>some o189)))
def m52r:RWr×Tr→Option ((RWr×Unit)⊕(Unit×RWr)):=QX (fun rc v=>Q79 rc v.1 v.2) Qk
def Qbl (b:RWr) (a1:Tr):Option ((RWr×Unit)⊕(Unit×RWr)):=m52r (b,a1)
noncomputable def k52:PF UV:=⟨.stc 99 .t99,[.stc .t89],[],.p0 99,fun b v=>Qbl b v⟩
noncomputable def H52:Hints UV:=⟨[(4,⟨[([.reg 14],.bool)],[],false⟩),(5,⟨[([.at 0 0],.str),([.at 0 1],.int .i64)],[],true⟩),(8,⟨[([.reg 35],.bool)],[],false⟩),(13,⟨[([.reg 4],.int .i64),([.at 0 0],.str),([.at 0 1],.int .i64)],[([.at 0 0],.str),([.at 0 1],.int .i64)],false⟩),(23,⟨[([.at 0 1],.int .i64)],[],false⟩)],[]⟩
theorem k52s_ok (rc:RWr×Tr→Option ((RWr×Unit)⊕(Unit×RWr))) (H:∀ (u:RWr×Tr) (r:(RWr×Unit)⊕(Unit×RWr)),rc u=some r→CallO W0 Tryz.prog 52 (.one (.ptr 0 0)::QG DV k52.args u.2) ((Dj k52.bx u.1).er DV) (Q54 DV k52.bx k52.res k52.pk r)):ZD DV W0 Tryz.prog 52 ⟨k52.bx,k52.args,k52.res,k52.pk,fun b v=>Q79 rc b v⟩:=YQ (C:=Qdj) rfl Qp Qf (Qo (tb:=[(17,k17),(99,k99)]) Qf ⟨Q2w,k99_ok,trivial⟩) (Yt (tb:=[(52,(⟨k52.bx,k52.args,k52.res,k52.pk,fun b v=>rc (b,v)⟩:PF UV)),(48,k48),(49,k49),(50,k50),(51,k51)]) Qf ⟨⟨⟨rfl,rfl⟩,fun b v y h=>H (b,v) y h⟩,k48_ok,k49_ok,Q02,k51_ok,trivial⟩) Tryz.func52 en_52 H52 _ rfl rfl (fun b v=>by kernel_rfl)
theorem k52_ok:ZD DV W0 Tryz.prog 52 k52:=⟨⟨rfl,rfl⟩,fun b v r h=>Jy (C:=fun (u:RWr×Tr) (r:(RWr×Unit)⊕(Unit×RWr))=>CallO W0 Tryz.prog 52 (.one (.ptr 0 0)::QG DV k52.args u.2) ((Dj k52.bx u.1).er DV) (Q54 DV k52.bx k52.res k52.pk r)) (fun rc H u r h=>(k52s_ok rc H).2 u.1 u.2 r h) Qk (b,v) r h⟩
theorem en_22:Qe Tryz.prog 22:=enters_of Tryz.func22 (by kernel_rfl) rfl
def Qbo (a0:Dcl):Option ((List UInt8)×Int) :=
 Option.bind (cond ((decide (a0.kind < 0))) (some true) (cond ((decide (4 < a0.kind))) (some true) (Option.bind (Qbm a0) fun (x3:Bool)=>some (!x3)))) fun (v2:Bool)=>cond v2 (some (([]:List UInt8),3)) (Option.bind (J3 ([([40,97,120,105,111,109]:List UInt8),([40,100,101,102]:List UInt8),([40,116,104,101,111,114,101,109]:List UInt8),([40,102,97,109,105,108,121]:List UInt8),([40,102,117,110,99,116,105,111,110,115]:List UInt8)]:List ((List UInt8))) a0.kind) fun (x4:(List UInt8))=>Option.bind (cond ((a0.kind != 4)) (Option.bind (QA (Q8d (RWr.mk x4 0) a0.name)) fun (r8:RWr×Unit)=>some (r8.1.s,r8.1.e)) (some (x4,0))) fun (v7:(List UInt8)×Int)=>Option.bind (QA (Q7j (RWr.mk v7.1 v7.2) a0.params)) fun (r10:RWr×Unit)=>Option.bind (cond ((a0.kind==4)) (Option.bind (Qj (σ:=Int×(List UInt8)×Int) (β:=(List UInt8)×Int) (fun s257=>cond ((decide (s257.1 < (a0.funs.length:Int)))) (Option.bind (J3 a0.funs s257.1) fun (x259:Fn)=>Option.bind (QA (XU (RWr.mk s257.2.1 s257.2.2) ([32,40,102,117,110]:List UInt8))) fun (r260:RWr×Unit)=>Option.bind (QA (Q8d r260.1 x259.name)) fun (r262:RWr×Unit)=>Option.bind (QA (Q7j r262.1 x259.arity)) fun (r264:RWr×Unit)=>Option.bind (QA (Q3n r264.1 x259.ty)) fun (r266:RWr×Unit)=>Option.bind (QA (Qbl r266.1 x259.tree)) fun (r268:RWr×Unit)=>Option.bind (QA (XU r268.1 ([41]:List UInt8))) fun (r270:RWr×Unit)=>some (.next ((QE (s257.1+1)),r270.1.s,r270.1.e))) (some (.done (s257.2.1,s257.2.2)))) Qk (0,r10.1.s,r10.1.e)) fun (v258:(List UInt8)×Int)=>some (v258.1,v258.2)) (Option.bind (cond ((a0.kind==3)) (Option.bind (QA (Q7j r10.1 a0.fixed)) fun (r348:RWr×Unit)=>Option.bind (QA (Q3n r348.1 a0.ty)) fun (r350:RWr×Unit)=>Option.bind (Qj (σ:=Int×(List UInt8)×Int) (β:=(List UInt8)×Int) (fun s382=>cond ((decide (s382.1 < (a0.ctors.length:Int)))) (Option.bind (QA (XU (RWr.mk s382.2.1 s382.2.2) ([32,40,99,116,111,114]:List UInt8))) fun (r384:RWr×Unit)=>Option.bind (J3 a0.ctors s382.1) fun (x386:Ctr)=>Option.bind (QA (Q8d r384.1 x386.name)) fun (r387:RWr×Unit)=>Option.bind (J3 a0.ctors s382.1) fun (x389:Ctr)=>Option.bind (QA (Q3n r387.1 x389.ty)) fun (r390:RWr×Unit)=>Option.bind (QA (XU r390.1 ([41]:List UInt8))) fun (r392:RWr×Unit)=>some (.next ((QE (s382.1+1)),r392.1.s,r392.1.e))) (some (.done (s382.2.1,s382.2.2)))) Qk (0,r350.1.s,r350.1.e)) fun (v383:(List UInt8)×Int)=>Option.bind (QA (XU (RWr.mk v383.1 v383.2) ([32,40,114,101,99]:List UInt8))) fun (r394:RWr×Unit)=>Option.bind (QA (Q7j r394.1 a0.rcr.params)) fun (r396:RWr×Unit)=>Option.bind (QA (Q3n r396.1 a0.rcr.ty)) fun (r398:RWr×Unit)=>Option.bind (Qj (σ:=Int×(List UInt8)×Int) (β:=(List UInt8)×Int) (fun s409=>cond ((decide (s409.1 < (a0.rcr.rules.length:Int)))) (Option.bind (J3 a0.rcr.rules s409.1) fun (x411:Tm)=>Option.bind (QA (Q3n (RWr.mk s409.2.1 s409.2.2) x411)) fun (r412:RWr×Unit)=>some (.next ((QE (s409.1+1)),r412.1.s,r412.1.e))) (some (.done (s409.2.1,s409.2.2)))) Qk (0,r398.1.s,r398.1.e)) fun (v410:(List UInt8)×Int)=>Option.bind (QA (XU (RWr.mk v410.1 v410.2) ([41]:List UInt8))) fun (r414:RWr×Unit)=>some (r414.1.s,r414.1.e)) (Option.bind (QA (Q3n r10.1 a0.ty)) fun (r416:RWr×Unit)=>Option.bind (cond ((a0.kind != 0)) (Option.bind (QA (Q3n r416.1 a0.value)) fun (r421:RWr×Unit)=>some (r421.1.s,r421.1.e)) (some (r416.1.s,r416.1.e))) fun (v420:(List UInt8)×Int)=>some (v420.1,v420.2))) fun (v347:(List UInt8)×Int)=>some (v347.1,v347.2))) fun (v217:(List UInt8)×Int)=>Option.bind (QA (XU (RWr.mk v217.1 v217.2) ([41]:List UInt8))) fun (r423:RWr×Unit)=>cond ((r423.1.e != 0)) (some (([]:List UInt8),r423.1.e)) (cond ((decide (65536 < (r423.1.s.length:Int)))) (some (([]:List UInt8),5)) (some (r423.1.s,0))))
noncomputable def k22:KF UV:=⟨[.stc .t48],[.str,.int .i64],fun v=>Qbo v⟩
noncomputable def H22:Hints UV:=⟨[(1,⟨[([.reg 22],.bool)],[],false⟩),(7,⟨[([.at 5 0],.str),([.at 5 1],.int .i64)],[],false⟩),(13,⟨[([.at 5 0],.str),([.at 5 1],.int .i64)],[],false⟩),(15,⟨[([.reg 6],.int .i64),([.at 5 0],.str),([.at 5 1],.int .i64)],[([.at 5 0],.str),([.at 5 1],.int .i64)],false⟩),(28,⟨[([.at 5 0],.str),([.at 5 1],.int .i64)],[],false⟩),(32,⟨[([.reg 8],.int .i64),([.at 5 0],.str),([.at 5 1],.int .i64)],[([.at 5 0],.str),([.at 5 1],.int .i64)],false⟩),(45,⟨[([.reg 9],.int .i64),([.at 5 0],.str),([.at 5 1],.int .i64)],[([.at 5 0],.str),([.at 5 1],.int .i64)],false⟩),(54,⟨[([.at 5 0],.str),([.at 5 1],.int .i64)],[],false⟩)],[(59,[])]⟩
theorem k22_ok:Jo DV W0 Tryz.prog 22 k22:=Js (C:=Qdj) rfl Qp Qf (Qo (tb:=[(47,k47)]) Qf ⟨k47_ok,trivial⟩) (Yt (tb:=[(48,k48),(49,k49),(50,k50),(51,k51),(52,k52)]) Qf ⟨k48_ok,k49_ok,Q02,k51_ok,k52_ok,trivial⟩) Tryz.func22 en_22 H22 k22 rfl (fun v=>by kernel_rfl)
theorem en_89:Qe Tryz.prog 89:=enters_of Tryz.func89 (by kernel_rfl) rfl
def Q59 (rc:Tr×Int→Option (Int)) (a0:Tr) (a1:Int):Option (Int) :=
 Option.bind (Qaz a0.body (QE (a1 - 1))) fun (x1:Int)=>Option.bind (Qj (σ:=Int×Int) (β:=Int⊕Int) (fun s10=>Option.bind (cond ((decide (s10.2 < (a0.branches.length:Int)))) (some (decide (0≤s10.1))) (some false)) fun (v12:Bool)=>cond v12 (Option.bind (J3 a0.branches s10.2) fun (x13:Qdl)=>cond ((decide (100 < (x13.ctor.length:Int)))) (some (.done (.inr (-1)))) (Option.bind (J3 a0.branches s10.2) fun (x14:Qdl)=>Option.bind (rc (x14.tree,(QE (s10.1 - 1)))) fun (x15:Int)=>some (.next (x15,(QE (s10.2+1)))))) (some (.done (.inl s10.1)))) Qk (x1,0)) (Sum.elim (fun (v11:Int)=>some v11) (fun (o16:Int)=>some o16))
def m89r:Tr×Int→Option (Int):=QX (fun rc v=>Q59 rc v.1 v.2) Qk
def Qc0 (a0:Tr) (a1:Int):Option (Int):=m89r (a0,a1)
noncomputable def k89:KF UV:=⟨[.stc .t89,.int .i64],[.int .i64],fun v=>Qc0 v.1 v.2⟩
noncomputable def H89:Hints UV:=⟨[(3,⟨[([.reg 1],.int .i64),([.reg 5],.int .i64)],[([.reg 1],.int .i64)],true⟩),(4,⟨[([.reg 19],.bool)],[],false⟩)],[]⟩
theorem k89s_ok (rc:tup k89.args→Option (tup k89.res)) (H:∀ u r,rc u=some r→FunW W0 Tryz.prog 89 (QG DV k89.args u) (Qw (QG DV k89.res r))):Jo DV W0 Tryz.prog 89 ⟨k89.args,k89.res,fun v=>Q59 rc v.1 v.2⟩:=Js (C:=Qdj) rfl Qp Qf (Qo (tb:=[(89,(⟨k89.args,k89.res,rc⟩:KF UV)),(26,k26)]) Qf ⟨⟨rfl,H⟩,k26_ok,trivial⟩) J2 Tryz.func89 en_89 H89 _ rfl (fun v=>by kernel_rfl)
theorem k89_ok:Jo DV W0 Tryz.prog 89 k89:=⟨rfl,fun v r h=>Jy (C:=fun u r=>FunW W0 Tryz.prog 89 (QG DV k89.args u) (Qw (QG DV k89.res r))) (fun rc H u r h=>(k89s_ok rc H).2 u r h) Qk v r h⟩
theorem en_44:Qe Tryz.prog 44:=enters_of Tryz.func44 (by kernel_rfl) rfl
def Qay (a0:Tr) (a1:Int):Option (Bool) :=
 Option.bind (Qc0 a0 a1) fun (x1:Int)=>some (decide (0≤x1))
noncomputable def k44:KF UV:=⟨[.stc .t89,.int .i64],[.bool],fun v=>Qay v.1 v.2⟩
noncomputable def H44:Hints UV:=⟨[],[]⟩
theorem k44_ok:Jo DV W0 Tryz.prog 44 k44:=Js (C:=Qdj) rfl Qp Qf (Qo (tb:=[(89,k89)]) Qf ⟨k89_ok,trivial⟩) J2 Tryz.func44 en_44 H44 k44 rfl (fun v=>by kernel_rfl)
theorem en_20:Qe Tryz.prog 20:=enters_of Tryz.func20 (by kernel_rfl) rfl
def Qbq (a0:Dcl):Option (Bool) :=
 Option.bind (cond ((decide (100 < (a0.name.length:Int)))) (some true) (cond ((decide (6 < (a0.ctors.length:Int)))) (some true) (cond ((decide (4 < (a0.funs.length:Int)))) (some true) (cond ((decide (6 < (a0.rcr.rules.length:Int)))) (some true) (Option.bind (Q7k a0.ty 100) fun (x5:Bool)=>cond ((!x5)) (some true) (Option.bind (Q7k a0.value 200) fun (x6:Bool)=>cond ((!x6)) (some true) (Option.bind (Q7k a0.rcr.ty 400) fun (x7:Bool)=>some (!x7)))))))) fun (v4:Bool)=>cond v4 (some false) (Option.bind (Qj (σ:=Int) (β:=Unit⊕Bool) (fun s11=>cond ((decide (s11 < (a0.ctors.length:Int)))) (Option.bind (J3 a0.ctors s11) fun (x13:Ctr)=>cond ((decide (100 < (x13.name.length:Int)))) (some (.done (.inr false))) (Option.bind (J3 a0.ctors s11) fun (x14:Ctr)=>Option.bind (Q7k x14.ty 100) fun (x15:Bool)=>cond ((!x15)) (some (.done (.inr false))) (some (.next (QE (s11+1)))))) (some (.done (.inl ())))) Qk 0) (Sum.elim (fun (v12:Unit)=>Option.bind (Qj (σ:=Int) (β:=Unit⊕Bool) (fun s18=>cond ((decide (s18 < (a0.rcr.rules.length:Int)))) (Option.bind (J3 a0.rcr.rules s18) fun (x20:Tm)=>Option.bind (Q7k x20 400) fun (x21:Bool)=>cond ((!x21)) (some (.done (.inr false))) (some (.next (QE (s18+1))))) (some (.done (.inl ())))) Qk 0) (Sum.elim (fun (v19:Unit)=>Option.bind (Qj (σ:=Int) (β:=Unit⊕Bool) (fun s27=>cond ((decide (s27 < (a0.funs.length:Int)))) (Option.bind (J3 a0.funs s27) fun (x29:Fn)=>cond ((decide (100 < (x29.name.length:Int)))) (some (.done (.inr false))) (Option.bind (J3 a0.funs s27) fun (x30:Fn)=>Option.bind (Q7k x30.ty 100) fun (x31:Bool)=>cond ((!x31)) (some (.done (.inr false))) (Option.bind (J3 a0.funs s27) fun (x32:Fn)=>Option.bind (Qay x32.tree 200) fun (x33:Bool)=>cond ((!x33)) (some (.done (.inr false))) (some (.next (QE (s27+1))))))) (some (.done (.inl ())))) Qk 0) (Sum.elim (fun (v28:Unit)=>some true) (fun (o34:Bool)=>some o34))) (fun (o35:Bool)=>some o35))) (fun (o36:Bool)=>some o36)))
noncomputable def k20:KF UV:=⟨[.stc .t48],[.bool],fun v=>Qbq v⟩
noncomputable def H20:Hints UV:=⟨[(1,⟨[([.reg 47],.bool)],[],false⟩),(5,⟨[([.reg 3],.int .i64)],[],true⟩),(14,⟨[([.reg 4],.int .i64)],[],true⟩),(23,⟨[([.reg 5],.int .i64)],[],true⟩)],[]⟩
theorem k20_ok:Jo DV W0 Tryz.prog 20 k20:=Js (C:=Qdj) rfl Qp Qf (Qo (tb:=[(11,k11),(44,k44)]) Qf ⟨k11_ok,k44_ok,trivial⟩) J2 Tryz.func20 en_20 H20 k20 rfl (fun v=>by kernel_rfl)
theorem en_8:Qe Tryz.prog 8:=enters_of Tryz.func8 (by kernel_rfl) rfl
def Qco (a0:Dcl):Option (Bool) :=
 Option.bind (Qbq a0) fun (x1:Bool)=>cond ((!x1)) (Option.bind (Qap) fun (x2:Bool)=>some x2) (Option.bind (Qbp a0) fun (x3:(List UInt8)×Int)=>Option.bind (Qbo a0) fun (x4:(List UInt8)×Int)=>Option.bind (Option.bind (Qap) fun (x7:Bool)=>cond x7 (cond ((x3.1==x4.1)) (some (x3.2==x4.2)) (some false)) (some false)) fun (v6:Bool)=>some v6)
noncomputable def k8:KF UV:=⟨[.stc .t48],[.bool],fun v=>Qco v⟩
noncomputable def H8:Hints UV:=⟨[(6,⟨[([.reg 2],.bool)],[],false⟩)],[]⟩
theorem k8_ok:Jo DV W0 Tryz.prog 8 k8:=Js (C:=Qdj) rfl Qp Qf (Qo (tb:=[(12,k12),(20,k20),(21,k21),(22,k22)]) Qf ⟨k12_ok,k20_ok,k21_ok,k22_ok,trivial⟩) J2 Tryz.func8 en_8 H8 k8 rfl (fun v=>by kernel_rfl)
end
section
open Go.RowKit Go.Shelf
structure WA where
 t:Qdk
 e:Int
 n:Nat
def WA.seq (a b:WA):WA:=⟨a.t++b.t,if a.e=0 then b.e else a.e,a.n+b.n⟩
def WA.nil:WA:=⟨[],0,0⟩
def raw (s:Qdk):WA:=⟨s,0,s.length⟩
def bad (e:Int):WA:=⟨[],e,0⟩
def Yx (l:List WA):WA:=l.foldr WA.seq WA.nil
def WA.ok (a:WA):Prop:=a.t.length≤a.n
theorem J1 {a b:WA} (ha:a.ok) (hb:b.ok):(a.seq b).ok:=by
 unfold WA.ok WA.seq at *
 dsimp only
 rw [List.length_append];omega
theorem Yj (s:Qdk):(raw s).ok:=Nat.le_refl _
theorem Q23 {l:List WA} (h:∀ a∈l,a.ok):(Yx l).ok:=by
 induction l with
 | nil=>exact Nat.le_refl _
 | cons a l ih=>exact J1 (h a List.mem_cons_self) (ih fun x hx=>h x (List.mem_cons_of_mem _ hx))
section
variable {τ σ:Type}
def WQ (ok:List Byt→τ) (er:Int→List Byt→τ) (x:Option τ) (b:List Byt) (a:WA):Prop:=(a.e=0→x=some (ok (b++JV a.t)))∧(a.e ≠ 0→∃ b',x=some (er a.e b'))
variable {ok:List Byt→τ} {er:Int→List Byt→τ} {ok1:List Byt→σ} {er1:Int→List Byt→σ} {b:List Byt} {a1 a2:WA}
theorem WQ.bind {x:Option σ} {K:σ→Option τ} (h1:WQ ok1 er1 x b a1) (hok:a1.ok) (hb:b.length+(a1.seq a2).n≤900000000) (h2:a1.e=0→(b++JV a1.t).length+a2.n≤900000000→WQ ok er (K (ok1 (b++JV a1.t))) (b++JV a1.t) a2)
  (h3:∀ e b',∃ b'',K (er1 e b')=some (er e b'')):WQ ok er (Option.bind x K) b (a1.seq a2):=by
 have hb':b.length+(a1.n+a2.n)≤900000000:=hb
 by_cases h0:a1.e=0
 ·have e1:=h1.1 h0
  have ho:a1.t.length≤a1.n:=hok
  have hq:=h2 h0 (by rw [List.length_append,KQ];omega)
  rw [e1,Option.bind_some]
  constructor
  ·intro he
   have he2:a2.e=0:=by
    have:(if a1.e=0 then a2.e else a1.e)=0:=he
    rwa [if_pos h0] at this
   rw [hq.1 he2]
   show _=some (ok (b++JV (a1.t++a2.t)))
   rw [Z2,List.append_assoc]
  ·intro he
   have e2:(a1.seq a2).e=a2.e:=if_pos h0
   rw [e2] at he ⊢
   exact hq.2 he
 ·obtain ⟨b',e1⟩:=h1.2 h0
  have e2:(a1.seq a2).e=a1.e:=if_neg h0
  rw [e1,Option.bind_some]
  constructor
  ·intro he;rw [e2] at he;exact absurd he h0
  ·intro _;rw [e2];exact h3 _ _
theorem WQ.nil:WQ ok er (some (ok b)) b WA.nil:=⟨fun _=>by show _=some (ok (b++[]));rw [List.append_nil],fun h=>absurd rfl h⟩
theorem WQ.bad {e:Int} (h:e ≠ 0) (b':List Byt):WQ ok er (some (er e b')) b (bad e):=⟨fun h'=>absurd h' h,fun _=>⟨b',rfl⟩⟩
theorem WQ.raw {x:Option τ} {s:Qdk} (hb:b.length+((raw s).seq a2).n≤900000000) (h:(b++JV s).length+a2.n≤900000000→WQ ok er x (b++JV s) a2):WQ ok er (Qc (Nat.ble (b.length+s.length) 1000000000) x) b ((Go.Proofs.YtjcfppnjamjjhaaGreatDoor.raw s).seq a2):=by
 have hb':b.length+(s.length+a2.n)≤900000000:=hb
 rw [Jz (by omega)]
 have hq:=h (by rw [List.length_append,KQ];omega)
 constructor
 ·intro he
  rw [hq.1 he]
  show _=some (ok (b++JV (s++a2.t)))
  rw [Z2,List.append_assoc]
 ·intro he;exact hq.2 he
theorem GV {s:Qdk} (hb:b.length+(Go.Proofs.YtjcfppnjamjjhaaGreatDoor.raw s).n≤900000000):WQ ok er (Qc (Nat.ble (b.length+s.length) 1000000000) (some (ok (b++JV s)))) b (Go.Proofs.YtjcfppnjamjjhaaGreatDoor.raw s):=by
 have hb':b.length+s.length≤900000000:=hb
 rw [Jz (by omega)]
 exact ⟨fun _=>rfl,fun h=>absurd rfl h⟩
theorem WQ.map {x:Option σ} {K:σ→Option τ} {a:WA} (h1:WQ ok1 er1 x b a) (h2:∀ b',K (ok1 b')=some (ok b')) (h3:∀ e b',∃ b'',K (er1 e b')=some (er e b'')):WQ ok er (Option.bind x K) b a:=by
 constructor
 ·intro he;rw [h1.1 he];exact h2 _
 ·intro he
  obtain ⟨b',e1⟩:=h1.2 he
  rw [e1];exact h3 _ _
theorem WQ.loop {α ρ:Type} {step:Int×List Byt→Option (LO (Int×List Byt) (List Byt⊕ρ))} {er0:Int→List Byt→ρ} (l:List α) (f:α→WA) (hf:∀ x∈l,(f x).ok) (hl:l.length≤900000000)
  (hin:∀ (p:List α) (x:α) (q:List α) (b:List Byt),l=p++x::q→b.length+(f x).n≤900000000→WQ (fun b=>LO.next (QE ((p.length:Int)+1),b)) (fun e b=>.done (.inr (er0 e b))) (step ((p.length:Int),b)) b (f x))
  (hout:∀ b,step ((l.length:Int),b)=some (.done (.inl b))) (b:List Byt) (hb:b.length+(Yx (l.map f)).n≤900000000) :
  WQ (fun b=>(.inl b:List Byt⊕ρ)) (fun e b=>.inr (er0 e b)) (Qj step Qk (0,b)) b (Yx (l.map f)):=by
 have key:∀ (q p:List α) (n:Nat) (b:List Byt),l=p++q→q.length < n→b.length+(Yx (q.map f)).n≤900000000→WQ (fun b=>(.inl b:List Byt⊕ρ)) (fun e b=>.inr (er0 e b)) (Qj step n ((p.length:Int),b)) b (Yx (q.map f)):=by
  intro q
  induction q with
  | nil =>
   intro p n b e hn _
   rw [List.append_nil] at e
   subst e
   cases n with
   | zero=>omega
   | succ n =>
    simp only [Qj]
    rw [hout b]
    exact WQ.nil
  | cons x q ih =>
   intro p n b e hn hb
   cases n with
   | zero=>omega
   | succ n =>
    have hpl:p.length < l.length:=by rw [e,List.length_append,List.length_cons];omega
    have hb':b.length+((f x).n+(Yx (q.map f)).n)≤900000000:=hb
    have h1:=hin p x q b e (by omega)
    have hx:x∈l:=by rw [e];simp
    have hfx:(f x).t.length≤(f x).n:=hf x hx
    simp only [Qj]
    show WQ _ _ _ b ((f x).seq (Yx (q.map f)))
    by_cases h0:(f x).e=0
    ·rw [h1.1 h0]
     dsimp only
     rw [Wl (by omega)]
     have h2:=ih (p++[x]) n (b++JV (f x).t) (by rw [e,List.append_assoc];rfl) (by simp only [List.length_cons] at hn;omega) (by rw [List.length_append,KQ];omega)
     rw [List.length_append] at h2
     constructor
     ·intro he
      have he2:(Yx (q.map f)).e=0:=by
       have:(if (f x).e=0 then (Yx (q.map f)).e else (f x).e)=0:=he
       rwa [if_pos h0] at this
      refine (h2.1 he2).trans ?_
      show some (Sum.inl _)=some (Sum.inl (b++JV ((f x).t++(Yx (q.map f)).t)))
      rw [Z2,List.append_assoc]
     ·intro he
      have e2:((f x).seq (Yx (q.map f))).e=(Yx (q.map f)).e:=if_pos h0
      rw [e2] at he ⊢
      exact h2.2 he
    ·obtain ⟨b',e1⟩:=h1.2 h0
     rw [e1]
     have e2:((f x).seq (Yx (q.map f))).e=(f x).e:=if_neg h0
     exact ⟨fun he=>(by rw [e2] at he;exact absurd he h0),fun _=>(by rw [e2];exact ⟨b',rfl⟩)⟩
 exact key l [] Qk b rfl (by unfold Qk;omega) hb
end
section
variable {τ σ:Type}
def RQ (ok:Qdk→Int→τ) (x:Option τ) (s:Qdk) (E:Int) (a:WA):Prop:=∃ s',x=some (ok s' (if E=0 then a.e else E))∧s'.length≤s.length+a.n∧(E=0→a.e=0→s'=s++a.t)
variable {ok:Qdk→Int→τ} {ok1:Qdk→Int→σ} {s:Qdk} {E:Int} {a1 a2:WA}
theorem RQ.bind {x:Option σ} {K:σ→Option τ} (h1:RQ ok1 x s E a1) (hb:s.length+(a1.seq a2).n≤900000000) (h2:∀ s',s'.length+a2.n≤900000000→RQ ok (K (ok1 s' (if E=0 then a1.e else E))) s' (if E=0 then a1.e else E) a2):RQ ok (Option.bind x K) s E (a1.seq a2):=by
 have hb':s.length+(a1.n+a2.n)≤900000000:=hb
 obtain ⟨s1,e1,l1,t1⟩:=h1
 obtain ⟨s2,e2,l2,t2⟩:=h2 s1 (by omega)
 rw [e1,Option.bind_some]
 refine ⟨s2,?_,by show s2.length≤s.length+(a1.n+a2.n);omega,fun hE he=>?_⟩
 ·rw [e2]
  show some (ok s2 (if (if E=0 then a1.e else E)=0 then a2.e else if E=0 then a1.e else E))=some (ok s2 (if E=0 then (if a1.e=0 then a2.e else a1.e) else E))
  by_cases hE:E=0
  ·rw [if_pos hE,if_pos hE]
  ·rw [if_neg hE,if_neg hE,if_neg hE]
 ·have he':(if a1.e=0 then a2.e else a1.e)=0:=he
  have h1e:a1.e=0:=by
   by_cases h:a1.e=0
   ·exact h
   ·rwa [if_neg h] at he'
  rw [if_pos h1e] at he'
  rw [t2 (by rw [if_pos hE];exact h1e) he',t1 hE h1e,List.append_assoc];rfl
theorem RQ.nil:RQ ok (some (ok s E)) s E WA.nil:=⟨s,by
 show some (ok s E)=some (ok s (if E=0 then 0 else E))
 by_cases h:E=0
 ·rw [if_pos h,h]
 ·rw [if_neg h],Nat.le_refl _,fun _ _=>(List.append_nil s).symm⟩
theorem RQ.map {x:Option σ} {K:σ→Option τ} {a:WA} (h1:RQ ok1 x s E a) (h2:∀ s' E',K (ok1 s' E')=some (ok s' E')):RQ ok (Option.bind x K) s E a:=by
 obtain ⟨s1,e1,l1,t1⟩:=h1
 exact ⟨s1,by rw [e1,Option.bind_some,h2],l1,t1⟩
abbrev Q75 (s:Qdk) (E:Int):RWr×Unit:=(⟨s,E⟩,())
theorem RQ.add {w:Qdk} (hb:s.length+(raw w).n≤900000000):RQ Q75 (QA (XU ⟨s,E⟩ w)) s E (raw w):=by
 have hb':s.length+w.length≤900000000:=hb
 unfold XU
 dsimp only
 rw [Jz (by omega)]
 refine ⟨s++w,?_,by rw [List.length_append];exact Nat.le_refl _,fun _ _=>rfl⟩
 show some (Q75 (s++w) E)=some (Q75 (s++w) (if E=0 then 0 else E))
 by_cases h:E=0
 ·rw [if_pos h,h]
 ·rw [if_neg h]
theorem RQ.loop {α:Type} {step:Int×Qdk×Int→Option (LO (Int×Qdk×Int) (Qdk×Int))} (l:List α) (f:α→WA) (hl:l.length≤900000000)
  (hin:∀ (p:List α) (x:α) (q:List α) (s:Qdk) (E:Int),l=p++x::q→s.length+(f x).n≤900000000→RQ (fun s E=>LO.next (QE ((p.length:Int)+1),s,E)) (step ((p.length:Int),s,E)) s E (f x))
  (hout:∀ s E,step ((l.length:Int),s,E)=some (.done (s,E))) (s:Qdk) (E:Int) (hb:s.length+(Yx (l.map f)).n≤900000000) :
  RQ (fun s E=>(s,E)) (Qj step Qk (0,s,E)) s E (Yx (l.map f)):=by
 have key:∀ (q p:List α) (n:Nat) (s:Qdk) (E:Int),l=p++q→q.length < n→s.length+(Yx (q.map f)).n≤900000000→RQ (fun s E=>(s,E)) (Qj step n ((p.length:Int),s,E)) s E (Yx (q.map f)):=by
  intro q
  induction q with
  | nil =>
   intro p n s E e hn _
   rw [List.append_nil] at e
   subst e
   cases n with
   | zero=>omega
   | succ n =>
    simp only [Qj]
    rw [hout s E]
    exact RQ.nil
  | cons x q ih =>
   intro p n s E e hn hb
   cases n with
   | zero=>omega
   | succ n =>
    have hpl:p.length < l.length:=by rw [e,List.length_append,List.length_cons];omega
    have hb':s.length+((f x).n+(Yx (q.map f)).n)≤900000000:=hb
    obtain ⟨s1,e1,l1,t1⟩:=hin p x q s E e (by omega)
    obtain ⟨s2,e2,l2,t2⟩:=ih (p++[x]) n s1 (if E=0 then (f x).e else E) (by rw [e,List.append_assoc];rfl) (by simp only [List.length_cons] at hn;omega) (by omega)
    rw [List.length_append] at e2
    simp only [Qj]
    rw [e1]
    dsimp only
    rw [Wl (by omega)]
    refine ⟨s2,?_,by show s2.length≤s.length+((f x).n+(Yx (q.map f)).n);omega,fun hE he=>?_⟩
    ·refine Eq.trans e2 ?_
     show some (s2,_)=some (s2,if E=0 then (if (f x).e=0 then (Yx (q.map f)).e else (f x).e) else E)
     by_cases hE:E=0
     ·rw [if_pos hE,if_pos hE]
     ·rw [if_neg hE,if_neg hE,if_neg hE]
    ·have he':(if (f x).e=0 then (Yx (q.map f)).e else (f x).e)=0:=he
     have h1e:(f x).e=0:=by
      by_cases h:(f x).e=0
      ·exact h
      ·rwa [if_neg h] at he'
     rw [if_pos h1e] at he'
     rw [t2 (by rw [if_pos hE];exact h1e) he',t1 hE h1e,List.append_assoc];rfl
 exact key l [] Qk s E rfl (by unfold Qk;omega) hb
end
def Ks (s:Qdk):WA:=⟨[32]++s,if Z4 s=true then 0 else 29,1+s.length⟩
def GB (k:Int):WA:=⟨if k < 0∨1000000≤k then [] else [32]++Kb k.toNat,if k < 0∨1000000≤k then 2 else 0,10⟩
def Q3w (t:Tm):Qdk×Int:=(Q8g t).getD ([],0)
def Yg (t:Tm):WA:=⟨[32]++(Q3w t).1,(Q3w t).2,1+60 * t.size⟩
theorem Q53 {t:Tm} (h:t.size≤2000000):Q8g t=some (Q3w t)∧Qa3 t=some (Q3w t)∧(Q3w t).1.length≤60 * t.size:=by
 obtain ⟨e,h1,h2⟩:=m27_eq t 1000000 1000000 (by omega)
 obtain ⟨e',h3,h4⟩:=print_eq t h
 have hp:Q3w t=Xi e' t:=by unfold Q3w;rw [h3];rfl
 refine ⟨by rw [hp];exact h3,by rw [hp];exact h4,?_⟩
 have h5:=m14_eq h h1
 rw [h4] at h5
 rw [hp,Option.some.inj h5]
 unfold Xi
 split
 ·rename_i h0
  subst h0
  split
  ·exact Nat.zero_le _
  ·have:=Uj t (Q0j t (by omega) h1)
   show (JO t).length≤_
   omega
 ·exact Nat.zero_le _
theorem Zq (s:Qdk):(Ks s).ok:=by show ([32]++s).length≤1+s.length;rw [List.length_append];exact Nat.le_refl _
theorem KZ (k:Int):(GB k).ok:=by
 show (if k < 0∨1000000≤k then ([]:Qdk) else [32]++Kb k.toNat).length≤10
 split
 ·exact Nat.zero_le _
 ·have:=Yd (a:=k) (by omega)
  rw [List.length_append];simp only [List.length_cons,List.length_nil];omega
theorem Y7 {t:Tm} (h:t.size≤2000000):(Yg t).ok:=by
 have:=(Q53 h).2.2
 show ([32]++(Q3w t).1).length≤1+60 * t.size
 rw [List.length_append];simp only [List.length_cons,List.length_nil];omega
abbrev Q41 (b:List Byt):((List Byt)×Unit)⊕((Int×Int)×(List Byt)):=.inl (b,())
abbrev Dh (e:Int) (b:List Byt):((List Byt)×Unit)⊕((Int×Int)×(List Byt)):=.inr ((e,0),b)
theorem Q44 (s:Qdk) (hs:s.length≤900000000) (b:List Byt) (hb:b.length+(Ks s).n≤900000000):WQ Q41 Dh (Q9m b s) b (Ks s):=by
 have hb':b.length+(1+s.length)≤900000000:=hb
 unfold Q9m
 rw [Q2h s hs,Option.bind_some]
 cases hn:Z4 s with
 | true =>
  have e0:(Ks s).e=0:=by show (if Z4 s=true then (0:Int) else 29)=0;rw [hn];rfl
  rw [show (!true)=false from rfl,cond_false,Jz (by show 1+s.length≤_;omega),Jz (by rw [List.length_append];show b.length+(1+s.length)≤_;omega)]
  exact ⟨fun _=>rfl,fun h=>absurd e0 h⟩
 | false =>
  have e0:(Ks s).e=29:=by show (if Z4 s=true then (0:Int) else 29)=29;rw [hn];rfl
  exact ⟨fun h=>(by rw [e0] at h;cases h),fun _=>⟨b,by rw [e0];rfl⟩⟩
theorem Q43 (k:Int) (b:List Byt) (hb:b.length+(GB k).n≤900000000):WQ Q41 Dh (Q9l b k) b (GB k):=by
 have hb':b.length+10≤900000000:=hb
 unfold Q9l
 by_cases h:k < 0∨1000000≤k
 ·have e0:(GB k).e=2:=if_pos h
  have hc:(cond (decide (k < 0)) (some true) (some (decide (1000000≤k))))=some true:=by
   rcases h with h | h
   ·rw [decide_eq_true h];rfl
   ·by_cases h2:k < 0
    ·rw [decide_eq_true h2];rfl
    ·rw [decide_eq_false h2,decide_eq_true h];rfl
  rw [hc]
  exact ⟨fun h=>(by rw [e0] at h;cases h),fun _=>⟨b,by rw [e0];rfl⟩⟩
 ·have e0:(GB k).e=0:=if_neg h
  have et:(GB k).t=[32]++Kb k.toNat:=if_neg h
  have h1:0≤k:=by omega
  have h2:k < 1000000:=by omega
  have hl:=Yd h2
  rw [decide_eq_false (by omega),decide_eq_false (by omega),cond_false,Option.bind_some,cond_false,Q2a h1 h2,Option.bind_some,Jz (by show 1+(Kb k.toNat).length≤_;omega),
   Jz (by rw [List.length_append];show b.length+(1+(Kb k.toNat).length)≤_;omega)]
  exact ⟨fun _=>(by rw [et]),fun h=>absurd e0 h⟩
theorem D3 {t:Tm} (ht:t.size≤2000000) (b:List Byt) (hb:b.length+(Yg t).n≤900000000):WQ Q41 Dh (Q89 b t) b (Yg t):=by
 have hb':b.length+(1+60 * t.size)≤900000000:=hb
 obtain ⟨h1,-,h3⟩:=Q53 ht
 unfold Q89
 rw [h1,Option.bind_some]
 by_cases h0:(Q3w t).2=0
 ·rw [show ((Q3w t).2 != 0)=false by simp [h0],cond_false,Jz (by show 1+(Q3w t).1.length≤_;omega),Jz (by rw [List.length_append];show b.length+(1+(Q3w t).1.length)≤_;omega)]
  exact ⟨fun _=>rfl,fun h=>absurd h0 h⟩
 ·rw [Q0n h0,cond_true]
  exact ⟨fun h=>absurd h h0,fun _=>⟨b,Z⟩⟩
theorem Q46 (w:Qdk) (hw:w.length≤900000000) (s:Qdk) (E:Int) (hb:s.length+(Ks w).n≤900000000):RQ Q75 (QA (Q8d ⟨s,E⟩ w)) s E (Ks w):=by
 have hb':s.length+(1+w.length)≤900000000:=hb
 unfold Q8d
 dsimp only
 have hc:Option.bind (Option.bind (cond (E==0) (Option.bind (Q92 w) fun (x3:Bool)=>some (!x3)) (some false)) fun (v2:Bool)=>cond v2 (some 29) (some E)) (fun v4:Int=>some v4)=some (if E=0 then (Ks w).e else E):=by
  by_cases h:E=0
  ·rw [if_pos h,GS h,cond_true,Q58 w hw,Option.bind_some,Option.bind_some]
   show _=some (if Z4 w=true then (0:Int) else 29)
   cases Z4 w with
   | true=>rw [h];rfl
   | false=>rfl
  ·rw [if_neg h,JA h,cond_false];rfl
 have hv:∃ v2:Bool,(cond (E==0) (Option.bind (Q92 w) fun (x3:Bool)=>some (!x3)) (some false))=some v2:=by
  rw [Q58 w hw]
  cases (E==0) <;> exact ⟨_,rfl⟩
 obtain ⟨v2,hv2⟩:=hv
 rw [hv2] at hc ⊢
 rw [Option.bind_some] at hc ⊢
 have hc':(cond v2 (some 29) (some E):Option Int)=some (if E=0 then (Ks w).e else E):=by
  cases v2 <;> exact hc
 rw [hc',Option.bind_some,Jz (by show 1+w.length≤_;omega)]
 unfold XU
 dsimp only
 rw [Jz (by rw [List.length_append];show s.length+(1+w.length)≤_;omega)]
 exact ⟨s++([32]++w),rfl,(by rw [List.length_append,List.length_append];exact Nat.le_refl _),fun _ _=>rfl⟩
theorem Q45 (k:Int) (s:Qdk) (E:Int) (hb:s.length+(GB k).n≤900000000):RQ Q75 (QA (Q7j ⟨s,E⟩ k)) s E (GB k):=by
 have hb':s.length+10≤900000000:=hb
 unfold Q7j
 dsimp only
 by_cases h:k < 0∨1000000≤k
 ·have e0:(GB k).e=2:=if_pos h
  have hc:(cond (decide (k < 0)) (some true) (some (decide (1000000≤k))))=some true:=by
   rcases h with h | h
   ·rw [decide_eq_true h];rfl
   ·by_cases h2:k < 0
    ·rw [decide_eq_true h2];rfl
    ·rw [decide_eq_false h2,decide_eq_true h];rfl
  rw [hc,Option.bind_some,cond_true]
  refine ⟨s,?_,Nat.le_add_right _ _,fun _ he=>by rw [e0] at he;cases he⟩
  rw [e0]
  by_cases hE:E=0
  ·rw [if_pos hE,GS hE];rfl
  ·rw [if_neg hE,JA hE];rfl
 ·have e0:(GB k).e=0:=if_neg h
  have et:(GB k).t=[32]++Kb k.toNat:=if_neg h
  have h1:0≤k:=by omega
  have h2:k < 1000000:=by omega
  have hl:=Yd h2
  rw [decide_eq_false (by omega),decide_eq_false (by omega),cond_false,Option.bind_some,cond_false,Q5a h1 (by omega),Option.bind_some,Jz (by show 1+(Kb k.toNat).length≤_;omega)]
  unfold XU
  dsimp only
  rw [Jz (by rw [List.length_append];show s.length+(1+(Kb k.toNat).length)≤_;omega)]
  refine ⟨s++([32]++Kb k.toNat),?_,by rw [List.length_append,List.length_append];show s.length+(1+(Kb k.toNat).length)≤s.length+10;omega,fun _ _=>by rw [et]⟩
  rw [e0]
  by_cases hE:E=0
  ·rw [if_pos hE,hE];rfl
  ·rw [if_neg hE];rfl
theorem D4 {t:Tm} (ht:t.size≤2000000) (s:Qdk) (E:Int) (hb:s.length+(Yg t).n≤900000000):RQ Q75 (QA (Q3n ⟨s,E⟩ t)) s E (Yg t):=by
 have hb':s.length+(1+60 * t.size)≤900000000:=hb
 obtain ⟨-,h2,h3⟩:=Q53 ht
 unfold Q3n
 dsimp only
 rw [h2,Option.bind_some]
 have hc:(cond (E==0) (some (Q3w t).2) (some E):Option Int)=some (if E=0 then (Yg t).e else E):=by
  by_cases h:E=0
  ·rw [if_pos h,GS h];rfl
  ·rw [if_neg h,JA h];rfl
 rw [hc,Option.bind_some,Jz (by show 1+(Q3w t).1.length≤_;omega)]
 unfold XU
 dsimp only
 rw [Jz (by rw [List.length_append];show s.length+(1+(Q3w t).1.length)≤_;omega)]
 exact ⟨s++([32]++(Q3w t).1),rfl,by rw [List.length_append,List.length_append];show s.length+(1+(Q3w t).1.length)≤s.length+(1+60 * t.size);omega,fun _ _=>rfl⟩
def Xy (t:Tm):Bool:=decide (t.kind=0∧t.index=0∧t.name=[]∧t.levels=[]∧t.kids=[])
theorem Xr {σ β:Type} {step:σ→Option (LO σ β)} {s:σ} {r:β} (h:step s=some (.done r)):Qj step Qk s=some r:=by
 unfold Qk
 rw [Qj,h]
theorem Q2r {α:Type} (l:List α):((l.length:Int) != (([]:List α).length:Int))=!decide (l=[]):=by
 cases l with
 | nil=>rfl
 | cons a l=>rw [decide_eq_false (List.cons_ne_nil _ _)];simp;omega
theorem XF (a b:Int):(a != b)=!decide (a=b):=by unfold bne;rw [Yf]
abbrev zTm:Tm:=Tm.mk 0 0 [] [] []
theorem m19_z (t:Tm):m19 t zTm=some (Xy t):=by
 have h:Q7a (QX (fun rc v=>Q7a rc v.1 v.2) 999999999) t zTm=some (Xy t):=by
  generalize QX (fun rc v=>Q7a rc v.1 v.2) 999999999=rc
  unfold Q7a
  simp only [show zTm.kind=(0:Int) from rfl,show zTm.index=(0:Int) from rfl,show zTm.name=([]:Qdk) from rfl,show zTm.levels=([]:List Lvl) from rfl,show zTm.kids=([]:List Tm) from rfl]
  rw [Yf,Yf,Q7h,Q2r,Q2r]
  by_cases h1:t.kind=0
  ·by_cases h2:t.index=0
   ·by_cases h3:t.name=[]
    ·by_cases h4:t.levels=[]
     ·by_cases h5:t.kids=[]
      ·rw [decide_eq_true h1,decide_eq_true h2,decide_eq_true h3,decide_eq_true h4,decide_eq_true h5,show Xy t=true from decide_eq_true ⟨h1,h2,h3,h4,h5⟩,h4,h5]
       rw [Xr (r:=.inl ()) (by rfl),Xr (r:=.inl ()) (by rfl)];rfl
      ·rw [decide_eq_true h1,decide_eq_true h2,decide_eq_true h3,decide_eq_true h4,decide_eq_false h5,show Xy t=false from decide_eq_false fun e=>h5 e.2.2.2.2,h4]
       rw [Xr (r:=.inl ()) (by rfl)];rfl
     ·rw [decide_eq_true h1,decide_eq_true h2,decide_eq_true h3,decide_eq_false h4,show Xy t=false from decide_eq_false fun e=>h4 e.2.2.2.1];rfl
    ·rw [decide_eq_true h1,decide_eq_true h2,decide_eq_false h3,show Xy t=false from decide_eq_false fun e=>h3 e.2.2.1];rfl
   ·rw [decide_eq_true h1,decide_eq_false h2,show Xy t=false from decide_eq_false fun e=>h2 e.2.1];rfl
  ·rw [decide_eq_false h1,show Xy t=false from decide_eq_false fun e=>h1 e.1];rfl
 exact h
theorem DT (t:Tm):Q14 t=some (Xy t):=by unfold Q14;rw [m19_z];rfl
theorem m40_z (l:List Lvl):Qbn l []=some (decide (l=[])):=by
 unfold Qbn
 rw [Q2r]
 by_cases h:l=[]
 ·subst h
  rw [Xr (r:=.inl ()) (by rfl)];rfl
 ·rw [decide_eq_false h];rfl
theorem Q48 (t:Tm):m17 t zTm=some (Xy t):=by
 have h:Q7b (QX (fun rc v=>Q7b rc v.1 v.2) 999999999) t zTm=some (Xy t):=by
  generalize QX (fun rc v=>Q7b rc v.1 v.2) 999999999=rc
  unfold Q7b
  simp only [show zTm.kind=(0:Int) from rfl,show zTm.index=(0:Int) from rfl,show zTm.name=([]:Qdk) from rfl,show zTm.levels=([]:List Lvl) from rfl,show zTm.kids=([]:List Tm) from rfl]
  rw [XF,XF,Q7h,m40_z,Option.bind_some,Q2r]
  by_cases h1:t.kind=0
  ·by_cases h2:t.index=0
   ·by_cases h3:t.name=[]
    ·by_cases h4:t.levels=[]
     ·by_cases h5:t.kids=[]
      ·rw [decide_eq_true h1,decide_eq_true h2,decide_eq_true h3,decide_eq_true h4,decide_eq_true h5,show Xy t=true from decide_eq_true ⟨h1,h2,h3,h4,h5⟩,h5]
       rw [Xr (r:=.inl ()) (by rfl)];rfl
      ·rw [decide_eq_true h1,decide_eq_true h2,decide_eq_true h3,decide_eq_true h4,decide_eq_false h5,show Xy t=false from decide_eq_false fun e=>h5 e.2.2.2.2];rfl
     ·rw [decide_eq_true h1,decide_eq_true h2,decide_eq_true h3,decide_eq_false h4,show Xy t=false from decide_eq_false fun e=>h4 e.2.2.2.1];rfl
    ·rw [decide_eq_true h1,decide_eq_true h2,decide_eq_false h3,show Xy t=false from decide_eq_false fun e=>h3 e.2.2.1];rfl
   ·rw [decide_eq_true h1,decide_eq_false h2,show Xy t=false from decide_eq_false fun e=>h2 e.2.1];rfl
  ·rw [decide_eq_false h1,show Xy t=false from decide_eq_false fun e=>h1 e.1];rfl
 exact h
end
section
open Go.RowKit Go.Shelf
theorem Dp (a:WA):WA.nil.seq a=a:=by
 cases a with
 | mk t e n=>show WA.mk ([]++t) (if (0:Int)=0 then e else 0) (0+n)=_;rw [if_pos rfl,Nat.zero_add,List.nil_append]
theorem WQ.bad_seq {τ:Type} {ok:List Byt→τ} {er:Int→List Byt→τ} {e:Int} (h:e ≠ 0) (b b':List Byt) (a:WA):WQ ok er (some (er e b')) b ((Go.Proofs.YtjcfppnjamjjhaaGreatDoor.bad e).seq a):=by
 have e2:((Go.Proofs.YtjcfppnjamjjhaaGreatDoor.bad e).seq a).e=e:=if_neg h
 exact ⟨fun h'=>(by rw [e2] at h';exact absurd h' h),fun _=>⟨b',by rw [e2]⟩⟩
theorem RQ.stop {τ:Type} {ok:Qdk→Int→τ} {s:Qdk} {E:Int} (a:WA) (h:E ≠ 0):RQ ok (some (ok s E)) s E a:=⟨s,by rw [if_neg h],Nat.le_add_right _ _,fun h'=>absurd h' h⟩
theorem RQ.bad_seq {τ:Type} {ok:Qdk→Int→τ} {s:Qdk} {E e:Int} (a:WA) (hE:E=0) (h:e ≠ 0):RQ ok (some (ok s e)) s E ((Go.Proofs.YtjcfppnjamjjhaaGreatDoor.bad e).seq a):=by
 have e2:((Go.Proofs.YtjcfppnjamjjhaaGreatDoor.bad e).seq a).e=e:=if_neg h
 exact ⟨s,by rw [if_pos hE,e2],Nat.le_add_right _ _,fun _ h'=>by rw [e2] at h';exact absurd h' h⟩
theorem Ji {a m n:Nat} (h:a+(m+n)≤900000000):a+m≤900000000:=by omega
def Wk (t:Tr):Bool:=decide (t.kind=0)&&(Xy t.body&&(decide (t.var=0)&&decide (t.branches=[])))
theorem Q1e {α:Type} (l:List α):((l.length:Int)==0)=decide (l=[]):=by
 cases l with
 | nil=>rfl
 | cons a l=>rw [decide_eq_false (List.cons_ne_nil _ _),Yf,decide_eq_false];rw [List.length_cons];omega
theorem Q8j {α:Type} (l:List α):decide (0 < (l.length:Int))=!decide (l=[]):=by
 cases l with
 | nil=>rfl
 | cons a l=>rw [decide_eq_false (List.cons_ne_nil _ _),decide_eq_true (by rw [List.length_cons];omega)];rfl
theorem m99_z (t:Tr):Qbe t=some (Wk t):=by
 unfold Qbe Wk
 rw [Q48,Option.bind_some,Yf,Yf,Q1e]
 cases decide (t.kind=0) <;> cases Xy t.body <;> cases decide (t.var=0) <;> rfl
def Qcc (t:Tr):WA:=if Wk t=true then WA.nil else bad 3
def Q17 (tw:Tr→WA) (b:Qdl):WA:=if b.absurd=true then (raw [32,40,97,98,115,117,114,100]).seq ((Ks b.ctor).seq ((Qcc b.tree).seq (raw [41]))) else (raw [32,40,98,114,97,110,99,104]).seq ((Ks b.ctor).seq ((tw b.tree).seq (raw [41])))
def Q4e (t:Tr):Bool:=decide (t.kind=0)&&(decide (t.var=0)&&decide (t.branches=[]))
def Ul (t:Tr):Bool:=decide (t.kind=1)&&Xy t.body
def Gg (tw:Tr→WA) (t:Tr):WA:=if Q4e t=true then (raw [32,40,108,101,97,102]).seq (Yg t.body) else if Ul t=true then (raw [32,40,115,112,108,105,116]).seq ((GB t.var).seq (Yx (t.branches.map (Q17 tw)))) else bad 3
def Jg:Nat→Tr→WA
 | 0,_=>WA.nil
 | n+1,t=>(Gg (Jg n) t).seq (raw [41])
theorem Q1v (l:List WA):(Yx l).n=(l.map WA.n).sum:=by
 induction l with
 | nil=>rfl
 | cons a l ih=>rw [List.map_cons,List.sum_cons,← ih];rfl
theorem Kn {α:Type} (f g:α→Nat) (c:Nat):∀ l:List α,(∀ x∈l,f x≤c * g x)→(l.map f).sum≤c * (l.map g).sum
 | [],_=>Nat.zero_le _
 | x::l,h=>by
  have h1:=h x List.mem_cons_self
  have h2:=Kn f g c l fun y hy=>h y (List.mem_cons_of_mem _ hy)
  rw [List.map_cons,List.sum_cons,List.map_cons,List.sum_cons,Nat.mul_add];omega
theorem Ui:∀ (n:Nat) (t:Tr),t.size≤2000000→(Jg n t).n≤100 * t.size∧(Jg n t).ok
 | 0,t,_=>⟨Nat.zero_le _,Nat.le_refl _⟩
 | n+1,t,h2=>by
  have hsz:=t.size_eq
  have hbr:∀ b∈t.branches,(Q17 (Jg n) b).n≤100 * bsz b∧(Q17 (Jg n) b).ok:=fun b hb=>by
   have hk:=ZY hb
   obtain ⟨i1,i2⟩:=Ui n b.tree (by omega)
   have e:bsz b=1+b.ctor.length+b.tree.size:=rfl
   unfold Q17
   split
   ·have hz:(Qcc b.tree).n=0∧(Qcc b.tree).ok:=by unfold Qcc;split <;> exact ⟨rfl,Nat.le_refl _⟩
    refine ⟨?_,J1 (Yj _) (J1 (Zq _) (J1 hz.2 (Yj _)))⟩
    show 8+((1+b.ctor.length)+((Qcc b.tree).n+1))≤_
    rw [hz.1];omega
   ·refine ⟨?_,J1 (Yj _) (J1 (Zq _) (J1 i2 (Yj _)))⟩
    show 8+((1+b.ctor.length)+((Jg n b.tree).n+1))≤_
    omega
  have hin:(Gg (Jg n) t).n+1≤100 * t.size∧(Gg (Jg n) t).ok:=by
   unfold Gg
   split
   ·refine ⟨?_,J1 (Yj _) (Y7 (by omega))⟩
    show 6+(1+60 * t.body.size)+1≤_
    omega
   ·split
    ·have hs:=Kn (fun b=>(Q17 (Jg n) b).n) bsz 100 t.branches fun b hb=>(hbr b hb).1
     refine ⟨?_,J1 (Yj _) (J1 (KZ _) (Q23 fun a ha=>?_))⟩
     ·show 7+(10+(Yx (t.branches.map (Q17 (Jg n)))).n)+1≤_
      rw [Q1v,List.map_map]
      have:(t.branches.map (WA.n ∘ Q17 (Jg n))).sum≤100 * (t.branches.map bsz).sum:=hs
      omega
     ·obtain ⟨b,hb,rfl⟩:=List.mem_map.1 ha
      exact (hbr b hb).2
    ·exact ⟨by show 0+1≤_;omega,Nat.le_refl _⟩
  exact ⟨hin.1,J1 hin.2 (Yj _)⟩
theorem br_ok {n:Nat} {t:Tr} (h:t.size≤2000000):∀ b∈t.branches,(Q17 (Jg n) b).ok:=fun b hb=>by
 have hk:=ZY hb
 have i2:=(Ui n b.tree (by omega)).2
 unfold Q17
 split
 ·have hz:(Qcc b.tree).ok:=by unfold Qcc;split <;> exact Nat.le_refl _
  exact J1 (Yj _) (J1 (Zq _) (J1 hz (Yj _)))
 ·exact J1 (Yj _) (J1 (Zq _) (J1 i2 (Yj _)))
abbrev Qby (b:List Byt):(List Byt)⊕(((List Byt)×Unit)⊕((Int×Int)×(List Byt))):=.inl b
abbrev Qc9 (e:Int) (b:List Byt):(List Byt)⊕(((List Byt)×Unit)⊕((Int×Int)×(List Byt))):=.inr (.inr ((e,0),b))
theorem leaf_cond (t:Tr):(cond ((t.kind==0)) (cond ((t.var==0)) (some ((t.branches.length:Int)==0)) (some false)) (some false))=some (Q4e t):=by
 unfold Q4e
 rw [Yf,Yf,Q1e]
 cases decide (t.kind=0) <;> cases decide (t.var=0) <;> rfl
theorem split_cond (t:Tr):(cond ((t.kind==1)) (Option.bind (Q14 t.body) fun (x105:Bool)=>some x105) (some false))=some (Ul t)∧(cond ((t.kind==1)) (Option.bind (m17 t.body zTm) fun (x105:Bool)=>some x105) (some false))=some (Ul t):=by
 unfold Ul
 rw [DT,Q48,Yf]
 cases decide (t.kind=1) <;> exact ⟨rfl,rfl⟩
theorem zero_cond (t:Tr):(cond ((t.kind != 0)) (some true) (Option.bind (Q14 t.body) fun (x196:Bool)=>cond ((!x196)) (some true) (cond ((t.var != 0)) (some true) (some (decide (0 < (t.branches.length:Int)))))))=some (!Wk t):=by
 unfold Wk
 rw [DT,XF,XF,Q8j,Option.bind_some]
 cases decide (t.kind=0) <;> cases Xy t.body <;> cases decide (t.var=0) <;> rfl
theorem tree_W:∀ (n:Nat) (t:Tr),t.size≤n→t.size≤2000000→∀ b,b.length+(Jg n t).n≤900000000→WQ Q41 Dh (QX (fun rc v=>Q76 rc v.1 v.2) n (b,t)) b (Jg n t)
 | 0,t,h,_=>by have:=t.size_eq;omega
 | n+1,t,h,h2=>by
  intro b hb
  have hsz:=t.size_eq
  have hbl:=GR t
  show WQ Q41 Dh (Q76 (QX (fun rc v=>Q76 rc v.1 v.2) n) b t) b ((Gg (Jg n) t).seq (raw [41]))
  have hin:(Gg (Jg n) t).ok:=by
   unfold Gg
   split
   ·exact J1 (Yj _) (Y7 (by omega))
   ·split
    ·exact J1 (Yj _) (J1 (KZ _) (Q23 fun a ha=>by
      obtain ⟨x,hx,rfl⟩:=List.mem_map.1 ha
      exact br_ok h2 x hx))
    ·exact Nat.le_refl _
  unfold Q76
  rw [leaf_cond,Option.bind_some]
  refine WQ.bind (ok1:=Qby) (er1:=Qc9) ?_ hin hb (fun _ hb2=>GV hb2) (fun e b'=>⟨b',Z⟩)
  have hb1:b.length+((Gg (Jg n) t).n+1)≤900000000:=hb
  unfold Gg at hb1 ⊢
  cases hl:Q4e t with
  | true =>
   rw [hl,if_pos rfl] at hb1
   rw [if_pos rfl,cond_true]
   refine WQ.raw (a2:=Yg t.body) (by show b.length+(6+(Yg t.body).n)≤900000000;have:b.length+((6+(Yg t.body).n)+1)≤900000000:=hb1;omega) fun hb3=>?_
   exact WQ.map (D3 (by omega) _ hb3) (fun b'=>rfl) (fun e b'=>⟨b',rfl⟩)
  | false =>
   rw [hl,if_neg Bool.false_ne_true] at hb1
   rw [if_neg Bool.false_ne_true,cond_false,(split_cond t).1,Option.bind_some]
   cases hs:Ul t with
   | false=>rw [if_neg Bool.false_ne_true];exact WQ.bad (by decide) b
   | true =>
    rw [hs,if_pos rfl] at hb1
    rw [if_pos rfl,cond_true]
    have hb1':b.length+((7+(10+(Yx (t.branches.map (Q17 (Jg n)))).n))+1)≤900000000:=hb1
    refine WQ.raw (a2:=(GB t.var).seq (Yx (t.branches.map (Q17 (Jg n))))) (by show b.length+(7+(10+(Yx (t.branches.map (Q17 (Jg n)))).n))≤900000000;omega) fun hb3=>?_
    refine WQ.bind (Q43 t.var _ (Ji hb3)) (KZ _) hb3 (fun _ hb4=>?_) (fun e b'=>⟨b',Z⟩)
    refine WQ.map (WQ.loop (er0:=Dh) t.branches (Q17 (Jg n)) (br_ok h2) (by show t.branches.length≤900000000;omega) (fun p x q b e hbx=>?_) (fun b=>by dsimp only;rw [J9];rfl) _ hb4) (fun b'=>rfl) (fun e b'=>⟨b',rfl⟩)
    have hx:x∈t.branches:=by rw [e];simp
    have hkx:=ZY hx
    have hxs:bsz x≤(t.branches.map bsz).sum:=YW bsz hx
    have hxb:bsz x=1+x.ctor.length+x.tree.size:=rfl
    dsimp only
    rw [e,Y9,JI,cond_true]
    refine WQ.map (ok1:=Qby) (er1:=Qc9) ?_ (fun b'=>rfl) (fun e b'=>⟨b',rfl⟩)
    show WQ Qby Qc9 (cond (!x.absurd) _ _) b (Q17 (Jg n) x)
    unfold Q17 at hbx ⊢
    cases ha:x.absurd with
    | false =>
     rw [ha,if_neg Bool.false_ne_true] at hbx
     rw [if_neg Bool.false_ne_true,show (!false)=true from rfl,cond_true]
     refine WQ.raw hbx fun hb5=>?_
     refine WQ.bind (Q44 x.ctor (by omega) _ (Nat.le_trans (Nat.add_le_add_left (Nat.le_add_right _ _) _) hb5)) (Zq _) hb5 (fun _ hb6=>?_) (fun e b'=>⟨b',rfl⟩)
     refine WQ.bind (tree_W n x.tree (by omega) (by omega) _ (Nat.le_trans (Nat.add_le_add_left (Nat.le_add_right _ _) _) hb6)) (Ui n x.tree (by omega)).2 hb6 (fun _ hb7=>?_) (fun e b'=>⟨b',rfl⟩)
     exact GV hb7
    | true =>
     rw [ha,if_pos rfl] at hbx
     rw [if_pos rfl,show (!true)=false from rfl,cond_false]
     refine WQ.raw hbx fun hb5=>?_
     refine WQ.bind (Q44 x.ctor (by omega) _ (Nat.le_trans (Nat.add_le_add_left (Nat.le_add_right _ _) _) hb5)) (Zq _) hb5 (fun _ hb6=>?_) (fun e b'=>⟨b',rfl⟩)
     rw [zero_cond]
     simp only [Q41,Sum.elim_inl,Option.bind_some]
     unfold Qcc at hb6 ⊢
     cases hz:Wk x.tree with
     | true =>
      rw [hz,if_pos rfl,Dp] at hb6
      rw [if_pos rfl,Dp,show (!true)=false from rfl,cond_false]
      exact GV hb6
     | false =>
      rw [if_neg Bool.false_ne_true,show (!false)=true from rfl,cond_true]
      exact WQ.bad_seq (by decide) _ _ _
theorem m96_W {t:Tr} (h:t.size≤2000000) (b:List Byt) (hb:b.length+(Jg Qk t).n≤900000000):WQ Q41 Dh (Qbz b t) b (Jg Qk t):=tree_W Qk t (by unfold Qk;omega) h b hb
theorem tree_R:∀ (n:Nat) (t:Tr),t.size≤n→t.size≤2000000→∀ s E,s.length+(Jg n t).n≤900000000→RQ Q75 (QA (QX (fun rc v=>Q79 rc v.1 v.2) n (⟨s,E⟩,t))) s E (Jg n t)
 | 0,t,h,_=>by have:=t.size_eq;omega
 | n+1,t,h,h2=>by
  intro s E hb
  have hsz:=t.size_eq
  have hbl:=GR t
  show RQ Q75 (QA (Q79 (QX (fun rc v=>Q79 rc v.1 v.2) n) ⟨s,E⟩ t)) s E ((Gg (Jg n) t).seq (raw [41]))
  have hb1:s.length+((Gg (Jg n) t).n+1)≤900000000:=hb
  unfold Q79
  dsimp only
  by_cases hE:E=0
  ·subst hE
   rw [show ((0:Int) != 0)=false from rfl,cond_false,leaf_cond,Option.bind_some]
   have key:∀ {x:Option ((Qdk×Int)⊕((RWr×Unit)⊕(Unit×RWr)))},RQ (fun s E=>(.inl (s,E):(Qdk×Int)⊕((RWr×Unit)⊕(Unit×RWr)))) x s 0 (Gg (Jg n) t) →
     RQ Q75 (QA (Option.bind x (Sum.elim (fun (v95:(List UInt8)×Int)=>Option.bind (QA (XU (RWr.mk v95.1 v95.2) ([41]:List UInt8))) fun (r190:RWr×Unit)=>some (.inl (r190.1,()))) (fun (o189:(RWr×Unit)⊕(Unit×RWr))=>some o189)))) s 0 ((Gg (Jg n) t).seq (raw [41])):=by
    intro x hx
    have hq:=RQ.bind (ok:=Q75) (K:=fun v=>QA (Sum.elim (fun (v95:(List UInt8)×Int)=>Option.bind (QA (XU (RWr.mk v95.1 v95.2) ([41]:List UInt8))) fun (r190:RWr×Unit)=>some (.inl (r190.1,()))) (fun (o189:(RWr×Unit)⊕(Unit×RWr))=>some o189) v)) hx hb (a2:=raw [41]) (fun s' hs'=>by
     have h1:=RQ.add (E:=if (0:Int)=0 then (Gg (Jg n) t).e else 0) hs'
     obtain ⟨s2,e2,l2,t2⟩:=h1
     refine ⟨s2,?_,l2,t2⟩
     show QA (Option.bind (QA (XU (RWr.mk s' _) ([41]:List UInt8))) _)=_
     rw [e2];rfl)
    obtain ⟨s2,e2,l2,t2⟩:=hq
    refine ⟨s2,?_,l2,t2⟩
    rw [← e2]
    cases x with
    | none=>rfl
    | some v=>rfl
   cases hl:Q4e t with
   | true =>
    have ei:Gg (Jg n) t=(raw [32,40,108,101,97,102]).seq (Yg t.body):=by unfold Gg;rw [hl,if_pos rfl]
    rw [cond_true]
    refine key ?_
    rw [ei] at hb1 ⊢
    have hb1':s.length+((6+(Yg t.body).n)+1)≤900000000:=hb1
    refine RQ.bind (RQ.add (by show s.length+6≤900000000;omega)) (by show s.length+(6+(Yg t.body).n)≤900000000;omega) (fun s' hs'=>?_)
    exact RQ.map (D4 (by omega) _ _ hs') (fun s' E'=>rfl)
   | false =>
    rw [cond_false,(split_cond t).2,Option.bind_some]
    cases hs:Ul t with
    | false =>
     have ei:Gg (Jg n) t=bad 3:=by unfold Gg;rw [hl,hs,if_neg Bool.false_ne_true,if_neg Bool.false_ne_true]
     rw [ei,cond_false]
     exact RQ.bad_seq (raw [41]) rfl (by decide)
    | true =>
     have ei:Gg (Jg n) t=(raw [32,40,115,112,108,105,116]).seq ((GB t.var).seq (Yx (t.branches.map (Q17 (Jg n))))):=by unfold Gg;rw [hl,hs,if_neg Bool.false_ne_true,if_pos rfl]
     rw [cond_true]
     refine key ?_
     rw [ei] at hb1 ⊢
     have hb1':s.length+((7+(10+(Yx (t.branches.map (Q17 (Jg n)))).n))+1)≤900000000:=hb1
     refine RQ.bind (RQ.add (by show s.length+7≤900000000;omega)) (by show s.length+(7+(10+(Yx (t.branches.map (Q17 (Jg n)))).n))≤900000000;omega) (fun s1 hs1=>?_)
     refine RQ.bind (Q45 t.var _ _ (Ji hs1)) hs1 (fun s2 hs2=>?_)
     refine RQ.map (RQ.loop t.branches (Q17 (Jg n)) (by show t.branches.length≤900000000;omega) (fun p x q s E e hbx=>?_) (fun s E=>by dsimp only;rw [J9];rfl) _ _ hs2) (fun s' E'=>rfl)
     have hx:x∈t.branches:=by rw [e];simp
     have hkx:=ZY hx
     have hxs:bsz x≤(t.branches.map bsz).sum:=YW bsz hx
     have hxb:bsz x=1+x.ctor.length+x.tree.size:=rfl
     dsimp only
     rw [e,Y9,JI,cond_true]
     show RQ _ (cond x.absurd _ _) s E (Q17 (Jg n) x)
     unfold Q17 at hbx ⊢
     cases ha:x.absurd with
     | false =>
      rw [ha,if_neg Bool.false_ne_true] at hbx
      rw [if_neg Bool.false_ne_true,cond_false]
      refine RQ.bind (RQ.add (Ji hbx)) hbx (fun s3 hs3=>?_)
      refine RQ.bind (Q46 x.ctor (by omega) _ _ (Ji hs3)) hs3 (fun s4 hs4=>?_)
      refine RQ.bind (tree_R n x.tree (by omega) (by omega) _ _ (Ji hs4)) hs4 (fun s5 hs5=>?_)
      exact RQ.map (RQ.add hs5) (fun s' E'=>rfl)
     | true =>
      rw [ha,if_pos rfl] at hbx
      rw [if_pos rfl,cond_true]
      refine RQ.bind (RQ.add (Ji hbx)) hbx (fun s3 hs3=>?_)
      refine RQ.bind (Q46 x.ctor (by omega) _ _ (Ji hs3)) hs3 (fun s4 hs4=>?_)
      generalize (if (if E=0 then (raw [32,40,97,98,115,117,114,100]).e else E)=0 then (Ks x.ctor).e else if E=0 then (raw [32,40,97,98,115,117,114,100]).e else E)=E4 at *
      dsimp only [Q75]
      rw [m99_z]
      unfold Qcc at hs4 ⊢
      by_cases hE4:E4=0
      ·subst hE4
       rw [show ((0:Int)==0)=true from rfl,cond_true,Option.bind_some]
       cases hz:Wk x.tree with
       | true =>
        rw [hz,if_pos rfl,Dp] at hs4
        rw [if_pos rfl,Dp,show (!true)=false from rfl,cond_false,Option.bind_some]
        exact RQ.map (RQ.add hs4) (fun s' E'=>rfl)
       | false =>
        rw [hz,if_neg Bool.false_ne_true] at hs4
        rw [if_neg Bool.false_ne_true,show (!false)=true from rfl,cond_true,Option.bind_some]
        have hs4':s4.length+(0+1)≤900000000:=hs4
        obtain ⟨s5,e5,l5,-⟩:=RQ.add (s:=s4) (E:=3) (w:=[41]) (by show s4.length+1≤900000000;omega)
        refine ⟨s5,by rw [e5];rfl,by show s5.length≤s4.length+(0+1);have:s5.length≤s4.length+1:=l5;omega,fun _ he=>?_⟩
        have:((bad 3).seq (raw [41])).e=3:=rfl
        rw [this] at he;cases he
      ·rw [JA hE4,cond_false,Option.bind_some]
       have hs4':s4.length+1≤900000000:=by
        split at hs4
        ·have:s4.length+(0+1)≤900000000:=hs4;omega
        ·have:s4.length+(0+1)≤900000000:=hs4;omega
       obtain ⟨s5,e5,l5,-⟩:=RQ.add (s:=s4) (E:=E4) (w:=[41]) hs4'
       refine ⟨s5,by rw [e5,if_neg hE4,if_neg hE4];rfl,?_,fun h'=>absurd h' hE4⟩
       have:s5.length≤s4.length+1:=l5
       split <;> show s5.length≤s4.length+(0+1) <;> omega
  ·rw [Q0n hE,cond_true]
   exact RQ.stop _ hE
theorem m52_R {t:Tr} (h:t.size≤2000000) (s:Qdk) (E:Int) (hb:s.length+(Jg Qk t).n≤900000000):RQ Q75 (QA (Qbl ⟨s,E⟩ t)) s E (Jg Qk t):=tree_R Qk t (by unfold Qk;omega) h s E hb
end
end Go.Proofs.YtjcfppnjamjjhaaGreatDoor
