/- The card of TextDecls (second form) is proved here: for every declaration the law returns true, and the arguments read behind the call as they did before; conditions: what is read is of bulk at most 1048576, and the listed package-level variables hold what the text of the program lays (tied). -/
import Derived.Test.YtjcfppnjamjjhaaGreatDoorK85
import Derived.Deep.Slices
import Derived.ChangeSame
import Derived.Test.YtjcfppnjamjjhaaGreatDoorRows
import Derived.Test.YtjcfppnjamjjhaaGreatDoorProg
import Derived.Test.YtjcfppnjamjjhaaGreatDoorCards
import Derived.Test.YtjcfppnjamjjhaaGreatDoorTie
import Derived.ProofKit
import Derived.Carry
import Derived.Lay
import Derived.JoinedCond
import Derived.SevenTiedAt
import Derived.Deep.DeepHandedRow
set_option maxHeartbeats 2000000
set_option maxRecDepth 100000
set_option linter.unusedSimpArgs false
set_option linter.unusedVariables false
set_option linter.unusedSectionVars false
namespace Go.Proofs.YtjcfppnjamjjhaaGreatDoor
section
open Go.RowKit Go.Shelf
def Wh (k:Int):Qdk:=(([[40,97,120,105,111,109],[40,100,101,102],[40,116,104,101,111,114,101,109],[40,102,97,109,105,108,121],[40,102,117,110,99,116,105,111,110,115]]:List Qdk)[k.toNat]?).getD []
def U7 (c:Ctr):WA:=(raw [32,40,99,116,111,114]).seq ((Ks c.name).seq ((Yg c.ty).seq (raw [41])))
def Q4h (f:Fn):WA:=(raw [32,40,102,117,110]).seq ((Ks f.name).seq ((GB f.arity).seq ((Yg f.ty).seq ((Jg Qk f.tree).seq (raw [41])))))
def Q4i (d:Dcl):WA:=(GB d.fixed).seq ((Yg d.ty).seq ((Yx (d.ctors.map U7)).seq ((raw [32,40,114,101,99]).seq ((GB d.rcr.params).seq ((Yg d.rcr.ty).seq ((Yx (d.rcr.rules.map Yg)).seq (raw [41])))))))
def Qbb (d:Dcl):WA:=(Yg d.ty).seq (if d.kind=0 then WA.nil else Yg d.value)
def Q0m (d:Dcl):WA:=if d.kind=3 then Q4i d else if d.kind=4 then Yx (d.funs.map Q4h) else Qbb d
def Q9b (d:Dcl):WA:=if d.kind=4 then WA.nil else Ks d.name
def Zm (d:Dcl):WA:=(Q9b d).seq ((GB d.params).seq ((Q0m d).seq (raw [41])))
def YJ (d:Dcl):WA:=(raw (Wh d.kind)).seq (Zm d)
section
variable {d:Dcl} (h:d.size≤2000000)
include h
theorem Z0:d.name.length≤2000000∧d.ty.size≤2000000∧d.value.size≤2000000∧d.rcr.ty.size≤2000000∧(d.ctors.map csz).sum≤2000000∧(d.rcr.rules.map Tm.size).sum≤2000000∧(d.funs.map fsz).sum≤2000000:=by
 unfold Dcl.size at h
 refine ⟨?_,?_,?_,?_,?_,?_,?_⟩ <;> omega
theorem Q37 {c:Ctr} (hc:c∈d.ctors):c.name.length≤2000000∧c.ty.size≤2000000:=by
 have h1:=(Z0 h).2.2.2.2.1
 have h2:=YW csz hc
 have e:csz c=1+c.name.length+c.ty.size:=rfl
 omega
theorem UI {t:Tm} (hc:t∈d.rcr.rules):t.size≤2000000:=by
 have h1:=(Z0 h).2.2.2.2.2.1
 have h2:=YW Tm.size hc
 omega
theorem Q0h {f:Fn} (hc:f∈d.funs):f.name.length≤2000000∧f.ty.size≤2000000∧f.tree.size≤2000000:=by
 have h1:=(Z0 h).2.2.2.2.2.2
 have h2:=YW fsz hc
 have e:fsz f=1+f.name.length+f.ty.size+f.tree.size:=rfl
 omega
theorem Q0g:d.ctors.length≤2000000∧d.rcr.rules.length≤2000000∧d.funs.length≤2000000:=by
 obtain ⟨-,-,-,-,h1,h2,h3⟩:=Z0 h
 have l1:=Ka csz (fun c=>by unfold csz;omega) d.ctors
 have l2:=Ka Tm.size (fun t=>by rw [t.size_eq];omega) d.rcr.rules
 have l3:=Ka fsz (fun c=>by unfold fsz;omega) d.funs
 omega
theorem Q24 {c:Ctr} (hc:c∈d.ctors):(U7 c).ok:=J1 (Yj _) (J1 (Zq _) (J1 (Y7 (Q37 h hc).2) (Yj _)))
theorem ok_fun {f:Fn} (hc:f∈d.funs):(Q4h f).ok:=J1 (Yj _) (J1 (Zq _) (J1 (KZ _) (J1 (Y7 (Q0h h hc).2.1) (J1 (Ui Qk f.tree (Q0h h hc).2.2).2 (Yj _)))))
theorem DP {α:Type} {f:α→WA} {l:List α} (hf:∀ x∈l,(f x).ok):(Yx (l.map f)).ok:=Q23 fun a ha=>by
 obtain ⟨x,hx,rfl⟩:=List.mem_map.1 ha
 exact hf x hx
theorem fam_n:(Q4i d).n≤100 * ((d.ctors.map csz).sum+(d.rcr.rules.map Tm.size).sum+d.ty.size+d.rcr.ty.size)+40∧(Q4i d).ok:=by
 obtain ⟨-,h2,-,h4,-,-,-⟩:=Z0 h
 have s1:=Kn (fun c=>(U7 c).n) csz 100 d.ctors fun c hc=>by
  have e:csz c=1+c.name.length+c.ty.size:=rfl
  show 6+((1+c.name.length)+((1+60 * c.ty.size)+1))≤_
  omega
 have s2:=Kn (fun t=>(Yg t).n) Tm.size 100 d.rcr.rules fun t ht=>by
  have:=t.size_eq
  show 1+60 * t.size≤_
  omega
 refine ⟨?_,J1 (KZ _) (J1 (Y7 h2) (J1 (DP h fun c hc=>Q24 h hc) (J1 (Yj _) (J1 (KZ _) (J1 (Y7 h4) (J1 (DP h fun t ht=>Y7 (UI h ht)) (Yj _)))))))⟩
 show 10+((1+60 * d.ty.size)+((Yx (d.ctors.map U7)).n+(5+(10+((1+60 * d.rcr.ty.size)+((Yx (d.rcr.rules.map Yg)).n+1))))))≤_
 rw [Q1v,Q1v,List.map_map,List.map_map]
 have s1':(d.ctors.map (WA.n ∘ U7)).sum≤100 * (d.ctors.map csz).sum:=s1
 have s2':(d.rcr.rules.map (WA.n ∘ Yg)).sum≤100 * (d.rcr.rules.map Tm.size).sum:=s2
 omega
theorem body_n:(Q0m d).n≤100 * d.size+40∧(Q0m d).ok:=by
 obtain ⟨-,h2,h3,h4,-,-,-⟩:=Z0 h
 have hd:d.size=1+d.name.length+d.ty.size+d.value.size+(d.ctors.map csz).sum+d.rcr.ty.size+(d.rcr.rules.map Tm.size).sum+(d.funs.map fsz).sum:=rfl
 unfold Q0m
 split
 ·have:=fam_n h
  exact ⟨by omega,this.2⟩
 ·split
  ·have s1:=Kn (fun f=>(Q4h f).n) fsz 100 d.funs fun f hf=>by
    have e:fsz f=1+f.name.length+f.ty.size+f.tree.size:=rfl
    have ht:=(Ui Qk f.tree (Q0h h hf).2.2).1
    show 5+((1+f.name.length)+(10+((1+60 * f.ty.size)+((Jg Qk f.tree).n+1))))≤_
    omega
   refine ⟨?_,DP h fun f hf=>ok_fun h hf⟩
   rw [Q1v,List.map_map]
   have s1':(d.funs.map (WA.n ∘ Q4h)).sum≤100 * (d.funs.map fsz).sum:=s1
   omega
  ·unfold Qbb
   refine ⟨?_,J1 (Y7 h2) (by split;exact Nat.le_refl _;exact Y7 h3)⟩
   show (1+60 * d.ty.size)+(if d.kind=0 then WA.nil else Yg d.value).n≤_
   split
   ·show (1+60 * d.ty.size)+0≤_;omega
   ·show (1+60 * d.ty.size)+(1+60 * d.value.size)≤_;omega
theorem nm_ok:(Q9b d).ok∧(Q9b d).n≤1+d.name.length:=by
 unfold Q9b
 split
 ·exact ⟨Nat.le_refl _,Nat.zero_le _⟩
 ·exact ⟨Zq _,Nat.le_refl _⟩
theorem rest_n:10+(Zm d).n≤900000000:=by
 have h1:=(body_n h).1
 have h2:=(nm_ok h).2
 have h3:=(Z0 h).1
 show 10+((Q9b d).n+(10+((Q0m d).n+1)))≤900000000
 omega
theorem m94_W (b:List Byt) (hb:b.length+(Q4i d).n≤900000000):WQ Q41 Dh (Qbg b d) b (Q4i d):=by
 obtain ⟨-,h2,-,h4,-,-,-⟩:=Z0 h
 obtain ⟨l1,l2,-⟩:=Q0g h
 unfold Qbg Q4i
 unfold Q4i at hb
 refine WQ.bind (Q43 _ _ (Ji hb)) (KZ _) hb (fun _ hb=>?_) (fun e b'=>⟨b',Z⟩)
 refine WQ.bind (D3 h2 _ (Ji hb)) (Y7 h2) hb (fun _ hb=>?_) (fun e b'=>⟨b',Z⟩)
 refine WQ.bind (ok1:=fun b=>.inl b) (er1:=fun e b=>.inr (Dh e b)) (WQ.loop (er0:=Dh) d.ctors U7 (fun c hc=>Q24 h hc) (by show d.ctors.length≤900000000;omega) (fun p x q b e hb=>?_) (fun b=>by dsimp only;rw [J9];rfl) _ (Ji hb)) (DP h fun c hc=>Q24 h hc) hb (fun _ hb=>?_) (fun e b'=>⟨b',rfl⟩)
 ·have hx:x∈d.ctors:=by rw [e];simp
  obtain ⟨x1,x2⟩:=Q37 h hx
  dsimp only
  rw [e,Y9,JI,cond_true,Option.bind_some]
  unfold U7 at hb ⊢
  refine WQ.raw hb fun hb=>?_
  refine WQ.bind (Q44 _ (by omega) _ (Ji hb)) (Zq _) hb (fun _ hb=>?_) (fun e b'=>⟨b',rfl⟩)
  refine WQ.bind (D3 x2 _ (Ji hb)) (Y7 x2) hb (fun _ hb=>?_) (fun e b'=>⟨b',Z⟩)
  exact GV hb
 ·refine WQ.raw hb fun hb=>?_
  refine WQ.bind (Q43 _ _ (Ji hb)) (KZ _) hb (fun _ hb=>?_) (fun e b'=>⟨b',Z⟩)
  refine WQ.bind (D3 h4 _ (Ji hb)) (Y7 h4) hb (fun _ hb=>?_) (fun e b'=>⟨b',Z⟩)
  refine WQ.bind (ok1:=fun b=>.inl b) (er1:=fun e b=>.inr (Dh e b)) (WQ.loop (er0:=Dh) d.rcr.rules Yg (fun t ht=>Y7 (UI h ht)) (by show d.rcr.rules.length≤900000000;omega) (fun p x q b e hb=>?_) (fun b=>by dsimp only;rw [J9];rfl) _ (Ji hb)) (DP h fun t ht=>Y7 (UI h ht)) hb (fun _ hb=>?_) (fun e b'=>⟨b',rfl⟩)
  ·have hx:x∈d.rcr.rules:=by rw [e];simp
   dsimp only
   rw [e,Y9,JI,cond_true,Option.bind_some]
   exact WQ.map (D3 (UI h hx) _ hb) (fun b'=>rfl) (fun e b'=>⟨b',rfl⟩)
  ·exact GV hb
end
def KY (d:Dcl):Bool:=(decide (d.kind=3)||(decide (d.fixed=0)&&(decide (d.ctors=[])&&(decide (d.rcr.params=0)&&(Xy d.rcr.ty&&decide (d.rcr.rules=[]))))))&&((decide (d.kind=1)||(decide (d.kind=2)||Xy d.value))&&(if d.kind=4 then decide (d.name=[])&&Xy d.ty else decide (d.funs=[])))
theorem m97_z (r:Rcr):Qbf r=some (decide (r.params=0)&&(Xy r.ty&&decide (r.rules=[]))):=by
 unfold Qbf
 rw [Q48,Option.bind_some,Yf,Q1e]
 cases decide (r.params=0) <;> cases Xy r.ty <;> rfl
theorem m91_z (d:Dcl):Qbh d=some (KY d):=by
 unfold Qbh KY
 rw [DT,DT,DT,Q8j,Q8j,Q1e,XF,XF,XF,XF,XF,Yf,Q7h]
 simp only [Option.bind_some]
 by_cases h3:d.kind=3
 ·have h1:¬ d.kind=1:=by omega
  have h2:¬ d.kind=2:=by omega
  have h4:¬ d.kind=4:=by omega
  rw [decide_eq_true h3,decide_eq_false h1,decide_eq_false h2,decide_eq_false h4,if_neg h4]
  cases Xy d.value <;> rfl
 ·rw [decide_eq_false h3]
  by_cases h4:d.kind=4
  ·have h1:¬ d.kind=1:=by omega
   have h2:¬ d.kind=2:=by omega
   rw [decide_eq_false h1,decide_eq_false h2,decide_eq_true h4,if_pos h4]
   cases decide (d.fixed=0) <;> cases decide (d.ctors=[]) <;> cases decide (d.rcr.params=0) <;> cases Xy d.rcr.ty <;> cases decide (d.rcr.rules=[]) <;> cases Xy d.value <;> cases decide (d.name=[]) <;> rfl
  ·rw [decide_eq_false h4,if_neg h4]
   cases decide (d.kind=1) <;> cases decide (d.kind=2) <;> cases decide (d.fixed=0) <;> cases decide (d.ctors=[]) <;> cases decide (d.rcr.params=0) <;> cases Xy d.rcr.ty <;> cases decide (d.rcr.rules=[]) <;> cases Xy d.value <;> rfl
theorem m47_z (d:Dcl):Qbm d=some (KY d):=by
 unfold Qbm KY
 rw [m97_z,Q48,Q48,Q1e,Q1e,Yf,Yf,Yf,Yf,Yf,Q7h]
 simp only [Option.bind_some]
 generalize (decide (d.rcr.params=0)&&(Xy d.rcr.ty&&decide (d.rcr.rules=[])))=z
 by_cases h3:d.kind=3
 ·have h1:¬ d.kind=1:=by omega
  have h2:¬ d.kind=2:=by omega
  have h4:¬ d.kind=4:=by omega
  rw [decide_eq_true h3,decide_eq_false h1,decide_eq_false h2,decide_eq_false h4,if_neg h4]
  cases Xy d.value <;> cases decide (d.funs=[]) <;> rfl
 ·rw [decide_eq_false h3]
  by_cases h4:d.kind=4
  ·have h1:¬ d.kind=1:=by omega
   have h2:¬ d.kind=2:=by omega
   rw [decide_eq_false h1,decide_eq_false h2,decide_eq_true h4,if_pos h4]
   cases decide (d.fixed=0) <;> cases decide (d.ctors=[]) <;> cases z <;> cases Xy d.value <;> cases decide (d.name=[]) <;> rfl
  ·rw [decide_eq_false h4,if_neg h4]
   cases decide (d.kind=1) <;> cases decide (d.kind=2) <;> cases decide (d.fixed=0) <;> cases decide (d.ctors=[]) <;> cases z <;> cases Xy d.value <;> cases decide (d.funs=[]) <;> rfl
def Q6u (d:Dcl):Qdk×Int:=if d.kind < 0∨5≤d.kind∨KY d=false then ([],3) else if (YJ d).e=0 then (if 65536 < (YJ d).t.length then ([],5) else ((YJ d).t,0)) else ([],(YJ d).e)
abbrev Qdi:=(Unit×(List Byt))⊕((Int×Int)×(Unit×(List Byt)))
abbrev Q9u (b:List Byt):Qdi:=if 65536 < b.length then .inr ((5,0),((),b)) else .inl ((),b)
abbrev Qca (e:Int) (b:List Byt):Qdi:=.inr ((e,0),((),b))
abbrev Qbd (b:List Byt):(List Byt)⊕Qdi:=.inl b
abbrev Qbs (e:Int) (b:List Byt):(List Byt)⊕Qdi:=.inr (.inr ((e,0),((),b)))
theorem head_idx {k:Int} (h0:0≤k) (h5:k < 5):∃ w:Qdk,J3 ([([97,120,105,111,109]:List UInt8),([100,101,102]:List UInt8),([116,104,101,111,114,101,109]:List UInt8),([102,97,109,105,108,121]:List UInt8),([102,117,110,99,116,105,111,110,115]:List UInt8)]:List (List UInt8)) k=some w∧Wh k=[40]++w∧w.length≤9 ∧
  J3 ([([40,97,120,105,111,109]:List UInt8),([40,100,101,102]:List UInt8),([40,116,104,101,111,114,101,109]:List UInt8),([40,102,97,109,105,108,121]:List UInt8),([40,102,117,110,99,116,105,111,110,115]:List UInt8)]:List ((List UInt8))) k=some (Wh k):=by
 have:k=0∨k=1∨k=2∨k=3∨k=4:=by omega
 rcases this with rfl | rfl | rfl | rfl | rfl <;> exact ⟨_,rfl,rfl,by decide,rfl⟩
theorem bad_cond (d:Dcl) (m:Option Bool) (hm:m=some (KY d)) (n:Int):(cond ((decide (d.kind < 0))) (some true) (cond ((decide (n≤d.kind))) (some true) (Option.bind m fun (x5:Bool)=>some (!x5))))=some (decide (d.kind < 0∨n≤d.kind∨KY d=false)):=by
 have e:(cond ((decide (d.kind < 0))) (some true) (cond ((decide (n≤d.kind))) (some true) (Option.bind m fun (x5:Bool)=>some (!x5))))=some (decide (d.kind < 0)||(decide (n≤d.kind)||!KY d)):=by
  rw [hm]
  cases decide (d.kind < 0) <;> cases decide (n≤d.kind) <;> rfl
 rw [e]
 congr 1
 rw [Bool.eq_iff_iff]
 simp
theorem declW_e (d:Dcl):(YJ d).e=(Zm d).e:=by
 show (if (raw (Wh d.kind)).e=0 then (Zm d).e else (raw (Wh d.kind)).e)=_
 exact if_pos Z
theorem m21_eq {d:Dcl} (h:d.size≤2000000):Qbp d=some (Q6u d):=by
 have hrn:=rest_n h
 obtain ⟨h1,h2,h3,h4,-,-,-⟩:=Z0 h
 obtain ⟨-,-,l3⟩:=Q0g h
 unfold Qbp Q6u
 rw [bad_cond d _ (m91_z d) 5,Option.bind_some]
 by_cases hbad:d.kind < 0∨5≤d.kind∨KY d=false
 ·rw [decide_eq_true hbad,if_pos hbad];rfl
 ·rw [decide_eq_false hbad,if_neg hbad,cond_false]
  obtain ⟨w,w1,w2,w3,-⟩:=head_idx (k:=d.kind) (by omega) (by omega)
  rw [w1,Option.bind_some]
  have hw1:([40]++w).length≤10:=by rw [List.length_append];show 1+w.length≤10;omega
  rw [Jz (by show 1+w.length≤_;omega),Jz (by show 0+([40]++w).length≤_;omega)]
  have hb0:(([]:List Byt)++JV ([40]++w)).length+(Zm d).n≤900000000:=by
   rw [List.length_append,KQ];show 0+([40]++w).length+_≤_;omega
  have key:∀ {x:Option Qdi},WQ Q9u Qca x (([]:List Byt)++JV ([40]++w)) (Zm d)→Option.bind x (Sum.elim (fun (v1:Unit×(List Byt))=>Qc (cond (List.all v1.2 (fun x:Byt=>cond (decide (0≤x.n)) (decide (x.n < 256)) false)) (!(List.isEmpty v1.2)) false) (some ((List.map Byt.u8 v1.2),0))) (fun (e2:(Int×Int)×(Unit×(List Byt)))=>some (([]:List UInt8),e2.1.1))) =
    some (if (YJ d).e=0 then (if 65536 < (YJ d).t.length then ([],5) else ((YJ d).t,0)) else ([],(YJ d).e)):=by
   intro x hx
   have ee:(YJ d).e=(Zm d).e:=declW_e d
   have et:(YJ d).t=([40]++w)++(Zm d).t:=by show Wh d.kind++_=_;rw [w2]
   by_cases h0:(Zm d).e=0
   ·have e1:=hx.1 h0
    rw [List.nil_append,← Z2,← et] at e1
    rw [if_pos (ee.trans h0),e1,Option.bind_some]
    by_cases hl:65536 < (YJ d).t.length
    ·rw [show Q9u (JV (YJ d).t)=.inr ((5,0),((),JV (YJ d).t)) from if_pos (by rw [KQ];exact hl),if_pos hl];rfl
    ·rw [show Q9u (JV (YJ d).t)=.inl ((),JV (YJ d).t) from if_neg (by rw [KQ];exact hl),if_neg hl]
     show Qc (cond (List.all (JV (YJ d).t) (fun x:Byt=>cond (decide (0≤x.n)) (decide (x.n < 256)) false)) (!(List.isEmpty (JV (YJ d).t))) false) (some ((List.map Byt.u8 (JV (YJ d).t)),(0:Int)))=_
     rw [all_bts,cond_true,u8_bts]
     have:(!(List.isEmpty (JV (YJ d).t)))=true:=by rw [et];rfl
     rw [Qy this]
   ·obtain ⟨b',e1⟩:=hx.2 h0
    rw [if_neg (by rw [ee];exact h0),e1,ee];rfl
  refine key ?_
  clear key
  generalize (([]:List Byt)++JV ([40]++w))=b0 at hb0 ⊢
  unfold Zm at hb0 ⊢
  refine WQ.bind (ok1:=Qbd) (er1:=Qbs) ?_ (nm_ok h).1 hb0 (fun _ hb=>?_) (fun e b'=>⟨b',Z⟩)
  ·unfold Q9b
   by_cases h4:d.kind=4
   ·rw [if_pos h4,XF,decide_eq_true h4];exact WQ.nil
   ·have hbn:=Ji hb0
    unfold Q9b at hbn
    rw [if_neg h4] at hbn
    rw [if_neg h4,XF,decide_eq_false h4]
    exact WQ.map (Q44 d.name (by omega) _ hbn) (fun b'=>rfl) (fun e b'=>⟨b',rfl⟩)
  ·refine WQ.bind (Q43 _ _ (Ji hb)) (KZ _) hb (fun _ hb=>?_) (fun e b'=>⟨b',rfl⟩)
   refine WQ.bind (ok1:=Qbd) (er1:=Qbs) ?_ (body_n h).2 hb (fun _ hb=>?_) (fun e b'=>⟨b',Z⟩)
   ·have hbb:=Ji hb
    unfold Q0m at hbb ⊢
    rw [Yf,Yf]
    by_cases Qct:d.kind=3
    ·rw [if_pos Qct] at hbb
     rw [if_pos Qct,decide_eq_true Qct,cond_true]
     exact WQ.map (m94_W h _ hbb) (fun b'=>rfl) (fun e b'=>⟨b',rfl⟩)
    ·rw [if_neg Qct] at hbb
     rw [if_neg Qct,decide_eq_false Qct,cond_false]
     refine WQ.map (ok1:=Qbd) (er1:=Qbs) ?_ (fun b'=>rfl) (fun e b'=>⟨b',rfl⟩)
     by_cases k4:d.kind=4
     ·rw [if_pos k4] at hbb
      rw [if_pos k4,decide_eq_true k4,cond_true]
      refine WQ.map (WQ.loop (er0:=Qca) d.funs Q4h (fun c hc=>ok_fun h hc) (by show d.funs.length≤900000000;omega) (fun p x q b e hb=>?_) (fun b=>by dsimp only;rw [J9];rfl) _ hbb) (fun b'=>rfl) (fun e b'=>⟨b',rfl⟩)
      have hx:x∈d.funs:=by rw [e];simp
      obtain ⟨x1,x2,x3⟩:=Q0h h hx
      dsimp only
      rw [e,Y9,JI,cond_true,Option.bind_some]
      unfold Q4h at hb ⊢
      refine WQ.raw hb fun hb=>?_
      refine WQ.bind (Q44 _ (by omega) _ (Ji hb)) (Zq _) hb (fun _ hb=>?_) (fun e b'=>⟨b',rfl⟩)
      refine WQ.bind (Q43 _ _ (Ji hb)) (KZ _) hb (fun _ hb=>?_) (fun e b'=>⟨b',Z⟩)
      refine WQ.bind (D3 x2 _ (Ji hb)) (Y7 x2) hb (fun _ hb=>?_) (fun e b'=>⟨b',Z⟩)
      refine WQ.bind (m96_W x3 _ (Ji hb)) (Ui Qk x.tree x3).2 hb (fun _ hb=>?_) (fun e b'=>⟨b',Z⟩)
      exact GV hb
     ·rw [if_neg k4] at hbb
      rw [if_neg k4,decide_eq_false k4,cond_false]
      unfold Qbb at hbb ⊢
      refine WQ.bind (D3 h2 _ (Ji hbb)) (Y7 h2) hbb (fun _ hb=>?_) (fun e b'=>⟨b',Z⟩)
      refine WQ.map (ok1:=Qbd) (er1:=Qbs) ?_ (fun b'=>rfl) (fun e b'=>⟨b',rfl⟩)
      by_cases k0:d.kind=0
      ·rw [if_pos k0,XF,decide_eq_true k0];exact WQ.nil
      ·rw [if_neg k0] at hb
       rw [if_neg k0,XF,decide_eq_false k0]
       exact WQ.map (D3 h3 _ hb) (fun b'=>rfl) (fun e b'=>⟨b',rfl⟩)
   ·
    have hb':_+1≤900000000:=hb
    show WQ Q9u Qca (Qc _ (Option.bind (some _) _)) _ (raw [41])
    have e:∀ v:List Byt,Option.bind (some (v.length:Int)) (fun (v213:Int)=>cond ((decide (65536 < v213))) (some (.inr ((5,0),((),v)):Qdi)) (some (.inl ((),v))))=some (Q9u v):=fun v=>by
     show cond (decide (65536 < (v.length:Int))) _ _=_
     by_cases hl:65536 < v.length
     ·rw [decide_eq_true (by omega),show Q9u v=.inr ((5,0),((),v)) from if_pos hl];rfl
     ·rw [decide_eq_false (by omega),show Q9u v=.inl ((),v) from if_neg hl];rfl
    rw [e]
    exact GV hb
abbrev Q86 (s:Qdk) (E:Int):Qdk×Int:=(s,E)
abbrev Qam (s:Qdk) (E:Int):Qdk×Int:=if E=0 then (if 65536 < s.length then ([],5) else (s,0)) else ([],E)
theorem rest_R {d:Dcl} (h:d.size≤2000000) (s0:Qdk) (hb0:s0.length+(Zm d).n≤900000000):RQ Qam (Option.bind (cond ((d.kind != 4)) (Option.bind (QA (Q8d (RWr.mk s0 0) d.name)) fun (r8:RWr×Unit)=>some (r8.1.s,r8.1.e)) (some (s0,0))) fun (v7:(List UInt8)×Int)=>Option.bind (QA (Q7j (RWr.mk v7.1 v7.2) d.params)) fun (r10:RWr×Unit)=>Option.bind (cond ((d.kind==4)) (Option.bind (Qj (σ:=Int×(List UInt8)×Int) (β:=(List UInt8)×Int) (fun s257=>cond ((decide (s257.1 < (d.funs.length:Int)))) (Option.bind (J3 d.funs s257.1) fun (x259:Fn)=>Option.bind (QA (XU (RWr.mk s257.2.1 s257.2.2) ([32,40,102,117,110]:List UInt8))) fun (r260:RWr×Unit)=>Option.bind (QA (Q8d r260.1 x259.name)) fun (r262:RWr×Unit)=>Option.bind (QA (Q7j r262.1 x259.arity)) fun (r264:RWr×Unit)=>Option.bind (QA (Q3n r264.1 x259.ty)) fun (r266:RWr×Unit)=>Option.bind (QA (Qbl r266.1 x259.tree)) fun (r268:RWr×Unit)=>Option.bind (QA (XU r268.1 ([41]:List UInt8))) fun (r270:RWr×Unit)=>some (.next ((QE (s257.1+1)),r270.1.s,r270.1.e))) (some (.done (s257.2.1,s257.2.2)))) Qk (0,r10.1.s,r10.1.e)) fun (v258:(List UInt8)×Int)=>some (v258.1,v258.2)) (Option.bind (cond ((d.kind==3)) (Option.bind (QA (Q7j r10.1 d.fixed)) fun (r348:RWr×Unit)=>Option.bind (QA (Q3n r348.1 d.ty)) fun (r350:RWr×Unit)=>Option.bind (Qj (σ:=Int×(List UInt8)×Int) (β:=(List UInt8)×Int) (fun s382=>cond ((decide (s382.1 < (d.ctors.length:Int)))) (Option.bind (QA (XU (RWr.mk s382.2.1 s382.2.2) ([32,40,99,116,111,114]:List UInt8))) fun (r384:RWr×Unit)=>Option.bind (J3 d.ctors s382.1) fun (x386:Ctr)=>Option.bind (QA (Q8d r384.1 x386.name)) fun (r387:RWr×Unit)=>Option.bind (J3 d.ctors s382.1) fun (x389:Ctr)=>Option.bind (QA (Q3n r387.1 x389.ty)) fun (r390:RWr×Unit)=>Option.bind (QA (XU r390.1 ([41]:List UInt8))) fun (r392:RWr×Unit)=>some (.next ((QE (s382.1+1)),r392.1.s,r392.1.e))) (some (.done (s382.2.1,s382.2.2)))) Qk (0,r350.1.s,r350.1.e)) fun (v383:(List UInt8)×Int)=>Option.bind (QA (XU (RWr.mk v383.1 v383.2) ([32,40,114,101,99]:List UInt8))) fun (r394:RWr×Unit)=>Option.bind (QA (Q7j r394.1 d.rcr.params)) fun (r396:RWr×Unit)=>Option.bind (QA (Q3n r396.1 d.rcr.ty)) fun (r398:RWr×Unit)=>Option.bind (Qj (σ:=Int×(List UInt8)×Int) (β:=(List UInt8)×Int) (fun s409=>cond ((decide (s409.1 < (d.rcr.rules.length:Int)))) (Option.bind (J3 d.rcr.rules s409.1) fun (x411:Tm)=>Option.bind (QA (Q3n (RWr.mk s409.2.1 s409.2.2) x411)) fun (r412:RWr×Unit)=>some (.next ((QE (s409.1+1)),r412.1.s,r412.1.e))) (some (.done (s409.2.1,s409.2.2)))) Qk (0,r398.1.s,r398.1.e)) fun (v410:(List UInt8)×Int)=>Option.bind (QA (XU (RWr.mk v410.1 v410.2) ([41]:List UInt8))) fun (r414:RWr×Unit)=>some (r414.1.s,r414.1.e)) (Option.bind (QA (Q3n r10.1 d.ty)) fun (r416:RWr×Unit)=>Option.bind (cond ((d.kind != 0)) (Option.bind (QA (Q3n r416.1 d.value)) fun (r421:RWr×Unit)=>some (r421.1.s,r421.1.e)) (some (r416.1.s,r416.1.e))) fun (v420:(List UInt8)×Int)=>some (v420.1,v420.2))) fun (v347:(List UInt8)×Int)=>some (v347.1,v347.2))) fun (v217:(List UInt8)×Int)=>Option.bind (QA (XU (RWr.mk v217.1 v217.2) ([41]:List UInt8))) fun (r423:RWr×Unit)=>cond ((r423.1.e != 0)) (some (([]:List UInt8),r423.1.e)) (cond ((decide (65536 < (r423.1.s.length:Int)))) (some (([]:List UInt8),5)) (some (r423.1.s,0)))) s0 0 (Zm d):=by
 obtain ⟨h1,h2,h3,h4,-,-,-⟩:=Z0 h
 obtain ⟨l1,l2,l3⟩:=Q0g h
 unfold Zm at hb0 ⊢
 refine RQ.bind (ok1:=Q86) ?_ hb0 (fun s1 hb=>?_)
 ·have hbn:=Ji hb0
  unfold Q9b at hbn ⊢
  by_cases h4:d.kind=4
  ·rw [if_pos h4,XF,decide_eq_true h4];exact RQ.nil
  ·rw [if_neg h4] at hbn
   rw [if_neg h4,XF,decide_eq_false h4]
   exact RQ.map (Q46 d.name (by omega) _ _ hbn) (fun s' E'=>rfl)
 generalize (if (0:Int)=0 then (Q9b d).e else 0)=E1
 refine RQ.bind (Q45 _ _ _ (Ji hb)) hb (fun s2 hb=>?_)
 generalize (if E1=0 then (GB d.params).e else E1)=E2
 refine RQ.bind (ok1:=Q86) ?_ hb (fun s3 hb=>?_)
 ·have hbb:=Ji hb
  unfold Q0m at hbb ⊢
  rw [Yf,Yf]
  by_cases Qct:d.kind=3
  ·have k4:¬ d.kind=4:=by omega
   rw [if_pos Qct] at hbb
   rw [if_pos Qct,decide_eq_false k4,decide_eq_true Qct,cond_false,cond_true]
   refine RQ.map (ok1:=Q86) ?_ (fun s' E'=>rfl)
   unfold Q4i at hbb ⊢
   refine RQ.bind (Q45 _ _ _ (Ji hbb)) hbb (fun s4 hb=>?_)
   refine RQ.bind (D4 h2 _ _ (Ji hb)) hb (fun s5 hb=>?_)
   refine RQ.bind (RQ.loop d.ctors U7 (by show d.ctors.length≤900000000;omega) (fun p x q s E e hb=>?_) (fun s E=>by dsimp only;rw [J9];rfl) _ _ (Ji hb)) hb (fun s6 hb=>?_)
   ·have hx:x∈d.ctors:=by rw [e];simp
    obtain ⟨x1,x2⟩:=Q37 h hx
    dsimp only
    rw [e,Y9,JI,cond_true]
    unfold U7 at hb ⊢
    refine RQ.bind (RQ.add (Ji hb)) hb (fun s7 hb=>?_)
    rw [Option.bind_some]
    refine RQ.bind (Q46 _ (by omega) _ _ (Ji hb)) hb (fun s8 hb=>?_)
    rw [Option.bind_some]
    refine RQ.bind (D4 x2 _ _ (Ji hb)) hb (fun s9 hb=>?_)
    exact RQ.map (RQ.add hb) (fun s' E'=>rfl)
   ·refine RQ.bind (RQ.add (Ji hb)) hb (fun s7 hb=>?_)
    refine RQ.bind (Q45 _ _ _ (Ji hb)) hb (fun s8 hb=>?_)
    refine RQ.bind (D4 h4 _ _ (Ji hb)) hb (fun s9 hb=>?_)
    refine RQ.bind (RQ.loop d.rcr.rules Yg (by show d.rcr.rules.length≤900000000;omega) (fun p x q s E e hb=>?_) (fun s E=>by dsimp only;rw [J9];rfl) _ _ (Ji hb)) hb (fun s10 hb=>?_)
    ·have hx:x∈d.rcr.rules:=by rw [e];simp
     dsimp only
     rw [e,Y9,JI,cond_true,Option.bind_some]
     exact RQ.map (D4 (UI h hx) _ _ hb) (fun s' E'=>rfl)
    ·exact RQ.map (RQ.add hb) (fun s' E'=>rfl)
  ·rw [if_neg Qct] at hbb
   rw [if_neg Qct,decide_eq_false Qct]
   by_cases k4:d.kind=4
   ·rw [if_pos k4] at hbb
    rw [if_pos k4,decide_eq_true k4,cond_true]
    refine RQ.map (RQ.loop d.funs Q4h (by show d.funs.length≤900000000;omega) (fun p x q s E e hb=>?_) (fun s E=>by dsimp only;rw [J9];rfl) _ _ hbb) (fun s' E'=>rfl)
    have hx:x∈d.funs:=by rw [e];simp
    obtain ⟨x1,x2,x3⟩:=Q0h h hx
    dsimp only
    rw [e,Y9,JI,cond_true,Option.bind_some]
    unfold Q4h at hb ⊢
    refine RQ.bind (RQ.add (Ji hb)) hb (fun s4 hb=>?_)
    refine RQ.bind (Q46 _ (by omega) _ _ (Ji hb)) hb (fun s5 hb=>?_)
    refine RQ.bind (Q45 _ _ _ (Ji hb)) hb (fun s6 hb=>?_)
    refine RQ.bind (D4 x2 _ _ (Ji hb)) hb (fun s7 hb=>?_)
    refine RQ.bind (m52_R x3 _ _ (Ji hb)) hb (fun s8 hb=>?_)
    exact RQ.map (RQ.add hb) (fun s' E'=>rfl)
   ·rw [if_neg k4] at hbb
    rw [if_neg k4,decide_eq_false k4,cond_false,cond_false]
    refine RQ.map (ok1:=Q86) ?_ (fun s' E'=>rfl)
    unfold Qbb at hbb ⊢
    refine RQ.bind (D4 h2 _ _ (Ji hbb)) hbb (fun s4 hb=>?_)
    refine RQ.map (ok1:=Q86) ?_ (fun s' E'=>rfl)
    by_cases k0:d.kind=0
    ·rw [if_pos k0,XF,decide_eq_true k0];exact RQ.nil
    ·rw [if_neg k0] at hb
     rw [if_neg k0,XF,decide_eq_false k0]
     exact RQ.map (D4 h3 _ _ hb) (fun s' E'=>rfl)
 ·refine RQ.map (RQ.add hb) (fun s E=>?_)
  show cond (E != 0) _ _=some (Qam s E)
  by_cases hE:E=0
  ·rw [hE,show ((0:Int) != 0)=false from rfl,cond_false,show Qam s 0=if 65536 < s.length then ([],5) else (s,0) from if_pos rfl]
   dsimp only [Q75]
   by_cases hl:65536 < s.length
   ·rw [decide_eq_true (by omega),if_pos hl];rfl
   ·rw [decide_eq_false (by omega),if_neg hl];rfl
  ·rw [Q0n hE,cond_true,show Qam s E=([],E) from if_neg hE]
theorem m22_eq {d:Dcl} (h:d.size≤2000000):Qbo d=some (Q6u d):=by
 have hrn:=rest_n h
 obtain ⟨h1,h2,h3,h4,-,-,-⟩:=Z0 h
 obtain ⟨l1,l2,l3⟩:=Q0g h
 unfold Qbo Q6u
 have hc4:decide (4 < d.kind)=decide (5≤d.kind):=decide_eq_decide.2 (by omega)
 rw [hc4,bad_cond d _ (m47_z d) 5,Option.bind_some]
 by_cases hbad:d.kind < 0∨5≤d.kind∨KY d=false
 ·rw [decide_eq_true hbad,if_pos hbad];rfl
 ·rw [decide_eq_false hbad,if_neg hbad,cond_false]
  obtain ⟨w,-,w2,w3,w1⟩:=head_idx (k:=d.kind) (by omega) (by omega)
  rw [w1,Option.bind_some]
  have hw1:(Wh d.kind).length≤10:=by rw [w2,List.length_append];show 1+w.length≤10;omega
  have hb0:(Wh d.kind).length+(Zm d).n≤900000000:=by omega
  generalize hs0:Wh d.kind=s0 at hb0 hw1 ⊢
  have run:=rest_R h s0 (by omega)
  obtain ⟨s',e1,-,t1⟩:=run
  refine e1.trans ?_
  have ee:(YJ d).e=(Zm d).e:=declW_e d
  have et:(YJ d).t=s0++(Zm d).t:=by show Wh d.kind++_=_;rw [hs0]
  rw [if_pos rfl,ee]
  by_cases h0:(Zm d).e=0
  ·rw [if_pos h0,h0,show Qam s' 0=if 65536 < s'.length then ([],5) else (s',0) from if_pos rfl,t1 rfl h0,← et]
  ·rw [if_neg h0,show Qam s' (Zm d).e=([],(Zm d).e) from if_neg h0]
theorem trees_some:∀ (n:Nat) (t:Tr) (a:Int),t.size≤n→t.size≤2000000→∃ r,QX (fun rc v=>Q59 rc v.1 v.2) n (t,a)=some r
 | 0,t,a,h,_=>by have:=t.size_eq;omega
 | n+1,t,a,h,h2=>by
  have hsz:=t.size_eq
  have hbl:=GR t
  show ∃ r,Q59 (QX (fun rc v=>Q59 rc v.1 v.2) n) t a=some r
  have hrc:=trees_some n
  generalize QX (fun rc v=>Q59 rc v.1 v.2) n=rc at hrc
  unfold Q59
  obtain ⟨r1,h3⟩:=Wu Qk t.body (QE (a - 1)) (by unfold Qk;omega) (by omega)
  have h3':Qaz t.body (QE (a - 1))=some r1:=h3
  rw [h3',Option.bind_some]
  obtain ⟨r2,h4⟩:=Xs (step:=(fun s10=>Option.bind (cond ((decide (s10.2 < (t.branches.length:Int)))) (some (decide (0≤s10.1))) (some false)) fun (v12:Bool)=>cond v12 (Option.bind (J3 t.branches s10.2) fun (x13:Qdl)=>cond ((decide (100 < (x13.ctor.length:Int)))) (some (LO.done (β:=Int⊕Int) (.inr (-1)))) (Option.bind (J3 t.branches s10.2) fun (x14:Qdl)=>Option.bind (rc (x14.tree,(QE (s10.1 - 1)))) fun (x15:Int)=>some (.next (x15,(QE (s10.2+1)))))) (some (.done (.inl s10.1)))))
   t.branches (fun i (s:Int)=>(s,i)) (by omega)
   (fun p x q s e=>by
    have hx:x∈t.branches:=by rw [e];simp
    have hk:=ZY hx
    obtain ⟨r,hr⟩:=hrc x.tree (QE (s - 1)) (by omega) (by omega)
    rw [e,Y9,JI,cond_true,Option.bind_some]
    cases decide (0≤s) with
    | false=>exact .inl ⟨_,rfl⟩
    | true =>
     rw [cond_true,Option.bind_some]
     cases decide (100 < (x.ctor.length:Int)) with
     | true=>exact .inl ⟨_,rfl⟩
     | false =>
      rw [cond_false,Option.bind_some,hr]
      exact .inr ⟨_,Z⟩)
   (fun s=>⟨_,by rw [J9];rfl⟩) r1
  rw [h4,Option.bind_some]
  cases r2 <;> exact ⟨_,rfl⟩
theorem fewtree_some {t:Tr} (h:t.size≤2000000) (a:Int):∃ b,Qay t a=some b:=by
 obtain ⟨r,hr⟩:=trees_some Qk t a (by unfold Qk;omega) h
 have hr':Qc0 t a=some r:=hr
 exact ⟨_,by unfold Qay;rw [hr'];rfl⟩
theorem fewdecl_some {d:Dcl} (h:d.size≤2000000):∃ b,Qbq d=some b:=by
 obtain ⟨h1,h2,h3,h4,-,-,-⟩:=Z0 h
 obtain ⟨l1,l2,l3⟩:=Q0g h
 unfold Qbq
 obtain ⟨b1,e1⟩:=Gi d.ty 100 h2
 obtain ⟨b2,e2⟩:=Gi d.value 200 h3
 obtain ⟨b3,e3⟩:=Gi d.rcr.ty 400 h4
 rw [e1,e2,e3]
 obtain ⟨r1,f1⟩:=Xs (step:=(fun s11=>cond ((decide (s11 < (d.ctors.length:Int)))) (Option.bind (J3 d.ctors s11) fun (x13:Ctr)=>cond ((decide (100 < (x13.name.length:Int)))) (some (LO.done (β:=Unit⊕Bool) (.inr false))) (Option.bind (J3 d.ctors s11) fun (x14:Ctr)=>Option.bind (Q7k x14.ty 100) fun (x15:Bool)=>cond ((!x15)) (some (.done (.inr false))) (some (.next (QE (s11+1)))))) (some (.done (.inl ())))))
  d.ctors (fun i (_:Unit)=>i) (by omega) (fun p x q s e=>by
   have hx:x∈d.ctors:=by rw [e];simp
   obtain ⟨b,hb⟩:=Gi x.ty 100 (Q37 h hx).2
   rw [e,Y9,JI,cond_true,Option.bind_some]
   cases decide (100 < (x.name.length:Int)) with
   | true=>exact .inl ⟨_,rfl⟩
   | false =>
    rw [cond_false,Option.bind_some,hb,Option.bind_some]
    cases b with
    | true=>exact .inr ⟨(),rfl⟩
    | false=>exact .inl ⟨_,rfl⟩) (fun s=>⟨_,by rw [J9];rfl⟩) ()
 obtain ⟨r2,f2⟩:=Xs (step:=(fun s18=>cond ((decide (s18 < (d.rcr.rules.length:Int)))) (Option.bind (J3 d.rcr.rules s18) fun (x20:Tm)=>Option.bind (Q7k x20 400) fun (x21:Bool)=>cond ((!x21)) (some (LO.done (β:=Unit⊕Bool) (.inr false))) (some (.next (QE (s18+1))))) (some (.done (.inl ())))))
  d.rcr.rules (fun i (_:Unit)=>i) (by omega) (fun p x q s e=>by
   have hx:x∈d.rcr.rules:=by rw [e];simp
   obtain ⟨b,hb⟩:=Gi x 400 (UI h hx)
   rw [e,Y9,JI,cond_true,Option.bind_some,hb,Option.bind_some]
   cases b with
   | true=>exact .inr ⟨(),rfl⟩
   | false=>exact .inl ⟨_,rfl⟩) (fun s=>⟨_,by rw [J9];rfl⟩) ()
 obtain ⟨r3,f3⟩:=Xs (step:=(fun s27=>cond ((decide (s27 < (d.funs.length:Int)))) (Option.bind (J3 d.funs s27) fun (x29:Fn)=>cond ((decide (100 < (x29.name.length:Int)))) (some (LO.done (β:=Unit⊕Bool) (.inr false))) (Option.bind (J3 d.funs s27) fun (x30:Fn)=>Option.bind (Q7k x30.ty 100) fun (x31:Bool)=>cond ((!x31)) (some (.done (.inr false))) (Option.bind (J3 d.funs s27) fun (x32:Fn)=>Option.bind (Qay x32.tree 200) fun (x33:Bool)=>cond ((!x33)) (some (.done (.inr false))) (some (.next (QE (s27+1))))))) (some (.done (.inl ())))))
  d.funs (fun i (_:Unit)=>i) (by omega) (fun p x q s e=>by
   have hx:x∈d.funs:=by rw [e];simp
   obtain ⟨b,hb⟩:=Gi x.ty 100 (Q0h h hx).2.1
   obtain ⟨b',hb'⟩:=fewtree_some (Q0h h hx).2.2 200
   rw [e,Y9,JI,cond_true,Option.bind_some]
   cases decide (100 < (x.name.length:Int)) with
   | true=>exact .inl ⟨_,rfl⟩
   | false =>
    rw [cond_false,Option.bind_some,hb,Option.bind_some]
    cases b with
    | false=>exact .inl ⟨_,rfl⟩
    | true =>
     rw [show (!true)=false from rfl,cond_false,Option.bind_some,hb',Option.bind_some]
     cases b' with
     | true=>exact .inr ⟨(),rfl⟩
     | false=>exact .inl ⟨_,rfl⟩) (fun s=>⟨_,by rw [J9];rfl⟩) ()
 have hv:∃ v4,(cond ((decide (100 < (d.name.length:Int)))) (some true) (cond ((decide (6 < (d.ctors.length:Int)))) (some true) (cond ((decide (4 < (d.funs.length:Int)))) (some true) (cond ((decide (6 < (d.rcr.rules.length:Int)))) (some true) (Option.bind (some b1) fun (x5:Bool)=>cond ((!x5)) (some true) (Option.bind (some b2) fun (x6:Bool)=>cond ((!x6)) (some true) (Option.bind (some b3) fun (x7:Bool)=>some (!x7))))))))=some v4:=by
  cases decide (100 < (d.name.length:Int)) <;> cases decide (6 < (d.ctors.length:Int)) <;> cases decide (4 < (d.funs.length:Int)) <;> cases decide (6 < (d.rcr.rules.length:Int)) <;> cases b1 <;> cases b2 <;> exact ⟨_,rfl⟩
 obtain ⟨v4,hv4⟩:=hv
 rw [hv4,Option.bind_some]
 cases v4 with
 | true=>exact ⟨_,rfl⟩
 | false =>
  rw [cond_false,f1,Option.bind_some]
  cases r1 with
  | inr o=>exact ⟨_,rfl⟩
  | inl u =>
   show ∃ b,Option.bind _ _=some b
   rw [f2,Option.bind_some]
   cases r2 with
   | inr o=>exact ⟨_,rfl⟩
   | inl u =>
    show ∃ b,Option.bind _ _=some b
    rw [f3,Option.bind_some]
    cases r3 <;> exact ⟨_,rfl⟩
theorem m8_true (d:Dcl) (h:d.size≤2000000):Qco d=some true:=by
 obtain ⟨b,hb⟩:=fewdecl_some h
 unfold Qco
 rw [hb,Option.bind_some,awake_true,m21_eq h,m22_eq h]
 cases b with
 | false=>rfl
 | true=>simp
end
section
open Go.RowKit Go.ChangeShapes Go.WideShapes
def Q4n (w:World):Nat→Nat→Prop:=fun b _=>b < w.heap.size
def RC (w:World) (e:List C) (cs:List Value):Prop:=cs.length=e.length∧∀ (j:Nat) (c:C),e[j]?=some c→∃ u,cs[j]?=some u∧Reads (Q4n w) w c u
theorem RC.app {w:World} {e0 e1:List C} {cs:List Value} (h0:RC w e0 (cs.take e0.length)) (h1:RC w e1 (cs.drop e0.length)) (hl:cs.length=e0.length+e1.length):RC w (e0++e1) cs:=by
 refine ⟨by rw [hl,List.length_append],fun j c hj=>?_⟩
 rcases Nat.lt_or_ge j e0.length with h | h
 ·rw [List.getElem?_append_left h] at hj
  obtain ⟨u,h2,h3⟩:=h0.2 j c hj
  rw [List.getElem?_take,if_pos h] at h2
  exact ⟨u,h2,h3⟩
 ·rw [List.getElem?_append_right h] at hj
  obtain ⟨u,h2,h3⟩:=h1.2 _ c hj
  rw [List.getElem?_drop,show e0.length+(j - e0.length)=j by omega] at h2
  exact ⟨u,h2,h3⟩
end
section
open Go.RowKit Go.ChangeShapes Go.WideShapes
theorem Gm {H:Type} (d:DataW H):1≤Rows.uptoBulk d:=by
 cases d with
 | lit l=>cases l <;> simp [Rows.uptoBulk]
 | nil=>simp [Rows.uptoBulk]
 | ptr d=>simp [Rows.uptoBulk]
 | slice elems spare=>simp [Rows.uptoBulk]
 | agg parts=>simp [Rows.uptoBulk]
 | iface t d=>simp [Rows.uptoBulk]
 | map entries=>simp [Rows.uptoBulk]
 | held h=>simp [Rows.uptoBulk]
theorem bulk_all {H:Type}:∀ l:List (DataW H),Rows.uptoBulkAll l=(l.map Rows.uptoBulk).sum
 | []=>by simp [Rows.uptoBulkAll]
 | x::l=>by simp only [Rows.uptoBulkAll,List.map_cons,List.sum_cons,bulk_all l]
theorem RC.nil {w:World} {cs:List Value}:RC w [] (cs.take 0):=⟨by simp,fun j c h=>by cases h⟩
theorem RC.snoc {w:World} {e0 e1:List C} {cs:List Value} {m k:Nat} (h0:RC w e0 (cs.take m)) (h1:RC w e1 ((cs.drop m).take k)) (hm:e0.length=m):RC w (e0++e1) (cs.take (m+k)):=by
 have h2:=h0.1
 have h3:=h1.1
 refine RC.app ?_ ?_ ?_
 ·rw [List.take_take,hm,Nat.min_eq_left (by omega)];exact h0
 ·rw [hm,List.drop_take,Nat.add_sub_cancel_left];exact h1
 ·rw [← h3,hm]
  simp only [List.length_take,List.length_drop] at h2 ⊢
  omega
section
variable {H:Type} (enc:TypeId×Value→H) (P:Program) (w:World)
def QD (N:Nat) (t:TypeId) (α:Type) [Enc α] (μ:α→Nat):Prop:=∀ (fuel:Nat) (cs:List Value) (x:DataW H×List MemPlace),DataW.trod enc P w 0 (fun _=>true) true fuel t cs=some x→Rows.uptoBulk x.1≤N→∃ v:α,RC w (Enc.enc v) cs∧μ v≤Rows.uptoBulk x.1
end
section
variable {H:Type} {enc:TypeId×Value→H} {P:Program} {w:World} {N:Nat}
theorem X9 {t:TypeId} (ht:P.underlying t=some (.int .i64)):QD enc P w N t Int (fun _=>1):=by
 intro fuel cs x h hb
 obtain ⟨n,rfl,rfl,-⟩:=DataW.trod_int ht h
 refine ⟨n,⟨Z,fun j c hj=>?_⟩,Gm _⟩
 cases j with
 | zero=>cases hj;exact ⟨_,rfl,Reads.v _ rfl⟩
 | succ j=>cases hj
theorem z_intR {t:TypeId} (ht:P.underlying t=some (.int .i64)):QD enc P w N t Int (fun n=>1+Qcv n):=by
 intro fuel cs x h hb
 obtain ⟨n,rfl,rfl,hw⟩:=DataW.trod_int ht h
 have hi:Qcv n=0:=by
  obtain ⟨h1,h2⟩:=Bool.and_eq_true_iff.1 hw
  have h1:-9223372036854775808≤n:=of_decide_eq_true h1
  have h2:n≤9223372036854775807:=of_decide_eq_true h2
  unfold Qcv
  rw [if_pos ⟨h1,h2⟩]
 refine ⟨n,⟨rfl,fun j c hj=>?_⟩,by dsimp only;rw [hi];exact Gm _⟩
 cases j with
 | zero=>cases hj;exact ⟨_,rfl,Reads.v _ rfl⟩
 | succ j=>cases hj
theorem z_bool {t:TypeId} (ht:P.underlying t=some .bool):QD enc P w N t Bool (fun _=>1):=by
 intro fuel cs x h hb
 obtain ⟨n,rfl,rfl⟩:=DataW.trod_bool ht h
 refine ⟨n,⟨Z,fun j c hj=>?_⟩,Gm _⟩
 cases j with
 | zero=>cases hj;exact ⟨_,rfl,Reads.v _ rfl⟩
 | succ j=>cases hj
theorem Q3o {t:TypeId} (ht:P.underlying t=some .string):QD enc P w N t Qdk (fun s=>1+s.length):=by
 intro fuel cs x h hb
 obtain ⟨s,rfl,rfl,-⟩:=DataW.trod_string ht h
 refine ⟨s.data.toList,⟨rfl,fun j c hj=>?_⟩,by simp [Rows.uptoBulk];omega⟩
 cases j with
 | zero=>cases hj;exact ⟨_,rfl,by rw [show Qci s.data.toList=s from rfl];exact Reads.v _ rfl⟩
 | succ j=>cases hj
theorem Gu {α:Type} [Enc α] [EncLen α] {μ:α→Nat} {t e:TypeId} (ht:P.underlying t=some (.slice e)) (hc:P.cellsOf e=Enc.sz α) (ho:QD enc P w N e α μ):QD enc P w N t (List α) (fun l=>1+(l.map μ).sum):=by
 intro fuel cs x h hb
 rcases Deep.open_slice ht h with ⟨rfl,rfl⟩ | ⟨a,len,cap,m,n,D,Pl,rfl,-,hlc,-,hm,rfl,hel⟩
 ·refine ⟨[],⟨rfl,fun j c hj=>?_⟩,by simp [Rows.uptoBulk]⟩
  cases j with
  | zero =>
   cases hj
   refine ⟨_,Z,?_⟩
   rw [Enc.nil]
   exact .sl _ [] none 0 0 0 (fun _ _=>undef) (Nat.le_refl _) (fun h=>absurd rfl h) (fun i e h=>by simp at h) (fun i e j c h=>by simp at h) (fun i e j c h=>by simp at h) (fun i e j c h=>by simp at h)
  | succ j=>cases hj
 ·have hm':m=cap:=by rw [hm];rfl
  have hbk:((List.range len).map fun i=>Rows.uptoBulk (D i)).sum+1≤Rows.uptoBulk (DataW.slice (H:=H) ((List.range len).map D) ((List.range (m - len)).map fun j=>D (len+j))):=by
   simp only [Rows.uptoBulk,bulk_all,List.map_map]
   have:(List.map (Rows.uptoBulk ∘ D) (List.range len)).sum=((List.range len).map fun i=>Rows.uptoBulk (D i)).sum:=rfl
   omega
  dsimp only at hb
  have hD:∀ k,k < len→Rows.uptoBulk (D k)≤N:=fun k hk=>by
   have:=YW (fun i=>Rows.uptoBulk (D i)) (List.mem_range.2 hk)
   omega
  have hall:∀ k,k≤len→∃ l:List α,l.length=k∧(l.map μ).sum≤((List.range k).map fun i=>Rows.uptoBulk (D i)).sum∧∀ (i:Nat) (v:α),l[i]?=some v→∃ cs',w.cells? 0 (a.add (i * Enc.sz α)) (Enc.sz α)=some cs'∧RC w (Enc.enc v) cs':=by
   intro k
   induction k with
   | zero=>intro _;exact ⟨[],rfl,Nat.le_refl _,fun i v h=>by simp at h⟩
   | succ k ih =>
    intro hk
    obtain ⟨l,h1,hsum,h2⟩:=ih (by omega)
    obtain ⟨cs',h3,h4⟩:=hel k (by omega)
    rw [hc] at h3
    obtain ⟨v,hv,hμ⟩:=ho _ _ _ h4 (hD k (by omega))
    refine ⟨l++[v],by simp [h1],?_,fun i v' hi=>?_⟩
    ·rw [List.range_succ]
     simp only [List.map_append,List.map_cons,List.map_nil,List.sum_append,List.sum_cons,List.sum_nil]
     dsimp only at hμ
     omega
    rcases Nat.lt_or_ge i l.length with h | h
    ·rw [List.getElem?_append_left h] at hi;exact h2 i v' hi
    ·rw [List.getElem?_append_right h] at hi
     have hi0:i - l.length=0:=by
      rcases Nat.eq_zero_or_pos (i - l.length) with h0 | h0
      ·exact h0
      ·rw [List.getElem?_eq_none (by simp only [List.length_singleton];omega)] at hi;cases hi
     have hik:i=k:=by omega
     rw [hi0] at hi;cases hi
     rw [hik];exact ⟨cs',h3,hv⟩
  obtain ⟨l,hl,hsum,hcells⟩:=hall len (Nat.le_refl _)
  have hpos:0 < Enc.sz α:=EncLen.pos
  have hspot:l ≠ []→a.spot=none∧a.block < w.heap.size:=by
   intro hne
   obtain ⟨v,r,rfl⟩:=List.exists_cons_of_ne_nil hne
   obtain ⟨cs',h1,h2⟩:=hcells 0 v rfl
   obtain ⟨-,h3,h4⟩:=World.cells?_some h1
   have h5:=h4 0 hpos
   rw [Nat.zero_mul,Deep.add_add,Nat.zero_add] at h5
   have h6:(cs'[0]?).isSome:=by rw [List.getElem?_eq_getElem (by omega)];rfl
   rw [← h5] at h6
   have h7:(a.add 0)=a:=by simp [Addr.add]
   rw [h7] at h6
   unfold World.cell? at h6
   split at h6
   ·rename_i c _ _ hb
    refine ⟨?_,(Array.getElem?_eq_some_iff.1 hb).1⟩
    split at h6
    ·cases h6
    ·rename_i hs
     cases hsp:a.spot with
     | none=>rfl
     | some q=>rw [hsp] at hs;exact absurd rfl hs
   ·cases h6
  have hadd:l ≠ []→∀ k,a.add k=⟨a.block,a.off+k,none⟩:=by
   intro hne k
   have h1:=(hspot hne).1
   unfold Addr.add
   split
   ·rename_i h0;subst h0
    obtain ⟨b,o,sp⟩:=a
    simp only at h1;subst h1;rfl
   ·rfl
  have hcell:∀ (i:Nat) (e':List C) (j:Nat) (c:C),(Enc.encL l)[i]?=some e'→e'[j]?=some c→∃ u,w.cell? ⟨a.block,a.off+i * Enc.sz α+j,none⟩=some u∧Reads (Q4n w) w c u:=by
   intro i e' j c hi hj
   rw [Enc.map,List.getElem?_map] at hi
   cases hx:l[i]? with
   | none=>rw [hx] at hi;cases hi
   | some v =>
    rw [hx] at hi;cases hi
    have hne:l ≠ []:=by intro h0;rw [h0] at hx;simp at hx
    obtain ⟨cs',h1,h2⟩:=hcells i v hx
    obtain ⟨u,h3,h4⟩:=h2.2 j c hj
    obtain ⟨-,h5,h6⟩:=World.cells?_some h1
    have hjl:j < Enc.sz α:=by have:=(List.getElem?_eq_some_iff.1 h3).1;omega
    have h7:=h6 j hjl
    rw [Deep.add_add,hadd hne,h3,← Nat.add_assoc] at h7
    exact ⟨u,h7,h4⟩
  refine ⟨l,⟨rfl,fun j c hj=>?_⟩,by dsimp only;omega⟩
  cases j with
  | succ j=>cases hj
  | zero =>
   cases hj
   refine ⟨_,Z,?_⟩
   have hR:=Reads.sl (S:=Q4n w) (w:=w) (Enc.sz α) (Enc.encL l) (some a) cap a.block a.off (fun i j=>(w.cell? ⟨a.block,a.off+i * Enc.sz α+j,none⟩).getD undef) (by rw [Enc.len,hl];exact hlc)
    (fun hne=>by
     have hne':l ≠ []:=by intro h0;rw [h0,Enc.nil] at hne;exact hne rfl
     have h7:(a.add 0)=a:=by simp [Addr.add]
     rw [← h7,hadd hne'])
    (fun i e' hi=>UG l e' (List.mem_of_getElem? hi))
    (fun i e' j c hi hj=>by obtain ⟨u,h1,-⟩:=hcell i e' j c hi hj;rw [h1];rfl)
    (fun i e' j c hi hj=>by
     have hne:l ≠ []:=by intro h0;rw [h0,Enc.nil] at hi;simp at hi
     exact (hspot hne).2)
    (fun i e' j c hi hj=>by obtain ⟨u,h1,h2⟩:=hcell i e' j c hi hj;rw [h1];exact h2)
   rw [Enc.len,hl] at hR
   exact hR
theorem UT {α:Type} [Enc α] {μ:α→Nat} {t:TypeId} (h:∀ N,QD enc P w N t α μ→QD enc P w (N+1) t α μ):∀ N,QD enc P w N t α μ
 | 0=>fun fuel cs x _ hb=>by have:=Gm x.1;omega
 | N+1=>h N (UT h N)
end
section
variable {H:Type} {enc:TypeId×Value→H} {w:World} {N:Nat}
theorem Z1:Tryz.prog.cellsOf 3=1:=by kernel_rfl
theorem cells_4:Tryz.prog.cellsOf 4=1:=by kernel_rfl
theorem U9:Tryz.prog.cellsOf 9=1:=by kernel_rfl
theorem cells_22:Tryz.prog.cellsOf 22=1:=by kernel_rfl
theorem cells_23:Tryz.prog.cellsOf 23=1:=by kernel_rfl
theorem KA:Tryz.prog.cellsOf 25=5:=by kernel_rfl
theorem cells_43:Tryz.prog.cellsOf 43=1:=by kernel_rfl
theorem cells_45:Tryz.prog.cellsOf 45=7:=by kernel_rfl
theorem cells_46:Tryz.prog.cellsOf 46=1:=by kernel_rfl
theorem cells_48:Tryz.prog.cellsOf 48=23:=by kernel_rfl
theorem cells_86:Tryz.prog.cellsOf 86=6:=by kernel_rfl
theorem cells_87:Tryz.prog.cellsOf 87=1:=by kernel_rfl
theorem Q0k:Tryz.prog.cellsOf 89=8:=by kernel_rfl
theorem cells_91:Tryz.prog.cellsOf 91=15:=by kernel_rfl
theorem cells_80:Tryz.prog.cellsOf 80=1:=by kernel_rfl
theorem cells_82:Tryz.prog.cellsOf 82=2:=by kernel_rfl
theorem cells_148:Tryz.prog.cellsOf 148=10:=by kernel_rfl
theorem cells_142:Tryz.prog.cellsOf 142=2:=by kernel_rfl
theorem z_lv:QD enc Tryz.prog w (N+1) 142 Qde (fun _=>1):=by
 intro fuel cs x h hb
 obtain ⟨xs,n,_,rfl,hl,hlen,hf⟩:=DataW.trod_struct Tryz.underlying142 h
 match xs,hlen with
 | [y0,y1],_ =>
  have hb':Rows.uptoBulk y0.1+Rows.uptoBulk y1.1+1≤Rows.uptoBulk (DataW.agg (H:=H) [y0.1,y1.1]):=by simp only [Rows.uptoBulk,Rows.uptoBulkAll];omega
  have hb2:Rows.uptoBulk (DataW.agg (H:=H) [y0.1,y1.1])≤N+1:=hb
  obtain ⟨v0,r0,m0⟩:=(X9 Tryz.underlying3:QD enc Tryz.prog w N _ _ _) n _ _ (hf 0 _ rfl) (by omega)
  change RC w (Enc.enc v0) ((cs.drop 0).take (Tryz.prog.cellsOf 3)) at r0
  rw [Z1] at r0
  obtain ⟨v1,r1,m1⟩:=(X9 Tryz.underlying3:QD enc Tryz.prog w N _ _ _) n _ _ (hf 1 _ rfl) (by omega)
  change RC w (Enc.enc v1) ((cs.drop 1).take (Tryz.prog.cellsOf 3)) at r1
  rw [Z1] at r1
  have hcs:cs.take 2=cs:=List.take_of_length_le (by rw [hl];exact Nat.le_of_eq cells_142)
  have hR:=((((RC.nil).snoc (k:=1) r0 rfl)).snoc (k:=1) r1 rfl)
  refine ⟨(v0,v1),by rw [← hcs];exact hR,Nat.le_trans ?_ hb'⟩
  show 1≤_
  omega
theorem z_lv':QD enc Tryz.prog w N 142 Qde (fun _=>1):=UT (fun _ _=>z_lv) N
theorem z_lvl:QD enc Tryz.prog w (N+1) 82 Lvl lvz:=by
 intro fuel cs x h hb
 obtain ⟨xs,n,_,rfl,hl,hlen,hf⟩:=DataW.trod_struct Tryz.underlying82 h
 match xs,hlen with
 | [y0,y1],_ =>
  have hb':Rows.uptoBulk y0.1+Rows.uptoBulk y1.1+1≤Rows.uptoBulk (DataW.agg (H:=H) [y0.1,y1.1]):=by simp only [Rows.uptoBulk,Rows.uptoBulkAll];omega
  have hb2:Rows.uptoBulk (DataW.agg (H:=H) [y0.1,y1.1])≤N+1:=hb
  obtain ⟨v0,r0,m0⟩:=(X9 Tryz.underlying3:QD enc Tryz.prog w N _ _ _) n _ _ (hf 0 _ rfl) (by omega)
  change RC w (Enc.enc v0) ((cs.drop 0).take (Tryz.prog.cellsOf 3)) at r0
  rw [Z1] at r0
  obtain ⟨v1,r1,m1⟩:=(Gu Tryz.underlying80 (by kernel_rfl) z_lv':QD enc Tryz.prog w N _ _ _) n _ _ (hf 1 _ rfl) (by omega)
  change RC w (Enc.enc v1) ((cs.drop 1).take (Tryz.prog.cellsOf 80)) at r1
  rw [cells_80] at r1
  have hcs:cs.take 2=cs:=List.take_of_length_le (by rw [hl];exact Nat.le_of_eq cells_82)
  have hR:=((((RC.nil).snoc (k:=1) r0 rfl)).snoc (k:=1) r1 rfl)
  refine ⟨⟨v0,v1⟩,by rw [← hcs];exact hR,Nat.le_trans ?_ hb'⟩
  show lvz ⟨v0,v1⟩≤_
  unfold lvz
  dsimp only at m0 m1 ⊢
  omega
theorem z_lvl':QD enc Tryz.prog w N 82 Lvl lvz:=UT (fun _ _=>z_lvl) N
theorem z_tm (hk:QD enc Tryz.prog w N 25 Tm Tm.size):QD enc Tryz.prog w (N+1) 25 Tm Tm.size:=by
 intro fuel cs x h hb
 obtain ⟨xs,n,_,rfl,hl,hlen,hf⟩:=DataW.trod_struct Tryz.underlying25 h
 match xs,hlen with
 | [y0,y1,y2,y3,y4],_ =>
  have hb':Rows.uptoBulk y0.1+Rows.uptoBulk y1.1+Rows.uptoBulk y2.1+Rows.uptoBulk y3.1+Rows.uptoBulk y4.1+1≤Rows.uptoBulk (DataW.agg (H:=H) [y0.1,y1.1,y2.1,y3.1,y4.1]):=by simp only [Rows.uptoBulk,Rows.uptoBulkAll];omega
  have hb2:Rows.uptoBulk (DataW.agg (H:=H) [y0.1,y1.1,y2.1,y3.1,y4.1])≤N+1:=hb
  obtain ⟨v0,r0,m0⟩:=(X9 Tryz.underlying3:QD enc Tryz.prog w N _ _ _) n _ _ (hf 0 _ rfl) (by omega)
  change RC w (Enc.enc v0) ((cs.drop 0).take (Tryz.prog.cellsOf 3)) at r0
  rw [Z1] at r0
  obtain ⟨v1,r1,m1⟩:=(z_intR Tryz.underlying3:QD enc Tryz.prog w N _ _ _) n _ _ (hf 1 _ rfl) (by omega)
  change RC w (Enc.enc v1) ((cs.drop 1).take (Tryz.prog.cellsOf 3)) at r1
  rw [Z1] at r1
  obtain ⟨v2,r2,m2⟩:=(Q3o Tryz.underlying9:QD enc Tryz.prog w N _ _ _) n _ _ (hf 2 _ rfl) (by omega)
  change RC w (Enc.enc v2) ((cs.drop 2).take (Tryz.prog.cellsOf 9)) at r2
  rw [U9] at r2
  obtain ⟨v3,r3,Qcp⟩:=(Gu Tryz.underlying22 (by kernel_rfl) z_lvl':QD enc Tryz.prog w N _ _ _) n _ _ (hf 3 _ rfl) (by omega)
  change RC w (Enc.enc v3) ((cs.drop 3).take (Tryz.prog.cellsOf 22)) at r3
  rw [cells_22] at r3
  obtain ⟨v4,r4,m4⟩:=(Gu Tryz.underlying23 (by kernel_rfl) hk:QD enc Tryz.prog w N _ _ _) n _ _ (hf 4 _ rfl) (by omega)
  change RC w (Enc.enc v4) ((cs.drop 4).take (Tryz.prog.cellsOf 23)) at r4
  rw [cells_23] at r4
  have hcs:cs.take 5=cs:=List.take_of_length_le (by rw [hl];exact Nat.le_of_eq KA)
  have hR:=((((((((((RC.nil).snoc (k:=1) r0 rfl)).snoc (k:=1) r1 rfl)).snoc (k:=1) r2 rfl)).snoc (k:=1) r3 rfl)).snoc (k:=1) r4 rfl)
  refine ⟨Tm.mk v0 v1 v2 v3 v4,by rw [← hcs];exact hR,Nat.le_trans ?_ hb'⟩
  rw [Tm.size_eq]
  simp only [Tm.name,Tm.kids,Tm.levels,Tm.index]
  dsimp only at m0 m1 m2 Qcp m4 ⊢
  omega
theorem Dx:QD enc Tryz.prog w N 25 Tm Tm.size:=UT (fun _ h=>z_tm h) N
theorem z_ctr:QD enc Tryz.prog w (N+1) 86 Ctr csz:=by
 intro fuel cs x h hb
 obtain ⟨xs,n,_,rfl,hl,hlen,hf⟩:=DataW.trod_struct Tryz.underlying86 h
 match xs,hlen with
 | [y0,y1],_ =>
  have hb':Rows.uptoBulk y0.1+Rows.uptoBulk y1.1+1≤Rows.uptoBulk (DataW.agg (H:=H) [y0.1,y1.1]):=by simp only [Rows.uptoBulk,Rows.uptoBulkAll];omega
  have hb2:Rows.uptoBulk (DataW.agg (H:=H) [y0.1,y1.1])≤N+1:=hb
  obtain ⟨v0,r0,m0⟩:=(Q3o Tryz.underlying9:QD enc Tryz.prog w N _ _ _) n _ _ (hf 0 _ rfl) (by omega)
  change RC w (Enc.enc v0) ((cs.drop 0).take (Tryz.prog.cellsOf 9)) at r0
  rw [U9] at r0
  obtain ⟨v1,r1,m1⟩:=(Dx:QD enc Tryz.prog w N _ _ _) n _ _ (hf 1 _ rfl) (by omega)
  change RC w (Enc.enc v1) ((cs.drop 1).take (Tryz.prog.cellsOf 25)) at r1
  rw [KA] at r1
  have hcs:cs.take 6=cs:=List.take_of_length_le (by rw [hl];exact Nat.le_of_eq cells_86)
  have hR:=((((RC.nil).snoc (k:=1) r0 rfl)).snoc (k:=5) r1 rfl)
  refine ⟨⟨v0,v1⟩,by rw [← hcs];exact hR,Nat.le_trans ?_ hb'⟩
  show csz ⟨v0,v1⟩≤_
  unfold csz
  dsimp only at m0 m1 ⊢
  omega
theorem z_ctr':QD enc Tryz.prog w N 86 Ctr csz:=UT (fun _ _=>z_ctr) N
theorem z_rcr:QD enc Tryz.prog w (N+1) 45 Rcr (fun r=>r.ty.size+(r.rules.map Tm.size).sum):=by
 intro fuel cs x h hb
 obtain ⟨xs,n,_,rfl,hl,hlen,hf⟩:=DataW.trod_struct Tryz.underlying45 h
 match xs,hlen with
 | [y0,y1,y2],_ =>
  have hb':Rows.uptoBulk y0.1+Rows.uptoBulk y1.1+Rows.uptoBulk y2.1+1≤Rows.uptoBulk (DataW.agg (H:=H) [y0.1,y1.1,y2.1]):=by simp only [Rows.uptoBulk,Rows.uptoBulkAll];omega
  have hb2:Rows.uptoBulk (DataW.agg (H:=H) [y0.1,y1.1,y2.1])≤N+1:=hb
  obtain ⟨v0,r0,m0⟩:=(X9 Tryz.underlying3:QD enc Tryz.prog w N _ _ _) n _ _ (hf 0 _ rfl) (by omega)
  change RC w (Enc.enc v0) ((cs.drop 0).take (Tryz.prog.cellsOf 3)) at r0
  rw [Z1] at r0
  obtain ⟨v1,r1,m1⟩:=(Dx:QD enc Tryz.prog w N _ _ _) n _ _ (hf 1 _ rfl) (by omega)
  change RC w (Enc.enc v1) ((cs.drop 1).take (Tryz.prog.cellsOf 25)) at r1
  rw [KA] at r1
  obtain ⟨v2,r2,m2⟩:=(Gu Tryz.underlying23 (by kernel_rfl) Dx:QD enc Tryz.prog w N _ _ _) n _ _ (hf 2 _ rfl) (by omega)
  change RC w (Enc.enc v2) ((cs.drop 6).take (Tryz.prog.cellsOf 23)) at r2
  rw [cells_23] at r2
  have hcs:cs.take 7=cs:=List.take_of_length_le (by rw [hl];exact Nat.le_of_eq cells_45)
  have hR:=((((((RC.nil).snoc (k:=1) r0 rfl)).snoc (k:=5) r1 rfl)).snoc (k:=1) r2 rfl)
  refine ⟨⟨v0,v1,v2⟩,by rw [← hcs];exact hR,Nat.le_trans ?_ hb'⟩
  dsimp only at m0 m1 m2 ⊢
  omega
theorem z_rcr':QD enc Tryz.prog w N 45 Rcr (fun r=>r.ty.size+(r.rules.map Tm.size).sum):=UT (fun _ _=>z_rcr) N
theorem z_tr (hk:QD enc Tryz.prog w N 148 Qdl bsz):QD enc Tryz.prog w (N+1) 89 Tr Tr.size:=by
 intro fuel cs x h hb
 obtain ⟨xs,n,_,rfl,hl,hlen,hf⟩:=DataW.trod_struct Tryz.underlying89 h
 match xs,hlen with
 | [y0,y1,y2,y3],_ =>
  have hb':Rows.uptoBulk y0.1+Rows.uptoBulk y1.1+Rows.uptoBulk y2.1+Rows.uptoBulk y3.1+1≤Rows.uptoBulk (DataW.agg (H:=H) [y0.1,y1.1,y2.1,y3.1]):=by simp only [Rows.uptoBulk,Rows.uptoBulkAll];omega
  have hb2:Rows.uptoBulk (DataW.agg (H:=H) [y0.1,y1.1,y2.1,y3.1])≤N+1:=hb
  obtain ⟨v0,r0,m0⟩:=(X9 Tryz.underlying3:QD enc Tryz.prog w N _ _ _) n _ _ (hf 0 _ rfl) (by omega)
  change RC w (Enc.enc v0) ((cs.drop 0).take (Tryz.prog.cellsOf 3)) at r0
  rw [Z1] at r0
  obtain ⟨v1,r1,m1⟩:=(Dx:QD enc Tryz.prog w N _ _ _) n _ _ (hf 1 _ rfl) (by omega)
  change RC w (Enc.enc v1) ((cs.drop 1).take (Tryz.prog.cellsOf 25)) at r1
  rw [KA] at r1
  obtain ⟨v2,r2,m2⟩:=(X9 Tryz.underlying3:QD enc Tryz.prog w N _ _ _) n _ _ (hf 2 _ rfl) (by omega)
  change RC w (Enc.enc v2) ((cs.drop 6).take (Tryz.prog.cellsOf 3)) at r2
  rw [Z1] at r2
  obtain ⟨v3,r3,Qcp⟩:=(Gu Tryz.underlying87 (by kernel_rfl) hk:QD enc Tryz.prog w N _ _ _) n _ _ (hf 3 _ rfl) (by omega)
  change RC w (Enc.enc v3) ((cs.drop 7).take (Tryz.prog.cellsOf 87)) at r3
  rw [cells_87] at r3
  have hcs:cs.take 8=cs:=List.take_of_length_le (by rw [hl];exact Nat.le_of_eq Q0k)
  have hR:=((((((((RC.nil).snoc (k:=1) r0 rfl)).snoc (k:=5) r1 rfl)).snoc (k:=1) r2 rfl)).snoc (k:=1) r3 rfl)
  refine ⟨Tr.mk v0 v1 v2 v3,by rw [← hcs];exact hR,Nat.le_trans ?_ hb'⟩
  rw [Tr.size_eq]
  simp only [Tr.body,Tr.branches]
  dsimp only at m0 m1 m2 Qcp ⊢
  omega
theorem z_br (hk:QD enc Tryz.prog w N 89 Tr Tr.size):QD enc Tryz.prog w (N+1) 148 Qdl bsz:=by
 intro fuel cs x h hb
 obtain ⟨xs,n,_,rfl,hl,hlen,hf⟩:=DataW.trod_struct Tryz.underlying148 h
 match xs,hlen with
 | [y0,y1,y2],_ =>
  have hb':Rows.uptoBulk y0.1+Rows.uptoBulk y1.1+Rows.uptoBulk y2.1+1≤Rows.uptoBulk (DataW.agg (H:=H) [y0.1,y1.1,y2.1]):=by simp only [Rows.uptoBulk,Rows.uptoBulkAll];omega
  have hb2:Rows.uptoBulk (DataW.agg (H:=H) [y0.1,y1.1,y2.1])≤N+1:=hb
  obtain ⟨v0,r0,m0⟩:=(Q3o Tryz.underlying9:QD enc Tryz.prog w N _ _ _) n _ _ (hf 0 _ rfl) (by omega)
  change RC w (Enc.enc v0) ((cs.drop 0).take (Tryz.prog.cellsOf 9)) at r0
  rw [U9] at r0
  obtain ⟨v1,r1,m1⟩:=(z_bool Tryz.underlying4:QD enc Tryz.prog w N _ _ _) n _ _ (hf 1 _ rfl) (by omega)
  change RC w (Enc.enc v1) ((cs.drop 1).take (Tryz.prog.cellsOf 4)) at r1
  rw [cells_4] at r1
  obtain ⟨v2,r2,m2⟩:=hk n _ _ (hf 2 _ rfl) (by omega)
  change RC w (Enc.enc v2) ((cs.drop 2).take (Tryz.prog.cellsOf 89)) at r2
  rw [Q0k] at r2
  have hcs:cs.take 10=cs:=List.take_of_length_le (by rw [hl];exact Nat.le_of_eq cells_148)
  have hR:=((((((RC.nil).snoc (k:=1) r0 rfl)).snoc (k:=1) r1 rfl)).snoc (k:=8) r2 rfl)
  refine ⟨⟨v0,v1,v2⟩,by rw [← hcs];exact hR,Nat.le_trans ?_ hb'⟩
  show bsz ⟨v0,v1,v2⟩≤_
  unfold bsz
  dsimp only at m0 m1 m2 ⊢
  omega
theorem Q4r:∀ N,QD enc Tryz.prog w N 89 Tr Tr.size∧QD enc Tryz.prog w N 148 Qdl bsz
 | 0=>⟨fun fuel cs x _ hb=>by have:=Gm x.1;omega,fun fuel cs x _ hb=>by have:=Gm x.1;omega⟩
 | N+1=>⟨z_tr (Q4r N).2,z_br (Q4r N).1⟩
theorem z_fn:QD enc Tryz.prog w (N+1) 91 Fn fsz:=by
 intro fuel cs x h hb
 obtain ⟨xs,n,_,rfl,hl,hlen,hf⟩:=DataW.trod_struct Tryz.underlying91 h
 match xs,hlen with
 | [y0,y1,y2,y3],_ =>
  have hb':Rows.uptoBulk y0.1+Rows.uptoBulk y1.1+Rows.uptoBulk y2.1+Rows.uptoBulk y3.1+1≤Rows.uptoBulk (DataW.agg (H:=H) [y0.1,y1.1,y2.1,y3.1]):=by simp only [Rows.uptoBulk,Rows.uptoBulkAll];omega
  have hb2:Rows.uptoBulk (DataW.agg (H:=H) [y0.1,y1.1,y2.1,y3.1])≤N+1:=hb
  obtain ⟨v0,r0,m0⟩:=(Q3o Tryz.underlying9:QD enc Tryz.prog w N _ _ _) n _ _ (hf 0 _ rfl) (by omega)
  change RC w (Enc.enc v0) ((cs.drop 0).take (Tryz.prog.cellsOf 9)) at r0
  rw [U9] at r0
  obtain ⟨v1,r1,m1⟩:=(Dx:QD enc Tryz.prog w N _ _ _) n _ _ (hf 1 _ rfl) (by omega)
  change RC w (Enc.enc v1) ((cs.drop 1).take (Tryz.prog.cellsOf 25)) at r1
  rw [KA] at r1
  obtain ⟨v2,r2,m2⟩:=(X9 Tryz.underlying3:QD enc Tryz.prog w N _ _ _) n _ _ (hf 2 _ rfl) (by omega)
  change RC w (Enc.enc v2) ((cs.drop 6).take (Tryz.prog.cellsOf 3)) at r2
  rw [Z1] at r2
  obtain ⟨v3,r3,Qcp⟩:=(Q4r N).1 n _ _ (hf 3 _ rfl) (by omega)
  change RC w (Enc.enc v3) ((cs.drop 7).take (Tryz.prog.cellsOf 89)) at r3
  rw [Q0k] at r3
  have hcs:cs.take 15=cs:=List.take_of_length_le (by rw [hl];exact Nat.le_of_eq cells_91)
  have hR:=((((((((RC.nil).snoc (k:=1) r0 rfl)).snoc (k:=5) r1 rfl)).snoc (k:=1) r2 rfl)).snoc (k:=8) r3 rfl)
  refine ⟨⟨v0,v1,v2,v3⟩,by rw [← hcs];exact hR,Nat.le_trans ?_ hb'⟩
  show fsz ⟨v0,v1,v2,v3⟩≤_
  unfold fsz
  dsimp only at m0 m1 m2 Qcp ⊢
  omega
theorem z_fn':QD enc Tryz.prog w N 91 Fn fsz:=UT (fun _ _=>z_fn) N
theorem z_dcl:QD enc Tryz.prog w (N+1) 48 Dcl Dcl.size:=by
 intro fuel cs x h hb
 obtain ⟨xs,n,_,rfl,hl,hlen,hf⟩:=DataW.trod_struct Tryz.underlying48 h
 match xs,hlen with
 | [y0,y1,y2,y3,y4,y5,y6,y7,y8],_ =>
  have hb':Rows.uptoBulk y0.1+Rows.uptoBulk y1.1+Rows.uptoBulk y2.1+Rows.uptoBulk y3.1+Rows.uptoBulk y4.1+Rows.uptoBulk y5.1+Rows.uptoBulk y6.1+Rows.uptoBulk y7.1+Rows.uptoBulk y8.1+1≤Rows.uptoBulk (DataW.agg (H:=H) [y0.1,y1.1,y2.1,y3.1,y4.1,y5.1,y6.1,y7.1,y8.1]):=by simp only [Rows.uptoBulk,Rows.uptoBulkAll];omega
  have hb2:Rows.uptoBulk (DataW.agg (H:=H) [y0.1,y1.1,y2.1,y3.1,y4.1,y5.1,y6.1,y7.1,y8.1])≤N+1:=hb
  obtain ⟨v0,r0,m0⟩:=(X9 Tryz.underlying3:QD enc Tryz.prog w N _ _ _) n _ _ (hf 0 _ rfl) (by omega)
  change RC w (Enc.enc v0) ((cs.drop 0).take (Tryz.prog.cellsOf 3)) at r0
  rw [Z1] at r0
  obtain ⟨v1,r1,m1⟩:=(Q3o Tryz.underlying9:QD enc Tryz.prog w N _ _ _) n _ _ (hf 1 _ rfl) (by omega)
  change RC w (Enc.enc v1) ((cs.drop 1).take (Tryz.prog.cellsOf 9)) at r1
  rw [U9] at r1
  obtain ⟨v2,r2,m2⟩:=(X9 Tryz.underlying3:QD enc Tryz.prog w N _ _ _) n _ _ (hf 2 _ rfl) (by omega)
  change RC w (Enc.enc v2) ((cs.drop 2).take (Tryz.prog.cellsOf 3)) at r2
  rw [Z1] at r2
  obtain ⟨v3,r3,Qcp⟩:=(Dx:QD enc Tryz.prog w N _ _ _) n _ _ (hf 3 _ rfl) (by omega)
  change RC w (Enc.enc v3) ((cs.drop 3).take (Tryz.prog.cellsOf 25)) at r3
  rw [KA] at r3
  obtain ⟨v4,r4,m4⟩:=(Dx:QD enc Tryz.prog w N _ _ _) n _ _ (hf 4 _ rfl) (by omega)
  change RC w (Enc.enc v4) ((cs.drop 8).take (Tryz.prog.cellsOf 25)) at r4
  rw [KA] at r4
  obtain ⟨v5,r5,m5⟩:=(X9 Tryz.underlying3:QD enc Tryz.prog w N _ _ _) n _ _ (hf 5 _ rfl) (by omega)
  change RC w (Enc.enc v5) ((cs.drop 13).take (Tryz.prog.cellsOf 3)) at r5
  rw [Z1] at r5
  obtain ⟨v6,r6,m6⟩:=(Gu Tryz.underlying43 (by kernel_rfl) z_ctr':QD enc Tryz.prog w N _ _ _) n _ _ (hf 6 _ rfl) (by omega)
  change RC w (Enc.enc v6) ((cs.drop 14).take (Tryz.prog.cellsOf 43)) at r6
  rw [cells_43] at r6
  obtain ⟨v7,r7,m7⟩:=(z_rcr':QD enc Tryz.prog w N _ _ _) n _ _ (hf 7 _ rfl) (by omega)
  change RC w (Enc.enc v7) ((cs.drop 15).take (Tryz.prog.cellsOf 45)) at r7
  rw [cells_45] at r7
  obtain ⟨v8,r8,Qco⟩:=(Gu Tryz.underlying46 (by kernel_rfl) z_fn':QD enc Tryz.prog w N _ _ _) n _ _ (hf 8 _ rfl) (by omega)
  change RC w (Enc.enc v8) ((cs.drop 22).take (Tryz.prog.cellsOf 46)) at r8
  rw [cells_46] at r8
  have hcs:cs.take 23=cs:=List.take_of_length_le (by rw [hl];exact Nat.le_of_eq cells_48)
  have hR:=((((((((((((((((((RC.nil).snoc (k:=1) r0 rfl)).snoc (k:=1) r1 rfl)).snoc (k:=1) r2 rfl)).snoc (k:=5) r3 rfl)).snoc (k:=5) r4 rfl)).snoc (k:=1) r5 rfl)).snoc (k:=1) r6 rfl)).snoc (k:=7) r7 rfl)).snoc (k:=1) r8 rfl)
  refine ⟨⟨v0,v1,v2,v3,v4,v5,v6,v7,v8⟩,by rw [← hcs];exact hR,Nat.le_trans ?_ hb'⟩
  show Dcl.size ⟨v0,v1,v2,v3,v4,v5,v6,v7,v8⟩≤_
  unfold Dcl.size
  dsimp only at m0 m1 m2 Qcp m4 m5 m6 m7 Qco ⊢
  omega
theorem z_dcl':QD enc Tryz.prog w N 48 Dcl Dcl.size:=UT (fun _ _=>z_dcl) N
end
end
section
open Go.ChangeShapes Go.WideShapes Go.ChangeAt Go.RowKit Go.WideElems
theorem own:ownKnob Tryz.prog.godebug=none:=by kernel_rfl
theorem laidOut:laidOutB Tryz.prog=true:=by kernel_rfl
theorem stc_readsZ {H:Type} {enc:TypeId×Value→H} {α:Type} [Enc α] {μ:α→Nat} {t:TypeId} {fs:Array Field} (ht:Tryz.prog.underlying t=some (.struct fs)) (ho:∀ W N,QD enc Tryz.prog W N t α μ) {W:World} {base:Nat} {v:Value} {d:DataW H} {p:List MemPlace}
  (hval:Value.okWide Tryz.prog W .any base t v) (h:DataW.Trod enc Tryz.prog W 0 (fun _=>true) true t v d p):∃ L:α,(AV.agg (Qd1 L)).rel (Yh (Q4n W)) W v∧μ L≤Rows.uptoBulk d:=by
 obtain ⟨fuel,hf⟩:=h
 obtain ⟨L,hl,hμ⟩:=ho W (Rows.uptoBulk d) _ _ _ hf (Nat.le_refl _)
 obtain ⟨cs,rfl,-⟩:=okWide_struct ht hval
 have hc:(Value.agg cs).cells=cs:=rfl
 rw [hc] at hl
 refine ⟨L,⟨cs,Z,?_,fun i x hx=>?_⟩,hμ⟩
 ·have:=hl.1
  rw [Array.length_toList] at this
  rw [this,List.length_map]
 ·rw [List.getElem?_map] at hx
  cases hy:(Enc.enc L)[i]? with
  | none=>rw [hy] at hx;cases hx
  | some c =>
   rw [hy] at hx
   cases hx
   obtain ⟨u,hu,hr⟩:=hl.2 i c hy
   exact ⟨u,by simpa using hu,hr⟩
theorem tabs_laid {W : World} {laid : List (String × DataW Unit)} {x0 x1 : String × DataW Unit} {r : List (String × DataW Unit)} (e : laid = x0 :: x1 :: ("internal/strconv.uint64pow10", Rows.laid_internal_strconv_uint64pow10) :: r) (hp : (laid.all fun x => x.2.handleName?.isNone) = true) (h : laidMetH Tryz.prog laid W) : Tabs Tryz.prog (Q4n W) W := by
 rw [MakeChecks.laidMetH_plain _ _ _ hp] at h
 subst e
 obtain ⟨ps,hv,-,-⟩:=h
 obtain ⟨_,_,_,_,_,q1,_,_,_,_,hv1,_⟩:=hv
 obtain ⟨_,_,_,_,_,q2,_,_,_,_,hv2,_⟩:=hv1
 obtain ⟨g',t',cs,fuel,p,q,hg',ht',hvar,hd,_,_⟩:=hv2
 have hg : Tryz.prog.globalNamed "internal/strconv.uint64pow10" = some 0 := by kernel_rfl
 obtain rfl:=Option.some.inj (hg.symm.trans hg')
 obtain rfl:=Option.some.inj ((show (Tryz.prog.globals[0]?).map (·.type)=some 230 by kernel_rfl).symm.trans ht')
 have e:cs.toList=Lib.pow10Tab.map fun z=>Value.int .u64 z :=
  Lib.cells_of_tab (t:=230) (e:=195) (n:=20) (by kernel_rfl) (by kernel_rfl) (by kernel_rfl) (by kernel_rfl) hd
 have hT : Lib.TabIs Tryz.prog W "internal/strconv.uint64pow10" .u64 Lib.pow10Tab := by
  unfold Lib.TabIs
  rw [hvar,← e]
 refine Tabs.of hg (fun o=>?_) hT
 show 0 < W.heap.size
 unfold World.var? at hvar
 rw [hg] at hvar
 simp only [Option.bind_some] at hvar
 split at hvar
 ·rename_i hh;exact (Array.getElem?_eq_some_iff.1 hh).1
 ·cases hvar
theorem witness_laid {H:Type} {enc:TypeId×Value→H} {C:Checked} {os:Os} {f:FuncId} {fn:Func} {s:OpenSpec} {conds:List PathCond} {apart:Bool} {laid:List (String×DataW Unit)} (modest:Bool) (w0:World) (args:Array Value) (hos:w0.os=os)
  (hsh:(w0.forCall (fun _ _=>0) ⟨#[],args,[]⟩).Shaped C.prog)
  (hok:Input.okWideB C.prog (w0.forCall (fun _ _=>0) ⟨#[],args,[]⟩) f ⟨#[],args,[]⟩=true)
  (hrow:s.preRow enc C.prog fn conds apart laid (w0.forCall (fun _ _=>0) ⟨#[],args,[]⟩).memory args) :
  ∃ (w:World) (tape:Tape) (i:Input),w.os=os∧(w.forCall tape i).Shaped C.prog∧i.vars=[]∧Input.okWide C.prog (w.forCall tape i) .any w.heap.size f i ∧
   s.preRow enc C.prog fn conds apart laid (w.forCall tape i).memory i.args∧({ modest:=modest }:Assume).holds C.prog (lone (Frame.enter C.prog f i.args .normal) [] (w.forCall tape i)) :=
 ⟨w0,fun _ _=>0,⟨#[],args,[]⟩,hos,hsh,(Input.okWide_of_okWideB (base:=0) hok).1,(Input.okWide_of_okWideB hok).2,hrow,by
  simp only [Assume.holds]
  exact ⟨by simp,by simp,fun _=>Modest.zero,by simp,by simp⟩⟩
end
section
open Go.ChangeShapes Go.WideShapes Go.ChangeAt Go.RowKit Go.WideElems
theorem law8 {W:World} (hT:Tabs Tryz.prog (Q4n W) W) (a0:Dcl) (hs0:a0.size≤2000000) {v0:Value} (hv0:(AV.agg (Qd1 a0)).rel (Yh (Q4n W)) W v0):Calls Tryz.prog 8 #[v0] W fun e W'=>e=.returned (.bool true)∧Below W.heap.size W W':=by
 have hF:FunW W0 Tryz.prog 8 [.agg (Qd1 a0)] (Qw [.one (Qd0 true)]):=Eq.mp (show FunW W0 Tryz.prog 8 (QG DV k8.args a0) (Qw (QG DV k8.res true))=_ from by kernel_rfl) (k8_ok.2 a0 true (m8_true a0 hs0))
 refine Calls.mono (hF.2 (Q4n W) W #[v0] (fun b o h=>h) hT ⟨Z,fun i y hy=>?_⟩) ?_
 ·match i,hy with
  | 0,hy=>cases hy;exact ⟨_,rfl,hv0⟩
 ·rintro e W' ⟨u,S',rfl,hx,-,-,hu⟩
  have e1:u=.bool true:=by cases hu;rfl
  rw [e1]
  exact ⟨Z,hx.os,hx.tape,hx.output,hx.size,fun k hk=>hx.block k hk (fun h=>h)⟩
theorem contract (H:Type) (enc:TypeId×Value→H) (W:World) (base:Nat) (args:Array Value) (ds gs:List (DataW H)) (before:List MemPlace) (hk:Rows.uptoSmall H (ds++gs)=true)
  (hval0:∀ (j:Nat) t v,Tryz.f8.params[j]?=some t→args[j]?=some v→Value.okWide Tryz.prog W .any base t v)
  (hW:DataW.Whole enc Tryz.prog Tryz.f8.params.toList Rows.textDeclsSpec.vars false W args.toList ds gs before) (hL:laidMetH Tryz.prog Rows.textDeclsUptoRow.laid W) :
  Calls Tryz.prog 8 args W fun e W'=>∃ v,e=.returned v∧Rows.textDeclsSpec.post enc Tryz.prog Tryz.f8 false true false false W args v W':=by
 have hval:∀ (j:Nat) t v,Tryz.f8.params[j]?=some t→args[j]?=some v→Value.okWide Tryz.prog W .any base t v:=hval0
 have hW':=hW
 obtain ⟨p,q,hA0,hV,rfl,hfz,hnd⟩:=hW
 have hA:DataW.TrodAll enc Tryz.prog W 0 (fun _=>true) true Tryz.f8.params.toList args.toList ds p:=hA0
 rw [Tryz.params8] at hA hval
 obtain ⟨v0,d0,rfl,rfl,h0⟩:=trodAll_one hA
 obtain ⟨rfl,rfl⟩:=trodVars_none hV
 have h0k:=h0
 obtain ⟨a0,hv0,hz0⟩:=stc_readsZ Tryz.underlying48 (fun W N=>z_dcl' (w:=W) (N:=N)) (hval 0 48 v0 rfl rfl) h0
 have hbk:Rows.uptoBulkAll ([d0]++([]:List (DataW H)))≤1048576:=of_decide_eq_true hk
 simp only [List.append_nil,Rows.uptoBulkAll] at hbk
 clear hA0 hval0
 simp only [List.append_nil] at hW'
 have hlt:∀ x∈p,x.block < W.heap.size:=fun x hx=>by simpa using hW'.lt x hx
 refine (law8 (tabs_laid rfl (by kernel_rfl) hL) a0 (by omega) hv0).mono fun e W' ⟨he,hb⟩=>?_
 subst he
 have hargs:∀ sp:Nat→Bool,(∀ x∈p,sp x.block=true)→DataW.TrodAll enc Tryz.prog W' 0 sp true [48] [v0] [d0] p:=fun sp hsp =>
  trodAll_mk1 (WideElems.Trod_stays laidOut (by kernel_rfl) (of_decide_eq_true (by kernel_rfl)) h0k (fun x hx=>hb.same (hlt x hx)) (fun x hx=>hsp x hx))
 exact ⟨_,rfl,_,_,_,[],p,[],hW',trodAll_mk1 (shut_bool Tryz.underlying4 true),hargs _ (fun x hx=>by simpa using hlt x hx),rfl,hb.frame _,fun h=>by cases h⟩
theorem lifted (os:Os) (started:os.Started) (H:Type) (enc:TypeId×Value→H) (F:Stop.Interp) :
  ReturnsInHanded {} Tryz.checked os 8 .any ((Rows.OpenSpec.upto Rows.textDeclsSpec).preRow enc Tryz.prog Tryz.f8 Rows.textDeclsUptoRow.domain false Rows.textDeclsUptoRow.laid) (((Rows.OpenSpec.upto Rows.textDeclsSpec).at F).post enc Tryz.prog Tryz.f8 false true false false):=by
 refine returnsInHanded_of_row (C:=Tryz.checked) (s:=Rows.OpenSpec.upto Rows.textDeclsSpec) own started (by kernel_rfl) Tryz.func8
  (witness_laid (enc:=enc) (C:=Tryz.checked) (os:=os) false (World.laidAll Tryz.prog os Rows.textDeclsUptoRow.laid) #[.agg #[.int .i64 0,.string ByteArray.empty,.int .i64 0,.int .i64 0,.int .i64 0,.string ByteArray.empty,.slice none 0 0,.slice none 0 0,.int .i64 0,.int .i64 0,.string ByteArray.empty,.slice none 0 0,.slice none 0 0,.int .i64 0,.slice none 0 0,.int .i64 0,.int .i64 0,.int .i64 0,.string ByteArray.empty,.slice none 0 0,.slice none 0 0,.slice none 0 0,.slice none 0 0]] (World.laidAll_os _ _ _)
   (World.shaped_of_ZipB (by kernel_rfl) (by kernel_rfl)) (by kernel_rfl)
   (OpenSpec.preRow_of_cond 8 (x:=([.agg [.lit (.int .i64 0),.lit (.string []),.lit (.int .i64 0),.agg [.lit (.int .i64 0),.lit (.int .i64 0),.lit (.string []),.nil,.nil],.agg [.lit (.int .i64 0),.lit (.int .i64 0),.lit (.string []),.nil,.nil],.lit (.int .i64 0),.nil,.agg [.lit (.int .i64 0),.agg [.lit (.int .i64 0),.lit (.int .i64 0),.lit (.string []),.nil,.nil],.nil],.nil]],[],[])) (by kernel_rfl) (by kernel_rfl) (fun k hk=>by cases hk;kernel_rfl) (by kernel_rfl)
    (by rw [MakeChecks.laidMetH_plain _ _ _ (by kernel_rfl)];exact laidMet_laidAll _ (by kernel_rfl) (by kernel_rfl)))) ?_
 intro W base args ds gs before hval hW _ hk _ hL _ _
 exact contract H enc W base args ds gs before (hk _ Z) hval hW hL
theorem over:Rows.textDeclsUptoRow.holds Tryz.pinned (Rows.OpenSpec.upto Rows.textDeclsSpec) :=
 OpenClaim.holds_of_cond 8 Tryz.f8 rfl rfl rfl rfl rfl rfl rfl ⟨rfl,rfl,rfl,rfl,rfl⟩ rfl rfl rfl rfl rfl (by kernel_rfl) Tryz.func8 (by kernel_rfl)
  (of_decide_eq_true (by kernel_rfl)) (by unfold Func.isWrapper;first | (rw [if_pos (by decide +kernel)];kernel_rfl) | (rw [if_neg (by decide +kernel)];exact ⟨rfl,rfl⟩))
  (fun os started H enc _ F=>by rw [OpenClaim.pre_eq_preRow];exact lifted os started H enc F)
theorem textDeclsUptoCard:Rows.TextDeclsUptoCardSaid :=
 Claim7.holds_tied_plain_at .later [] _ _ _ _ over (fun _ h=>by cases h) (by kernel_rfl) (fun _ h=>by cases h) textDeclsUpto_row_tie rfl ⟨rfl,rfl⟩ (by kernel_rfl) rfl
  (fun f fn hf hfn=>by
   obtain rfl : f = 8 := Option.some.inj ((show Tryz.prog.funcNamed "euclid/euclidlaw06.TextDecls" = some 8 by kernel_rfl).symm.trans hf) |>.symm
   obtain rfl:fn=Tryz.f8:=(Option.some.inj (Tryz.func8.symm.trans hfn)).symm
   exact ⟨by kernel_rfl,fun j t ht=>by
    rw [Tryz.params8] at ht
    have hm:t∈[48]:=by simpa using Array.mem_of_getElem? ht
    have hall:([48].all fun u=>!Tryz.prog.wantsStandIn u)=true:=by kernel_rfl
    exact (show Tryz.prog.wantsStandIn t=false by simpa using List.all_eq_true.1 hall t hm)⟩)
  (by kernel_rfl)
#print axioms textDeclsUptoCard
end
end Go.Proofs.YtjcfppnjamjjhaaGreatDoor
