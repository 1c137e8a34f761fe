/- Part 1 of the proof: rules, mirrors and plain laws. -/
import Derived.Test.YtjcfppnjamjjhaaGreatDoorProg
import Derived.WalkKit
import Derived.WalkSpells
import Derived.WalkLawsBesides
import Derived.ControlIn
import Derived.TacticsIn
import Derived.CallsIn
import Derived.Laws.AppendOwn
import Derived.Deep.LoopGhost
import Derived.Deep.Quiet
import Derived.StillTail
import Derived.RecoverIn
import Derived.RangeFuncIn
import Derived.RangeFuncLeaves
import Derived.KernelRfl
import Derived.RangeFuncRecord
import Derived.OrdersIn
import Derived.Laws.StructEq
import Derived.MapKept
import Derived.Carry
import Derived.Laws.MakeOwn
set_option maxHeartbeats 2000000
set_option maxRecDepth 100000
set_option linter.unusedSimpArgs false
set_option linter.unusedVariables false
set_option linter.unusedSectionVars false
namespace Go.Proofs.YtjcfppnjamjjhaaGreatDoor
set_option linter.defProp false
def C0:=@Option.bind_some
def C1:=@List.length_cons
def C2:=@Bool.and_eq_true_iff
def C3:=@decide_eq_false
def C4:=@decide_eq_true
def C5:=@cond_true
def C6:=@cond_false
def C7:=@Nat.ble_eq_true_of_le
def C8:=@List.length_append
def C9:=@Nat.le_of_ble_eq_true
def Ca:=@if_neg
def Cb:=@List.length_nil
def Cc:=@Nat.eq_of_beq_eq_true
def Cd:=@Nat.zero_le
def Ce:=@List.getElem?_eq_some_iff
def Cf:=@if_pos
def Cg:=@Nat.le_trans
def Ch:=@List.all_eq_true
def Ci:=@Nat.lt_of_lt_of_le
def Cj:=@List.mem_cons_self
def Ck:=@List.mem_cons_of_mem
def Cl:=@Nat.le_refl
def Cm:=@List.getElem?_eq_getElem
def Cn:=@List.getElem?_map
def Co:=@List.length_map
def Cp:=@Bool.false_ne_true
def Cq:=@List.length_drop
def Cr:=@List.mem_of_getElem?
def Cs:=@List.mem_cons
def Ct:=@List.map_append
def Cu:=@Int.toNat_natCast
def Cv:=@Nat.lt_succ_self
def Cw:=@Option.some.inj
def Cx:=@List.mem_map
def Cy:=@List.map_congr_left
def Cz:=@List.eq_nil_of_length_eq_zero
def CB:=@List.append_assoc
def CC:=@List.append_nil
def CD:=@Bool.and_eq_true
def CE:=@List.filter_cons
def CF:=@of_decide_eq_true
def CG:=@List.getElem?_append_left
def CH:=@List.length_take
def CI:=@List.mem_singleton
def CJ:=@List.map_cons
def CK:=@List.takeWhile_append_dropWhile
def CL:=@List.map_map
def CM:=@List.pairwise_cons
def CN:=@Bool.or_eq_true_iff
def CP:=@Array.getElem?_eq_some_iff
def CQ:=@List.getElem?_append_right
def CR:=@List.mem_append
def CS:=@List.getElem?_drop
def CT:=@Option.isSome_none
def CU:=@List.any_eq_true
def CX:=@List.nodup_cons
def CY:=@Bool.not_false
def CZ:=@decide_eq_true_eq
def P0:=@Array.getElem?_eq_none
def P1:=@List.drop_eq_nil_of_le
def P2:=@Nat.lt_or_ge
def P3:=@beq_iff_eq
def P4:=@Bool.false_eq_true
def P5:=@Option.isSome_some
def P6:=@List.takeWhile_cons
def P7:=@Array.getElem?_eq_getElem
def P8:=@Array.getD_eq_getD_getElem?
def P9:=@Array.getElem?_append_left
def Pa:=@List.drop_eq_getElem_cons
def Pb:=@List.getElem?_eq_none_iff
def Pc:=@Nat.le_of_eq
def Pd:=@Nat.zero_add
def Pe:=@List.getElem?_take
def Pf:=@Bool.not_true
def Pg:=@List.mem_flatMap
def Ph:=@List.mem_filterMap
def Pi:=@Int.natCast_nonneg
def Pj:=@List.nil_append
def Pk:=@Nat.add_zero
def Pl:=@Int.toNat_of_nonneg
def Pm:=@beq_eq_false_iff_ne
def Pn:=@List.getElem?_eq_none
def Po:=@List.sizeOf_lt_of_mem
def Pp:=@List.drop_zero
def Pq:=@Nat.mul_le_mul_right
def Pr:=@List.isEmpty_iff
def Ps:=@List.sum_cons
def Pt:=@List.any_eq_false
def Pu:=@Nat.succ_pos
def Pv:=@Array.length_toList
def Pw:=@List.filterMap_cons
def Px:=@List.length_reverse
def Py:=@Array.getElem?_modify
def Pz:=@Array.getElem?_toList
def PA:=@Option.getD_some
def PB:=@Nat.add_assoc
def PD:=@Nat.sub_self
def PE:=@List.cons.inj
def PH:=@List.getElem?_of_mem
def PI:=@Int.eq_ofNat_of_zero_le
def PJ:=@Bool.or_eq_true
def PL:=@Option.map_none
def PM:=@List.take_of_length_le
def PN:=@List.cons_append
def PO:=@Array.ext_getElem?
def PP:=@List.exists_cons_of_ne_nil
def PQ:=@List.length_filter_le
def PR:=@Go.MapKept.run_getObj_map
def PS:=@List.foldl_cons
def PT:=@List.mem_filter
def PU:=@UInt8.toNat_inj
def PV:=@List.flatten_cons
def PW:=@Bool.not_eq_true'
def PX:=@List.reverse_cons
def PY:=@List.getElem?_take_of_lt
def PZ:=@List.dropWhile_cons
def S0:=@Nat.le_max_right
def S2:=@Nat.add_sub_cancel_left
def S3:=@List.drop_append_of_le_length
def S4:=@of_decide_eq_false
def S5:=@Go.MapKept.run_findKey
def S6:=@Array.getElem?_setIfInBounds
def S7:=@List.length_set
def S8:=@List.map_drop
def S9:=@List.map_take
def Sa:=@List.contains_iff_mem
def Sb:=@List.getElem?_set
def Sc:=@List.take_add_one
def Sd:=@List.getD_eq_getElem?_getD
def Se:=@Nat.le_of_not_lt
def Sf:=@List.range'_zero
def Sg:=@List.flatMap_map
def Sh:=@List.length_pos_iff
def Si:=@Option.map_some
def Sj:=@List.filter_nil
def Sk:=@Array.ext'
def Sl:=@List.nodup_nil
def Sm:=@List.ext_getElem?
def Sn:=@List.drop_of_length_le
def So:=@List.take_append_drop
def Sp:=@List.mem_iff_getElem?
def Sq:=@List.contains_eq_mem
def Sr:=@List.getElem?_modify
def Ss:=@Nat.not_lt_zero
def Su:=@List.find?_cons
def Sv:=@List.attach_map_val
def Sw:=@Nat.succ_mul
def Sx:=@Nat.sub_zero
def Sy:=@Array.foldl_toList
def Sz:=@Nat.eq_zero_or_pos
def SA:=@Nat.not_le
def SB:=@Nat.one_lt_two
def SC:=@Nat.add_mul
def SD:=@List.nodup_append
def SE:=@Nat.mul_one
def SF:=@Nat.le_succ_of_le
def SG:=@Nat.two_pos
def SH:=@List.pairwise_map
def SJ:=@Nat.mul_comm
def SK:=@bne_iff_ne
def SL:=@Nat.lt_trans
theorem _root_.Ly{α:Type _}{o:Option α}{x y:α}(h:o=some x)(e:x=y):o=some y:=e▸h
open Go.Proofs.Tryz
noncomputable section
section
theorem Z.{u}{α:Sort u}{a:α}:a=a:=rfl
section
open Go.RowKit
inductive C where
 |v (x:Value)
 |sl (sz:Nat) (es:List (List C))
inductive Reads(S:Nat->Nat->Prop)(w:World):C->Value->Prop where
 |v (x:Value) (h:x.oneCell'=true):Reads S w (.v x) x
 |sl (sz:Nat) (es:List (List C)) (a:Option Addr) (cap b off:Nat) (f:Nat->Nat->Value)
   (hcap:es.length<=cap)
   (ha:es≠[]->a=some ⟨b,off,none⟩)
   (hl:∀(i:Nat)(e:List C),es[i]?=some e->e.length=sz)
   (hc:∀(i:Nat)(e:List C)(j:Nat)(c:C),es[i]?=some e->e[j]?=some c->w.cell? ⟨b,off+i*sz+j,none⟩=some (f i j))
   (hs:∀(i:Nat)(e:List C)(j:Nat)(c:C),es[i]?=some e->e[j]?=some c->S b (off+i*sz+j))
   (hr:∀(i:Nat)(e:List C)(j:Nat)(c:C),es[i]?=some e->e[j]?=some c->Reads S w c (f i j)) :
   Reads S w (.sl sz es) (.slice a es.length cap)
theorem Reads.keep{S S':Nat->Nat->Prop}{w w':World}(hS:∀b o,S b o->(w.cell? ⟨b,o,none⟩).isSome=true->S' b o)(hw:∀b o,S b o->(w.cell? ⟨b,o,none⟩).isSome=true->w'.cell? ⟨b,o,none⟩=w.cell? ⟨b,o,none⟩){c:C}{v:Value}(h:Reads S w c v):Reads S' w' c v:=by induction h with|v x h=>exact .v x h|sl sz es a cap b off f hcap ha hl hc hs hr ih=>exact .sl sz es a cap b off f hcap ha hl (λi e j c h1 h2=>(hw _ _ (hs i e j c h1 h2) (by rw[hc i e j c h1 h2];rfl)).trans (hc i e j c h1 h2)) (λi e j c h1 h2=>hS _ _ (hs i e j c h1 h2) (by rw[hc i e j c h1 h2];rfl)) ih
theorem Reads.mono{S S':Nat->Nat->Prop}{w w':World}(hS:∀b o,S b o->S' b o)(hw:∀b o,S b o->w'.cell? ⟨b,o,none⟩=w.cell? ⟨b,o,none⟩){c:C}{v:Value}(h:Reads S w c v):Reads S' w' c v:=h.keep (λb o k _=>hS b o k) (λb o k _=>hw b o k)
theorem Reads.one{S:Nat->Nat->Prop}{w:World}{c:C}{v:Value}(h:Reads S w c v):v.oneCell'=true:=by cases h with|v x h=>exact h|sl=>rfl
def VF(f:FuncId):Prop:=(prog.funcs[f]?).isSome=true
theorem Q2p{P:Program}{f:FuncId}{fn:Func}(hP:P=prog)(hf:P.funcs[f]?=some fn):VF f:=by subst hP;unfold VF;rw[hf];rfl
def DO(F:Fence)(n:Nat)(P:Program)(c:Code)(Q:Exit->Act->World->Prop)(a:Act)(w:World):Prop:=∀(b:Frame)(k:List Item)(cs:List Frame),b.roundOf=F.round->F.fn b.fn->VF b.fn->F.room (cs.length+1+n) -> ∃e a' w',Q e a' w'/\ArrivesIn (Machine.fenced P F) P (lone (b.atR a (.code c::k)) cs w) b k cs e a' w'
section
variable{F:Fence}{n:Nat}{P:Program}{Q:Exit->Act->World->Prop}{a:Act}{w:World}
theorem Gj{c:Code}(h:c.wpIn F n P Q a w):DO F n P c Q a w:=λb k cs hro hb _ hr=>h b k cs hro hb hr
theorem WG{c:Code}{Q':Exit->Act->World->Prop}(h:DO F n P c Q a w)(hq:∀e a w,Q e a w->Q' e a w):DO F n P c Q' a w:=λb k cs hro hb hv hr=>let⟨e,a',w',q,r⟩:=h b k cs hro hb hv hr;⟨e,a',w',hq _ _ _ q,r⟩
theorem Qvq{x y:Code}(h:DO F n P x (Exit.then (DO F n P y Q) Q) a w):DO F n P (.seq x y) Q a w:=by intro b k cs hro hb hv hr;have h0:(lone (b.atR a (.code (.seq x y)::k)) cs w).fenced P F:=fenced_calm hb hr rfl;obtain⟨e,a₁,w₁,hq,harr⟩:=h b (.code y::k) cs hro hb hv hr;cases e with|normal=>(obtain⟨e₂,a₂,w₂,hq₂,harr₂⟩:=hq b k cs hro hb hv hr;exact⟨e₂,a₂,w₂,hq₂,.of_steps (.head h0 stepR_seq harr) harr₂⟩)|exit id=>exact⟨_,a₁,w₁,hq,.of_steps (.one h0 stepR_seq) (.pass (x:=.code y) rfl (λ_ _=>.inl (by simp)) harr)⟩|goto l=>exact⟨_,a₁,w₁,hq,.of_steps (.one h0 stepR_seq) (.pass (x:=.code y) rfl (λ_ _=>.inl (by simp)) harr)⟩|ret=>exact⟨_,a₁,w₁,hq,.of_steps (.one h0 stepR_seq) (.pass (x:=.code y) rfl (λ_ _=>.inl (by simp)) harr)⟩|panic ch=>exact⟨_,a₁,w₁,hq,.of_steps (.one h0 stepR_seq) (.pass (x:=.code y) rfl (λ_ _=>.inl (by simp)) harr)⟩|outgrown=>exact⟨_,a₁,w₁,hq,.of_steps (.one h0 stepR_seq) (.pass (x:=.code y) rfl (λ_ _=>.inl (by simp)) harr)⟩
theorem Qdi{c:Operand}{x y:Code}{t:Bool}(hc:a.eval c=.bool t)(h:DO F n P (if t then x else y) Q a w):DO F n P (.cond c x y) Q a w:=λb k cs hro hb hv hr=>let⟨e,a',w',q,r⟩:=h b k cs hro hb hv hr;⟨e,a',w',q,.of_steps (.one (fenced_calm hb hr rfl) (stepR_cond hc)) r⟩
theorem Q4v{c:Operand}{x y:Code}{t:Bool}(hc:a.eval c=.bool t)(ht:t=true->DO F n P x Q a w)(hf:t=false->DO F n P y Q a w):DO F n P (.cond c x y) Q a w:=by cases t;exact Qdi hc (hf rfl);exact Qdi hc (ht rfl)
theorem Qnp{id:Nat}{c:Code}(h:DO F n P c (Exit.inBlock id Q) a w):DO F n P (.block id c) Q a w:=by intro b k cs hro hb hv hr;have h0:(lone (b.atR a (.code (.block id c)::k)) cs w).fenced P F:=fenced_calm hb hr rfl;obtain⟨e,a₁,w₁,hq,harr⟩:=h b (.inBlock id::k) cs hro hb hv hr;cases e with|normal=>exact⟨.normal,a₁,w₁,hq,.head h0 stepR_block (StepsIn.trans harr (.one (fenced_calm hb hr rfl) stepR_inBlock))⟩|exit id'=>by_cases hid:id'=id;simp only[Exit.inBlock,hid,if_true]at hq;exact⟨.normal,a₁,w₁,hq,.head h0 stepR_block (harr.1 k (by simp[exitTo,hid]))⟩;simp only[Exit.inBlock,hid,if_false]at hq;(have this:(id==id')=false:=by simp;exact λh=>hid h.symm);(have hx:exitTo id' (.inBlock id::k)=exitTo id' k:=by simp[exitTo,this]);exact⟨.exit id',a₁,w₁,hq,λk' hk=>.head h0 stepR_block (harr.1 k' (by rw[hx];exact hk)),λhr' hk=>let⟨k₁,h1,h2⟩:=harr.2 hr' (by rw[hx];exact hk);⟨k₁,h1,.head h0 stepR_block h2⟩⟩|goto l=>(have hx:gotoIn l (.inBlock id::k)=gotoIn l k:=by simp[gotoIn]);exact⟨_,a₁,w₁,hq,λk' hk=>.head h0 stepR_block (harr.1 k' (by rw[hx];exact hk)),λhr' hk=>let⟨k₁,h1,h2⟩:=harr.2 hr' (by rw[hx];exact hk);⟨k₁,h1,.head h0 stepR_block h2⟩⟩|ret=>exact⟨_,a₁,w₁,hq,.of_steps (.one h0 stepR_block) harr⟩|panic ch=>exact⟨_,a₁,w₁,hq,.of_steps (.one h0 stepR_block) harr⟩|outgrown=>exact⟨_,a₁,w₁,hq,.of_steps (.one h0 stepR_block) harr⟩
theorem Qqj{c:Code}(I:Act->World->Prop)(μ:Act->World->Nat)(h₀:I a w)(round:∀a w,I a w->DO F n P c (Exit.then (λa' w'=>I a' w'/\μ a' w'<μ a w) Q) a w):DO F n P (.loop c) Q a w:=by
 intro b k cs hro hb hv hr;have key:∀j a w,μ a w=j->I a w->∃e a' w',Q e a' w'/\ArrivesIn (Machine.fenced P F) P (lone (b.atR a (.code c::.inLoop c::k)) cs w) b k cs e a' w':=by intro j;induction j using Nat.strongRecOn with|_ j ih=>intro a w hn hI;obtain⟨e,a₁,w₁,hq,harr⟩:=round a w hI b (.inLoop c::k) cs hro hb hv hr;cases e with|normal=>(obtain⟨hI₁,hlt⟩:=hq;obtain⟨e₂,a₂,w₂,hq₂,harr₂⟩:=ih (μ a₁ w₁) (hn▸hlt) a₁ w₁ rfl hI₁;exact⟨e₂,a₂,w₂,hq₂,.of_steps (StepsIn.trans harr (.one (fenced_calm hb hr Z) stepR_inLoop)) harr₂⟩)|exit id=>exact⟨_,a₁,w₁,hq,.pass (x:=.inLoop c) rfl (λ_ _=>.inl (by simp)) harr⟩|goto l=>exact⟨_,a₁,w₁,hq,.pass (x:=.inLoop c) rfl (λ_ _=>.inl (by simp)) harr⟩|ret=>exact⟨_,a₁,w₁,hq,.pass (x:=.inLoop c) rfl (λ_ _=>.inl (by simp)) harr⟩|panic ch=>exact⟨_,a₁,w₁,hq,.pass (x:=.inLoop c) rfl (λ_ _=>.inl (by simp)) harr⟩|outgrown=>exact⟨_,a₁,w₁,hq,.pass (x:=.inLoop c) rfl (λ_ _=>.inl (by simp)) harr⟩
 obtain⟨e,a',w',hq,harr⟩:=key _ a w rfl h₀;exact⟨e,a',w',hq,.of_steps (.one (fenced_calm hb hr Z) stepR_loop) harr⟩
theorem Qno{c:Code}(h:DO F n P c (λe a w=>match e with
  |.goto _=>False
  |e=>Q e a w) a w):DO F n P (.scope c) Q a w:=by
 intro b k cs hro hb hv hr
 have h0:(lone (b.atR a (.code (.scope c)::k)) cs w).fenced P F:=fenced_calm hb hr rfl
 have s0:step P (lone (b.atR a (.code (.scope c)::k)) cs w)=.next (lone (b.atR a (.code c::.inScope c::k)) cs w):=step_lone_go (by simp[stepG,stepG.exec,Frame.atR])
 have s1:∀a w,step P (lone (b.atR a (.inScope c::k)) cs w)=.next (lone (b.atR a k) cs w):=λa w=>step_lone_go (by simp[stepG,stepG.exec,Frame.atR])
 obtain⟨e,a₁,w₁,hq,harr⟩:=h b (.inScope c::k) cs hro hb hv hr
 cases e with
 |normal=>exact⟨.normal,a₁,w₁,hq,.head h0 s0 (StepsIn.trans harr (.one (fenced_calm hb hr rfl) (s1 _ _)))⟩
 |exit id=>
  have hx:exitTo id (.inScope c::k)=exitTo id k:=by simp[exitTo]
  exact⟨.exit id,a₁,w₁,hq,λk' hk=>.head h0 s0 (harr.1 k' (by rw[hx];exact hk)),
   λhr' hk=>let⟨k₁,h1,h2⟩:=harr.2 hr' (by rw[hx];exact hk);⟨k₁,h1,.head h0 s0 h2⟩⟩
 |goto l=>exact hq.elim
 |ret=>exact⟨_,a₁,w₁,hq,.of_steps (.one h0 s0) harr⟩
 |panic ch=>exact⟨_,a₁,w₁,hq,.of_steps (.one h0 s0) harr⟩
 |outgrown=>exact⟨_,a₁,w₁,hq,.of_steps (.one h0 s0) harr⟩
theorem K3{f:FuncId}{fn:Func}{c:Code}{args:Array Value}{R:Ending->World->Prop}(hv:VF f)(hf:P.funcs[f]?=some fn)(hb:fn.body=some c)(hF:F.fn f)(h:DO F n P c (bodyPostM F n P fn R) {tmps:=args++Array.replicate (fn.ntmps-args.size) undef,defers:=[]} w)(hro:F.round=none:=by rfl):CallsIn F n P f args w R:=by
 refine⟨hF,λcs hr=>?_⟩;let b:Frame:={(default:Frame)with fn:=f,kind:=.normal,roundOf:=none};have henter:Frame.enter P f args .normal = b.atR {tmps:=args++Array.replicate (fn.ntmps-args.size) undef,defers:=[]} [.code c]:=by simp[Frame.enter,Frame.atR,hf,hb,b]
 obtain⟨e,a',w',hq,harr⟩:=h b [] cs hro.symm hF hv hr;rw[<-henter]at harr;cases e with|normal=>(obtain⟨e',w'',fr',hR,hs,hfn,hl⟩:=leaves_stepsInM a'.defers .returning w' {b.atR a' []with mode:=.returning} cs rfl rfl rfl hf rfl hF hr hq;exact⟨e',w'',fr',hR,ComesIn.of_steps (StepsIn.trans harr (.one (fenced_calm (fr:=b.atR a' []) hF hr Z) (stepR_end Z))) hs,hfn,hl⟩)|ret=>(obtain⟨todo,hs₀⟩:=harr.1 rfl;obtain⟨e',w'',fr',hR,hs,hfn,hl⟩:=leaves_stepsInM a'.defers .returning w' {b.atR a' todo with mode:=.returning} cs rfl rfl rfl hf rfl hF hr hq;exact⟨e',w'',fr',hR,ComesIn.of_steps hs₀ hs,hfn,hl⟩)|panic chain=>(obtain⟨todo,hs₀⟩:=harr;obtain⟨e',w'',fr',hR,hs,hfn,hl⟩:=leaves_stepsInM a'.defers (.panicking chain) w' {b.atR a' todo with mode:=.panicking chain} cs rfl rfl rfl hf rfl hF hr hq;exact⟨e',w'',fr',hR,ComesIn.of_steps hs₀ hs,hfn,hl⟩)|exit id=>exact hq.elim|goto l=>exact hq.elim|outgrown=>exact⟨.outgrown,w',b,hq,harr.resolve_left (by simp[b]),rfl,trivial⟩
def Qhg(F:Fence)(n:Nat)(P:Program)(l:Nat)(f:FuncId)(R:Ending->World->Prop):Exit->Act->World->Prop|.panic chain,a,w=>∃fd,P.funcs[f]?=some fd/\LeavesInM F n P fd a.tmps (λe w'=>e=.panicked chain/\R (.panicked chain) w') a.defers (.panicking chain) w|e,a,w=>roundPost P l R e a w
theorem WN{l:Nat}{f:FuncId}{tmps:Array Value}{assign body:Code}{R:Ending->World->Prop}(hv:VF f)(hF:F.fn f)(h:DO (F.inRound l) n P assign (Exit.then (λa₁ w₁=>∃w₂,(Instr.beginRound l).run P w₁=.ok () w₂/\DO (F.inRound l) n P body (Qhg (F.inRound l) n P l f R) a₁ w₂) (λ_ _ _=>False)) {tmps:=tmps,defers:=[]} w):RoundIn F n P l f tmps assign body w R:=by
 refine⟨hF,λc cs hr=>?_⟩;let b:Frame:={(default:Frame)with fn:=f,kind:=.normal,roundOf:=some l};have hb0:Frame.round l f tmps assign body .normal=b.atR {tmps:=tmps,defers:=[]} [.code assign,.beginRound,.code body]:=by simp[Frame.round,Frame.atR,b]
 have hr':(F.inRound l).room ((c::cs).length+1+n):=hr;have hF':(F.inRound l).fn b.fn:=hF;obtain⟨e,a₁,w₁,hq,harr⟩:=h b [.beginRound,.code body] (c::cs) rfl hF' hv hr';rw[<-hb0]at harr;cases e with|normal=>(obtain⟨w₂,hbr,hbody⟩:=hq;have s1:StepsIn (Machine.fenced P (F.inRound l)) P (lone (b.atR a₁ [.beginRound,.code body]) (c::cs) w₁) (lone (b.atR a₁ [.code body]) (c::cs) w₂):=.one (fenced_calm (fr:=b.atR a₁ [.beginRound,.code body]) hF' hr' rfl) (stepR_beginRound rfl hbr);obtain⟨e₂,a₂,w₃,hq₂,harr₂⟩:=hbody b [] (c::cs) rfl hF' hv hr';cases e₂ with|normal=>(obtain⟨v,w₄,hend,hR⟩:=hq₂;exact⟨.returned v,w₄,hR,(StepsIn.trans harr s1).trans (StepsIn.trans harr₂ (.one (fenced_calm (fr:=b.atR a₂ []) hF' hr' Z) (stepR_round_end Z Z hend)))⟩)|ret=>(obtain⟨v,w₄,hend,hR⟩:=hq₂;obtain⟨k₁,hs⟩:=harr₂.2 rfl;exact⟨.returned v,w₄,hR,(StepsIn.trans harr s1).trans (StepsIn.trans hs (.one (fenced_calm (fr:=b.atR a₂ (.code .ret::k₁)) hF' hr' Z) (stepR_round_ret Z Z hend)))⟩)|exit id=>(obtain⟨v,w₄,hend,hR⟩:=hq₂;obtain⟨k₁,hk,hs⟩:=harr₂.2 rfl rfl;exact⟨.returned v,w₄,hR,(StepsIn.trans harr s1).trans (StepsIn.trans hs (.one (fenced_calm (fr:=b.atR a₂ (.code (.exit id)::k₁)) hF' hr' Z) (stepR_round_exit Z Z hk hend)))⟩)|goto t=>(obtain⟨v,w₄,hend,hR⟩:=hq₂;obtain⟨k₁,hk,hs⟩:=harr₂.2 rfl rfl;exact⟨.returned v,w₄,hR,(StepsIn.trans harr s1).trans (StepsIn.trans hs (.one (fenced_calm (fr:=b.atR a₂ (.code (.goto t)::k₁)) hF' hr' Z) (stepR_round_goto Z Z hk hend)))⟩)|panic chain=>(obtain⟨fd,hfd,hl⟩:=hq₂;obtain⟨todo,hs⟩:=harr₂;obtain⟨e',w',fr',⟨rfl,hR⟩,hs',hfn',hl'⟩:=leaves_stepsInM a₂.defers (.panicking chain) w₃ {b.atR a₂ todo with mode:=.panicking chain} (c::cs) rfl rfl rfl hfd rfl hF' hr' hl;exact⟨.panicked chain,w',hR,(StepsIn.trans harr s1).trans (StepsIn.trans hs (StepsIn.trans hs' (.one (fenced_leaving (F:=F.inRound l) (hfn'▸hF') hr' hl') (step_leave_panicked hl'))))⟩)|outgrown=>exact hq₂.elim)|exit id=>exact hq.elim|goto t=>exact hq.elim|ret=>exact hq.elim|panic chain=>exact hq.elim|outgrown=>exact hq.elim
def Qhk(F:Fence)(n:Nat)(P:Program)(l:Nat)(Q:Exit->Act->World->Prop)(a':Act):Ending->World->Prop
 |.returned _,w₃=>∃jump w₄,(Instr.endLoop l).run P w₃=.ok jump w₄ /\
     (match jump with
      |none=>Q .normal a' w₄
      |some c=>DO F n P c Q a' w₄)
 |.panicked chain,w₃=>Q (.panic chain) a' w₃
 |.outgrown,_=>LetsOut Q
theorem Zl{g:Operand}{ps:Array Tmp}{assign body:Code}(h:∀fn:{f:FuncId // VF f},F.fn fn.1->∃(l:Nat)(mark:List Deferred)(w₁:World)(d:Deferred)(w₁':World)(f:FuncId)(args:Array Value)(w₂:World),(Instr.enterLoop fn.1 a.tmps ps assign body F.round).run P w=.ok (l,mark) w₁ /\ (resolve a.eval (rangeCall g l) 0).run P w₁=.ok d w₁' /\ (∀f',Target.leads P w₁' d.target d.args=some f'->F.fn f') /\ (invoke d.target d.args).run P w₁'=.ok (.enter f args) w₂ /\ (F.depth.isSome=true->1<=n) /\ CallsIn F (n-1) P f args w₂ (Qhk F n P l Q {a with defers:=mark++a.defers})):DO F n P (.rangeFunc g ps assign body) Q a w:=by
 intro b k cs hro hb hv hr;obtain⟨l,mark,w₁,d,w₁',f,args,w₂,he,hres,hlead,hinv,hn,hF,hcall⟩:=h ⟨b.fn,hv⟩ hb;rw[<-hro]at he;have h0:(lone (b.atR a (.code (.rangeFunc g ps assign body)::k)) cs w).fenced P F:=by refine fenced_lone (.inl hb) (λf' hf'=>hlead f' ?_) (Fence.room_le hr (by omega));have hev:=Frame.eval_atR b a (.code (.rangeFunc g ps assign body)::k);simp only[Frame.atR]at hev;dsimp only at he;simp only[Frame.about,Frame.atR,he,hev,hres]at hf';exact hf'
 have henter:=stepR_rangeFunc (P:=P) (b:=b) (a:=a) (k:=k) (cs:=cs) (w:=w) he hres hinv;have hroom:F.room ((b.atR {a with defers:=mark++a.defers} (.inRangeFunc l::k)::cs).length+1+(n-1)):=Fence.room_enter hr hn;obtain⟨e,w₃,fr,hR,hsteps,hfn,hleave⟩:=hcall (b.atR {a with defers:=mark++a.defers} (.inRangeFunc l::k)::cs) hroom;cases e with|outgrown=>(obtain⟨a₀,w₀,hq⟩:=hR;exact⟨.outgrown,a₀,w₀,hq,.inr (Outgrown.of_steps (.one henter) hsteps)⟩)|returned v=>(have hl:(lone fr (b.atR {a with defers:=mark++a.defers} (.inRangeFunc l::k)::cs) w₃).fenced P F:=fenced_leaving (hfn▸hF) hroom hleave;obtain⟨jump,w₄,hend,hj⟩:=hR;(have sback:StepsIn (Machine.fenced P F) P (lone (b.atR a (.code (.rangeFunc g ps assign body)::k)) cs w) (lone (b.atR {a with defers:=mark++a.defers} ((jump.map Item.code).toList++k)) cs w₄):=by refine .head h0 henter (StepsIn.trans hsteps (.head hl ?_ (.one (fenced_calm (fr:=b.atR {a with defers:=mark++a.defers} (.endRangeFunc l::k)) hb hr Z) (stepR_endRangeFunc hend))));rw[<-finish_atR_inRangeFunc l v];exact step_leave_returned hleave);cases jump with|none=>exact⟨.normal,_,w₄,hj,sback⟩|some c=>obtain⟨e',a'',w₅,hq,harr⟩:=hj b k cs hro hb hv hr;exact⟨e',a'',w₅,hq,.of_steps sback harr⟩)|panicked chain=>have hl:(lone fr (b.atR {a with defers:=mark++a.defers} (.inRangeFunc l::k)::cs) w₃).fenced P F:=fenced_leaving (hfn▸hF) hroom hleave;refine⟨.panic chain,_,w₃,hR,.inRangeFunc l::k,.head h0 henter (StepsIn.trans hsteps (.one hl ?_))⟩;rw[<-Frame.raise_atR];exact step_leave_panicked hleave
end
inductive CA where
 |d (c:C)
 |ptr (i off:Nat)
 |pel (e:List C) (off:Nat)
 |fn (f:FuncId) (caps:List (Nat×Nat))
 |app (i sz:Nat) (es:List (List C))
 |apv (i sz n:Nat) (es:List (List C))
 |tp (i n off:Nat)
 |osl (i off len cap:Nat)
 |mp (i:Nat)
 |yld (i:Nat)
 |clo (f:FuncId) (caps:List (List C×Nat))
 |any
inductive AV where
 |one (x:CA)
 |agg (xs:List CA)
inductive TV where
 |v (x:AV)
 |tup (xs:List AV)
 |unk
inductive HB where
 |cells (T:TypeId) (xs:List CA)
 |obj (o:Obj)
 |loop (s:LoopState) (p:Option Code) (tm:List (Nat×TV)) (nt:Nat) (ps:Array Tmp) (assign body:Code) (D:Nat)
 |mp (es:List (Value×AV×Nat)) (clock:Nat)
structure Tok where
 E:TypeId
 sz:Nat
 n:Nat
 pv:List C
structure St where
 tm:List (Nat×TV)
 hp:List (Nat×HB)
 tk:List (Nat×Option Tok)
 nx:Nat
 nt:Nat
 df:List Nat
structure Vu where
 nx:Nat
 ι:Nat->Nat
 κ:Nat->Nat->Value
 cu:Nat->Nat
 S:Nat->Nat->Prop
structure Vu.Le(V V':Vu)(w w':World):Prop where
 nx:V.nx<=V'.nx
 ι:∀i,i<V.nx->V'.ι i=V.ι i
 cu:∀i,i<V.nx->V.cu i<=V'.cu i
 κ:∀i,i<V.nx->∀m,m<=V.cu i->V'.κ i m=V.κ i m
 S:∀b o,V.S b o->V'.S b o
 cell:∀b o,V.S b o->w'.cell? ⟨b,o,none⟩=w.cell? ⟨b,o,none⟩
 dk:∀b o,V.S b o->∀ds,w.heap[b]?=some (.deferred ds)->w'.heap[b]?=some (.deferred ds)
structure Vu.Lx(V V':Vu)(w w':World):Prop where
 nx:V.nx<=V'.nx
 ι:∀i,i<V.nx->V'.ι i=V.ι i
 cu:∀i,i<V.nx->V.cu i<=V'.cu i
 κ:∀i,i<V.nx->∀m,m<=V.cu i->V'.κ i m=V.κ i m
 S:∀b o,V.S b o->(w.cell? ⟨b,o,none⟩).isSome=true->V'.S b o
 cell:∀b o,V.S b o->(w.cell? ⟨b,o,none⟩).isSome=true->w'.cell? ⟨b,o,none⟩=w.cell? ⟨b,o,none⟩
theorem Vu.Le.lx{V V':Vu}{w w':World}(h:V.Le V' w w'):V.Lx V' w w':=⟨h.nx,h.ι,h.cu,h.κ,λb o k _=>h.S b o k,λb o k _=>h.cell b o k⟩
theorem Vu.Le.refl(V:Vu)(w:World):V.Le V w w:=⟨Cl _,λ_ _=>rfl,λ_ _=>Cl _,λ_ _ _ _=>rfl,λ_ _ h=>h,λ_ _ _=>rfl,λ_ _ _ _ h=>h⟩
def pelRel(S:Nat->Nat->Prop)(w:World)(e:List C)(off:Nat)(v:Value):Prop:=∃(b o:Nat)(f:Nat->Value),v=.pointer (some ⟨b,o+off,none⟩)/\∀(j:Nat)(c:C),e[j]?=some c->w.cell? ⟨b,o+j,none⟩=some (f j)/\S b (o+j)/\Reads S w c (f j)
theorem pelRel.keep{S S':Nat->Nat->Prop}{w w':World}(hS:∀b o,S b o->(w.cell? ⟨b,o,none⟩).isSome=true->S' b o)(hw:∀b o,S b o->(w.cell? ⟨b,o,none⟩).isSome=true->w'.cell? ⟨b,o,none⟩=w.cell? ⟨b,o,none⟩){e:List C}{off:Nat}{v:Value}(h:pelRel S w e off v):pelRel S' w' e off v:=by obtain⟨b,o,f,hv,hf⟩:=h;exact⟨b,o,f,hv,λj c hj=>⟨(hw _ _ (hf j c hj).2.1 (by rw[(hf j c hj).1];rfl)).trans (hf j c hj).1,hS _ _ (hf j c hj).2.1 (by rw[(hf j c hj).1];rfl),Reads.keep hS hw (hf j c hj).2.2⟩⟩
theorem pelRel.mono{S S':Nat->Nat->Prop}{w w':World}(hS:∀b o,S b o->S' b o)(hw:∀b o,S b o->w'.cell? ⟨b,o,none⟩=w.cell? ⟨b,o,none⟩){e:List C}{off:Nat}{v:Value}(h:pelRel S w e off v):pelRel S' w' e off v:=h.keep (λb o k _=>hS b o k) (λb o k _=>hw b o k)
def CA.rel(V:Vu)(w:World):CA->Value->Prop|.d c,v=>Reads V.S w c v|.ptr i off,v=>i<V.nx/\v=.pointer (some ⟨V.ι i,off,none⟩)|.pel e off,v=>pelRel V.S w e off v|.clo f caps,v=>∃ps:List Value,v=.func (.func f) #[] ps.toArray/\ps.length=caps.length/\∀(i:Nat)(e:List C)(off:Nat),caps[i]?=some (e,off)->∃p,ps[i]?=some p/\pelRel V.S w e off p|.fn f caps,v=>(∀p∈caps,p.1<V.nx)/\v=.func (.func f) #[] (caps.map λp=>Value.pointer (some ⟨V.ι p.1,p.2,none⟩)).toArray|.app i sz es,v=>i<V.nx/\es.length<=V.cu i/\v=V.κ i es.length/\Reads V.S w (.sl sz es) v|.apv i sz n es,v=>i<V.nx/\n<=V.cu i/\v=V.κ i n/\∃a cap,v=.slice a n cap/\es.length<=n/\Reads V.S w (.sl sz es) (.slice a es.length cap)|.tp i n off,v=>i<V.nx/\n<=V.cu i/\∃g cap,V.κ i n=.slice (some ⟨g,0,none⟩) n cap/\v=.pointer (some ⟨g,off,none⟩)|.osl i off len cap,v=>i<V.nx/\v=.slice (some ⟨V.ι i,off,none⟩) len cap|.mp i,v=>i<V.nx/\v=.map (some (V.ι i))|.yld i,v=>i<V.nx/\v=.func (.yield (V.ι i)) #[] #[]|.any,v=>v.oneCell'=true
theorem CA.rel.keep{V V':Vu}{w w':World}(hV:V.Lx V' w w'){x:CA}{v:Value}(h:x.rel V w v):x.rel V' w' v:=by cases x with|d c=>exact Reads.keep hV.S hV.cell h|ptr i off=>exact⟨Ci h.1 hV.nx,by rw[hV.ι i h.1];exact h.2⟩|pel e off=>exact pelRel.keep hV.S hV.cell h|clo f caps=>(obtain⟨ps,h1,h2,h3⟩:=h;exact⟨ps,h1,h2,λi e off hi=>let⟨p,h4,h5⟩:=h3 i e off hi;⟨p,h4,h5.keep hV.S hV.cell⟩⟩)|fn f caps=>refine⟨λp hp=>Ci (h.1 p hp) hV.nx,?_⟩;rw[h.2];congr 2;exact Cy λp hp=>by rw[hV.ι _ (h.1 p hp)]|app i sz es=>exact⟨Ci h.1 hV.nx,Cg h.2.1 (hV.cu i h.1),by rw[hV.κ i h.1 _ h.2.1];exact h.2.2.1,Reads.keep hV.S hV.cell h.2.2.2⟩|apv i sz n es=>(obtain⟨h1,h2,h3,a,cap,h4,h5,h6⟩:=h;exact⟨Ci h1 hV.nx,Cg h2 (hV.cu i h1),by rw[hV.κ i h1 _ h2];exact h3,a,cap,h4,h5,Reads.keep hV.S hV.cell h6⟩)|tp i n off=>(obtain⟨h1,h2,g,cap,h3,h4⟩:=h;exact⟨Ci h1 hV.nx,Cg h2 (hV.cu i h1),g,cap,by rw[hV.κ i h1 _ h2];exact h3,h4⟩)|osl i off len cap=>exact⟨Ci h.1 hV.nx,by rw[hV.ι i h.1];exact h.2⟩|mp i=>exact⟨Ci h.1 hV.nx,by rw[hV.ι i h.1];exact h.2⟩|yld i=>exact⟨Ci h.1 hV.nx,by rw[hV.ι i h.1];exact h.2⟩|any=>exact h
theorem CA.rel.mono{V V':Vu}{w w':World}(hV:V.Le V' w w'){x:CA}{v:Value}(h:x.rel V w v):x.rel V' w' v:=h.keep hV.lx
theorem CA.rel.one{V:Vu}{w:World}{x:CA}{v:Value}(h:x.rel V w v):v.oneCell'=true:=by cases x with|d c=>exact Reads.one h|ptr i off=>rw[h.2];rfl|pel e off=>(obtain⟨b,o,f,hv,-⟩:=h;rw[hv];rfl)|clo f caps=>(obtain⟨ps,hv,-⟩:=h;rw[hv];rfl)|fn f caps=>rw[h.2];rfl|app i sz es=>exact Reads.one h.2.2.2|apv i sz n es=>(obtain⟨-,-,-,a,cap,h4,-,-⟩:=h;rw[h4];rfl)|tp i n off=>(obtain⟨-,-,g,cap,-,h4⟩:=h;rw[h4];rfl)|osl i off len cap=>rw[h.2];rfl|mp i=>rw[h.2];rfl|yld i=>rw[h.2];rfl|any=>exact h
def rels(V:Vu)(w:World)(xs:List CA)(vs:Array Value):Prop:=vs.size=xs.length/\∀(i:Nat)(x:CA),xs[i]?=some x->∃u,vs[i]?=some u/\x.rel V w u
theorem rels.keep{V V':Vu}{w w':World}(hV:V.Lx V' w w'){xs:List CA}{vs:Array Value}(h:rels V w xs vs):rels V' w' xs vs:=⟨h.1,λi x hx=>let⟨u,h1,h2⟩:=h.2 i x hx;⟨u,h1,h2.keep hV⟩⟩
theorem rels.mono{V V':Vu}{w w':World}(hV:V.Le V' w w'){xs:List CA}{vs:Array Value}(h:rels V w xs vs):rels V' w' xs vs:=h.keep hV.lx
theorem rels.set{V:Vu}{w:World}{xs:List CA}{vs:Array Value}(h:rels V w xs vs){i:Nat}{x:CA}{u:Value}(hu:x.rel V w u):rels V w (xs.set i x) (vs.setIfInBounds i u):=by refine⟨by simp[h.1],λj y hy=>?_⟩;rw[Sb]at hy;split at hy;rename_i e;subst e;split at hy;rename_i hlt;cases hy;exact⟨u,by simp[S6,h.1,hlt],hu⟩;cases hy;rename_i e;obtain⟨u',h1,h2⟩:=h.2 j y hy;exact⟨u',by rw[S6,Ca e];exact h1,h2⟩
def AV.rel(V:Vu)(w:World):AV->Value->Prop|.one x,v=>x.rel V w v|.agg xs,v=>∃vs,v=.agg vs/\rels V w xs vs
theorem AV.rel.keep{V V':Vu}{w w':World}(hV:V.Lx V' w w'){x:AV}{v:Value}(h:x.rel V w v):x.rel V' w' v:=by cases x with|one x=>exact CA.rel.keep hV h|agg xs=>obtain⟨vs,h1,h2⟩:=h;exact⟨vs,h1,h2.keep hV⟩
theorem AV.rel.mono{V V':Vu}{w w':World}(hV:V.Le V' w w'){x:AV}{v:Value}(h:x.rel V w v):x.rel V' w' v:=h.keep hV.lx
def TV.rel(V:Vu)(w:World):TV->Value->Prop|.v x,y=>x.rel V w y|.tup xs,y=>∃vs:Array Value,y=.tuple vs/\vs.size=xs.length/\∀(i:Nat)(x:AV),xs[i]?=some x->∃u,vs[i]?=some u/\x.rel V w u|.unk,_=>True
theorem TV.rel.keep{V V':Vu}{w w':World}(hV:V.Lx V' w w'){x:TV}{v:Value}(h:x.rel V w v):x.rel V' w' v:=by cases x with|v x=>exact AV.rel.keep hV h|tup xs=>(obtain⟨vs,h1,h2,h3⟩:=h;exact⟨vs,h1,h2,λi x hx=>let⟨u,h4,h5⟩:=h3 i x hx;⟨u,h4,h5.keep hV⟩⟩)|unk=>trivial
theorem TV.rel.mono{V V':Vu}{w w':World}(hV:V.Le V' w w'){x:TV}{v:Value}(h:x.rel V w v):x.rel V' w' v:=h.keep hV.lx
def AV.cells:AV->List CA|.one x=>[x]|.agg xs=>xs
theorem AV.rel.cells{V:Vu}{w:World}{x:AV}{v:Value}(h:x.rel V w v):rels V w x.cells v.cells:=by cases x with|one x=>(have h1:=CA.rel.one h;(have:v.cells=#[v]:=by cases v <;> first|rfl|(simp[Value.oneCell']at h1));rw[this];refine⟨Z,λi y hy=>?_⟩;cases i with|zero=>simp[AV.cells]at hy;subst hy;exact⟨v,rfl,h⟩|succ i=>simp[AV.cells]at hy)|agg xs=>obtain⟨vs,rfl,h2⟩:=h;exact h2
def lk{α:Type}:List (Nat×α)->Nat->Option α|[],_=>none|(k,v)::r,i=>cond (Nat.beq k i) (some v) (lk r i)
theorem Q8{α:Type}(k:Nat)(v:α)(r:List (Nat×α))(i:Nat):lk ((k,v)::r) i=if k=i then some v else lk r i:=by
 by_cases h:k=i;subst h;simp[lk];have h2:Nat.beq k i=false:=by cases hb:Nat.beq k i with|false=>rfl|true=>exact absurd (Cc hb) h
 simp[lk,h2,h]
structure Env where
 P:Program
 w0:World
 M:Nat->Prop
 V0:Vu
structure ExtM(M:Nat->Prop)(w w':World):Prop where
 os:w'.os=w.os
 tape:w'.tape=w.tape
 output:w'.output=w.output
 size:w.heap.size<=w'.heap.size
 block:∀k,k<w.heap.size->¬M k->w'.heap[k]?=w.heap[k]?
theorem ExtM.refl(M:Nat->Prop)(w:World):ExtM M w w:=⟨rfl,rfl,rfl,Cl _,λ_ _ _=>rfl⟩
theorem ExtM.trans{M:Nat->Prop}{a b c:World}(h:ExtM M a b)(k:ExtM M b c):ExtM M a c:=⟨k.os.trans h.os,k.tape.trans h.tape,k.output.trans h.output,Cg h.size k.size,λi hi hM=>(k.block i (Ci hi h.size) hM).trans (h.block i hi hM)⟩
def HB.rel(V:Vu)(w:World):HB->Obj->Prop|.cells T xs,o=>∃vs,o=.cells vs T (0,0)/\rels V w xs vs|.obj o',o=>o=o'|.loop s p tm nt ps assign body D,o=>D<V.nx/\∃(fn:{f:FuncId // VF f})(tmps:Array Value),o=.loop {state:=s,pending:=p,fn:=fn.1,tmps:=tmps,params:=ps,assign:=assign,body:=body,defers:=V.ι D}/\tmps.size=nt/\∀t x,lk tm t=some x->x.rel V w (tmps.getD t undef)|.mp es clock,o=>∃ents:Array MapEntry,o=.map ents clock/\ents.size=es.length/\∀(i:Nat)(k:Value)(x:AV)(b:Nat),es[i]?=some (k,x,b)->∃v,ents[i]?=some ⟨k,v,b⟩/\x.rel V w v
theorem HB.rel.keep{V V':Vu}{w w':World}(hV:V.Lx V' w w'){x:HB}{o:Obj}(h:x.rel V w o):x.rel V' w' o:=by cases x with|cells T xs=>(obtain⟨vs,h1,h2⟩:=h;exact⟨vs,h1,h2.keep hV⟩)|obj o'=>exact h|loop s p tm nt ps assign body D=>(obtain⟨hD,fn,tmps,h1,h2,h3⟩:=h;exact⟨Ci hD hV.nx,fn,tmps,by rw[hV.ι D hD];exact h1,h2,λt x hx=>(h3 t x hx).keep hV⟩)|mp es clock=>obtain⟨ents,h1,h2,h3⟩:=h;exact⟨ents,h1,h2,λi k x b hi=>let⟨v,h4,h5⟩:=h3 i k x b hi;⟨v,h4,h5.keep hV⟩⟩
theorem HB.rel.mono{V V':Vu}{w w':World}(hV:V.Le V' w w'){x:HB}{o:Obj}(h:x.rel V w o):x.rel V' w' o:=h.keep hV.lx
def Tok.lim(T:Tok):Nat:=T.n*T.sz-T.pv.length
def RowOK(V:Vu)(w:World)(i:Nat)(T:Tok)(xs:List Value):Prop:=w.ownsRow 0 T.E T.sz (V.κ i T.n) T.n xs/\T.pv.length<=T.n*T.sz/\∀(j:Nat)(c:C),T.pv[j]?=some c->∃u,xs[T.lim+j]?=some u/\Reads V.S w c u
theorem RowOK.keepW{V V':Vu}{w w':World}{i:Nat}{T:Tok}{xs:List Value}(h:RowOK V w i T xs)(hk:V'.κ i T.n=V.κ i T.n)(ho:w'.ownsRow 0 T.E T.sz (V.κ i T.n) T.n xs)(hV:V.Lx V' w w'):RowOK V' w' i T xs:=⟨by rw[hk];exact ho,h.2.1,λj x hx=>let⟨u,h1,h2⟩:=h.2.2 j x hx;⟨u,h1,Reads.keep hV.S hV.cell h2⟩⟩
theorem RowOK.all{V:Vu}{w:World}{i E sz n:Nat}{xs:List Value}(h:w.ownsRow 0 E sz (V.κ i n) n xs):RowOK V w i ⟨E,sz,n,[]⟩ xs:=⟨h,Cd _,λj x hx=>by simp at hx⟩
structure HRel(E:Env)(V:Vu)(hp:List (Nat×HB))(tk:List (Nat×Option Tok))(w:World):Prop where
 ext:ExtM E.M E.w0 w
 le0:E.V0.Le V E.w0 w
 sz:∀b o,V.S b o->b<w.heap.size
 sub:∀b o,V.S b o->E.V0.S b o\/E.w0.heap.size<=b\/E.M b
 own:∀i B,lk hp i=some B->i<V.nx/\∃o,w.heap[V.ι i]?=some o/\B.rel V w o
 inj:∀i j A B,lk hp i=some A->lk hp j=some B->V.ι i=V.ι j->i=j
 new:∀i B,lk hp i=some B->(E.w0.heap.size<=V.ι i\/E.M (V.ι i))/\∀o,¬V.S (V.ι i) o
 tok:∀i T,lk tk i=some (some T)->i<V.nx/\T.n=V.cu i/\∃xs,RowOK V w i T xs/\∀g,(V.κ i T.n).ownBlock=some g ->
  (E.w0.heap.size<=g\/E.M g)/\(∀o,V.S g o->o<T.lim)/\(∀j B,lk hp j=some B->V.ι j≠g)
 tki:∀i j T U g,lk tk i=some (some T)->lk tk j=some (some U)->(V.κ i T.n).ownBlock=some g->(V.κ j U.n).ownBlock=some g->i=j
theorem YF{w:World}{b:Nat}{o:Obj}(h:w.heap[b]?=some o):b<w.heap.size:=(CP.1 h).1
abbrev Xi:=ExtM (λ_=>False)
theorem ExtM.cell{M:Nat->Prop}{w w':World}(h:ExtM M w w'){b o:Nat}(hb:b<w.heap.size)(hM:¬M b):w'.cell? ⟨b,o,none⟩=w.cell? ⟨b,o,none⟩:=World.cell?_of_block (w:=w) (a:=⟨b,o,none⟩) (h.block b hb hM)
structure Vu.Grow(V V':Vu)(w w':World):Prop where
 nx:V.nx<=V'.nx
 ι:∀i,i<V.nx->V'.ι i=V.ι i
 cu:∀i,i<V.nx->V'.cu i=V.cu i
 κ:∀i,i<V.nx->∀m,m<=V.cu i->V'.κ i m=V.κ i m
 S:∀b o,V.S b o->V'.S b o
 back:∀b o,V'.S b o->V.S b o\/w.heap.size<=b
 sz:∀b o,V'.S b o->b<w'.heap.size
theorem Vu.Le.trans{V V' V'':Vu}{w w' w'':World}(h:V.Le V' w w')(k:V'.Le V'' w' w''):V.Le V'' w w'':=⟨Cg h.nx k.nx,λi hi=>(k.ι i (Ci hi h.nx)).trans (h.ι i hi),λi hi=>Cg (h.cu i hi) (k.cu i (Ci hi h.nx)),λi hi m hm=>(k.κ i (Ci hi h.nx) m (Cg hm (h.cu i hi))).trans (h.κ i hi m hm),λb o hs=>k.S b o (h.S b o hs),λb o hs=>(k.cell b o (h.S b o hs)).trans (h.cell b o hs),λb o hs ds hd=>k.dk b o (h.S b o hs) ds (h.dk b o hs ds hd)⟩
section
variable{E:Env}{V V':Vu}{hp:List (Nat×HB)}{tk:List (Nat×Option Tok)}{w w':World}
theorem HRel.le(h:HRel E V hp tk w)(hx:Xi w w')(hg:V.Grow V' w w'):V.Le V' w w':=⟨hg.nx,hg.ι,λi hi=>Pc (hg.cu i hi).symm,hg.κ,hg.S,λb o hs=>hx.cell (h.sz b o hs) (λh=>h),λb o hs ds hd=>(hx.block b (h.sz b o hs) (λh=>h)).trans hd⟩
theorem HRel.later(h:HRel E V hp tk w)(hx:Xi w w')(hg:V.Grow V' w w'):HRel E V' hp tk w':=by have hle:=h.le hx hg;refine⟨?_,h.le0.trans hle,hg.sz,?_,?_,?_,?_,?_,?_⟩;exact h.ext.trans ⟨hx.os,hx.tape,hx.output,hx.size,λk hk _=>hx.block k hk (λh=>h)⟩;intro b o hs;rcases hg.back b o hs with hs'|hb;exact h.sub b o hs';exact .inr (.inl (Cg h.ext.size hb));intro i B hi;obtain⟨h1,o,ho,hB⟩:=h.own i B hi;exact⟨Ci h1 hg.nx,o,by rw[hg.ι i h1,hx.block _ (YF ho) (λh=>h)];exact ho,hB.mono hle⟩;intro i j A B hi hj e;rw[hg.ι i (h.own i A hi).1,hg.ι j (h.own j B hj).1]at e;exact h.inj i j A B hi hj e;intro i B hi;have h1:=(h.own i B hi).1;obtain⟨o0,ho0,-⟩:=(h.own i B hi).2;rw[hg.ι i h1];refine⟨(h.new i B hi).1,λo hs=>?_⟩;rcases hg.back _ o hs with hs'|hb;exact(h.new i B hi).2 o hs';have:=YF ho0;omega;intro i T hi;obtain⟨h1,hcu,xs,hown,hg2⟩:=h.tok i T hi;rw[hg.κ i h1 _ (Pc hcu)];have hlt:=hown.1.lt;refine⟨Ci h1 hg.nx,hcu.trans (hg.cu i h1).symm,xs,?_,λg hgb=>?_⟩;exact hown.keepW (hg.κ i h1 _ (Pc hcu)) (hown.1.kept (row:=none) ⟨hx.os,hx.tape,hx.output,hx.size,λk hk _=>hx.block k hk (λh=>h)⟩ (by cases(V.κ i T.n).ownBlock <;> simp)) hle.lx;obtain⟨a1,a2,a3⟩:=hg2 g hgb;have hgl:=(hlt g hgb).2;refine⟨a1,λo hs=>?_,λj B hj=>?_⟩;rcases hg.back g o hs with hs'|hb;exact a2 o hs';omega;rw[hg.ι j (h.own j B hj).1];exact a3 j B hj;intro i j T U g hi hj ei ej;rw[hg.κ i (h.tok i T hi).1 _ (Pc (h.tok i T hi).2.1)]at ei;rw[hg.κ j (h.tok j U hj).1 _ (Pc (h.tok j U hj).2.1)]at ej;exact h.tki i j T U g hi hj ei ej
def Vu.add(V:Vu)(g:Nat):Vu:={V with nx:=V.nx+1,ι:=λi=>if i=V.nx then g else V.ι i}
theorem Vu.add_grow(V:Vu)(g:Nat)(hsz:∀b o,V.S b o->b<w.heap.size)(hx:Xi w w'):V.Grow (V.add g) w w':=⟨Nat.le_succ _,λi hi=>by show(if i=V.nx then g else V.ι i)=_;rw[Ca (by omega)],λ_ _=>rfl,λ_ _ _ _=>rfl,λ_ _ h=>h,λ_ _ h=>.inl h,λb o h=>Ci (hsz b o h) hx.size⟩
theorem Vu.add_at(V:Vu)(g:Nat):(V.add g).ι V.nx=g:=by show(if V.nx=V.nx then g else _)=g;rw[Cf rfl]
theorem HRel.addOwn(h:HRel E V hp tk w)(o:Obj)(B:HB)(hB:B.rel (V.add w.heap.size) (w.alloc o) o):HRel E (V.add w.heap.size) ((V.nx,B)::hp) tk (w.alloc o):=by
 have hx:Xi w (w.alloc o):=⟨rfl,rfl,rfl,by simp,λk hk _=>Below.heap_alloc w o k hk⟩;have H:=h.later hx (V.add_grow w.heap.size h.sz hx);have hsize:∀i A,lk hp i=some A->(V.add w.heap.size).ι i<w.heap.size:=λi A hi=>by obtain⟨h1,o1,ho1,-⟩:=h.own i A hi;rw[(V.add_grow w.heap.size h.sz hx).ι i h1];exact YF ho1
 have hnx:∀i A,lk hp i=some A->i≠V.nx:=λi A hi=>by have:=(h.own i A hi).1;omega
 refine⟨H.ext,H.le0,H.sz,H.sub,?_,?_,?_,?_,H.tki⟩;intro i A hi;rw[Q8]at hi;split at hi;rename_i e;subst e;cases hi;exact⟨Cv _,o,by rw[V.add_at];exact heap_alloc_new w o,hB⟩;exact H.own i A hi;intro i j A A' hi hj e;rw[Q8]at hi hj;split at hi;rename_i e1;subst e1;split at hj;assumption;rw[V.add_at]at e;have:=hsize j A' hj;omega;split at hj;rename_i e2;subst e2;rw[V.add_at]at e;have:=hsize i A hi;omega;exact H.inj i j A A' hi hj e;intro i A hi;rw[Q8]at hi;split at hi;rename_i e;subst e;rw[V.add_at];exact⟨.inl h.ext.size,λo' hs=>by have:=h.sz _ _ hs;omega⟩;exact H.new i A hi;intro i T hi;obtain⟨h1,hcu,xs,hown,hg⟩:=H.tok i T hi;refine⟨h1,hcu,xs,hown,λg hgb=>⟨(hg g hgb).1,(hg g hgb).2.1,λj A hj=>?_⟩⟩;rw[Q8]at hj;split at hj;rename_i e;subst e;rw[V.add_at];obtain⟨h1',hcu',xs',hown',-⟩:=h.tok i T hi;have hk:=(V.add_grow w.heap.size h.sz hx).κ i h1' _ (Pc hcu');rw[hk]at hgb;have:=(hown'.1.lt g hgb).2;omega;exact(hg g hgb).2.2 j A hj
theorem Q81{w:World}{g:Nat}{vs:Array Value}{T:TypeId}(h:w.heap[g]?=some (.cells vs T (0,0)))(off:Nat)(u:Value):(w.setCell ⟨g,off,none⟩ u).heap[g]?=some (.cells (vs.setIfInBounds off u) T (0,0)):=by simp[World.setCell,Py,h]
theorem Jt{w:World}{g:Nat}{vs:Array Value}{T:TypeId}(h:w.heap[g]?=some (.cells vs T (0,0)))(off:Nat):w.cell? ⟨g,off,none⟩=vs[off]?:=by simp[World.cell?,h]
theorem Q3c{w:World}{g:Nat}{vs:Array Value}{T:TypeId}(h:w.heap[g]?=some (.cells vs T (0,0)))(off:Nat):w.frozen? ⟨g,off,none⟩=false:=by simp[World.frozen?,h]
theorem HRel.store(h:HRel E V hp tk w){i:Nat}{T:TypeId}{xs:List CA}(hi:lk hp i=some (.cells T xs))(off:Nat){x:CA}{u:Value}(hu:x.rel V w u):HRel E V ((i,.cells T (xs.set off x))::hp) tk (w.setCell ⟨V.ι i,off,none⟩ u)/\V.Le V w (w.setCell ⟨V.ι i,off,none⟩ u):=by
 obtain⟨hnx,o,ho,vs,rfl,hvs⟩:=h.own i _ hi;have hne:∀k,k≠V.ι i->(w.setCell ⟨V.ι i,off,none⟩ u).heap[k]?=w.heap[k]?:=λk hk=>Below.heap_setCell w ⟨V.ι i,off,none⟩ u k hk;have hsz:(w.setCell ⟨V.ι i,off,none⟩ u).heap.size=w.heap.size:=by simp[World.setCell]
 have hle:V.Le V w (w.setCell ⟨V.ι i,off,none⟩ u):=⟨Cl _,λ_ _=>rfl,λ_ _=>Cl _,λ_ _ _ _=>rfl,λ_ _ h=>h,λb o' hs=>World.cell?_of_block (w:=w) (a:=⟨b,o',none⟩) (hne b λe=>(h.new i _ hi).2 o' (by rw[<-e];exact hs)),λb o' hs ds hd=>(hne b λe=>(h.new i _ hi).2 o' (by rw[<-e];exact hs)).trans hd⟩;refine⟨⟨?_,h.le0.trans hle,λb o' hs=>by rw[hsz];exact h.sz b o' hs,h.sub,?_,?_,?_,?_,h.tki⟩,hle⟩;refine⟨h.ext.os,h.ext.tape,h.ext.output,by rw[hsz];exact h.ext.size,λk hk hM=>(hne k λe=>?_).trans (h.ext.block k hk hM)⟩;rcases(h.new i _ hi).1 with h1|h1;omega;rw[<-e]at h1;exact hM h1;intro j B hj;rw[Q8]at hj;split at hj;rename_i e;subst e;cases hj;exact⟨hnx,_,Q81 ho off u,_,Z,(hvs.mono hle).set (hu.mono hle)⟩;rename_i e;obtain⟨h1,o1,ho1,hB⟩:=h.own j B hj;exact⟨h1,o1,by rw[hne _ λe'=>e (h.inj j i _ _ hj hi e').symm];exact ho1,hB.mono hle⟩;intro j k A B hj hk e;rw[Q8]at hj hk;split at hj <;> split at hk;rename_i e1 e2;exact e1.symm.trans e2;rename_i e1 e2;subst e1;exact h.inj _ _ _ _ hi hk e;rename_i e1 e2;subst e2;exact h.inj _ _ _ _ hj hi e;exact h.inj _ _ _ _ hj hk e;intro j B hj;rw[Q8]at hj;split at hj;rename_i e;subst e;exact h.new _ _ hi;exact h.new _ _ hj;intro j T' hj;obtain⟨h1,hcu,xs',hown,hg⟩:=h.tok j T' hj;refine⟨h1,hcu,xs',hown.keepW rfl (hown.1.kept (row:=some (V.ι i)) ⟨rfl,rfl,rfl,by rw[hsz];exact Cl _,λk _ hk=>hne k λe=>hk (by rw[e])⟩ ?_) hle.lx,λg hgb=>⟨(hg g hgb).1,(hg g hgb).2.1,λk B hk=>?_⟩⟩;cases hb:(V.κ j T'.n).ownBlock with|none=>exact .inl rfl|some g=>exact .inr λe=>(hg g hb).2.2 i _ hi (by cases e;rfl)
 rw[Q8]at hk;split at hk;rename_i e;subst e;exact(hg g hgb).2.2 _ _ hi;exact(hg g hgb).2.2 _ _ hk
end
end
section
open Go.RowKit
def FR(ro:Option Nat):Fence:={Fence.wide with round:=ro}
abbrev Kz(v:Value):List PanicEntry:=[{v:=v,recovered:=false}]
abbrev Qjk(f:FuncId)(ps:List Value):Deferred:={target:=.fn (.func f) ps.toArray,args:=#[]}
def Gr(V:Vu)(i:Nat):Value:=.pointer (some ⟨V.ι i,0,none⟩)
def marksOK(E:Env)(V:Vu)(w:World)(bs:List Nat):Prop:=bs.Nodup/\∀b∈bs,V.S b 0/\w.heap[b]?=some (.deferred (some []))/\∀o,¬E.V0.S b o
theorem marksOK.le{E:Env}{V V':Vu}{w w':World}{bs:List Nat}(h:marksOK E V w bs)(hV:V.Le V' w w'):marksOK E V' w' bs:=⟨h.1,λb hb=>⟨hV.S _ _ (h.2 b hb).1,hV.dk _ _ (h.2 b hb).1 _ (h.2 b hb).2.1,(h.2 b hb).2.2⟩⟩
def dfRel(E:Env)(V:Vu)(w:World)(df:List Nat)(ds:List Deferred):Prop:=
 (df=[]/\∃bs:List Nat,ds=bs.map (λb=>{target:=.collected b,args:=#[]})/\marksOK E V w bs) \/
 (∃(f:Nat)(is bs bs0:List Nat),df=f::is/\(∀i∈is,i<V.nx)/\ds=bs.map (λb=>{target:=.collected b,args:=#[]})++Qjk f (is.map (Gr V))::bs0.map (λb=>{target:=.collected b,args:=#[]})/\marksOK E V w (bs++bs0))
theorem Ql5{V V':Vu}{w w':World}(hV:V.Le V' w w'){is:List Nat}(hi:∀i∈is,i<V.nx):is.map (Gr V')=is.map (Gr V):=Cy λi h=>by unfold Gr;rw[hV.ι i (hi i h)]
theorem dfRel.le{E:Env}{V V':Vu}{w w':World}{df:List Nat}{ds:List Deferred}(h:dfRel E V w df ds)(hV:V.Le V' w w'):dfRel E V' w' df ds:=by rcases h with⟨h0,bs,h1,h2⟩|⟨f,is,bs,bs0,h0,hi,h1,h2⟩;exact .inl ⟨h0,bs,h1,h2.le hV⟩;exact .inr ⟨f,is,bs,bs0,h0,λi h=>Ci (hi i h) hV.nx,by rw[Ql5 hV hi];exact h1,h2.le hV⟩
theorem dfRel.nil{E:Env}{V:Vu}{w:World}:dfRel E V w [] []:=.inl ⟨rfl,[],rfl,Sl,λb hb=>by cases hb⟩
theorem dfRel.trim{E:Env}{V:Vu}{w:World}{df:List Nat}{ds:List Deferred}{m:Nat}(h:dfRel E V w df ds)(hm:∀i,i∈df.tail->i<m):dfRel E {V with nx:=m} w df ds:=by rcases h with h|⟨f,is,bs,bs0,h0,hi,h1,h2⟩;exact .inl h;exact .inr ⟨f,is,bs,bs0,h0,λi h=>hm i (by rw[h0];exact h),h1,h2⟩
theorem dfRel.of_nil{E:Env}{V:Vu}{w:World}{df:List Nat}{ds:List Deferred}(h:dfRel E V w df ds)(hd:df=[]):∃bs:List Nat,ds=bs.map (λb=>{target:=.collected b,args:=#[]})/\bs.Nodup/\∀b∈bs,V.S b 0/\w.heap[b]?=some (.deferred (some []))/\∀o,¬E.V0.S b o:=by rcases h with⟨h0,bs,h1,h2⟩|⟨f,is,bs,bs0,h0,hi,h1,h2⟩;exact⟨bs,h1,h2.1,h2.2⟩;rw[hd]at h0;cases h0
theorem dfRel.push{E:Env}{V V':Vu}{w w':World}{df:List Nat}{ds:List Deferred}{b:Nat}(h:dfRel E V w df ds)(hV:V.Le V' w w')(hb:w.heap.size<=b)(h1:V'.S b 0)(h2:w'.heap[b]?=some (.deferred (some [])))(h3:∀o,¬E.V0.S b o):dfRel E V' w' df ({target:=.collected b,args:=#[]}::ds):=by
 have key:∀bs,marksOK E V w bs->marksOK E V' w' (b::bs):=λbs hm=>by refine⟨CX.2 ⟨λhmem=>?_,hm.1⟩,λb' hb'=>?_⟩;have:=YF (hm.2 b hmem).2.1;omega;rcases Cs.1 hb' with rfl|hb';exact⟨h1,h2,h3⟩;exact(hm.le hV).2 b' hb'
 rcases h with⟨h0,bs,h4,h5⟩|⟨f,is,bs,bs0,h0,hi,h4,h5⟩;exact .inl ⟨h0,b::bs,by rw[h4];rfl,key bs h5⟩;exact .inr ⟨f,is,b::bs,bs0,h0,λi h=>Ci (hi i h) hV.nx,by rw[h4,Ql5 hV hi];rfl,key _ h5⟩
structure Rel(E:Env)(V:Vu)(st:St)(a:Act)(w:World):Prop where
 h:HRel E V st.hp st.tk w
 nx:V.nx=st.nx
 nt:a.tmps.size=st.nt
 df:dfRel E V w st.df a.defers
 tm:∀t x,lk st.tm t=some x->x.rel V w (a.tmps.getD t undef)
def XC(E:Env)(ro:Option Nat)(n:Nat)(Q:Exit->Act->World->Prop)(c:Code)(st:St):Prop:=∀V a w,Rel E V st a w->DO (FR ro) n E.P c Q a w
def XL(E:Env)(ro:Option Nat)(n:Nat)(ops:Array Oper)(Q:Exit->Act->World->Prop)(rest:List Oper)(st:St):Prop:=∀V a w,Rel E V st a w->wpListIn (FR ro) n E.P ops Q rest a w
def XQ(E:Env)(Q:Exit->Act->World->Prop)(e:Exit)(st:St):Prop:=∀V a w,Rel E V st a w->Q e a w
def RO(E:Env)(o:Oper)(st:St)(x:TV):Prop:=(∀c,o.op ≠ .defer c)/\∀V a w,Rel E V st a w->∃v,(execOp a.eval o).run E.P w=.ok (.value v) w/\x.rel V w v
def ST.put(st:St)(d:Nat)(x:TV):St:={st with tm:=(d,x)::st.tm}
abbrev Gh(v:Value):TV:=.v (.one (.d (.v v)))
abbrev TI(n:Int):TV:=Gh (.int .i64 n)
abbrev TB(b:Bool):TV:=Gh (.bool b)
section
variable{E:Env}{V:Vu}{st:St}{a:Act}{w:World}
theorem Gx{tmps:Array Value}{d t:Nat}{v:Value}(hd:d<tmps.size):(tmps.setIfInBounds d v).getD t undef=if d=t then v else tmps.getD t undef:=by by_cases h:d=t;subst h;simp[Array.getD,hd];simp[S6,h]
theorem Rel.put(h:Rel E V st a w){d:Nat}{x:TV}{v:Value}(hd:d<st.nt)(hx:x.rel V w v):Rel E V (ST.put st d x) (a.put (some d) v) w:=by refine⟨h.h,h.nx,by simp[Act.put,ST.put,h.nt],h.df,λt y hy=>?_⟩;simp only[ST.put,Q8]at hy;simp only[Act.put];rw[Gx (by rw[h.nt];exact hd)];split at hy;rename_i e;rw[Cf e];cases hy;exact hx;rename_i e;rw[Ca e];exact h.tm t y hy
theorem Rel.und(h:Rel E V st a w)(d:Nat):Rel E V (ST.put st d (.tup [])) (a.put (some d) undef) w:=by refine⟨h.h,h.nx,by simp[Act.put,ST.put,h.nt],h.df,λt y hy=>?_⟩;simp only[ST.put,Q8]at hy;simp only[Act.put];by_cases hd:d<a.tmps.size;rw[Gx hd];split at hy;rename_i e;rw[Cf e];cases hy;exact⟨#[],rfl,rfl,λi x hx=>by simp at hx⟩;rename_i e;rw[Ca e];exact h.tm t y hy;rw[Array.setIfInBounds_eq_of_size_le (by omega)];split at hy;rename_i e;subst e;cases hy;refine⟨#[],?_,rfl,λi x hx=>by simp at hx⟩;simp[P0 (Se hd),undef];exact h.tm t y hy
theorem Qdf(h:Rel E V st a w){ops:Array Oper}{j d:Nat}(hj:(ops[j]?).bind (·.dst)=some d)(hb:lk st.tm d=some (.tup [])):yielded ops a.tmps j=none:=by
 obtain⟨vs,h1,-⟩:=h.tm d _ hb;rcases P2 d a.tmps.size with h2|h2;have h3:a.tmps[d]?=some (.tuple vs):=by rw[P7 h2];simpa[h2]using h1
 simp[yielded,hj,h3];simp[yielded,hj,P0 h2]
def ev(tm:List (Nat×TV)):Operand->Option TV
 |.tmp t=>lk tm t
 |.const v=>cond v.oneCell' (some (Gh v)) (match v with
  |.agg us=>cond (us.toList.all λu=>u.oneCell') (some (.v (.agg (us.toList.map λu=>.d (.v u))))) none
  |_=>none)
 |.func f=>some (.v (.one (.fn f [])))
 |.global _=>none
theorem Rel.ev(h:Rel E V st a w){o:Operand}{x:TV}(he:ev st.tm o=some x):x.rel V w (a.eval o):=by cases o with|tmp t=>exact h.tm t x he|const v=>(simp only[Proofs.YtjcfppnjamjjhaaGreatDoor.ev]at he;cases hv:v.oneCell' with|false=>rw[hv,C6]at he;split at he;rename_i us;(cases hall:us.toList.all λu=>u.oneCell' with|false=>rw[hall]at he;cases he|true=>rw[hall]at he;cases he;refine⟨us,rfl,by simp,λi x hx=>?_⟩;rw[Cn]at hx;cases hu:us.toList[i]? with|none=>rw[hu]at hx;cases hx|some u=>rw[hu]at hx;cases hx;exact⟨u,by simpa using hu,Reads.v u (Ch.1 hall u (Cr hu))⟩);cases he|true=>rw[hv]at he;cases he;exact Reads.v v hv)|func f=>cases he;exact⟨(λp hp=>nomatch hp),rfl⟩|global g=>cases he
theorem J8{V:Vu}{w:World}{y u:Value}(h:(Gh y).rel V w u):u=y:=by cases h;rfl
theorem Jl{V:Vu}{w:World}{y:Value}(h:y.oneCell'=true):(Gh y).rel V w y:=Reads.v y h
theorem Qgv(h:Rel E V st a w){ops:Array Oper}{j d:Nat}{b:Bool}(hj:(ops[j]?).bind (·.dst)=some d)(hb:lk st.tm d=some (TB b)):yielded ops a.tmps j=some b:=by
 have h1:=J8 (h.tm d _ hb);have hlt:d<a.tmps.size:=by rcases P2 d a.tmps.size with h2|h2;exact h2;simp[P0 h2,undef]at h1
 have h2:a.tmps[d]?=some (.bool b):=by rw[P7 hlt];simpa[hlt]using h1
 simp[yielded,hj,h2]
end
section
variable{E:Env}{ro:Option Nat}{n:Nat}{ops:Array Oper}{Q:Exit->Act->World->Prop}{rest:List Oper}{st st':St}{o:Oper}
theorem QB{d:Nat}{c:Bool}(hb:lk st.tm d=some (TB c))(ht:c=true->XL E ro n ops Q rest (ST.put st d (TB true)))(hf:c=false->XL E ro n ops Q rest (ST.put st d (TB false))):XL E ro n ops Q rest st:=by
 intro V a w h;have key:∀b,c=b->Rel E V (ST.put st d (TB b)) a w:=λb e=>by subst e;refine⟨h.h,h.nx,h.nt,h.df,λt y hy=>?_⟩;simp only[ST.put,Q8]at hy;split at hy;rename_i e;subst e;cases hy;exact h.tm _ _ hb;exact h.tm t y hy
 cases hc:c with|true=>exact ht hc V a w (key true hc)|false=>exact hf hc V a w (key false hc)
theorem Q2(k:XQ E Q .normal st):XL E ro n ops Q [] st:=k
theorem Q0{id:Nat}{l:List Oper}(h:XL E ro n l.toArray Q l st):XC E ro n Q (.region id l.toArray false) st:=λV a w hr=>Gj (wpIn_region_lit (h V a w hr))
theorem Q3{x y:Code}(h:XC E ro n (Exit.then (DO (FR ro) n E.P y Q) Q) x st):XC E ro n Q (.seq x y) st:=λV a w hr=>Qvq (h V a w hr)
theorem Q1{y:Code}(h:XC E ro n Q y st):XQ E (Exit.then (DO (FR ro) n E.P y Q) Q) .normal st:=h
theorem QU{id:Nat}(h:XQ E Q .normal st):XQ E (Exit.inBlock id Q) .normal st:=h
theorem Jo{id:Nat}(h:XQ E Q .normal st):XQ E (Exit.inBlock id Q) (.exit id) st:=λV a w hr=>by show(if id=id then Q .normal a w else Q (.exit id) a w);rw[Cf rfl];exact h V a w hr
theorem Qpt{id id':Nat}(hne:id'≠id)(h:XQ E Q (.exit id') st):XQ E (Exit.inBlock id Q) (.exit id') st:=λV a w hr=>by show(if id'=id then Q .normal a w else Q (.exit id') a w);rw[Ca hne];exact h V a w hr
theorem QV{id:Nat}{K:Act->World->Prop}(h:XQ E Q (.exit id) st):XQ E (Exit.then K Q) (.exit id) st:=h
theorem QC{id:Nat}{c:Code}(h:XC E ro n (Exit.inBlock id Q) c st):XC E ro n Q (.block id c) st:=λV a w hr=>Qnp (h V a w hr)
theorem Qp(h:XQ E Q .normal st):XC E ro n Q .skip st:=λV a w hr=>Gj (wpIn_skip (h V a w hr))
theorem Qx(h:XQ E Q .ret st):XC E ro n Q .ret st:=λV a w hr=>Gj (wpIn_ret (h V a w hr))
theorem Y9{id:Nat}(h:XQ E Q (.exit id) st):XC E ro n Q (.exit id) st:=λV a w hr=>Gj (wpIn_exit (h V a w hr))
theorem Qi{c:Operand}{x y:Code}{b:Bool}(hc:ev st.tm c=some (TB b))(ht:b=true->XC E ro n Q x st)(hf:b=false->XC E ro n Q y st):XC E ro n Q (.cond c x y) st:=λV a w hr=>Q4v (J8 (hr.ev hc)) (λe=>ht e V a w hr) (λe=>hf e V a w hr)
end
end
section
open Go.RowKit
def J3(P:Program)(s f:Nat):Option Nat:=match P.underlying s with|some (.struct fs)=>(match fs[f]? with|some fd=>(match P.info? fd.type with|some i=>if i.size=0 then none else some fd.offset|none=>none)|none=>none)|_=>none
def Jw(P:Program)(t:TypeId):Option (Bool×Nat):=match P.underlying t,P.info? t with|some (.struct _),some i=>some (true,i.size)|some (.array _ _),some i=>some (true,i.size)|some _,some i=>some (false,i.size)|_,_=>none
def Ja(P:Program)(t:TypeId):Option (TypeId×Nat):=match P.underlying t with|some (.slice e)=>(match P.info? e with|some i=>some (e,i.size)|none=>none)|_=>none
theorem Jx{P:Program}{t e sz:Nat}(h:Ja P t=some (e,sz)):P.underlying t=some (.slice e)/\∃i,P.info? e=some i/\i.size=sz:=by unfold Ja at h;split at h;rename_i e' he;split at h;rename_i i hi;cases h;exact⟨he,i,hi,rfl⟩;cases h;cases h
section
variable{E:Env}{st:St}{d:Option Tmp}{ty:TypeId}{pos:String}{af:Array Edge}{g:Option (Nat×Bool)}
theorem Jn{x:Operand}{v:TV}(h:ev st.tm x=some v):RO E ⟨d,.move x,ty,pos,af,g⟩ st v:=⟨(λ_ h=>nomatch h),λV a w hr=>⟨a.eval x,by simp[execOp],hr.ev h⟩⟩
theorem UO{x:Operand}{v:TV}(h:ev st.tm x=some v):RO E ⟨d,.assign x,ty,pos,af,g⟩ st v:=⟨(λ_ h=>nomatch h),λV a w hr=>⟨a.eval x,by simp[execOp],hr.ev h⟩⟩
theorem Qe{c x y:Operand}{v:TV}(hc:ev st.tm c=some (TB true))(h:ev st.tm x=some v):RO E ⟨d,.pick c x y,ty,pos,af,g⟩ st v:=⟨(λ_ h=>nomatch h),λV a w hr=>⟨a.eval x,by simp[execOp,J8 (hr.ev hc),asBool],hr.ev h⟩⟩
theorem Qh{c x y:Operand}{v:TV}(hc:ev st.tm c=some (TB false))(h:ev st.tm y=some v):RO E ⟨d,.pick c x y,ty,pos,af,g⟩ st v:=⟨(λ_ h=>nomatch h),λV a w hr=>⟨a.eval y,by simp[execOp,J8 (hr.ev hc),asBool],hr.ev h⟩⟩
theorem Zk{t:TypeId}{x:Operand}{b:Bool}(hx:ev st.tm x=some (TB b)):RO E ⟨d,.unOp .not t x,ty,pos,af,g⟩ st (TB (!b)):=⟨(λ_ h=>nomatch h),λV a w hr=>⟨.bool (!b),by simp[execOp,Op.unary,J8 (hr.ev hx)],Jl rfl⟩⟩
theorem Q87{P:Program}{s f k:Nat}(h:J3 P s f=some k):∃fs fd i,P.underlying s=some (.struct fs)/\fs[f]?=some fd/\P.info? fd.type=some i/\i.size≠0/\fd.offset=k:=by unfold J3 at h;split at h;rename_i fs hfs;split at h;rename_i fd hfd;split at h;rename_i i hi;split at h;cases h;rename_i hn;cases h;exact⟨fs,fd,i,hfs,hfd,hi,hn,rfl⟩;cases h;cases h;cases h
theorem K5(b o k:Nat):(⟨b,o,none⟩:Addr).add k=⟨b,o+k,none⟩:=by unfold Addr.add;split <;> simp_all
theorem Q2x{P:Program}{s f k b o:Nat}(h:J3 P s f=some k)(w:World):(Instr.fieldAt s (.pointer (some ⟨b,o,none⟩)) f).run P w=.ok (.pointer (some ⟨b,o+k,none⟩)) w:=by obtain⟨fs,fd,i,h1,h2,h3,h4,rfl⟩:=Q87 h;simp[Instr.fieldAt,run_underlying h1,h2,Instr.sureAddr,fieldPlace,sizeOf,typeInfo,h3,h4,K5]
theorem Q4{s f k i off:Nat}{x:Operand}(hk:J3 E.P s f=some k)(hx:ev st.tm x=some (.v (.one (.ptr i off)))):RO E ⟨d,.fieldAddr s x f,ty,pos,af,g⟩ st (.v (.one (.ptr i (off+k)))):=by refine⟨(λ_ h=>nomatch h),λV a w hr=>?_⟩;have h1:=hr.ev hx;exact⟨_,by simp only[execOp,h1.2,Sem.run_bind,Q2x hk];rfl,h1.1,rfl⟩
theorem ZL{s f k off:Nat}{e:List C}{x:Operand}(hk:J3 E.P s f=some k)(hx:ev st.tm x=some (.v (.one (.pel e off)))):RO E ⟨d,.fieldAddr s x f,ty,pos,af,g⟩ st (.v (.one (.pel e (off+k)))):=by refine⟨(λ_ h=>nomatch h),λV a w hr=>?_⟩;obtain⟨b,o,f',h1,h2⟩:=hr.ev hx;exact⟨_,by simp only[execOp,h1,Sem.run_bind,Q2x hk];rfl,b,o,f',by rw[PB],h2⟩
theorem Kd{P:Program}{t n:Nat}{ag:Bool}(h:Jw P t=some (ag,n))(w:World):(isAgg t).run P w=.ok ag w/\(sizeOf t).run P w=.ok n w:=by unfold Jw at h;split at h;rename_i hu hi;cases h;exact⟨by simp[isAgg,run_underlying hu],by simp[sizeOf,typeInfo,hi]⟩;rename_i hu hi;cases h;exact⟨by simp[isAgg,run_underlying hu],by simp[sizeOf,typeInfo,hi]⟩;rename_i dsc i h1 h2 hu hi;cases h;refine⟨?_,by simp[sizeOf,typeInfo,hi]⟩;cases dsc <;> simp[isAgg,run_underlying hu] <;> simp_all;cases h
theorem GP(P:Program)(w:World)(b o:Nat)(us:Nat->Value):∀(n i:Nat)(acc:Array Value),(∀j,i<=j->j<i+n->w.cell? ⟨b,o+j,none⟩=some (us j)) -> (loadCellsFrom ⟨b,o,none⟩ i n acc).run P w=.ok (acc++((List.range' i n).map us).toArray) w|0,i,acc,_=>by simp[loadCellsFrom]|n+1,i,acc,h=>by have h0:=h i (Cl _) (by omega);have ih:=GP P w b o us n (i+1) (acc.push (us i)) (λj h1 h2=>h j (by omega) (by omega));simp only[loadCellsFrom,Sem.run_bind,K5,load,Sem.run,h0,Result.andThen_ok,ih];simp[List.range'_succ]
theorem Q2w{P:Program}{w:World}{t n b o:Nat}(us:Nat->Value)(ht:Jw P t=some (true,n))(h:∀j,j<n->w.cell? ⟨b,o+j,none⟩=some (us j)):(Instr.loadAt t (.pointer (some ⟨b,o,none⟩))).run P w=.ok (.agg ((List.range' 0 n).map us).toArray) w:=by obtain⟨h1,h2⟩:=Kd ht w;have h3:=GP P w b o us n 0 #[] (λj _ hj=>h j (by omega));simp only[Array.empty_append]at h3;simp[Instr.loadAt,Instr.sureAddr,loadVar,h1,h2,loadCells,h3]
theorem Q2v{P:Program}{w:World}{t n b o:Nat}{u:Value}(ht:Jw P t=some (false,n))(h:w.cell? ⟨b,o,none⟩=some u):(Instr.loadAt t (.pointer (some ⟨b,o,none⟩))).run P w=.ok u w:=by obtain⟨h1,h2⟩:=Kd ht w;simp[Instr.loadAt,Instr.sureAddr,loadVar,h1,load,Sem.run,h]
theorem Q6{t n i off:Nat}{T:TypeId}{xs:List CA}{x:Operand}{y:CA}(ht:Jw E.P t=some (false,n))(hx:ev st.tm x=some (.v (.one (.ptr i off))))(hi:lk st.hp i=some (.cells T xs))(hy:xs[off]?=some y):RO E ⟨d,.load t x,ty,pos,af,g⟩ st (.v (.one y)):=by refine⟨(λ_ h=>nomatch h),λV a w hr=>?_⟩;have h1:=hr.ev hx;obtain⟨-,o,ho,vs,rfl,hvs⟩:=hr.h.own i _ hi;obtain⟨u,hu,hyu⟩:=hvs.2 off y hy;exact⟨u,by simp only[execOp,h1.2,Sem.run_bind,Q2v ht ((Jt ho off).trans hu)];rfl,hyu⟩
theorem JX{t n i off:Nat}{T:TypeId}{xs ys:List CA}{x:Operand}(ht:Jw E.P t=some (true,n))(hx:ev st.tm x=some (.v (.one (.ptr i off))))(hi:lk st.hp i=some (.cells T xs))(hy:(xs.drop off).take n=ys)(hn:ys.length=n):RO E ⟨d,.load t x,ty,pos,af,g⟩ st (.v (.agg ys)):=by
 refine⟨(λ_ h=>nomatch h),λV a w hr=>?_⟩;have h1:=hr.ev hx;obtain⟨-,o,ho,vs,rfl,hvs⟩:=hr.h.own i _ hi;have hget:∀j,j<n->ys[j]?=xs[off+j]?:=λj hj=>by subst hy;rw[PY hj,CS]
 have hxs:∀j,j<n->∃y,ys[j]?=some y/\xs[off+j]?=some y:=λj hj=>by have:ys[j]?=some ys[j]:=Cm (by omega);exact⟨_,this,(hget j hj).symm.trans this⟩
 have hc:∀j,j<n->w.cell? ⟨V.ι i,off+j,none⟩=some (vs.getD (off+j) undef):=λj hj=>by obtain⟨y,-,h3⟩:=hxs j hj;obtain⟨u,hu,-⟩:=hvs.2 _ y h3;rw[Jt ho,hu];simp[hu]
 refine⟨_,by simp only[execOp,h1.2,Sem.run_bind,Q2w _ ht hc];rfl,_,rfl,by simp[hn],λj y hy'=>?_⟩;have hj:j<n:=by have:=(Ce.1 hy').1;omega
 obtain⟨y',h2,h3⟩:=hxs j hj;rw[hy']at h2;cases h2;obtain⟨u,hu,hyu⟩:=hvs.2 _ y h3;refine⟨u,?_,hyu⟩;simp[hj,hu]
theorem ZC{t n off:Nat}{e:List C}{x:Operand}{c:C}(ht:Jw E.P t=some (false,n))(hx:ev st.tm x=some (.v (.one (.pel e off))))(hc:e[off]?=some c):RO E ⟨d,.load t x,ty,pos,af,g⟩ st (.v (.one (.d c))):=by refine⟨(λ_ h=>nomatch h),λV a w hr=>?_⟩;obtain⟨b,o,f',h1,h2⟩:=hr.ev hx;obtain⟨h3,-,h4⟩:=h2 off c hc;exact⟨f' off,by simp only[execOp,h1,Sem.run_bind,Q2v ht h3];rfl,h4⟩
theorem D8{t n off:Nat}{e cs:List C}{x:Operand}(ht:Jw E.P t=some (true,n))(hx:ev st.tm x=some (.v (.one (.pel e off))))(hy:(e.drop off).take n=cs)(hn:cs.length=n):RO E ⟨d,.load t x,ty,pos,af,g⟩ st (.v (.agg (cs.map .d))):=by
 refine⟨(λ_ h=>nomatch h),λV a w hr=>?_⟩;obtain⟨b,o,f',h1,h2⟩:=hr.ev hx;have hxs:∀j,j<n->∃y,cs[j]?=some y/\e[off+j]?=some y:=λj hj=>by(have h0:cs[j]?=e[off+j]?:=by subst hy;rw[PY hj,CS]);have:cs[j]?=some cs[j]:=Cm (by omega);exact⟨_,this,h0.symm.trans this⟩
 have hc:∀j,j<n->w.cell? ⟨b,o+off+j,none⟩=some (f' (off+j)):=λj hj=>by obtain⟨y,-,h3⟩:=hxs j hj;rw[PB];exact(h2 _ y h3).1
 refine⟨_,by simp only[execOp,h1,Sem.run_bind,Q2w _ ht hc];rfl,_,rfl,by simp[hn],λj y hy'=>?_⟩;have hj:j<n:=by have:=(Ce.1 hy').1;simp at this;omega
 obtain⟨y',h3,h4⟩:=hxs j hj;rw[Cn,h3]at hy';cases hy';exact⟨f' (off+j),by simp[hj],(h2 _ y' h4).2.2⟩
inductive SlOf:CA->Nat->List (List C)->Prop
 |d (sz:Nat) (es:List (List C)):SlOf (.d (.sl sz es)) sz es
 |app (i sz:Nat) (es:List (List C)):SlOf (.app i sz es) sz es
 |nil (sz:Nat):SlOf (.d (.v (.slice none 0 0))) sz []
theorem SlOf.reads{V:Vu}{w:World}{x:CA}{sz:Nat}{es:List (List C)}(h:SlOf x sz es){v:Value}(hv:x.rel V w v):Reads V.S w (.sl sz es) v:=by cases h with|d=>exact hv|app=>exact hv.2.2.2|nil=>cases hv;exact .sl sz [] none 0 0 0 (λ_ _=>undef) (Cl _) (λh=>absurd rfl h) (λi e h=>by simp at h) (λi e j c h=>by simp at h) (λi e j c h=>by simp at h) (λi e j c h=>by simp at h)
theorem J5y{t:TypeId}{e sz:Nat}{x:Operand}{y:CA}{es:List (List C)}(ht:Ja E.P t=some (e,sz))(hx:ev st.tm x=some (.v (.one y)))(hs:SlOf y sz es):RO E ⟨d,.call {callee:=.builtin .len,args:=#[x],argTypes:=#[t]},ty,pos,af,g⟩ st (TI es.length):=by refine⟨(λ_ h=>nomatch h),λV a w hr=>⟨.int .i64 es.length,?_,Jl Z⟩⟩;have h1:=hs.reads (hr.ev hx);generalize hv:a.eval x=v at h1;cases h1;simp[execOp,resolve,invoke,builtin,Builtin.len_,hv,run_underlying (Jx ht).1,goInt]
theorem Qvg{t:TypeId}{e0 sz k:Nat}{x i:Operand}{y:CA}{es:List (List C)}{e:List C}{m:Int}(ht:Ja E.P t=some (e0,sz))(hx:ev st.tm x=some (.v (.one y)))(hs:SlOf y sz es)(hi:ev st.tm i=some (TI m))(hm:m=(k:Int))(he:es[k]?=some e):RO E ⟨d,.indexAddr t x i,ty,pos,af,g⟩ st (.v (.one (.pel e 0))):=by refine⟨(λ_ h=>nomatch h),λV a w hr=>?_⟩;have h1:=hs.reads (hr.ev hx);have h2:=J8 (hr.ev hi);obtain⟨hu,i0,hi0,hsz⟩:=Jx ht;have hlt:=(Ce.1 he).1;subst hm;generalize hv:a.eval x=v at h1;cases h1 with|sl _ _ aa cap b off f hcap ha hl hc hss hr'=>have:=ha (λe'=>by subst e';simp at he);subst this;refine⟨.pointer (some ⟨b,off+k*sz,none⟩),?_,b,off+k*sz,f k,Z,λj c hj=>⟨hc k e j c he hj,hss k e j c he hj,hr' k e j c he hj⟩⟩;simp only[execOp,hv,h2,Instr.indexAt,asIntOf,Sem.run_bind,Sem.run_pure,Result.andThen_ok,run_underlying hu,sizeOf,typeInfo];simp[hi0,hsz,K5,hlt,Sem.run,program]
theorem Jr{x:Operand}{k:Nat}{xs:List AV}{y:AV}(hx:ev st.tm x=some (.tup xs))(hk:xs[k]?=some y):RO E ⟨d,.extract x k,ty,pos,af,g⟩ st (.v y):=by refine⟨(λ_ h=>nomatch h),λV a w hr=>?_⟩;obtain⟨vs,h1,h2,h3⟩:=hr.ev hx;obtain⟨u,hu,hyu⟩:=h3 k y hk;exact⟨u,by simp[execOp,h1,Instr.extract,hu],hyu⟩
theorem X6{x y:Operand}{t1 t2:TypeId}{m n:Int}(hx:ev st.tm x=some (TI m))(hy:ev st.tm y=some (TI n)):RO E ⟨d,.call {callee:=.builtin .max,args:=#[x,y],argTypes:=#[t1,t2]},ty,pos,af,g⟩ st (TI (max m n)):=by refine⟨(λ_ h=>nomatch h),λV a w hr=>⟨.int .i64 (max m n),?_,Jl Z⟩⟩;simp[execOp,resolve,invoke,builtin,Builtin.max_,Builtin.max2,J8 (hr.ev hx),J8 (hr.ev hy)];omega
theorem Qzr{x y:Operand}{t1 t2:TypeId}{m n:Int}(hx:ev st.tm x=some (TI m))(hy:ev st.tm y=some (TI n)):RO E ⟨d,.call {callee:=.builtin .min,args:=#[x,y],argTypes:=#[t1,t2]},ty,pos,af,g⟩ st (TI (min m n)):=by refine⟨(λ_ h=>nomatch h),λV a w hr=>⟨.int .i64 (min m n),?_,Jl Z⟩⟩;simp[execOp,resolve,invoke,builtin,Builtin.min_,Builtin.min2,J8 (hr.ev hx),J8 (hr.ev hy)];omega
end
end
section
open Go.RowKit
def YY(S:Nat->Nat->Prop):Vu:=⟨0,λ_=>0,λ_ _=>undef,λ_=>0,S⟩
inductive CSub:CA->C->Prop
 |d (c:C):CSub (.d c) c
 |app (i sz:Nat) (es:List (List C)):CSub (.app i sz es) (.sl sz es)
 |nil (sz:Nat):CSub (.d (.v (.slice none 0 0))) (.sl sz [])
theorem CSub.reads{V:Vu}{w:World}{x:CA}{c:C}(h:CSub x c){v:Value}(hv:x.rel V w v):Reads V.S w c v:=by cases h with|d=>exact hv|app=>exact hv.2.2.2|nil sz=>exact(SlOf.nil sz).reads hv
inductive CSubs:List CA->List C->Prop
 |nil:CSubs [] []
 |cons {x:CA} {c:C} {xs:List CA} {cs:List C} (h:CSub x c) (t:CSubs xs cs):CSubs (x::xs) (c::cs)
theorem CSubs.len{xs:List CA}{cs:List C}(h:CSubs xs cs):xs.length=cs.length:=by induction h with|nil=>rfl|cons _ _ ih=>simp[ih]
theorem CSubs.get{xs:List CA}{cs:List C}(h:CSubs xs cs):∀(i:Nat)(c:C),cs[i]?=some c->∃x,xs[i]?=some x/\CSub x c:=by induction h with|nil=>intro i c hc;simp at hc|cons h t ih=>intro i c hc;cases i with|zero=>simp at hc;subst hc;exact⟨_,rfl,h⟩|succ i=>exact ih i c (by simpa using hc)
inductive LSub:List CA->List CA->Prop
 |nil:LSub [] []
 |cons {x:CA} {c:C} {xs ys:List CA} (h:CSub x c) (t:LSub xs ys):LSub (x::xs) (.d c::ys)
theorem LSub.len{xs ys:List CA}(h:LSub xs ys):xs.length=ys.length:=by induction h with|nil=>rfl|cons _ _ ih=>simp[ih]
theorem LSub.get{xs ys:List CA}(h:LSub xs ys):∀(i:Nat)(y:CA),ys[i]?=some y->∃x c,xs[i]?=some x/\y=.d c/\CSub x c:=by induction h with|nil=>intro i c hc;simp at hc|cons h t ih=>intro i c hc;cases i with|zero=>simp at hc;subst hc;exact⟨_,_,rfl,rfl,h⟩|succ i=>exact ih i c (by simpa using hc)
inductive ASub:AV->AV->Prop
 |one {x:CA} {c:C} (h:CSub x c):ASub (.one x) (.one (.d c))
 |agg {xs ys:List CA} (h:LSub xs ys):ASub (.agg xs) (.agg ys)
theorem Qb7{V:Vu}{w:World}{xs ys:List CA}(h:LSub xs ys){vs:Array Value}(hv:rels V w xs vs):rels (YY V.S) w ys vs:=by refine⟨by rw[hv.1,h.len],λi y hy=>?_⟩;obtain⟨x,c,hx,rfl,hs⟩:=h.get i y hy;obtain⟨u,hu,hr⟩:=hv.2 i x hx;exact⟨u,hu,show Reads V.S w c u from hs.reads hr⟩
theorem ASub.rel{V:Vu}{w:World}{x y:AV}(h:ASub x y){v:Value}(hv:x.rel V w v):y.rel (YY V.S) w v:=by cases h with|one h=>exact(show Reads V.S w _ v from h.reads hv)|agg h=>obtain⟨vs,h1,h2⟩:=hv;exact⟨vs,h1,Qb7 h h2⟩
def argsRel(V:Vu)(w:World)(args:List AV)(vs:Array Value):Prop:=vs.size=args.length/\∀(i:Nat)(x:AV),args[i]?=some x->∃u,vs[i]?=some u/\x.rel V w u
def Qd(P:Program)(f:FuncId):Prop:=∀(ars:Array Value)(w:World),(callFunc f ars).run P w=.ok (.enter f ars) w
def Fun(P:Program)(f:FuncId)(args:List AV)(res:TV):Prop:=Qd P f/\∀(S:Nat->Nat->Prop)(w:World)(vs:Array Value),(∀b o,S b o->b<w.heap.size)->argsRel (YY S) w args vs -> Calls P f vs w λe w'=>∃v S',e=.returned v/\Xi w w'/\(∀b o,S b o->S' b o)/\(∀b o,S' b o->(S b o\/w.heap.size<=b)/\b<w'.heap.size)/\res.rel (YY S') w' v
section
variable{E:Env}{st:St}{d:Nat}{ty:TypeId}{pos:String}{af:Array Edge}{g:Option (Nat×Bool)}
theorem Rel.later{V V':Vu}{a:Act}{w w':World}(h:Rel E V st a w)(hx:Xi w w')(hg:V.Grow V' w w')(hn:V'.nx=V.nx):Rel E V' st a w':=⟨h.h.later hx hg,hn.trans h.nx,h.nt,h.df.le (h.h.le hx hg),λt x hx'=>(h.tm t x hx').mono (h.h.le hx hg)⟩
def YB(P:Program)(t:TypeId):Option (List Value):=((P.info? t).bind (·.zero)).map (·.cells.toList)
theorem WI{P:Program}{t:TypeId}{zs:List Value}(h:YB P t=some zs):∃z,(∀w,(zeroValue t).run P w=.ok z w)/\z.cells=zs.toArray:=by unfold YB at h;cases hi:P.info? t with|none=>rw[hi]at h;cases h|some i=>rw[hi]at h;cases hz:i.zero with|none=>simp[hz]at h|some z=>simp[hz]at h;exact⟨z,λw=>by simp[zeroValue,typeInfo,hi,hz],by rw[<-h]⟩
def setL:List CA->Nat->List CA->List CA|xs,_,[]=>xs|xs,off,y::ys=>setL (xs.set off y) (off+1) ys
theorem Q3q{V:Vu}{tk:List (Nat×Option Tok)}{i:Nat}{T:TypeId}:∀(ys:List CA)(us:List Value)(k off:Nat)(xs:List CA)(hp:List (Nat×HB))(w:World),HRel E V hp tk w->lk hp i=some (.cells T xs) -> off+k+ys.length<=xs.length->us.length=ys.length->(∀(j:Nat)(y:CA),ys[j]?=some y->∃u,us[j]?=some u/\y.rel V w u) -> ∃w',(storeCells ⟨V.ι i,off,none⟩ us k).run E.P w=.ok () w'/\HRel E V ((i,.cells T (setL xs (off+k) ys))::hp) tk w'/\V.Le V w w'|[],us,k,off,xs,hp,w,h,hi,_,hu,_=>by have:us=[]:=Cz (by simpa using hu);subst this;refine⟨w,by simp[storeCells],?_,Vu.Le.refl V w⟩;simp only[setL];(have hl:∀j,lk ((i,HB.cells T xs)::hp) j=lk hp j:=λj=>by rw[Q8];split <;> simp_all);exact⟨h.ext,h.le0,h.sz,h.sub,λj B hj=>h.own j B (by rw[<-hl];exact hj),λj k A B hj hk=>h.inj j k A B (by rw[<-hl];exact hj) (by rw[<-hl];exact hk),λj B hj=>h.new j B (by rw[<-hl];exact hj),λj T' hj=>by obtain⟨h1,hcu,xs',h2,h3⟩:=h.tok j T' hj;exact⟨h1,hcu,xs',h2,λg hg=>⟨(h3 g hg).1,(h3 g hg).2.1,λk B hk=>(h3 g hg).2.2 k B (by rw[<-hl];exact hk)⟩⟩,h.tki⟩|y::ys,us,k,off,xs,hp,w,h,hi,hle,hu,hrel=>by match us,hu with|u::us,hu=>simp only[C1]at hle hu;obtain⟨u',hu',hy⟩:=hrel 0 y rfl;simp at hu';subst hu';obtain⟨-,o,ho,vs,rfl,hvs⟩:=h.own i _ hi;obtain⟨H1,L1⟩:=h.store hi (off+k) hy;(have hcell:w.cell? ⟨V.ι i,off+k,none⟩=some (vs.getD (off+k) undef):=by rw[Jt ho];(have:off+k<vs.size:=by rw[hvs.1];omega);simp[this]);have hone:=hy.one;(have hst:(Go.store ⟨V.ι i,off+k,none⟩ u).run E.P w=.ok () (w.setCell ⟨V.ι i,off+k,none⟩ u):=by rw[run_store _ _ _ _ _ hone,hcell];simp[Q3c ho]);obtain⟨w',hw',H2,L2⟩:=Q3q (i:=i) (T:=T) ys us (k+1) off (xs.set (off+k) y) _ _ H1 (by simp[Q8]) (by simp;omega) (by omega) (λj z hz=>by obtain⟨u2,h2,h3⟩:=hrel (j+1) z (by simpa using hz);exact⟨u2,by simpa using h2,h3.mono L1⟩);refine⟨w',?_,?_,L1.trans L2⟩;simp only[storeCells,Sem.run_bind,K5,hst,Result.andThen_ok,hw'];(have hl:∀(A B:HB) j,lk ((i,A)::(i,B)::hp) j=lk ((i,A)::hp) j:=λA B j=>by rw[Q8,Q8,Q8];split <;> rfl);simp only[setL];rw[show off+k+1=off+(k+1) by omega];generalize setL (xs.set (off+k) y) (off+(k+1)) ys=zs at H2⊢;have hl':=hl (HB.cells T zs) (HB.cells T (xs.set (off+k) y));exact⟨H2.ext,H2.le0,H2.sz,H2.sub,λj B hj=>H2.own j B (by rw[hl'];exact hj),λj k A B hj hk=>H2.inj j k A B (by rw[hl'];exact hj) (by rw[hl'];exact hk),λj B hj=>H2.new j B (by rw[hl'];exact hj),λj T' hj=>by obtain⟨h1,hcu,xs',h2,h3⟩:=H2.tok j T' hj;exact⟨h1,hcu,xs',h2,λg hg=>⟨(h3 g hg).1,(h3 g hg).2.1,λk B hk=>(h3 g hg).2.2 k B (by rw[hl'];exact hk)⟩⟩,H2.tki⟩
end
end
end
section
open Go.RowKit
def J4:Nat->List AV->List (Nat×TV)|_,[]=>[]|i,x::xs=>(i,.v x)::J4 (i+1) xs
theorem Xw:∀(args:List AV)(i t:Nat)(x:TV),lk (J4 i args) t=some x->∃k y,t=i+k/\args[k]?=some y/\x=.v y|[],i,t,x,h=>by cases h|y::ys,i,t,x,h=>by simp only[J4,Q8]at h;split at h;rename_i e;cases h;exact⟨0,y,e.symm,rfl,rfl⟩;obtain⟨k,z,h1,h2,h3⟩:=Xw ys (i+1) t x h;exact⟨k+1,z,by omega,by simpa using h2,h3⟩
theorem HRel.take{E:Env}{V:Vu}{hp:List (Nat×HB)}{tk:List (Nat×Option Tok)}{w:World}{b:Nat}(h:HRel E V hp tk w)(hb:V.S b 0)(ho:w.heap[b]?=some (.deferred (some [])))(h0:∀o,¬E.V0.S b o):HRel E {V with S:=λb' o=>V.S b' o/\b'≠b} hp tk (w.putObj b (.deferred none))/\V.Lx {V with S:=λb' o=>V.S b' o/\b'≠b} w (w.putObj b (.deferred none)):=by
 have hw:∀k,k≠b->(w.putObj b (.deferred none)).heap[k]?=w.heap[k]?:=λk hk=>World.putObj_heap_other hk;have hsz:(w.putObj b (.deferred none)).heap.size=w.heap.size:=World.putObj_size;have hnew:(w.putObj b (.deferred none)).heap[b]?=some (.deferred none):=World.putObj_heap_same (YF ho);have hcell:∀b' o,(w.putObj b (.deferred none)).cell? ⟨b',o,none⟩=w.cell? ⟨b',o,none⟩:=λb' o=>by by_cases e:b'=b;subst e;simp[World.cell?,hnew,ho];exact World.cell?_of_block (w:=w) (a:=⟨b',o,none⟩) (hw b' e)
 have hx:V.Lx {V with S:=λb' o=>V.S b' o/\b'≠b} w (w.putObj b (.deferred none)):=⟨Cl _,λ_ _=>rfl,λ_ _=>Cl _,λ_ _ _ _=>rfl,λb' o hs hc=>⟨hs,λe=>by subst e;simp[World.cell?,ho]at hc⟩,λb' o _ _=>hcell b' o⟩;have hown:∀i B,lk hp i=some B->V.ι i≠b:=λi B hi e=>(h.new i B hi).2 0 (by rw[e];exact hb);refine⟨⟨?_,?_,λb' o hs=>by rw[hsz];exact h.sz b' o hs.1,λb' o hs=>h.sub b' o hs.1,?_,h.inj,λi B hi=>⟨(h.new i B hi).1,λo hs=>(h.new i B hi).2 o hs.1⟩,?_,h.tki⟩,hx⟩;refine⟨h.ext.os,h.ext.tape,h.ext.output,by rw[hsz];exact h.ext.size,λk hk hM=>(hw k λe=>?_).trans (h.ext.block k hk hM)⟩;subst e;rcases h.sub _ 0 hb with h1|h1|h1;exact h0 0 h1;omega;exact hM h1;refine⟨h.le0.nx,h.le0.ι,h.le0.cu,h.le0.κ,λb' o hs=>⟨h.le0.S b' o hs,λe=>h0 o (by rw[<-e];exact hs)⟩,λb' o hs=>(hcell b' o).trans (h.le0.cell b' o hs),λb' o hs ds hd=>(hw b' λe=>h0 o (by rw[<-e];exact hs)).trans (h.le0.dk b' o hs ds hd)⟩;intro i B hi;obtain⟨h1,o,h2,h3⟩:=h.own i B hi;exact⟨h1,o,(hw _ (hown i B hi)).trans h2,h3.keep hx⟩;intro i T hi;obtain⟨h1,h2,xs,h3,h4⟩:=h.tok i T hi;refine⟨h1,h2,xs,?_,λg hg=>⟨(h4 g hg).1,λo hs=>(h4 g hg).2.1 o hs.1,(h4 g hg).2.2⟩⟩;refine h3.keepW Z ?_ hx;obtain⟨h5,h6⟩:=h3.1;refine⟨h5,h6.imp id ?_⟩;rintro⟨g,cap,cur,h7,h8,h9,h10⟩;exact⟨g,cap,cur,h7,h8,(hw g λe=>by subst e;rw[ho]at h9;cases h9).trans h9,h10⟩
theorem Vu.Lx.trans{V V' V'':Vu}{w w' w'':World}(h:V.Lx V' w w')(k:V'.Lx V'' w' w''):V.Lx V'' w w'':=⟨Cg h.nx k.nx,λi hi=>(k.ι i (Ci hi h.nx)).trans (h.ι i hi),λi hi=>Cg (h.cu i hi) (k.cu i (Ci hi h.nx)),λi hi m hm=>(k.κ i (Ci hi h.nx) m (Cg hm (h.cu i hi))).trans (h.κ i hi m hm),λb o hs hc=>k.S b o (h.S b o hs hc) (by rw[h.cell b o hs hc];exact hc),λb o hs hc=>(k.cell b o (h.S b o hs hc) (by rw[h.cell b o hs hc];exact hc)).trans (h.cell b o hs hc)⟩
theorem Vu.Lx.refl(V:Vu)(w:World):V.Lx V w w:=(Vu.Le.refl V w).lx
theorem Q1u{E:Env}{hp:List (Nat×HB)}{tk:List (Nat×Option Tok)}{n:Nat}{P:Program}{fn:Func}{tmps:Array Value}{R:Ending->World->Prop}:∀(bs:List Nat)(w:World)(V:Vu),HRel E V hp tk w->bs.Nodup -> (∀b∈bs,V.S b 0/\w.heap[b]?=some (.deferred (some []))/\∀o,¬E.V0.S b o) -> (∀w' V',HRel E V' hp tk w'->V'.nx=V.nx->V.Lx V' w w'->∃v,(results fn tmps).run P w'=.ok v w'/\R (.returned v) w')->LeavesInM Fence.wide n P fn tmps R (bs.map λb=>{target:=.collected b,args:=#[]}) .returning w|[],w,V,h,_,_,hK=>hK w V h rfl (Vu.Lx.refl _ _)|b::bs,w,V,h,hn,hb,hK=>by obtain⟨h1,h2,h3⟩:=hb b (by simp);obtain⟨h4,h5⟩:=CX.1 hn;obtain⟨H,L⟩:=h.take h1 h2 h3;refine⟨by simp,.inl ⟨b,_,Z,run_takeDeferred h2,?_⟩⟩;refine Q1u bs _ _ H h5 (λb' hb'=>?_) (λw' V' hw' hn' L'=>hK w' V' hw' hn' (L.trans L'));obtain⟨h6,h7,h8⟩:=hb b' (by simp[hb']);have hne:b'≠b:=λe=>h4 (by rw[<-e];exact hb');exact⟨⟨h6,hne⟩,(World.putObj_heap_other hne).trans h7,h8⟩
def Qvj(P:Program)(w:World)(S:Nat->Nat->Prop):Env:=⟨P,w,λ_=>False,YY S⟩
section
variable{E:Env}{st:St}
def Q9l(P:Program)(tmps:Array Value)(w:World)(v:Value):ResultVar->Prop|.tmp t=>tmps.getD t undef=v|.cell ad t=>∃p,tmps.getD ad undef=.pointer (some p)/\(loadVar t p).run P w=.ok v w
def RA(E:Env)(st:St)(r:ResultVar)(x:AV):Prop:=∀V a w,Rel E V st a w->∃v,Q9l E.P a.tmps w v r/\x.rel V w v
theorem RA.tmp{t:Nat}{x:AV}(h:lk st.tm t=some (.v x)):RA E st (.tmp t) x:=λV a w hr=>⟨_,rfl,hr.tm t _ h⟩
theorem GN{P:Program}{w:World}{t:TypeId}{p:Addr}{v:Value}(h:(Instr.loadAt t (.pointer (some p))).run P w=.ok v w):(loadVar t p).run P w=.ok v w:=by simpa[Instr.loadAt,Instr.sureAddr]using h
theorem RA.cell{ad t n i off:Nat}{T:TypeId}{xs:List CA}{y:CA}(ht:Jw E.P t=some (false,n))(h:lk st.tm ad=some (.v (.one (.ptr i off))))(hi:lk st.hp i=some (.cells T xs))(hy:xs[off]?=some y):RA E st (.cell ad t) (.one y):=λV a w hr=>by
 obtain⟨v, h1, h2⟩:= (Q6 (E:= E) (st:= st) (d:= none) (ty:= 0) (pos:= "") (af:= #[]) (g:= none) (x:= .tmp ad) ht h hi hy).2 V a w hr
 have h3:=(hr.tm ad _ h).2;simp only[execOp,Act.eval,h3]at h1;have h4:(Instr.loadAt t (.pointer (some ⟨V.ι i,off,none⟩))).run E.P w=.ok v w:=by revert h1;cases hq:(Instr.loadAt t (.pointer (some ⟨V.ι i,off,none⟩))).run E.P w <;> simp[hq]
 exact⟨v,⟨_,h3,GN h4⟩,h2⟩
theorem Qk8{ad t n i off:Nat}{T:TypeId}{xs ys:List CA}(ht:Jw E.P t=some (true,n))(h:lk st.tm ad=some (.v (.one (.ptr i off))))(hi:lk st.hp i=some (.cells T xs))(hy:(xs.drop off).take n=ys)(hn:ys.length=n):RA E st (.cell ad t) (.agg ys):=λV a w hr=>by
 obtain⟨v, h1, h2⟩:= (JX (E:= E) (st:= st) (d:= none) (ty:= 0) (pos:= "") (af:= #[]) (g:= none) (x:= .tmp ad) ht h hi hy hn).2 V a w hr
 have h3:=(hr.tm ad _ h).2;simp only[execOp,Act.eval,h3]at h1;have h4:(Instr.loadAt t (.pointer (some ⟨V.ι i,off,none⟩))).run E.P w=.ok v w:=by revert h1;cases hq:(Instr.loadAt t (.pointer (some ⟨V.ι i,off,none⟩))).run E.P w <;> simp[hq]
 exact⟨v,⟨_,h3,GN h4⟩,h2⟩
end
section
variable{P:Program}{fn:Func}{S:Nat->Nat->Prop}{w0:World}{st:St}{Q:Exit->Act->World->Prop}{e:Exit}
theorem Qvs{V:Vu}{w:World}{xs:List AV}{us:List Value}(hl:us.length=xs.length)(h:∀(i:Nat)(x:AV)(u:Value),xs[i]?=some x->us[i]?=some u->x.rel V w u):(TV.tup xs).rel V w (.tuple us.toArray):=by
 refine⟨_,rfl,by simpa using hl,λi x hx=>?_⟩;have hi:i<us.length:=by have:=(Ce.1 hx).1;omega
 exact⟨us[i],by simp[hi],h i x _ hx (Cm hi)⟩
def Qtw(tmps:Array Value):ResultVar->Sem Value|.tmp t=>pure (tmps.getD t undef)|.cell a t=>do loadVar t (<-asAddr (tmps.getD a undef))
theorem Qr8{P:Program}{tmps:Array Value}{w:World}{v:Value}{r:ResultVar}(h:Q9l P tmps w v r):(Qtw tmps r).run P w=.ok v w:=by cases r with|tmp t=>simp only[Q9l]at h;simp only[Qtw,h];rfl|cell ad t=>obtain⟨p,e1,e2⟩:=h;simp only[Qtw,e1,asAddr,Sem.run_bind,Sem.run_pure,Result.andThen_ok,e2]
theorem UU{P:Program}{tmps:Array Value}{w:World}:∀(rs:List ResultVar)(us:List Value),rs.length=us.length->(∀(i:Nat)(r:ResultVar),rs[i]?=some r->∃u,us[i]?=some u/\Q9l P tmps w u r) -> (rs.mapM (Qtw tmps)).run P w=.ok us w|[],[],_,_=>by simp|r::rs,u::us,hl,h=>by obtain⟨u',h1,h2⟩:=h 0 r rfl;cases h1;have ih:=UU rs us (by simpa using hl) (λi r hr=>by have:=h (i+1) r (by simpa using hr);simpa using this);simp[List.mapM_cons,Qr8 h2,ih]
theorem Qhh{rs:Array ResultVar}{us:List Value}{a:Act}{w:World}(hres:fn.results=rs)(hl:rs.toList.length=us.length)(h:∀(i:Nat)(r:ResultVar),rs.toList[i]?=some r->∃u,us[i]?=some u/\Q9l P a.tmps w u r)(hn:us.length≠1):(results fn a.tmps).run P w=.ok (.tuple us.toArray) w:=by
 have h1:=UU rs.toList us hl h;have h2:(results fn a.tmps)=(do let vs <-rs.mapM (Qtw a.tmps);pure (if h:vs.size=1 then vs[0]else .tuple vs)):=by rw[<-hres];rfl
 rw[h2,Array.mapM_eq_mapM_toList];simp[h1,hn]
end
inductive CLe:CA->CA->Prop
 |refl (x:CA):CLe x x
 |sub {x:CA} {c:C} (h:CSub x c):CLe x (.d c)
inductive CLs:List CA->List CA->Prop
 |nil:CLs [] []
 |cons {x y:CA} {xs ys:List CA} (h:CLe x y) (t:CLs xs ys):CLs (x::xs) (y::ys)
inductive BLe:HB->HB->Prop
 |refl (x:HB):BLe x x
 |cells {T:TypeId} {xs ys:List CA} (h:CLs xs ys):BLe (.cells T xs) (.cells T ys)
theorem CLe.rel{x y:CA}(h:CLe x y){V:Vu}{w:World}{v:Value}(hv:x.rel V w v):y.rel V w v:=by cases h with|refl=>exact hv|sub h=>exact(show Reads V.S w _ v from h.reads hv)
theorem CLs.spec{xs ys:List CA}(h:CLs xs ys):xs.length=ys.length/\∀(i:Nat)(y:CA),ys[i]?=some y->∃x,xs[i]?=some x/\CLe x y:=by induction h with|nil=>exact⟨rfl,λi y hy=>by simp at hy⟩|cons h t ih=>refine⟨by simp[ih.1],λi y hy=>?_⟩;cases i with|zero=>simp at hy;subst hy;exact⟨_,rfl,h⟩|succ i=>exact ih.2 i y (by simpa using hy)
theorem CLs.rel{xs ys:List CA}(h:CLs xs ys){V:Vu}{w:World}{vs:Array Value}(hv:rels V w xs vs):rels V w ys vs:=by obtain⟨h1,h2⟩:=h.spec;exact⟨hv.1.trans h1,λi y hy=>let⟨x,hx,hxy⟩:=h2 i y hy;let⟨u,h3,h4⟩:=hv.2 i x hx;⟨u,h3,hxy.rel h4⟩⟩
theorem BLe.rel{x y:HB}(h:BLe x y){V:Vu}{w:World}{o:Obj}(hv:x.rel V w o):y.rel V w o:=by cases h with|refl=>exact hv|cells h=>obtain⟨vs,h1,h2⟩:=hv;exact⟨vs,h1,h.rel h2⟩
inductive TLe:TV->TV->Prop
 |refl (x:TV):TLe x x
 |unk (x:TV):TLe x .unk
 |sub {x:CA} {c:C} (h:CSub x c):TLe (.v (.one x)) (.v (.one (.d c)))
 |agg {xs ys:List CA} (h:CLs xs ys):TLe (.v (.agg xs)) (.v (.agg ys))
theorem TLe.rel{x y:TV}(h:TLe x y){V:Vu}{w:World}{v:Value}(hv:x.rel V w v):y.rel V w v:=by cases h with|refl=>exact hv|unk=>trivial|sub h=>exact(show Reads V.S w _ v from h.reads hv)|agg h=>obtain⟨vs,h1,h2⟩:=hv;exact⟨vs,h1,h.rel h2⟩
def tmLe(tm:List (Nat×TV)):List (Nat×TV)->Prop|[]=>True|(t,y)::r=>(∃x,lk tm t=some x/\TLe x y)/\tmLe tm r
theorem tmLe.get{tm:List (Nat×TV)}:∀{tm':List (Nat×TV)},tmLe tm tm'->∀t y,lk tm' t=some y->∃x,lk tm t=some x/\TLe x y
 |[],_,t,y,h=>by cases h
 |(k,z)::r,hl,t,y,h=>by
  rw[Q8]at h;split at h
  · rename_i e;subst e;cases h;exact hl.1
  · exact hl.2.get t y h
def hpLe(hp:List (Nat×HB)):List (Nat×HB)->Prop|[]=>True|(t,y)::r=>(∃x,lk hp t=some x/\BLe x y)/\hpLe hp r
theorem hpLe.get{hp:List (Nat×HB)}:∀{hp':List (Nat×HB)},hpLe hp hp'->∀t y,lk hp' t=some y->∃x,lk hp t=some x/\BLe x y
 |[],_,t,y,h=>by cases h
 |(k,z)::r,hl,t,y,h=>by
  rw[Q8]at h;split at h
  · rename_i e;subst e;cases h;exact hl.1
  · exact hl.2.get t y h
def tkLe(tk:List (Nat×Option Tok)):List (Nat×Option Tok)->Prop|[]=>True|(t,y)::r=>(∀T,y=some T->lk tk t=some (some T))/\tkLe tk r
theorem tkLe.get{tk:List (Nat×Option Tok)}:∀{tk':List (Nat×Option Tok)},tkLe tk tk'->∀t T,lk tk' t=some (some T)->lk tk t=some (some T)
 |[],_,t,y,h=>by cases h
 |(k,z)::r,hl,t,y,h=>by
  rw[Q8]at h;split at h
  · rename_i e;subst e;cases h;exact hl.1 _ rfl
  · exact hl.2.get t y h
def CA.below(m:Nat):CA->Prop|.ptr i _=>i<m|.fn _ caps=>∀p∈caps,p.1<m|.app i _ _=>i<m|.apv i _ _ _=>i<m|.tp i _ _=>i<m|.osl i _ _ _=>i<m|.mp i=>i<m|.yld i=>i<m|_=>True
def AV.below(m:Nat):AV->Prop|.one x=>x.below m|.agg xs=>∀x∈xs,x.below m
def TV.below(m:Nat):TV->Prop|.v x=>x.below m|.tup xs=>∀x∈xs,x.below m|.unk=>True
def Qbg(m:Nat)(es:List (Value×AV×Nat)):Prop:=∀e∈es,e.2.1.below m
def HB.below(m:Nat):HB->Prop|.cells _ xs=>∀x∈xs,x.below m|.obj _=>True|.loop _ _ tm _ _ _ _ D=>D<m/\∀t x,lk tm t=some x->x.below m|.mp es _=>Qbg m es
def tmBelow(m:Nat):List (Nat×TV)->Prop|[]=>True|(_,x)::r=>x.below m/\tmBelow m r
def hpBelow(m:Nat):List (Nat×HB)->Prop|[]=>True|(i,x)::r=>i<m/\x.below m/\hpBelow m r
def tkBelow(m:Nat):List (Nat×Option Tok)->Prop|[]=>True|(i,_)::r=>i<m/\tkBelow m r
theorem tmBelow.get{m:Nat}:∀{l:List (Nat×TV)},tmBelow m l->∀t x,lk l t=some x->x.below m
 |[],_,t,y,h=>by cases h
 |(k,z)::r,hl,t,y,h=>by
  rw[Q8]at h;split at h
  · cases h;exact hl.1
  · exact hl.2.get t y h
theorem hpBelow.get{m:Nat}:∀{l:List (Nat×HB)},hpBelow m l->∀t x,lk l t=some x->t<m/\x.below m
 |[],_,t,y,h=>by cases h
 |(k,z)::r,hl,t,y,h=>by
  rw[Q8]at h;split at h
  · rename_i e;subst e;cases h;exact⟨hl.1,hl.2.1⟩
  · exact hl.2.2.get t y h
theorem tkBelow.get{m:Nat}:∀{l:List (Nat×Option Tok)},tkBelow m l->∀t x,lk l t=some x->t<m
 |[],_,t,y,h=>by cases h
 |(k,z)::r,hl,t,y,h=>by
  rw[Q8]at h;split at h
  · rename_i e;subst e;exact hl.1
  · exact hl.2.get t y h
theorem CA.rel.trim{V:Vu}{w:World}{m:Nat}{x:CA}{v:Value}(h:x.rel V w v)(hb:x.below m):x.rel {V with nx:=m} w v:=by cases x with|ptr i off=>exact⟨hb,h.2⟩|fn f caps=>exact⟨hb,h.2⟩|app i sz es=>exact⟨hb,h.2⟩|apv i sz n es=>exact⟨hb,h.2⟩|tp i n off=>exact⟨hb,h.2⟩|osl i off len cap=>exact⟨hb,h.2⟩|mp i=>exact⟨hb,h.2⟩|yld i=>exact⟨hb,h.2⟩|d c=>exact h|pel e off=>exact h|clo f caps=>exact h|any=>exact h
theorem rels.trim{V:Vu}{w:World}{m:Nat}{xs:List CA}{vs:Array Value}(h:rels V w xs vs)(hb:∀x∈xs,x.below m):rels {V with nx:=m} w xs vs:=⟨h.1,λi x hx=>let⟨u,h1,h2⟩:=h.2 i x hx;⟨u,h1,h2.trim (hb x (Cr hx))⟩⟩
theorem AV.rel.trim{V:Vu}{w:World}{m:Nat}{x:AV}{v:Value}(h:x.rel V w v)(hb:x.below m):x.rel {V with nx:=m} w v:=by cases x with|one x=>exact CA.rel.trim h hb|agg xs=>obtain⟨vs,h1,h2⟩:=h;exact⟨vs,h1,h2.trim hb⟩
theorem TV.rel.trim{V:Vu}{w:World}{m:Nat}{x:TV}{v:Value}(h:x.rel V w v)(hb:x.below m):x.rel {V with nx:=m} w v:=by cases x with|v x=>exact AV.rel.trim h hb|tup xs=>(obtain⟨vs,h1,h2,h3⟩:=h;exact⟨vs,h1,h2,λi x hx=>let⟨u,h4,h5⟩:=h3 i x hx;⟨u,h4,h5.trim (hb x (Cr hx))⟩⟩)|unk=>trivial
structure StLe(E:Env)(st st':St):Prop where
 tm:tmLe st.tm st'.tm
 hp:hpLe st.hp st'.hp
 tk:tkLe st.tk st'.tk
 nx:st'.nx<=st.nx
 v0:E.V0.nx<=st'.nx
 nt:st.nt=st'.nt
 df:st.df=st'.df
 btm:tmBelow st'.nx st'.tm
 bhp:hpBelow st'.nx st'.hp
 btk:tkBelow st'.nx st'.tk
 bdf:∀i,i∈st'.df.tail->i<st'.nx
theorem HRel.forgetLe{E:Env}{V:Vu}{hp hp':List (Nat×HB)}{tk tk':List (Nat×Option Tok)}{w:World}(h:HRel E V hp tk w)(hh:hpLe hp hp')(ht:tkLe tk tk'):HRel E V hp' tk' w:=by refine⟨h.ext,h.le0,h.sz,h.sub,λi B hi=>?_,λi j A B hi hj=>?_,λi B hi=>?_,λi T hi=>?_,λi j T U g hi hj=>h.tki i j T U g (ht.get i T hi) (ht.get j U hj)⟩;obtain⟨x,hx,hxy⟩:=hh.get i B hi;obtain⟨h1,o,h2,h3⟩:=h.own i x hx;exact⟨h1,o,h2,hxy.rel h3⟩;obtain⟨x,hx,-⟩:=hh.get i A hi;obtain⟨y,hy,-⟩:=hh.get j B hj;exact h.inj i j x y hx hy;obtain⟨x,hx,-⟩:=hh.get i B hi;exact h.new i x hx;obtain⟨h1,h2,xs,h3,h4⟩:=h.tok i T (ht.get i T hi);refine⟨h1,h2,xs,h3,λg hg=>⟨(h4 g hg).1,(h4 g hg).2.1,λj B hj=>?_⟩⟩;obtain⟨x,hx,-⟩:=hh.get j B hj;exact(h4 g hg).2.2 j x hx
theorem Rel.less{E:Env}{V:Vu}{st st':St}{a:Act}{w:World}(h:Rel E V st a w)(hl:StLe E st st'):∃V',Rel E V' st' a w:=by
 have H:=h.h.forgetLe hl.hp hl.tk;refine⟨{V with nx:=st'.nx},⟨H.ext,⟨hl.v0,H.le0.ι,H.le0.cu,H.le0.κ,H.le0.S,H.le0.cell,H.le0.dk⟩,H.sz,H.sub,?_,H.inj,H.new,?_,?_⟩,rfl,h.nt.trans hl.nt,(by have:=h.df;rw[hl.df]at this;exact this.trim hl.bdf),?_⟩;intro i B hi;obtain⟨h1,h2⟩:=hl.bhp.get i B hi;obtain⟨-,o,ho,hB⟩:=H.own i B hi;refine⟨h1,o,ho,?_⟩;cases B with|cells T xs=>(obtain⟨vs,h3,h4⟩:=hB;exact⟨vs,h3,h4.trim h2⟩)|obj o'=>exact hB|loop s p tm nt ps assign body D=>(obtain⟨-,fn,tmps,h3,h4,h5⟩:=hB;exact⟨h2.1,fn,tmps,h3,h4,λt x hx=>(h5 t x hx).trim (h2.2 t x hx)⟩)|mp es clock=>obtain⟨ents,h3,h4,h5⟩:=hB;exact⟨ents,h3,h4,λi k x b hi=>let⟨v,h6,h7⟩:=h5 i k x b hi;⟨v,h6,h7.trim (h2 _ (Cr hi))⟩⟩
 intro i T hi;obtain⟨h1,hcu,xs,h2,h3⟩:=H.tok i T hi;exact⟨hl.btk.get i _ hi,hcu,xs,h2,h3⟩;exact H.tki;intro t y hy;obtain⟨x,hx,hxy⟩:=hl.tm.get t y hy;exact(hxy.rel (h.tm t x hx)).trim (hl.btm.get t y hy)
section
variable{E:Env}{ro:Option Nat}{n:Nat}{Q:Exit->Act->World->Prop}{st:St}
theorem Qnk{c:Code}{st':St}(hl:StLe E st st')(h:XC E ro n Q c st'):XC E ro n Q c st:=λV a w hr=>by obtain⟨V',hr'⟩:=hr.less hl;exact h V' a w hr'
theorem X5{e:Exit}{st':St}(hl:StLe E st st')(h:XQ E Q e st'):XQ E Q e st:=λV a w hr=>by obtain⟨V',hr'⟩:=hr.less hl;exact h V' a w hr'
theorem WH{F:Fence}{P:Program}{a:Act}{w:World}{c:Code}(I:Nat->Act->World->Prop)(n₀:Nat)(h₀:I n₀ a w)(round:∀k a w,I k a w->DO F n P c (Exit.then (λa' w'=>∃k',k'<k/\I k' a' w') Q) a w):DO F n P (.loop c) Q a w:=by refine Qqj (λa w=>∃n,I n a w) (λa w=>leastOf (λn=>I n a w)) ⟨n₀,h₀⟩ ?_;intro a w hI;refine WG (round _ a w (leastOf_spec hI).1) ?_;intro e a' w' hq;cases e with|normal=>(obtain⟨n',hlt,hI'⟩:=hq;exact show(∃n,I n a' w')/\leastOf (λn=>I n a' w')<leastOf (λn=>I n a w)from⟨⟨n',hI'⟩,Nat.lt_of_le_of_lt ((leastOf_spec ⟨n',hI'⟩).2 n' hI') hlt⟩)|exit id=>exact hq|goto l=>exact hq|ret=>exact hq|panic ch=>exact hq|outgrown=>exact hq
def J61{X:Type}(E:Env)(inv:X->St)(ok:X->Prop)(μ:X->Nat)(k:Nat)(a:Act)(w:World):Prop:=∃x' V,μ x'<k/\ok x'/\Rel E V (inv x') a w
theorem Qzl{X:Type}{c:Code}(inv:X->St)(ok:X->Prop)(μ:X->Nat)(x0:X)(h0:StLe E st (inv x0))(hok:ok x0)(round:∀x,ok x->XC E ro n (Exit.then (J61 E inv ok μ (μ x)) Q) c (inv x)):XC E ro n Q (.loop c) st:=by intro V a w hr;obtain⟨V',hr'⟩:=hr.less h0;refine WH (λk a w=>∃x V,μ x=k/\ok x/\Rel E V (inv x) a w) (μ x0) ⟨x0,V',Z,hok,hr'⟩ ?_;rintro k a w ⟨x,V,rfl,hx,hr⟩;refine WG (round x hx V a w hr) ?_;intro e a' w' hq;cases e with|normal=>(obtain⟨x',V',h1,h2,h3⟩:=hq;exact⟨μ x',h1,x',V',Z,h2,h3⟩)|exit id=>exact hq|goto l=>exact hq|ret=>exact hq|panic ch=>exact hq|outgrown=>exact hq
theorem Qzk{X:Type}{inv:X->St}{ok:X->Prop}{μ:X->Nat}{k:Nat}(x':X)(hl:StLe E st (inv x'))(hok:ok x')(hμ:μ x'<k):XQ E (Exit.then (J61 E inv ok μ k) Q) .normal st:=λV a w hr=>by obtain⟨V',hr'⟩:=hr.less hl;exact⟨x',V',hμ,hok,hr'⟩
end
end
section
section
open Go.RowKit
section
variable{E:Env}{ro:Option Nat}{n:Nat}{ops:Array Oper}{Q:Exit->Act->World->Prop}{Qs:World->Act->Prop}{rest:List Oper}{st:St}{o:Oper}
theorem Rel.drew{V:Vu}{a:Act}{w:World}(h:Rel E V st a w):Rel E V st a {w with drawn:=w.drawn+1}:=h.later (V':=V) ⟨rfl,rfl,rfl,Cl _,λ_ _ _=>rfl⟩ ⟨Cl _,λ_ _=>rfl,λ_ _=>rfl,λ_ _ _ _=>rfl,λ_ _ h=>h,λ_ _ h=>.inl h,h.h.sz⟩ rfl
end
end
section
open Go.RowKit
inductive BCaps(hp:List (Nat×HB)):List (Nat×Nat)->List (List C×Nat)->Prop
 |nil:BCaps hp [] []
 |cons {i off:Nat} {T:TypeId} {xs:List CA} {e:List C} {l:List (Nat×Nat)} {l':List (List C×Nat)} (hi:lk hp i=some (.cells T xs)) (hs:CSubs xs e) (t:BCaps hp l l'):BCaps hp ((i,off)::l) ((e,off)::l')
inductive BSub(hp:List (Nat×HB)):AV->AV->Prop
 |ptr {i off:Nat} {T:TypeId} {xs:List CA} {e:List C} (hi:lk hp i=some (.cells T xs)) (hs:CSubs xs e):BSub hp (.one (.ptr i off)) (.one (.pel e off))
 |fn {f:FuncId} {l:List (Nat×Nat)} {l':List (List C×Nat)} (h:BCaps hp l l'):BSub hp (.one (.fn f l)) (.one (.clo f l'))
 |pel {e:List C} {off:Nat}:BSub hp (.one (.pel e off)) (.one (.pel e off))
 |clo {f:FuncId} {l:List (List C×Nat)}:BSub hp (.one (.clo f l)) (.one (.clo f l))
 |sub {x y:AV} (h:ASub x y):BSub hp x y
section
variable{E:Env}{st:St}{d:Nat}{ty:TypeId}{pos:String}{af:Array Edge}{g:Option (Nat×Bool)}{V:Vu}{a:Act}{w:World}
inductive Plain:TV->Prop
 |v (y:Value) (h:y.oneCell'=true):Plain (Gh y)
 |tup (ys:List Value) (h:∀y∈ys,y.oneCell'=true):Plain (.tup (ys.map λy=>.one (.d (.v y))))
theorem Ul{f:FuncId}{cs:Array Operand}{caps:List (Nat×Nat)}{dd:Option Tmp}(hn:cs.size=caps.length)(h:∀(k:Nat)(p:Nat×Nat),caps[k]?=some p->∃o,cs[k]?=some o/\ev st.tm o=some (.v (.one (.ptr p.1 p.2)))):RO E ⟨dd,.makeFunc (.func f) #[] cs,ty,pos,af,g⟩ st (.v (.one (.fn f caps))):=by
 refine⟨(λ_ h=>nomatch h),λV a w hr=>⟨.func (.func f) #[] (cs.map a.eval),by simp[execOp,Instr.makeFunc],λp hp=>?_,?_⟩⟩;obtain⟨k,hk⟩:=PH hp;obtain⟨o,-,h2⟩:=h k p hk;exact(hr.ev h2).1;congr 1;apply Array.ext;simp[hn];intro k h1 h2;have hk:k<caps.length:=by simpa using h2
 obtain⟨o,h3,h4⟩:=h k _ (Cm hk);have h5:=(hr.ev h4).2;have h6:cs[k]'(by simpa using h1)=o:=by have:=P7 (xs:=cs) (i:=k) (by simpa using h1);rw[h3]at this;exact(Cw this).symm
 simp[h6,h5]
theorem Wv{f:FuncId}{o1:Operand}{i1 k1:Nat}{dd:Option Tmp}(h1:ev st.tm o1=some (.v (.one (.ptr i1 k1)))):RO E ⟨dd,.makeFunc (.func f) #[] #[o1],ty,pos,af,g⟩ st (.v (.one (.fn f [(i1,k1)]))):=
 Ul rfl (λk p hk=>by
  match k,hk with
  |0,hk=>cases hk;exact⟨o1,rfl,h1⟩)
end
end
section
open Go.RowKit
def Q50(P:Program)(t:TypeId):Option (List (Nat×Nat)):=match P.underlying t with|some (.struct fs)=>fs.toList.mapM λf=>(P.info? f.type).map λi=>(f.offset,i.size)|some (.array n e)=>(P.info? e).map λi=>(List.range n).map λk=>(k*i.size,i.size)|_=>none
def YA(P:Program)(t:TypeId)(pl:List (Nat×Nat))(zs:List Value):Prop:=Q50 P t=some pl/\YB P t=some zs
theorem Q5f{P:Program}(w:World):∀(fs:List Field)(pl:List (Nat×Nat)),(fs.mapM λf=>(P.info? f.type).map λi=>(f.offset,i.size))=some pl -> (fs.mapM λf=>(do pure (f.offset,<-sizeOf f.type):Sem (Nat×Nat))).run P w=.ok pl w|[],pl,h=>by simp at h;subst h;simp|f::fs,pl,h=>by simp only[List.mapM_cons]at h;cases hi:P.info? f.type with|none=>simp[hi]at h|some i=>cases hr:(fs.mapM λf=>(P.info? f.type).map λi=>(f.offset,i.size))with|none=>rw[hr]at h;simp[hi]at h|some pl'=>rw[hr]at h;simp[hi]at h;subst h;have ih:=Q5f (P:=P) w fs pl' hr;simp[List.mapM_cons,sizeOf,typeInfo,hi]at ih⊢;simp[ih]
theorem rels.setL{V:Vu}{w:World}:∀(ys:List CA)(us:List Value)(k off:Nat)(xs:List CA)(vs:Array Value),rels V w xs vs->us.length=ys.length->(∀(j:Nat)(y:CA),ys[j]?=some y->∃u,us[j]?=some u/\y.rel V w u) -> rels V w (setL xs (off+k) ys) ((us.zipIdx k).foldl (λcs (p:Value×Nat)=>cs.setIfInBounds (off+p.2) p.1) vs)|[],us,k,off,xs,vs,h,hu,_=>by have:us=[]:=Cz (by simpa using hu);subst this;simpa[Proofs.YtjcfppnjamjjhaaGreatDoor.setL]using h|y::ys,us,k,off,xs,vs,h,hu,hr=>by match us,hu with|u::us,hu=>obtain⟨u',h1,h2⟩:=hr 0 y rfl;simp at h1;subst h1;simp only[Proofs.YtjcfppnjamjjhaaGreatDoor.setL,List.zipIdx_cons,PS];rw[show off+k+1=off+(k+1) by omega];exact rels.setL ys us (k+1) off _ _ (h.set h2) (by simpa using hu) (λj z hz=>by have:=hr (j+1) z (by simpa using hz);simpa using this)
def Gz(pl:List (Nat×Nat)):List CA->List (Nat×AV)->Option (List CA)|xs,[]=>some xs|xs,(i,x)::r=>match pl[i]? with|none=>none|some (off,size)=>cond (Nat.beq x.cells.length size&&Nat.ble (off+size) xs.length) (Gz pl (setL xs off x.cells) r) none
theorem JC:∀(ys:List CA)(xs:List CA)(off:Nat),(setL xs off ys).length=xs.length|[],_,_=>rfl|y::ys,xs,off=>by simp only[setL];rw[JC ys];simp
theorem Q0k{V:Vu}{w:World}{place:Nat->Option (Nat×Nat)}{pl:List (Nat×Nat)}(hp:∀i p,pl[i]?=some p->place i=some p):∀(parts:List (Nat×AV))(vals:List (Nat×Value))(xs ys:List CA)(vs:Array Value),rels V w xs vs->vals.length=parts.length -> (∀(j i:Nat)(x:AV),parts[j]?=some (i,x)->∃v,vals[j]?=some (i,v)/\x.rel V w v)->Gz pl xs parts=some ys->∃us,Instr.fill place vs vals=some us/\rels V w ys us
 |[],vals,xs,ys,vs,h,hl,_,hf=>by have:vals=[]:=Cz (by simpa using hl);subst this;cases hf;exact⟨vs,by simp[Instr.fill],h⟩
 |(i,x)::parts,vals,xs,ys,vs,h,hl,hr,hf=>by
  match vals,hl with
  |(i',v)::vals,hl=>
   obtain⟨v',h1,h2⟩:=hr 0 i x rfl;simp at h1;obtain⟨rfl,rfl⟩:=h1;simp only[Gz]at hf;split at hf
   · cases hf
   · rename_i off size hpl
     cases hc:(Nat.beq x.cells.length size&&Nat.ble (off+size) xs.length)with
     |false=>rw[hc]at hf;cases hf
     |true=>
       rw[hc]at hf
       simp only[CD]at hc
       have e1:x.cells.length=size:=Cc hc.1
       have e2:off+size<=xs.length:=C9 hc.2
       have hcells:=h2.cells
       have hset:=rels.setL x.cells v.cells.toList 0 off xs vs h (by simpa using hcells.1) (λj y hy=>by
         obtain⟨u,hu,hy'⟩:=hcells.2 j y hy
         exact⟨u,by simpa using hu,hy'⟩)
       obtain⟨us,h3,h4⟩:=Q0k hp parts vals _ ys _ hset (by simpa using hl) (λj i' x' hx'=>by have:=hr (j+1) i' x' (by simpa using hx');simpa using this) (by simpa using hf)
       refine⟨us,?_,h4⟩
       have e3:v.cells.size=size:=by rw[hcells.1,e1]
       have e4:¬(off+size>vs.size):=by rw[h.1];omega
       simp only[Instr.fill,hp _ _ hpl,e3,e4,ne_eq,not_true_eq_false,decide_false,Bool.or_self,P4,if_false]
       rw[<-h3]
       congr 1
       rw[<-Sy]
       simp[Array.toList_zipIdx]
theorem Uq{V:Vu}{w:World}{zs:List Value}(h1:zs.all (·.oneCell')=true):rels V w (zs.map λz=>.d (.v z)) zs.toArray:=by refine⟨by simp,λi x hx=>?_⟩;rw[Cn]at hx;cases hi:zs[i]? with|none=>rw[hi]at hx;cases hx|some z'=>rw[hi]at hx;cases hx;exact⟨z',by simp[hi],Reads.v z' (Ch.1 h1 z' (Cr hi))⟩
section
variable{E:Env}{st:St}{ty:TypeId}{pos:String}{af:Array Edge}{g:Option (Nat×Bool)}{dd:Option Tmp}
theorem XO{t:TypeId}{pl:List (Nat×Nat)}{zs:List Value}{parts:Array (Nat×Operand)}{avs:List (Nat×AV)}{ys:List CA}(ht:YA E.P t pl zs)(hz:zs.all (·.oneCell')=true)(hn:parts.toList.length=avs.length)(hp:∀(j i:Nat)(x:AV),avs[j]?=some (i,x)->∃o,parts.toList[j]?=some (i,o)/\ev st.tm o=some (.v x))(hf:Gz pl (zs.map λz=>.d (.v z)) avs=some ys):RO E ⟨dd,.build t parts,ty,pos,af,g⟩ st (.v (.agg ys)):=by
 refine⟨(λ_ h=>nomatch h),λV a w hr=>?_⟩;obtain⟨hpl,hzz⟩:=ht;obtain⟨z,hz1,hz2⟩:=WI hzz;unfold Q50 at hpl;split at hpl;rename_i fs hfs;have h1:=Q5f (P:=E.P) w fs.toList pl hpl;obtain⟨us,h2,h3⟩:=Q0k (place:=λi=>pl[i]?) (λ_ _ h=>h) avs (parts.toList.map λp=>(p.1,a.eval p.2)) _ ys _ (Uq hz (V:=V) (w:=w)) (by simpa using hn) (λj i x hx=>by obtain⟨o,h4,h5⟩:=hp j i x hx;exact⟨a.eval o,by rw[Cn,h4];rfl,hr.ev h5⟩) hf;refine⟨.agg us,?_,us,Z,h3⟩;have h6:(fs.mapM λf=>(do pure (f.offset,<-sizeOf f.type):Sem (Nat×Nat))).run E.P w=.ok pl.toArray w:=by rw[Array.mapM_eq_mapM_toList];show((fs.toList.mapM λf=>(do pure (f.offset,<-sizeOf f.type):Sem (Nat×Nat))) >>= λx=>pure x.toArray:Sem _).run E.P w=_;rw[Sem.run_bind,h1];rfl
 simp only[execOp,Instr.build,Sem.run_bind,hz1,Result.andThen_ok,run_underlying hfs,h6,hz2,Array.toList_map];simp[h2];rename_i m e hfs;cases hi:E.P.info? e with
 |none=>rw[hi]at hpl;cases hpl
 |some inf=>
  rw[hi]at hpl;have hpl':=Cw hpl;obtain⟨us,h2,h3⟩:=Q0k (place:=λi=>some (i*inf.size,inf.size)) (λi p h=>by
   rw[<-hpl',Cn]at h;cases hk:(List.range m)[i]? with
   |none=>rw[hk]at h;cases h
   |some k=>rw[hk]at h;obtain⟨h7,h8⟩:=Ce.1 hk;rw[List.getElem_range]at h8;subst h8;exact h) avs (parts.toList.map λp=>(p.1,a.eval p.2)) _ ys _ (Uq hz (V:=V) (w:=w)) (by simpa using hn) (λj i x hx=>by
   obtain⟨o,h4,h5⟩:=hp j i x hx;exact⟨a.eval o,by rw[Cn,h4];rfl,hr.ev h5⟩) hf
  refine⟨.agg us,?_,us,Z,h3⟩;have h6:(sizeOf e).run E.P w=.ok inf.size w:=by simp[sizeOf,typeInfo,program,Sem.run,hi]
  simp only[execOp,Instr.build,Sem.run_bind,hz1,Result.andThen_ok,run_underlying hfs,h6,hz2,Array.toList_map];simp[h2]
 cases hpl
theorem Zc{t:TypeId}{pl:List (Nat×Nat)}{zs:List Value}(ht:YA E.P t pl zs)(hz:zs.all (·.oneCell')=true):RO E ⟨dd,.build t #[],ty,pos,af,g⟩ st (.v (.agg (zs.map λz=>.d (.v z)))):=XO (avs:=[]) ht hz rfl (λj i x hx=>by simp at hx) rfl
theorem Gi{t i1:Nat}{pl:List (Nat×Nat)}{zs:List Value}{o1:Operand}{x1:AV}{ys:List CA}(ht:YA E.P t pl zs)(hz:zs.all (·.oneCell')=true)(h1:ev st.tm o1=some (.v x1))(hf:Gz pl (zs.map λz=>.d (.v z)) [(i1,x1)]=some ys):RO E ⟨dd,.build t #[(i1,o1)],ty,pos,af,g⟩ st (.v (.agg ys)):=
 XO (avs:=[(i1,x1)]) ht hz rfl (λj i x hx=>by
  match j,hx with
  |0,hx=>cases hx;exact⟨o1,rfl,h1⟩) hf
theorem QX{t i1 i2:Nat}{pl:List (Nat×Nat)}{zs:List Value}{o1 o2:Operand}{x1 x2:AV}{ys:List CA}(ht:YA E.P t pl zs)(hz:zs.all (·.oneCell')=true)(h1:ev st.tm o1=some (.v x1))(h2:ev st.tm o2=some (.v x2))(hf:Gz pl (zs.map λz=>.d (.v z)) [(i1,x1),(i2,x2)]=some ys):RO E ⟨dd,.build t #[(i1,o1),(i2,o2)],ty,pos,af,g⟩ st (.v (.agg ys)):=
 XO (avs:=[(i1,x1),(i2,x2)]) ht hz rfl (λj i x hx=>by
  match j,hx with
  |0,hx=>cases hx;exact⟨o1,rfl,h1⟩
  |1,hx=>cases hx;exact⟨o2,rfl,h2⟩) hf
theorem Qam{t i1 i2 i3:Nat}{pl:List (Nat×Nat)}{zs:List Value}{o1 o2 o3:Operand}{x1 x2 x3:AV}{ys:List CA}(ht:YA E.P t pl zs)(hz:zs.all (·.oneCell')=true)(h1:ev st.tm o1=some (.v x1))(h2:ev st.tm o2=some (.v x2))(h3:ev st.tm o3=some (.v x3))(hf:Gz pl (zs.map λz=>.d (.v z)) [(i1,x1),(i2,x2),(i3,x3)]=some ys):RO E ⟨dd,.build t #[(i1,o1),(i2,o2),(i3,o3)],ty,pos,af,g⟩ st (.v (.agg ys)):=
 XO (avs:=[(i1,x1),(i2,x2),(i3,x3)]) ht hz rfl (λj i x hx=>by
  match j,hx with
  |0,hx=>cases hx;exact⟨o1,rfl,h1⟩
  |1,hx=>cases hx;exact⟨o2,rfl,h2⟩
  |2,hx=>cases hx;exact⟨o3,rfl,h3⟩) hf
end
end
end
section
open Go.RowKit
theorem Q0h{α:Type}{sz:Nat}:∀(es:List (List α)),(∀e∈es,e.length=sz)->∀(i j:Nat)(e:List α),es[i]?=some e->j<sz->es.flatten[i*sz+j]?=e[j]?|[],_,i,j,e,h,_=>by simp at h|e0::es,hl,0,j,e,h,hj=>by simp at h;subst h;rw[PV,Nat.zero_mul,Pd,CG (by rw[hl e0 (by simp)];exact hj)]|e0::es,hl,i+1,j,e,h,hj=>by have h0:=hl e0 (by simp);rw[PV,CQ (by rw[h0,Sw];omega),h0];rw[show(i+1)*sz+j-sz=i*sz+j by rw[Sw];omega];exact Q0h es (λe he=>hl e (by simp[he])) i j e (by simpa using h) hj
theorem Yx{α:Type}{sz:Nat}:∀(es:List (List α)),(∀e∈es,e.length=sz)->es.flatten.length=es.length*sz|[],_=>by simp|e::es,hl=>by rw[PV,C8,hl e (by simp),Yx es (λe he=>hl e (by simp[he])),C1,Sw,Nat.add_comm]
theorem Reads.row{S:Nat->Nat->Prop}{w:World}{sz:Nat}{es:List (List C)}{v:Value}(h:Reads S w (.sl sz es) v):(∀e∈es,e.length=sz)/\∃(a:Option Addr)(cap b off:Nat)(us:List Value),v=.slice a es.length cap/\es.length<=cap/\(es≠[]->a=some ⟨b,off,none⟩)/\us.length=es.length*sz /\ ∀(k:Nat)(c:C),es.flatten[k]?=some c->∃u,us[k]?=some u/\w.cell? ⟨b,off+k,none⟩=some u/\S b (off+k)/\Reads S w c u:=by
 cases h with
 |sl _ _ a cap b off f hcap ha hl hc hs hr=>
  have hall:∀e∈es,e.length=sz:=λe he=>by obtain⟨i,hi⟩:=PH he;exact hl i e hi
  refine⟨hall,a,cap,b,off,(List.range (es.length*sz)).map (λk=>f (k / sz) (k%sz)),rfl,hcap,ha,by simp,λk c hk=>?_⟩;have hlt:k<es.length*sz:=by have:=(Ce.1 hk).1;rwa [Yx es hall]at this
  have hsz:0<sz:=by rcases Sz sz with h0|h0;(· subst h0;simp at hlt);exact h0
  have hi:k / sz<es.length:=Nat.div_lt_of_lt_mul (by rw[SJ];exact hlt);have he:=Cm hi;have hj:k%sz<sz:=Nat.mod_lt _ hsz;have hkk:k / sz*sz+k%sz=k:=by rw[SJ];exact Nat.div_add_mod k sz
  have hc':=Q0h es hall (k / sz) (k%sz) _ he hj;rw[hkk,hk]at hc';refine⟨f (k / sz) (k%sz),by simp[hlt],?_,?_,hr _ _ _ c he hc'.symm⟩;have:=hc _ _ _ c he hc'.symm;rwa [PB,hkk]at this;have:=hs _ _ _ c he hc'.symm;rwa [PB,hkk]at this
theorem Wu{S:Nat->Nat->Prop}{w:World}{sz b off cap:Nat}{es:List (List C)}{us:Nat->Value}(hl:∀e∈es,e.length=sz)(hcap:es.length<=cap)(h:∀(k:Nat)(c:C),es.flatten[k]?=some c->w.cell? ⟨b,off+k,none⟩=some (us k)/\S b (off+k)/\Reads S w c (us k)):Reads S w (.sl sz es) (.slice (some ⟨b,off,none⟩) es.length cap):=by
 have key:∀(i:Nat)(e:List C)(j:Nat)(c:C),es[i]?=some e->e[j]?=some c->es.flatten[i*sz+j]?=some c:=λi e j c hi hj=>by(have hj':j<sz:=by have:=(Ce.1 hj).1;rwa [hl e (Cr hi)]at this);rw[Q0h es hl i j e hi hj'];exact hj
 exact .sl sz es _ cap b off (λi j=>us (i*sz+j)) hcap (λ_=>rfl) (λi e hi=>hl e (Cr hi)) (λi e j c hi hj=>by rw[PB];exact(h _ c (key i e j c hi hj)).1) (λi e j c hi hj=>by rw[PB];exact(h _ c (key i e j c hi hj)).2.1) (λi e j c hi hj=>(h _ c (key i e j c hi hj)).2.2)
def Vu.tok(V:Vu)(i n:Nat)(v:Value)(g m:Nat):Vu:={nx:=max V.nx (i+1),ι:=V.ι,κ:=λj k=>if j=i/\k=n then v else V.κ j k,cu:=λj=>if j=i then n else V.cu j,S:=λb o=>V.S b o\/(b=g/\o<m)}
section
variable{E:Env}{V:Vu}{hp:List (Nat×HB)}{tk:List (Nat×Option Tok)}{w w':World}
theorem Qh8{i n g m:Nat}{v:Value}(hi:i=V.nx\/(i<V.nx/\V.cu i<n))(hcell:∀b o,V.S b o->w'.cell? ⟨b,o,none⟩=w.cell? ⟨b,o,none⟩)(hdk:∀b o,V.S b o->∀ds,w.heap[b]?=some (.deferred ds)->w'.heap[b]?=some (.deferred ds)):V.Le (V.tok i n v g m) w w':=
 ⟨Nat.le_max_left _ _,λ_ _=>rfl,λj hj=>by
  show V.cu j<=if j=i then n else V.cu j
  split;rename_i e;subst e;rcases hi with h|h <;> omega
  exact Cl _,λj hj k hk=>by
  show(if j=i/\k=n then v else V.κ j k)=_;rw[Ca];rintro⟨rfl,rfl⟩;rcases hi with h|h <;> omega,λ_ _ h=>.inl h,hcell,hdk⟩
theorem YO{i n g m:Nat}{v:Value}:(V.tok i n v g m).κ i n=v:=by show(if i=i/\n=n then v else _)=v;rw[Cf ⟨rfl,rfl⟩]
theorem tok_cu{i n g m:Nat}{v:Value}:(V.tok i n v g m).cu i=n:=by show(if i=i then n else _)=n;rw[Cf rfl]
theorem Yp{i n g m j k:Nat}{v:Value}(h:j≠i):(V.tok i n v g m).κ j k=V.κ j k:=by show(if j=i/\k=n then v else _)=_;rw[Ca (λh'=>h h'.1)]
theorem HRel.tokNewP(h:HRel E V hp tk w){i n g e sz cap:Nat}{cur:Array Value}(pv:List C)(hpl:pv.length<=n*sz)(hpv:∀(j:Nat)(c:C),pv[j]?=some c->∃u,cur[n*sz-pv.length+j]?=some u/\Reads V.S w c u)(hi:i=V.nx\/(i<V.nx/\V.cu i<n))(hx:Xi w w')(hg:w.heap.size<=g)(hc:w'.heap[g]?=some (.cells cur e (0,0)))(hcs:cur.size=cap*sz)(hn:n<=cap)(hm:cap<=maxLen):HRel E (V.tok i n (.slice (some ⟨g,0,none⟩) n cap) g (n*sz-pv.length)) hp ((i,some ⟨e,sz,n,pv⟩)::tk) w'/\V.Le (V.tok i n (.slice (some ⟨g,0,none⟩) n cap) g (n*sz-pv.length)) w w':=by
 have hle:=Qh8 (V:=V) (g:=g) (m:=n*sz-pv.length) (v:=.slice (some ⟨g,0,none⟩) n cap) (w:=w) (w':=w') hi (λb o hs=>hx.cell (h.sz b o hs) (λh=>h)) (λb o hs ds hd=>(hx.block b (h.sz b o hs) (λh=>h)).trans hd);refine⟨⟨?_,h.le0.trans hle,?_,?_,?_,?_,?_,?_,?_⟩,hle⟩;exact h.ext.trans ⟨hx.os,hx.tape,hx.output,hx.size,λk hk _=>hx.block k hk (λh=>h)⟩;rintro b o (hs|⟨rfl,-⟩);exact Ci (h.sz b o hs) hx.size;exact YF hc;rintro b o (hs|⟨rfl,-⟩);exact h.sub b o hs;exact .inr (.inl (Cg h.ext.size hg));intro j B hj;obtain⟨h1,o,ho,hB⟩:=h.own j B hj;exact⟨Ci h1 hle.nx,o,(hx.block _ (YF ho) (λh=>h)).trans ho,hB.mono hle⟩;exact h.inj;intro j B hj;refine⟨(h.new j B hj).1,λo hs=>?_⟩;rcases hs with hs|⟨e1,-⟩;exact(h.new j B hj).2 o hs;obtain⟨-,o',ho',-⟩:=h.own j B hj;have:=YF ho';have e2:V.ι j=g:=e1;omega;intro j T hj;rw[Q8]at hj;split at hj;rename_i e1;subst e1;cases hj;refine⟨Ci (Cv _) (S0 _ _),tok_cu.symm,cur.toList.take (n*sz),?_,?_⟩;refine⟨?_,hpl,λj c hj=>?_⟩;rw[YO];refine⟨?_,.inr ⟨g,cap,cur,Z,Cd _,hc,hn,hm,hcs,Z⟩⟩;rw[CH,Pv,hcs];exact Nat.min_eq_left (Pq _ hn);obtain⟨u,hu1,hu2⟩:=hpv j c hj;have hjl:j<pv.length:=(Ce.1 hj).1;refine⟨u,?_,Reads.mono hle.S hle.cell hu2⟩;show(cur.toList.take (n*sz))[n*sz-pv.length+j]?=some u;rw[Pe,Cf (by omega),Pz];exact hu1;intro g' hg';rw[YO]at hg';obtain rfl:g=g':=Cw (show some g=some g' from hg');refine⟨.inl (Cg h.ext.size hg),λo hs=>?_,λk B hk=>?_⟩;rcases hs with hs|⟨-,hs⟩;have:=h.sz _ _ hs;omega;exact hs;obtain⟨-,o',ho',-⟩:=h.own k B hk;have:=YF ho';show V.ι k≠g;omega;rename_i e1;have e2:j≠i:=λh=>e1 h.symm;obtain⟨h1,hcu,xs,hown,hg2⟩:=h.tok j T hj;rw[Yp e2];refine⟨Ci h1 hle.nx,by rw[hcu];show _=if j=i then n else V.cu j;rw[Ca e2],xs,?_,λg' hg'=>?_⟩;exact hown.keepW (Yp e2) (hown.1.kept (row:=none) ⟨hx.os,hx.tape,hx.output,hx.size,λk hk _=>hx.block k hk (λh=>h)⟩ (by cases(V.κ j T.n).ownBlock <;> simp)) hle.lx;obtain⟨a1,a2,a3⟩:=hg2 g' hg';have hgl:=(hown.1.lt g' hg').2;refine⟨a1,λo hs=>?_,a3⟩;rcases hs with hs|⟨e3,-⟩;exact a2 o hs;omega;intro j k T U g' hj hk ej ek;rw[Q8]at hj hk;have key:∀j T,lk tk j=some (some T)->j≠i->(V.κ j T.n).ownBlock=some g'->g'<w.heap.size:=λj T hj _ e=>by obtain⟨-,-,xs,hown,-⟩:=h.tok j T hj;exact(hown.1.lt g' e).2
 split at hj <;> split at hk;rename_i e1 e2;exact e1.symm.trans e2;rename_i e1 e2;subst e1;cases hj;rw[YO]at ej;obtain rfl:g=g':=Cw (show some g=some g' from ej);rw[Yp (λh=>e2 h.symm)]at ek;have:=key k U hk (λh=>e2 h.symm) ek;omega;rename_i e1 e2;subst e2;cases hk;rw[YO]at ek;obtain rfl:g=g':=Cw (show some g=some g' from ek);rw[Yp (λh=>e1 h.symm)]at ej;have:=key j T hj (λh=>e1 h.symm) ej;omega;rename_i e1 e2;rw[Yp (λh=>e1 h.symm)]at ej;rw[Yp (λh=>e2 h.symm)]at ek;exact h.tki j k T U g' hj hk ej ek
theorem HRel.tokNew(h:HRel E V hp tk w){i n g e sz cap:Nat}{cur:Array Value}(hi:i=V.nx\/(i<V.nx/\V.cu i<n))(hx:Xi w w')(hg:w.heap.size<=g)(hc:w'.heap[g]?=some (.cells cur e (0,0)))(hcs:cur.size=cap*sz)(hn:n<=cap)(hm:cap<=maxLen):HRel E (V.tok i n (.slice (some ⟨g,0,none⟩) n cap) g (n*sz)) hp ((i,some ⟨e,sz,n,[]⟩)::tk) w'/\V.Le (V.tok i n (.slice (some ⟨g,0,none⟩) n cap) g (n*sz)) w w':=h.tokNewP [] (Cd _) (λj c hj=>by simp at hj) hi hx hg hc hcs hn hm
theorem HRel.tokRoomP(h:HRel E V hp tk w){i n0 n g e sz cap:Nat}{cur cur':Array Value}{pv0:List C}(pv:List C)(hpl:pv.length<=n*sz)(hlim:n0*sz-pv0.length<=n*sz-pv.length)(hpv:∀(j:Nat)(c:C),pv[j]?=some c->∃u,cur'[n*sz-pv.length+j]?=some u/\Reads V.S w c u)(hi:lk tk i=some (some ⟨e,sz,n0,pv0⟩))(hv:V.κ i n0=.slice (some ⟨g,0,none⟩) n0 cap)(hc:w.heap[g]?=some (.cells cur e (0,0)))(hlt:n0<n)(hn:n<=cap)(hm:cap<=maxLen)(hcs:cur'.size=cap*sz)(hpre:∀o,o<n0*sz-pv0.length->cur'[o]?=cur[o]?):HRel E (V.tok i n (.slice (some ⟨g,0,none⟩) n cap) g (n*sz-pv.length)) hp ((i,some ⟨e,sz,n,pv⟩)::tk) (w.setRow g cur')/\V.Le (V.tok i n (.slice (some ⟨g,0,none⟩) n cap) g (n*sz-pv.length)) w (w.setRow g cur'):=by
 obtain⟨h1,hcu,xs,hown,hg2⟩:=h.tok i _ hi;have hgb:(V.κ i n0).ownBlock=some g:=by rw[hv];rfl
 obtain⟨a1,a2,a3⟩:=hg2 g hgb;have hne:∀k,k≠g->(w.setRow g cur').heap[k]?=w.heap[k]?:=λk hk=>setRow_other w g k cur' hk;have hnew:(w.setRow g cur').heap[g]?=some (.cells cur' e (0,0)):=setRow_heap w g cur cur' e (0,0) hc;have hsz:(w.setRow g cur').heap.size=w.heap.size:=by simp[World.setRow]
 have hcell:∀b o,V.S b o->(w.setRow g cur').cell? ⟨b,o,none⟩=w.cell? ⟨b,o,none⟩:=λb o hs=>by by_cases hb:b=g;subst hb;rw[Jt hnew,Jt hc];exact hpre o (a2 o hs);exact World.cell?_of_block (w:=w) (a:=⟨b,o,none⟩) (hne b hb)
 have hle:=Qh8 (V:=V) (g:=g) (m:=n*sz-pv.length) (v:=.slice (some ⟨g,0,none⟩) n cap) (w:=w) (w':=w.setRow g cur') (.inr ⟨h1,by rw[<-hcu];exact hlt⟩) hcell (λb o hs ds hd=>by by_cases hb:b=g;subst hb;rw[hc]at hd;cases hd;exact(hne b hb).trans hd);refine⟨⟨?_,h.le0.trans hle,?_,?_,?_,?_,?_,?_,?_⟩,hle⟩;refine⟨h.ext.os,h.ext.tape,h.ext.output,by rw[hsz];exact h.ext.size,λk hk hM=>(hne k λe1=>?_).trans (h.ext.block k hk hM)⟩;rcases a1 with a1|a1;omega;rw[<-e1]at a1;exact hM a1;rintro b o (hs|⟨rfl,-⟩);rw[hsz];exact h.sz b o hs;exact YF hnew;rintro b o (hs|⟨rfl,-⟩);exact h.sub b o hs;exact .inr a1;intro j B hj;obtain⟨b1,o,ho,hB⟩:=h.own j B hj;exact⟨Ci b1 hle.nx,o,(hne _ (a3 j B hj)).trans ho,hB.mono hle⟩;exact h.inj;intro j B hj;refine⟨(h.new j B hj).1,λo hs=>?_⟩;rcases hs with hs|⟨e1,-⟩;exact(h.new j B hj).2 o hs;exact a3 j B hj e1;intro j T hj;rw[Q8]at hj;split at hj;rename_i e1;subst e1;cases hj;refine⟨Ci (Cv _) (S0 _ _),tok_cu.symm,cur'.toList.take (n*sz),?_,?_⟩;refine⟨?_,hpl,λj c hj=>?_⟩;rw[YO];refine⟨?_,.inr ⟨g,cap,cur',Z,Cd _,hnew,hn,hm,hcs,Z⟩⟩;rw[CH,Pv,hcs];exact Nat.min_eq_left (Pq _ hn);obtain⟨u,hu1,hu2⟩:=hpv j c hj;have hjl:j<pv.length:=(Ce.1 hj).1;refine⟨u,?_,Reads.mono hle.S hle.cell hu2⟩;show(cur'.toList.take (n*sz))[n*sz-pv.length+j]?=some u;rw[Pe,Cf (by omega),Pz];exact hu1;intro g' hg';rw[YO]at hg';obtain rfl:g=g':=Cw (show some g=some g' from hg');refine⟨a1,λo hs=>?_,a3⟩;rcases hs with hs|⟨-,hs⟩;have:=a2 o hs;exact Ci this hlim;exact hs;rename_i e1;have e2:j≠i:=λh=>e1 h.symm;obtain⟨b1,bcu,ys,bown,bg2⟩:=h.tok j T hj;rw[Yp e2];refine⟨Ci b1 hle.nx,by rw[bcu];show _=if j=i then n else V.cu j;rw[Ca e2],ys,?_,λg' hg'=>?_⟩;refine bown.keepW (Yp e2) (bown.1.kept (row:=some g) ⟨rfl,rfl,rfl,by rw[hsz];exact Cl _,λk _ hk=>hne k λe3=>hk (by rw[e3])⟩ ?_) hle.lx;cases hb:(V.κ j T.n).ownBlock with|none=>exact .inl rfl|some g'=>refine .inr λe3=>e2 ?_;cases e3;exact h.tki j i T _ g hj hi hb hgb
 obtain⟨c1,c2,c3⟩:=bg2 g' hg';refine⟨c1,λo hs=>?_,c3⟩;rcases hs with hs|⟨e3,-⟩;exact c2 o hs;subst e3;exact absurd (h.tki j i T _ g' hj hi hg' hgb) e2;intro j k T U g' hj hk ej ek;rw[Q8]at hj hk;split at hj <;> split at hk;rename_i e1 e2;exact e1.symm.trans e2;rename_i e1 e2;subst e1;cases hj;rw[YO]at ej;obtain rfl:g=g':=Cw (show some g=some g' from ej);rw[Yp (λh=>e2 h.symm)]at ek;exact h.tki _ _ _ _ _ hi hk hgb ek;rename_i e1 e2;subst e2;cases hk;rw[YO]at ek;obtain rfl:g=g':=Cw (show some g=some g' from ek);rw[Yp (λh=>e1 h.symm)]at ej;exact h.tki _ _ _ _ _ hj hi ej hgb;rename_i e1 e2;rw[Yp (λh=>e1 h.symm)]at ej;rw[Yp (λh=>e2 h.symm)]at ek;exact h.tki j k T U g' hj hk ej ek
theorem HRel.tokRoom(h:HRel E V hp tk w){i n0 n g e sz cap:Nat}{cur cur':Array Value}(hi:lk tk i=some (some ⟨e,sz,n0,[]⟩))(hv:V.κ i n0=.slice (some ⟨g,0,none⟩) n0 cap)(hc:w.heap[g]?=some (.cells cur e (0,0)))(hlt:n0<n)(hn:n<=cap)(hm:cap<=maxLen)(hcs:cur'.size=cap*sz)(hpre:∀o,o<n0*sz->cur'[o]?=cur[o]?):HRel E (V.tok i n (.slice (some ⟨g,0,none⟩) n cap) g (n*sz)) hp ((i,some ⟨e,sz,n,[]⟩)::tk) (w.setRow g cur')/\V.Le (V.tok i n (.slice (some ⟨g,0,none⟩) n cap) g (n*sz)) w (w.setRow g cur'):=h.tokRoomP [] (Cd _) (Pq _ (Nat.le_of_lt hlt)) (λj c hj=>by simp at hj) hi hv hc hlt hn hm hcs hpre
end
end
section
open Go.RowKit
def KL(P:Program)(e:TypeId):Option (Nat×Nat):=match P.info? e with|some i=>(match i.zero with|some z=>if z.cells.size=i.size/\0<i.size then some (i.size,i.bytes)else none|none=>none)|none=>none
theorem Q2q{P:Program}{e sz by_:Nat}(h:KL P e=some (sz,by_)):∃i z,P.info? e=some i/\i.zero=some z/\z.cells.size=sz/\0<sz/\i.size=sz/\i.bytes=by_:=by unfold KL at h;split at h;rename_i i hi;split at h;rename_i z hz;split at h;rename_i hc;cases h;exact⟨i,z,hi,hz,hc.1,hc.2,rfl,rfl⟩;cases h;cases h;cases h
section
variable{E:Env}{V:Vu}{hp:List (Nat×HB)}{tk:List (Nat×Option Tok)}{w:World}
theorem HRel.tokNil(h:HRel E V hp tk w)(e sz:Nat):HRel E (V.tok V.nx 0 (.slice none 0 0) 0 0) hp ((V.nx,some ⟨e,sz,0,[]⟩)::tk) w/\V.Le (V.tok V.nx 0 (.slice none 0 0) 0 0) w w:=by
 have hle:=Qh8 (V:=V) (g:=0) (m:=0) (n:=0) (v:=.slice none 0 0) (w:=w) (w':=w) (.inl rfl) (λb o hs=>rfl) (λb o hs ds hd=>hd);have hS:∀b o,(V.tok V.nx 0 (.slice none 0 0) 0 0).S b o->V.S b o:=λb o hs=>by rcases hs with hs|⟨-,hs⟩;exact hs;omega
 refine⟨⟨h.ext,h.le0.trans hle,λb o hs=>h.sz b o (hS b o hs),λb o hs=>h.sub b o (hS b o hs),λj B hj=>?_,h.inj,λj B hj=>⟨(h.new j B hj).1,λo hs=>(h.new j B hj).2 o (hS _ _ hs)⟩,?_,?_⟩,hle⟩;obtain⟨h1,o,ho,hB⟩:=h.own j B hj;exact⟨Ci h1 hle.nx,o,ho,hB.mono hle⟩;intro j T hj;rw[Q8]at hj;split at hj;rename_i e1;subst e1;cases hj;refine⟨Ci (Cv _) (S0 _ _),tok_cu.symm,[],?_,?_⟩;exact RowOK.all (by rw[YO];exact World.ownsRow_nil _ _ _ _);intro g' hg';rw[YO]at hg';cases hg';rename_i e1;have e2:j≠V.nx:=λh=>e1 h.symm;obtain⟨h1,hcu,xs,hown,hg2⟩:=h.tok j T hj;rw[Yp e2];exact⟨Ci h1 hle.nx,by rw[hcu];show _=if j=V.nx then 0 else V.cu j;rw[Ca e2],xs,hown.keepW (Yp e2) hown.1 hle.lx,λg' hg'=>⟨(hg2 g' hg').1,λo hs=>(hg2 g' hg').2.1 o (hS _ _ hs),(hg2 g' hg').2.2⟩⟩;intro j k T U g' hj hk ej ek;rw[Q8]at hj hk;split at hj;rename_i e1;subst e1;cases hj;rw[YO]at ej;cases ej;split at hk;rename_i e1;subst e1;cases hk;rw[YO]at ek;cases ek;rename_i e1 e2;rw[Yp (λh=>e1 h.symm)]at ej;rw[Yp (λh=>e2 h.symm)]at ek;exact h.tki j k T U g' hj hk ej ek
theorem KJ(e sz:Nat):(CA.app V.nx sz []).rel (V.tok V.nx 0 (.slice none 0 0) 0 0) w (.slice none 0 0):=
 ⟨Ci (Cv _) (S0 _ _),Cd _,by rw[Cb,YO],
  .sl sz [] none 0 0 0 (λ_ _=>undef) (Cl _) (λh=>absurd rfl h) (λi e h=>by simp at h) (λi e j c h=>by simp at h) (λi e j c h=>by simp at h) (λi e j c h=>by simp at h)⟩
end
section
variable{E:Env}{st:St}{ro:Option Nat}{n:Nat}{Q:Exit->Act->World->Prop}{c:Code}
theorem Qpx{i off:Nat}{T:TypeId}{xs:List CA}(e sz:Nat)(hi:lk st.hp i=some (.cells T xs))(hx:xs[off]?=some (.d (.v (.slice none 0 0))))(k:XC E ro n Q c ⟨st.tm,(i,.cells T (xs.set off (.app st.nx sz [])))::st.hp,(st.nx,some ⟨e,sz,0,[]⟩)::st.tk,st.nx+1,st.nt,st.df⟩):XC E ro n Q c st:=by
 intro V a w hr;obtain⟨H,L⟩:=hr.h.tokNil e sz;have hnx:(V.tok V.nx 0 (.slice none 0 0) 0 0).nx=st.nx+1:=by show max V.nx (V.nx+1)=_;rw[hr.nx];omega
 have hl:∀(A:HB) j,j≠i->lk ((i,A)::st.hp) j=lk st.hp j:=λA j hj=>by rw[Q8,Ca (λh=>hj h.symm)]
 obtain⟨hb,o,ho,vs,hvo,hvs⟩:=H.own i _ hi;have hcell:(xs[off]?).isSome:=by rw[hx];rfl
 obtain⟨u,hu,hur⟩:=hvs.2 off _ hx;have hu0:u=.slice none 0 0:=by cases hur;rfl
 refine k _ a w ⟨?_,hnx,hr.nt,hr.df.le L,λt' x hx=>(hr.tm t' x hx).mono L⟩;have H':=H;rw[hr.nx]at H';refine⟨H.ext,H.le0,H.sz,H.sub,?_,?_,?_,?_,?_⟩;intro j B hj;dsimp only at hj;by_cases e1:j=i;subst e1;rw[Q8,Cf rfl]at hj;cases hj;refine⟨hb,o,ho,vs,hvo,by rw[S7];exact hvs.1,λm y hy=>?_⟩;rw[Sb]at hy;split at hy;rename_i e2;subst e2;split at hy;cases hy;exact⟨u,hu,by rw[hu0,<-hr.nx];exact KJ e sz⟩;cases hy;exact hvs.2 m y hy;rw[hl _ j e1]at hj;exact H.own j B hj;intro j m A B hj hm e1;dsimp only at hj hm;rw[Q8]at hj hm;split at hj <;> split at hm;rename_i a1 a2;exact a1.symm.trans a2;rename_i a1 a2;subst a1;exact H.inj _ _ _ _ hi hm e1;rename_i a1 a2;subst a2;exact H.inj _ _ _ _ hj hi e1;exact H.inj _ _ _ _ hj hm e1;intro j B hj;dsimp only at hj;rw[Q8]at hj;split at hj;rename_i a1;subst a1;exact H.new _ _ hi;exact H.new _ _ hj;intro j T' hj;rw[<-hr.nx]at hj;obtain⟨b1,b2,ys,b3,b4⟩:=H.tok j T' hj;refine⟨b1,b2,ys,b3,λg' hg'=>⟨(b4 g' hg').1,(b4 g' hg').2.1,λm B hm=>?_⟩⟩;dsimp only at hm;rw[Q8]at hm;split at hm;rename_i a1;subst a1;exact(b4 g' hg').2.2 _ _ hi;exact(b4 g' hg').2.2 _ _ hm;intro j m T' U g' hj hm;rw[<-hr.nx]at hj hm;exact H.tki j m T' U g' hj hm
end
section
variable{E:Env}{st:St}{d:Nat}{ty:TypeId}{pos:String}{af:Array Edge}{g:Option (Nat×Bool)}
def ZN(zs:List Value)(len:Nat):List CA:=(List.range (len*zs.length)).map λk=>.d (.v (zs.getD (k%zs.length) undef))
def ZD(sz len:Nat):List (Nat×Nat):=(List.range len).map λi=>(i*sz,sz)
theorem CSubs.append{xs ys:List CA}{cs ds:List C}(h:CSubs xs cs)(k:CSubs ys ds):CSubs (xs++ys) (cs++ds):=by induction h with|nil=>exact k|cons h t ih=>exact .cons h ih
theorem Qaa{t e sz len:Nat}{zs:List Value}{parts:Array (Nat×Operand)}{avs:List (Nat×AV)}{ys:List CA}(es:List (List C))(ht:Ja E.P t=some (e,sz))(hze:YB E.P e=some zs)(hzl:zs.length=sz)(hz:zs.all (·.oneCell')=true)(hlen:len*sz<=16777216)(hn:parts.toList.length=avs.length)(hp:∀(j i:Nat)(x:AV),avs[j]?=some (i,x)->∃o,parts.toList[j]?=some (i,o)/\ev st.tm o=some (.v x))(hf:Gz (ZD sz len) (ZN zs len) avs=some ys)(hs:CSubs ys es.flatten)(hel:∀x∈es,x.length=sz)(hen:es.length=len){V:Vu}{a:Act}{w:World}(hr:Rel E V st a w)(dd:Option Tmp):∃us:Array Value,(execOp a.eval ⟨dd,.buildSlice t len parts,ty,pos,af,g⟩).run E.P w=.ok (.value (.slice (some ⟨w.heap.size,0,none⟩) len len)) (w.alloc (.cells us e))/\us.size=len*sz/\∀(k:Nat)(c:C),es.flatten[k]?=some c->∃u,us[k]?=some u/\Reads V.S w c u:=by
 obtain⟨hu,i0,hi0,hsz⟩:=Jx ht;obtain⟨z,hz1,hz2⟩:=WI hze;have Qms:rels V w (ZN zs len) ((Array.range (len*sz)).map λk=>zs.toArray[k%zs.toArray.size]!):=by refine⟨by simp[ZN,hzl],λk x hx=>?_⟩;simp only[ZN,Cn]at hx;cases hk:(List.range (len*zs.length))[k]? with|none=>rw[hk]at hx;cases hx|some k'=>rw[hk]at hx;cases hx;obtain⟨hlt,rfl⟩:=Ce.1 hk;simp at hlt;(have hpos:0<zs.length:=by rcases Sz zs.length with h0|h0;(· rw[h0]at hlt;simp at hlt);exact h0);have hm:k%zs.length<zs.length:=Nat.mod_lt _ hpos;simp only[List.getElem_range];refine⟨zs.getD (k%zs.length) undef,?_,Reads.v _ ?_⟩;rw[<-hzl];simp[hlt,hm];simp[hm];exact Ch.1 hz _ (List.getElem_mem hm)
 obtain⟨us,h2,h3⟩:=Q0k (place:=λi=>some (i*sz,sz)) (pl:=ZD sz len) (λi p h=>by
  simp only[ZD,Cn]at h;cases hk:(List.range len)[i]? with
  |none=>rw[hk]at h;cases h
  |some k'=>rw[hk]at h;cases h;obtain⟨_,rfl⟩:=Ce.1 hk;simp) avs (parts.toList.map λp=>(p.1,a.eval p.2)) _ ys _ Qms (by simpa using hn) (λj i x hx=>by obtain⟨o,h4,h5⟩:=hp j i x hx;exact⟨a.eval o,by rw[Cn,h4];rfl,hr.ev h5⟩) hf
 have hrun:(execOp a.eval ⟨dd,.buildSlice t len parts,ty,pos,af,g⟩).run E.P w=.ok (.value (.slice (some ⟨w.heap.size,0,none⟩) len len)) (w.alloc (.cells us e)):=by
  have hgt:¬(len*sz>2 ^ 24):=by omega
  have e1:(parts.map λ(x:Nat×Operand)=>(x.1,a.eval x.2)).toList=parts.toList.map λp=>(p.1,a.eval p.2):=by simp
  by_cases h0:len*sz=0;have e0:∀f:Nat->Value,(Array.range 0).map f=#[]:=λf=>by apply Array.ext <;> simp
  rw[h0,e0]at h2;simp only[execOp,Instr.buildSlice,Sem.run_bind,run_underlying hu,Result.andThen_ok,sizeOf,typeInfo,program,Sem.run,hi0,Sem.run_pure,hsz,Ca hgt,h0,if_true,e0];simp[h2,newRow];simp only[execOp,Instr.buildSlice,Sem.run_bind,run_underlying hu,Result.andThen_ok,sizeOf,typeInfo,program,Sem.run,hi0,Sem.run_pure,hsz,Ca hgt,Ca h0,hz1,hz2];simp at h2;simp[h2,newRow]
 refine⟨us,hrun,by rw[h3.1,hs.len,Yx es hel,hen],λk c hk=>?_⟩;obtain⟨x,hx1,hx2⟩:=hs.get k c hk;obtain⟨u,hu1,hu2⟩:=h3.2 k x hx1;exact⟨u,hu1,hx2.reads hu2⟩
theorem Q2y{P:Program}{w:World}{t ty e:TypeId}{i:TypeInfo}(ht:P.underlying t=some (.slice e))(hi:P.info? e=some i)(a b:Option Addr)(n cap c:Nat)(hn:n<=cap):(Builtin.append_ #[t,t] ty #[.slice a n cap,.slice b 0 c]).run P w=.ok (.slice a n cap) w:=by cases a <;> cases b <;> simp[Builtin.append_,run_underlying ht,sizeOf,typeInfo,hi,Builtin.lenOf,Builtin.firstCells,loadCells,loadCellsFrom,storeCells,hn]
theorem Q3m{V:Vu}{hp:List (Nat×HB)}{tk:List (Nat×Option Tok)}{w:World}(h:HRel E V hp tk w){ts:Array TypeId}{ty e sz i:Nat}{i1:TypeInfo}{z v x:Value}{es es2:List (List C)}{us2:List Value}(hzs:z.cells.size=sz)(hsz:i1.size=sz)(hi:(lk tk i=some (some ⟨e,sz,es.length,[]⟩)/\v=V.κ i es.length)\/(i=V.nx/\es=[]/\v=.slice none 0 0))(hv:Reads V.S w (.sl sz es) v)(hl2:∀e∈es2,e.length=sz)(hus2:us2.length=es2.length*sz)(hk2:∀(k:Nat)(c:C),es2.flatten[k]?=some c->∃u,us2[k]?=some u/\Reads V.S w c u)(hm:es.length+es2.length<=1000000000)(h2:es2≠[])(rnil:(Builtin.append_ ts ty #[.slice none 0 0,x]).run E.P w=.ok (.slice (some ⟨w.heap.size,0,none⟩) es2.length (grownCap w es2.length 0 e)) (w.drew.alloc (.cells (us2.toArray++Builtin.zeroCells z.cells (grownCap w es2.length 0 e-es2.length)) e)))(rroom:∀(gg n cap:Nat)(cur:Array Value),w.heap[gg]?=some (.cells cur e (0,0))->(∀u∈us2,u.oneCell'=true)->n+es2.length<=cap->n*sz+us2.length<=cur.size -> (Builtin.append_ ts ty #[.slice (some ⟨gg,0,none⟩) n cap,x]).run E.P w=.ok (.slice (some ⟨gg,0,none⟩) (n+es2.length) cap) (w.setRow gg (cur.toList.take (n*sz)++us2++cur.toList.drop (n*sz+us2.length)).toArray))(rgrow:∀(gg n cap:Nat)(olds:List Value),olds.length=n*sz->(∀j u,olds[j]?=some u->w.cell? ((⟨gg,0,none⟩:Addr).add j)=some u)->cap<n+es2.length->n+es2.length<=1000000000 -> (Builtin.append_ ts ty #[.slice (some ⟨gg,0,none⟩) n cap,x]).run E.P w=.ok (.slice (some ⟨w.heap.size,0,none⟩) (n+es2.length) (grownCap w (n+es2.length) cap e)) (w.drew.alloc (.cells (olds.toArray++us2.toArray++Builtin.zeroCells z.cells (grownCap w (n+es2.length) cap e-(n+es2.length))) e))):∃v' w' gb m V',(Builtin.append_ ts ty #[v,x]).run E.P w=.ok v' w'/\V'=V.tok i (es++es2).length v' gb m/\HRel E V' hp ((i,some ⟨e,sz,(es++es2).length,[]⟩)::tk) w'/\V.Le V' w w'/\Reads V'.S w' (.sl sz (es++es2)) v':=by
 obtain⟨hl1,a1,cap1,b1,off1,us1,rfl,hc1,ha1,hus1,hk1⟩:=hv.row;have hall:∀e∈es++es2,e.length=sz:=λe he=>by rcases CR.1 he with h|h;exact hl1 e h;exact hl2 e h
 have hlen2:0<es2.length:=Sh.2 h2;have hmax:es.length+es2.length<=maxLen:=by unfold maxLen;omega
 have happ:(es++es2).length=es.length+es2.length:=C8;have fin:∀(V':Vu)(w':World)(g' cap':Nat)(olds:List Value),V.Le V' w w'->olds.length=es.length*sz->(∀(k:Nat)(c:C),es.flatten[k]?=some c->∃u,olds[k]?=some u/\Reads V.S w c u) -> (∀(k:Nat)(u:Value),(olds++us2)[k]?=some u->w'.cell? ⟨g',k,none⟩=some u)->(∀o,o<(es++es2).length*sz->V'.S g' o)->(es++es2).length<=cap' -> Reads V'.S w' (.sl sz (es++es2)) (.slice (some ⟨g',0,none⟩) (es++es2).length cap'):=by
  intro V' w' g' cap' olds hL hlo ho hcell hS' hcap;refine Wu (us:=λk=>(olds++us2).getD k undef) hall hcap (λk c hk=>?_);have hklt:k<(es++es2).length*sz:=by have:=(Ce.1 hk).1;rwa [Yx _ hall]at this
  have hget:∃u,(olds++us2)[k]?=some u/\Reads V.S w c u:=by rw[List.flatten_append]at hk;by_cases hlt:k<es.flatten.length;rw[CG hlt]at hk;obtain⟨u,h3,h4⟩:=ho k c hk;exact⟨u,by rw[CG (by rw[hlo,<-Yx es hl1];exact hlt)];exact h3,h4⟩;rw[CQ (by omega)]at hk;obtain⟨u,h3,h4⟩:=hk2 _ c hk;refine⟨u,?_,h4⟩;rw[CQ (by rw[hlo,<-Yx es hl1];omega),hlo,<-Yx es hl1];exact h3
  obtain⟨u,h3,h4⟩:=hget;have e1:(olds++us2).getD k undef=u:=by rw[Sd,h3];rfl
  rw[e1,Pd];exact⟨hcell k u h3,hS' k hklt,h4.mono hL.S hL.cell⟩
 have anew:∀(olds:List Value)(old:Nat)(hi':i=V.nx\/(i<V.nx/\V.cu i<(es++es2).length)),olds.length=es.length*sz->(∀(k:Nat)(c:C),es.flatten[k]?=some c->∃u,olds[k]?=some u/\Reads V.S w c u) -> (Builtin.append_ ts ty #[.slice a1 es.length cap1,x]).run E.P w=.ok (.slice (some ⟨w.heap.size,0,none⟩) (es.length+es2.length) (grownCap w (es.length+es2.length) old e)) (w.drew.alloc (.cells (olds.toArray++us2.toArray++Builtin.zeroCells z.cells (grownCap w (es.length+es2.length) old e-(es.length+es2.length))) e)) -> ∃v' w' gb m V',(Builtin.append_ ts ty #[.slice a1 es.length cap1,x]).run E.P w=.ok v' w'/\V'=V.tok i (es++es2).length v' gb m/\HRel E V' hp ((i,some ⟨e,sz,(es++es2).length,[]⟩)::tk) w'/\V.Le V' w w'/\Reads V'.S w' (.sl sz (es++es2)) v':=by intro olds old hi' hlo ho hrun;have hge:=grownCap_ge w (es.length+es2.length) old e;have hcm:=grownCap_le_maxLen w (es.length+es2.length) old e hmax;rw[<-happ]at hrun hge hcm;generalize grownCap w (es++es2).length old e=cap' at hrun hge hcm;have hx':Xi w (w.drew.alloc (.cells (olds.toArray++us2.toArray++Builtin.zeroCells z.cells (cap'-(es++es2).length)) e)):=⟨rfl,rfl,rfl,by simp,λk hk _=>Below.heap_alloc w.drew _ k hk⟩;have hnew:(w.drew.alloc (.cells (olds.toArray++us2.toArray++Builtin.zeroCells z.cells (cap'-(es++es2).length)) e)).heap[w.heap.size]?=some (.cells (olds.toArray++us2.toArray++Builtin.zeroCells z.cells (cap'-(es++es2).length)) e (0,0)):=heap_alloc_new w.drew _;(have hcs:(olds.toArray++us2.toArray++Builtin.zeroCells z.cells (cap'-(es++es2).length)).size=cap'*sz:=by simp only[Array.size_append,List.size_toArray,size_zeroCells,hzs,hlo,hus2,<-SC];rw[happ]at hge⊢;congr 1;omega);obtain⟨H,L⟩:=h.tokNew (i:=i) (n:=(es++es2).length) (g:=w.heap.size) (e:=e) (sz:=sz) (cap:=cap') hi' hx' (Cl _) hnew hcs hge hcm;refine⟨_,_,w.heap.size,(es++es2).length*sz,_,hrun,Z,H,L,?_⟩;refine fin _ _ _ _ olds L hlo ho (λk u hk=>?_) (λo ho'=>.inr ⟨Z,ho'⟩) hge;rw[Jt hnew];rw[<-Pz,Array.toList_append,Array.toList_append,CG (by have:=(Ce.1 hk).1;simpa using this)];simpa using hk
 have nilcase:∀(hi':i=V.nx\/(i<V.nx/\V.cu i<(es++es2).length)),es=[]->a1=none->cap1=0->∃v' w' gb m V',(Builtin.append_ ts ty #[.slice a1 es.length cap1,x]).run E.P w=.ok v' w'/\V'=V.tok i (es++es2).length v' gb m/\HRel E V' hp ((i,some ⟨e,sz,(es++es2).length,[]⟩)::tk) w'/\V.Le V' w w'/\Reads V'.S w' (.sl sz (es++es2)) v':=by intro hi' he ha hc;refine anew [] 0 hi' (by rw[he];simp) (λk c hk=>by rw[he]at hk;simp at hk) ?_;subst he;subst ha;subst hc;simpa using rnil
 rcases hi with⟨hi,hvk⟩|⟨hi,he,hvk⟩;obtain⟨h1,hcu,xs,⟨hown,-⟩,hg2⟩:=h.tok i _ hi;dsimp only at hcu hown hg2;rw[<-hvk]at hown;have hi':i=V.nx\/(i<V.nx/\V.cu i<(es++es2).length):=.inr ⟨h1,by rw[<-hcu,happ];omega⟩;rcases hown.2 with⟨hv0,hn0⟩|⟨gg,cap,cur,hvv,-,hcells,hncap,hcm,hcs,htake⟩;have he:es=[]:=Cz hn0;subst he;injection hv0 with e1 e2 e3;exact nilcase hi' Z e1 e3;injection hvv with e1 e2 e3;subst e1;subst e3;have hpre:∀(k:Nat)(c:C),es.flatten[k]?=some c->∃u,xs[k]?=some u/\Reads V.S w c u:=λk c hk=>by obtain⟨u,h3,h4,-,h5⟩:=hk1 k c hk;(have hne:es≠[]:=λe'=>by subst e';simp at hk);have:=ha1 hne;injection this with this;injection this with e4 e5;subst e4;rw[<-e5,Pd,Jt hcells]at h4;(have hlt:k<es.length*sz:=by have:=(Ce.1 hk).1;rwa [Yx _ hl1]at this);refine⟨u,?_,h5⟩;rw[<-htake,PY hlt];simpa using h4
 by_cases hroom:es.length+es2.length<=cap1;have hfit:es.length*sz+us2.length<=cur.size:=by rw[hus2,hcs,<-SC];exact Pq _ hroom
 have h1c:∀u∈us2,u.oneCell'=true:=λu hu'=>by obtain⟨k,hk⟩:=PH hu';(have hlt:k<es2.flatten.length:=by rw[Yx es2 hl2,<-hus2];exact(Ce.1 hk).1);obtain⟨u',h3,h4⟩:=hk2 k _ (Cm hlt);rw[hk]at h3;cases h3;exact h4.one
 have hr:=rroom gg es.length cap1 cur hcells h1c hroom hfit;have hcs':(cur.toList.take (es.length*sz)++us2++cur.toList.drop (es.length*sz+us2.length)).toArray.size=cap1*sz:=by simp only[List.size_toArray,C8,CH,Cq,Pv];omega
 have hxl:xs.length=es.length*sz:=hown.1;obtain⟨H,L⟩:=h.tokRoom (n:=(es++es2).length) (cur':=(cur.toList.take (es.length*sz)++us2++cur.toList.drop (es.length*sz+us2.length)).toArray) hi hvk.symm hcells (by rw[happ];omega) (by rw[happ];exact hroom) hcm hcs' (λo ho=>by have ho':o<es.length*sz:=ho;rw[CB,List.getElem?_toArray,CG (by rw[CH];have e8:cur.toList.length=cur.size:=Pv;omega),PY ho];simp);rw[<-happ]at hr;refine⟨_,_,gg,(es++es2).length*sz,_,hr,Z,H,L,?_⟩;refine fin _ _ _ _ xs L hxl hpre (λk u hk=>?_) (λo ho'=>.inr ⟨rfl,ho'⟩) (by rw[happ];exact hroom);rw[Jt (setRow_heap w gg cur _ e (0,0) hcells),htake];rw[List.getElem?_toArray,CG (Ce.1 hk).1];exact hk;have holds:∀j u,xs[j]?=some u->w.cell? ((⟨gg,0,none⟩:Addr).add j)=some u:=hown.cells (g:=gg) rfl;have hr:=rgrow gg es.length cap1 xs hown.1 holds (by omega) hm;exact anew xs cap1 hi' hown.1 hpre hr;subst he;injection hvk with e1 e2 e3;exact nilcase (.inl hi) Z e1 e3
theorem Q7f{V:Vu}{hp:List (Nat×HB)}{tk:List (Nat×Option Tok)}{w:World}(h:HRel E V hp tk w){t ty e sz by_ i:Nat}{v x:Value}{es es2:List (List C)}(ht:Ja E.P t=some (e,sz))(hte:KL E.P e=some (sz,by_))(hi:(lk tk i=some (some ⟨e,sz,es.length,[]⟩)/\v=V.κ i es.length)\/(i=V.nx/\es=[]/\v=.slice none 0 0))(hv:Reads V.S w (.sl sz es) v)(hx:Reads V.S w (.sl sz es2) x)(hm:es.length+es2.length<=1000000000)(hb:by_<=100000)(h2:es2≠[]):∃v' w' gb m V',(Builtin.append_ #[t,t] ty #[v,x]).run E.P w=.ok v' w'/\V'=V.tok i (es++es2).length v' gb m/\HRel E V' hp ((i,some ⟨e,sz,(es++es2).length,[]⟩)::tk) w'/\V.Le V' w w'/\Reads V'.S w' (.sl sz (es++es2)) v':=by
 obtain⟨hu,i1,hi1,hs1⟩:=Jx ht;obtain⟨i0,z,hi0,hz,hzs,hpos,hsz,hby⟩:=Q2q hte;have:i1=i0:=Cw (hi1.symm.trans hi0);subst this;obtain⟨hl2,a2,cap2,b2,off2,us2,rfl,hc2,ha2,hus2,hk2⟩:=hx.row;have ha2':=ha2 h2;subst ha2';have hlen2:0<es2.length:=Sh.2 h2;have hnews:∀j u,us2[j]?=some u->w.cell? ((⟨b2,off2,none⟩:Addr).add j)=some u:=λj u hj=>by(have hlt:j<es2.flatten.length:=by rw[Yx es2 hl2,<-hus2];exact(Ce.1 hj).1);obtain⟨u',h3,h4,-⟩:=hk2 j _ (Cm hlt);rw[hj]at h3;cases h3;rw[K5];exact h4
 have hbytes:∀n,n<=1000000000->n*i1.bytes<=140737488355328:=λn hn=>by
  rw[hby];calc n*by_<=1000000000*100000:=Nat.mul_le_mul hn hb
   _<=_:=by omega
 refine Q3m (i1:=i1) h hzs hsz hi hv hl2 hus2 (λk c hk=>let⟨u,h3,_,_,h4⟩:=hk2 k c hk;⟨u,h3,h4⟩) hm h2 ?_ (λgg n cap cur hg h1c hroom hfit=>?_) (λgg n cap olds hlo holds hcap hn=>?_);exact run_append_nil (P:=E.P) w t ty e i1 z hu hi1 hz ⟨b2,off2,none⟩ es2.length cap2 us2 (by rw[hsz];exact hus2) hnews hlen2 (by omega) (by have:=hbytes es2.length (by omega);omega);have hr:=run_append_room (P:=E.P) w t ty e i1 hu hi1 gg n cap cur hg ⟨b2,off2,none⟩ es2.length cap2 us2 (by rw[hsz];exact hus2) hnews h1c hroom (by rw[hsz];exact hfit);rw[hsz]at hr;exact hr;exact run_append_grow (P:=E.P) w t ty e i1 z hu hi1 hz ⟨gg,0,none⟩ n cap olds (by rw[hsz];exact hlo) holds ⟨b2,off2,none⟩ es2.length cap2 us2 (by rw[hsz];exact hus2) hnews (by omega) (by omega) (growslice_fits (by omega) (hbytes _ hn))
end
end
section
open Go.RowKit
def Jd2(E:Env)(ops:Array Oper)(o:Oper)(st:St)(x:TV):Prop:=∀V a w,Rel E V st a w->∀(ro:Option Nat)(n:Nat)(K:Act->World->Prop)(Q:Exit->Act->World->Prop),(∀V' w' v,Xi w w'->V.Grow V' w w'->V'.nx=V.nx->x.rel V' w' v->K (a.put o.dst v) w') -> if Region.wanted o (yielded ops a.tmps)then o.wpIn (FR ro) n E.P a w K Q else K (a.put o.dst undef) w
section
variable{E:Env}{ops:Array Oper}{o:Oper}{st:St}{x:TV}
theorem Qgx(h:RO E o st x){V:Vu}{a:Act}{w:World}(hr:Rel E V st a w){ro:Option Nat}{n:Nat}{K:Act->World->Prop}{Q:Exit->Act->World->Prop}(hK:∀v,x.rel V w v->K (a.put o.dst v) w):o.wpIn (FR ro) n E.P a w K Q:=by obtain⟨v,hrun,hx⟩:=h.2 V a w hr;refine⟨λ_ _=>trivial,?_⟩;rw[Oper.semAt_eq _ _ _ h.1,hrun];exact hK v hx
theorem DQ{V:Vu}{w:World}:(TV.tup []).rel V w undef:=⟨#[],rfl,rfl,λi x hx=>by simp at hx⟩
end
section
variable(ops:Array Oper)
def Jz(i:Nat):Option Tmp:=(ops[i]?).bind (·.dst)
def J5g(hd:List Nat)(i:Nat):List Nat:=match ops[i]? with|some o=>((o.after.toList.filter (Region.binds .any ·)).map (·.on) |>.filter (hd.contains ·))|none=>[]
def Ud(ds:List Nat)(tm:List (Nat×TV)):List (Nat×TV):=tm.filter λp=>!(ds.contains p.1)
def Qts(hd:List Nat):List Nat:=hd.filterMap (Jz ops)
def JO(fx:List (Nat×TV))(js:List Nat):List (Nat×TV):=js.filterMap λj=>match Jz ops j,lk fx j with|some d,some x=>some (d,x)|_,_=>none
def Jcu(hd:List Nat)(st:St):St:={st with tm:=Ud (Qts ops hd) st.tm}
def Jay(hd:List Nat)(st:St)(fx:List (Nat×TV))(js:List Nat):St:={st with tm:=JO ops fx js++Ud (Qts ops hd) st.tm}
end
inductive HF(E:Env)(ops:Array Oper)(hd:List Nat)(st:St)(T:List (Nat×TV)->Prop):List (Nat×TV)->List Nat->Prop
 |nil {fx:List (Nat×TV)} (k:T fx):HF E ops hd st T fx []
 |cons {fx:List (Nat×TV)} {i:Nat} {rest:List Nat} {o:Oper} {x:TV} (ho:ops[i]?=some o) (h:Jd2 E ops o (Jay ops hd st fx (J5g ops hd i)) x) (k:HF E ops hd st T ((i,x)::fx) rest):HF E ops hd st T fx (i::rest)
theorem JN{α:Type}:∀(l m:List (Nat×α))(i:Nat),lk (l++m) i=match lk l i with|some x=>some x|none=>lk m i
  |[],m,i=>rfl
  |(k,v)::l,m,i=>by
    rw[PN,Q8,Q8]
    split
    · rfl
    · exact JN l m i
theorem Q4n{ds:List Nat}:∀(tm:List (Nat×TV))(t:Nat)(x:TV),lk (Ud ds tm) t=some x->lk tm t=some x/\t∉ds
 |[],t,x,h=>by cases h
 |(k,v)::r,t,x,h=>by
  simp only[Ud,CE]at h;split at h
  · rename_i hk
    rw[Q8]at h⊢
    split at h
    · rename_i e;subst e;exact⟨by rw[Cf rfl];exact h,by simpa using hk⟩
    · rename_i e;rw[Ca e];exact Q4n r t x h
  · rename_i hk
    have ih:=Q4n r t x h
    refine⟨?_,ih.2⟩
    rw[Q8,Ca (λe=>?_)]
    · exact ih.1
    · subst e;exact ih.2 (by simpa using hk)
theorem Xv{ops:Array Oper}{fx:List (Nat×TV)}:∀(js:List Nat)(t:Nat)(x:TV),lk (JO ops fx js) t=some x->∃j∈js,Jz ops j=some t/\lk fx j=some x|[],t,x,h=>by cases h|j::js,t,x,h=>by simp only[JO,Pw]at h;split at h;obtain⟨j',h1,h2⟩:=Xv js t x h;exact⟨j',Ck _ h1,h2⟩;rename_i p hp;split at hp;rename_i d y hd hy;cases hp;rw[Q8]at h;split at h;rename_i e;subst e;cases h;exact⟨j,Cj,hd,hy⟩;obtain⟨j',h1,h2⟩:=Xv js t x h;exact⟨j',Ck _ h1,h2⟩;cases hp
structure Know(E:Env)(ops:Array Oper)(hd:List Nat)(st:St)(fx:List (Nat×TV))(listed:Array Bool)(V:Vu)(a:Act)(w:World):Prop where
 base:Rel E V (Jcu ops hd st) a w
 hd:∀j∈hd,listed.getD j false=true->∀d x,Jz ops j=some d->lk fx j=some x->x.rel V w (a.tmps.getD d undef)
def QM(ops:Array Oper)(i:Nat):List Nat:=match ops[i]? with|some o=>(o.after.toList.filter (Region.binds .any ·)).map (·.on)|none=>[]
structure AInv(ops:Array Oper)(fl tl:List Nat)(listed:Array Bool):Prop where
 size:listed.size=ops.size
 fls:∀i∈fl,i<ops.size->listed.getD i false=true
 tls:∀i∈tl,listed.getD i false=false
 closed:∀j oj,ops[j]?=some oj->listed.getD j false=true->∀e∈oj.after,Region.binds .any e=true->listed.getD e.on false=true
section
variable{ops:Array Oper}{fl hd tl:List Nat}{listed:Array Bool}
theorem Q94{i:Nat}{o:Oper}(ho:ops[i]?=some o){k:Nat}:k∈QM ops i↔∃e∈o.after,Region.binds .any e=true/\e.on=k:=by simp only[QM,ho,Cx,PT,Array.mem_toList_iff];constructor;rintro⟨e,⟨h1,h2⟩,h3⟩;exact⟨e,h1,h2,h3⟩;rintro⟨e,h1,h2,h3⟩;exact⟨e,⟨h1,h2⟩,h3⟩
end
end
section
open Go.RowKit
theorem lb{a b:Nat}(h:Nat.ble a b=true):a<=b:=C9 h
class Prs(p:Prop)(q:outParam Prop):Prop where
 prs:p->q
theorem prs{p q:Prop}[h:Prs p q]:p->q:=h.prs
instance(priority:=low){p:Prop}:Prs p p:=⟨id⟩
instance{p q:Prop}[Decidable p][h:Prs p q]:Prs (decide p=true) q:=⟨λe=>h.prs (CF e)⟩
instance{p q:Prop}[Decidable p][h:Prs (¬p) q]:Prs (decide p=false) q:=⟨λe=>h.prs (S4 e)⟩
instance{b:Bool}{q:Prop}[h:Prs (b=false) q]:Prs ((!b)=true) q:=⟨λe=>h.prs (by cases b <;> simp_all)⟩
instance{b:Bool}{q:Prop}[h:Prs (b=true) q]:Prs ((!b)=false) q:=⟨λe=>h.prs (by cases b <;> simp_all)⟩
instance{α:Type}[BEq α][LawfulBEq α]{a b:α}:Prs ((a==b)=true) (a=b):=⟨λe=>eq_of_beq e⟩
instance{α:Type}[BEq α][LawfulBEq α]{a b:α}:Prs ((a==b)=false) (¬a=b):=⟨λe h=>by subst h;simp at e⟩
instance{α:Type}[BEq α][LawfulBEq α]{a b:α}:Prs ((a != b)=true) (¬a=b):=⟨λe h=>by subst h;simp at e⟩
instance{α:Type}[BEq α][LawfulBEq α]{a b:α}:Prs ((a != b)=false) (a=b):=⟨λe=>by simpa using e⟩
instance{a b:Int}:Prs (¬a<b) (b<=a):=⟨Int.not_lt.1⟩
instance{a b:Int}:Prs (¬a<=b) (b<a):=⟨Int.not_le.1⟩
def U8(P:Program)(t:TypeId):Bool:=match P.underlying t with|some .bool=>true|_=>false
theorem D4{P:Program}{t:TypeId}(h:U8 P t=true):P.underlying t=some .bool:=by unfold U8 at h;split at h;assumption;cases h
def U7(P:Program)(t:TypeId):Bool:=match P.underlying t with
 |some (.struct fs)=>match fs.toList with
  |[f0, f1]=> f0.name != "_" && f1.name != "_" && f0.offset == 0 && f1.offset == 1 && (match P.underlying f0.type, P.underlying f1.type with
   |some (.int .i64),some (.int .i64)=>true
   |_,_=>false)&&!(P.stoodInHeld t)&&!(P.eqGuardType P.depth t)
  |_=>false
 |_=>false
section
variable{E:Env}{st:St}{d:Option Tmp}{ty:TypeId}{pos:String}{af:Array Edge}{g:Option (Nat×Bool)}
theorem Qq5{t t':TypeId}{x y:Operand}{a b:Bool}(ht:U8 E.P t=true)(hx:ev st.tm x=some (TB a))(hy:ev st.tm y=some (TB b)):RO E ⟨d,.binOp .eql t x y t',ty,pos,af,g⟩ st (TB (a==b)):=by
 refine⟨(λ_ h=>nomatch h),λV ac w hr=>⟨.bool (a==b),?_,Jl Z⟩⟩;have e0:∀dp,(Op.equalIn (dp+1) t (.bool a) (.bool b)).run E.P w=.ok (a==b) w:=λdp=>by simp[Op.equalIn,run_underlying (D4 ht)]
 have e:(Op.equalIn Op.maxDepth t (.bool a) (.bool b)).run E.P w=.ok (a==b) w:=e0 9999;simp only[execOp,J8 (hr.ev hx),J8 (hr.ev hy),eqGuard,binOp,Op.equal,Sem.run_bind];simp[e]
theorem Qee{P:Program}{w:World}{t:TypeId}(ht:U7 P t=true)(a0 a1 b0 b1:Int):(Op.equalIn Op.maxDepth t (.agg #[.int .i64 a0,.int .i64 a1]) (.agg #[.int .i64 b0,.int .i64 b1])).run P w=.ok ((a0==b0)&&(a1==b1)) w/\P.eqGuardType P.depth t=false:=by
 unfold U7 at ht;split at ht
 ·rename_i fs hu;split at ht;case h_2=>cases ht
  rename_i f0 f1 hfs;simp only[CD,SK,ne_eq,P3,PW]at ht;obtain⟨⟨⟨⟨⟨⟨h1,h2⟩,h3⟩,h4⟩,h5⟩,h6⟩,h7⟩:=ht;refine⟨?_,h7⟩;split at h5;rename_i hu0 hu1;have hf:P.fieldsOf t=fs:=by simp[Program.fieldsOf,hu]
  have hrun:=run_equalIn_struct w 9999 t #[.int .i64 a0,.int .i64 a1] #[.int .i64 b0,.int .i64 b1] (by rw[hf];exact hu) h6;refine(show _=_ from hrun).trans ?_;rw[hf,hfs];have q0':∀(dp:Nat)(a b:Int),(Op.equalIn (dp+1) f0.type (.int .i64 a) (.int .i64 b)).run P w=.ok (a==b) w:=λdp a b=>by simp[Op.equalIn,run_underlying hu0]
  have q1':∀(dp:Nat)(a b:Int),(Op.equalIn (dp+1) f1.type (.int .i64 a) (.int .i64 b)).run P w=.ok (a==b) w:=λdp a b=>by simp[Op.equalIn,run_underlying hu1]
  have q0:∀(a b:Int),(Op.equalIn 9999 f0.type (.int .i64 a) (.int .i64 b)).run P w=.ok (a==b) w:=q0' 9998;have q1:∀(a b:Int),(Op.equalIn 9999 f1.type (.int .i64 a) (.int .i64 b)).run P w=.ok (a==b) w:=q1' 9998;have i0:(isAgg f0.type).run P w=.ok false w:=by simp[isAgg,run_underlying hu0]
  have i1:(isAgg f1.type).run P w=.ok false w:=by simp[isAgg,run_underlying hu1]
  simp only[Op.eqFields,h1,h2,if_true,ne_eq,not_false_eq_true,part,h3,h4,Sem.run_bind,i0,i1,Result.andThen_ok,P4,if_false];by_cases e0:a0=b0 <;> by_cases e1:a1=b1 <;> simp[q0,q1,i0,i1,e0,e1];cases h5
 cases ht
theorem Qk0{t t':TypeId}{x y:Operand}{a0 a1 b0 b1:Int}(ht:U7 E.P t=true)(hx:ev st.tm x=some (.v (.agg [.d (.v (.int .i64 a0)),.d (.v (.int .i64 a1))])))(hy:ev st.tm y=some (.v (.agg [.d (.v (.int .i64 b0)),.d (.v (.int .i64 b1))]))):RO E ⟨d,.binOp .neq t x y t',ty,pos,af,g⟩ st (TB (!((a0==b0)&&(a1==b1)))):=by
 refine⟨(λ_ h=>nomatch h),λV ac w hr=>⟨.bool (!((a0==b0)&&(a1==b1))),?_,Jl Z⟩⟩;have ex:∀(o:Operand)(p q:Int),ev st.tm o=some (.v (.agg [.d (.v (.int .i64 p)),.d (.v (.int .i64 q))]))->ac.eval o=.agg #[.int .i64 p,.int .i64 q]:=λo p q h=>by obtain⟨vs,h1,h2,h3⟩:=hr.ev h;obtain⟨u0,a1,a2⟩:=h3 0 _ rfl;obtain⟨u1,b1,b2⟩:=h3 1 _ rfl;cases a2;cases b2;rw[h1];congr 1;apply Array.ext;simpa using h2;intro i hi1 hi2;simp at hi2;match i,hi2 with|0,_=>rw[P7 (by omega)]at a1;exact Cw a1|1,_=>rw[P7 (by omega)]at b1;exact Cw b1
 obtain⟨e,hgt⟩:=Qee (w:=w) ht a0 a1 b0 b1;simp only[execOp,ex x _ _ hx,ex y _ _ hy,eqGuard,binOp,Op.equal,Sem.run_bind];simp[e,hgt]
end
end
section
open Go.RowKit
structure Mem where
 hp:List (Nat×HB)
 tk:List (Nat×Option Tok)
 nx:Nat
def St.mem(st:St):Mem:=⟨st.hp,st.tk,st.nx⟩
def St.withMem(st:St)(m:Mem):St:=⟨st.tm,m.hp,m.tk,m.nx,st.nt,st.df⟩
def QT{α:Type}(i:Nat)(l:List (Nat×α)):List (Nat×α):=l.filter λp=>!(Nat.beq p.1 i)
theorem Y0{α:Type}(i:Nat):∀(l:List (Nat×α))(j:Nat),lk (QT i l) j=if j=i then none else lk l j
 |[],j=>by simp[QT,lk]
 |(k,v)::l,j=>by
  have ih:=Y0 i l j;simp only[QT,CE]at ih⊢;by_cases hk:k=i
  · subst hk
    simp only[Nat.beq_eq_true_eq,PW,show Nat.beq k k=true from by simp,Pf,P4,if_false,ih,Q8]
    by_cases hj:j=k
    · simp[hj]
    · rw[Ca hj,Ca hj,Ca (λe=>hj e.symm)]
  · have:Nat.beq k i=false:=by
      cases hb:Nat.beq k i with
      |false=>rfl
      |true=>exact absurd (Cc hb) hk
    simp only[this,CY,if_true,Q8,ih]
    by_cases hj:j=i
    · subst hj;simp[hk]
    · simp[hj]
theorem JI{α:Type}(i:Nat)(v:α)(l:List (Nat×α))(j:Nat):lk ((i,v)::QT i l) j=lk ((i,v)::l) j:=by rw[Q8,Q8,Y0];by_cases h:i=j;simp[h];rw[Ca h,Ca h,Ca (λe=>h e.symm)]
theorem YM{α:Type}{i:Nat}{l:List (Nat×α)}{j:Nat}{v:α}(h:lk (QT i l) j=some v):lk l j=some v/\j≠i:=by rw[Y0]at h;split at h;cases h;rename_i hj;exact⟨h,hj⟩
section
variable{E:Env}{V V':Vu}{hp hp':List (Nat×HB)}{tk tk':List (Nat×Option Tok)}{w w':World}
theorem HRel.congr(h:HRel E V hp tk w)(hh:∀j,lk hp' j=lk hp j)(ht:∀j,lk tk' j=lk tk j):HRel E V hp' tk' w:=
 ⟨h.ext,h.le0,h.sz,h.sub,λi B hi=>h.own i B (by rw[<-hh];exact hi),λi j A B hi hj=>h.inj i j A B (by rw[<-hh];exact hi) (by rw[<-hh];exact hj),λi B hi=>h.new i B (by rw[<-hh];exact hi),λi T hi=>by
   obtain⟨h1,h2,xs,h3,h4⟩:=h.tok i T (by rw[<-ht];exact hi)
   exact⟨h1,h2,xs,h3,λg hg=>⟨(h4 g hg).1,(h4 g hg).2.1,λj B hj=>(h4 g hg).2.2 j B (by rw[<-hh];exact hj)⟩⟩,
  λi j T U g hi hj=>h.tki i j T U g (by rw[<-ht];exact hi) (by rw[<-ht];exact hj)⟩
theorem HRel.forget(h:HRel E V hp tk w)(hh:∀j B,lk hp' j=some B->lk hp j=some B)(ht:∀j T,lk tk' j=some (some T)->lk tk j=some (some T)):HRel E V hp' tk' w:=
 ⟨h.ext,h.le0,h.sz,h.sub,λi B hi=>h.own i B (hh i B hi),λi j A B hi hj=>h.inj i j A B (hh i A hi) (hh j B hj),λi B hi=>h.new i B (hh i B hi),λi T hi=>by
   obtain⟨h1,h2,xs,h3,h4⟩:=h.tok i T (ht i T hi)
   exact⟨h1,h2,xs,h3,λg hg=>⟨(h4 g hg).1,(h4 g hg).2.1,λj B hj=>(h4 g hg).2.2 j B (hh j B hj)⟩⟩,
  λi j T U g hi hj=>h.tki i j T U g (ht i T hi) (ht j U hj)⟩
def Env.at(E:Env)(V:Vu)(w:World):Env:=⟨E.P,w,λb=>E.M b\/E.w0.heap.size<=b,V⟩
theorem HRel.rebase(h:HRel E V hp tk w):HRel (E.at V w) V hp tk w:=⟨ExtM.refl _ _,Vu.Le.refl _ _,h.sz,λb o hs=>.inl hs,h.own,h.inj,λi B hi=>⟨.inr ((h.new i B hi).1.elim .inr .inl),(h.new i B hi).2⟩,λi T hi=>by obtain⟨h1,h2,xs,h3,h4⟩:=h.tok i T hi;exact⟨h1,h2,xs,h3,λg hg=>⟨.inr ((h4 g hg).1.elim .inr .inl),(h4 g hg).2⟩⟩,h.tki⟩
theorem HRel.back(h:HRel E V hp tk w)(h':HRel (E.at V w) V' hp' tk' w'):HRel E V' hp' tk' w'/\V.Le V' w w':=by
 have hx:∀b,w.heap.size<=b\/(E.M b\/E.w0.heap.size<=b)->E.w0.heap.size<=b\/E.M b:=λb hb=>by rcases hb with hb|hb|hb;exact .inl (Cg h.ext.size hb);exact .inr hb;exact .inl hb
 refine⟨⟨⟨h'.ext.os.trans h.ext.os,h'.ext.tape.trans h.ext.tape,h'.ext.output.trans h.ext.output,Cg h.ext.size h'.ext.size,λk hk hM=>?_⟩,h.le0.trans h'.le0,h'.sz,λb o hs=>?_,h'.own,h'.inj,λi B hi=>⟨hx _ (h'.new i B hi).1,(h'.new i B hi).2⟩,λi T hi=>?_,h'.tki⟩,h'.le0⟩;refine(h'.ext.block k (Ci hk h.ext.size) ?_).trans (h.ext.block k hk hM);rintro(h1|h1);exact hM h1;omega;rcases h'.sub b o hs with h1|h1|h1;exact h.sub b o h1;exact .inr (hx b (.inl h1));exact .inr (hx b (.inr h1));obtain⟨h1,h2,xs,h3,h4⟩:=h'.tok i T hi;exact⟨h1,h2,xs,h3,λg hg=>⟨hx _ (h4 g hg).1,(h4 g hg).2⟩⟩
theorem HRel.setOwn(h:HRel E V hp tk w){i:Nat}{B B':HB}{o':Obj}(hi:lk hp i=some B)(hw:∀k,k≠V.ι i->w'.heap[k]?=w.heap[k]?)(hs:w'.heap.size=w.heap.size)(hos:w'.os=w.os)(htp:w'.tape=w.tape)(hou:w'.output=w.output)(hn:w'.heap[V.ι i]?=some o')(hB:V.Le V w w'->B'.rel V w' o'):HRel E V ((i,B')::hp) tk w'/\V.Le V w w':=by
 have hle:V.Le V w w':=⟨Cl _,λ_ _=>rfl,λ_ _=>Cl _,λ_ _ _ _=>rfl,λ_ _ h=>h,λb o' hs'=>World.cell?_of_block (w:=w) (a:=⟨b,o',none⟩) (hw b λe=>(h.new i _ hi).2 o' (by rw[<-e];exact hs')),λb o' hs' ds hd=>(hw b λe=>(h.new i _ hi).2 o' (by rw[<-e];exact hs')).trans hd⟩;refine⟨⟨?_,h.le0.trans hle,λb o' hs'=>by rw[hs];exact h.sz b o' hs',h.sub,?_,?_,?_,?_,h.tki⟩,hle⟩;refine⟨hos.trans h.ext.os,htp.trans h.ext.tape,hou.trans h.ext.output,by rw[hs];exact h.ext.size,λk hk hM=>(hw k λe=>?_).trans (h.ext.block k hk hM)⟩;rcases(h.new i _ hi).1 with h1|h1;omega;rw[<-e]at h1;exact hM h1;intro j A hj;rw[Q8]at hj;split at hj;rename_i e;subst e;cases hj;exact⟨(h.own _ _ hi).1,o',hn,hB hle⟩;rename_i e;obtain⟨h1,o1,ho1,hA⟩:=h.own j A hj;exact⟨h1,o1,by rw[hw _ λe'=>e (h.inj j i _ _ hj hi e').symm];exact ho1,hA.mono hle⟩;intro j k A A' hj hk e;rw[Q8]at hj hk;split at hj <;> split at hk;rename_i e1 e2;exact e1.symm.trans e2;rename_i e1 e2;subst e1;exact h.inj _ _ _ _ hi hk e;rename_i e1 e2;subst e2;exact h.inj _ _ _ _ hj hi e;exact h.inj _ _ _ _ hj hk e;intro j A hj;rw[Q8]at hj;split at hj;rename_i e;subst e;exact h.new _ _ hi;exact h.new _ _ hj;intro j T' hj;obtain⟨h1,hcu,xs',hown,hg⟩:=h.tok j T' hj;refine⟨h1,hcu,xs',hown.keepW rfl (hown.1.kept (row:=some (V.ι i)) ⟨hos,htp,hou,by rw[hs];exact Cl _,λk _ hk=>hw k λe=>hk (by rw[e])⟩ ?_) hle.lx,λg hgb=>⟨(hg g hgb).1,(hg g hgb).2.1,λk B hk=>?_⟩⟩;cases hb:(V.κ j T'.n).ownBlock with|none=>exact .inl rfl|some g=>exact .inr λe=>(hg g hb).2.2 i _ hi (by cases e;rfl)
 rw[Q8]at hk;split at hk;rename_i e;subst e;exact(hg g hgb).2.2 _ _ hi;exact(hg g hgb).2.2 _ _ hk
theorem HRel.putObj(h:HRel E V hp tk w){i:Nat}{B B':HB}{o':Obj}(hi:lk hp i=some B)(hB:V.Le V w (w.putObj (V.ι i) o')->B'.rel V (w.putObj (V.ι i) o') o'):HRel E V ((i,B')::hp) tk (w.putObj (V.ι i) o')/\V.Le V w (w.putObj (V.ι i) o'):=by obtain⟨-,o,ho,-⟩:=h.own i B hi;exact h.setOwn hi (λk hk=>World.putObj_heap_other hk) World.putObj_size Z Z Z (World.putObj_heap_same (YF ho)) hB
end
def OpOK(E:Env)(o:Oper)(st:St)(x:TV)(m:Mem):Prop:=∀V a w,Rel E V st a w->∀(ro:Option Nat)(n:Nat)(K:Act->World->Prop)(Q:Exit->Act->World->Prop),(∀V' w' v,HRel E V' m.hp m.tk w'->V'.nx=m.nx->V.Le V' w w'->x.rel V' w' v->K (a.put o.dst v) w')->o.wpIn (FR ro) n E.P a w K Q
def CallM(P:Program)(f:FuncId)(args:List AV)(m:Mem)(res:TV)(m':Mem):Prop:=Qd P f/\∀(E:Env)(V:Vu)(w:World)(vs:Array Value),E.P=P->HRel E V m.hp m.tk w->V.nx=m.nx->argsRel V w args vs -> Calls P f vs w λe w'=>∃v V',e=.returned v/\HRel E V' m'.hp m'.tk w'/\V'.nx=m'.nx/\V.Le V' w w'/\res.rel V' w' v
def Q0x(E:Env)(rn ro:Option Nat):Prop:=match rn with|none=>ro=none|some L=>L<E.V0.nx/\ro=some (E.V0.ι L)
def ExecOK(P:Program)(rn:Option Nat)(c:Code)(st:St)(e:Exit)(st':St):Prop:=∀(E:Env)(ro:Option Nat)(n:Nat)(Q:Exit->Act->World->Prop),E.P=P->Q0x E rn ro->XQ E Q e st'->XC E ro n Q c st
section
variable{E:Env}{ro:Option Nat}{n:Nat}{ops:Array Oper}{Q:Exit->Act->World->Prop}{rest:List Oper}{st st':St}{o:Oper}{x:TV}{m:Mem}
theorem Q9(h:RO E o st x):OpOK E o st x st.mem:=by intro V a w hr ro n K Q hK;exact Qgx h hr (λv hx=>hK V w v hr.h hr.nx (Vu.Le.refl _ _) hx)
def WU(st:St)(dst:Option Nat)(x:TV)(m:Mem):St:=match dst with|some d=>⟨(d,x)::QT d st.tm,m.hp,m.tk,m.nx,st.nt,st.df⟩|none=>st.withMem m
def ZH(st:St)(dst:Option Nat):Bool:=match dst with|some d=>Nat.blt d st.nt|none=>true
theorem Rel.mem{V V':Vu}{a:Act}{w w':World}(hr:Rel E V st a w)(H:HRel E V' m.hp m.tk w')(hn:V'.nx=m.nx)(L:V.Le V' w w'):Rel E V' (st.withMem m) a w':=⟨H,hn,hr.nt,hr.df.le L,λt y hy=>(hr.tm t y hy).mono L⟩
theorem Rel.next{V V':Vu}{a:Act}{w w':World}{dst:Option Nat}{v:Value}(hr:Rel E V st a w)(hd:ZH st dst=true)(H:HRel E V' m.hp m.tk w')(hn:V'.nx=m.nx)(L:V.Le V' w w')(hx:x.rel V' w' v):Rel E V' (WU st dst x m) (a.put dst v) w':=by cases dst with|none=>exact hr.mem H hn L|some d=>have h1:=(hr.mem H hn L).put (d:=d) (C9 hd) hx;exact⟨h1.h,h1.nx,h1.nt,h1.df,λt y hy=>h1.tm t y (by rw[<-hy];exact(JI d x st.tm t).symm)⟩
theorem Rel.nextU{V:Vu}{a:Act}{w:World}{dst:Option Nat}(hr:Rel E V st a w):Rel E V (WU st dst (.tup []) st.mem) (a.put dst undef) w:=by cases dst with|none=>exact hr|some d=>have h1:=hr.und d;exact⟨h1.h,h1.nx,h1.nt,h1.df,λt y hy=>h1.tm t y (by rw[<-hy];exact(JI d _ st.tm t).symm)⟩
def QQ(ops:Array Oper)(tm:List (Nat×TV))(o:Oper):Option Bool:=match o.guard with|none=>some true|some (j,b)=>match(ops[j]?).bind (·.dst)with|none=>none|some d=>match lk tm d with|some (.v (.one (.d (.v (.bool c)))))=>some (c==b)|some (.tup [])=>some false|_=>none
theorem Z9{V:Vu}{a:Act}{w:World}{b:Bool}(hr:Rel E V st a w)(h:QQ ops st.tm o=some b):Region.wanted o (yielded ops a.tmps)=b:=by unfold QQ at h;split at h;rename_i hg;cases h;simp[Region.wanted,hg];rename_i j b' hg;split at h;cases h;rename_i d hd;split at h;rename_i c hc;cases h;simp only[Region.wanted,hg,Qgv hr hd hc];cases c <;> cases b' <;> rfl;rename_i hc;cases h;simp[Region.wanted,hg,Qdf hr hd hc];cases h
theorem Qcu(hg:QQ ops st.tm o=some true)(ho:OpOK E o st x m)(hd:ZH st o.dst=true)(k:XL E ro n ops Q rest (WU st o.dst x m)):XL E ro n ops Q (o::rest) st:=by intro V a w h;unfold wpListIn;rw[Cf (Z9 h hg)];exact ho V a w h ro n _ Q (λV' w' v H hn L hx=>k V' _ w' (h.next hd H hn L hx))
theorem Qnj(hg:QQ ops st.tm o=some false)(k:XL E ro n ops Q rest (WU st o.dst (.tup []) st.mem)):XL E ro n ops Q (o::rest) st:=by intro V a w h;unfold wpListIn;rw[Ca (by rw[Z9 h hg];exact Cp)];exact⟨λ_ _=>trivial,k V _ w h.nextU⟩
end
section
variable(ops:Array Oper)
def Qcs:Nat->List Nat->List Nat|0,l=>l|k+1,l=>Qcs k (cond (l.contains k) (QM ops k++l) l)
def Qv4(l:List Nat):List Nat:=Qcs ops ops.size l
def JG:List Nat:=(List.range ops.size).filterMap (Jz ops)
def Q9t(i t:Nat):Bool:=(List.range ops.size).any λj=>match Jz ops j with|some d=>cond (Nat.beq d t) (!((QM ops j).contains i)) false|none=>false
def Q67(i:Nat)(tm:List (Nat×TV)):List (Nat×TV):=tm.filter λp=>!(Q9t ops i p.1)
theorem Qc2{ops:Array Oper}{i:Nat}:∀(tm:List (Nat×TV))(t:Nat)(x:TV),lk (Q67 ops i tm) t=some x->lk tm t=some x/\Q9t ops i t=false
 |[],t,x,h=>by cases h
 |(k,v)::r,t,x,h=>by
  simp only[Q67,CE]at h;split at h
  · rename_i hk
    rw[Q8]at h⊢
    split at h
    · rename_i hkt;subst hkt;rw[Cf rfl];exact⟨h,by simpa using hk⟩
    · rename_i hkt;rw[Ca hkt];exact Qc2 r t x h
  · rename_i hk
    have:=Qc2 r t x h
    rw[Q8,Ca]
    · exact this
    · intro e;subst e;rw[this.2]at hk;exact hk rfl
theorem Qtr{ops:Array Oper}{i t j:Nat}(h:Q9t ops i t=false)(hd:Jz ops j=some t)(hj:j<ops.size):i∈QM ops j:=by have:=Pt.1 h j (by simpa using hj);rw[hd]at this;simpa using this
def QI(st:St)(fx:List (Nat×TV))(i:Nat)(m:Mem):St:=⟨JO ops fx (QM ops i)++Q67 ops i st.tm,m.hp,m.tk,m.nx,st.nt,st.df⟩
def Q35(effs:List Nat)(i j:Nat):Bool:=(effs.take j).all (λe=>!((Qv4 ops [e]).contains i))&&(effs.drop j).all (λe=>e==i||!((Qv4 ops [i]).contains e))&&(!(effs.contains i)||effs[j]?==some i)
def Q7h(effs:List Nat):Bool:=
 (List.range ops.size).all (λi=>(QM ops i).all λk=>decide (k<i))&&decide (JG ops).Nodup &&
 (List.range (effs.length-1)).all (λj=>match effs[j]?,effs[j+1]? with
  |some a,some b=>(QM ops b).contains a||(Qv4 ops [b]).contains a
  |_,_=>true)&&decide effs.Nodup&&effs.all (λe=>decide (e<ops.size))
end
structure AnyInv(E:Env)(ops:Array Oper)(st:St)(fx:List (Nat×TV))(effs:List Nat)(ms:List Mem)(listed:Array Bool)(a:Act)(w:World)(V:Vu)(j:Nat)(m:Mem):Prop where
 size:listed.size=ops.size
 closed:∀i,listed.getD i false=true->∀k∈QM ops i,listed.getD k false=true
 done:∀e∈effs.take j,listed.getD e false=true
 todo:∀e∈effs.drop j,listed.getD e false=false
 mem:ms[j]?=some m
 rel:Rel E V ⟨Ud (JG ops) st.tm,m.hp,m.tk,m.nx,st.nt,st.df⟩ a w
 fact:∀i,listed.getD i false=true->∀d x,Jz ops i=some d->lk fx i=some x->x.rel V w (a.tmps.getD d undef)
 old:∀t x,lk st.tm t=some x->(∀k,Jz ops k=some t->listed.getD k false=false)->x.rel V w (a.tmps.getD t undef)
section
variable{E:Env}{ops:Array Oper}{st:St}{fx:List (Nat×TV)}{effs:List Nat}{ms:List Mem}{listed:Array Bool}{a:Act}{w:World}{V:Vu}{j:Nat}{m:Mem}
theorem Qg7{p:Nat->Prop}(hp:∀i,p i->∀k∈QM ops i,p k){l:List Nat}(h:∀i∈l,p i):∀i∈Qv4 ops l,p i:=by
 have key:∀(k:Nat)(l:List Nat),(∀i∈l,p i)->∀i∈Qcs ops k l,p i:=by intro k;induction k with|zero=>exact λl h=>h|succ k ih=>intro l h;simp only[Qcs];cases hc:l.contains k with|false=>exact ih l h|true=>refine ih _ (λi hi=>?_);simp only[C5,CR]at hi;rcases hi with hi|hi;exact hp k (h k (by simpa using hc)) i hi;exact h i hi
 exact key ops.size l h
theorem AnyInv.depsRel(h:AnyInv E ops st fx effs ms listed a w V j m){i:Nat}(hno:listed.getD i false=false)(hd:∀k∈QM ops i,listed.getD k false=true):Rel E V (QI ops st fx i m) a w:=by refine⟨h.rel.h,h.rel.nx,h.rel.nt,h.rel.df,λt x hx=>?_⟩;simp only[QI,JN]at hx;split at hx;rename_i y hy;cases hx;obtain⟨k,h1,h2,h3⟩:=Xv _ t x hy;exact h.fact k (hd k h1) t x h2 h3;obtain⟨h1,h2⟩:=Qc2 _ _ _ hx;refine h.old t x h1 (λk hk=>?_);cases hc:listed.getD k false with|false=>rfl|true=>(have hk':k<ops.size:=by rcases P2 k ops.size with h3|h3;exact h3;simp[Jz,P0 h3]at hk);have:=h.closed k hc i (Qtr h2 hk hk');rw[hno]at this;cases this
theorem AnyInv.may(h:AnyInv E ops st fx effs ms listed a w V j m)(hB:Q7h ops effs=true){i:Nat}(hlt:i<ops.size)(hno:listed.getD i false=false)(hd:∀k∈QM ops i,listed.getD k false=true):Q35 ops effs i j=true:=by
 simp only[Q7h,CD,CZ]at hB;obtain⟨⟨⟨⟨-,-⟩,hch⟩,hnd⟩,-⟩:=hB;have key:∀e,e≠i->e∈Qv4 ops [i]->listed.getD e false=true:=λe he hm=>by have:=Qg7 (p:=λx=>x=i\/listed.getD x false=true) (λx hx k hk=>by rcases hx with rfl|hx;exact .inr (hd k hk);exact .inr (h.closed x hx k hk)) (l:=[i]) (λx hx=>.inl (by simpa using hx)) e hm;exact this.resolve_left he
 simp only[Q35,CD,PJ,PW,Sq,CZ,decide_eq_false_iff_not,Ch,P3];refine⟨⟨λe he hc=>?_,λe he=>?_⟩,?_⟩;have:=Qg7 h.closed (l:=[e]) (λi' hi'=>by simp at hi';subst hi';exact h.done _ he) i hc;rw[hno]at this;cases this;by_cases hei:e=i;exact .inl hei;refine .inr λhc=>?_;have h1:=key e hei hc;have h2:=h.todo e he;rw[h2]at h1;cases h1;by_cases hm:i∈effs;refine .inr ?_;have hdrop:i∈effs.drop j:=by rw[<-So j effs,CR]at hm;rcases hm with hm|hm;have:=h.done i hm;rw[hno]at this;cases this;exact hm
 obtain⟨q,hq⟩:=PH hdrop;rw[CS]at hq;cases q with|zero=>simpa using hq|succ q=>exfalso;have hlt':=(Ce.1 hq).1;have hp:effs[j+q]?=some effs[j+q]:=Cm (by omega);have h1:=Ch.1 hch (j+q) (by simp;omega);rw[hp,show j+q+1=j+(q+1) by omega,hq]at h1;simp only[PJ,Sq,CZ]at h1;(have hmem:effs[j+q]∈effs.drop j:=by rw[Sp];exact⟨q,by rw[CS];exact hp⟩);have hun:=h.todo _ hmem;(have hne:effs[j+q]≠i:=λe=>by(have e1:effs[j+q]?=effs[j+(q+1)]?:=by rw[hp,hq,e]);have:=(List.getElem?_inj (by omega) hnd).1 e1;omega);rcases h1 with h1|h1;have:=hd _ h1;rw[hun]at this;cases this;have:=key _ hne h1;rw[hun]at this;cases this
 exact .inl hm
def Qnn(E:Env)(ops:Array Oper)(st:St)(fx:List (Nat×TV))(effs:List Nat)(ms:List Mem)(i j:Nat)(m:Mem):Prop:=∃o x,ops[i]?=some o/\lk fx i=some x/\ZH st o.dst=true /\ ((QQ ops (QI ops st fx i m).tm o=some true/\∃m',OpOK E o (QI ops st fx i m) x m'/\(if effs.contains i then ms[j+1]?=some m' else m'=m)) \/ (QQ ops (QI ops st fx i m).tm o=some false/\x=.tup []/\(effs.contains i=true->ms[j+1]?=some m)))
theorem AnyInv.step(h:AnyInv E ops st fx effs ms listed a w V j m)(hB:Q7h ops effs=true){i:Nat}(hlt:i<ops.size)(hno:listed.getD i false=false){V':Vu}{w':World}{v:Value}{o:Oper}{x:TV}(ho:ops[i]?=some o)(hx:lk fx i=some x)(hd:ZH st o.dst=true){m':Mem}{j':Nat}(hj:if effs.contains i then effs[j]?=some i/\j'=j+1 else j'=j)(hm:ms[j']?=some m')(H:HRel E V' m'.hp m'.tk w')(hn:V'.nx=m'.nx)(L:V.Le V' w w')(hxv:x.rel V' w' v)(hdeps:∀k∈QM ops i,listed.getD k false=true):AnyInv E ops st fx effs ms (listed.setIfInBounds i true) (a.put o.dst v) w' V' j' m':=by
 have hsz:i<listed.size:=by rw[h.size];exact hlt
 have hget:∀k,(listed.setIfInBounds i true).getD k false=if k=i then true else listed.getD k false:=λk=>by by_cases hk:k=i;subst hk;simp[hsz];rw[Ca hk,getD_set_ne false (λe=>hk e.symm)]
 have hB':=hB;simp only[Q7h,CD,CZ]at hB';obtain⟨⟨⟨⟨-,hnd⟩,-⟩,hne⟩,-⟩:=hB';refine⟨by simp[h.size],λk hk e he=>?_,λe he=>?_,λe he=>?_,hm,?_,λk hk d y hd' hy=>?_,λt y hy hun=>?_⟩;rw[hget]at hk⊢;split;rfl;by_cases hki:k=i;subst hki;exact hdeps e he;rw[Ca hki]at hk;exact h.closed k hk e he;rw[hget];split;rfl;rename_i hei;split at hj;obtain⟨h1,rfl⟩:=hj;rw[Sc,CR,h1]at he;rcases he with he|he;exact h.done e he;simp at he;exact absurd he hei;subst hj;exact h.done e he;rw[hget];have hmem:e∈effs.drop j/\e≠i:=by split at hj;obtain⟨h1,rfl⟩:=hj;refine⟨?_,λe'=>?_⟩;obtain⟨q,hq⟩:=PH he;rw[CS]at hq;rw[Sp];exact⟨q+1,by rw[CS,show j+(q+1)=j+1+q by omega];exact hq⟩;subst e';obtain⟨q,hq⟩:=PH he;rw[CS]at hq;have:=(List.getElem?_inj (Ce.1 h1).1 hne).1 (h1.trans hq.symm);omega;rename_i hc;subst hj;refine⟨he,λe'=>?_⟩;subst e';exact hc (by simpa using List.mem_of_mem_drop he)
 rw[Ca hmem.2];exact h.todo e hmem.1;have hr:=h.rel.mem (m:=m') H hn L;cases hdst:o.dst with|none=>exact hr|some d=>(have hlt':d<st.nt:=by rw[hdst]at hd;exact C9 hd);refine⟨hr.h,hr.nx,by simp[Act.put,h.rel.nt],hr.df,λt y hy=>?_⟩;have h1:=hr.tm t y hy;have h2:=(Q4n _ _ _ hy).2;simp only[Act.put];rw[Gx (by rw[h.rel.nt];exact hlt'),Ca];exact h1;intro e;subst e;exact h2 (by simp only[JG,Ph,List.mem_range];exact⟨i,hlt,by simp[Jz,ho,hdst]⟩)
 by_cases hki:k=i;subst hki;rw[hx]at hy;cases hy;have hdo:o.dst=some d:=by simpa[Jz,ho]using hd'
 have hlt':d<a.tmps.size:=by rw[hdo]at hd;rw[h.rel.nt];exact C9 hd
 rw[hdo];simp only[Act.put];rw[Gx hlt',Cf rfl];exact hxv;rw[hget,Ca hki]at hk;have h1:=(h.fact k hk d y hd' hy).mono L;cases hdst:o.dst with
 |none=>exact h1
 |some d0=>
  have hlt':d0<a.tmps.size:=by rw[hdst]at hd;rw[h.rel.nt];exact C9 hd
  simp only[Act.put];rw[Gx hlt',Ca];exact h1;intro e;subst e;have hk':k<ops.size:=by rcases P2 k ops.size with h3|h3;exact h3;simp[Jz,P0 h3]at hd'
  have hi':Jz ops i=some d0:=by simp[Jz,ho,hdst]
  have hp:∀(l:List Nat),l.Nodup->(l.filterMap (Jz ops)).Nodup->i∈l->k∈l->i=k:=by intro l;induction l with|nil=>intro _ _ h;cases h|cons p l ih=>intro hl hf hi hk;rw[CX]at hl;rw[Pw]at hf;rcases Cs.1 hi with rfl|hi2;rcases Cs.1 hk with rfl|hk2;rfl;rw[hi']at hf;simp only[CX]at hf;exact absurd (Ph (l:=l).2 ⟨k,hk2,hd'⟩) hf.1;rcases Cs.1 hk with rfl|hk2;rw[hd']at hf;simp only[CX]at hf;exact absurd (Ph (l:=l).2 ⟨i,hi2,hi'⟩) hf.1;refine ih hl.2 ?_ hi2 hk2;split at hf;exact hf;exact(CX.1 hf).2
  exact hki (hp (List.range ops.size) List.nodup_range hnd (by simpa using hlt) (by simpa using hk')).symm
 have h1:=(h.old t y hy (λk hk=>by have:=hun k hk;rw[hget]at this;split at this;cases this;exact this)).mono L;cases hdst:o.dst with|none=>exact h1|some d0=>(have hlt':d0<a.tmps.size:=by rw[hdst]at hd;rw[h.rel.nt];exact C9 hd);simp only[Act.put];rw[Gx hlt',Ca];exact h1;intro e;subst e;have:=hun i (by simp[Jz,ho,hdst]);rw[hget,Cf rfl]at this;cases this
def Q3g(ops:Array Oper)(st:St)(fx:List (Nat×TV))(m:Mem):St:=⟨JO ops fx (List.range ops.size)++Ud (JG ops) st.tm,m.hp,m.tk,m.nx,st.nt,st.df⟩
def DieOp(E:Env)(Q:Exit->Act->World->Prop)(ops:Array Oper)(st:St)(fx:List (Nat×TV))(i:Nat)(m:Mem):Prop:=∃o,ops[i]?=some o/\QQ ops (QI ops st fx i m).tm o=some true/\∀V a w,Rel E V (QI ops st fx i m) a w->∀(ro:Option Nat)(n:Nat)(K:Act->World->Prop),o.wpIn (FR ro) n E.P a w K Q
theorem Qgc{ro:Option Nat}{n:Nat}{Q:Exit->Act->World->Prop}{id:Nat}{ops:Array Oper}{st:St}(fx:List (Nat×TV))(effs:List Nat)(ms:List Mem){mE:Mem}(hm:E.P.follows .mixedOrders=true)(hB:Q7h ops effs=true)(h0:ms[0]?=some st.mem)(hE:ms[effs.length]?=some mE)(hops:∀i j m,i<ops.size->j<=effs.length->ms[j]?=some m->Q35 ops effs i j=true->Qnn E ops st fx effs ms i j m\/DieOp E Q ops st fx i m)(k:XQ E Q .normal (Q3g ops st fx mE)):XC E ro n Q (.region id ops true) st:=by
 intro V a w hr;refine Gj (wpIn_region_any hm ?_);have hr':=hr.drew;have hB':=hB;simp only[Q7h,CD,CZ]at hB';obtain⟨⟨⟨⟨hdag,-⟩,-⟩,-⟩,heff⟩:=hB';have hrdy:∀listed:Array Bool,listed.size=ops.size->Region.ready .any ops listed=[]->∀i,i<ops.size->listed.getD i false=true:=by intro listed hsz hrd i;induction i using Nat.strongRecOn with|ind i ih=>intro hi;cases hc:listed.getD i false with|true=>rfl|false=>exfalso;(have hnm:i∉Region.ready .any ops listed:=by rw[hrd];exact List.not_mem_nil);refine hnm (mem_ready.2 ?_);obtain⟨o,ho⟩:∃o,ops[i]?=some o:=⟨_,P7 hi⟩;refine⟨getD_in (by rw[hsz];exact hi) hc,o,ho,λe he hb=>?_⟩;have hem:e.on∈QM ops i:=(Q94 ho).2 ⟨e,he,hb,rfl⟩;have hlt:=Ch.1 (Ch.1 hdag i (by simpa using hi)) _ hem;(have hlt':e.on<i:=by simpa using hlt);exact ih e.on hlt' (by omega)
 have fin:∀(listed:Array Bool)(a:Act)(w:World)(V:Vu)(j:Nat)(m:Mem),j<=effs.length->AnyInv E ops st fx effs ms listed a w V j m->(∀i,i<ops.size->listed.getD i false=true)->Q .normal a w:=by intro listed a w V j m hj hI hall;(have hjk:j=effs.length:=by rcases P2 j effs.length with h1|h1;exfalso;(have hmem:effs[j]∈effs.drop j:=by rw[Sp];exact⟨0,by rw[CS];simp[h1]⟩);have h2:=hI.todo _ hmem;have h3:=hall effs[j] (by simpa using Ch.1 heff effs[j] (List.getElem_mem h1));rw[h2]at h3;cases h3;omega);subst hjk;have e1:m=mE:=Cw (hI.mem.symm.trans hE);subst e1;refine k V a w ⟨hI.rel.h,hI.rel.nx,hI.rel.nt,hI.rel.df,λt x hx=>?_⟩;simp only[Q3g,JN]at hx;split at hx;rename_i y hy;cases hx;obtain⟨i,h1,h2,h3⟩:=Xv _ t x hy;exact hI.fact i (hall i (by simpa using h1)) t x h2 h3;exact hI.rel.tm t x hx
 have main:∀(fuel:Nat)(listed:Array Bool)(a:Act)(w:World)(V:Vu)(j:Nat)(m:Mem),j<=effs.length->AnyInv E ops st fx effs ms listed a w V j m -> (∀c,ops.size<=fuel+c->c<=((List.range ops.size).filter λi=>listed.getD i false).length->True) -> ops.size<=fuel+((List.range ops.size).filter λi=>listed.getD i false).length->wpAnyIn (FR ro) n E.P .any ops Q fuel listed a w:=by intro fuel;induction fuel with|zero=>intro listed a w V j m hj hI _ hc;(have hall:∀i,i<ops.size->listed.getD i false=true:=by intro i hi;(have h1:((List.range ops.size).filter λi=>listed.getD i false).length=(List.range ops.size).length:=by have:=PQ (λi=>listed.getD i false) (List.range ops.size);simp only[List.length_range]at this⊢;omega);exact List.length_filter_eq_length_iff.1 h1 i (by simpa using hi));refine⟨?_,fin listed a w V j m hj hI hall⟩;unfold Region.ready;rw[List.filter_eq_nil_iff];intro i hi;(have hi':i<ops.size:=by simpa using hi);(have:listed.getD i true=true:=by have h1:=hall i hi';(have:i<listed.size:=by rw[hI.size];exact hi');simp[this]at h1⊢;exact h1);rw[this];simp|succ fuel ih=>intro listed a w V j m hj hI _ hc;refine⟨λhrd=>fin listed a w V j m hj hI (hrdy listed hI.size hrd),λi hi=>?_⟩;obtain⟨hun,o,ho,hdeps⟩:=mem_ready.1 hi;have hlt:i<ops.size:=(CP.1 ho).1;(have hno:listed.getD i false=false:=by(have:i<listed.size:=by rw[hI.size];exact hlt);simp[this]at hun⊢;exact hun);(have hd:∀k∈QM ops i,listed.getD k false=true:=λk hk=>by obtain⟨e,he,hb,rfl⟩:=(Q94 ho).1 hk;exact hdeps e he hb);have hmay:=hI.may hB hlt hno hd;have hrel:=hI.depsRel hno hd;rcases hops i j m hlt hj hI.mem hmay with hop|⟨o',ho',hw,hdie⟩;(case inr=>rw[ho]at ho';cases ho';unfold wpOpIn;simp only[ho];rw[Cf (Z9 hrel hw)];exact hdie V a w hrel ro n _);obtain⟨o',x,ho',hx,hdst,hcase⟩:=hop;rw[ho]at ho';cases ho';(have hcnt:ops.size<=fuel+((List.range ops.size).filter λi'=>(listed.setIfInBounds i true).getD i' false).length:=by(have h1:((List.range ops.size).filter λi=>listed.getD i false).length<((List.range ops.size).filter λi'=>(listed.setIfInBounds i true).getD i' false).length:=by(have key:∀(l:List Nat),l.Nodup->i∈l->(l.filter λi=>listed.getD i false).length<(l.filter λi'=>(listed.setIfInBounds i true).getD i' false).length:=by(have hget:∀k,(listed.setIfInBounds i true).getD k false=if k=i then true else listed.getD k false:=λk=>by by_cases hk:k=i;subst hk;(have:k<listed.size:=by rw[hI.size];exact hlt);simp[this];rw[Ca hk,getD_set_ne false (λe=>hk e.symm)]);(have hle:∀(l:List Nat),(l.filter λi=>listed.getD i false).length<=(l.filter λi'=>(listed.setIfInBounds i true).getD i' false).length:=by intro l;induction l with|nil=>exact Cl _|cons p l ih=>rw[CE,CE,hget];by_cases hp:p=i;subst hp;rw[hno];simp only[if_true];rw[C1];simp only[P4,if_false];omega;rw[Ca hp];split <;> (try rw[C1,C1]) <;> omega);intro l;induction l with|nil=>intro _ h;cases h|cons p l ih=>intro hnd' hi';rw[CX]at hnd';rw[CE,CE,hget];rcases Cs.1 hi' with rfl|hi';rw[hno];simp only[if_true,P4,if_false];rw[C1];have:=hle l;omega;have:=ih hnd'.2 hi';have hp:p≠i:=λe=>hnd'.1 (by rw[e];exact hi');rw[Ca hp];split <;> (try rw[C1,C1]) <;> omega);exact key _ List.nodup_range (by simpa using hlt));omega);unfold wpOpIn;simp only[ho];rcases hcase with⟨hw,m',hok,hm'⟩|⟨hw,rfl,hc'⟩;rw[Cf (Z9 hrel hw)];refine hok V a w hrel ro n _ Q (λV' w' v H hn L hxv=>?_);by_cases hce:effs.contains i=true;rw[Cf hce]at hm';(have hej:effs[j]?=some i:=by simp only[Q35,CD,PJ,PW,P3]at hmay;rcases hmay.2 with h1|h1;rw[hce]at h1;cases h1;exact h1);refine ih _ _ _ V' (j+1) m' (by have:=(Ce.1 hej).1;omega) (hI.step hB hlt hno ho hx hdst (by rw[Cf hce];exact⟨hej,rfl⟩) hm' H hn L hxv hd) (λ_ _ _=>trivial) hcnt;rw[Ca hce]at hm';subst hm';exact ih _ _ _ V' j m' hj (hI.step hB hlt hno ho hx hdst (by rw[Ca hce]) hI.mem H hn L hxv hd) (λ_ _ _=>trivial) hcnt;rw[Ca (by rw[Z9 hrel hw];exact Cp)];refine⟨λ_ _=>trivial,?_⟩;by_cases hce:effs.contains i=true;(have hej:effs[j]?=some i:=by simp only[Q35,CD,PJ,PW,P3]at hmay;rcases hmay.2 with h1|h1;rw[hce]at h1;cases h1;exact h1);exact ih _ _ _ V (j+1) m (by have:=(Ce.1 hej).1;omega) (hI.step hB hlt hno ho hx hdst (by rw[Cf hce];exact⟨hej,rfl⟩) (hc' hce) hI.rel.h hI.rel.nx (Vu.Le.refl _ _) DQ hd) (λ_ _ _=>trivial) hcnt;exact ih _ _ _ V j m hj (hI.step hB hlt hno ho hx hdst (by rw[Ca hce]) hI.mem hI.rel.h hI.rel.nx (Vu.Le.refl _ _) DQ hd) (λ_ _ _=>trivial) hcnt
 refine main ops.size _ a _ V 0 st.mem (Cd _) ⟨by simp,λi hi=>?_,λe he=>by simp at he,λe _=>getD_replicate_false _ _,h0,⟨hr'.h,hr'.nx,hr'.nt,hr'.df,λt y hy=>hr'.tm t y (Q4n _ _ _ hy).1⟩,λi hi=>?_,λt y hy _=>hr'.tm t y hy⟩ (λ_ _ _=>trivial) (by omega);rw[getD_replicate_false]at hi;cases hi;rw[getD_replicate_false]at hi;cases hi
end
end
section
open Go.RowKit
def Z7(tm:List (Nat×TV)):List Operand->Option (List AV)|[]=>some []|o::os=>match ev tm o,Z7 tm os with|some (.v x),some xs=>some (x::xs)|_,_=>none
theorem KG{tm:List (Nat×TV)}:∀{os:List Operand}{xs:List AV},Z7 tm os=some xs->os.length=xs.length/\∀(i:Nat)(y:AV),xs[i]?=some y->∃o,os[i]?=some o/\ev tm o=some (.v y)|[],xs,h=>by cases h;exact⟨rfl,λi y hy=>by simp at hy⟩|o::os,xs,h=>by simp only[Z7]at h;split at h;rename_i x ys hx hys;cases h;obtain⟨h1,h2⟩:=KG hys;refine⟨by simp[h1],λi y hy=>?_⟩;(cases i with|zero=>simp at hy;subst hy;exact⟨o,rfl,hx⟩|succ i=>exact h2 i y (by simpa using hy));cases h
def K9(caps:List (Nat×Nat)):List AV:=caps.map λp=>.one (.ptr p.1 p.2)
theorem KI{E:Env}{V:Vu}{st:St}{a:Act}{w:World}(hr:Rel E V st a w){ars:Array Operand}{args:List AV}(ha:Z7 st.tm ars.toList=some args):argsRel V w args (ars.map a.eval):=by obtain⟨h1,h2⟩:=KG ha;refine⟨by simpa using h1,λi y hy=>?_⟩;obtain⟨o,h3,h4⟩:=h2 i y hy;exact⟨a.eval o,by simp at h3;simp[h3],hr.ev h4⟩
theorem argsRel.append{V:Vu}{w:World}{xs ys:List AV}{us vs:Array Value}(h:argsRel V w xs us)(k:argsRel V w ys vs):argsRel V w (xs++ys) (us++vs):=by refine⟨by simp[h.1,k.1],λi y hy=>?_⟩;by_cases hi:i<xs.length;rw[CG hi]at hy;obtain⟨u,h1,h2⟩:=h.2 i y hy;exact⟨u,by rw[P9 (by rw[h.1];exact hi)];exact h1,h2⟩;rw[CQ (by omega)]at hy;obtain⟨u,h1,h2⟩:=k.2 _ y hy;exact⟨u,by rw[Array.getElem?_append_right (by rw[h.1];omega),h.1];exact h1,h2⟩
theorem ZR{V:Vu}{w:World}{caps:List (Nat×Nat)}(h:∀p∈caps,p.1<V.nx):argsRel V w (K9 caps) (caps.map λp=>Value.pointer (some ⟨V.ι p.1,p.2,none⟩)).toArray:=by refine⟨by simp[K9],λi y hy=>?_⟩;simp only[K9,Cn]at hy;cases hi:caps[i]? with|none=>rw[hi]at hy;cases hy|some p=>rw[hi]at hy;cases hy;exact⟨.pointer (some ⟨V.ι p.1,p.2,none⟩),by simp[hi],h p (Cr hi),rfl⟩
section
variable{E:Env}{st:St}{dd:Option Nat}{ty:TypeId}{pos:String}{af:Array Edge}{g:Option (Nat×Bool)}
theorem Qan{x:Operand}{f:FuncId}{caps:List (Nat×Nat)}{ars:Array Operand}{args:List AV}{ats:Array TypeId}{res:TV}{m':Mem}(hx:ev st.tm x=some (.v (.one (.fn f caps))))(ha:Z7 st.tm ars.toList=some args)(hc:CallM E.P f (args++K9 caps) st.mem res m'):OpOK E ⟨dd,.call {callee:=.value x,args:=ars,argTypes:=ats},ty,pos,af,g⟩ st res m':=by
 intro V a w hr ro n K Q hK;refine⟨λ_ _=>trivial,?_⟩;rw[Oper.semAt_eq _ _ _ (by intro c h;cases h)];obtain⟨hv1,hv2⟩:=hr.ev hx;have hrun:(execOp a.eval ⟨dd,.call {callee:=.value x,args:=ars,argTypes:=ats},ty,pos,af,g⟩).run E.P w=.ok (.enter f (ars.map a.eval++(caps.map λp=>Value.pointer (some ⟨V.ι p.1,p.2,none⟩)).toArray)) w:=by have:=hc.1 (ars.map a.eval++(caps.map λp=>Value.pointer (some ⟨V.ι p.1,p.2,none⟩)).toArray) w;simp[execOp,resolve,hv2,Deferred.ofValue,invoke];simpa using this
 rw[hrun];refine⟨(by intro h;cases h),?_⟩;have hc':CallsIn Fence.wide (n-1) E.P f _ w _:=callsIn_wide.2 (hc.2 E V w _ rfl hr.h hr.nx ((KI hr ha).append (ZR hv1)));refine CallsIn.mono (F:=FR ro) hc' ?_;rintro e w' ⟨v,V',rfl,H,hn,L,hres⟩;exact hK V' w' v H hn L hres
def ZQ:List Nat->List AV->List (Nat×TV)->List (Nat×TV)|t::ts,x::xs,tm=>ZQ ts xs ((t,.v x)::QT t tm)|_,_,tm=>tm
theorem WQ{V:Vu}{w:World}:∀(ts:List Nat)(xs:List AV)(vs:List Value)(tm:List (Nat×TV))(tmps:Array Value),xs.length=vs.length->(∀(i:Nat)(y:AV),xs[i]?=some y->∃u,vs[i]?=some u/\y.rel V w u)->(∀t∈ts,t<tmps.size) -> (∀t x,lk tm t=some x->x.rel V w (tmps.getD t undef))->((ts.zip vs).foldl (λtmps (p:Nat×Value)=>tmps.setIfInBounds p.1 p.2) tmps).size=tmps.size/\∀t x,lk (ZQ ts xs tm) t=some x->x.rel V w (((ts.zip vs).foldl (λtmps (p:Nat×Value)=>tmps.setIfInBounds p.1 p.2) tmps).getD t undef)|[],xs,vs,tm,tmps,_,_,_,h=>by simpa[ZQ]using h|t::ts,[],vs,tm,tmps,hl,_,_,h=>by have:vs=[]:=Cz (by simpa using hl.symm);subst this;simpa[ZQ]using h|t::ts,x::xs,vs,tm,tmps,hl,hx,ht,h=>by match vs,hl with|v::vs,hl=>obtain⟨u,hu,hxu⟩:=hx 0 x rfl;simp at hu;subst hu;have ht0:=ht t (by simp);have ih:=WQ (V:=V) (w:=w) ts xs vs ((t,.v x)::QT t tm) (tmps.setIfInBounds t v) (by simpa using hl) (λi y hy=>by have:=hx (i+1) y (by simpa using hy);simpa using this) (λt' ht'=>by simpa using ht t' (by simp[ht'])) (λt' y hy=>by rw[JI,Q8]at hy;rw[Gx ht0];split at hy;rename_i e;subst e;cases hy;rw[Cf rfl];exact hxu;rename_i e;rw[Ca e];exact h t' y hy);simp only[List.zip_cons_cons,PS,ZQ];exact⟨by rw[ih.1];simp,ih.2⟩
def U6:Exit->Option (Option Code)|.normal=>some none|.ret=>some (some .ret)|.exit id=>some (some (.exit id))|_=>none
theorem Q2u{P:Program}{o:Oper}{x:Operand}{ars:Array Operand}{ats:Array TypeId}{ρ:Operand->Value}{l:Nat}{r:Loop}{w:World}(ho:o.op=.call {callee:=.value x,args:=ars,argTypes:=ats})(hx:ρ x=.func (.yield l) #[] #[])(hl:w.heap[l]?=some (.loop r))(hs:ars.size=r.params.size):(execOp ρ o).run P w=.ok (.round l r.fn ((r.params.zip (ars.map ρ)).foldl (λtmps (t,a)=>tmps.setIfInBounds t a) r.tmps) r.assign r.body) w:=by have:=run_yield (P:=P) (args:=ars.map ρ) hl (by simpa using hs);simp only[execOp,ho,resolve,hx,Deferred.ofValue,Sem.run_bind,Sem.run_pure,Result.andThen_ok,invoke,Array.empty_append];exact this
theorem Q7p{x:Operand}{L:Nat}{ars:Array Operand}{args:List AV}{ats:Array TypeId}{p0 p1 p2:Option Code}{tm0 tm1 tm2:List (Nat×TV)}{nt0 nt1 nt2:Nat}{ps0 ps1 ps2:Array Nat}{as0 as1 as2 bd0 bd1 bd2:Code}{D0 D1 D2:Nat}{sa sb:St}{e:Exit}{jump:Option Code}(hx:ev st.tm x=some (.v (.one (.yld L))))(ha:Z7 st.tm ars.toList=some args)(hL:lk st.hp L=some (.loop .ready p0 tm0 nt0 ps0 as0 bd0 D0))(hlen:ars.size=ps0.size)(hps:ps0.toList.all (λt=>Nat.blt t nt0)=true)(h1:ExecOK E.P (some L) as0 ⟨ZQ ps0.toList args tm0,st.hp,st.tk,st.nx,nt0,[]⟩ .normal sa)(h2:lk sa.hp L=some (.loop .ready p1 tm1 nt1 ps1 as1 bd1 D1))(h3:ExecOK E.P (some L) bd0 ⟨sa.tm,(L,.loop .busy p1 tm1 nt1 ps1 as1 bd1 D1)::QT L sa.hp,sa.tk,sa.nx,sa.nt,sa.df⟩ e sb)(h4:lk sb.hp L=some (.loop .busy p2 tm2 nt2 ps2 as2 bd2 D2))(he:U6 e=some jump):OpOK E ⟨dd,.call {callee:=.value x,args:=ars,argTypes:=ats},ty,pos,af,g⟩ st (TB jump.isNone) ⟨(L,.loop (if jump.isNone then .ready else .done) jump tm2 nt2 ps2 as2 bd2 D2)::QT L sb.hp,sb.tk,sb.nx⟩:=by
 intro V a w hr ro n K Q hK;refine⟨λ_ _=>trivial,?_⟩;rw[Oper.semAt_eq _ _ _ (by intro c h;cases h)];obtain⟨hLnx,hv⟩:=hr.ev hx;obtain⟨-,ob,hob,hD,fn,tmps,rfl,hsz,htm⟩:=hr.h.own L _ hL;rw[Q2u rfl hv hob hlen];refine⟨(by intro h;cases h),?_⟩;have har:=KI hr ha;obtain⟨hal,-⟩:=KG ha;have hput:=WQ (V:=V) (w:=w) ps0.toList args (ars.map a.eval).toList tm0 tmps (by simpa using hal.symm) (λi y hy=>by obtain⟨u,hu1,hu2⟩:=har.2 i y hy;exact⟨u,by simpa using hu1,hu2⟩) (λt ht=>by rw[hsz];exact C9 (Ch.1 hps t ht)) htm;have hfold:(ps0.zip (ars.map a.eval)).foldl (λtmps (x:Nat×Value)=>tmps.setIfInBounds x.1 x.2) tmps=(ps0.toList.zip (ars.map a.eval).toList).foldl (λtmps (p:Nat×Value)=>tmps.setIfInBounds p.1 p.2) tmps:=by rw[<-Sy,Array.toList_zip]
 refine WN (F:=FR ro) fn.2 trivial ?_;have hR0:Rel (E.at V w) V ⟨ZQ ps0.toList args tm0,st.hp,st.tk,st.nx,nt0,[]⟩ {tmps:=(ps0.zip (ars.map a.eval)).foldl (λtmps (x:Nat×Value)=>tmps.setIfInBounds x.1 x.2) tmps,defers:=[]} w:=⟨hr.h.rebase,hr.nx,by rw[hfold,hput.1];exact hsz,dfRel.nil,λt y hy=>by rw[hfold];exact hput.2 t y hy⟩;refine h1 (E.at V w) (some (V.ι L)) (n-1) _ Z ⟨hLnx,Z⟩ ?_ V _ w hR0;intro V1 a1 w1 hr1;obtain⟨hL1,ob1,hob1,hD1,fn1,tmps1,rfl,hsz1,htm1⟩:=hr1.h.own L _ h2;have hι1:V1.ι L=V.ι L:=hr1.h.le0.ι L hLnx;have hb:=run_beginRound (P:=E.P) hob1 rfl;rw[hι1]at hb hob1;refine⟨_,hb,?_⟩;obtain⟨H2,L2⟩:=hr1.h.putObj (o':=.loop {state:=.busy,pending:=p1,fn:=fn1,tmps:=tmps1,params:=ps1,assign:=as1,body:=bd1,defers:=V1.ι D1}) (B':=.loop .busy p1 tm1 nt1 ps1 as1 bd1 D1) h2 (λhle=>⟨hD1,fn1,tmps1,rfl,hsz1,λt y hy=>(htm1 t y hy).mono hle⟩);rw[hι1]at H2 L2;have hR1:Rel (E.at V w) V1 ⟨sa.tm,(L,.loop .busy p1 tm1 nt1 ps1 as1 bd1 D1)::QT L sa.hp,sa.tk,sa.nx,sa.nt,sa.df⟩ a1 _:=⟨H2.congr (λj=>JI L _ sa.hp j) (λ_=>rfl),hr1.nx,hr1.nt,hr1.df.le L2,λt y hy=>(hr1.tm t y hy).mono L2⟩;refine h3 (E.at V w) (some (V.ι L)) (n-1) _ Z ⟨hLnx,Z⟩ ?_ V1 a1 _ hR1;intro V3 a3 w3 hr3;obtain⟨hL3,ob3,hob3,hD3,fn3,tmps3,rfl,hsz3,htm3⟩:=hr3.h.own L _ h4;have hι3:V3.ι L=V.ι L:=hr3.h.le0.ι L hLnx;have fin:∃v w',(Instr.endRound (V.ι L) jump).run E.P w3=.ok v w'/\K (a.put dd v) w':=by have hb:=run_endRound (P:=E.P) jump hob3;obtain⟨H4,L4⟩:=hr3.h.putObj (o':=.loop {state:=if jump.isNone then .ready else .done,pending:=jump,fn:=fn3,tmps:=tmps3,params:=ps2,assign:=as2,body:=bd2,defers:=V3.ι D2}) (B':=.loop (if jump.isNone then .ready else .done) jump tm2 nt2 ps2 as2 bd2 D2) h4 (λhle=>⟨hD3,fn3,tmps3,rfl,hsz3,λt y hy=>(htm3 t y hy).mono hle⟩);obtain⟨H5,L5⟩:=hr.h.back H4;rw[hι3]at hb;rw[hι3]at H5 L5;refine⟨_,_,hb,hK V3 _ _ (H5.congr (λj=>JI L _ sb.hp j) (λ_=>rfl)) hr3.nx L5 (Jl rfl)⟩
 cases e with|normal=>cases he;exact fin|ret=>cases he;exact fin|exit id=>cases he;exact fin|goto t=>cases he|panic c=>cases he|outgrown=>cases he
end
def Xl:List Nat->List (Nat×HB)->Option (List (Nat×HB))|[],hp=>some hp|_::_,_=>none
theorem HRel.drop{E:Env}{V:Vu}{hp:List (Nat×HB)}{tk:List (Nat×Option Tok)}{w:World}(h:HRel E V hp tk w)(i:Nat):HRel E V (QT i hp) tk w:=h.forget (λj B hj=>(YM hj).1) (λj T hj=>hj)
theorem HRel.freeze{E:Env}{V:Vu}{hp:List (Nat×HB)}{tk:List (Nat×Option Tok)}{w:World}{i:Nat}{B:HB}(h:HRel E V hp tk w)(hi:lk hp i=some B):HRel E {V with S:=λb o=>V.S b o\/b=V.ι i} (QT i hp) tk w/\V.Le {V with S:=λb o=>V.S b o\/b=V.ι i} w w:=by obtain⟨hlt,o,ho,hB⟩:=h.own i B hi;have hle:V.Le {V with S:=λb o=>V.S b o\/b=V.ι i} w w:=⟨Cl _,λ_ _=>rfl,λ_ _=>Cl _,λ_ _ _ _=>rfl,λb o h=>.inl h,λ_ _ _=>rfl,λ_ _ _ _ h=>h⟩;refine⟨⟨h.ext,h.le0.trans hle,?_,?_,?_,?_,?_,?_,h.tki⟩,hle⟩;rintro b o' (hs|rfl);exact h.sz b o' hs;exact YF ho;rintro b o' (hs|rfl);exact h.sub b o' hs;exact .inr (h.new i B hi).1;intro j A hj;obtain⟨hj,hne⟩:=YM hj;obtain⟨h1,o',h2,h3⟩:=h.own j A hj;exact⟨h1,o',h2,h3.mono hle⟩;intro j k A A' hj hk;exact h.inj j k A A' (YM hj).1 (YM hk).1;intro j A hj;obtain⟨hj,hne⟩:=YM hj;refine⟨(h.new j A hj).1,?_⟩;rintro o' (hs|he);exact(h.new j A hj).2 o' hs;exact hne (h.inj j i A B hj hi he);intro j T hj;obtain⟨h1,h2,xs,h3,h4⟩:=h.tok j T hj;refine⟨h1,h2,xs,h3.keepW Z h3.1 hle.lx,λg hg=>⟨(h4 g hg).1,?_,λk A hk=>(h4 g hg).2.2 k A (YM hk).1⟩⟩;rintro o' (hs|he);exact(h4 g hg).2.1 o' hs;exact absurd he.symm ((h4 g hg).2.2 i B hi)
theorem Q0c{E:Env}{V:Vu}{tk:List (Nat×Option Tok)}{n:Nat}{P:Program}{fn:Func}{tmps:Array Value}{R:Ending->World->Prop}(df:List Nat)(ds:List Deferred)(hp hp':List (Nat×HB))(w:World)(h:HRel E V hp tk w)(hd:dfRel E V w df ds)(ht:Xl df hp=some hp')(hK:∀w' V',HRel E V' hp' tk w'->V'.nx=V.nx->V.Lx V' w w'->∃v,(results fn tmps).run P w'=.ok v w'/\R (.returned v) w'):LeavesInM Fence.wide n P fn tmps R ds .returning w:=by
 have h0:df=[]:=by cases df with|nil=>rfl|cons _ _=>cases ht
 obtain⟨bs,h1,h2,h3⟩:=hd.of_nil h0;subst h0;cases ht;rw[h1];exact Q1u bs w V h h2 h3 hK
inductive RAs(P:Program)(st:St):List ResultVar->List AV->Prop
 |nil:RAs P st [] []
 |cons {r:ResultVar} {rs:List ResultVar} {x:AV} {xs:List AV} (h:∀E:Env,E.P=P->RA E st r x) (t:RAs P st rs xs):RAs P st (r::rs) (x::xs)
def Qj:List AV->TV|[x]=>.v x|xs=>.tup xs
theorem RAs.get{P:Program}{st:St}:∀{rs:List ResultVar}{xs:List AV},RAs P st rs xs->∀{E:Env}{V:Vu}{a:Act}{w:World},E.P=P->Rel E V st a w->∃us:List Value,rs.length=us.length/\us.length=xs.length /\ (∀(i:Nat)(r:ResultVar),rs[i]?=some r->∃u,us[i]?=some u/\Q9l P a.tmps w u r)/\∀(i:Nat)(x:AV)(u:Value),xs[i]?=some x->us[i]?=some u->x.rel V w u:=by intro rs xs h;induction h with|nil=>intro E V a w _ _;exact⟨[],rfl,rfl,λi r hr=>by simp at hr,λi x u hx=>by simp at hx⟩|cons h t ih=>intro E V a w hP hr;obtain⟨us,h1,h2,h3,h4⟩:=ih hP hr;obtain⟨u,h5,h6⟩:=h E hP V a w hr;refine⟨u::us,by simp[h1],by simp[h2],λi r hi=>?_,λi x u' hx hu'=>?_⟩;(cases i with|zero=>simp at hi;subst hi;exact⟨u,rfl,by rw[<-hP];exact h5⟩|succ i=>exact h3 i r (by simpa using hi));cases i with|zero=>simp at hx hu';subst hx;subst hu';exact h6|succ i=>exact h4 i x u' (by simpa using hx) (by simpa using hu')
theorem WO{P:Program}{fn:Func}{st:St}{xs:List AV}{E:Env}{V:Vu}{a:Act}{w:World}(h:RAs P st fn.results.toList xs)(hP:E.P=P)(hr:Rel E V st a w):∃v,(results fn a.tmps).run P w=.ok v w/\(Qj xs).rel V w v:=by
 obtain⟨us,h1,h2,h3,h4⟩:=h.get hP hr;by_cases hn:us.length=1;obtain⟨u,rfl⟩:∃u,us=[u]:=by match us,hn with|[u],_=>exact⟨u,rfl⟩
 obtain⟨x,rfl⟩:∃x,xs=[x]:=by match xs,h2 with|[x],_=>exact⟨x,rfl⟩
 obtain⟨r,hrr⟩:∃r,fn.results.toList=[r]:=by match hq:fn.results.toList,h1 with|[r],_=>exact⟨r,rfl⟩
 obtain⟨u',hu',hl⟩:=h3 0 r (by rw[hrr];rfl);simp at hu';subst hu';have hre:fn.results=#[r]:=by apply Sk;simpa using hrr
 refine⟨u,?_,h4 0 x u Z Z⟩;cases r with|tmp t=>have e1:a.tmps.getD t undef=u:=hl;simp only[P8]at e1;simp[results,hre,e1]|cell ad t=>obtain⟨p,e1,e2⟩:=hl;simp only[P8]at e1;simp[results,hre,e1,e2,asAddr]
 refine⟨_,Qhh rfl h1 h3 hn,?_⟩;have:Qj xs=.tup xs:=by match xs,h2 with|[],_=>rfl|[x],h2=>simp at h2;exact absurd h2 hn|x::y::l,_=>rfl
 rw[this];exact Qvs h2 h4
theorem UX{P:Program}{g:Operand}{ps:Array Nat}{assign body:Code}{st:St}{gf:FuncId}{caps:List (Nat×Nat)}{res:TV}{m2:Mem}{s:LoopState}{jump:Option Code}{e:Exit}{tm2:List (Nat×TV)}{nt2:Nat}{ps2:Array Nat}{as2 bd2:Code}{D2:Nat}(hg:ev st.tm g=some (.v (.one (.fn gf caps))))(hc:CallM P gf (.one (.yld (st.nx+1))::K9 caps) ⟨(st.nx+1,.loop .ready none st.tm st.nt ps assign body st.nx)::(st.nx,.obj (.deferred (some [])))::st.hp,st.tk,st.nx+2⟩ res m2)(hL:lk m2.hp (st.nx+1)=some (.loop s jump tm2 nt2 ps2 as2 bd2 D2))(hD:lk m2.hp st.nx=some (.obj (.deferred (some []))))(hs:s ≠ .busy)(he:U6 e=some jump):ExecOK P none (.rangeFunc g ps assign body) st e ⟨st.tm,QT st.nx (QT (st.nx+1) m2.hp),m2.tk,m2.nx,st.nt,st.df⟩:=by
 intro E ro n Q hP hro hQ V a w hr;subst hP;cases hro;refine Zl (λfn _=>?_);obtain⟨hv1,hv2⟩:=hr.ev hg;have H1:=hr.h.addOwn (.deferred (some [])) (.obj (.deferred (some []))) rfl;have L1:=hr.h.le (w':=w.alloc (.deferred (some []))) ⟨rfl,rfl,rfl,by simp,λk hk _=>Below.heap_alloc w _ k hk⟩ (V.add_grow w.heap.size hr.h.sz ⟨rfl,rfl,rfl,by simp,λk hk _=>Below.heap_alloc w _ k hk⟩);have L2:=H1.le (w':=(w.alloc (.deferred (some []))).alloc (.loop {state:=.ready,pending:=none,fn:=fn,tmps:=a.tmps,params:=ps,assign:=assign,body:=body,defers:=w.heap.size})) ⟨rfl,rfl,rfl,by simp,λk hk _=>Below.heap_alloc _ _ k hk⟩ (Vu.add_grow _ (w.alloc (.deferred (some []))).heap.size H1.sz ⟨rfl,rfl,rfl,by simp,λk hk _=>Below.heap_alloc _ _ k hk⟩);have hι:((V.add w.heap.size).add (w.alloc (.deferred (some []))).heap.size).ι V.nx=w.heap.size:=by rw[L2.ι V.nx (Cv _),V.add_at]
 have H2:=H1.addOwn (.loop {state:=.ready,pending:=none,fn:=fn,tmps:=a.tmps,params:=ps,assign:=assign,body:=body,defers:=w.heap.size}) (.loop .ready none st.tm st.nt ps assign body V.nx) ⟨Ci (Cv _) (Nat.le_succ _),fn,a.tmps,by rw[hι],hr.nt,λt x hx=>((hr.tm t x hx).mono L1).mono L2⟩;have L12:=L1.trans L2;generalize hV2:(V.add w.heap.size).add (w.alloc (.deferred (some []))).heap.size=V2 at H2 L2 L12 hι;have hnx2:V2.nx=st.nx+2:=by rw[<-hV2];show V.nx+1+1=_;rw[hr.nx]
 have hιL:V2.ι (V.nx+1)=w.heap.size+1:=by rw[<-hV2];have:=(V.add w.heap.size).add_at (w.alloc (.deferred (some []))).heap.size;rw[World.size_alloc]at this;rw[World.size_alloc];exact this
 have hcl:(V.add w.heap.size).nx=V.nx+1:=rfl;rw[hcl]at H2;rw[hr.nx]at H2 hιL hι;obtain⟨W2,hW2⟩:∃W2,(w.alloc (.deferred (some []))).alloc (.loop {state:=.ready,pending:=none,fn:=fn,tmps:=a.tmps,params:=ps,assign:=assign,body:=body,defers:=w.heap.size})=W2:=⟨_,rfl⟩;rw[hW2]at H2 L12;refine⟨w.heap.size+1,[{target:=.collected w.heap.size,args:=#[]}],W2,{target:=.fn (.func gf) (caps.map λp=>Value.pointer (some ⟨V.ι p.1,p.2,none⟩)).toArray,args:=#[.func (.yield (w.heap.size+1)) #[] #[]]},W2,gf,#[.func (.yield (w.heap.size+1)) #[] #[]]++(caps.map λp=>Value.pointer (some ⟨V.ι p.1,p.2,none⟩)).toArray,W2,?_,?_,?_,?_,(by intro h;cases h),?_⟩;rw[<-hW2];exact run_enterLoop_outer fn a.tmps ps assign body;simp only[resolve,hv2];simp[go_sem];exact λ_ _=>trivial;have:=hc.1 (#[.func (.yield (w.heap.size+1)) #[] #[]]++(caps.map λp=>Value.pointer (some ⟨V.ι p.1,p.2,none⟩)).toArray) W2;simp only[invoke];exact this;have hargs:argsRel V2 W2 (.one (.yld (st.nx+1))::K9 caps) (#[.func (.yield (w.heap.size+1)) #[] #[]]++(caps.map λp=>Value.pointer (some ⟨V.ι p.1,p.2,none⟩)).toArray):=by
  have h1:argsRel V2 W2 [.one (.yld (st.nx+1))] #[.func (.yield (w.heap.size+1)) #[] #[]]:=⟨rfl,λi y hy=>by
   match i,hy with
   |0,hy=>cases hy;exact⟨_,rfl,by rw[hnx2];omega,by rw[hιL];rfl⟩⟩
  have h2:argsRel V2 W2 (K9 caps) (caps.map λp=>Value.pointer (some ⟨V.ι p.1,p.2,none⟩)).toArray:=by have h3:=ZR (V:=V2) (w:=W2) (caps:=caps) (λp hp=>Ci (hv1 p hp) L12.nx);rw[Cy (g:=λp=>Value.pointer (some ⟨V.ι p.1,p.2,none⟩)) (λp hp=>by rw[L12.ι p.1 (hv1 p hp)])]at h3;exact h3
  exact h1.append h2
 have hcall:=hc.2 E V2 W2 _ rfl H2 hnx2 hargs;have hcall':CallsIn Fence.wide (n-1) E.P gf _ W2 _:=callsIn_wide.2 hcall;refine CallsIn.mono (F:=FR none) hcall' ?_;rintro e' w3 ⟨v,V3,rfl,H3,hn3,L3,-⟩;obtain⟨hL3,ob3,hob3,hD3,fn3,tmps3,rfl,hsz3,htm3⟩:=H3.own _ _ hL;have hι3:V3.ι (st.nx+1)=w.heap.size+1:=by rw[L3.ι _ (by rw[hnx2];omega)];exact hιL
 have hend:=run_endLoop (P:=E.P) hob3 hs;obtain⟨H4,L4⟩:=H3.putObj (o':=.loop {state:=.exhausted,pending:=jump,fn:=fn3,tmps:=tmps3,params:=ps2,assign:=as2,body:=bd2,defers:=V3.ι D2}) (B':=.loop .exhausted jump tm2 nt2 ps2 as2 bd2 D2) hL (λhle=>⟨hD3,fn3,tmps3,rfl,hsz3,λt y hy=>(htm3 t y hy).mono hle⟩);rw[hι3]at hend H4 L4;have L:=(L12.trans L3).trans L4;have hlk:∀j,lk (QT (st.nx+1) m2.hp) j=lk (QT (st.nx+1) ((st.nx+1,HB.loop .exhausted jump tm2 nt2 ps2 as2 bd2 D2)::m2.hp)) j:=λj=>by rw[Y0,Y0,Q8];split;rfl;rename_i e;rw[Ca (λe'=>e e'.symm)]
 have H5:=(H4.drop (st.nx+1)).congr (hp':=QT (st.nx+1) m2.hp) hlk (λ_=>rfl);have hD5:lk (QT (st.nx+1) m2.hp) st.nx=some (.obj (.deferred (some []))):=by rw[Y0,Ca (by omega)];exact hD
 obtain⟨H6,L6⟩:=H5.freeze hD5;have e1:V3.ι st.nx=w.heap.size:=by rw[L3.ι _ (by rw[hnx2];omega)];exact hι
 obtain⟨-,oD,hoD,hDr⟩:=H5.own _ _ hD5;have hoD':oD=.deferred (some []):=hDr;rw[hoD',e1]at hoD;obtain⟨V6,hV6⟩:∃V6:Vu,{V3 with S:=λb o=>V3.S b o\/b=V3.ι st.nx}=V6:=⟨_,rfl⟩;have hS6:V6.S w.heap.size 0:=by rw[<-hV6];exact .inr e1.symm
 have hn6:V6.nx=m2.nx:=by rw[<-hV6];exact hn3
 rw[hV6]at H6 L6;have hR:Rel E V6 ⟨st.tm,QT st.nx (QT (st.nx+1) m2.hp),m2.tk,m2.nx,st.nt,st.df⟩ {a with defers:=[{target:=.collected w.heap.size,args:=#[]}]++a.defers} (w3.putObj (w.heap.size+1) (.loop {state:=.exhausted,pending:=jump,fn:=fn3,tmps:=tmps3,params:=ps2,assign:=as2,body:=bd2,defers:=V3.ι D2})):=by have LL:=L.trans L6;exact⟨H6,hn6,hr.nt,hr.df.push LL (Cl _) hS6 hoD (λo hs=>(H5.new _ _ hD5).2 o (by rw[e1];exact H5.le0.S _ _ hs)),λt x hx=>(hr.tm t x hx).mono LL⟩
 refine⟨jump,_,hend,?_⟩;cases e with|normal=>cases he;exact hQ V6 _ _ hR|ret=>cases he;exact Gj (wpIn_ret (hQ V6 _ _ hR))|exit id=>cases he;exact Gj (wpIn_exit (hQ V6 _ _ hR))|goto t=>cases he|panic c=>cases he|outgrown=>cases he
end
section
open Go.RowKit
def Q52(P:Program)(t:TypeId):Option (Nat×Nat):=match P.underlying t with|some (.array n e)=>(match P.info? e with|some i=>some (n,i.size)|none=>none)|_=>none
def Da(P:Program)(e:TypeId):Option AV:=match(P.info? e).bind (·.zero)with|some (.agg vs)=>cond (vs.toList.all (·.oneCell')) (some (.agg (vs.toList.map λz=>.d (.v z)))) none|some v=>cond v.oneCell' (some (.one (.d (.v v)))) none|none=>none
def DS(P:Program)(t:TypeId):Option (Bool×AV):=match P.underlying t with|some (.map k e)=>(match P.underlying k with|some (.int _)=>(Da P e).map λz=>(true,z)|some .string=>(Da P e).map λz=>(false,z)|_=>none)|_=>none
def Q8h(P:Program)(t:TypeId):Option IntKind:=match P.underlying t with|some (.int k)=>some k|_=>none
def JS(P:Program)(t:TypeId):Bool:=match P.underlying t with|some .string=>true|_=>false
def Qdm(P:Program)(t:TypeId):Bool:=match P.underlying t with|some (.struct _)=>true|_=>false
def Q8i(P:Program)(t:TypeId):Bool:=match P.underlying t with|some (.interface _)=>true|_=>false
def Q4a(P:Program)(s:TypeId):Bool:=match P.underlying s with|some (.slice e)=>(match P.underlying e with|some (.int .u8)=>true|_=>false)|_=>false
def Qqq(P:Program)(t:TypeId):Option Nat:=match P.underlying t with|some (.array n e)=>(match Jw P e with|some (false,1)=>some n|_=>none)|_=>none
def Qqp(P:Program)(s f:Nat):Option Nat:=match P.underlying s with|some (.struct fs)=>(match fs[f]? with|some fd=>(match Jw P fd.type with|some (false,1)=>some fd.offset|_=>none)|none=>none)|_=>none
structure Tables where
 agg:List (Nat×(Bool×Nat))
 sl:List (Nat×(Nat×Nat))
 zero:List (Nat×List Value)
 fld:List (Nat×List (Nat×Nat))
 places:List (Nat×List (Nat×Nat))
 elem:List (Nat×(Nat×Nat))
 arr:List (Nat×(Nat×Nat))
 mp:List (Nat×(Bool×AV))
 ints:List (Nat×IntKind)
 strs:List (Nat×Unit)
 bools:List (Nat×Unit)
 pairs:List (Nat×Unit)
 fns:List (Nat×Func)
 stc:List (Nat×Unit)
 ifc:List (Nat×Unit)
 ars:List (Nat×Nat)
 fdv:List (Nat×List (Nat×Nat))
 byt:List (Nat×Unit)
def AllT{α:Type}(p:Nat->α->Prop):List (Nat×α)->Prop|[]=>True|(k,x)::r=>p k x/\AllT p r
theorem AllT.get{α:Type}{p:Nat->α->Prop}:∀{l:List (Nat×α)}{k:Nat}{x:α},AllT p l->lk l k=some x->p k x
 |[],k,x,_,h=>by cases h
 |(j,y)::r,k,x,ha,h=>by
  rw[Q8]at h;split at h
  · rename_i e;subst e;cases h;exact ha.1
  · exact AllT.get ha.2 h
structure Tables.OK(P:Program)(T:Tables):Prop where
 agg:AllT (λt v=>Jw P t=some v) T.agg
 sl:AllT (λt v=>Ja P t=some v) T.sl
 zero:AllT (λt v=>YB P t=some v/\v.all (·.oneCell')=true) T.zero
 fld:AllT (λt v=>AllT (λf k=>J3 P t f=some k) v) T.fld
 places:AllT (λt v=>Q50 P t=some v) T.places
 elem:AllT (λt v=>KL P t=some v) T.elem
 arr:AllT (λt v=>Q52 P t=some v) T.arr
 mp:AllT (λt v=>DS P t=some v) T.mp
 ints:AllT (λt v=>Q8h P t=some v) T.ints
 strs:AllT (λt _=>JS P t=true) T.strs
 bools:AllT (λt _=>U8 P t=true) T.bools
 pairs:AllT (λt _=>U7 P t=true) T.pairs
 fns:AllT (λf v=>P.funcs[f]?=some v/\Qd P f) T.fns
 mixed:P.follows .mixedOrders=true
 stc:AllT (λt _=>Qdm P t=true) T.stc
 ifc:AllT (λt _=>Q8i P t=true) T.ifc
 ars:AllT (λt v=>Qqq P t=some v) T.ars
 fdv:AllT (λt v=>AllT (λf k=>Qqp P t f=some k) v) T.fdv
 byt:AllT (λt _=>Q4a P t=true) T.byt
def Q6b(op:BinOp)(k:IntKind)(a:Int)(k':IntKind)(b:Int):Option Value:=
 match op with
 |.shl=>cond (decide (b<0)) none (some (.int k (k.wrap (a*2 ^ (min b.toNat k.bits)))))
 |.shr=>cond (decide (b<0)) none (some (.int k (a.fdiv (2 ^ (min b.toNat k.bits)))))
 |op=>cond (decide (k=k')) (match op with
  |.add=>some (.int k (k.wrap (a+b)))
  |.sub=>some (.int k (k.wrap (a-b)))
  |.mul=>some (.int k (k.wrap (a*b)))
  |.quo=>cond (decide (b=0)) none (some (.int k (k.wrap (a.tdiv b))))
  |.rem=>cond (decide (b=0)) none (some (.int k (a.tmod b)))
  |.and=>some (.int k (k.wrap (BitVec.ofInt k.bits a &&& BitVec.ofInt k.bits b).toNat))
  |.or=>some (.int k (k.wrap (BitVec.ofInt k.bits a ||| BitVec.ofInt k.bits b).toNat))
  |.xor=>some (.int k (k.wrap (BitVec.ofInt k.bits a ^^^ BitVec.ofInt k.bits b).toNat))
  |.andNot=>some (.int k (k.wrap (BitVec.ofInt k.bits a &&& ~~~(BitVec.ofInt k.bits b)).toNat))
  |.eql=>some (.bool (a==b))
  |.neq=>some (.bool (a != b))
  |.lss=>some (.bool (decide (a<b)))
  |.leq=>some (.bool (decide (a<=b)))
  |.gtr=>some (.bool (decide (b<a)))
  |.geq=>some (.bool (decide (b<=a)))
  |_=>none) none
theorem Q6a {P:Program} {op:BinOp} {k k':IntKind} {a b:Int} {t:TypeId} {v:Value} (h:Q6b op k a k' b=some v) (w:World):(binOp op t (.int k a) (.int k' b)).run P w=.ok v w∧v.oneCell'=true:=by
  cases op <;> simp only [Q6b] at h
  case shl =>
    by_cases hb:b < 0
    · simp [hb] at h
    · simp [hb] at h;subst h;simp [binOp,Op.shift,hb];rfl
  case shr =>
    by_cases hb:b < 0
    · simp [hb] at h
    · simp [hb] at h;subst h;simp [binOp,Op.shift,hb];rfl
  all_goals (
    by_cases hk:k=k'
    · subst hk
      simp at h
      first
        | (by_cases hb:b=0
           · simp [hb] at h
           · simp [hb] at h;subst h;simp [binOp,Op.intDiv,hb])
        | (by_cases hb:b=0
           · simp [hb] at h
           · simp [hb] at h;subst h;refine ⟨?_,rfl⟩;simp [binOp,Op.intDiv,hb])
        | (subst h;simp [binOp,Op.intArith,Op.intBits,Op.intCmp];done)
        | (subst h;simp [binOp,Op.intArith,Op.intBits,Op.intCmp];rfl)
        | (subst h;refine ⟨?_,rfl⟩;simp [binOp,Op.intArith,Op.intBits,Op.intCmp])
    · simp [hk] at h)
def Q15(op:BinOp)(x y:ByteArray):Option Value:=let eq:=x.toList==y.toList;let lt:=Op.bytesLess x.toList y.toList;match op with|.add=>cond (decide (((x.size+y.size:Nat):Int)>IntKind.i64.max)) none (some (.string (x++y)))|.eql=>some (.bool eq)|.neq=>some (.bool !eq)|.lss=>some (.bool lt)|.leq=>some (.bool (lt||eq))|.gtr=>some (.bool !(lt||eq))|.geq=>some (.bool !lt)|_=>none
theorem Q58{P:Program}{op:BinOp}{x y:ByteArray}{t:TypeId}{v:Value}(h:Q15 op x y=some v)(w:World):(binOp op t (.string x) (.string y)).run P w=.ok v w/\v.oneCell'=true:=by
 cases op <;> simp only[Q15,reduceCtorEq,Option.some.injEq]at h;case add=>cases hb:decide (((x.size+y.size:Nat):Int)>IntKind.i64.max)with|true=>rw[hb]at h;cases h|false=>rw[hb]at h;cases h;have hb':=S4 hb;refine⟨?_,Z⟩;simp only[binOp,Op.stringOp,hb',if_false];rfl
 all_goals (subst h;exact⟨rfl,rfl⟩)
section
variable{E:Env}{st:St}{d:Option Tmp}{ty:TypeId}{pos:String}{af:Array Edge}{g:Option (Nat×Bool)}
theorem Q5{op:BinOp}{t t':TypeId}{x y:Operand}{k k':IntKind}{a b:Int}{v:Value}(hx:ev st.tm x=some (Gh (.int k a)))(hy:ev st.tm y=some (Gh (.int k' b)))(h:Q6b op k a k' b=some v):RO E ⟨d,.binOp op t x y t',ty,pos,af,g⟩ st (Gh v):=by
 refine⟨(λ_ h=>nomatch h),λV ac w hr=>⟨v,?_,Jl (Q6a (P:=E.P) (t:=t) h w).2⟩⟩;have h1:=J8 (hr.ev hx);have h2:=J8 (hr.ev hy);have hg:(eqGuard op t x y (.int k a) (.int k' b)).run E.P w=.ok () w:=by cases op <;> simp[eqGuard]
 simp only[execOp,h1,h2,Sem.run_bind,hg,Result.andThen_ok,(Q6a (P:=E.P) (t:=t) h w).1];rfl
theorem Q2l{op:BinOp}{t t':TypeId}{x y:Operand}{a b:ByteArray}{v:Value}(hx:ev st.tm x=some (Gh (.string a)))(hy:ev st.tm y=some (Gh (.string b)))(h:Q15 op a b=some v):RO E ⟨d,.binOp op t x y t',ty,pos,af,g⟩ st (Gh v):=by
 refine⟨(λ_ h=>nomatch h),λV ac w hr=>⟨v,?_,Jl (Q58 (P:=E.P) (t:=t) h w).2⟩⟩;have h1:=J8 (hr.ev hx);have h2:=J8 (hr.ev hy);have hg:(eqGuard op t x y (.string a) (.string b)).run E.P w=.ok () w:=by cases op <;> simp[eqGuard]
 simp only[execOp,h1,h2,Sem.run_bind,hg,Result.andThen_ok,(Q58 (P:=E.P) (t:=t) h w).1];rfl
theorem Qk1{t t':TypeId}{x y:Operand}{a b:Bool}(ht:U8 E.P t=true)(hx:ev st.tm x=some (TB a))(hy:ev st.tm y=some (TB b)):RO E ⟨d,.binOp .neq t x y t',ty,pos,af,g⟩ st (TB (!(a==b))):=by
 refine⟨(λ_ h=>nomatch h),λV ac w hr=>⟨.bool (!(a==b)),?_,Jl Z⟩⟩;have e0:∀dp,(Op.equalIn (dp+1) t (.bool a) (.bool b)).run E.P w=.ok (a==b) w:=λdp=>by simp[Op.equalIn,run_underlying (D4 ht)]
 have e:(Op.equalIn Op.maxDepth t (.bool a) (.bool b)).run E.P w=.ok (a==b) w:=e0 9999;simp only[execOp,J8 (hr.ev hx),J8 (hr.ev hy),eqGuard,binOp,Op.equal,Sem.run_bind];simp[e]
theorem Qq4{t t':TypeId}{x y:Operand}{a0 a1 b0 b1:Int}(ht:U7 E.P t=true)(hx:ev st.tm x=some (.v (.agg [.d (.v (.int .i64 a0)),.d (.v (.int .i64 a1))])))(hy:ev st.tm y=some (.v (.agg [.d (.v (.int .i64 b0)),.d (.v (.int .i64 b1))]))):RO E ⟨d,.binOp .eql t x y t',ty,pos,af,g⟩ st (TB ((a0==b0)&&(a1==b1))):=by
 refine⟨(λ_ h=>nomatch h),λV ac w hr=>⟨.bool ((a0==b0)&&(a1==b1)),?_,Jl Z⟩⟩;have ex:∀(o:Operand)(p q:Int),ev st.tm o=some (.v (.agg [.d (.v (.int .i64 p)),.d (.v (.int .i64 q))]))->ac.eval o=.agg #[.int .i64 p,.int .i64 q]:=λo p q h=>by obtain⟨vs,h1,h2,h3⟩:=hr.ev h;obtain⟨u0,a1,a2⟩:=h3 0 _ rfl;obtain⟨u1,b1,b2⟩:=h3 1 _ rfl;cases a2;cases b2;rw[h1];congr 1;apply Array.ext;simpa using h2;intro i hi1 hi2;simp at hi2;match i,hi2 with|0,_=>rw[P7 (by omega)]at a1;exact Cw a1|1,_=>rw[P7 (by omega)]at b1;exact Cw b1
 obtain⟨e,hgt⟩:=Qee (w:=w) ht a0 a1 b0 b1;simp only[execOp,ex x _ _ hx,ex y _ _ hy,eqGuard,binOp,Op.equal,Sem.run_bind];simp[e,hgt]
theorem Qzq{t:TypeId}{x:Operand}{k:IntKind}{m:Int}(hx:ev st.tm x=some (Gh (.int k m))):RO E ⟨d,.unOp .neg t x,ty,pos,af,g⟩ st (Gh (.int k (k.wrap (0-m)))):=by refine⟨(λ_ h=>nomatch h),λV a w hr=>⟨.int k (k.wrap (0-m)),?_,Jl Z⟩⟩;simp only[execOp,Op.unary,Op.intArith,J8 (hr.ev hx)];rfl
theorem Qo{x:Operand}{i off:Nat}(hx:ev st.tm x=some (.v (.one (.ptr i off)))):RO E ⟨d,.nilCheck x,ty,pos,af,g⟩ st (.v (.one (.ptr i off))):=by refine⟨(λ_ h=>nomatch h),λV a w hr=>⟨a.eval x,?_,hr.ev hx⟩⟩;simp only[execOp,(hr.ev hx).2];rfl
theorem Q7m{x:Operand}{e:List C}{off:Nat}(hx:ev st.tm x=some (.v (.one (.pel e off)))):RO E ⟨d,.nilCheck x,ty,pos,af,g⟩ st (.v (.one (.pel e off))):=by refine⟨(λ_ h=>nomatch h),λV a w hr=>⟨a.eval x,?_,hr.ev hx⟩⟩;obtain⟨b,o,f,hv,-⟩:=hr.ev hx;simp only[execOp,hv];rfl
theorem Qk6{s t:TypeId}{x:Operand}{k k':IntKind}{m:Int}(ht:Q8h E.P t=some k')(hs:∃u,E.P.underlying s=some u)(hx:ev st.tm x=some (Gh (.int k m))):RO E ⟨d,.convert s t x,ty,pos,af,g⟩ st (Gh (.int k' (k'.wrap m))):=by
 refine⟨(λ_ h=>nomatch h),λV a w hr=>⟨.int k' (k'.wrap m),?_,Jl Z⟩⟩;have hu:E.P.underlying t=some (.int k'):=by unfold Q8h at ht;split at ht;rename_i h;cases ht;exact h;cases ht
 obtain⟨u,hs⟩:=hs;simp only[execOp,J8 (hr.ev hx),convert,Sem.run_bind,run_underlying hs,run_underlying hu,Result.andThen_ok];cases u <;> rfl
theorem Qh2{P:Program}{t n sz:Nat}(h:Q52 P t=some (n,sz)):∃e i,P.underlying t=some (.array n e)/\P.info? e=some i/\i.size=sz:=by unfold Q52 at h;split at h;rename_i m e hu;split at h;rename_i i hi;cases h;exact⟨e,i,hu,hi,rfl⟩;cases h;cases h
theorem Qb3{P:Program}{t n sz:Nat}(h:Q52 P t=some (n,sz)){b o k:Nat}(hk:k<n)(w:World)(kk:IntKind):(Instr.indexAt t (.pointer (some ⟨b,o,none⟩)) (.int kk (k:Int))).run P w=.ok (.pointer (some ⟨b,o+k*sz,none⟩)) w:=by
 obtain⟨e,i,hu,hi,rfl⟩:=Qh2 h;have h2:(k:Int)<(n:Int):=by omega
 have h3:¬n<=k:=by omega
 simp[h3,Instr.indexAt,asIntOf,run_underlying hu,Instr.sureAddr,sizeOf,typeInfo,hi,K5,h2]
theorem Q7o{t n sz k i off:Nat}{x y:Operand}{kk:IntKind}{m:Int}(ht:Q52 E.P t=some (n,sz))(hx:ev st.tm x=some (.v (.one (.ptr i off))))(hy:ev st.tm y=some (Gh (.int kk m)))(hm:m=(k:Int))(hk:k<n):RO E ⟨d,.indexAddr t x y,ty,pos,af,g⟩ st (.v (.one (.ptr i (off+k*sz)))):=by refine⟨(λ_ h=>nomatch h),λV a w hr=>?_⟩;subst hm;have h1:=hr.ev hx;exact⟨_,by simp only[execOp,h1.2,J8 (hr.ev hy),Sem.run_bind,Qb3 ht hk];rfl,h1.1,rfl⟩
theorem Wl{P:Program}{t:TypeId}(h:JS P t=true):P.underlying t=some .string:=by unfold JS at h;split at h;assumption;cases h
theorem Qpz{t:TypeId}{x:Operand}{s:ByteArray}(ht:JS E.P t=true)(hx:ev st.tm x=some (Gh (.string s))):RO E ⟨d,.call {callee:=.builtin .len,args:=#[x],argTypes:=#[t]},ty,pos,af,g⟩ st (TI s.size):=by refine⟨(λ_ h=>nomatch h),λV a w hr=>⟨.int .i64 s.size,?_,Jl Z⟩⟩;simp[execOp,resolve,invoke,builtin,Builtin.len_,J8 (hr.ev hx),run_underlying (Wl ht),goInt]
theorem Qgg{t:TypeId}{x y:Operand}{s:ByteArray}{kk:IntKind}{m:Int}{k:Nat}{b:UInt8}(ht:JS E.P t=true)(hx:ev st.tm x=some (Gh (.string s)))(hy:ev st.tm y=some (Gh (.int kk m)))(hm:m=(k:Int))(hb:s[k]?=some b):RO E ⟨d,.index t x y,ty,pos,af,g⟩ st (Gh (.int .u8 b.toNat)):=by refine⟨(λ_ h=>nomatch h),λV a w hr=>⟨.int .u8 b.toNat,?_,Jl Z⟩⟩;subst hm;simp[execOp,Instr.index,asIntOf,J8 (hr.ev hx),J8 (hr.ev hy),run_underlying (Wl ht),hb]
def Qj3(st:St)(len:Nat):Option Operand->Option Nat|none=>some len|some o=>match ev st.tm o with|some (.v (.one (.d (.v (.int _ (.ofNat h))))))=>cond (Nat.ble h len) (some h) none|_=>none
def Qf4(st:St)(h:Nat):Option Operand->Option Nat|none=>some 0|some o=>match ev st.tm o with|some (.v (.one (.d (.v (.int _ (.ofNat l))))))=>cond (Nat.ble l h) (some l) none|_=>none
def Zs(st:St)(len:Nat)(lo hi mx:Option Operand):Option (Nat×Nat):=match mx with|some _=>none|none=>match Qj3 st len hi with|none=>none|some h=>match Qf4 st h lo with|none=>none|some l=>some (l,h)
theorem Qab{V:Vu}{a:Act}{w:World}(hr:Rel E V st a w){o:Operand}{k:IntKind}{l y:Nat}(hv:ev st.tm o=some (Gh (.int k (.ofNat l))))(hl:l<=y)(c:BoundsCode):(Instr.sliceBound (a.eval o) y c).run E.P w=.ok l w:=by
 have e1:=J8 (hr.ev hv);have h3:(Int.ofNat l)<=(y:Int):=by simpa using hl
 have h4:(0:Int)<=Int.ofNat l:=Pi l;simp only[e1,Instr.sliceBound,asIntOf,Sem.run_bind,Sem.run_pure,Result.andThen_ok,h3,h4,and_self,if_true];simp
theorem Qta{V:Vu}{a:Act}{w:World}(hr:Rel E V st a w){h l:Nat}{lo:Option Operand}(hb:Qf4 st h lo=some l):l<=h/\∀c,((match lo.map a.eval with
     |some v=>Instr.sliceBound v h c
     |none=>pure 0:Sem Nat)).run E.P w=.ok l w:=by
 cases lo with
 |none=>cases hb;exact⟨Cd _,λc=>rfl⟩
 |some o=>
  simp only[Qf4]at hb
  split at hb
  ·rename_i k l' hv
   cases hbl:Nat.ble l' h with
   |false=>rw[hbl]at hb;cases hb
   |true=>
    rw[hbl]at hb;cases hb
    exact⟨C9 hbl,λc=>Qab hr hv (C9 hbl) c⟩
  ·cases hb
theorem DG{V:Vu}{a:Act}{w:World}(hr:Rel E V st a w){len cap:Nat}(hc:len<=cap){lo hi mx:Option Operand}{l h:Nat}(hb:Zs st len lo hi mx=some (l,h))(isS:Bool):mx=none/\l<=h/\h<=len/\(Instr.sliceBounds isS len cap (lo.map a.eval) (hi.map a.eval) (mx.map a.eval)).run E.P w=.ok (l,h,cap) w:=by unfold Zs at hb;split at hb;cases hb;split at hb;cases hb;rename_i h' hh;split at hb;cases hb;rename_i l' hl;cases hb;refine⟨Z,?_⟩;obtain⟨h1,h2⟩:=Qta hr hl;cases hi with|none=>(cases hh;refine⟨h1,Cl _,?_⟩;simp only[Instr.sliceBounds,PL,Sem.run_bind,Sem.run_pure,Result.andThen_ok,h2,CT,P4,if_false];have h3:=h2 .sliceB;cases lo with|none=>simp only[PL]at h3⊢;cases hl;simp|some o'=>simp only[Si]at h3⊢;simp only[Sem.run_bind,h3,Result.andThen_ok];rfl)|some o=>simp only[Qj3]at hh;split at hh;rename_i k h2' hev;(cases hbl:Nat.ble h2' len with|false=>rw[hbl]at hh;cases hh|true=>rw[hbl]at hh;cases hh;have hle:=C9 hbl;refine⟨h1,hle,?_⟩;have e2:=λc=>Qab hr hev (Cg hle hc) c;simp only[Instr.sliceBounds,PL,Si,Sem.run_bind,Sem.run_pure,Result.andThen_ok,e2,h2,CT,P4,if_false];have h3:=h2 .sliceB;cases lo with|none=>simp only[PL]at h3⊢;cases hl;simp|some o'=>simp only[Si]at h3⊢;simp only[Sem.run_bind,h3,Result.andThen_ok];rfl);cases hh
theorem Reads.slice{S:Nat->Nat->Prop}{w:World}{sz:Nat}{es:List (List C)}{a:Option Addr}{len cap l h:Nat}(hr:Reads S w (.sl sz es) (.slice a len cap))(hl:l<=h)(hh:h<=es.length):len=es.length/\len<=cap/\Reads S w (.sl sz ((es.drop l).take (h-l))) (.slice (if cap=l then a else a.map (·.add (l*sz))) (h-l) (cap-l)):=by
 cases hr with
 |sl _ _ _ _ b off f hcap ha hle hc hs hr=>
  refine⟨Z,hcap,?_⟩;have hlen:((es.drop l).take (h-l)).length=h-l:=by simp;omega
  have hget:∀(i:Nat)(e:List C),((es.drop l).take (h-l))[i]?=some e->es[l+i]?=some e:=λi e hi=>by rw[Pe]at hi;split at hi;rw[CS]at hi;exact hi;cases hi
  have e0:(Value.slice (if cap=l then a else a.map (·.add (l*sz))) (h-l) (cap-l))=.slice (if cap=l then a else a.map (·.add (l*sz))) ((es.drop l).take (h-l)).length (cap-l):=by rw[hlen]
  rw[e0];refine .sl sz _ _ (cap-l) b (off+l*sz) (λi j=>f (l+i) j) (by rw[hlen];omega) (λhne=>?_) (λi e hi=>hle (l+i) e (hget i e hi)) (λi e j c hi hj=>?_) (λi e j c hi hj=>?_) (λi e j c hi hj=>hr (l+i) e j c (hget i e hi) hj);have hpos:0<h-l:=by rw[<-hlen];exact Sh.2 hne
  have:a=some ⟨b,off,none⟩:=ha (λe=>by subst e;simp at hh;omega);rw[Ca (by omega),this];simp[K5];have:=hc (l+i) e j c (hget i e hi) hj;rw[SC]at this;rw[show off+l*sz+i*sz+j=off+(l*sz+i*sz)+j by omega];exact this;have:=hs (l+i) e j c (hget i e hi) hj;rw[SC]at this;rw[show off+l*sz+i*sz+j=off+(l*sz+i*sz)+j by omega];exact this
theorem Qpy{t e sz:Nat}{x:Operand}{y:CA}{es:List (List C)}{lo hi mx:Option Operand}{l h:Nat}(ht:Ja E.P t=some (e,sz))(hx:ev st.tm x=some (.v (.one y)))(hs:SlOf y sz es)(hb:Zs st es.length lo hi mx=some (l,h)):RO E ⟨d,.slice t x lo hi mx,ty,pos,af,g⟩ st (.v (.one (.d (.sl sz ((es.drop l).take (h-l)))))):=by
 refine⟨(λ_ h=>nomatch h),λV a w hr=>?_⟩;have h1:=hs.reads (hr.ev hx);obtain⟨hu,i0,hi0,hsz⟩:=Jx ht;obtain⟨ad,cap,hv⟩:∃ad cap,a.eval x=.slice ad es.length cap:=by generalize a.eval x=v at h1;cases h1 with|sl _ _ a cap b off f hcap=>exact⟨a,cap,rfl⟩
 rw[hv]at h1;obtain⟨hl0,hh0⟩:l<=h/\h<=es.length:=by obtain⟨-,h2,h3,-⟩:=DG hr (Cl _) hb true;exact⟨h2,h3⟩
 obtain⟨-,hcap,hrd⟩:=h1.slice hl0 hh0;obtain⟨-,-,-,hrun⟩:=DG hr hcap hb true;refine⟨_,?_,hrd⟩;simp only[execOp,Instr.sliceAt,Instr.slice,hv,Sem.run_bind,run_underlying hu,Result.andThen_ok,hrun,sizeOf,typeInfo];simp[Sem.run,program,hi0,hsz]
theorem Uk{t:Nat}{x:Operand}{s:ByteArray}{lo hi mx:Option Operand}{l h:Nat}(ht:JS E.P t=true)(hx:ev st.tm x=some (Gh (.string s)))(hb:Zs st s.size lo hi mx=some (l,h)):RO E ⟨d,.slice t x lo hi mx,ty,pos,af,g⟩ st (Gh (.string (s.extract l h))):=by refine⟨(λ_ h=>nomatch h),λV a w hr=>⟨.string (s.extract l h),?_,Jl Z⟩⟩;obtain⟨hm,-,-,hrun⟩:=DG hr (Cl _) hb false;subst hm;simp only[execOp,Instr.sliceAt,Instr.slice,J8 (hr.ev hx),Sem.run_bind,run_underlying (Wl ht),Result.andThen_ok,PL,CT,P4,if_false,Sem.run_pure];simp only[PL]at hrun;simp only[hrun,Result.andThen_ok]
end
end
section
open Go.RowKit
section
variable{E:Env}{st:St}{dd:Option Tmp}{ty:TypeId}{pos:String}{af:Array Edge}{g:Option (Nat×Bool)}
theorem Q7j{V:Vu}{a:Act}{w:World}(hr:Rel E V st a w)(o:Obj)(B:HB)(hB:B.rel (V.add w.heap.size) (w.alloc o) o):HRel E (V.add w.heap.size) ((st.nx,B)::st.hp) st.tk (w.alloc o)/\(V.add w.heap.size).nx=st.nx+1/\V.Le (V.add w.heap.size) w (w.alloc o)/\(V.add w.heap.size).ι st.nx=w.heap.size:=by have hx:Xi w (w.alloc o):=⟨rfl,rfl,rfl,by simp,λk hk _=>Below.heap_alloc w o k hk⟩;have H:=hr.h.addOwn o B hB;rw[hr.nx]at H;exact⟨H,by show V.nx+1=_;rw[hr.nx],hr.h.le hx (V.add_grow w.heap.size hr.h.sz hx),by rw[<-hr.nx];exact V.add_at _⟩
theorem Ju{t:TypeId}{o:Operand}{x:AV}(hx:ev st.tm o=some (.v x)):OpOK E ⟨dd,.box t o,ty,pos,af,g⟩ st (.v (.one (.ptr st.nx 0))) ⟨(st.nx,.cells t x.cells)::st.hp,st.tk,st.nx+1⟩:=by
 intro V a w hr ro n K Q hK;refine⟨λ_ _=>trivial,?_⟩;rw[Oper.semAt_eq _ _ _ (by intro c h;cases h)];have hrun:(execOp a.eval ⟨dd,.box t o,ty,pos,af,g⟩).run E.P w=.ok (.value (.pointer (some ⟨w.heap.size,0,none⟩))) (w.alloc (.cells (a.eval o).cells t)):=by simp[execOp,Instr.box,newVar,newRow]
 rw[hrun];have hxc:=(hr.ev hx).cells;have hE:Xi w (w.alloc (.cells (a.eval o).cells t)):=⟨rfl,rfl,rfl,by simp,λk hk _=>Below.heap_alloc w _ k hk⟩;obtain⟨H,hn,L,hι⟩:=Q7j hr (.cells (a.eval o).cells t) (.cells t x.cells) ⟨_,rfl,hxc.mono (hr.h.le hE (V.add_grow w.heap.size hr.h.sz hE))⟩;exact hK _ _ _ H hn L ⟨by rw[hn];exact Cv _,by rw[hι]⟩
theorem J0{t:TypeId}{zs:List Value}(hz:YB E.P t=some zs)(h1:zs.all (·.oneCell')=true):OpOK E ⟨dd,.alloc t,ty,pos,af,g⟩ st (.v (.one (.ptr st.nx 0))) ⟨(st.nx,.cells t (zs.map λz=>.d (.v z)))::st.hp,st.tk,st.nx+1⟩:=by
 intro V a w hr ro n K Q hK;refine⟨λ_ _=>trivial,?_⟩;rw[Oper.semAt_eq _ _ _ (by intro c h;cases h)];obtain⟨z,hz1,hz2⟩:=WI hz;have hrun:(execOp a.eval ⟨dd,.alloc t,ty,pos,af,g⟩).run E.P w=.ok (.value (.pointer (some ⟨w.heap.size,0,none⟩))) (w.alloc (.cells zs.toArray t)):=by simp[execOp,Instr.alloc,hz1,newVar,newRow,hz2]
 rw[hrun];obtain⟨H,hn,L,hι⟩:=Q7j hr (.cells zs.toArray t) (.cells t (zs.map λz=>.d (.v z))) ⟨_,rfl,Uq h1⟩;exact hK _ _ _ H hn L ⟨by rw[hn];exact Cv _,by rw[hι]⟩
theorem Qz{t n i off:Nat}{ag:Bool}{T:TypeId}{xs:List CA}{o1 o2:Operand}{y:AV}(ht:Jw E.P t=some (ag,n))(h1:ev st.tm o1=some (.v (.one (.ptr i off))))(h2:ev st.tm o2=some (.v y))(hi:lk st.hp i=some (.cells T xs))(hn:y.cells.length=n)(hle:off+n<=xs.length)(hdd:dd=none):OpOK E ⟨dd,.store t o1 o2,ty,pos,af,g⟩ st (.tup []) ⟨(i,.cells T (setL xs off y.cells))::QT i st.hp,st.tk,st.nx⟩:=by
 intro V a w hr ro n' K Q hK;refine⟨λ_ _=>trivial,?_⟩;rw[Oper.semAt_eq _ _ _ (by intro c h;cases h)];have e1:=hr.ev h1;have e2:=(hr.ev h2).cells;obtain⟨-,hsz⟩:=Kd ht w;obtain⟨w',hw',H,L⟩:=Q3q (T:=T) y.cells (a.eval o2).cells.toList 0 off xs st.hp w hr.h hi (by simpa[hn]using hle) (by simpa using e2.1) (λj z hz=>by obtain⟨u,hu,hz'⟩:=e2.2 j z hz;exact⟨u,by simpa using hu,hz'⟩);have hrun:(execOp a.eval ⟨dd,.store t o1 o2,ty,pos,af,g⟩).run E.P w=.ok .skip w':=by(have hs2:(a.eval o2).cells.size=n:=by rw[e2.1,hn]);simp only[execOp,e1.2,Instr.storeAt,Instr.sureAddr,storeVar,Sem.run_bind,Sem.run_pure,Result.andThen_ok,hsz,hs2];simp[hw']
 rw[hrun];subst hdd;exact hK V w' undef (H.congr (λj=>JI i _ st.hp j) (λ_=>rfl)) hr.nx L DQ
theorem Q3p{t e sz len:Nat}{zs:List Value}{parts:Array (Nat×Operand)}{avs:List (Nat×AV)}{ys:List CA}(es:List (List C))(ht:Ja E.P t=some (e,sz))(hze:YB E.P e=some zs)(hzl:zs.length=sz)(hz:zs.all (·.oneCell')=true)(hpos:0<sz)(hlen:len*sz<=16777216)(hn:parts.toList.length=avs.length)(hp:∀(j i:Nat)(x:AV),avs[j]?=some (i,x)->∃o,parts.toList[j]?=some (i,o)/\ev st.tm o=some (.v x))(hf:Gz (ZD sz len) (ZN zs len) avs=some ys)(hs:CSubs ys es.flatten)(hel:∀x∈es,x.length=sz)(hen:es.length=len):OpOK E ⟨dd,.buildSlice t len parts,ty,pos,af,g⟩ st (.v (.one (.app st.nx sz es))) ⟨st.hp,(st.nx,some ⟨e,sz,es.length,[]⟩)::st.tk,st.nx+1⟩:=by
 intro V a w hr ro n K Q hK;refine⟨λ_ _=>trivial,?_⟩;rw[Oper.semAt_eq _ _ _ (by intro c h;cases h)];obtain⟨us,hrun,husz,hcells⟩:=Qaa (pos:=pos) (ty:=ty) (af:=af) (g:=g) es ht hze hzl hz hlen hn hp hf hs hel hen hr dd;rw[hrun];have hx:Xi w (w.alloc (.cells us e)):=⟨rfl,rfl,rfl,by simp,λk hk _=>Below.heap_alloc w _ k hk⟩;obtain⟨H,L⟩:=hr.h.tokNew (w':=w.alloc (.cells us e)) (i:=V.nx) (n:=es.length) (g:=w.heap.size) (e:=e) (sz:=sz) (cap:=len) (cur:=us) (.inl rfl) hx (Cl _) (heap_alloc_new w _) husz (Pc hen) (by unfold maxLen;have:=Nat.le_mul_of_pos_right len hpos;omega);have hn:(V.tok V.nx es.length (.slice (some ⟨w.heap.size,0,none⟩) es.length len) w.heap.size (es.length*sz)).nx=st.nx+1:=by show max V.nx (V.nx+1)=st.nx+1;rw[hr.nx];omega
 refine hK _ _ _ (by rw[<-hr.nx];exact H) hn L ⟨?_,?_,?_,?_⟩;rw[hn];exact Cv _;rw[<-hr.nx,tok_cu];exact Cl _;rw[<-hr.nx,YO,hen];have e9:(Value.slice (some ⟨w.heap.size,0,none⟩) len len)=.slice (some ⟨w.heap.size,0,none⟩) es.length len:=by rw[hen]
 rw[e9];refine Wu (us:=λk=>us.getD k undef) hel (Pc hen) (λk c hk=>?_);obtain⟨u,hu1,hu2⟩:=hcells k c hk;have hklt:k<es.length*sz:=by have:=(Ce.1 hk).1;rwa [Yx es hel]at this
 have e1:us.getD k undef=u:=by simp[hu1]
 rw[e1,Pd];exact⟨(Jt (heap_alloc_new w _) k).trans hu1,.inr ⟨Z,hklt⟩,hu2.mono L.S L.cell⟩
theorem Qd8{t e sz len:Nat}{zs:List Value}{parts:Array (Nat×Operand)}{avs:List (Nat×AV)}{ys:List CA}(es:List (List C))(ht:Ja E.P t=some (e,sz))(hze:YB E.P e=some zs)(hzl:zs.length=sz)(hz:zs.all (·.oneCell')=true)(hlen:len*sz<=16777216)(hn:parts.toList.length=avs.length)(hp:∀(j i:Nat)(x:AV),avs[j]?=some (i,x)->∃o,parts.toList[j]?=some (i,o)/\ev st.tm o=some (.v x))(hf:Gz (ZD sz len) (ZN zs len) avs=some ys)(hs:CSubs ys es.flatten)(hel:∀x∈es,x.length=sz)(hen:es.length=len):OpOK E ⟨dd,.buildSlice t len parts,ty,pos,af,g⟩ st (.v (.one (.d (.sl sz es)))) st.mem:=by
 intro V a w hr ro n K Q hK;refine⟨λ_ _=>trivial,?_⟩;rw[Oper.semAt_eq _ _ _ (by intro c h;cases h)];obtain⟨us,hrun,husz,hcells⟩:=Qaa (pos:=pos) (ty:=ty) (af:=af) (g:=g) es ht hze hzl hz hlen hn hp hf hs hel hen hr dd;rw[hrun];have hx:Xi w (w.alloc (.cells us e)):=⟨rfl,rfl,rfl,by simp,λk hk _=>Below.heap_alloc w _ k hk⟩;have hg:V.Grow {V with S:=λb o=>V.S b o\/(b=w.heap.size/\o<len*sz)} w (w.alloc (.cells us e)):=
  ⟨Cl _,λ_ _=>rfl,λ_ _=>rfl,λ_ _ _ _=>rfl,λ_ _ h=>.inl h,λb o h=>by
   rcases h with h|⟨rfl,-⟩;exact .inl h;exact .inr (Cl _),λb o h=>by
   rcases h with h|⟨rfl,-⟩;exact Ci (hr.h.sz b o h) hx.size;simp⟩
 have L:=hr.h.le hx hg;refine hK _ _ _ (hr.h.later hx hg) hr.nx L ?_;have e9:(Value.slice (some ⟨w.heap.size,0,none⟩) len len)=.slice (some ⟨w.heap.size,0,none⟩) es.length len:=by rw[hen]
 rw[e9];refine Wu (us:=λk=>us.getD k undef) hel (Pc hen) (λk c hk=>?_);obtain⟨u,hu1,hu2⟩:=hcells k c hk;have hklt:k<es.length*sz:=by have:=(Ce.1 hk).1;rwa [Yx es hel]at this
 have e1:us.getD k undef=u:=by simp[hu1]
 rw[e1,Pd];exact⟨(Jt (heap_alloc_new w _) k).trans hu1,.inr ⟨rfl,by rw[<-hen];exact hklt⟩,hu2.mono L.S L.cell⟩
theorem Q7r{t e sz by_ i:Nat}{o1 o2:Operand}{y:CA}{es es2:List (List C)}(ht:Ja E.P t=some (e,sz))(hte:KL E.P e=some (sz,by_))(hb:by_<=100000)(h1:ev st.tm o1=some (.v (.one (.app i sz es))))(hi:lk st.tk i=some (some ⟨e,sz,es.length,[]⟩))(h2:ev st.tm o2=some (.v (.one y)))(hs:SlOf y sz es2)(hm:es.length+es2.length<=1000000000):OpOK E ⟨dd,.call {callee:=.builtin .append,args:=#[o1,o2],argTypes:=#[t,t]},ty,pos,af,g⟩ st (.v (.one (.app i sz (es++es2)))) ⟨st.hp,(i,some ⟨e,sz,(es++es2).length,[]⟩)::QT i st.tk,st.nx⟩:=by
 intro V a w hr ro n K Q hK;refine⟨λ_ _=>trivial,?_⟩;rw[Oper.semAt_eq _ _ _ (by intro c h;cases h)];have r1:=hr.ev h1;have r2:=hs.reads (hr.ev h2);have hexec:∀v' w',(Builtin.append_ #[t,t] ty #[a.eval o1,a.eval o2]).run E.P w=.ok v' w'->(execOp a.eval ⟨dd,.call {callee:=.builtin .append,args:=#[o1,o2],argTypes:=#[t,t]},ty,pos,af,g⟩).run E.P w=.ok (.value v') w':=λv' w' h=>by simp[execOp,resolve,invoke,builtin,h]
 by_cases h0:es2=[];subst h0;obtain⟨hu,i1,hi1,-⟩:=Jx ht;obtain⟨-,a1,cap1,b1,off1,us1,e1,hc1,-⟩:=r1.2.2.2.row;obtain⟨-,a2,cap2,b2,off2,us2,e2,-⟩:=r2.row;have:=Q2y (w:=w) (ty:=ty) hu hi1 a1 a2 es.length cap1 cap2 hc1;rw[hexec _ w (by rw[e1,e2];exact this)];have hl:∀j,lk ((i,some (Tok.mk e sz (es++[]).length []))::QT i st.tk) j=lk st.tk j:=λj=>by rw[JI,Q8,CC];split;rename_i e3;subst e3;exact hi.symm;rfl
 refine hK V w _ (hr.h.congr (λ_=>rfl) hl) hr.nx (Vu.Le.refl _ _) ?_;rw[CC,<-e1];exact r1;obtain⟨v',w',gb,m,V',hrun,rfl,H,L,hrd⟩:=Q7f (ty:=ty) hr.h ht hte (.inl ⟨hi,r1.2.2.1⟩) r1.2.2.2 r2 hm hb h0;rw[hexec v' w' hrun];have hlt:i<V.nx:=r1.1;have hnx:(V.tok i (es++es2).length v' gb m).nx=st.nx:=by show max V.nx (i+1)=st.nx;rw[<-hr.nx];omega
 refine hK _ w' _ (H.congr (λ_=>rfl) (λj=>JI i _ st.tk j)) hnx L ?_;exact⟨Ci hlt L.nx,by rw[tok_cu];exact Cl _,by rw[YO],hrd⟩
theorem Q7q{t e sz by_:Nat}{o1 o2:Operand}{y:CA}{es2:List (List C)}(ht:Ja E.P t=some (e,sz))(hte:KL E.P e=some (sz,by_))(hb:by_<=100000)(h1:ev st.tm o1=some (Gh (.slice none 0 0)))(h2:ev st.tm o2=some (.v (.one y)))(hs:SlOf y sz es2)(hm:es2.length<=1000000000)(hne:es2≠[]):OpOK E ⟨dd,.call {callee:=.builtin .append,args:=#[o1,o2],argTypes:=#[t,t]},ty,pos,af,g⟩ st (.v (.one (.app st.nx sz es2))) ⟨st.hp,(st.nx,some ⟨e,sz,es2.length,[]⟩)::st.tk,st.nx+1⟩:=by
 intro V a w hr ro n K Q hK;refine⟨λ_ _=>trivial,?_⟩;rw[Oper.semAt_eq _ _ _ (by intro c h;cases h)];have r1:=J8 (hr.ev h1);have r2:=hs.reads (hr.ev h2);have hexec:∀v' w',(Builtin.append_ #[t,t] ty #[a.eval o1,a.eval o2]).run E.P w=.ok v' w'->(execOp a.eval ⟨dd,.call {callee:=.builtin .append,args:=#[o1,o2],argTypes:=#[t,t]},ty,pos,af,g⟩).run E.P w=.ok (.value v') w':=λv' w' h=>by simp[execOp,resolve,invoke,builtin,h]
 have hnil:Reads V.S w (.sl sz []) (.slice none 0 0):=(SlOf.nil sz).reads (V:=V) (Reads.v _ rfl);obtain⟨v',w',gb,m,V',hrun,rfl,H,L,hrd⟩:=Q7f (ty:=ty) (i:=V.nx) (es:=[]) hr.h ht hte (.inr ⟨rfl,rfl,rfl⟩) hnil r2 (by simpa using hm) hb hne;rw[hexec v' w' (by rw[r1];exact hrun)];simp only[Pj]at H L hrd;refine hK _ w' _ (by rw[<-hr.nx];exact H) (by show max V.nx (V.nx+1)=st.nx+1;rw[hr.nx];omega) L ?_;rw[<-hr.nx];exact⟨Ci (Cv _) (S0 _ _),by rw[tok_cu];exact Cl _,by rw[YO],hrd⟩
theorem Qd7{t:TypeId}:OpOK E ⟨dd,.makeMap t none,ty,pos,af,g⟩ st (.v (.one (.mp st.nx))) ⟨(st.nx,.mp [] 0)::st.hp,st.tk,st.nx+1⟩:=by
 intro V a w hr ro n K Q hK;refine⟨λ_ _=>trivial,?_⟩;rw[Oper.semAt_eq _ _ _ (by intro c h;cases h)];have hrun:(execOp a.eval ⟨dd,.makeMap t none,ty,pos,af,g⟩).run E.P w=.ok (.value (.map (some w.heap.size))) (w.alloc (.map #[] 0)):=by simp only[execOp,PL,Sem.run_bind,run_makeMap,Result.andThen_ok];rfl
 rw[hrun];obtain⟨H,hn,L,hι⟩:=Q7j hr (.map #[] 0) (.mp [] 0) ⟨#[],rfl,rfl,λi k x b hi=>by simp at hi⟩;exact hK _ _ _ H hn L ⟨by rw[hn];exact Cv _,by rw[hι]⟩
def U5:Value->Value->Option Bool|.int k a,.int k' b=>cond (decide (k=k')) (some (a==b)) none|.string a,.string b=>some (a==b)|_,_=>none
def keyOf(isInt:Bool):Value->Bool|.int _ _=>isInt|.string _=>!isInt|_=>false
def Q6m(k:Value):List (Value×AV×Nat)->Nat->Option (Option (Nat×AV))|[],_=>some none|(k',x,_)::es,i=>match U5 k k' with|some true=>some (some (i,x))|some false=>Q6m k es (i+1)|none=>none
theorem Qdd{P:Program}{e:TypeId}{x:AV}(h:Da P e=some x):∃z,(∀w,(zeroValue e).run P w=.ok z w)/\∀V w,x.rel V w z:=by unfold Da at h;cases hi:P.info? e with|none=>rw[hi]at h;cases h|some i=>rw[hi]at h;cases hz:i.zero with|none=>simp[hz]at h|some z=>refine⟨z,λw=>by simp[zeroValue,typeInfo,hi,hz],λV w=>?_⟩;simp only[C0,hz]at h;split at h;rename_i vs hv;cases hv;(cases hc:vs.toList.all (·.oneCell')with|false=>rw[hc]at h;cases h|true=>rw[hc]at h;cases h;exact⟨vs,rfl,by have:=Uq (V:=V) (w:=w) hc;simpa using this⟩);rename_i v hn hv;cases hv;(cases hc:z.oneCell' with|false=>rw[hc]at h;cases h|true=>rw[hc]at h;cases h;exact Reads.v z hc);rename_i hv;cases hv
theorem Q51{P:Program}{t:TypeId}{b:Bool}{x:AV}(h:DS P t=some (b,x)):∃k e d,P.underlying t=some (.map k e)/\P.underlying k=some d/\Da P e=some x /\ (∀v,keyOf b v=true->(∀(e:Bool)(n:Nat)(w:World),(Instr.checkKey e (n+1) k v).run P w=.ok () w))/\∀v v' r,keyOf b v=true->U5 v v'=some r->Instr.sameNow d v v'=some r:=by
 unfold DS at h;split at h;rename_i k e hu;split at h;rename_i kk hk;cases hz:Da P e with|none=>rw[hz]at h;cases h|some z=>rw[hz]at h;cases h;refine⟨k,e,.int kk,hu,hk,hz,λv hv e n w=>?_,λv v' r hv hr=>?_⟩;unfold Instr.checkKey;simp only[Sem.run_bind,run_underlying hk,Result.andThen_ok];cases v <;> simp_all [keyOf];cases v <;> simp[keyOf]at hv;cases v' <;> simp[U5]at hr;rename_i k1 a k2 b;by_cases hkk:k1=k2;subst hkk;simp[Instr.sameNow]at hr⊢;exact hr;simp[hkk]at hr
 rename_i hk;cases hz:Da P e with|none=>rw[hz]at h;cases h|some z=>rw[hz]at h;cases h;refine⟨k,e,.string,hu,hk,hz,λv hv e n w=>?_,λv v' r hv hr=>?_⟩;unfold Instr.checkKey;simp only[Sem.run_bind,run_underlying hk,Result.andThen_ok];cases v <;> simp_all [keyOf];cases v <;> simp[keyOf]at hv;cases v' <;> simp[U5]at hr;simp[Instr.sameNow,hr]
 cases h;cases h
theorem Q25{V:Vu}{w:World}{d:TypeDesc}{k:Value}{ib:Bool}(hk:keyOf ib k=true)(hs:∀v v' r,keyOf ib v=true->U5 v v'=some r->Instr.sameNow d v v'=some r):∀(es:List (Value×AV×Nat))(ents:List MapEntry)(i:Nat)(r:Option (Nat×AV)),ents.length=es.length -> (∀(i:Nat)(k:Value)(x:AV)(b:Nat),es[i]?=some (k,x,b)->∃v,ents[i]?=some ⟨k,v,b⟩/\x.rel V w v)->Q6m k es i=some r -> match r with
    |none=>Instr.findNow d k ents i=some none
    |some (j,x)=>∃v e,Instr.findNow d k ents i=some (some (j,v))/\x.rel V w v/\i<=j/\es[j-i]?=some e/\e.2.1=x/\U5 k e.1=some true
  |[],ents,i,r,hl,_,hf=>by
    have:ents=[]:=Cz (by simpa using hl)
    subst this
    cases hf
    rfl
  |(k',x,b)::es,ents,i,r,hl,hr,hf=>by
    match ents,hl with
    |en::ents,hl=>
      obtain⟨v,hv,hxv⟩:=hr 0 k' x b rfl
      simp at hv;subst hv
      simp only[Q6m]at hf
      split at hf
      · rename_i hq
        cases hf
        exact⟨v,_,by simp[Instr.findNow,hs _ _ _ hk hq],hxv,Cl _,by rw[PD];rfl,rfl,hq⟩
      · rename_i hq
        have ih:=Q25 hk hs es ents (i+1) r (by simpa using hl) (λj k x b hj=>by have:=hr (j+1) k x b (by simpa using hj);simpa using this) hf
        have e1:Instr.findNow d k (⟨k',v,b⟩::ents) i=Instr.findNow d k ents (i+1):=by simp[Instr.findNow,hs _ _ _ hk hq]
        cases r with
        |none=>rw[e1];exact ih
        |some p=>
          obtain⟨v',e',h1,h2,h3,h4,h5⟩:=ih
          refine⟨v',e',by rw[e1];exact h1,h2,by omega,?_,h5⟩
          rw[show p.1-i=(p.1-(i+1))+1 by omega];simpa using h4
      · cases hf
theorem Qiv{k k':Value}(h:U5 k k'=some true):k=k':=by cases k <;> cases k' <;> simp[U5]at h;rename_i k1 a k2 b;by_cases hkk:k1=k2;subst hkk;simp at h;rw[h];simp[hkk]at h;rename_i a b;rw[(Go.MapKept.bytes_beq a b).1 h]
theorem Qu4{V:Vu}{a:Act}{w:World}(hr:Rel E V st a w){o:Operand}{k:Value}(h:ev st.tm o=some (Gh k)):a.eval o=k:=J8 (hr.ev h)
theorem UN{t:TypeId}{ib:Bool}{z:AV}{o1 o2:Operand}{i:Nat}{es:List (Value×AV×Nat)}{clock:Nat}{k:Value}{r:Option (Nat×AV)}(ht:DS E.P t=some (ib,z))(h1:ev st.tm o1=some (.v (.one (.mp i))))(h2:ev st.tm o2=some (Gh k))(hk:keyOf ib k=true)(hi:lk st.hp i=some (.mp es clock))(hf:Q6m k es 0=some r)(ok:Bool):RO E ⟨dd,.lookup t o1 o2 ok,ty,pos,af,g⟩ st (match r with
   |some (_,x)=>cond ok (.tup [x,.one (.d (.v (.bool true)))]) (.v x)
   |none=>cond ok (.tup [z,.one (.d (.v (.bool false)))]) (.v z)):=by
 refine⟨(λ_ h=>nomatch h),λV a w hr=>?_⟩
 obtain⟨kt,et,d,hu,hkt,hz,hck,hsn⟩:=Q51 ht
 obtain⟨-,hv⟩:=hr.ev h1
 have hkv:=Qu4 hr h2
 obtain⟨-,o,ho,ents,rfl,hsz,hents⟩:=hr.h.own i _ hi
 have hfr:=Q25 (V:=V) (w:=w) hk hsn es ents.toList 0 r (by simpa using hsz) (λi k x b hi=>by
  obtain⟨v,h3,h4⟩:=hents i k x b hi
  exact⟨v,by simpa using h3,h4⟩) hf
 obtain⟨zv,hzr,hzrel⟩:=Qdd hz
 have hck':=hck k hk ents.isEmpty 9999 w
 cases r with
 |some p=>
  obtain⟨v,e,h3,h4,-⟩:=hfr
  have hfk:=S5 (P:=E.P) (w:=w) hkt h3
  have hl:(Instr.lookup t (a.eval o1) (a.eval o2) ok).run E.P w=.ok (if ok then .tuple #[v,.bool true]else v) w:=by
   simp only[Instr.lookup,hv,hkv,Sem.run_bind,run_underlying hu,Result.andThen_ok,PR ho,Sem.run_pure,hck',hfk]
  refine⟨_,by simp only[execOp,Sem.run_bind,hl,Result.andThen_ok];rfl,?_⟩
  cases ok with
  |true=>exact⟨_,rfl,rfl,λj x hx=>by
    match j,hx with
    |0,hx=>cases hx;exact⟨v,rfl,h4⟩
    |1,hx=>cases hx;exact⟨_,rfl,Jl rfl⟩⟩
  |false=>exact h4
 |none=>
  have hfk:=S5 (P:=E.P) (w:=w) hkt hfr
  have hl:(Instr.lookup t (a.eval o1) (a.eval o2) ok).run E.P w=.ok (if ok then .tuple #[zv,.bool false]else zv) w:=by
   simp only[Instr.lookup,hv,hkv,Sem.run_bind,run_underlying hu,Result.andThen_ok,PR ho,Sem.run_pure,hck',hfk,hzr]
  refine⟨_,by simp only[execOp,Sem.run_bind,hl,Result.andThen_ok];rfl,?_⟩
  cases ok with
  |true=>exact⟨_,rfl,rfl,λj x hx=>by
    match j,hx with
    |0,hx=>cases hx;exact⟨zv,rfl,hzrel V w⟩
    |1,hx=>cases hx;exact⟨_,rfl,Jl rfl⟩⟩
  |false=>exact hzrel V w
theorem Qb1{k:Value}{ib:Bool}(hk:keyOf ib k=true):Instr.sameBits 10000 k k=true:=by cases k <;> simp[keyOf]at hk <;> simp[Instr.sameBits];exact(Go.MapKept.bytes_beq _ _).2 Z
theorem Uo{t:TypeId}{ib:Bool}{z:AV}{o1 o2 o3:Operand}{i:Nat}{es:List (Value×AV×Nat)}{clock:Nat}{k:Value}{x:AV}{r:Option (Nat×AV)}(ht:DS E.P t=some (ib,z))(h1:ev st.tm o1=some (.v (.one (.mp i))))(h2:ev st.tm o2=some (Gh k))(h3:ev st.tm o3=some (.v x))(hk:keyOf ib k=true)(hi:lk st.hp i=some (.mp es clock))(hf:Q6m k es 0=some r)(hdd:dd=none):OpOK E ⟨dd,.mapUpdate t o1 o2 o3,ty,pos,af,g⟩ st (.tup []) ⟨(i,match r with
   |some (j,_)=>.mp (es.modify j λe=>(k,x,e.2.2)) clock
   |none=>.mp (es++[(k,x,clock)]) (clock+1))::QT i st.hp,st.tk,st.nx⟩:=by
 intro V a w hr ro n K Q hK
 refine⟨λ_ _=>trivial,?_⟩
 rw[Oper.semAt_eq _ _ _ (by intro c h;cases h)]
 obtain⟨kt,et,d,hu,hkt,hz,hck,hsn⟩:=Q51 ht
 obtain⟨-,hv⟩:=hr.ev h1
 have hkv:=Qu4 hr h2
 have hxv:=hr.ev h3
 obtain⟨-,o,ho,ents,rfl,hsz,hents⟩:=hr.h.own i _ hi
 have hfr:=Q25 (V:=V) (w:=w) hk hsn es ents.toList 0 r (by simpa using hsz) (λi k x b hi=>by
  obtain⟨v,h3,h4⟩:=hents i k x b hi
  exact⟨v,by simpa using h3,h4⟩) hf
 have hck':=hck k hk false 9999 w
 subst hdd
 cases r with
 |some p=>
  obtain⟨j,x0⟩:=p
  obtain⟨v,e,h4,h5,-,h6,h7,h8⟩:=hfr
  have hfk:=S5 (P:=E.P) (w:=w) hkt h4
  simp only[Sx]at h6
  obtain⟨k0,x1,b0⟩:=e
  obtain⟨v0,hv0,-⟩:=hents j k0 x1 b0 h6
  have hkk:k=k0:=Qiv h8
  subst hkk
  have hstay:(Instr.keyThatStays (((ents[j]?).map (·.key)).getD k) k).run E.P w=.ok k w:=by
   rw[hv0]
   simp only[Si,PA,Instr.keyThatStays,Qb1 hk,if_true];rfl
  have hrun:(execOp a.eval ⟨none,.mapUpdate t o1 o2 o3,ty,pos,af,g⟩).run E.P w=.ok .skip (w.putObj (V.ι i) (.map (ents.modify j λe=>{e with key:=k,val:=a.eval o3}) clock)):=by
   simp only[execOp,Instr.mapUpdate,hv,hkv,Sem.run_bind,run_underlying hu,Result.andThen_ok,PR ho,hck',hfk,hstay,Go.MapKept.run_setObj_map _ ho]
   rfl
  rw[hrun]
  obtain⟨H,L⟩:=hr.h.putObj (o':=.map (ents.modify j λe=>{e with key:=k,val:=a.eval o3}) clock) (B':=.mp (es.modify j λe=>(k,x,e.2.2)) clock) hi (λhle=>⟨_,rfl,by simp[hsz],λq k' x' b' hq=>by
   rw[Sr]at hq
   by_cases hqj:j=q
   ·subst hqj
    simp only[if_true,h6,Si]at hq
    cases hq
    exact⟨a.eval o3,by simp[Py,hv0],hxv.mono hle⟩
   ·simp only[Ca hqj,Option.map_id]at hq
    obtain⟨v',h9,h10⟩:=hents q k' x' b' (by simpa using hq)
    exact⟨v',by simp[Py,hqj,h9],h10.mono hle⟩⟩)
  exact hK V _ undef (H.congr (λj=>JI i _ st.hp j) (λ_=>rfl)) hr.nx L DQ
 |none=>
  have hfk:=S5 (P:=E.P) (w:=w) hkt hfr
  have hrun:(execOp a.eval ⟨none,.mapUpdate t o1 o2 o3,ty,pos,af,g⟩).run E.P w=.ok .skip (w.putObj (V.ι i) (.map (ents.push {key:=k,val:=a.eval o3,born:=clock}) (clock+1))):=by
   simp only[execOp,Instr.mapUpdate,hv,hkv,Sem.run_bind,run_underlying hu,Result.andThen_ok,PR ho,hck',hfk,Go.MapKept.run_setObj_map _ ho]
   rfl
  rw[hrun]
  obtain⟨H,L⟩:=hr.h.putObj (o':=.map (ents.push {key:=k,val:=a.eval o3,born:=clock}) (clock+1)) (B':=.mp (es++[(k,x,clock)]) (clock+1)) hi (λhle=>⟨_,rfl,by simp[hsz],λq k' x' b' hq=>by
   by_cases hqj:q<es.length
   ·rw[CG hqj]at hq
    obtain⟨v',h9,h10⟩:=hents q k' x' b' hq
    exact⟨v',by rw[Array.getElem?_push,Ca (by omega)];exact h9,h10.mono hle⟩
   ·rw[CQ (by omega)]at hq
    have:q=es.length:=by
     have:=(Ce.1 hq).1
     simp at this;omega
    subst this
    simp at hq
    obtain⟨rfl,rfl,rfl⟩:=hq
    exact⟨a.eval o3,by rw[Array.getElem?_push,Cf hsz.symm],hxv.mono hle⟩⟩)
  exact hK V _ undef (H.congr (λj=>JI i _ st.hp j) (λ_=>rfl)) hr.nx L DQ
end
end
section
open Go.RowKit
theorem Qle{V:Vu}{w:World}:(YY V.S).Le V w w:=⟨Cd _,(λi hi=>absurd hi (Ss i)),(λi hi=>absurd hi (Ss i)),(λi hi=>absurd hi (Ss i)),λ_ _ h=>h,λ_ _ _=>rfl,λ_ _ _ _ h=>h⟩
def Jb2:Mem:=⟨[],[],0⟩
theorem Qms{P:Program}{S:Nat->Nat->Prop}{w:World}(hS:∀b o,S b o->b<w.heap.size):HRel (Qvj P w S) (YY S) [] [] w:=by refine⟨ExtM.refl _ _,Vu.Le.refl _ _,hS,λb o h=>.inl h,?_,?_,?_,?_,?_⟩;intro i B hi;cases hi;intro i j A B hi;cases hi;intro i B hi;cases hi;intro i T hi;cases hi;intro i j T U g hi;cases hi
section
variable{E:Env}{st:St}{dd:Option Nat}{ty:TypeId}{pos:String}{af:Array Edge}{g:Option (Nat×Bool)}
theorem Q3h{P:Program}{x:Operand}{f:FuncId}{ars:Array Operand}{ats:Array TypeId}{ρ:Operand->Value}{w:World}(hx:ρ x=.func (.func f) #[] #[])(he:Qd P f):(execOp ρ ⟨dd,.call {callee:=.value x,args:=ars,argTypes:=ats},ty,pos,af,g⟩).run P w=.ok (.enter f (ars.map ρ)) w:=by have:=he (ars.map ρ) w;simp[execOp,resolve,hx,Deferred.ofValue,invoke];simpa using this
end
end
section
open Go.RowKit
theorem Uh{a b:Nat}(h:Nat.blt a b=true):a<b:=C9 h
def CA.belowB(m:Nat):CA->Bool|.ptr i _=>Nat.blt i m|.fn _ caps=>caps.all λp=>Nat.blt p.1 m|.app i _ _=>Nat.blt i m|.apv i _ _ _=>Nat.blt i m|.tp i _ _=>Nat.blt i m|.osl i _ _ _=>Nat.blt i m|.mp i=>Nat.blt i m|.yld i=>Nat.blt i m|_=>true
theorem Ww{m:Nat}{x:CA}(h:x.belowB m=true):x.below m:=by
 cases x <;> simp only[CA.belowB]at h <;> first|trivial|exact Uh h|skip
 intro p hp;exact Uh (Ch.1 h p hp)
def AV.belowB(m:Nat):AV->Bool|.one x=>x.belowB m|.agg xs=>xs.all (CA.belowB m)
theorem G9{m:Nat}{x:AV}(h:x.belowB m=true):x.below m:=by cases x with|one x=>exact Ww h|agg xs=>intro y hy;exact Ww (Ch.1 h y hy)
def TV.belowB(m:Nat):TV->Bool|.v x=>x.belowB m|.tup xs=>xs.all (AV.belowB m)|.unk=>true
theorem Q0w{m:Nat}{x:TV}(h:x.belowB m=true):x.below m:=by cases x with|v x=>exact G9 h|tup xs=>intro y hy;exact G9 (Ch.1 h y hy)|unk=>trivial
def HB.belowB(m:Nat):HB->Bool|.cells _ xs=>xs.all (CA.belowB m)|.obj _=>true|.loop _ _ tm _ _ _ _ D=>Nat.blt D m&&tm.all λp=>p.2.belowB m|.mp es _=>es.all λe=>e.2.1.belowB m
theorem Ym{α:Type}:∀{l:List (Nat×α)}{i:Nat}{x:α},lk l i=some x->(i,x)∈l
 |[],i,x,h=>by cases h
 |(k,v)::l,i,x,h=>by
  rw[Q8]at h;split at h
  · rename_i e;subst e;cases h;exact Cj
  · exact Ck _ (Ym h)
theorem Q10{m:Nat}{x:HB}(h:x.belowB m=true):x.below m:=by cases x with|cells T xs=>intro y hy;exact Ww (Ch.1 h y hy)|obj o=>trivial|loop s p tm nt ps ars bd D=>simp only[HB.belowB,CD]at h;exact⟨Uh h.1,λt x hx=>Q0w (Ch.1 h.2 _ (Ym hx))⟩|mp es c=>intro e he;exact G9 (Ch.1 h e he)
end
section
section
open Go.RowKit
abbrev Qr(x:Int):Int:=IntKind.wrap .i64 x
inductive LO(σ β:Type) where
 |next (s:σ)
 |done (b:β)
def Qc{σ β:Type}(step:σ->Option (LO σ β)):Nat->σ->Option β|0,_=>none|n+1,s=>match step s with|none=>none|some (.next s')=>Qc step n s'|some (.done b)=>some b
def Qf:Nat:=1000000000
def QP{α:Type}(l:List α):Int->Option α|.ofNat k=>l[k]?|.negSucc _=>none
def Qa{α:Type}(b:Bool)(x:Option α):Option α:=cond b x none
theorem sI{α:Type}{a b:α}(h:some a=some b):a=b:=Cw h
theorem Zt{α β:Type}{o:Option α}{f:α->Option β}{r:β}(h:Option.bind o f=some r):∃x,o=some x/\f x=some r:=by cases o with|none=>cases h|some x=>exact⟨x,rfl,h⟩
theorem Qn{α β:Type}{o:Option α}{f:α->Option β}{r:β}{G:Prop}(h:Option.bind o f=some r)(k:∀x,o=some x->f x=some r->G):G:=by obtain⟨x,h1,h2⟩:=Zt h;exact k x h1 h2
theorem Qk{α:Type}{b:Bool}{x y r:Option α}(hb:b=true)(h:cond b x y=r):x=r:=by subst hb;exact h
theorem Ql{α:Type}{b:Bool}{x y r:Option α}(hb:b=false)(h:cond b x y=r):y=r:=by subst hb;exact h
theorem Gw{α:Type}{b:Bool}{x:Option α}{r:α}(h:Qa b x=some r):b=true/\x=some r:=by cases b with|false=>cases h|true=>exact⟨rfl,h⟩
theorem Dz{α:Type}{b:Bool}{x:Option α}{r:α}{G:Prop}(h:Qa b x=some r)(k:b=true->x=some r->G):G:=by obtain⟨h1,h2⟩:=Gw h;exact k h1 h2
theorem Qpc{α:Type}{l:List α}{i:Int}{x:α}(h:QP l i=some x):∃k:Nat,i=(k:Int)/\l[k]?=some x:=by cases i with|ofNat k=>exact⟨k,rfl,h⟩|negSucc k=>cases h
theorem Qt9{σ β:Type}{step:σ->Option (LO σ β)}{n:Nat}{s:σ}{b:β}(h:Qc step n s=some b):∃n' o,n=n'+1/\step s=some o/\(match o with
  |.next s'=>Qc step n' s'
  |.done b'=>some b')=some b:=by
 cases n with
 |zero=>cases h
 |succ n=>
  simp only[Qc]at h
  split at h
  ·cases h
  ·rename_i s' hs;exact⟨n,_,rfl,hs,h⟩
  ·rename_i b' hs;exact⟨n,_,rfl,hs,h⟩
def XN{σ β:Type}(step:σ->Option (LO σ β))(n:Nat)(b:β):LO σ β->Prop|.next s'=>Qc step n s'=some b|.done b'=>b'=b
class Enc(α:Type) where
 sz:Nat
 enc:α->List C
 encL:List α->List (List C)
 nil:encL []=[]
 app:∀a b,encL (a++b)=encL a++encL b
 one:∀x,encL [x]=[enc x]
theorem Enc.cons{α:Type}[Enc α](x:α)(l:List α):Enc.encL (x::l)=Enc.enc x::Enc.encL l:=by have:=Enc.app [x] l;rw[Enc.one]at this;exact this
theorem Enc.map{α:Type}[Enc α]:∀l:List α,Enc.encL l=l.map Enc.enc|[]=>Enc.nil|x::l=>by rw[Enc.cons,Enc.map l];rfl
theorem Enc.len{α:Type}[Enc α](l:List α):(Enc.encL l).length=l.length:=by rw[Enc.map,Co]
theorem Enc.get{α:Type}[Enc α]{l:List α}{k:Nat}{x:α}(h:l[k]?=some x):(Enc.encL l)[k]?=some (Enc.enc x):=by rw[Enc.map,Cn,h];rfl
theorem Enc.drop{α:Type}[Enc α](l:List α)(k:Nat):Enc.encL (l.drop k)=(Enc.encL l).drop k:=by rw[Enc.map,Enc.map,S8]
theorem Enc.take{α:Type}[Enc α](l:List α)(k:Nat):Enc.encL (l.take k)=(Enc.encL l).take k:=by rw[Enc.map,Enc.map,S9]
section
variable{E:Env}{ro:Option Nat}{n:Nat}{ops:Array Oper}{Q:Exit->Act->World->Prop}{rest:List Oper}{st:St}{o:Oper}{x:TV}{d:Option Tmp}{ty:TypeId}{pos:String}{af:Array Edge}{g:Option (Nat×Bool)}
inductive SlE{α:Type}[Enc α]:CA->List α->Prop
 |d (l:List α):SlE (.d (.sl (Enc.sz α) (Enc.encL l))) l
 |app (i:Nat) (l:List α):SlE (.app i (Enc.sz α) (Enc.encL l)) l
 |nil:SlE (.d (.v (.slice none 0 0))) []
theorem SlE.sl{α:Type}[Enc α]{y:CA}{l:List α}(h:SlE y l):SlOf y (Enc.sz α) (Enc.encL l):=by cases h with|d=>exact .d _ _|app=>exact .app _ _ _|nil=>rw[Enc.nil];exact .nil _
theorem Jg{α:Type}[Enc α]{t:TypeId}{e:Nat}{o:Operand}{y:CA}{l:List α}(ht:Ja E.P t=some (e,Enc.sz α))(hx:ev st.tm o=some (.v (.one y)))(hs:SlE y l):RO E ⟨d,.call {callee:=.builtin .len,args:=#[o],argTypes:=#[t]},ty,pos,af,g⟩ st (TI l.length):=by have:=J5y (E:=E) (d:=d) (ty:=ty) (pos:=pos) (af:=af) (g:=g) ht hx hs.sl;rw[Enc.len]at this;exact this
theorem JH{α:Type}[Enc α]{t:TypeId}{e:Nat}{o i:Operand}{y:CA}{l:List α}{v:α}{m:Int}(ht:Ja E.P t=some (e,Enc.sz α))(hx:ev st.tm o=some (.v (.one y)))(hs:SlE y l)(hi:ev st.tm i=some (TI m))(hv:QP l m=some v):RO E ⟨d,.indexAddr t o i,ty,pos,af,g⟩ st (.v (.one (.pel (Enc.enc v) 0))):=by obtain⟨k,hk,hl⟩:=Qpc hv;exact Qvg ht hx hs.sl hi hk (Enc.get hl)
theorem Qal{α:Type}[Enc α]{t e:Nat}{o:Operand}{y:CA}{l:List α}{lo hi mx:Option Operand}{a b:Nat}(ht:Ja E.P t=some (e,Enc.sz α))(hx:ev st.tm o=some (.v (.one y)))(hs:SlE y l)(hb:Zs st l.length lo hi mx=some (a,b)):RO E ⟨d,.slice t o lo hi mx,ty,pos,af,g⟩ st (.v (.one (.d (.sl (Enc.sz α) (Enc.encL ((l.drop a).take (b-a))))))):=by have:=Qpy (E:=E) (d:=d) (ty:=ty) (pos:=pos) (af:=af) (g:=g) ht hx hs.sl (by rw[Enc.len];exact hb);rw[Enc.take,Enc.drop];exact this
theorem Q0z{α:Type}[Enc α]{t e by_ i:Nat}{o1 o2:Operand}{y:CA}{l l2:List α}{m:Nat}(ht:Ja E.P t=some (e,Enc.sz α))(hte:KL E.P e=some (Enc.sz α,by_))(hb:Nat.ble by_ 100000=true)(h1:ev st.tm o1=some (.v (.one (.app i (Enc.sz α) (Enc.encL l)))))(hi:lk st.tk i=some (some ⟨e,Enc.sz α,m,[]⟩))(hm':m=(Enc.encL l).length)(h2:ev st.tm o2=some (.v (.one y)))(hs:SlE y l2)(hm:Nat.ble (l.length+l2.length) 1000000000=true):OpOK E ⟨d,.call {callee:=.builtin .append,args:=#[o1,o2],argTypes:=#[t,t]},ty,pos,af,g⟩ st (.v (.one (.app i (Enc.sz α) (Enc.encL (l++l2))))) ⟨st.hp,(i,some ⟨e,Enc.sz α,(Enc.encL (l++l2)).length,[]⟩)::QT i st.tk,st.nx⟩:=by subst hm';have:=Q7r (E:=E) (dd:=d) (ty:=ty) (pos:=pos) (af:=af) (g:=g) ht hte (C9 hb) h1 hi h2 hs.sl (by rw[Enc.len,Enc.len];exact C9 hm);rw[Enc.app];exact this
theorem Q46{α:Type}[Enc α]{t e by_:Nat}{o1 o2:Operand}{y:CA}{l2:List α}(ht:Ja E.P t=some (e,Enc.sz α))(hte:KL E.P e=some (Enc.sz α,by_))(hb:Nat.ble by_ 100000=true)(h1:ev st.tm o1=some (Gh (.slice none 0 0)))(h2:ev st.tm o2=some (.v (.one y)))(hs:SlE y l2)(hm:Nat.ble l2.length 1000000000=true):OpOK E ⟨d,.call {callee:=.builtin .append,args:=#[o1,o2],argTypes:=#[t,t]},ty,pos,af,g⟩ st (.v (.one (.app st.nx (Enc.sz α) (Enc.encL l2)))) ⟨st.hp,(st.nx,some ⟨e,Enc.sz α,(Enc.encL l2).length,[]⟩)::st.tk,st.nx+1⟩:=by
 by_cases h0:Enc.encL l2=[];intro V a w hr ro n K Q hK;refine⟨λ_ _=>trivial,?_⟩;rw[Oper.semAt_eq _ _ _ (by intro c h;cases h)];have r1:=J8 (hr.ev h1);have r2:=hs.sl.reads (hr.ev h2);have hexec:∀v' w',(Builtin.append_ #[t,t] ty #[a.eval o1,a.eval o2]).run E.P w=.ok v' w'->(execOp a.eval ⟨d,.call {callee:=.builtin .append,args:=#[o1,o2],argTypes:=#[t,t]},ty,pos,af,g⟩).run E.P w=.ok (.value v') w':=λv' w' h=>by simp[execOp,resolve,invoke,builtin,h]
 rw[h0]at r2 hK;obtain⟨hu,i1,hi1,-⟩:=Jx ht;obtain⟨-,a2,cap2,b2,off2,us2,e2,-⟩:=r2.row;have:=Q2y (P:=E.P) (w:=w) (ty:=ty) hu hi1 none a2 0 0 cap2 (Cl _);rw[hexec _ w (by rw[r1,e2];exact this)];obtain⟨H,L⟩:=hr.h.tokNil e (Enc.sz α);refine hK _ w _ (by dsimp only;rw[<-hr.nx];exact H) (by show max V.nx (V.nx+1)=st.nx+1;rw[hr.nx];omega) L ?_;rw[<-hr.nx];exact KJ e (Enc.sz α);exact Q7q ht hte (C9 hb) h1 h2 hs.sl (by rw[Enc.len];exact C9 hm) h0
theorem Qk9{α:Type}[Enc α](v:α){t e:Nat}{zs:List Value}{o1:Operand}{x1:AV}{ys:List CA}(ht:Ja E.P t=some (e,Enc.sz α))(hze:YB E.P e=some zs)(hzl:zs.length=Enc.sz α)(hz:zs.all (·.oneCell')=true)(hpos:0<Enc.sz α)(hlen:1*Enc.sz α<=16777216)(h1:ev st.tm o1=some (.v x1))(hf:Gz (ZD (Enc.sz α) 1) (ZN zs 1) [(0,x1)]=some ys)(hs:CSubs ys (Enc.enc v))(hel:(Enc.enc v).length=Enc.sz α):OpOK E ⟨d,.buildSlice t 1 #[(0,o1)],ty,pos,af,g⟩ st (.v (.one (.app st.nx (Enc.sz α) (Enc.encL [v])))) ⟨st.hp,(st.nx,some ⟨e,Enc.sz α,(Enc.encL [v]).length,[]⟩)::st.tk,st.nx+1⟩:=
 Q3p (avs:=[(0,x1)]) (Enc.encL [v]) ht hze hzl hz hpos hlen rfl (λj i x hx=>by
  match j,hx with
  |0,hx=>cases hx;exact⟨o1,rfl,h1⟩) hf (by rw[Enc.one];simpa using hs) (λx hx=>by rw[Enc.one]at hx;simp at hx;subst hx;exact hel) (by rw[Enc.one];rfl)
theorem Qgj{α:Type}[Enc α](v:α){t e:Nat}{zs:List Value}{o1:Operand}{x1:AV}{ys:List CA}(ht:Ja E.P t=some (e,Enc.sz α))(hze:YB E.P e=some zs)(hzl:zs.length=Enc.sz α)(hz:zs.all (·.oneCell')=true)(hlen:1*Enc.sz α<=16777216)(h1:ev st.tm o1=some (.v x1))(hf:Gz (ZD (Enc.sz α) 1) (ZN zs 1) [(0,x1)]=some ys)(hs:CSubs ys (Enc.enc v))(hel:(Enc.enc v).length=Enc.sz α):OpOK E ⟨d,.buildSlice t 1 #[(0,o1)],ty,pos,af,g⟩ st (.v (.one (.d (.sl (Enc.sz α) (Enc.encL [v]))))) ⟨st.hp,st.tk,st.nx⟩:=
 Qd8 (avs:=[(0,x1)]) (Enc.encL [v]) ht hze hzl hz hlen rfl (λj i x hx=>by
  match j,hx with
  |0,hx=>cases hx;exact⟨o1,rfl,h1⟩) hf (by rw[Enc.one];simpa using hs) (λx hx=>by rw[Enc.one]at hx;simp at hx;subst hx;exact hel) (by rw[Enc.one];rfl)
theorem Qm{t:Nat}{hp:List (Nat×HB)}{tk:List (Nat×Option Tok)}{nx:Nat}(hg:QQ ops st.tm o=some true)(hdst:o.dst=some t)(hd:t<st.nt)(ho:OpOK E o st x ⟨hp,tk,nx⟩)(k:XL E ro n ops Q rest ⟨(t,x)::st.tm,hp,tk,nx,st.nt,st.df⟩):XL E ro n ops Q (o::rest) st:=by intro V a w h;unfold wpListIn;rw[Cf (Z9 h hg)];refine ho V a w h ro n _ Q (λV' w' v H hn L hx=>k V' _ w' ?_);rw[hdst];exact(h.mem H hn L).put (d:=t) hd hx
theorem J1{hp:List (Nat×HB)}{tk:List (Nat×Option Tok)}{nx:Nat}(hg:QQ ops st.tm o=some true)(hdst:o.dst=none)(ho:OpOK E o st x ⟨hp,tk,nx⟩)(k:XL E ro n ops Q rest ⟨st.tm,hp,tk,nx,st.nt,st.df⟩):XL E ro n ops Q (o::rest) st:=by intro V a w h;unfold wpListIn;rw[Cf (Z9 h hg)];refine ho V a w h ro n _ Q (λV' w' v H hn L hx=>k V' _ w' ?_);rw[hdst];exact h.mem H hn L
theorem Qva{t:Nat}(hg:QQ ops st.tm o=some true)(hdst:o.dst=some t)(hd:t<st.nt)(ho:RO E o st x)(k:XL E ro n ops Q rest ⟨(t,x)::st.tm,st.hp,st.tk,st.nx,st.nt,st.df⟩):XL E ro n ops Q (o::rest) st:=Qm hg hdst hd (Q9 ho) k
theorem rR{t:Nat}(hg:QQ ops st.tm o=some true)(hdst:o.dst=some t)(hd:Nat.ble (t+1) st.nt=true)(ho:RO E o st x)(k:XL E ro n ops Q rest ⟨(t,x)::st.tm,st.hp,st.tk,st.nx,st.nt,st.df⟩):XL E ro n ops Q (o::rest) st:=Qva hg hdst (lb hd) ho k
theorem rM{t:Nat}{y:Operand}(hg:QQ ops st.tm ⟨some t,.move y,ty,pos,af,g⟩=some true)(hd:Nat.ble (t+1) st.nt=true)(h:ev st.tm y=some x)(k:XL E ro n ops Q rest ⟨(t,x)::st.tm,st.hp,st.tk,st.nx,st.nt,st.df⟩):XL E ro n ops Q (⟨some t,.move y,ty,pos,af,g⟩::rest) st:=Qva hg rfl (lb hd) (Jn h) k
theorem rA{t:Nat}{y:Operand}(hg:QQ ops st.tm ⟨some t,.assign y,ty,pos,af,g⟩=some true)(hd:Nat.ble (t+1) st.nt=true)(h:ev st.tm y=some x)(k:XL E ro n ops Q rest ⟨(t,x)::st.tm,st.hp,st.tk,st.nx,st.nt,st.df⟩):XL E ro n ops Q (⟨some t,.assign y,ty,pos,af,g⟩::rest) st:=Qva hg rfl (lb hd) (UO h) k
theorem Q7{t:Nat}(hg:QQ ops st.tm o=some false)(hdst:o.dst=some t)(k:XL E ro n ops Q rest ⟨(t,.tup [])::st.tm,st.hp,st.tk,st.nx,st.nt,st.df⟩):XL E ro n ops Q (o::rest) st:=by intro V a w h;unfold wpListIn;rw[Ca (by rw[Z9 h hg];exact Cp)];refine⟨λ_ _=>trivial,?_⟩;rw[hdst];exact k V _ w (h.und t)
def Q7s{σ β:Type}(E:Env)(inv:σ->St)(step:σ->Option (LO σ β))(n:Nat)(b:β)(a:Act)(w:World):Prop:=J61 (X:=σ×Nat) E (λp=>inv p.1) (λp=>Qc step p.2 p.1=some b) (λp=>p.2) (n+1) a w
theorem Y4{σ β:Type}{c:Code}(step:σ->Option (LO σ β))(inv:σ->St)(s0:σ)(b:β)(h0:StLe E st (inv s0))(hok:Qc step Qf s0=some b)(round:∀(s:σ)(m:Nat)(o:LO σ β),step s=some o->XN step m b o->XC E ro n (Exit.then (Q7s E inv step m b) Q) c (inv s)):XC E ro n Q (.loop c) st:=by refine Qzl (X:=σ×Nat) (λp=>inv p.1) (λp=>Qc step p.2 p.1=some b) (λp=>p.2) (s0,Qf) h0 hok ?_;rintro⟨s,k⟩ hs;obtain⟨m,o,rfl,h1,h2⟩:=Qt9 hs;refine round s m o h1 ?_;cases o with|next s'=>exact h2|done b'=>exact Cw h2
theorem JK{σ β:Type}{step:σ->Option (LO σ β)}{inv:σ->St}{m:Nat}{b:β}(s':σ)(hl:StLe E st (inv s'))(ho:XN step m b (.next s')):XQ E (Exit.then (Q7s E inv step m b) Q) .normal st:=Qzk (s',m) hl ho (Cv _)
def Jat{γ:Type}(E:Env)(i:Nat)(inv:γ->St)(K:γ->Prop)(Q:Exit->Act->World->Prop):Exit->Act->World->Prop|.exit j,a,w=>if j=i then ∃v V,K v/\Rel E V (inv v) a w else Q (.exit j) a w|.normal,a,w=>Q .normal a w|.goto l,a,w=>Q (.goto l) a w|.ret,a,w=>Q .ret a w|.panic c,a,w=>Q (.panic c) a w|.outgrown,a,w=>Q .outgrown a w
theorem Y5{γ:Type}{c:Code}(i:Nat)(inv:γ->St)(K:γ->Prop)(h:XC E ro n (Jat E i inv K Q) c st)(k:∀v,K v->XQ E Q (.exit i) (inv v)):XC E ro n Q c st:=by intro V a w hr;refine WG (h V a w hr) (λe a' w' hq=>?_);cases e with|exit j=>(simp only[Jat]at hq;split at hq;rename_i hj;subst hj;obtain⟨v,V',hv,hr'⟩:=hq;exact k v hv V' a' w' hr';exact hq)|_=>exact hq
theorem Y3{γ:Type}{i:Nat}{inv:γ->St}{K:γ->Prop}(v:γ)(hl:StLe E st (inv v))(hK:K v):XQ E (Jat E i inv K Q) (.exit i) st:=λV a w hr=>by obtain⟨V',hr'⟩:=hr.less hl;simp only[Jat,Cf];exact⟨v,V',hK,hr'⟩
def Jcs{γ:Type}(E:Env)(inv:γ->St)(K:γ->Prop)(Q:Exit->Act->World->Prop):Exit->Act->World->Prop|.normal,a,w=>∃v V,K v/\Rel E V (inv v) a w|.exit j,a,w=>Q (.exit j) a w|.goto l,a,w=>Q (.goto l) a w|.ret,a,w=>Q .ret a w|.panic c,a,w=>Q (.panic c) a w|.outgrown,a,w=>Q .outgrown a w
theorem QN{γ:Type}{c:Code}(inv:γ->St)(K:γ->Prop)(h:XC E ro n (Jcs E inv K Q) c st)(k:∀v,K v->XQ E Q .normal (inv v)):XC E ro n Q c st:=by intro V a w hr;refine WG (h V a w hr) (λe a' w' hq=>?_);cases e with|normal=>(obtain⟨v,V',hv,hr'⟩:=hq;exact k v hv V' a' w' hr')|_=>exact hq
theorem Qb{γ:Type}{inv:γ->St}{K:γ->Prop}(v:γ)(hl:StLe E st (inv v))(hK:K v):XQ E (Jcs E inv K Q) .normal st:=λV a w hr=>by obtain⟨V',hr'⟩:=hr.less hl;exact⟨v,V',hK,hr'⟩
inductive ASubL:List AV->List AV->Prop
 |nil:ASubL [] []
 |cons {x y:AV} {xs ys:List AV} (h:ASub x y) (t:ASubL xs ys):ASubL (x::xs) (y::ys)
theorem ASubL.spec{xs ys:List AV}(h:ASubL xs ys):xs.length=ys.length/\∀(i:Nat)(y:AV),ys[i]?=some y->∃x,xs[i]?=some x/\ASub x y:=by induction h with|nil=>exact⟨rfl,λi y hy=>by simp at hy⟩|cons h t ih=>refine⟨by simp[ih.1],λi y hy=>?_⟩;cases i with|zero=>simp at hy;subst hy;exact⟨_,rfl,h⟩|succ i=>exact ih.2 i y (by simpa using hy)
theorem QO{f:FuncId}{ars:Array Operand}{args ys:List AV}{ats:Array TypeId}{res:TV}(hF:Fun E.P f ys res)(ha:Z7 st.tm ars.toList=some args)(hs:ASubL args ys):OpOK E ⟨d,.call {callee:=.value (.func f),args:=ars,argTypes:=ats},ty,pos,af,g⟩ st res ⟨st.hp,st.tk,st.nx⟩:=by
 intro V a w hr ro n K Q hK;refine⟨λ_ _=>trivial,?_⟩;rw[Oper.semAt_eq _ _ _ (by intro c h;cases h)];rw[Q3h rfl hF.1];refine⟨(by intro h;cases h),?_⟩;have har:argsRel (YY V.S) w ys (ars.map a.eval):=by obtain⟨h1,h2⟩:=KI hr ha;obtain⟨h3,h4⟩:=hs.spec;refine⟨by omega,λi y hy=>?_⟩;obtain⟨x,hx',hxy⟩:=h4 i y hy;obtain⟨u,hu,hxu⟩:=h2 i x hx';exact⟨u,hu,hxy.rel hxu⟩
 have hc':CallsIn Fence.wide (n-1) E.P f _ w _:=callsIn_wide.2 (hF.2 V.S w _ hr.h.sz har);refine CallsIn.mono (F:=FR ro) hc' ?_;rintro e w' ⟨v,S',rfl,hx,hS,hS',hv⟩;have hg:V.Grow {V with S:=S' } w w':=⟨Cl _,λ_ _=>rfl,λ_ _=>rfl,λ_ _ _ _=>rfl,hS,λb o h=>(hS' b o h).1,λb o h=>(hS' b o h).2⟩;exact hK {V with S:=S' } w' v (hr.h.later hx hg) hr.nx (hr.h.le hx hg) (hv.mono (Qle (V:={V with S:=S' })))
end
def Qgl(P:Program)(n:Nat)(fn:Func)(S:Nat->Nat->Prop)(w:World)(res:TV):Exit->Act->World->Prop:=bodyPostM Fence.wide n P fn λe w'=>∃v S',e=.returned v/\Xi w w'/\(∀b o,S b o->S' b o)/\(∀b o,S' b o->(S b o\/w.heap.size<=b)/\b<w'.heap.size)/\res.rel (YY S') w' v
theorem Jb{P:Program}{f:FuncId}{fn:Func}{c:Code}{args:List AV}{res:TV}(n nt:Nat)(hf:P.funcs[f]?=some fn)(hb:fn.body=some c)(hen:Qd P f)(hn:fn.ntmps=nt)(hnt:args.length<=nt)(h:∀(S:Nat->Nat->Prop)(w:World),XC (Qvj P w S) none n (Qgl P n fn S w res) c ⟨J4 0 args,[],[],0,nt,[]⟩)(hP0:P=prog:=by rfl):Fun P f args res:=by
 subst hn;refine⟨hen,λS w vs hS hargs=>?_⟩;refine(callsIn_wide (n:=n)).1 (K3 (F:=Fence.wide) (Q2p hP0 hf) hf hb trivial ?_);refine h S w (YY S) _ w ⟨Qms hS,Z,?_,dfRel.nil,?_⟩;simp[hargs.1];omega;intro t x hx;obtain⟨k,y,h1,h2,rfl⟩:=Xw args 0 t x hx;obtain⟨u,hu,hy⟩:=hargs.2 k y h2;have hk:k<vs.size:=(CP.1 hu).1;have:(vs++Array.replicate (fn.ntmps-vs.size) undef).getD t undef=u:=by rw[show t=k by omega,P8,P9 hk,hu];rfl
 rw[this];exact hy
theorem Qw6{xs ys:List AV}(h:ASubL xs ys){V:Vu}{w:World}{v:Value}(hv:(Qj xs).rel V w v):(Qj ys).rel (YY V.S) w v:=by obtain⟨hl,hs⟩:=h.spec;match xs,ys,hl with|[],[],_=>(obtain⟨vs,h1,h2,h3⟩:=hv;exact⟨vs,h1,h2,λi x hx=>by simp at hx⟩)|[x],[y],_=>(obtain⟨x',hx,hxy⟩:=hs 0 y rfl;cases hx;exact hxy.rel hv)|x::x2::xs,y::y2::ys,hl=>obtain⟨vs,h1,h2,h3⟩:=hv;refine⟨vs,h1,by rw[h2];exact hl,λi z hz=>?_⟩;obtain⟨x',hx,hxy⟩:=hs i z hz;obtain⟨u,hu,hr⟩:=h3 i x' hx;exact⟨u,hu,hxy.rel hr⟩
theorem QD{P:Program}{n:Nat}{fn:Func}{S:Nat->Nat->Prop}{w0:World}{st:St}{Q:Exit->Act->World->Prop}{e:Exit}{hp':List (Nat×HB)}{xs ys:List AV}(hQ:∀a w,Qgl P n fn S w0 (Qj ys) .ret a w->Q e a w)(hdf:Xl st.df st.hp=some hp')(hres:RAs P ⟨st.tm,hp',st.tk,st.nx,st.nt,[]⟩ fn.results.toList xs)(hs:ASubL xs ys):XQ (Qvj P w0 S) Q e st:=by intro V a w hr;refine hQ a w ?_;refine Q0c st.df a.defers st.hp hp' w hr.h hr.df hdf (λw' V' H' hn' L'=>?_);have hr':Rel (Qvj P w0 S) V' ⟨st.tm,hp',st.tk,st.nx,st.nt,[]⟩ {tmps:=a.tmps,defers:=[]} w':=⟨H',hn'.trans hr.nx,hr.nt,dfRel.nil,λt x hx=>(hr.tm t x hx).keep L'⟩;obtain⟨v,h1,h2⟩:=WO hres rfl hr';refine⟨v,h1,v,V'.S,Z,H'.ext,H'.le0.S,λb o h=>⟨?_,H'.sz b o h⟩,Qw6 hs h2⟩;rcases H'.sub b o h with h1|h1|h1;exact .inl h1;exact .inr h1;exact h1.elim
theorem Qy{P:Program}{st:St}{t:Nat}{x:AV}{rs:List ResultVar}{xs:List AV}(h:lk st.tm t=some (.v x))(k:RAs P st rs xs):RAs P st (.tmp t::rs) (x::xs):=.cons (λ_ _=>RA.tmp h) k
theorem Um{P:Program}{st:St}{ad t n i off:Nat}{T:TypeId}{xs:List CA}{y:CA}{rs:List ResultVar}{ys:List AV}(ht:Jw P t=some (false,n))(h:lk st.tm ad=some (.v (.one (.ptr i off))))(hi:lk st.hp i=some (.cells T xs))(hy:xs[off]?=some y)(k:RAs P st rs ys):RAs P st (.cell ad t::rs) (.one y::ys):=.cons (λE hE=>RA.cell (by rw[hE];exact ht) h hi hy) k
theorem K6{P:Program}{st:St}{ad t n i off:Nat}{T:TypeId}{xs zs:List CA}{rs:List ResultVar}{ys:List AV}(ht:Jw P t=some (true,n))(h:lk st.tm ad=some (.v (.one (.ptr i off))))(hi:lk st.hp i=some (.cells T xs))(hy:(xs.drop off).take n=zs)(hn:zs.length=n)(k:RAs P st rs ys):RAs P st (.cell ad t::rs) (.agg zs::ys):=.cons (λE hE=>Qk8 (by rw[hE];exact ht) h hi hy hn) k
end
section
open Go.RowKit
section
variable(E:Env)(ops:Array Oper)(st:St)(effs:List Nat)
inductive RunA(D:List (Nat×TV)->Nat->Mem->Prop)(F:List (Nat×TV)->List Mem->Prop):List Nat->List (Nat×TV)->List Mem->Prop
 |nil {fx:List (Nat×TV)} {ms:List Mem} (h:F fx ms):RunA D F [] fx ms
 |rd {i:Nat} {rest:List Nat} {fx:List (Nat×TV)} {m:Mem} {ms:List Mem} {o:Oper} {x:TV} (ho:ops[i]?=some o) (he:effs.contains i=false) (hw:QQ ops (QI ops st fx i m).tm o=some true) (h:OpOK E o (QI ops st fx i m) x m) (hd:ZH st o.dst=true)
   (k:RunA D F rest ((i,x)::fx) (m::ms)):RunA D F (i::rest) fx (m::ms)
 |no {i:Nat} {rest:List Nat} {fx:List (Nat×TV)} {m:Mem} {ms:List Mem} {o:Oper} (ho:ops[i]?=some o) (he:effs.contains i=false) (hw:QQ ops (QI ops st fx i m).tm o=some false) (hd:ZH st o.dst=true)
   (k:RunA D F rest ((i,.tup [])::fx) (m::ms)):RunA D F (i::rest) fx (m::ms)
 |noE {i:Nat} {rest:List Nat} {fx:List (Nat×TV)} {m:Mem} {ms:List Mem} {o:Oper} (ho:ops[i]?=some o) (he:effs.contains i=true) (hw:QQ ops (QI ops st fx i m).tm o=some false) (hd:ZH st o.dst=true)
   (k:RunA D F rest ((i,.tup [])::fx) (m::m::ms)):RunA D F (i::rest) fx (m::ms)
 |eff {i:Nat} {rest:List Nat} {fx:List (Nat×TV)} {m:Mem} {ms:List Mem} {o:Oper} {x:TV} {m':Mem} (ho:ops[i]?=some o) (he:effs.contains i=true) (hw:QQ ops (QI ops st fx i m).tm o=some true) (h:OpOK E o (QI ops st fx i m) x m') (hd:ZH st o.dst=true)
   (k:RunA D F rest ((i,x)::fx) (m'::m::ms)):RunA D F (i::rest) fx (m::ms)
 |die {i:Nat} {rest:List Nat} {fx:List (Nat×TV)} {m mI:Mem} {ms:List Mem} {o:Oper} (ho:ops[i]?=some o) (he:effs.contains i=true) (hd:ZH st o.dst=true) (h:D ((i,.unk)::fx) i m)
   (k:RunA D F rest ((i,.unk)::fx) (mI::m::ms)):RunA D F (i::rest) fx (m::ms)
end
section
variable{E:Env}{ops:Array Oper}{st:St}{effs:List Nat}{D:List (Nat×TV)->Nat->Mem->Prop}{F:List (Nat×TV)->List Mem->Prop}
theorem Q2j{i:Nat}{rest:List Nat}{fx:List (Nat×TV)}{m:Mem}{ms:List Mem}{o:Oper}{c:Bool}(ho:ops[i]?=some o)(he:effs.contains i=false)(hw:QQ ops (QI ops st fx i m).tm o=some true)(h:OpOK E o (QI ops st fx i m) (TB c) m)(hd:ZH st o.dst=true)(kt:c=true->RunA E ops st effs D F rest ((i,TB true)::fx) (m::ms))(kf:c=false->RunA E ops st effs D F rest ((i,TB false)::fx) (m::ms)):RunA E ops st effs D F (i::rest) fx (m::ms):=by cases c with|true=>exact .rd ho he hw h hd (kt rfl)|false=>exact .rd ho he hw h hd (kf rfl)
theorem Q3f{fx' fx:List (Nat×TV)}{js:List Nat}(h:∀j∈js,∀p∈fx',p.1≠j):JO ops (fx'++fx) js=JO ops fx js:=by
 have key:∀j∈js,lk (fx'++fx) j=lk fx j:=λj hj=>by rw[JN];(have:lk fx' j=none:=by cases hc:lk fx' j with|none=>rfl|some x=>exact absurd rfl (h j hj _ (Ym hc)));rw[this]
 unfold JO;induction js with|nil=>rfl|cons j js ih=>rw[Pw,Pw,key j (by simp),ih (λj hj=>h j (by simp[hj])) (λj hj=>key j (by simp[hj]))]
theorem Qr7(hdag:∀i,i<ops.size->∀k∈QM ops i,k<i)(hDst:∀(fx' fx:List (Nat×TV))(i:Nat)(m:Mem),i<ops.size->(∀p∈fx',i+1<=p.1)->D fx i m->D (fx'++fx) i m):∀(todo:List Nat)(i0:Nat)(fx:List (Nat×TV))(m:Mem)(ms:List Mem),RunA E ops st effs D F todo fx (m::ms)->(∀p∈fx,p.1<i0)->todo=List.range' i0 (ops.size-i0)->i0<=ops.size -> ∃fx' ms',F (fx'++fx) (ms'++m::ms)/\(∀p∈fx',i0<=p.1)/\ms'.length=(todo.filter effs.contains).length/\∀i∈todo,∃mi,(ms'++m::ms).reverse[ms.length+((List.range' i0 (i-i0)).filter effs.contains).length]?=some mi /\ ∃o x,ops[i]?=some o/\lk (fx'++fx) i=some x/\ZH st o.dst=true /\ ((QQ ops (QI ops st (fx'++fx) i mi).tm o=some true/\∃m',OpOK E o (QI ops st (fx'++fx) i mi) x m'/\(if effs.contains i then(ms'++m::ms).reverse[ms.length+((List.range' i0 (i-i0)).filter effs.contains).length+1]?=some m' else m'=mi)) \/ (QQ ops (QI ops st (fx'++fx) i mi).tm o=some false/\x=.tup []/\(effs.contains i=true->(ms'++m::ms).reverse[ms.length+((List.range' i0 (i-i0)).filter effs.contains).length+1]?=some mi))\/D (fx'++fx) i mi):=by
 intro todo;induction todo with
 |nil=>intro i0 fx m ms h _ _ _;cases h with|nil h=>exact⟨[],[],h,(λp hp=>by cases hp),rfl,(λi hi=>by cases hi)⟩
 |cons j todo ih=>
  intro i0 fx m ms h hfx htodo hle;have hlt:i0<ops.size:=by
   rcases P2 i0 ops.size with h1|h1
   · exact h1
   · rw[Nat.sub_eq_zero_of_le h1]at htodo;cases htodo
  rw[show ops.size-i0=(ops.size-(i0+1))+1 by omega,List.range'_succ]at htodo;have hj:j=i0:=(PE htodo).1;have ht:todo=List.range' (i0+1) (ops.size-(i0+1)):=(PE htodo).2;subst hj;have hmem:∀i∈todo,j+1<=i:=λi hi=>by rw[ht]at hi;have:=List.mem_range'_1.1 hi;omega
  have hdeps:∀(x:TV)(fx':List (Nat×TV))(mi:Mem),(∀p∈fx',j+1<=p.1)->QI ops st (fx'++(j,x)::fx) j mi=QI ops st fx j mi:=λx fx' mi hf=>by
   unfold QI;rw[show fx'++(j,x)::fx=(fx'++[(j,x)])++fx by simp,Q3f (λk hk p hp=>?_)];have:=hdag j hlt k hk;rcases CR.1 hp with hp|hp
   · have:=hf p hp;omega
   · simp at hp;subst hp;dsimp only;omega
  have hlkj:∀(x:TV)(fx':List (Nat×TV)),(∀p∈fx',j+1<=p.1)->lk (fx'++(j,x)::fx) j=some x:=λx fx' hf=>by rw[JN];(have:lk fx' j=none:=by cases hc:lk fx' j with|none=>rfl|some y=>have:=hf _ (Ym hc);dsimp only at this;omega);rw[this];dsimp only;rw[Q8,Cf rfl]
  have hfx1:∀(x:TV),∀p∈(j,x)::fx,p.1<j+1:=λx p hp=>by
   rcases Cs.1 hp with rfl|hp
   · exact Cv _
   · have:=hfx p hp;omega
  have hrng:∀i,j+1<=i->List.range' j (i-j)=j::List.range' (j+1) (i-(j+1)):=λi hi=>by rw[show i-j=(i-(j+1))+1 by omega,List.range'_succ]
  have hself:∀(ms':List Mem)(m:Mem)(ms:List Mem),(ms'++m::ms).reverse[ms.length]?=some m:=λms' m ms=>by rw[List.reverse_append,CG (by simp),PX,CQ (by simp)];simp
  cases h with
  |rd ho he hw hok hd k=>
   rename_i o x;obtain⟨fx',ms',h1,h2,h3,h4⟩:=ih (j+1) _ m ms k (hfx1 x) ht (by omega);refine⟨fx'++[(j,x)],ms',by rw[CB];exact h1,λp hp=>?_,by rw[CE,Ca (by rw[he];exact Cp)];exact h3,λi hi=>?_⟩
   · rcases CR.1 hp with hp|hp
     · have:=h2 p hp;omega
     · simp at hp;subst hp;exact Cl _
   · rw[show(fx'++[(j,x)])++fx=fx'++(j,x)::fx by simp]
     rcases Cs.1 hi with rfl|hi
     · rw[PD,Sf,Sj,Cb,Pk]
       exact⟨m,hself ms' m ms,o,x,ho,hlkj x fx' h2,hd,.inl ⟨by rw[hdeps x fx' m h2];exact hw,m,by rw[hdeps x fx' m h2];exact hok,by rw[Ca (by rw[he];exact Cp)]⟩⟩
     · have:=h4 i hi
       rw[hrng i (hmem i hi),CE,Ca (by rw[he];exact Cp)]
       exact this
  |no ho he hw hd k=>
   rename_i o;obtain⟨fx',ms',h1,h2,h3,h4⟩:=ih (j+1) _ m ms k (hfx1 _) ht (by omega);refine⟨fx'++[(j,.tup [])],ms',by rw[CB];exact h1,λp hp=>?_,by rw[CE,Ca (by rw[he];exact Cp)];exact h3,λi hi=>?_⟩
   · rcases CR.1 hp with hp|hp
     · have:=h2 p hp;omega
     · simp at hp;subst hp;exact Cl _
   · rw[show(fx'++[(j,TV.tup [])])++fx=fx'++(j,.tup [])::fx by simp]
     rcases Cs.1 hi with rfl|hi
     · rw[PD,Sf,Sj,Cb,Pk]
       exact⟨m,hself ms' m ms,o,.tup [],ho,hlkj _ fx' h2,hd,.inr (.inl ⟨by rw[hdeps _ fx' m h2];exact hw,rfl,λh=>by rw[he]at h;cases h⟩)⟩
     · have:=h4 i hi
       rw[hrng i (hmem i hi),CE,Ca (by rw[he];exact Cp)]
       exact this
  |noE ho he hw hd k=>
   rename_i o;obtain⟨fx',ms',h1,h2,h3,h4⟩:=ih (j+1) _ m (m::ms) k (hfx1 (.tup [])) ht (by omega);refine⟨fx'++[(j,TV.tup [])],ms'++[m],by rw[CB,CB];exact h1,λp hp=>?_,by rw[CE,Cf he];simp[h3],λi hi=>?_⟩
   · rcases CR.1 hp with hp|hp
     · have:=h2 p hp;omega
     · simp at hp;subst hp;exact Cl _
   · rw[show(fx'++[(j,TV.tup [])])++fx=fx'++(j,TV.tup [])::fx by simp,show(ms'++[m])++m::ms=ms'++m::m::ms by simp]
     rcases Cs.1 hi with rfl|hi
     · rw[PD,Sf,Sj,Cb,Pk]
       refine⟨m,by simp,o,.tup [],ho,hlkj (.tup []) fx' h2,hd,.inr (.inl ⟨by rw[hdeps (.tup []) fx' m h2];exact hw,rfl,λ_=>by simp⟩)⟩
     · obtain⟨mi,h5,h6⟩:=h4 i hi
       have e1:((List.range' j (i-j)).filter effs.contains).length=((List.range' (j+1) (i-(j+1))).filter effs.contains).length+1:=by
         rw[hrng i (hmem i hi),CE,Cf he,C1]
       refine⟨mi,?_,?_⟩
       · rw[e1,<-h5];congr 1;simp;omega
       · rw[e1]
         rw[show ms.length+(((List.range' (j+1) (i-(j+1))).filter effs.contains).length+1)=(m::ms).length+((List.range' (j+1) (i-(j+1))).filter effs.contains).length by simp;omega]
         exact h6
  |die ho he hd hD k=>
   rename_i m' o;obtain⟨fx',ms',h1,h2,h3,h4⟩:=ih (j+1) _ m' (m::ms) k (hfx1 .unk) ht (by omega);refine⟨fx'++[(j,TV.unk)],ms'++[m'],by rw[CB,CB];exact h1,λp hp=>?_,by rw[CE,Cf he];simp[h3],λi hi=>?_⟩
   · rcases CR.1 hp with hp|hp
     · have:=h2 p hp;omega
     · simp at hp;subst hp;exact Cl _
   · rw[show(fx'++[(j,TV.unk)])++fx=fx'++(j,TV.unk)::fx by simp,show(ms'++[m'])++m::ms=ms'++m'::m::ms by simp]
     rcases Cs.1 hi with rfl|hi
     · rw[PD,Sf,Sj,Cb,Pk]
       exact⟨m,by simp,o,.unk,ho,hlkj .unk fx' h2,hd,.inr (.inr (hDst fx' ((i,.unk)::fx) i m hlt (λp hp=>h2 p hp) hD))⟩
     · obtain⟨mi,h5,h6⟩:=h4 i hi
       have e1:((List.range' j (i-j)).filter effs.contains).length=((List.range' (j+1) (i-(j+1))).filter effs.contains).length+1:=by
         rw[hrng i (hmem i hi),CE,Cf he,C1]
       refine⟨mi,?_,?_⟩
       · rw[e1,<-h5];congr 1;simp;omega
       · rw[e1]
         rw[show ms.length+(((List.range' (j+1) (i-(j+1))).filter effs.contains).length+1)=(m::ms).length+((List.range' (j+1) (i-(j+1))).filter effs.contains).length by simp;omega]
         exact h6
  |eff ho he hw hok hd k=>
   rename_i o x m';obtain⟨fx',ms',h1,h2,h3,h4⟩:=ih (j+1) _ m' (m::ms) k (hfx1 x) ht (by omega);refine⟨fx'++[(j,x)],ms'++[m'],by rw[CB,CB];exact h1,λp hp=>?_,by rw[CE,Cf he];simp[h3],λi hi=>?_⟩
   · rcases CR.1 hp with hp|hp
     · have:=h2 p hp;omega
     · simp at hp;subst hp;exact Cl _
   · rw[show(fx'++[(j,x)])++fx=fx'++(j,x)::fx by simp,show(ms'++[m'])++m::ms=ms'++m'::m::ms by simp]
     rcases Cs.1 hi with rfl|hi
     · rw[PD,Sf,Sj,Cb,Pk]
       refine⟨m,?_,o,x,ho,hlkj x fx' h2,hd,.inl ⟨by rw[hdeps x fx' m h2];exact hw,m',by rw[hdeps x fx' m h2];exact hok,?_⟩⟩
       · simp
       · rw[Cf he]
         simp
     · obtain⟨mi,h5,h6⟩:=h4 i hi
       have e1:((List.range' j (i-j)).filter effs.contains).length=((List.range' (j+1) (i-(j+1))).filter effs.contains).length+1:=by
         rw[hrng i (hmem i hi),CE,Cf he,C1]
       refine⟨mi,?_,?_⟩
       · rw[e1,<-h5];congr 1;simp;omega
       · rw[e1]
         rw[show ms.length+(((List.range' (j+1) (i-(j+1))).filter effs.contains).length+1)=(m::ms).length+((List.range' (j+1) (i-(j+1))).filter effs.contains).length by simp;omega]
         exact h6
theorem J5w{Q:Exit->Act->World->Prop}{e:Exit}{fx:List (Nat×TV)}:XQ E Q e (Q3g ops st fx ⟨[(0,.obj (.deferred none))],[],0⟩):=λV a w hr=>by have h1:=(hr.h.own 0 _ rfl).1;have h2:V.nx=0:=hr.nx;omega
def AllEx(E:Env)(ops:Array Oper)(st:St)(effs:List Nat)(fx:List (Nat×TV))(ms:List Mem):List (Nat×Nat)->Prop|[]=>True|(i,j)::r=>(∃m,ms[j]?=some m/\Qnn E ops st fx effs ms i j m)/\AllEx E ops st effs fx ms r
theorem AllEx.get{fx:List (Nat×TV)}{ms:List Mem}:∀{l:List (Nat×Nat)}{i j:Nat},AllEx E ops st effs fx ms l->l.contains (i,j)=true->∃m,ms[j]?=some m/\Qnn E ops st fx effs ms i j m
 |[],i,j,_,h=>by cases h
 |(a,b)::r,i,j,ha,h=>by
  simp only[List.contains_cons,PJ,P3]at h;rcases h with h|h
  · cases h;exact ha.1
  · exact AllEx.get ha.2 h
def Gv(effs:List Nat)(i:Nat):Nat:=((List.range' 0 i).filter effs.contains).length
def J8g(ops:Array Oper)(effs:List Nat)(ex:List (Nat×Nat)):Bool:=(List.range ops.size).all λi=>(List.range (effs.length+1)).all λj=>!(Q35 ops effs i j)||j==Gv effs i||ex.contains (i,j)
theorem Ye{ro:Option Nat}{n id:Nat}{Q:Exit->Act->World->Prop}(effs:List Nat)(ex:List (Nat×Nat))(hm:E.P.follows .mixedOrders=true)(hB:Q7h ops effs=true)(hex:J8g ops effs ex=true)(hlen:((List.range' 0 ops.size).filter effs.contains).length=effs.length)(h:RunA E ops st effs (DieOp E Q ops st) (λfx ms=>AllEx E ops st effs fx ms.reverse ex/\∃mE r,ms=mE::r/\XQ E Q .normal (Q3g ops st fx mE)) (List.range' 0 ops.size) [] [st.mem]):XC E ro n Q (.region id ops true) st:=by
 have hB':=hB;simp only[Q7h,CD]at hB';obtain⟨⟨⟨⟨hdag,-⟩,-⟩,-⟩,-⟩:=hB';have hdag':∀i,i<ops.size->∀k∈QM ops i,k<i:=λi hi k hk=>by have:=Ch.1 (Ch.1 hdag i (by simpa using hi)) k hk;simpa using this
 obtain⟨fx',ms',⟨hall,mE,r,hmE,hQ⟩,-,hms,hrun⟩:=Qr7 hdag' (λfx' fx i m hi hf hD=>by(have e:QI ops st (fx'++fx) i m=QI ops st fx i m:=by unfold QI;rw[Q3f (λk hk p hp=>by have:=hdag' i hi k hk;have:=hf p hp;omega)]);unfold DieOp at hD⊢;rw[e];exact hD) _ 0 [] st.mem [] h (λp hp=>by cases hp) (by rw[Sx]) (Cd _);rw[CC]at hall hQ;rw[hlen]at hms;refine Qgc fx' effs (ms'++[st.mem]).reverse (mE:=mE) hm hB (by simp) ?_ (λi j m hi hj hmj hmay=>?_) hQ;rw[hmE];have:r.length=effs.length:=by have:=congrArg List.length hmE;simp at this;omega
 rw[PX,CQ (by simp;omega)];simp[this];have h1:=Ch.1 (Ch.1 hex i (by simpa using hi)) j (by simpa using Nat.lt_succ_of_le hj);rw[hmay]at h1;simp only[Pf,Bool.false_or,PJ,P3]at h1;rcases h1 with h1|h1;obtain⟨mi,h2,h3⟩:=hrun i (List.mem_range'_1.2 ⟨Cd _,by omega⟩);rw[CC]at h3;simp only[Cb,Pd,Sx]at h2 h3;subst h1;unfold Gv at hmj⊢;rw[hmj]at h2;cases h2;obtain⟨o,x,h4,h5,h6,h7⟩:=h3;rcases h7 with h7|h7|h7;exact .inl ⟨o,x,h4,h5,h6,.inl h7⟩;exact .inl ⟨o,x,h4,h5,h6,.inr h7⟩;exact .inr h7;obtain⟨m',h2,h3⟩:=hall.get h1;rw[hmj]at h2;cases h2;exact .inl h3
end
end
end
section
abbrev LV:=Int×Int
structure Lvl where
 c:Int
 vs:List LV
structure Bnd where
 lo:Lvl
 hi:Lvl
def Q71(c:Int)(vs:List LV):Bool:=vs.any λx=>decide (c<=x.2)
def ZO(L:Lvl):Lvl:=if Q71 L.c L.vs then⟨0,L.vs⟩else L
def JZ(c:Int)(vs:List LV):Int:=vs.foldl (λm x=>max m x.2) c
theorem Qh6(c:Int)(vs:List LV)(x:LV):JZ c (vs++[x])=max (JZ c vs) x.2:=by simp[JZ,List.foldl_append]
def QS:List LV->List LV->List LV|[],b=>b|x::a,[]=>x::a|x::a,y::b=>if x.1<y.1 then x::QS a (y::b)else if y.1<x.1 then y::QS (x::a) b else(x.1,max x.2 y.2)::QS a b
termination_by a b=>a.length+b.length
theorem YD(a:List LV):QS a []=a:=by cases a <;> simp[QS]
theorem Yk(b:List LV):QS [] b=b:=by simp[QS]
theorem X0{l:List LV}{i:Nat}{x:LV}(h:l[i]?=some x):l.drop i=x::l.drop (i+1):=by obtain⟨hlt,rfl⟩:=Ce.1 h;exact Pa hlt
theorem Qwu{a b:List LV}{i k:Nat}{x:LV}(hx:a[i]?=some x)(hk:b.length<=k):QS (a.drop i) (b.drop k)=x::QS (a.drop (i+1)) (b.drop k):=by rw[P1 hk,YD,YD,X0 hx]
theorem Qwt{a b:List LV}{i k:Nat}{y:LV}(hi:a.length<=i)(hy:b[k]?=some y):QS (a.drop i) (b.drop k)=y::QS (a.drop i) (b.drop (k+1)):=by rw[P1 hi,Yk,Yk,X0 hy]
theorem Qsb{a b:List LV}{i k:Nat}{x y:LV}(hx:a[i]?=some x)(hy:b[k]?=some y)(h:x.1<y.1):QS (a.drop i) (b.drop k)=x::QS (a.drop (i+1)) (b.drop k):=by rw[X0 hx,X0 hy,QS,Cf h]
theorem Qsc{a b:List LV}{i k:Nat}{x y:LV}(hx:a[i]?=some x)(hy:b[k]?=some y)(h:y.1<x.1):QS (a.drop i) (b.drop k)=y::QS (a.drop i) (b.drop (k+1)):=by rw[X0 hx,X0 hy,QS,Ca (by omega),Cf h]
theorem Qsd{a b:List LV}{i k:Nat}{x y:LV}(hx:a[i]?=some x)(hy:b[k]?=some y)(h:x.1=y.1):QS (a.drop i) (b.drop k)=(x.1,max x.2 y.2)::QS (a.drop (i+1)) (b.drop (k+1)):=by rw[X0 hx,X0 hy,QS,Ca (by omega),Ca (by omega)]
theorem Qo7{a b:List LV}{i k:Nat}(hi:a.length<=i)(hk:b.length<=k):QS (a.drop i) (b.drop k)=[]:=by rw[P1 hi,P1 hk,Yk]
def ZW(A B:Lvl):Lvl:=if QS A.vs B.vs≠[]/\max A.c B.c<=JZ 0 (QS A.vs B.vs)then⟨0,QS A.vs B.vs⟩else⟨max A.c B.c,QS A.vs B.vs⟩
theorem Qp9{A B:Lvl}{m:List LV}(hm:m=QS A.vs B.vs)(h0:0<m.length)(h:max A.c B.c<=JZ 0 m):ZW A B=⟨0,m⟩:=by subst hm;unfold ZW;rw[Cf ⟨λe=>by rw[e]at h0;simp at h0,h⟩]
theorem Qfb{A B:Lvl}{m:List LV}(hm:m=QS A.vs B.vs)(h:m.length=0\/JZ 0 m<max A.c B.c):ZW A B=⟨max A.c B.c,m⟩:=by subst hm;unfold ZW;rw[Ca];rintro⟨h1,h2⟩;rcases h with h|h;exact h1 (Cz h);omega
def WF(l:List LV):Prop:=l.Pairwise (λa b=>a.1<b.1)/\∀x∈l,-65536<=x.1/\x.1<=7
theorem Qrm:∀(l:List LV)(lo:Int),l.Pairwise (λa b=>a.1<b.1)->(∀x∈l,lo<=x.1/\x.1<=7)->lo<=8->(l.length:Int)<=8-lo|[],lo,_,_,h=>by simp;omega|a::r,lo,hp,hb,h=>by have ha:=hb a Cj;have:=Qrm r (a.1+1) (CM.1 hp).2 (λx hx=>⟨by have:=(CM.1 hp).1 x hx;omega,(hb x (Ck _ hx)).2⟩) (by omega);simp only[C1];omega
theorem WF.len{l:List LV}(h:WF l):l.length<=100000:=by have:=Qrm l (-65536) h.1 h.2 (by omega);omega
theorem Q14:WF []:=⟨List.Pairwise.nil,λx hx=>by cases hx⟩
theorem J0u{x:LV}(h:-65536<=x.1/\x.1<=7):WF [x]:=⟨List.pairwise_singleton _ _,λy hy=>by simp at hy;subst hy;exact h⟩
theorem Ga:∀(a b:List LV)(z:LV),z∈QS a b->(∃x∈a,z.1=x.1)\/(∃y∈b,z.1=y.1)|[],b,z,h=>by rw[Yk]at h;exact .inr ⟨z,h,rfl⟩|x::a,[],z,h=>by rw[YD]at h;exact .inl ⟨z,h,rfl⟩|x::a,y::b,z,h=>by rw[QS]at h;split at h;rcases Cs.1 h with rfl|h;exact .inl ⟨z,Cj,rfl⟩;rcases Ga a (y::b) z h with⟨w,hw,e⟩|hr;exact .inl ⟨w,Ck _ hw,e⟩;exact .inr hr;split at h;rcases Cs.1 h with rfl|h;exact .inr ⟨z,Cj,rfl⟩;rcases Ga (x::a) b z h with hr|⟨w,hw,e⟩;exact .inl hr;exact .inr ⟨w,Ck _ hw,e⟩;rcases Cs.1 h with rfl|h;exact .inl ⟨x,Cj,rfl⟩;rcases Ga a b z h with⟨w,hw,e⟩|⟨w,hw,e⟩;exact .inl ⟨w,Ck _ hw,e⟩;exact .inr ⟨w,Ck _ hw,e⟩
termination_by a b=>a.length+b.length
theorem Kw:∀(a b:List LV),WF a->WF b->WF (QS a b)|[],b,_,hb=>by rw[Yk];exact hb|x::a,[],ha,_=>by rw[YD];exact ha|x::a,y::b,ha,hb=>by have ha':WF a:=⟨(CM.1 ha.1).2,λz hz=>ha.2 z (Ck _ hz)⟩;have hb':WF b:=⟨(CM.1 hb.1).2,λz hz=>hb.2 z (Ck _ hz)⟩;have xa:=(CM.1 ha.1).1;have yb:=(CM.1 hb.1).1;rw[QS];split;rename_i h1;have ih:=Kw a (y::b) ha' hb;refine⟨CM.2 ⟨λz hz=>?_,ih.1⟩,λz hz=>?_⟩;rcases Ga _ _ _ hz with⟨w,hw,e⟩|⟨w,hw,e⟩;have:=xa w hw;omega;rcases Cs.1 hw with rfl|hw;omega;have:=yb w hw;omega;rcases Cs.1 hz with rfl|hz;exact ha.2 _ Cj;exact ih.2 z hz;split;rename_i h1 h2;have ih:=Kw (x::a) b ha hb';refine⟨CM.2 ⟨λz hz=>?_,ih.1⟩,λz hz=>?_⟩;rcases Ga _ _ _ hz with⟨w,hw,e⟩|⟨w,hw,e⟩;rcases Cs.1 hw with rfl|hw;omega;have:=xa w hw;omega;have:=yb w hw;omega;rcases Cs.1 hz with rfl|hz;exact hb.2 _ Cj;exact ih.2 z hz;rename_i h1 h2;have ih:=Kw a b ha' hb';refine⟨CM.2 ⟨λz hz=>?_,ih.1⟩,λz hz=>?_⟩;rcases Ga _ _ _ hz with⟨w,hw,e⟩|⟨w,hw,e⟩;have:=xa w hw;dsimp only;omega;have:=yb w hw;dsimp only;omega;rcases Cs.1 hz with rfl|hz;exact ha.2 x Cj;exact ih.2 z hz
termination_by a b=>a.length+b.length
theorem Qtn(A B:Lvl):(ZW A B).vs=QS A.vs B.vs:=by unfold ZW;split <;> rfl
theorem Qvr{A B:Lvl}(ha:WF A.vs)(hb:WF B.vs):WF (ZW A B).vs:=by rw[Qtn];exact Kw _ _ ha hb
end
section
open Go.RowKit
def Jbg(x:LV):List C:=[.v (.int .i64 x.1),.v (.int .i64 x.2)]
def Jaw(l:List LV):C:=.sl 2 (l.map Jbg)
def J7t(L:Lvl):List C:=[.v (.int .i64 L.c),Jaw L.vs]
def J9y(B:Bnd):List C:=[.v (.int .i64 B.lo.c),Jaw B.lo.vs,.v (.int .i64 B.hi.c),Jaw B.hi.vs]
def J81(n:Int):List C:=[.v (.int .i64 n)]
end
section
open Go.RowKit
instance:Enc LV:=⟨2,Jbg,λl=>l.map Jbg,rfl,λa b=>Ct,λ_=>rfl⟩
instance:Enc Lvl:=⟨2,J7t,λl=>l.map J7t,rfl,λa b=>Ct,λ_=>rfl⟩
instance:Enc Bnd:=⟨4,J9y,λl=>l.map J9y,rfl,λa b=>Ct,λ_=>rfl⟩
instance:Enc Int:=⟨1,J81,λl=>l.map J81,rfl,λa b=>Ct,λ_=>rfl⟩
def J70(s:ByteArray):List C:=[.v (.string s)]
instance:Enc ByteArray:=⟨1,J70,λl=>l.map J70,rfl,λa b=>Ct,λ_=>rfl⟩
def J0o(b:Bool):List C:=[.v (.bool b)]
instance:Enc Bool:=⟨1,J0o,λl=>l.map J0o,rfl,λa b=>Ct,λ_=>rfl⟩
def Jcm{α:Type}[Enc α](l:List α):List C:=[.sl (Enc.sz α) (Enc.encL l)]
instance{α:Type}[Enc α]:Enc (List α):=⟨1,Jcm,λl=>l.map Jcm,rfl,λa b=>Ct,λ_=>rfl⟩
structure Edg where
 fr:Int
 to:Int
 by_:Int
def J9u(e:Edg):List C:=[.v (.int .i64 e.fr),.v (.int .i64 e.to),.v (.int .i64 e.by_)]
instance:Enc Edg:=⟨3,J9u,λl=>l.map J9u,rfl,λa b=>Ct,λ_=>rfl⟩
end
section
open Go.RowKit
section
variable{E:Env}{ro:Option Nat}{n:Nat}{Q:Exit->Act->World->Prop}{st:St}{c:Code}
theorem Qgb(h:E.V0.nx<=st.nx->XC E ro n Q c st):XC E ro n Q c st:=λV a w hr=>h (by rw[<-hr.nx];exact hr.h.le0.nx) V a w hr
theorem Qv8{st':St}{e:Exit}(hQ:XQ E Q e st')(hl:StLe E st st'):XQ E Q e st:=X5 hl hQ
theorem Qnl{st':St}{e:Exit}{rn:Option Nat}(h:ExecOK E.P rn c st e st')(hro:Q0x E rn ro)(k:XQ E Q e st'):XC E ro n Q c st:=h E ro n Q rfl hro k
end
theorem GF{E:Env}{st:St}{dd:Option Tmp}{ty:TypeId}{pos:String}{af:Array Edge}{g:Option (Nat×Bool)}{x:Operand}{f:FuncId}{caps:List (Nat×Nat)}{ars:Array Operand}{args args':List AV}{ats:Array TypeId}{res:TV}{m':Mem}{hp0:List (Nat×HB)}{tk0:List (Nat×Option Tok)}{nx0:Nat}(hx:ev st.tm x=some (.v (.one (.fn f caps))))(ha:Z7 st.tm ars.toList=some args)(he:args++K9 caps=args')(hc:CallM E.P f args' ⟨hp0,tk0,nx0⟩ res m')(hn0:st.nx=nx0)(hh:hpLe st.hp hp0)(ht:tkLe st.tk tk0):OpOK E ⟨dd,.call {callee:=.value x,args:=ars,argTypes:=ats},ty,pos,af,g⟩ st res m':=by subst hn0;subst he;intro V a w hr;have hr':Rel E V {st with hp:=hp0,tk:=tk0} a w:=⟨hr.h.forgetLe hh ht,hr.nx,hr.nt,hr.df,hr.tm⟩;exact Qan (st:={st with hp:=hp0,tk:=tk0}) hx ha hc V a w hr'
theorem Q3r{P:Program}{rn:Option Nat}{c:Code}{st st':St}{e:Exit}(h:∀(w0:World)(M:Nat->Prop)(V0:Vu)(ro:Option Nat)(n:Nat)(Q:Exit->Act->World->Prop),V0.nx<=st.nx->Q0x ⟨P,w0,M,V0⟩ rn ro->XQ ⟨P,w0,M,V0⟩ Q e st'->XC ⟨P,w0,M,V0⟩ ro n Q c st):ExecOK P rn c st e st':=by rintro⟨P',w0,M,V0⟩ ro n Q hP hro hQ;dsimp only at hP;subst hP;exact Qgb (λhv=>h w0 M V0 ro n Q hv hro hQ)
theorem X8{P:Program}{rn:Option Nat}{c:Code}{st st1 st':St}{e:Exit}(h:ExecOK P rn c st1 e st')(hl:∀E:Env,E.V0.nx<=st.nx->StLe E st st1):ExecOK P rn c st e st':=by intro E ro n Q hP hro hQ;exact Qgb (λhv=>Qnk (hl E hv) (h E ro n Q hP hro hQ))
def cA:Code->Code|.seq a _=>a|.cond _ a _=>a|.block _ a=>a|.loop a=>a|.rangeFunc _ _ a _=>a|c=>c
def cB:Code->Code|.seq _ b=>b|.cond _ _ b=>b|.rangeFunc _ _ _ b=>b|c=>c
def J0p(f:Func):Code:=f.body.getD .skip
theorem J9{a b:Bool}(h:cond a b false=true):a=true:=by cases a <;> simp_all
theorem J5{a b:Bool}(h:cond a b false=true):b=true:=by cases a <;> simp_all
section
variable{E:Env}{st:St}{d:Option Tmp}{ty:TypeId}{pos:String}{af:Array Edge}{g:Option (Nat×Bool)}
theorem Qvh{s t:TypeId}{x:Operand}{k k0 k':IntKind}{m:Int}(hs:Q8h E.P s=some k0)(ht:Q8h E.P t=some k')(hx:ev st.tm x=some (Gh (.int k m))):RO E ⟨d,.convert s t x,ty,pos,af,g⟩ st (Gh (.int k' (k'.wrap m))):=by refine Qk6 ht ?_ hx;unfold Q8h at hs;split at hs;rename_i hu;exact⟨_,hu⟩;cases hs
theorem Qzp{t t':TypeId}{x y:Operand}{k:IntKind}{a b:Int}(hx:ev st.tm x=some (Gh (.int k a)))(hy:ev st.tm y=some (Gh (.int k b)))(hb:(!(b==0))=true):RO E ⟨d,.binOp .rem t x y t',ty,pos,af,g⟩ st (Gh (.int k (Int.tmod a b))):=by
 refine Q5 hx hy ?_;have h0:b≠0:=by simpa using hb
 unfold Q6b;simp[h0]
end
end
section
section
open Go.RowKit
abbrev QL:=List (Int×Int×Nat)×Nat
def JW(l:List (Int×Int×Nat)):List (Value×AV×Nat):=l.map λe=>(.int .i64 e.1,.one (.d (.v (.int .i64 e.2.1))),e.2.2)
def YT(k:Int):List (Int×Int×Nat)->Nat->Option (Nat×Int)|[],_=>none|e::l,i=>cond (k==e.1) (some (i,e.2.1)) (YT k l (i+1))
def KT(M:QL)(k:Int):Option Int:=(YT k M.1 0).map (·.2)
def Zg(M:QL)(k:Int):Int:=(KT M k).getD 0
def Q0g(M:QL)(k:Int):Bool:=(KT M k).isSome
def U9(M:QL)(k v:Int):QL:=match YT k M.1 0 with|some (j,_)=>(M.1.modify j λe=>(k,v,e.2.2),M.2)|none=>(M.1++[(k,v,M.2)],M.2+1)
def imNil:QL:=([],0)
theorem Qhq{m:Nat}{l:List (Int×Int×Nat)}:Qbg m (JW l)=True:=by refine eq_true λe he=>?_;obtain⟨x,-,rfl⟩:=Cx.1 he;trivial
theorem Q0j(k:Int):∀(l:List (Int×Int×Nat))(i:Nat),Q6m (.int .i64 k) (JW l) i=some ((YT k l i).map λp=>(p.1,.one (.d (.v (.int .i64 p.2)))))|[],i=>rfl|e::l,i=>by have ih:=Q0j k l (i+1);simp only[JW]at ih;simp only[JW,CJ,Q6m,U5,decide_true,C5,YT];cases h:k==e.1 with|true=>rfl|false=>simp only[C6];exact ih
theorem Qiz(l:List (Int×Int×Nat))(j:Nat)(k v:Int):JW (l.modify j λe=>(k,v,e.2.2))=(JW l).modify j λe=>(.int .i64 k,.one (.d (.v (.int .i64 v))),e.2.2):=by unfold JW;apply Sm;intro i;rw[Cn,Sr,Sr,Cn];cases l[i]? with|none=>by_cases h:j=i <;> simp[h]|some e=>by_cases h:j=i <;> simp[h]
section
variable{E:Env}{st:St}{dd:Option Tmp}{ty:TypeId}{pos:String}{af:Array Edge}{g:Option (Nat×Bool)}
theorem Qk3{t:TypeId}{o1 o2:Operand}{i:Nat}{M:QL}{k:Int}(ht:DS E.P t=some (true,.one (.d (.v (.int .i64 0)))))(h1:ev st.tm o1=some (.v (.one (.mp i))))(h2:ev st.tm o2=some (TI k))(hi:lk st.hp i=some (.mp (JW M.1) M.2)):RO E ⟨dd,.lookup t o1 o2 true,ty,pos,af,g⟩ st (.tup [.one (.d (.v (.int .i64 (Zg M k)))),.one (.d (.v (.bool (Q0g M k))))]):=by have hf:=Q0j k M.1 0;unfold Zg Q0g KT;cases h:YT k M.1 0 with|none=>rw[h]at hf;exact UN (E:=E) (dd:=dd) (ty:=ty) (pos:=pos) (af:=af) (g:=g) ht h1 h2 rfl hi hf true|some p=>rw[h]at hf;exact UN (E:=E) (dd:=dd) (ty:=ty) (pos:=pos) (af:=af) (g:=g) ht h1 h2 rfl hi hf true
theorem Qk4{t:TypeId}{o1 o2:Operand}{i:Nat}{M:QL}{k:Int}(ht:DS E.P t=some (true,.one (.d (.v (.int .i64 0)))))(h1:ev st.tm o1=some (.v (.one (.mp i))))(h2:ev st.tm o2=some (TI k))(hi:lk st.hp i=some (.mp (JW M.1) M.2)):RO E ⟨dd,.lookup t o1 o2 false,ty,pos,af,g⟩ st (TI (Zg M k)):=by have hf:=Q0j k M.1 0;unfold Zg KT;cases h:YT k M.1 0 with|none=>rw[h]at hf;exact UN (E:=E) (dd:=dd) (ty:=ty) (pos:=pos) (af:=af) (g:=g) ht h1 h2 rfl hi hf false|some p=>rw[h]at hf;exact UN (E:=E) (dd:=dd) (ty:=ty) (pos:=pos) (af:=af) (g:=g) ht h1 h2 rfl hi hf false
theorem Qd6{t:TypeId}{o1 o2 o3:Operand}{i:Nat}{M:QL}{k v:Int}(ht:DS E.P t=some (true,.one (.d (.v (.int .i64 0)))))(h1:ev st.tm o1=some (.v (.one (.mp i))))(h2:ev st.tm o2=some (TI k))(h3:ev st.tm o3=some (TI v))(hi:lk st.hp i=some (.mp (JW M.1) M.2))(hdd:dd=none):OpOK E ⟨dd,.mapUpdate t o1 o2 o3,ty,pos,af,g⟩ st (.tup []) ⟨(i,.mp (JW (U9 M k v).1) (U9 M k v).2)::QT i st.hp,st.tk,st.nx⟩:=by have hf:=Q0j k M.1 0;unfold U9;cases h:YT k M.1 0 with|none=>rw[h]at hf;(have e:JW (M.1++[(k,v,M.2)])=JW M.1++[(.int .i64 k,.one (.d (.v (.int .i64 v))),M.2)]:=by simp[JW]);dsimp only;rw[e];exact Uo (E:=E) (dd:=dd) (ty:=ty) (pos:=pos) (af:=af) (g:=g) ht h1 h2 h3 rfl hi hf hdd|some p=>rw[h]at hf;dsimp only;rw[Qiz];exact Uo (E:=E) (dd:=dd) (ty:=ty) (pos:=pos) (af:=af) (g:=g) ht h1 h2 h3 rfl hi hf hdd
theorem Q8c{t:TypeId}:OpOK E ⟨dd,.makeMap t none,ty,pos,af,g⟩ st (.v (.one (.mp st.nx))) ⟨(st.nx,.mp (JW imNil.1) imNil.2)::st.hp,st.tk,st.nx+1⟩:=Qd7
end
end
section
open Go.RowKit
def Dk{α:Type}[BEq α]:List α->Bool|[]=>true|x::l=>cond (l.any λy=>x==y) false (Dk l)
theorem Q1g{α:Type}[BEq α][LawfulBEq α]:∀{l:List α},Dk l=true->l.Nodup|[],_=>Sl|x::l,h=>by simp only[Dk]at h;cases h1:l.any λy=>x==y with|true=>rw[h1]at h;cases h|false=>rw[h1]at h;refine CX.2 ⟨λhx=>?_,Q1g h⟩;have:(l.any λy=>x==y)=true:=CU.2 ⟨x,hx,by simp⟩;rw[h1]at this;cases this
def Qiy(x:Int):List Int->List Int|[]=>[x]|y::l=>cond (decide (x<=y)) (x::y::l) (y::Qiy x l)
def Qkr(l:List Int):List Int:=l.foldr Qiy []
theorem Q20(x:Int):∀l:List Int,(Qiy x l).Perm (x::l)|[]=>.refl _|y::l=>by simp only[Qiy];cases decide (x<=y)with|true=>exact .refl _|false=>exact((Q20 x l).cons y).trans (.swap x y l)
theorem Kf:∀l:List Int,(Qkr l).Perm l|[]=>.refl _|x::l=>(Q20 x _).trans ((Kf l).cons x)
theorem Q39(x:Int):∀l:List Int,l.Pairwise (·<=·)->(Qiy x l).Pairwise (·<=·)|[],_=>by simp[Qiy]|y::l,h=>by obtain⟨h1,h2⟩:=CM.1 h;simp only[Qiy];cases hd:decide (x<=y)with|true=>(have hxy:x<=y:=CF hd;refine CM.2 ⟨λz hz=>?_,h⟩;rcases Cs.1 hz with rfl|hz;exact hxy;exact Int.le_trans hxy (h1 z hz))|false=>have hxy:¬x<=y:=S4 hd;refine CM.2 ⟨λz hz=>?_,Q39 x l h2⟩;rcases Cs.1 ((Q20 x l).mem_iff.1 hz)with rfl|hz;omega;exact h1 z hz
theorem XU:∀l:List Int,(Qkr l).Pairwise (·<=·)|[]=>.nil|x::l=>Q39 x _ (XU l)
theorem Q3y{l l':List Int}(h:l.Perm l'):(l.mergeSort λx y=>decide (x<=y))=Qkr l':=by
 have tr:∀a b c:Int,(λx y:Int=>decide (x<=y)) a b=true->(λx y:Int=>decide (x<=y)) b c=true->(λx y:Int=>decide (x<=y)) a c=true:=λa b c h1 h2=>by simp only[CZ]at *;exact Int.le_trans h1 h2
 have to:∀a b:Int,((λx y:Int=>decide (x<=y)) a b||(λx y:Int=>decide (x<=y)) b a)=true:=λa b=>by simp only[PJ,CZ];exact Int.le_total a b
 refine List.Perm.eq_of_pairwise (le:=λa b:Int=>a<=b) (λa b _ _ h1 h2=>Int.le_antisymm h1 h2) ?_ (XU l') (((List.mergeSort_perm l _).trans h).trans (Kf l').symm);exact(List.pairwise_mergeSort tr to l).imp (λh=>by simpa using h)
def Y1(M:QL):List Int:=Qkr (M.1.map λe=>e.1)
def Q86(M:QL):Bool:=cond (Nat.ble M.1.length 1000000) (cond (M.1.all λe=>cond (Nat.ble (e.2.2+1) M.2) (cond (decide (-9223372036854775808<=e.1)) (decide (e.1<=9223372036854775807)) false) false) (cond (Dk (M.1.map λe=>e.2.2)) (Dk (M.1.map λe=>e.1)) false) false) false
end
end
section
open Go.RowKit
abbrev dI(x:Int):CA:=.d (.v (.int .i64 x))
abbrev dB(b:Bool):CA:=.d (.v (.bool b))
abbrev dS{α:Type}[Enc α](l:List α):CA:=.d (.sl (Enc.sz α) (Enc.encL l))
abbrev dA{α:Type}[Enc α](n:Nat)(l:List α):CA:=.app n (Enc.sz α) (Enc.encL l)
abbrev dN:CA:=.d (.v (.slice none 0 0))
abbrev cE{α:Type}[Enc α](x:α):List CA:=(Enc.enc x).map CA.d
def Q6l{α:Type}[Enc α](l:List α):List CA:=(Enc.encL l).flatten.map CA.d
class EncLen(α:Type)[Enc α]:Prop where
 len:∀x:α,(Enc.enc x).length=Enc.sz α
 pos:0<Enc.sz α
instance:EncLen Lvl:=⟨λ_=>rfl,by decide⟩
instance:EncLen LV:=⟨λ_=>rfl,by decide⟩
instance:EncLen Int:=⟨λ_=>rfl,by decide⟩
instance:EncLen Bnd:=⟨λ_=>rfl,by decide⟩
section
variable{α:Type}[Enc α][EncLen α]
theorem Qa0(l:List α):∀e∈Enc.encL l,e.length=Enc.sz α:=by intro e he;rw[Enc.map]at he;obtain⟨x,-,rfl⟩:=Cx.1 he;exact EncLen.len x
theorem Qpd(l:List α):(Q6l l).length=l.length*Enc.sz α:=by unfold Q6l;rw[Co,Yx _ (Qa0 l),Enc.len]
theorem Qpe{l:List α}{k j:Nat}{x:α}(h:l[k]?=some x)(hj:j<Enc.sz α):(Q6l l)[k*Enc.sz α+j]?=((Enc.enc x)[j]?).map CA.d:=by unfold Q6l;rw[Cn,Q0h _ (Qa0 l) k j _ (Enc.get h) hj]
end
theorem Qdy:∀(ys ars xs:List CA)(off:Nat),setL (ars++xs) (ars.length+off) ys=ars++setL xs off ys|[],ars,xs,off=>rfl|y::ys,ars,xs,off=>by simp only[setL];rw[List.set_append_right _ _ (by omega),S2,PB,Qdy ys]
theorem Q5e:∀(ys ars xs:List CA),ars.length=ys.length->setL (ars++xs) 0 ys=ys++xs|[],[],xs,_=>rfl|y::ys,a::ars,xs,h=>by have h2:=Qdy ys [y] (ars++xs) 0;simp only[List.length_singleton]at h2;simp only[setL,PN,List.set_cons_zero];rw[show(y::(ars++xs))=[y]++(ars++xs)from rfl,show 0+1=1+0 from rfl,h2,Q5e ys ars xs (by simpa using h)];rfl
section
variable{E:Env}{st:St}{dd d:Option Tmp}{ty:TypeId}{pos:String}{af:Array Edge}{g:Option (Nat×Bool)}
theorem Qd3{α:Type}[Enc α]{t e:Nat}{o lo:Operand}{y:CA}{l:List α}{m:Int}(ht:Ja E.P t=some (e,Enc.sz α))(hx:ev st.tm o=some (.v (.one y)))(hs:SlE y l)(hlo:ev st.tm lo=some (TI m))(hm:(cond (decide (0<=m)) (Nat.ble m.toNat l.length) false)=true):RO E ⟨d,.slice t o (some lo) none none,ty,pos,af,g⟩ st (.v (.one (.d (.sl (Enc.sz α) (Enc.encL (l.drop m.toNat)))))):=by have h0:0<=m:=CF (J9 hm);have hb:=J5 hm;obtain⟨k,rfl⟩:∃k:Nat,m=(k:Int):=⟨m.toNat,(Pl h0).symm⟩;simp only[Cu]at hb⊢;have:=Qal (E:=E) (st:=st) (d:=d) (ty:=ty) (pos:=pos) (af:=af) (g:=g) (a:=k) (b:=l.length) ht hx hs (lo:=some lo) (hi:=none) (mx:=none) (by have:ev st.tm lo=some (.v (.one (.d (.v (.int .i64 (.ofNat k)))))):=hlo;simp only[Zs,Qj3,Qf4,this,hb,C5]);rw[PM (by rw[Cq];exact Cl _)]at this;exact this
theorem Qjz{α:Type}[Enc α]{t e:Nat}{o hi:Operand}{y:CA}{l:List α}{m:Int}(ht:Ja E.P t=some (e,Enc.sz α))(hx:ev st.tm o=some (.v (.one y)))(hs:SlE y l)(hhi:ev st.tm hi=some (TI m))(hm:(cond (decide (0<=m)) (Nat.ble m.toNat l.length) false)=true):RO E ⟨d,.slice t o none (some hi) none,ty,pos,af,g⟩ st (.v (.one (.d (.sl (Enc.sz α) (Enc.encL (l.take m.toNat)))))):=by have h0:0<=m:=CF (J9 hm);have hb:=J5 hm;obtain⟨k,rfl⟩:∃k:Nat,m=(k:Int):=⟨m.toNat,(Pl h0).symm⟩;simp only[Cu]at hb⊢;have:=Qal (E:=E) (st:=st) (d:=d) (ty:=ty) (pos:=pos) (af:=af) (g:=g) (a:=0) (b:=k) ht hx hs (lo:=none) (hi:=some hi) (mx:=none) (by have:ev st.tm hi=some (.v (.one (.d (.v (.int .i64 (.ofNat k)))))):=hhi;simp only[Zs,Qj3,Qf4,this,hb,C5]);rw[Pp,Sx]at this;exact this
end
inductive ORen(b:Nat):List AV->List AV->Prop
 |nil:ORen b [] []
 |osl {off n c:Nat} {xs ys:List AV} (t:ORen b xs ys):ORen b (.one (.osl b off n c)::xs) (.one (.osl 0 off n c)::ys)
 |one {x:CA} {c:C} {xs ys:List AV} (h:CSub x c) (t:ORen b xs ys):ORen b (.one x::xs) (.one (.d c)::ys)
 |agg {x y:List CA} {xs ys:List AV} (h:LSub x y) (t:ORen b xs ys):ORen b (.agg x::xs) (.agg y::ys)
theorem Je1{tm:List (Nat×TV)}:tmLe tm []:=trivial
theorem hZ{hp:List (Nat×HB)}:hpLe hp []:=trivial
theorem hR{hp r:List (Nat×HB)}{t:Nat}{y:HB}(h:lk hp t=some y)(l:hpLe hp r):hpLe hp ((t,y)::r):=⟨⟨y,h,.refl y⟩,l⟩
theorem hC{hp r:List (Nat×HB)}{t:Nat}{T:TypeId}{xs ys:List CA}(h:lk hp t=some (.cells T xs))(k:CLs xs ys)(l:hpLe hp r):hpLe hp ((t,.cells T ys)::r):=⟨⟨_,h,.cells k⟩,l⟩
theorem kZ{tk:List (Nat×Option Tok)}:tkLe tk []:=trivial
theorem bZ{m:Nat}:hpBelow m []:=trivial
theorem bB{m i:Nat}{x:HB}{r:List (Nat×HB)}(h:Nat.blt i m=true)(k:x.belowB m=true)(l:hpBelow m r):hpBelow m ((i,x)::r):=⟨Uh h,Q10 k,l⟩
theorem bM{m i c:Nat}{xs:List (Int×Int×Nat)}{r:List (Nat×HB)}(h:Nat.blt i m=true)(l:hpBelow m r):hpBelow m ((i,.mp (JW xs) c)::r):=⟨Uh h,(by show Qbg m (JW xs);rw[Qhq];trivial),l⟩
theorem Jj{E:Env}{st st':St}(h1:tmLe st.tm st'.tm)(h2:hpLe st.hp st'.hp)(h3:tkLe st.tk st'.tk)(h4:Nat.ble st'.nx st.nx=true)(h5:E.V0.nx<=st'.nx)(h6:st.nt=st'.nt)(h7:st.df=st'.df)(h8:(st'.tm.all λp=>p.2.belowB st'.nx)=true)(h9:hpBelow st'.nx st'.hp)(h10:(st'.tk.all λp=>Nat.blt p.1 st'.nx)=true)(h11:st'.df.tail.all (λi=>Nat.blt i st'.nx)=true):StLe E st st':=by
 refine⟨h1,h2,h3,lb h4,h5,h6,h7,?_,h9,?_,λi hi=>Uh (Ch.1 h11 i hi)⟩;have:∀l:List (Nat×TV),(l.all λp=>p.2.belowB st'.nx)=true->tmBelow st'.nx l:=by intro l;induction l with|nil=>intro _;trivial|cons p l ih=>intro h;simp only[List.all_cons,CD]at h;exact⟨Q0w h.1,ih h.2⟩
 exact this _ h8;have:∀l:List (Nat×Option Tok),(l.all λp=>Nat.blt p.1 st'.nx)=true->tkBelow st'.nx l:=by intro l;induction l with|nil=>intro _;trivial|cons p l ih=>intro h;simp only[List.all_cons,CD]at h;exact⟨Uh h.1,ih h.2⟩
 exact this _ h10
theorem J6x{α β γ:Type}{y:α⊕β}{f:α->Option γ}{g:β->Option γ}{r:γ}{G:Prop}{C:α⊕β->Prop}(hc:C y)(h:Sum.elim f g y=some r)(k1:∀a,C (.inl a)->f a=some r->G)(k2:∀b,C (.inr b)->g b=some r->G):G:=by cases y with|inl a=>exact k1 a hc h|inr b=>exact k2 b hc h
theorem QF{P:Program}{f:FuncId}{fn:Func}{c:Code}{args:List AV}{m:Mem}(stf:St){xs:List AV}(hf:P.funcs[f]?=some fn)(hb:fn.body=some c)(hen:Qd P f)(hnt:args.length<=fn.ntmps)(hdf:stf.df=[])(hres:RAs P stf fn.results.toList xs)(h:∀(w0:World)(M:Nat->Prop)(V0:Vu)(Q:Exit->Act->World->Prop),V0.nx<=m.nx -> (∀(e:Exit)(st':St)(hp':List (Nat×HB)),(e=.normal\/e=.ret)->Xl st'.df st'.hp=some hp'->StLe ⟨P,w0,M,V0⟩ ⟨st'.tm,hp',st'.tk,st'.nx,st'.nt,[]⟩ stf->XQ ⟨P,w0,M,V0⟩ Q e st')->XC ⟨P,w0,M,V0⟩ none 0 Q c ⟨J4 0 args,m.hp,m.tk,m.nx,fn.ntmps,[]⟩)(hP0:P=prog:=by rfl):CallM P f args m (Qj xs) ⟨stf.hp,stf.tk,stf.nx⟩:=by
 refine⟨hen,λE V w vs hP H hn hargs=>?_⟩;refine(callsIn_wide (n:=0)).1 (K3 (F:=Fence.wide) (Q2p hP0 hf) hf hb trivial ?_);have hR0:Rel (E.at V w) V ⟨J4 0 args,m.hp,m.tk,m.nx,fn.ntmps,[]⟩ {tmps:=vs++Array.replicate (fn.ntmps-vs.size) undef,defers:=[]} w:=by refine⟨H.rebase,hn,by simp[hargs.1];omega,dfRel.nil,λt x hx=>?_⟩;obtain⟨k,y,h1,h2,rfl⟩:=Xw args 0 t x hx;obtain⟨u,hu,hy⟩:=hargs.2 k y h2;have hk:k<vs.size:=(CP.1 hu).1;(have:(vs++Array.replicate (fn.ntmps-vs.size) undef).getD t undef=u:=by rw[show t=k by omega,P8,P9 hk,hu];rfl);rw[this];exact hy
 have key:∀(st':St)(hp':List (Nat×HB))(V1:Vu)(a1:Act)(w1:World),Xl st'.df st'.hp=some hp'->StLe (E.at V w) ⟨st'.tm,hp',st'.tk,st'.nx,st'.nt,[]⟩ stf->Rel (E.at V w) V1 st' a1 w1 -> LeavesInM Fence.wide 0 P fn a1.tmps (λe w'=>∃v V',e=.returned v/\HRel E V' stf.hp stf.tk w'/\V'.nx=stf.nx/\V.Le V' w w'/\(Qj xs).rel V' w' v) a1.defers .returning w1:=by intro st' hp' V1 a1 w1 htm hle hr1;refine Q0c st'.df a1.defers st'.hp hp' w1 hr1.h hr1.df htm (λw' V1' H' hn' L'=>?_);have hr':Rel (E.at V w) V1' ⟨st'.tm,hp',st'.tk,st'.nx,st'.nt,[]⟩ {tmps:=a1.tmps,defers:=[]} w':=⟨H',hn'.trans hr1.nx,hr1.nt,dfRel.nil,λt x hx=>(hr1.tm t x hx).keep L'⟩;obtain⟨V2,hr2⟩:=hr'.less hle;obtain⟨v,h1,h2⟩:=WO (E:=E.at V w) hres hP hr2;obtain⟨H5,L5⟩:=H.back hr2.h;exact⟨v,h1,v,V2,Z,H5,hr2.nx,L5,h2⟩
 have hgo:∀E':Env,E'=E.at V w->E'.P=P->E'.V0=V->XC E' none 0 (bodyPostM Fence.wide 0 P fn (λe w'=>∃v V',e=.returned v/\HRel E V' stf.hp stf.tk w'/\V'.nx=stf.nx/\V.Le V' w w'/\(Qj xs).rel V' w' v)) c ⟨J4 0 args,m.hp,m.tk,m.nx,fn.ntmps,[]⟩:=by rintro⟨P',w0,M,V0⟩ he hP' hV';dsimp only at hP' hV';subst hP';refine h w0 M V0 _ (by rw[hV',hn];exact Cl _) ?_;rintro e st' hp' (rfl|rfl) htm hle;intro V1 a1 w1 hr1;rw[he]at hr1 hle;exact key st' hp' V1 a1 w1 htm hle hr1;intro V1 a1 w1 hr1;rw[he]at hr1 hle;exact key st' hp' V1 a1 w1 htm hle hr1
 have:=hgo (E.at V w) rfl hP rfl V _ w hR0;rw[show(E.at V w).P=P from hP]at this;exact this
theorem Q7v{P:Program}{f:FuncId}{fn:Func}{c:Code}{args:List AV}{m:Mem}{Y:Type}(y:Y)(stf:Y->St){xs:List AV}(hf:P.funcs[f]?=some fn)(hb:fn.body=some c)(hen:Qd P f)(hnt:args.length<=fn.ntmps)(hdf:∀y,(stf y).df=[])(hres:∀y,RAs P (stf y) fn.results.toList xs)(h:∀(w0:World)(M:Nat->Prop)(V0:Vu)(Q:Exit->Act->World->Prop),V0.nx<=m.nx -> (∀(e:Exit)(st':St)(hp':List (Nat×HB)),(e=.normal\/e=.ret)->Xl st'.df st'.hp=some hp'->StLe ⟨P,w0,M,V0⟩ ⟨st'.tm,hp',st'.tk,st'.nx,st'.nt,[]⟩ (stf y)->XQ ⟨P,w0,M,V0⟩ Q e st')->XC ⟨P,w0,M,V0⟩ none 0 Q c ⟨J4 0 args,m.hp,m.tk,m.nx,fn.ntmps,[]⟩)(hP0:P=prog:=by rfl):CallM P f args m (Qj xs) ⟨(stf y).hp,(stf y).tk,(stf y).nx⟩:=QF (stf y) hf hb hen hnt (hdf y) (hres y) h hP0
end
section
open Go.RowKit
def J2p{β:Type}(l:List (Nat×β)):List (Nat×β)->List (Option β)|[]=>[]|(t,_)::r=>lk l t::J2p l r
def Q5a{β:Type}:List (Nat×β)->List (Option β)|[]=>[]|(_,y)::r=>some y::Q5a r
theorem Je5{tm:List (Nat×TV)}:∀{r:List (Nat×TV)},J2p tm r=Q5a r->tmLe tm r|[],_=>trivial|(_,_)::_,h=>⟨⟨_,(PE h).1,.refl _⟩,Je5 (PE h).2⟩
theorem hA{hp:List (Nat×HB)}:∀{r:List (Nat×HB)},J2p hp r=Q5a r->hpLe hp r|[],_=>trivial|(_,_)::_,h=>⟨⟨_,(PE h).1,.refl _⟩,hA (PE h).2⟩
theorem kA{tk:List (Nat×Option Tok)}:∀{r:List (Nat×Option Tok)},J2p tk r=Q5a r->tkLe tk r|[],_=>trivial|(_,_)::_,h=>⟨λT e=>by rw[(PE h).1,e],kA (PE h).2⟩
def J5m(m:Nat):List (Nat×HB)->Bool|[]=>true|(i,x)::r=>Nat.blt i m&&(x.belowB m&&J5m m r)
theorem bA{m:Nat}:∀{r:List (Nat×HB)},J5m m r=true->hpBelow m r|[],_=>trivial|(_,_)::_,h=>by have a:=C2.1 h;have b:=C2.1 a.2;exact⟨Uh a.1,Q10 b.1,bA b.2⟩
theorem sL{E:Env}{st st':St}(h5:E.V0.nx<=st'.nx)(h1:J2p st.tm st'.tm=Q5a st'.tm)(h2:J2p st.hp st'.hp=Q5a st'.hp)(h3:J2p st.tk st'.tk=Q5a st'.tk)(h6:(st.nt,st.df)=(st'.nt,st'.df))(h4:(Nat.ble st'.nx st.nx&&((st'.tm.all λp=>p.2.belowB st'.nx)&&(J5m st'.nx st'.hp&&((st'.tk.all λp=>Nat.blt p.1 st'.nx)&&st'.df.tail.all (λi=>Nat.blt i st'.nx)))))=true):StLe E st st':=by have a:=C2.1 h4;have b:=C2.1 a.2;have c:=C2.1 b.2;have d:=C2.1 c.2;exact Jj (Je5 h1) (hA h2) (kA h3) a.1 h5 (Prod.mk.inj h6).1 (Prod.mk.inj h6).2 b.1 (bA c.1) d.1 d.2
end
end
end Go.Proofs.YtjcfppnjamjjhaaGreatDoor
