/- Part 3 of the proof: rules, mirrors and plain laws. The statement UniverseEntailsUpto is proved here: for every list of bounds and every bound the law returns true, and what it is given reads behind the call as it did before; condition: the arguments are of bulk at most 1048576 (the second form). -/
import Derived.Test.YtkimijmiphkddaaK52
set_option maxRecDepth 100000
set_option maxHeartbeats 2000000
set_option linter.unusedSimpArgs false
set_option linter.unusedVariables false
set_option linter.unusedSectionVars false
namespace Go.Proofs.Ytkimijmiphkddaa
open Go.RowKit Go.Shelf
theorem ag_4:tyAgg Try.prog 4=some (false,1):=by kernel_rfl
theorem ag_25:tyAgg Try.prog 25=some (false,1):=by kernel_rfl
theorem ag_70:tyAgg Try.prog 70=some (true,81):=by kernel_rfl
theorem z_4:tyZero Try.prog 4=some [.bool false]:=by kernel_rfl
theorem z_25:tyZero Try.prog 25=some [.int .i64 0]:=by kernel_rfl
theorem z_31:tyZero Try.prog 31=some [.slice none 0 0]:=by kernel_rfl
theorem z_41:tyZero Try.prog 41=some [.int .i64 0,.slice none 0 0,.int .i64 0,.slice none 0 0]:=by kernel_rfl
theorem z_70:tyZero Try.prog 70=some [.int .i64 0,.int .i64 0,.int .i64 0,.int .i64 0,.int .i64 0,.int .i64 0,.int .i64 0,.int .i64 0,.int .i64 0,.int .i64 0,.int .i64 0,.int .i64 0,.int .i64 0,.int .i64 0,.int .i64 0,.int .i64 0,.int .i64 0,.int .i64 0,.int .i64 0,.int .i64 0,.int .i64 0,.int .i64 0,.int .i64 0,.int .i64 0,.int .i64 0,.int .i64 0,.int .i64 0,.int .i64 0,.int .i64 0,.int .i64 0,.int .i64 0,.int .i64 0,.int .i64 0,.int .i64 0,.int .i64 0,.int .i64 0,.int .i64 0,.int .i64 0,.int .i64 0,.int .i64 0,.int .i64 0,.int .i64 0,.int .i64 0,.int .i64 0,.int .i64 0,.int .i64 0,.int .i64 0,.int .i64 0,.int .i64 0,.int .i64 0,.int .i64 0,.int .i64 0,.int .i64 0,.int .i64 0,.int .i64 0,.int .i64 0,.int .i64 0,.int .i64 0,.int .i64 0,.int .i64 0,.int .i64 0,.int .i64 0,.int .i64 0,.int .i64 0,.int .i64 0,.int .i64 0,.int .i64 0,.int .i64 0,.int .i64 0,.int .i64 0,.int .i64 0,.int .i64 0,.int .i64 0,.int .i64 0,.int .i64 0,.int .i64 0,.int .i64 0,.int .i64 0,.int .i64 0,.int .i64 0,.int .i64 0]:=by kernel_rfl
theorem el_41:tyElem Try.prog 41=some (4,64):=by kernel_rfl
theorem en_18:Enters Try.prog 18:=enters_of Try.func18 (by kernel_rfl) rfl
theorem en_40:Enters Try.prog 40:=enters_of Try.func40 (by kernel_rfl) rfl
theorem m18_ok (a0:List Bnd) (a1:Bnd) (r:Bool×Int) (h0:m18 a0 a1=some r):Fun Try.prog 18 [.one (dS a0),.agg (cE a1)] (resOf [.one (dB r.1),.one (dI r.2)]):=by
 unfold m18 at h0
 refine Fun.of_bodyM 9 81 Try.func18 Z en_18 Z (lb Z) (fun S w=>?_)
 simp only [entry]
 refine XC.seq<|XC.region<|XL.put Z Z (lb Z) (OpOK.box Z)<|XL.put Z Z (lb Z) (OpOK.alloc z_4 Z)<|XL.put Z Z (lb Z) (OpOK.alloc z_25 Z)<|XL.nil<|XQ.seq<|XC.seq ?_
 refine XC.anyRun [1,4] [(2,0),(3,0)] mixed (by kernel_rfl) (by kernel_rfl) (by kernel_rfl) ?_
 refine RunA.rd Z Z Z (OpOK.of_ro (RO.move Z)) Z ?_
 refine guardK h0 (fun g1 h0=>?_)
 refine RunA.eff Z Z Z (OpOK.clone Z Z g1) Z<|RunA.rd Z Z Z (OpOK.of_ro (RO.loadCE (a1:Bnd) ag_41 Z Z)) Z<|RunA.rd Z Z Z (OpOK.data1E (α:=Bnd) (a1) sl_22 z_41 Z Z (lb Z) Z Z (.cons (.d _) (.cons (.d _) (.cons (.d _) (.cons (.d _) .nil)))) Z) Z ?_
 refine guardK h0 (fun g2 h0=>?_)
 refine RunA.eff Z Z Z (OpOK.appendE (α:=Bnd) sl_22 el_41 Z Z Z Z Z (.d _) g2) Z<|RunA.rd Z Z Z (OpOK.of_ro (RO.assign Z)) Z ?_
 refine RunA.nil ⟨?ex,_,_,Z,?_⟩
 case ex=>exact ⟨⟨_,rfl,_,_,rfl,rfl,rfl,.inl ⟨rfl,_,OpOK.of_ro (RO.loadCE (a1:Bnd) ag_41 rfl rfl),rfl⟩⟩,⟨_,rfl,_,_,rfl,rfl,rfl,.inl ⟨rfl,_,OpOK.data1E (α:=Bnd) (a1) sl_22 z_41 rfl rfl (lb rfl) rfl rfl (.cons (.d _) (.cons (.d _) (.cons (.d _) (.cons (.d _) .nil)))) rfl,rfl⟩⟩,trivial⟩
 refine XQ.less (st':=⟨[(0,.v (.one (dS a0))),(3,.v (.one (.ptr 0 0))),(4,.v (.one (.ptr 1 0))),(5,.v (.one (.ptr 2 0))),(6,.v (.one (dA 3 ((a0++([a1])):List Bnd))))],m18_h0 a1,[(3,some ⟨41,4,(Enc.encL ((a0++([a1])):List Bnd)).length,[]⟩)],4,81,[]⟩) (sL (Nat.zero_le _) Z Z Z Z Z)<|XQ.seq<|XC.seq<|XC.seq<|XC.region<|rM Z Z Z ?_
 refine bindK h0 (fun x3 hx3 h0=>?_)
 refine XL.put Z Z (lb Z) (OpOK.callG (hp1':=[]) (tk1':=[(3,some ⟨41,4,(Enc.encL ((a0++([a1])):List Bnd)).length,[]⟩)]) (hpF:=m18_h0 a1) (tkF:=[]) (res2:=resOf [.one (dB x3)]) (nx2:=4) [3] Z Z (m35f19_ok (a0++([a1])) x3 hx3) Z Z qZ Z Z gZ (jR Z jZ) (hA Z) kZ Z Z Z Z Z bZ Z Z Z Z)<|XL.nil<|XQ.seq ?_
 refine XC.cond (b:=x3) Z (fun c4=>?_) (fun c4=>?_)
 replace h0:=condT c4 h0
 refine XC.seq<|XC.region<|XL.eff Z Z (OpOK.store ag_4 Z Z Z Z (lb Z) Z)<|XL.eff Z Z (OpOK.store ag_25 Z Z Z Z (lb Z) Z)<|XL.nil<|XQ.seq<|XC.ret ?_
 have e:=sI h0;subst e
 exact XQ.retF (fun _ _ h=>h) Z (RAs.cell ag_4 Z Z Z (RAs.cell ag_25 Z Z Z .nil)) (.cons (.one (.d _)) (.cons (.one (.d _)) .nil))
 replace h0:=condF c4 h0
 refine XC.skip<|XQ.seq<|XC.seq<|XC.seq<|XC.region<|rM Z Z Z ?_
 refine bindK h0 (fun x5 hx5 h0=>?_)
 refine XL.put Z Z (lb Z) (OpOK.callG (hp1':=[]) (tk1':=[(3,some ⟨41,4,(Enc.encL ((a0++([a1])):List Bnd)).length,[]⟩)]) (hpF:=m18_h0 a1) (tkF:=[]) (res2:=resOf [.one (dB x5)]) (nx2:=4) [3] Z Z (m35f21_ok (a0++([a1])) x5 hx5) Z Z qZ Z Z gZ (jR Z jZ) (hA Z) kZ Z Z Z Z Z bZ Z Z Z Z)<|XL.nil<|XQ.seq ?_
 refine XC.cond (b:=x5) Z (fun c6=>?_) (fun c6=>?_)
 replace h0:=condT c6 h0
 refine XC.seq<|XC.region<|XL.eff Z Z (OpOK.store ag_4 Z Z Z Z (lb Z) Z)<|XL.eff Z Z (OpOK.store ag_25 Z Z Z Z (lb Z) Z)<|XL.nil<|XQ.seq<|XC.ret ?_
 have e:=sI h0;subst e
 exact XQ.retF (fun _ _ h=>h) Z (RAs.cell ag_4 Z Z Z (RAs.cell ag_25 Z Z Z .nil)) (.cons (.one (.d _)) (.cons (.one (.d _)) .nil))
 replace h0:=condF c6 h0
 refine XC.skip<|XQ.seq<|XC.seq<|XC.region<|XL.put Z Z (lb Z) (OpOK.allocA (l:=(List.replicate 81 (0:Int))) z_70 Z Z)<|XL.nil<|XQ.seq<|XC.seq<|XC.seq<|XC.region<|rM Z Z Z<|XL.nil<|XQ.seq<|XC.block ?_
 refine XC.joinX 0 (fun (o7:(List Int))=>⟨[(0,.v (.one (dS a0))),(3,.v (.one (.ptr 0 0))),(4,.v (.one (.ptr 1 0))),(5,.v (.one (.ptr 2 0))),(7,.v (.one (.ptr 4 0)))],[(0,.cells 41 (cE a1)),(1,.cells 4 [dB false]),(2,.cells 25 [dI 0]),(4,.cells 70 (flatE o7))],[(3,some ⟨41,4,(Enc.encL ((a0++([a1])):List Bnd)).length,[]⟩)],5,81,[]⟩) (fun (o7:(List Int))=>(Option.bind (loopN (m18_l3 a0) FUEL (0,o7)) (Sum.elim (fun (o8:(List Int))=>Option.bind (some ()) (fun (y9:Unit)=>Option.bind (Option.bind (cond (decide (0 < a1.lo.c))
     (Option.bind (guardO (Nat.beq o8.length 81)
   (guardO (Nat.beq (List.replicate 81 (0:Int)).length 81)
   (guardO (Nat.beq o8.length 81)
   (Option.bind (some ()) (fun (y26:Unit)=>Option.bind (Option.bind (cond (decide (0 < a1.hi.c))
     (Option.bind (Option.bind (m41f27 a1.hi.c a1.lo.c 1 o8) fun (x35:((List Int))) =>
   some x35) (fun (y32:(List Int))=>some y32))
     (cond ((a1.hi.vs.length:Int)==0)
     (Option.bind (Option.bind (m41f27 a1.hi.c a1.lo.c 1 o8) fun (x40:((List Int))) =>
   some x40) (fun (y37:(List Int))=>some y37))
     (some o8))) (fun (v30:(List Int))=>Option.bind (loopN (m18_l6 a1) FUEL (0,v30)) (fun (o31:(List Int))=>some o31))) (fun (y28:(List Int))=>guardO (Nat.beq y28.length 81)
   (Option.bind (m42 y28) fun (x50:Bool) =>
   cond x50
     (some (.inr ()))
     (some (.inl ()))))))))) (Sum.elim (fun (y18:Unit)=>some (.inl ())) (fun (y19:Unit)=>some (.inr ()))))
     (cond ((a1.lo.vs.length:Int)==0)
     (Option.bind (guardO (Nat.beq o8.length 81)
   (guardO (Nat.beq (List.replicate 81 (0:Int)).length 81)
   (guardO (Nat.beq o8.length 81)
   (Option.bind (some ()) (fun (y61:Unit)=>Option.bind (Option.bind (cond (decide (0 < a1.hi.c))
     (Option.bind (Option.bind (m41f27 a1.hi.c a1.lo.c 1 o8) fun (x70:((List Int))) =>
   some x70) (fun (y67:(List Int))=>some y67))
     (cond ((a1.hi.vs.length:Int)==0)
     (Option.bind (Option.bind (m41f27 a1.hi.c a1.lo.c 1 o8) fun (x75:((List Int))) =>
   some x75) (fun (y72:(List Int))=>some y72))
     (some o8))) (fun (v65:(List Int))=>Option.bind (loopN (m18_l6 a1) FUEL (0,v65)) (fun (o66:(List Int))=>some o66))) (fun (y63:(List Int))=>guardO (Nat.beq y63.length 81)
   (Option.bind (m42 y63) fun (x85:Bool) =>
   cond x85
     (some (.inr ()))
     (some (.inl ()))))))))) (Sum.elim (fun (y53:Unit)=>some (.inl ())) (fun (y54:Unit)=>some (.inr ()))))
     (some (.inl ())))) (Sum.elim (fun (v15:Unit)=>Option.bind (loopN (m18_l5 a1 o8) FUEL 0) (Sum.elim (fun (o17:Unit)=>some (.inl ())) (fun o=>some o))) (fun (v16:Unit)=>some (.inr ())))) (Sum.elim (fun (y11:Unit)=>some (true,0)) (fun (y12:Unit)=>some (false,0))))) (fun o=>some o)))=some r) ?_ ?_
 refine bindK h0 (fun o8 hl1 h0=>?_)
 refine XC.loopM (m18_l1) (fun s1=>⟨[(0,.v (.one (dS a0))),(3,.v (.one (.ptr 0 0))),(4,.v (.one (.ptr 1 0))),(5,.v (.one (.ptr 2 0))),(7,.v (.one (.ptr 4 0))),(26,.v (.one (dI s1.1)))],[(0,.cells 41 (cE a1)),(1,.cells 4 [dB false]),(2,.cells 25 [dI 0]),(4,.cells 70 (flatE s1.2))],[(3,some ⟨41,4,(Enc.encL ((a0++([a1])):List Bnd)).length,[]⟩)],5,81,[]⟩) (0,(List.replicate 81 (0:Int))) o8 (stle (tA Z) (hA Z) (kA Z) Z (Nat.zero_le _) Z Z Z (bB Z Z (bB Z Z (bB Z Z (bF Z bZ)))) Z Z) hl1 (fun s1 n1 oo1 h1 ho1=>?_)
 unfold m18_l1 at h1
 refine XC.seq<|XC.region<|rR Z Z Z (RO.binInt Z Z Z)<|XL.nil<|XQ.seq<|XC.seq ?_
 refine XC.cond (b:=(decide (s1.1 < 9))) Z (fun c9=>?_) (fun c9=>?_)
 replace h1:=condT c9 h1
 refine XC.skip<|XQ.seq<|XC.seq<|XC.block<|XC.seq<|XC.region<|rM Z Z Z<|rA Z Z Z<|XL.nil<|XQ.seq<|XC.seq<|XC.seq<|XC.region<|rM Z Z Z ?_
 refine XL.nil<|XQ.seq<|XC.block ?_
 refine XC.joinX 2 (fun (o10:(List Int))=>⟨[(0,.v (.one (dS a0))),(3,.v (.one (.ptr 0 0))),(4,.v (.one (.ptr 1 0))),(5,.v (.one (.ptr 2 0))),(7,.v (.one (.ptr 4 0))),(8,.v (.one (dI s1.1))),(26,.v (.one (dI s1.1)))],[(0,.cells 41 (cE a1)),(1,.cells 4 [dB false]),(2,.cells 25 [dI 0]),(4,.cells 70 (flatE o10))],[(3,some ⟨41,4,(Enc.encL ((a0++([a1])):List Bnd)).length,[]⟩)],5,81,[]⟩) (fun (o10:(List Int))=>(guardO (cond (decide (0≤(0:Int))) (Nat.blt (0:Int).toNat 9) false)
   (guardO (cond (decide (0≤s1.1)) (Nat.blt s1.1.toNat 9) false)
   (guardO (Nat.blt (0+(0:Int).toNat * 9+s1.1.toNat * 1) o10.length)
   (some (.next ((w64 (s1.1+1)),(o10.set (0+(0:Int).toNat * 9+s1.1.toNat * 1) 0)))))))=some oo1) ?_ ?_
 refine bindK h1 (fun o11 hl2 h1=>?_)
 refine XC.loopM (m18_l0 s1) (fun s2=>⟨[(0,.v (.one (dS a0))),(3,.v (.one (.ptr 0 0))),(4,.v (.one (.ptr 1 0))),(5,.v (.one (.ptr 2 0))),(7,.v (.one (.ptr 4 0))),(8,.v (.one (dI s1.1))),(26,.v (.one (dI s1.1))),(29,.v (.one (dI s2.1)))],[(0,.cells 41 (cE a1)),(1,.cells 4 [dB false]),(2,.cells 25 [dI 0]),(4,.cells 70 (flatE s2.2))],[(3,some ⟨41,4,(Enc.encL ((a0++([a1])):List Bnd)).length,[]⟩)],5,81,[]⟩) (0,s1.2) o11 (stle (tA Z) (hA Z) (kA Z) Z (Nat.zero_le _) Z Z Z (bB Z Z (bB Z Z (bB Z Z (bF Z bZ)))) Z Z) hl2 (fun s2 n2 oo2 h2 ho2=>?_)
 unfold m18_l0 at h2
 refine XC.seq<|XC.region<|rR Z Z Z (RO.binInt Z Z Z)<|XL.nil<|XQ.seq<|XC.seq ?_
 refine XC.cond (b:=(decide (s2.1 < 9))) Z (fun c12=>?_) (fun c12=>?_)
 replace h2:=condT c12 h2
 refine XC.skip<|XQ.seq<|XC.seq<|XC.block<|XC.seq<|XC.region<|rM Z Z Z<|rA Z Z Z<|XL.nil<|XQ.seq<|XC.seq<|XC.region<|rM Z Z Z<|rM Z Z Z ?_
 refine rR Z Z Z (RO.binInt Z Z Z)<|XL.nil<|XQ.seq ?_
 refine XC.cond (b:=(s1.1 != s2.1)) Z (fun c13=>?_) (fun c13=>?_)
 replace h2:=condT c13 h2
 refine XC.region<|rM Z Z Z<|rM Z Z Z ?_
 refine guardK h2 (fun g14 h2=>?_)
 refine rR Z Z Z (RO.indexA arr_70 Z Z g14) ?_
 refine guardK h2 (fun g15 h2=>?_)
 refine rR Z Z Z (RO.indexA arr_68 Z Z g15) ?_
 refine guardK h2 (fun g16 h2=>?_)
 refine XL.eff Z Z (OpOK.storeA ag_3 Z Z Z g16 Z)<|XL.nil<|XQ.inBlock<|XQ.seq<|XC.region<|rR Z Z Z (RO.binInt Z Z Z)<|rM Z Z Z<|XL.nil ?_
 have e:=sI h2;subst e
 refine XQ.nextM ((w64 (s2.1+1)),(s2.2.set (0+s1.1.toNat * 9+s2.1.toNat * 1) 1048576)) (stle (tA Z) (hA Z) (kA Z) Z (Nat.zero_le _) Z Z Z (bB Z Z (bB Z Z (bB Z Z (bF Z bZ)))) Z Z) ho2
 replace h2:=condF c13 h2
 refine XC.skip<|XQ.inBlock<|XQ.seq<|XC.region<|rR Z Z Z (RO.binInt Z Z Z)<|rM Z Z Z<|XL.nil ?_
 have e:=sI h2;subst e
 refine XQ.nextM ((w64 (s2.1+1)),s2.2) (stle (tA Z) (hA Z) (kA Z) Z (Nat.zero_le _) Z Z Z (bB Z Z (bB Z Z (bB Z Z (bF Z bZ)))) Z Z) ho2
 replace h2:=condF c12 h2
 refine XC.exit<|XQ.thenE<|XQ.thenE ?_
 have e:=sI h2;subst e
 have e_:_=_:=ho2
 subst e_
 exact XQ.joinX s2.2 (stle (tA Z) (hA Z) (kA Z) Z (Nat.zero_le _) Z Z Z (bB Z Z (bB Z Z (bB Z Z (bF Z bZ)))) Z Z) h1
 intro o10 h1
 refine XQ.blockX<|XQ.seq<|XC.region<|rM Z Z Z ?_
 refine guardK h1 (fun g17 h1=>?_)
 refine rR Z Z Z (RO.indexA arr_70 Z Z g17) ?_
 refine guardK h1 (fun g18 h1=>?_)
 refine rR Z Z Z (RO.indexA arr_68 Z Z g18) ?_
 refine guardK h1 (fun g19 h1=>?_)
 refine XL.eff Z Z (OpOK.storeA ag_3 Z Z Z g19 Z)<|XL.nil<|XQ.inBlock<|XQ.seq<|XC.region<|rR Z Z Z (RO.binInt Z Z Z)<|rM Z Z Z<|XL.nil ?_
 have e:=sI h1;subst e
 refine XQ.nextM ((w64 (s1.1+1)),(o10.set (0+(0:Int).toNat * 9+s1.1.toNat * 1) 0)) (stle (tA Z) (hA Z) (kA Z) Z (Nat.zero_le _) Z Z Z (bB Z Z (bB Z Z (bB Z Z (bF Z bZ)))) Z Z) ho1
 replace h1:=condF c9 h1
 refine XC.exit<|XQ.thenE<|XQ.thenE ?_
 have e:=sI h1;subst e
 have e_:_=_:=ho1
 subst e_
 exact XQ.joinX s1.2 (stle (tA Z) (hA Z) (kA Z) Z (Nat.zero_le _) Z Z Z (bB Z Z (bB Z Z (bB Z Z (bF Z bZ)))) Z Z) h0
 intro o7 h0
 refine XQ.blockX<|XQ.seq<|XC.seq<|XC.seq<|XC.region<|rM Z Z Z<|rR Z Z Z (RO.lenE (α:=Bnd) sl_22 Z (.d _))<|rM Z Z Z<|XL.nil<|XQ.seq<|XC.block ?_
 refine XC.joinX 4 (fun (o20:(List Int))=>⟨[(3,.v (.one (.ptr 0 0))),(4,.v (.one (.ptr 1 0))),(5,.v (.one (.ptr 2 0))),(7,.v (.one (.ptr 4 0)))],[(0,.cells 41 (cE a1)),(1,.cells 4 [dB false]),(2,.cells 25 [dI 0]),(4,.cells 70 (flatE o20))],[(3,some ⟨41,4,(Enc.encL ((a0++([a1])):List Bnd)).length,[]⟩)],5,81,[]⟩) (fun (o20:(List Int))=>(Option.bind (some ()) (fun (y21:Unit)=>Option.bind (Option.bind (cond (decide (0 < a1.lo.c))
     (Option.bind (guardO (Nat.beq o20.length 81)
   (guardO (Nat.beq (List.replicate 81 (0:Int)).length 81)
   (guardO (Nat.beq o20.length 81)
   (Option.bind (some ()) (fun (y38:Unit)=>Option.bind (Option.bind (cond (decide (0 < a1.hi.c))
     (Option.bind (Option.bind (m41f27 a1.hi.c a1.lo.c 1 o20) fun (x47:((List Int))) =>
   some x47) (fun (y44:(List Int))=>some y44))
     (cond ((a1.hi.vs.length:Int)==0)
     (Option.bind (Option.bind (m41f27 a1.hi.c a1.lo.c 1 o20) fun (x52:((List Int))) =>
   some x52) (fun (y49:(List Int))=>some y49))
     (some o20))) (fun (v42:(List Int))=>Option.bind (loopN (m18_l6 a1) FUEL (0,v42)) (fun (o43:(List Int))=>some o43))) (fun (y40:(List Int))=>guardO (Nat.beq y40.length 81)
   (Option.bind (m42 y40) fun (x62:Bool) =>
   cond x62
     (some (.inr ()))
     (some (.inl ()))))))))) (Sum.elim (fun (y30:Unit)=>some (.inl ())) (fun (y31:Unit)=>some (.inr ()))))
     (cond ((a1.lo.vs.length:Int)==0)
     (Option.bind (guardO (Nat.beq o20.length 81)
   (guardO (Nat.beq (List.replicate 81 (0:Int)).length 81)
   (guardO (Nat.beq o20.length 81)
   (Option.bind (some ()) (fun (y73:Unit)=>Option.bind (Option.bind (cond (decide (0 < a1.hi.c))
     (Option.bind (Option.bind (m41f27 a1.hi.c a1.lo.c 1 o20) fun (x82:((List Int))) =>
   some x82) (fun (y79:(List Int))=>some y79))
     (cond ((a1.hi.vs.length:Int)==0)
     (Option.bind (Option.bind (m41f27 a1.hi.c a1.lo.c 1 o20) fun (x87:((List Int))) =>
   some x87) (fun (y84:(List Int))=>some y84))
     (some o20))) (fun (v77:(List Int))=>Option.bind (loopN (m18_l6 a1) FUEL (0,v77)) (fun (o78:(List Int))=>some o78))) (fun (y75:(List Int))=>guardO (Nat.beq y75.length 81)
   (Option.bind (m42 y75) fun (x97:Bool) =>
   cond x97
     (some (.inr ()))
     (some (.inl ()))))))))) (Sum.elim (fun (y65:Unit)=>some (.inl ())) (fun (y66:Unit)=>some (.inr ()))))
     (some (.inl ())))) (Sum.elim (fun (v27:Unit)=>Option.bind (loopN (m18_l5 a1 o20) FUEL 0) (Sum.elim (fun (o29:Unit)=>some (.inl ())) (fun o=>some o))) (fun (v28:Unit)=>some (.inr ())))) (Sum.elim (fun (y23:Unit)=>some (true,0)) (fun (y24:Unit)=>some (false,0)))))=some r) ?_ ?_
 refine bindK h0 (fun o21 hl1 h0=>?_)
 refine XC.loopM (m18_l3 a0) (fun s1=>⟨[(3,.v (.one (.ptr 0 0))),(4,.v (.one (.ptr 1 0))),(5,.v (.one (.ptr 2 0))),(7,.v (.one (.ptr 4 0))),(44,.v (.one (dS a0))),(45,.v (.one (dI (a0.length:Int)))),(46,.v (.one (dI s1.1)))],[(0,.cells 41 (cE a1)),(1,.cells 4 [dB false]),(2,.cells 25 [dI 0]),(4,.cells 70 (flatE s1.2))],[(3,some ⟨41,4,(Enc.encL ((a0++([a1])):List Bnd)).length,[]⟩)],5,81,[]⟩) (0,o7) o21 (stle (tA Z) (hA Z) (kA Z) Z (Nat.zero_le _) Z Z Z (bB Z Z (bB Z Z (bB Z Z (bF Z bZ)))) Z Z) hl1 (fun s1 n1 oo1 h1 ho1=>?_)
 unfold m18_l3 at h1
 refine XC.seq<|XC.region<|rR Z Z Z (RO.binInt Z Z Z)<|XL.nil<|XQ.seq<|XC.seq ?_
 refine XC.cond (b:=(decide (s1.1 < (a0.length:Int)))) Z (fun c22=>?_) (fun c22=>?_)
 replace h1:=condT c22 h1
 refine XC.skip<|XQ.seq<|XC.seq<|XC.block<|XC.seq<|XC.region ?_
 refine bindK h1 (fun x23 hx23 h1=>?_)
 refine rR Z Z Z (RO.indexE (α:=Bnd) sl_22 Z (.d _) Z hx23)<|rR Z Z Z (RO.loadPelCE (x23:Bnd) ag_41 Z)<|XL.put Z Z (lb Z) (OpOK.alloc z_41 Z)<|XL.eff Z Z (OpOK.storeCE (x23:Bnd) ag_41 Z Z Z Z Z)<|XL.nil<|XQ.seq<|XC.seq<|XC.region<|rR Z Z Z (RO.fieldOwn fo_41_1 Z)<|rR Z Z Z (RO.loadOwnAgg ag_39 Z Z Z Z) ?_
 refine bindK h1 (fun y24 h2 h1=>?_)
 have hc25:CallM Try.prog 40 [.agg (cE x23.hi)] ⟨m18_h1 a1 s1 x23,[(3,some ⟨41,4,(Enc.encL ((a0++([a1])):List Bnd)).length,[]⟩)],6⟩ (resOf [.one (.fn 62 [(6,0)])]) ⟨m18_h2 a1 s1 x23,[(3,some ⟨41,4,(Enc.encL ((a0++([a1])):List Bnd)).length,[]⟩)],7⟩:=by
  refine CallM.of_bodyD ⟨[(2,.v (.one (.fn 62 [(6,0)])))],m18_h2 a1 s1 x23,[(3,some ⟨41,4,(Enc.encL ((a0++([a1])):List Bnd)).length,[]⟩)],7,4,[]⟩ Z Z en_40 (lb Z) Z (RAs.tmp Z .nil) (fun w0 M V0 Q hv2 hQ2=>?_)
  simp only [entry]
  refine XC.seq<|XC.region<|XL.put Z Z (lb Z) (OpOK.box Z)<|rA Z Z Z<|XL.nil<|XQ.seq<|XC.seq<|XC.region<|rR Z Z Z (RO.makeFunc1 Z)<|rA Z Z Z<|XL.nil<|XQ.seq<|XC.ret ?_
  have e:=sI h2;subst e
  exact hQ2 _ _ _ (.inr Z) Z (stle (tA Z) (hA Z) (kA Z) Z (Nat.le_trans hv2 (lb Z)) Z Z Z (bB Z Z (bB Z Z (bB Z Z (bF Z (bA Z))))) Z Z)
 refine XL.put Z Z (lb Z) (OpOK.callW Z Z Z hc25 Z (hA Z) (kA Z)) ?_
 refine bindK h1 (fun x26 hx26 h1=>?_)
 refine XL.put Z Z (lb Z) (OpOK.callG (hp1':=[(6,.cells 39 (cE x23.hi))]) (tk1':=[(8,some ⟨39,2,(Enc.encL x26).length,[]⟩)]) (hpF:=m18_h1 a1 s1 x23) (tkF:=[(3,some ⟨41,4,(Enc.encL ((a0++([a1])):List Bnd)).length,[]⟩)]) (res2:=resOf [.one (dA 8 x26)]) (nx2:=11) [6] Z Z (m39f23_ok x23.hi x26 hx26) Z Z (qB Z Z qZ) Z Z (gR Z gZ) jZ (hA Z) (kA Z) Z Z Z Z Z (bA Z) Z Z Z Z)<|XL.put Z Z (lb Z) (OpOK.alloc z_31 Z)<|XL.eff Z Z (OpOK.store ag_31 Z Z Z Z (lb Z) Z)<|XL.nil<|XQ.seq<|XC.seq<|XC.seq<|XC.region<|rR Z Z Z (RO.loadOwn ag_31 Z Z Z)<|rR Z Z Z (RO.lenE (α:=Lvl) sl_31 Z (.app _ _))<|rR Z Z Z (RO.binInt Z Z Z)<|XL.nil<|XQ.seq ?_
 refine XC.cond (b:=(decide (1 < (x26.length:Int)))) Z (fun c27=>?_) (fun c27=>?_)
 replace h1:=condT c27 h1
 refine XC.seq<|XC.region<|XL.eff Z Z (OpOK.store ag_4 Z Z Z Z (lb Z) Z)<|XL.eff Z Z (OpOK.store ag_25 Z Z Z Z (lb Z) Z)<|XL.nil<|XQ.seq<|XC.ret ?_
 have e:=sI h1;subst e
 have e_:_=_:=ho1
 subst e_
 try dsimp only [Sum.elim_inl,Sum.elim_inr] at h0
 have e:=sI h0;subst e
 exact XQ.retF (fun _ _ h=>h) Z (RAs.cell ag_4 Z Z Z (RAs.cell ag_25 Z Z Z .nil)) (.cons (.one (.d _)) (.cons (.one (.d _)) .nil))
 replace h1:=condF c27 h1
 refine XC.skip<|XQ.seq<|XC.seq<|XC.region<|rR Z Z Z (RO.fieldOwn fo_41_0 Z)<|rR Z Z Z (RO.loadOwnAgg ag_39 Z Z Z Z) ?_
 refine bindK h1 (fun y28 h2 h1=>?_)
 have hc29:CallM Try.prog 40 [.agg (cE x23.lo)] ⟨m18_h3 a1 s1 x23 x26,[(3,some ⟨41,4,(Enc.encL ((a0++([a1])):List Bnd)).length,[]⟩),(8,some ⟨39,2,(Enc.encL x26).length,[]⟩)],12⟩ (resOf [.one (.fn 62 [(12,0)])]) ⟨m18_h4 a1 s1 x23 x26,[(3,some ⟨41,4,(Enc.encL ((a0++([a1])):List Bnd)).length,[]⟩),(8,some ⟨39,2,(Enc.encL x26).length,[]⟩)],13⟩:=by
  refine CallM.of_bodyD ⟨[(2,.v (.one (.fn 62 [(12,0)])))],m18_h4 a1 s1 x23 x26,[(3,some ⟨41,4,(Enc.encL ((a0++([a1])):List Bnd)).length,[]⟩),(8,some ⟨39,2,(Enc.encL x26).length,[]⟩)],13,4,[]⟩ Z Z en_40 (lb Z) Z (RAs.tmp Z .nil) (fun w0 M V0 Q hv2 hQ2=>?_)
  simp only [entry]
  refine XC.seq<|XC.region<|XL.put Z Z (lb Z) (OpOK.box Z)<|rA Z Z Z<|XL.nil<|XQ.seq<|XC.seq<|XC.region<|rR Z Z Z (RO.makeFunc1 Z)<|rA Z Z Z<|XL.nil<|XQ.seq<|XC.ret ?_
  have e:=sI h2;subst e
  exact hQ2 _ _ _ (.inr Z) Z (stle (tA Z) (hA Z) (kA Z) Z (Nat.le_trans hv2 (lb Z)) Z Z Z (bB Z Z (bB Z Z (bB Z Z (bF Z (bA Z))))) Z Z)
 refine XL.put Z Z (lb Z) (OpOK.callW Z Z Z hc29 Z (hA Z) (kA Z))<|XL.nil<|XQ.seq<|XC.block<|XC.less (st':=⟨[(3,.v (.one (.ptr 0 0))),(4,.v (.one (.ptr 1 0))),(5,.v (.one (.ptr 2 0))),(7,.v (.one (.ptr 4 0))),(12,.v (.one (.ptr 11 0))),(44,.v (.one (dS a0))),(45,.v (.one (dI (a0.length:Int)))),(46,.v (.one (dI s1.1))),(59,.v (.one (.fn 62 [(12,0)])))],m18_h4 a1 s1 x23 x26,[(3,some ⟨41,4,(Enc.encL ((a0++([a1])):List Bnd)).length,[]⟩),(8,some ⟨39,2,(Enc.encL x26).length,[]⟩)],13,81,[]⟩) (stle (tA Z) (hA Z) (kA Z) Z (Nat.zero_le _) Z Z Z (bB Z Z (bB Z Z (bB Z Z (bF Z (bA Z))))) Z Z) ?_
 refine bindK h1 (fun y30 h2 h1=>?_)
 have hc31:CallM Try.prog 62 [.one (.yld 14),.one (.ptr 12 0)] ⟨[(14,.loop .ready none [(3,.v (.one (.ptr 0 0))),(4,.v (.one (.ptr 1 0))),(5,.v (.one (.ptr 2 0))),(7,.v (.one (.ptr 4 0))),(12,.v (.one (.ptr 11 0))),(44,.v (.one (dS a0))),(45,.v (.one (dI (a0.length:Int)))),(46,.v (.one (dI s1.1))),(59,.v (.one (.fn 62 [(12,0)])))] 81 #[60] m18_c0 m18_c1 13),(13,.obj (.deferred (some []))),(0,.cells 41 (cE a1)),(1,.cells 4 [dB false]),(2,.cells 25 [dI 0]),(4,.cells 70 (flatE s1.2)),(5,.cells 41 (cE x23)),(6,.cells 39 (cE x23.hi)),(11,.cells 31 [dA 8 x26]),(12,.cells 39 (cE x23.lo))],[(3,some ⟨41,4,(Enc.encL ((a0++([a1])):List Bnd)).length,[]⟩),(8,some ⟨39,2,(Enc.encL x26).length,[]⟩)],15⟩ (resOf []) ⟨m18_h6 a1 y30 x23 x26 a0 s1,[(3,some ⟨41,4,(Enc.encL ((a0++([a1])):List Bnd)).length,[]⟩),(8,some ⟨39,2,(Enc.encL x26).length,[]⟩)],15⟩:=by
  refine CallM.of_bodyD ⟨[],m18_h6 a1 y30 x23 x26 a0 s1,[(3,some ⟨41,4,(Enc.encL ((a0++([a1])):List Bnd)).length,[]⟩),(8,some ⟨39,2,(Enc.encL x26).length,[]⟩)],15,36,[]⟩ Z Z en_62 (lb Z) Z .nil (fun w0 M V0 Q hv2 hQ2=>?_)
  simp only [entry]
  refine XC.seq<|XC.seq ?_
  refine XC.joinR (fun (v32:(List Int))=>⟨[(0,.v (.one (.yld 14))),(1,.v (.one (.ptr 12 0))),(21,.v (.one (dB false)))],[(0,.cells 41 (cE a1)),(1,.cells 4 [dB false]),(2,.cells 25 [dI 0]),(4,.cells 70 (flatE v32)),(5,.cells 41 (cE x23)),(6,.cells 39 (cE x23.hi)),(11,.cells 31 [dA 8 x26]),(12,.cells 39 (cE x23.lo)),(13,.obj (.deferred (some []))),(14,m18_h5 a0 s1)],[(3,some ⟨41,4,(Enc.encL ((a0++([a1])):List Bnd)).length,[]⟩),(8,some ⟨39,2,(Enc.encL x26).length,[]⟩)],15,36,[]⟩) (fun (v32:(List Int))=>(Option.bind (loopN (m18_l2 x23 x26) FUEL (0,v32)) (fun (o33:(List Int))=>some o33))=some y30) ?_ ?_
  refine bindK h2 (fun w3_ h3 h2=>?_)
  refine XC.region<|rR Z Z Z (RO.fieldOwn fo_39_0 Z)<|rR Z Z Z (RO.loadOwn ag_3 Z Z Z)<|rR Z Z Z (RO.binInt Z Z Z)<|rM Z Z Z ?_
  refine XL.case (d:=8) (c:=(decide (0 < x23.lo.c))) Z (fun c33=>?_) (fun c33=>?_)
  replace h3:=condT c33 h3
  refine XL.no Z Z<|XL.no Z Z<|XL.no Z Z<|XL.no Z Z<|rR Z Z Z (RO.pickT Z Z)<|rM Z Z Z<|rM Z Z Z<|rR Z Z Z (RO.fieldOwn fo_39_0 Z)<|rR Z Z Z (RO.loadOwn ag_3 Z Z Z)<|rR Z Z Z (RO.build1 bd_39 Z Z Z) ?_
  refine bindK h3 (fun y34 h4 h3=>?_)
  have ha35:ExecOK Try.prog (some 14) m18_c0 ⟨[(3,.v (.one (.ptr 0 0))),(4,.v (.one (.ptr 1 0))),(5,.v (.one (.ptr 2 0))),(7,.v (.one (.ptr 4 0))),(12,.v (.one (.ptr 11 0))),(44,.v (.one (dS a0))),(45,.v (.one (dI (a0.length:Int)))),(46,.v (.one (dI s1.1))),(59,.v (.one (.fn 62 [(12,0)]))),(60,.v (.agg [dI x23.lo.c,dN]))],m18_h7 a1 s1 x23 x26 a0,[(3,some ⟨41,4,(Enc.encL ((a0++([a1])):List Bnd)).length,[]⟩),(8,some ⟨39,2,(Enc.encL x26).length,[]⟩)],15,81,[]⟩ .normal ⟨[(7,.v (.one (.ptr 4 0))),(12,.v (.one (.ptr 11 0))),(13,.v (.one (.ptr 15 0)))],m18_h10 a1 s1 x23 x26 a0,[(3,some ⟨41,4,(Enc.encL ((a0++([a1])):List Bnd)).length,[]⟩),(8,some ⟨39,2,(Enc.encL x26).length,[]⟩)],16,81,[]⟩:=by
   refine ExecOK.walk (fun w0 M V0 ro n Q hv4 hro4 hQn4=>?_)
   refine XC.region<|XL.put Z Z (lb Z) (OpOK.alloc z_39 Z)<|XL.eff Z Z (OpOK.store ag_39 Z Z Z Z (lb Z) Z)<|XL.nil ?_
   exact XQ.of hQn4 (stle (tA Z) (hA Z) (kA Z) Z (Nat.le_trans hv4 (lb Z)) Z Z Z (bB Z Z (bB Z Z (bB Z Z (bF Z (bA Z))))) Z Z)
  have hb36:ExecOK Try.prog (some 14) m18_c1 ⟨[(7,.v (.one (.ptr 4 0))),(12,.v (.one (.ptr 11 0))),(13,.v (.one (.ptr 15 0)))],m18_h9 a1 s1 x23 x26 a0,[(3,some ⟨41,4,(Enc.encL ((a0++([a1])):List Bnd)).length,[]⟩),(8,some ⟨39,2,(Enc.encL x26).length,[]⟩)],16,81,[]⟩ .normal ⟨[],m18_h11 a1 y34 x23 x26 a0 s1,[(3,some ⟨41,4,(Enc.encL ((a0++([a1])):List Bnd)).length,[]⟩),(8,some ⟨39,2,(Enc.encL x26).length,[]⟩)],18,81,[]⟩:=by
   refine ExecOK.walk (fun w0 M V0 ro n Q hv4 hro4 hQn4=>?_)
   refine XC.block ?_
   refine XC.anyRun [4] [] mixed (by kernel_rfl) (by kernel_rfl) (by kernel_rfl) ?_
   refine RunA.rd Z Z Z (OpOK.of_ro (RO.loadOwnAgg ag_39 Z Z Z Z)) Z<|RunA.rd Z Z Z (OpOK.of_ro (RO.loadOwn ag_31 Z Z Z)) Z ?_
   refine bindK h4 (fun x37 hx37 h4=>?_)
   refine RunA.rd Z Z Z (OpOK.of_ro (RO.indexE (α:=Lvl) sl_31 Z (.app _ _) Z hx37)) Z<|RunA.rd Z Z Z (OpOK.of_ro (RO.loadPelCE (x37:Lvl) ag_39 Z)) Z ?_
   refine bindK h4 (fun x38 hx38 h4=>?_)
   refine RunA.eff Z Z Z (OpOK.callG (hp1':=[(4,.cells 70 (flatE x38))]) (tk1':=[]) (hpF:=m18_h12 a1 x23 x26 a0 s1) (tkF:=[(3,some ⟨41,4,(Enc.encL ((a0++([a1])):List Bnd)).length,[]⟩),(8,some ⟨39,2,(Enc.encL x26).length,[]⟩)]) (res2:=resOf []) (nx2:=18) [4] Z Z (m41f25_ok x23.lo.c x37 0 s1.2 x38 hx38) Z Z (qF Z qZ) Z Z (gF Z gZ) jZ (hA Z) (kA Z) Z Z Z Z Z (bF Z bZ) Z Z Z Z) Z ?_
   refine RunA.nil ⟨?ex,_,_,Z,?_⟩
   case ex=>exact trivial
   refine XQ.less (st':=⟨[],m18_h13 a1 x38 x23 x26 a0 s1,[(3,some ⟨41,4,(Enc.encL ((a0++([a1])):List Bnd)).length,[]⟩),(8,some ⟨39,2,(Enc.encL x26).length,[]⟩)],18,81,[]⟩) (stle tZ (hA Z) (kA Z) Z (Nat.le_trans hv4 (lb Z)) Z Z Z (bB Z Z (bB Z Z (bB Z Z (bF Z (bA Z))))) Z Z)<|XQ.inBlock ?_
   have e:=sI h4;subst e
   exact XQ.of hQn4 (stle tZ (hA Z) (kA Z) Z (Nat.le_trans hv4 (lb Z)) Z Z Z (bB Z Z (bB Z Z (bB Z Z (bF Z (bA Z))))) Z Z)
  refine XL.put Z Z (lb Z) (OpOK.yield (jump:=none) Z Z Z Z Z (ExecOK.from ha35 (fun E hv=>(stle (tA Z) (hA Z) (kA Z) Z (Nat.le_trans hv (lb Z)) Z Z Z (bB Z Z (bB Z Z (bB Z Z (bF Z (bA Z))))) Z Z))) Z (ExecOK.from hb36 (fun E hv=>(stle (tA Z) (hA Z) (kA Z) Z (Nat.le_trans hv (lb Z)) Z Z Z (bB Z Z (bB Z Z (bB Z Z (bF Z (bA Z))))) Z Z))) Z Z) ?_
  refine rR Z Z Z (RO.not Z)<|rR Z Z Z (RO.pickT Z Z)<|XL.nil ?_
  have e:=sI h3;subst e
  exact XQ.joinR y34 (stle (tA Z) (hA Z) (kA Z) Z (Nat.le_trans hv2 (lb Z)) Z Z Z (bB Z Z (bB Z Z (bB Z Z (bF Z (bA Z))))) Z Z) h2
  replace h3:=condF c33 h3
  refine rR Z Z Z (RO.fieldOwn fo_39_1 Z)<|rR Z Z Z (RO.loadOwn ag_37 Z Z Z)<|rR Z Z Z (RO.lenE (α:=LV) sl_37 Z (.d _))<|rR Z Z Z (RO.binInt Z Z Z)<|rR Z Z Z (RO.pickF Z Z)<|rM Z Z Z ?_
  refine XL.case (d:=14) (c:=((x23.lo.vs.length:Int)==0)) Z (fun c39=>?_) (fun c39=>?_)
  replace h3:=condT c39 h3
  refine rM Z Z Z<|rR Z Z Z (RO.fieldOwn fo_39_0 Z)<|rR Z Z Z (RO.loadOwn ag_3 Z Z Z)<|rR Z Z Z (RO.build1 bd_39 Z Z Z) ?_
  refine bindK h3 (fun y40 h4 h3=>?_)
  have ha41:ExecOK Try.prog (some 14) m18_c0 ⟨[(3,.v (.one (.ptr 0 0))),(4,.v (.one (.ptr 1 0))),(5,.v (.one (.ptr 2 0))),(7,.v (.one (.ptr 4 0))),(12,.v (.one (.ptr 11 0))),(44,.v (.one (dS a0))),(45,.v (.one (dI (a0.length:Int)))),(46,.v (.one (dI s1.1))),(59,.v (.one (.fn 62 [(12,0)]))),(60,.v (.agg [dI x23.lo.c,dN]))],m18_h7 a1 s1 x23 x26 a0,[(3,some ⟨41,4,(Enc.encL ((a0++([a1])):List Bnd)).length,[]⟩),(8,some ⟨39,2,(Enc.encL x26).length,[]⟩)],15,81,[]⟩ .normal ⟨[(7,.v (.one (.ptr 4 0))),(12,.v (.one (.ptr 11 0))),(13,.v (.one (.ptr 15 0)))],m18_h10 a1 s1 x23 x26 a0,[(3,some ⟨41,4,(Enc.encL ((a0++([a1])):List Bnd)).length,[]⟩),(8,some ⟨39,2,(Enc.encL x26).length,[]⟩)],16,81,[]⟩:=by
   refine ExecOK.walk (fun w0 M V0 ro n Q hv4 hro4 hQn4=>?_)
   refine XC.region<|XL.put Z Z (lb Z) (OpOK.alloc z_39 Z)<|XL.eff Z Z (OpOK.store ag_39 Z Z Z Z (lb Z) Z)<|XL.nil ?_
   exact XQ.of hQn4 (stle (tA Z) (hA Z) (kA Z) Z (Nat.le_trans hv4 (lb Z)) Z Z Z (bB Z Z (bB Z Z (bB Z Z (bF Z (bA Z))))) Z Z)
  have hb42:ExecOK Try.prog (some 14) m18_c1 ⟨[(7,.v (.one (.ptr 4 0))),(12,.v (.one (.ptr 11 0))),(13,.v (.one (.ptr 15 0)))],m18_h9 a1 s1 x23 x26 a0,[(3,some ⟨41,4,(Enc.encL ((a0++([a1])):List Bnd)).length,[]⟩),(8,some ⟨39,2,(Enc.encL x26).length,[]⟩)],16,81,[]⟩ .normal ⟨[],m18_h11 a1 y40 x23 x26 a0 s1,[(3,some ⟨41,4,(Enc.encL ((a0++([a1])):List Bnd)).length,[]⟩),(8,some ⟨39,2,(Enc.encL x26).length,[]⟩)],18,81,[]⟩:=by
   refine ExecOK.walk (fun w0 M V0 ro n Q hv4 hro4 hQn4=>?_)
   refine XC.block ?_
   refine XC.anyRun [4] [] mixed (by kernel_rfl) (by kernel_rfl) (by kernel_rfl) ?_
   refine RunA.rd Z Z Z (OpOK.of_ro (RO.loadOwnAgg ag_39 Z Z Z Z)) Z<|RunA.rd Z Z Z (OpOK.of_ro (RO.loadOwn ag_31 Z Z Z)) Z ?_
   refine bindK h4 (fun x43 hx43 h4=>?_)
   refine RunA.rd Z Z Z (OpOK.of_ro (RO.indexE (α:=Lvl) sl_31 Z (.app _ _) Z hx43)) Z<|RunA.rd Z Z Z (OpOK.of_ro (RO.loadPelCE (x43:Lvl) ag_39 Z)) Z ?_
   refine bindK h4 (fun x44 hx44 h4=>?_)
   refine RunA.eff Z Z Z (OpOK.callG (hp1':=[(4,.cells 70 (flatE x44))]) (tk1':=[]) (hpF:=m18_h12 a1 x23 x26 a0 s1) (tkF:=[(3,some ⟨41,4,(Enc.encL ((a0++([a1])):List Bnd)).length,[]⟩),(8,some ⟨39,2,(Enc.encL x26).length,[]⟩)]) (res2:=resOf []) (nx2:=18) [4] Z Z (m41f25_ok x23.lo.c x43 0 s1.2 x44 hx44) Z Z (qF Z qZ) Z Z (gF Z gZ) jZ (hA Z) (kA Z) Z Z Z Z Z (bF Z bZ) Z Z Z Z) Z ?_
   refine RunA.nil ⟨?ex,_,_,Z,?_⟩
   case ex=>exact trivial
   refine XQ.less (st':=⟨[],m18_h13 a1 x44 x23 x26 a0 s1,[(3,some ⟨41,4,(Enc.encL ((a0++([a1])):List Bnd)).length,[]⟩),(8,some ⟨39,2,(Enc.encL x26).length,[]⟩)],18,81,[]⟩) (stle tZ (hA Z) (kA Z) Z (Nat.le_trans hv4 (lb Z)) Z Z Z (bB Z Z (bB Z Z (bB Z Z (bF Z (bA Z))))) Z Z)<|XQ.inBlock ?_
   have e:=sI h4;subst e
   exact XQ.of hQn4 (stle tZ (hA Z) (kA Z) Z (Nat.le_trans hv4 (lb Z)) Z Z Z (bB Z Z (bB Z Z (bB Z Z (bF Z (bA Z))))) Z Z)
  refine XL.put Z Z (lb Z) (OpOK.yield (jump:=none) Z Z Z Z Z (ExecOK.from ha41 (fun E hv=>(stle (tA Z) (hA Z) (kA Z) Z (Nat.le_trans hv (lb Z)) Z Z Z (bB Z Z (bB Z Z (bB Z Z (bF Z (bA Z))))) Z Z))) Z (ExecOK.from hb42 (fun E hv=>(stle (tA Z) (hA Z) (kA Z) Z (Nat.le_trans hv (lb Z)) Z Z Z (bB Z Z (bB Z Z (bB Z Z (bF Z (bA Z))))) Z Z))) Z Z) ?_
  refine rR Z Z Z (RO.not Z)<|rR Z Z Z (RO.pickT Z Z)<|XL.nil ?_
  have e:=sI h3;subst e
  exact XQ.joinR y40 (stle (tA Z) (hA Z) (kA Z) Z (Nat.le_trans hv2 (lb Z)) Z Z Z (bB Z Z (bB Z Z (bB Z Z (bF Z (bA Z))))) Z Z) h2
  replace h3:=condF c39 h3
  refine XL.no Z Z<|XL.no Z Z<|XL.no Z Z<|XL.no Z Z<|XL.no Z Z<|XL.no Z Z<|rR Z Z Z (RO.pickF Z Z)<|XL.nil ?_
  have e:=sI h3;subst e
  exact XQ.joinR s1.2 (stle (tA Z) (hA Z) (kA Z) Z (Nat.le_trans hv2 (lb Z)) Z Z Z (bB Z Z (bB Z Z (bB Z Z (bF Z (bA Z))))) Z Z) h2
  intro v32 h2
  refine XQ.seq ?_
  refine XC.cond Z (fun h=>nomatch h) (fun _=>?_)
  refine XC.skip<|XQ.seq<|XC.seq<|XC.region<|rR Z Z Z (RO.fieldOwn fo_39_1 Z)<|rR Z Z Z (RO.loadOwn ag_37 Z Z Z)<|rR Z Z Z (RO.lenE (α:=LV) sl_37 Z (.d _))<|rM Z Z Z<|XL.nil<|XQ.seq<|XC.block ?_
  refine XC.joinX 0 (fun (o45:(List Int))=>⟨[],[(0,.cells 41 (cE a1)),(1,.cells 4 [dB false]),(2,.cells 25 [dI 0]),(4,.cells 70 (flatE o45)),(5,.cells 41 (cE x23)),(6,.cells 39 (cE x23.hi)),(11,.cells 31 [dA 8 x26]),(12,.cells 39 (cE x23.lo)),(13,.obj (.deferred (some []))),(14,m18_h5 a0 s1)],[(3,some ⟨41,4,(Enc.encL ((a0++([a1])):List Bnd)).length,[]⟩),(8,some ⟨39,2,(Enc.encL x26).length,[]⟩)],15,36,[]⟩) (fun (o45:(List Int))=>(some o45)=some y30) ?_ ?_
  refine bindK h2 (fun o46 hl3 h2=>?_)
  refine XC.loopM (m18_l2 x23 x26) (fun s3=>⟨[(0,.v (.one (.yld 14))),(23,.v (.one (dS x23.lo.vs))),(24,.v (.one (dI (x23.lo.vs.length:Int)))),(25,.v (.one (dI s3.1)))],[(0,.cells 41 (cE a1)),(1,.cells 4 [dB false]),(2,.cells 25 [dI 0]),(4,.cells 70 (flatE s3.2)),(5,.cells 41 (cE x23)),(6,.cells 39 (cE x23.hi)),(11,.cells 31 [dA 8 x26]),(12,.cells 39 (cE x23.lo)),(13,.obj (.deferred (some []))),(14,m18_h5 a0 s1)],[(3,some ⟨41,4,(Enc.encL ((a0++([a1])):List Bnd)).length,[]⟩),(8,some ⟨39,2,(Enc.encL x26).length,[]⟩)],15,36,[]⟩) (0,v32) o46 (stle (tA Z) (hA Z) (kA Z) Z (Nat.le_trans hv2 (lb Z)) Z Z Z (bB Z Z (bB Z Z (bB Z Z (bF Z (bA Z))))) Z Z) hl3 (fun s3 n3 oo3 h3 ho3=>?_)
  unfold m18_l2 at h3
  refine XC.seq<|XC.region<|rR Z Z Z (RO.binInt Z Z Z)<|XL.nil<|XQ.seq<|XC.seq ?_
  refine XC.cond (b:=(decide (s3.1 < (x23.lo.vs.length:Int)))) Z (fun c47=>?_) (fun c47=>?_)
  replace h3:=condT c47 h3
  refine XC.skip<|XQ.seq<|XC.seq<|XC.block<|XC.seq<|XC.region ?_
  refine bindK h3 (fun x48 hx48 h3=>?_)
  refine rR Z Z Z (RO.indexE (α:=LV) sl_37 Z (.d _) Z hx48)<|rR Z Z Z (RO.loadPelCE (x48:LV) ag_59 Z)<|XL.put Z Z (lb Z) (OpOK.alloc z_59 Z)<|XL.eff Z Z (OpOK.storeCE (x48:LV) ag_59 Z Z Z Z Z)<|XL.nil<|XQ.seq<|XC.seq<|XC.region<|rM Z Z Z<|rR Z Z Z (RO.loadCE (x48:LV) ag_59 Z Z)<|XL.put Z Z (lb Z) (OpOK.lit1E (α:=LV) (x48) sl_37 z_59 Z Z (lb Z) (lb Z) Z Z (.cons (.d _) (.cons (.d _) .nil)) Z)<|rR Z Z Z (RO.build1 bd_39 Z Z Z) ?_
  refine bindK h3 (fun y49 h4 h3=>?_)
  have ha50:ExecOK Try.prog (some 14) m18_c0 ⟨[(3,.v (.one (.ptr 0 0))),(4,.v (.one (.ptr 1 0))),(5,.v (.one (.ptr 2 0))),(7,.v (.one (.ptr 4 0))),(12,.v (.one (.ptr 11 0))),(44,.v (.one (dS a0))),(45,.v (.one (dI (a0.length:Int)))),(46,.v (.one (dI s1.1))),(59,.v (.one (.fn 62 [(12,0)]))),(60,.v (.agg [dI 0,dA 16 ([x48]:List LV)]))],m18_h14 a1 s3 x23 x26 a0 s1 x48,[(3,some ⟨41,4,(Enc.encL ((a0++([a1])):List Bnd)).length,[]⟩),(8,some ⟨39,2,(Enc.encL x26).length,[]⟩),(16,some ⟨59,2,(Enc.encL ([x48]:List LV)).length,[]⟩)],17,81,[]⟩ .normal ⟨[(7,.v (.one (.ptr 4 0))),(12,.v (.one (.ptr 11 0))),(13,.v (.one (.ptr 17 0)))],m18_h16 a1 s3 x23 x26 a0 s1 x48,[(3,some ⟨41,4,(Enc.encL ((a0++([a1])):List Bnd)).length,[]⟩),(8,some ⟨39,2,(Enc.encL x26).length,[]⟩),(16,some ⟨59,2,(Enc.encL ([x48]:List LV)).length,[]⟩)],18,81,[]⟩:=by
   refine ExecOK.walk (fun w0 M V0 ro n Q hv4 hro4 hQn4=>?_)
   refine XC.region<|XL.put Z Z (lb Z) (OpOK.alloc z_39 Z)<|XL.eff Z Z (OpOK.store ag_39 Z Z Z Z (lb Z) Z)<|XL.nil ?_
   exact XQ.of hQn4 (stle (tA Z) (hA Z) (kA Z) Z (Nat.le_trans hv4 (lb Z)) Z Z Z (bB Z Z (bB Z Z (bB Z Z (bF Z (bA Z))))) Z Z)
  have hb51:ExecOK Try.prog (some 14) m18_c1 ⟨[(7,.v (.one (.ptr 4 0))),(12,.v (.one (.ptr 11 0))),(13,.v (.one (.ptr 17 0)))],m18_h15 a1 s3 x23 x26 a0 s1 x48,[(3,some ⟨41,4,(Enc.encL ((a0++([a1])):List Bnd)).length,[]⟩),(8,some ⟨39,2,(Enc.encL x26).length,[]⟩),(16,some ⟨59,2,(Enc.encL ([x48]:List LV)).length,[]⟩)],18,81,[]⟩ .normal ⟨[],m18_h17 a1 y49 x23 x26 a0 s1 x48,[(3,some ⟨41,4,(Enc.encL ((a0++([a1])):List Bnd)).length,[]⟩),(8,some ⟨39,2,(Enc.encL x26).length,[]⟩),(16,some ⟨59,2,(Enc.encL ([x48]:List LV)).length,[]⟩)],20,81,[]⟩:=by
   refine ExecOK.walk (fun w0 M V0 ro n Q hv4 hro4 hQn4=>?_)
   refine XC.block ?_
   refine XC.anyRun [4] [] mixed (by kernel_rfl) (by kernel_rfl) (by kernel_rfl) ?_
   refine RunA.rd Z Z Z (OpOK.of_ro (RO.loadOwnAgg ag_39 Z Z Z Z)) Z<|RunA.rd Z Z Z (OpOK.of_ro (RO.loadOwn ag_31 Z Z Z)) Z ?_
   refine bindK h4 (fun x52 hx52 h4=>?_)
   refine RunA.rd Z Z Z (OpOK.of_ro (RO.indexE (α:=Lvl) sl_31 Z (.app _ _) Z hx52)) Z<|RunA.rd Z Z Z (OpOK.of_ro (RO.loadPelCE (x52:Lvl) ag_39 Z)) Z ?_
   refine bindK h4 (fun x53 hx53 h4=>?_)
   refine RunA.eff Z Z Z (OpOK.callG (hp1':=[(4,.cells 70 (flatE x53))]) (tk1':=[(16,some ⟨59,2,(Enc.encL ([x48]:List LV)).length,[]⟩)]) (hpF:=m18_h18 a1 x23 x26 a0 s1 x48) (tkF:=[(3,some ⟨41,4,(Enc.encL ((a0++([a1])):List Bnd)).length,[]⟩),(8,some ⟨39,2,(Enc.encL x26).length,[]⟩)]) (res2:=resOf []) (nx2:=20) [4,16] Z Z (m41f26_ok 0 ([x48]) x52 0 s3.2 x53 hx53) Z Z (qF Z qZ) Z Z (gF Z gZ) (jR Z jZ) (hA Z) (kA Z) Z Z Z Z Z (bF Z bZ) Z Z Z Z) Z ?_
   refine RunA.nil ⟨?ex,_,_,Z,?_⟩
   case ex=>exact trivial
   refine XQ.less (st':=⟨[],m18_h19 a1 x53 x23 x26 a0 s1 x48,[(3,some ⟨41,4,(Enc.encL ((a0++([a1])):List Bnd)).length,[]⟩),(8,some ⟨39,2,(Enc.encL x26).length,[]⟩),(16,some ⟨59,2,(Enc.encL ([x48]:List LV)).length,[]⟩)],20,81,[]⟩) (stle tZ (hA Z) (kA Z) Z (Nat.le_trans hv4 (lb Z)) Z Z Z (bB Z Z (bB Z Z (bB Z Z (bF Z (bA Z))))) Z Z)<|XQ.inBlock ?_
   have e:=sI h4;subst e
   exact XQ.of hQn4 (stle tZ (hA Z) (kA Z) Z (Nat.le_trans hv4 (lb Z)) Z Z Z (bB Z Z (bB Z Z (bB Z Z (bF Z (bA Z))))) Z Z)
  refine XL.put Z Z (lb Z) (OpOK.yield (jump:=none) Z Z Z Z Z (ExecOK.from ha50 (fun E hv=>(stle (tA Z) (hA Z) (kA Z) Z (Nat.le_trans hv (lb Z)) Z Z Z (bB Z Z (bB Z Z (bB Z Z (bF Z (bA Z))))) Z Z))) Z (ExecOK.from hb51 (fun E hv=>(stle (tA Z) (hA Z) (kA Z) Z (Nat.le_trans hv (lb Z)) Z Z Z (bB Z Z (bB Z Z (bB Z Z (bF Z (bA Z))))) Z Z))) Z Z) ?_
  refine rR Z Z Z (RO.not Z)<|XL.nil<|XQ.seq ?_
  refine XC.cond Z (fun h=>nomatch h) (fun _=>?_)
  refine XC.skip<|XQ.inBlock<|XQ.seq<|XC.region<|rR Z Z Z (RO.binInt Z Z Z)<|rM Z Z Z<|XL.nil ?_
  have e:=sI h3;subst e
  refine XQ.nextM ((w64 (s3.1+1)),y49) (stle (tA Z) (hA Z) (kA Z) Z (Nat.le_trans hv2 (lb Z)) Z Z Z (bB Z Z (bB Z Z (bB Z Z (bF Z (bA Z))))) Z Z) ho3
  replace h3:=condF c47 h3
  refine XC.exit<|XQ.thenE<|XQ.thenE ?_
  have e:=sI h3;subst e
  have e_:_=_:=ho3
  subst e_
  exact XQ.joinX s3.2 (stle tZ (hA Z) (kA Z) Z (Nat.le_trans hv2 (lb Z)) Z Z Z (bB Z Z (bB Z Z (bB Z Z (bF Z (bA Z))))) Z Z) h2
  intro o45 h2
  refine XQ.blockX ?_
  have e:=sI h2;subst e
  exact hQ2 _ _ _ (.inl Z) Z (stle tZ (hA Z) (kA Z) Z (Nat.le_trans hv2 (lb Z)) Z Z Z (bB Z Z (bB Z Z (bB Z Z (bF Z (bA Z))))) Z Z)
 refine XC.exec (rangeFunc_out (e:=.normal) rfl hc31 rfl rfl (by intro h;cases h) rfl) rfl ?_
 refine XQ.inBlock<|XQ.inBlock<|XQ.seq<|XC.region<|rR Z Z Z (RO.binInt Z Z Z)<|rM Z Z Z<|XL.nil ?_
 have e:=sI h1;subst e
 refine XQ.nextM ((w64 (s1.1+1)),y30) (stle (tA Z) (hA Z) (kA Z) Z (Nat.zero_le _) Z Z Z (bB Z Z (bB Z Z (bB Z Z (bF Z bZ)))) Z Z) ho1
 replace h1:=condF c22 h1
 refine XC.exit<|XQ.thenE<|XQ.thenE ?_
 have e:=sI h1;subst e
 have e_:_=_:=ho1
 subst e_
 exact XQ.joinX s1.2 (stle (tA Z) (hA Z) (kA Z) Z (Nat.zero_le _) Z Z Z (bB Z Z (bB Z Z (bB Z Z (bF Z bZ)))) Z Z) h0
 intro o20 h0
 refine XQ.blockX<|XQ.seq<|XC.seq<|XC.seq<|XC.region<|rR Z Z Z (RO.fieldOwn fo_41_0 Z)<|rR Z Z Z (RO.loadOwnAgg ag_39 Z Z Z Z) ?_
 refine bindK h0 (fun y54 h1 h0=>?_)
 have hc55:CallM Try.prog 40 [.agg (cE a1.lo)] ⟨m18_h20 a1 o20,[(3,some ⟨41,4,(Enc.encL ((a0++([a1])):List Bnd)).length,[]⟩)],5⟩ (resOf [.one (.fn 62 [(5,0)])]) ⟨m18_h21 a1 o20,[(3,some ⟨41,4,(Enc.encL ((a0++([a1])):List Bnd)).length,[]⟩)],6⟩:=by
  refine CallM.of_bodyD ⟨[(2,.v (.one (.fn 62 [(5,0)])))],m18_h21 a1 o20,[(3,some ⟨41,4,(Enc.encL ((a0++([a1])):List Bnd)).length,[]⟩)],6,4,[]⟩ Z Z en_40 (lb Z) Z (RAs.tmp Z .nil) (fun w0 M V0 Q hv1 hQ1=>?_)
  simp only [entry]
  refine XC.seq<|XC.region<|XL.put Z Z (lb Z) (OpOK.box Z)<|rA Z Z Z<|XL.nil<|XQ.seq<|XC.seq<|XC.region<|rR Z Z Z (RO.makeFunc1 Z)<|rA Z Z Z<|XL.nil<|XQ.seq<|XC.ret ?_
  have e:=sI h1;subst e
  exact hQ1 _ _ _ (.inr Z) Z (stle (tA Z) (hA Z) (kA Z) Z (Nat.le_trans hv1 (lb Z)) Z Z Z (bB Z Z (bB Z Z (bB Z Z (bF Z (bA Z))))) Z Z)
 refine XL.put Z Z (lb Z) (OpOK.callW Z Z Z hc55 Z (hA Z) (kA Z))<|XL.nil<|XQ.seq<|XC.block<|XC.less (st':=⟨[(3,.v (.one (.ptr 0 0))),(4,.v (.one (.ptr 1 0))),(5,.v (.one (.ptr 2 0))),(7,.v (.one (.ptr 4 0))),(69,.v (.one (.fn 62 [(5,0)])))],m18_h21 a1 o20,[(3,some ⟨41,4,(Enc.encL ((a0++([a1])):List Bnd)).length,[]⟩)],6,81,[]⟩) (stle (tA Z) (hA Z) (kA Z) Z (Nat.zero_le _) Z Z Z (bB Z Z (bB Z Z (bB Z Z (bF Z (bA Z))))) Z Z) ?_
 refine bindK h0 (fun y59 h1 h0=>?_)
 have hc58:CallM Try.prog 62 [.one (.yld 7),.one (.ptr 5 0)] ⟨[(7,.loop .ready none [(3,.v (.one (.ptr 0 0))),(4,.v (.one (.ptr 1 0))),(5,.v (.one (.ptr 2 0))),(7,.v (.one (.ptr 4 0))),(69,.v (.one (.fn 62 [(5,0)])))] 81 #[70] m18_c2 m18_c3 6),(6,.obj (.deferred (some []))),(0,.cells 41 (cE a1)),(1,.cells 4 [dB false]),(2,.cells 25 [dI 0]),(4,.cells 70 (flatE o20)),(5,.cells 39 (cE a1.lo))],[(3,some ⟨41,4,(Enc.encL ((a0++([a1])):List Bnd)).length,[]⟩)],8⟩ (resOf []) ⟨(((Sum.elim (fun (y56:Unit)=>(⟨[],m18_h23 a1 o20,[(3,some ⟨41,4,(Enc.encL ((a0++([a1])):List Bnd)).length,[]⟩)],8,36,[]⟩:St)) (fun (y57:Unit)=>(⟨[],m18_h25 a1 o20,[(3,some ⟨41,4,(Enc.encL ((a0++([a1])):List Bnd)).length,[]⟩)],12,36,[]⟩:St)))) y59).hp,(((Sum.elim (fun (y56:Unit)=>(⟨[],m18_h23 a1 o20,[(3,some ⟨41,4,(Enc.encL ((a0++([a1])):List Bnd)).length,[]⟩)],8,36,[]⟩:St)) (fun (y57:Unit)=>(⟨[],m18_h25 a1 o20,[(3,some ⟨41,4,(Enc.encL ((a0++([a1])):List Bnd)).length,[]⟩)],12,36,[]⟩:St)))) y59).tk,(((Sum.elim (fun (y56:Unit)=>(⟨[],m18_h23 a1 o20,[(3,some ⟨41,4,(Enc.encL ((a0++([a1])):List Bnd)).length,[]⟩)],8,36,[]⟩:St)) (fun (y57:Unit)=>(⟨[],m18_h25 a1 o20,[(3,some ⟨41,4,(Enc.encL ((a0++([a1])):List Bnd)).length,[]⟩)],12,36,[]⟩:St)))) y59).nx⟩:=by
  refine CallM.of_bodyS y59 ((Sum.elim (fun (y56:Unit)=>(⟨[],m18_h23 a1 o20,[(3,some ⟨41,4,(Enc.encL ((a0++([a1])):List Bnd)).length,[]⟩)],8,36,[]⟩:St)) (fun (y57:Unit)=>(⟨[],m18_h25 a1 o20,[(3,some ⟨41,4,(Enc.encL ((a0++([a1])):List Bnd)).length,[]⟩)],12,36,[]⟩:St)))) rfl rfl en_62 (lb rfl) (fun z_=>by cases z_ <;> rfl) (fun z_=>.nil) (fun w0 M V0 Q hv1 hQ1=>?_)
  simp only [entry]
  refine XC.seq<|XC.seq ?_
  refine XC.joinR2 (fun (v60:Unit)=>⟨[(0,.v (.one (.yld 7))),(1,.v (.one (.ptr 5 0))),(21,.v (.one (dB false)))],m18_h23 a1 o20,[(3,some ⟨41,4,(Enc.encL ((a0++([a1])):List Bnd)).length,[]⟩)],8,36,[]⟩) (fun (v61:Unit)=>⟨[(0,.v (.one (.yld 7))),(1,.v (.one (.ptr 5 0))),(21,.v (.one (dB true)))],m18_h25 a1 o20,[(3,some ⟨41,4,(Enc.encL ((a0++([a1])):List Bnd)).length,[]⟩)],12,36,[]⟩) (fun (v60:Unit)=>(Option.bind (loopN (m18_l5 a1 o20) FUEL 0) (Sum.elim (fun (o62:Unit)=>some (.inl ())) (fun o=>some o)))=some y59) (fun (v61:Unit)=>(some (.inr ()))=some y59) ?_ ?_ ?_
  refine bindK h1 (fun w2_ h2 h1=>?_)
  refine XC.region<|rR Z Z Z (RO.fieldOwn fo_39_0 Z)<|rR Z Z Z (RO.loadOwn ag_3 Z Z Z)<|rR Z Z Z (RO.binInt Z Z Z)<|rM Z Z Z ?_
  refine XL.case (d:=8) (c:=(decide (0 < a1.lo.c))) Z (fun c62=>?_) (fun c62=>?_)
  replace h2:=condT c62 h2
  refine XL.no Z Z<|XL.no Z Z<|XL.no Z Z<|XL.no Z Z<|rR Z Z Z (RO.pickT Z Z)<|rM Z Z Z<|rM Z Z Z<|rR Z Z Z (RO.fieldOwn fo_39_0 Z)<|rR Z Z Z (RO.loadOwn ag_3 Z Z Z)<|rR Z Z Z (RO.build1 bd_39 Z Z Z) ?_
  refine bindK h2 (fun y65 h3 h2=>?_)
  have ha66:ExecOK Try.prog (some 7) m18_c2 ⟨[(3,.v (.one (.ptr 0 0))),(4,.v (.one (.ptr 1 0))),(5,.v (.one (.ptr 2 0))),(7,.v (.one (.ptr 4 0))),(69,.v (.one (.fn 62 [(5,0)]))),(70,.v (.agg [dI a1.lo.c,dN]))],m18_h23 a1 o20,[(3,some ⟨41,4,(Enc.encL ((a0++([a1])):List Bnd)).length,[]⟩)],8,81,[]⟩ .normal ⟨[(3,.v (.one (.ptr 0 0))),(4,.v (.one (.ptr 1 0))),(5,.v (.one (.ptr 2 0))),(7,.v (.one (.ptr 4 0))),(14,.v (.one (.ptr 8 0)))],m18_h28 a1 o20,[(3,some ⟨41,4,(Enc.encL ((a0++([a1])):List Bnd)).length,[]⟩)],9,81,[]⟩:=by
   refine ExecOK.walk (fun w0 M V0 ro n Q hv3 hro3 hQn3=>?_)
   refine XC.region<|XL.put Z Z (lb Z) (OpOK.alloc z_39 Z)<|XL.eff Z Z (OpOK.store ag_39 Z Z Z Z (lb Z) Z)<|XL.nil ?_
   exact XQ.of hQn3 (stle (tA Z) (hA Z) (kA Z) Z (Nat.le_trans hv3 (lb Z)) Z Z Z (bB Z Z (bB Z Z (bB Z Z (bF Z (bA Z))))) Z Z)
  have hb67:ExecOK Try.prog (some 7) m18_c3 ⟨[(3,.v (.one (.ptr 0 0))),(4,.v (.one (.ptr 1 0))),(5,.v (.one (.ptr 2 0))),(7,.v (.one (.ptr 4 0))),(14,.v (.one (.ptr 8 0)))],m18_h27 a1 o20,[(3,some ⟨41,4,(Enc.encL ((a0++([a1])):List Bnd)).length,[]⟩)],9,81,[]⟩ ((Sum.elim (fun (_:Unit)=>(.normal:Exit)) (fun (_:Unit)=>(.ret:Exit))) y65) ((Sum.elim (fun (y63:Unit)=>(⟨[],m18_h29 a1 o20,[(3,some ⟨41,4,(Enc.encL ((a0++([a1])):List Bnd)).length,[]⟩)],12,81,[]⟩:St)) (fun (y64:Unit)=>(⟨[],m18_h29 a1 o20,[(3,some ⟨41,4,(Enc.encL ((a0++([a1])):List Bnd)).length,[]⟩)],12,81,[]⟩:St))) y65):=by
   refine ExecOK.walk (fun w0 M V0 ro n Q hv3 hro3 hQn3=>?_)
   refine XC.block<|XC.seq<|XC.region ?_
   refine guardK h3 (fun g68 h3=>?_)
   refine rR Z Z Z (RO.loadArr ag_70 Z Z g68)<|XL.put Z Z (lb Z) (OpOK.allocA (l:=(List.replicate 81 (0:Int))) z_70 Z Z) ?_
   refine guardK h3 (fun g69 h3=>?_)
   refine guardK h3 (fun g70 h3=>?_)
   refine XL.eff Z Z (OpOK.storeArr ag_70 Z Z Z g69 g70 Z)<|XL.nil<|XQ.seq<|XC.seq<|XC.seq<|XC.region<|rR Z Z Z (RO.fieldOwn fo_41_1 Z)<|rR Z Z Z (RO.loadOwnAgg ag_39 Z Z Z Z) ?_
   refine bindK h3 (fun y71 h4 h3=>?_)
   have hc72:CallM Try.prog 40 [.agg (cE a1.hi)] ⟨m18_h30 a1 o20,[(3,some ⟨41,4,(Enc.encL ((a0++([a1])):List Bnd)).length,[]⟩)],10⟩ (resOf [.one (.fn 62 [(10,0)])]) ⟨m18_h31 a1 o20,[(3,some ⟨41,4,(Enc.encL ((a0++([a1])):List Bnd)).length,[]⟩)],11⟩:=by
    refine CallM.of_bodyD ⟨[(2,.v (.one (.fn 62 [(10,0)])))],m18_h31 a1 o20,[(3,some ⟨41,4,(Enc.encL ((a0++([a1])):List Bnd)).length,[]⟩)],11,4,[]⟩ Z Z en_40 (lb Z) Z (RAs.tmp Z .nil) (fun w0 M V0 Q hv4 hQ4=>?_)
    simp only [entry]
    refine XC.seq<|XC.region<|XL.put Z Z (lb Z) (OpOK.box Z)<|rA Z Z Z<|XL.nil<|XQ.seq<|XC.seq<|XC.region<|rR Z Z Z (RO.makeFunc1 Z)<|rA Z Z Z<|XL.nil<|XQ.seq<|XC.ret ?_
    have e:=sI h4;subst e
    exact hQ4 _ _ _ (.inr Z) Z (stle (tA Z) (hA Z) (kA Z) Z (Nat.le_trans hv4 (lb Z)) Z Z Z (bB Z Z (bB Z Z (bB Z Z (bF Z (bB Z Z (bB Z Z (bB Z Z (bB Z Z (bF Z (bA Z)))))))))) Z Z)
   refine XL.put Z Z (lb Z) (OpOK.callW Z Z Z hc72 Z (hA Z) (kA Z))<|XL.nil<|XQ.seq<|XC.block<|XC.less (st':=⟨[(4,.v (.one (.ptr 1 0))),(5,.v (.one (.ptr 2 0))),(14,.v (.one (.ptr 8 0))),(15,.v (.one (.ptr 9 0))),(74,.v (.one (.fn 62 [(10,0)])))],m18_h31 a1 o20,[(3,some ⟨41,4,(Enc.encL ((a0++([a1])):List Bnd)).length,[]⟩)],11,81,[]⟩) (stle (tA Z) (hA Z) (kA Z) Z (Nat.le_trans hv3 (lb Z)) Z Z Z (bB Z Z (bB Z Z (bB Z Z (bF Z (bB Z Z (bB Z Z (bB Z Z (bB Z Z (bF Z (bA Z)))))))))) Z Z) ?_
   refine bindK h3 (fun y73 h4 h3=>?_)
   have hc74:CallM Try.prog 62 [.one (.yld 11),.one (.ptr 10 0)] ⟨[(11,.loop .ready none [(4,.v (.one (.ptr 1 0))),(5,.v (.one (.ptr 2 0))),(14,.v (.one (.ptr 8 0))),(15,.v (.one (.ptr 9 0))),(74,.v (.one (.fn 62 [(10,0)])))] 81 #[75] m18_c4 m18_c5 6),(0,.cells 41 (cE a1)),(1,.cells 4 [dB false]),(2,.cells 25 [dI 0]),(4,.cells 70 (flatE o20)),(5,.cells 39 (cE a1.lo)),(6,.obj (.deferred (some []))),(7,.loop .busy none [(3,.v (.one (.ptr 0 0))),(4,.v (.one (.ptr 1 0))),(5,.v (.one (.ptr 2 0))),(7,.v (.one (.ptr 4 0))),(69,.v (.one (.fn 62 [(5,0)])))] 81 #[70] m18_c2 m18_c3 6),(8,.cells 39 [dI a1.lo.c,dN]),(9,.cells 70 (flatE o20)),(10,.cells 39 (cE a1.hi))],[(3,some ⟨41,4,(Enc.encL ((a0++([a1])):List Bnd)).length,[]⟩)],12⟩ (resOf []) ⟨m18_h33 a1 o20 y73,[(3,some ⟨41,4,(Enc.encL ((a0++([a1])):List Bnd)).length,[]⟩)],12⟩:=by
    refine CallM.of_bodyD ⟨[],m18_h33 a1 o20 y73,[(3,some ⟨41,4,(Enc.encL ((a0++([a1])):List Bnd)).length,[]⟩)],12,36,[]⟩ Z Z en_62 (lb Z) Z .nil (fun w0 M V0 Q hv4 hQ4=>?_)
    simp only [entry]
    refine XC.seq<|XC.seq ?_
    refine XC.joinR (fun (v75:(List Int))=>⟨[(0,.v (.one (.yld 11))),(1,.v (.one (.ptr 10 0))),(21,.v (.one (dB false)))],[(0,.cells 41 (cE a1)),(1,.cells 4 [dB false]),(2,.cells 25 [dI 0]),(4,.cells 70 (flatE o20)),(5,.cells 39 (cE a1.lo)),(6,.obj (.deferred (some []))),(7,m18_h26),(8,.cells 39 [dI a1.lo.c,dN]),(9,.cells 70 (flatE v75)),(10,.cells 39 (cE a1.hi)),(11,m18_h32)],[(3,some ⟨41,4,(Enc.encL ((a0++([a1])):List Bnd)).length,[]⟩)],12,36,[]⟩) (fun (v75:(List Int))=>(Option.bind (loopN (m18_l6 a1) FUEL (0,v75)) (fun (o76:(List Int))=>some o76))=some y73) ?_ ?_
    refine bindK h4 (fun w5_ h5 h4=>?_)
    refine XC.region<|rR Z Z Z (RO.fieldOwn fo_39_0 Z)<|rR Z Z Z (RO.loadOwn ag_3 Z Z Z)<|rR Z Z Z (RO.binInt Z Z Z)<|rM Z Z Z ?_
    refine XL.case (d:=8) (c:=(decide (0 < a1.hi.c))) Z (fun c76=>?_) (fun c76=>?_)
    replace h5:=condT c76 h5
    refine XL.no Z Z<|XL.no Z Z<|XL.no Z Z<|XL.no Z Z<|rR Z Z Z (RO.pickT Z Z)<|rM Z Z Z<|rM Z Z Z<|rR Z Z Z (RO.fieldOwn fo_39_0 Z)<|rR Z Z Z (RO.loadOwn ag_3 Z Z Z)<|rR Z Z Z (RO.build1 bd_39 Z Z Z) ?_
    refine bindK h5 (fun y77 h6 h5=>?_)
    have ha78:ExecOK Try.prog (some 11) m18_c4 ⟨[(4,.v (.one (.ptr 1 0))),(5,.v (.one (.ptr 2 0))),(14,.v (.one (.ptr 8 0))),(15,.v (.one (.ptr 9 0))),(74,.v (.one (.fn 62 [(10,0)]))),(75,.v (.agg [dI a1.hi.c,dN]))],m18_h34 a1 o20,[(3,some ⟨41,4,(Enc.encL ((a0++([a1])):List Bnd)).length,[]⟩)],12,81,[]⟩ .normal ⟨[(14,.v (.one (.ptr 8 0))),(15,.v (.one (.ptr 9 0))),(16,.v (.one (.ptr 12 0)))],m18_h37 a1 o20,[(3,some ⟨41,4,(Enc.encL ((a0++([a1])):List Bnd)).length,[]⟩)],13,81,[]⟩:=by
     refine ExecOK.walk (fun w0 M V0 ro n Q hv6 hro6 hQn6=>?_)
     refine XC.region<|XL.put Z Z (lb Z) (OpOK.alloc z_39 Z)<|XL.eff Z Z (OpOK.store ag_39 Z Z Z Z (lb Z) Z)<|XL.nil ?_
     exact XQ.of hQn6 (stle (tA Z) (hA Z) (kA Z) Z (Nat.le_trans hv6 (lb Z)) Z Z Z (bB Z Z (bB Z Z (bB Z Z (bF Z (bB Z Z (bB Z Z (bB Z Z (bB Z Z (bF Z (bA Z)))))))))) Z Z)
    have hb79:ExecOK Try.prog (some 11) m18_c5 ⟨[(14,.v (.one (.ptr 8 0))),(15,.v (.one (.ptr 9 0))),(16,.v (.one (.ptr 12 0)))],m18_h36 a1 o20,[(3,some ⟨41,4,(Enc.encL ((a0++([a1])):List Bnd)).length,[]⟩)],13,81,[]⟩ .normal ⟨[],m18_h38 a1 o20 y77,[(3,some ⟨41,4,(Enc.encL ((a0++([a1])):List Bnd)).length,[]⟩)],15,81,[]⟩:=by
     refine ExecOK.walk (fun w0 M V0 ro n Q hv6 hro6 hQn6=>?_)
     refine XC.block<|XC.region<|rR Z Z Z (RO.loadOwnAgg ag_39 Z Z Z Z)<|rR Z Z Z (RO.loadOwnAgg ag_39 Z Z Z Z) ?_
     refine bindK h6 (fun x80 hx80 h6=>?_)
     refine XL.put Z Z (lb Z) (OpOK.callG (hp1':=[(9,.cells 70 (flatE x80))]) (tk1':=[]) (hpF:=m18_h39 a1 o20) (tkF:=[(3,some ⟨41,4,(Enc.encL ((a0++([a1])):List Bnd)).length,[]⟩)]) (res2:=resOf []) (nx2:=15) [9] Z Z (m41f27_ok a1.hi.c a1.lo.c 1 o20 x80 hx80) Z Z (qF Z qZ) Z Z (gF Z gZ) jZ (hA Z) (kA Z) Z Z Z Z Z (bF Z bZ) Z Z Z Z)<|XL.nil<|XQ.inBlock ?_
     have e:=sI h6;subst e
     exact XQ.of hQn6 (stle tZ (hA Z) (kA Z) Z (Nat.le_trans hv6 (lb Z)) Z Z Z (bB Z Z (bB Z Z (bB Z Z (bF Z (bB Z Z (bB Z Z (bB Z Z (bB Z Z (bF Z (bA Z)))))))))) Z Z)
    refine XL.put Z Z (lb Z) (OpOK.yield (jump:=none) Z Z Z Z Z (ExecOK.from ha78 (fun E hv=>(stle (tA Z) (hA Z) (kA Z) Z (Nat.le_trans hv (lb Z)) Z Z Z (bB Z Z (bB Z Z (bB Z Z (bF Z (bB Z Z (bB Z Z (bB Z Z (bB Z Z (bF Z (bA Z)))))))))) Z Z))) Z (ExecOK.from hb79 (fun E hv=>(stle (tA Z) (hA Z) (kA Z) Z (Nat.le_trans hv (lb Z)) Z Z Z (bB Z Z (bB Z Z (bB Z Z (bF Z (bB Z Z (bB Z Z (bB Z Z (bB Z Z (bF Z (bA Z)))))))))) Z Z))) Z Z) ?_
    refine rR Z Z Z (RO.not Z)<|rR Z Z Z (RO.pickT Z Z)<|XL.nil ?_
    have e:=sI h5;subst e
    exact XQ.joinR y77 (stle (tA Z) (hA Z) (kA Z) Z (Nat.le_trans hv4 (lb Z)) Z Z Z (bB Z Z (bB Z Z (bB Z Z (bF Z (bB Z Z (bB Z Z (bB Z Z (bB Z Z (bF Z (bA Z)))))))))) Z Z) h4
    replace h5:=condF c76 h5
    refine rR Z Z Z (RO.fieldOwn fo_39_1 Z)<|rR Z Z Z (RO.loadOwn ag_37 Z Z Z)<|rR Z Z Z (RO.lenE (α:=LV) sl_37 Z (.d _))<|rR Z Z Z (RO.binInt Z Z Z)<|rR Z Z Z (RO.pickF Z Z)<|rM Z Z Z ?_
    refine XL.case (d:=14) (c:=((a1.hi.vs.length:Int)==0)) Z (fun c81=>?_) (fun c81=>?_)
    replace h5:=condT c81 h5
    refine rM Z Z Z<|rR Z Z Z (RO.fieldOwn fo_39_0 Z)<|rR Z Z Z (RO.loadOwn ag_3 Z Z Z)<|rR Z Z Z (RO.build1 bd_39 Z Z Z) ?_
    refine bindK h5 (fun y82 h6 h5=>?_)
    have ha83:ExecOK Try.prog (some 11) m18_c4 ⟨[(4,.v (.one (.ptr 1 0))),(5,.v (.one (.ptr 2 0))),(14,.v (.one (.ptr 8 0))),(15,.v (.one (.ptr 9 0))),(74,.v (.one (.fn 62 [(10,0)]))),(75,.v (.agg [dI a1.hi.c,dN]))],m18_h34 a1 o20,[(3,some ⟨41,4,(Enc.encL ((a0++([a1])):List Bnd)).length,[]⟩)],12,81,[]⟩ .normal ⟨[(14,.v (.one (.ptr 8 0))),(15,.v (.one (.ptr 9 0))),(16,.v (.one (.ptr 12 0)))],m18_h37 a1 o20,[(3,some ⟨41,4,(Enc.encL ((a0++([a1])):List Bnd)).length,[]⟩)],13,81,[]⟩:=by
     refine ExecOK.walk (fun w0 M V0 ro n Q hv6 hro6 hQn6=>?_)
     refine XC.region<|XL.put Z Z (lb Z) (OpOK.alloc z_39 Z)<|XL.eff Z Z (OpOK.store ag_39 Z Z Z Z (lb Z) Z)<|XL.nil ?_
     exact XQ.of hQn6 (stle (tA Z) (hA Z) (kA Z) Z (Nat.le_trans hv6 (lb Z)) Z Z Z (bB Z Z (bB Z Z (bB Z Z (bF Z (bB Z Z (bB Z Z (bB Z Z (bB Z Z (bF Z (bA Z)))))))))) Z Z)
    have hb84:ExecOK Try.prog (some 11) m18_c5 ⟨[(14,.v (.one (.ptr 8 0))),(15,.v (.one (.ptr 9 0))),(16,.v (.one (.ptr 12 0)))],m18_h36 a1 o20,[(3,some ⟨41,4,(Enc.encL ((a0++([a1])):List Bnd)).length,[]⟩)],13,81,[]⟩ .normal ⟨[],m18_h38 a1 o20 y82,[(3,some ⟨41,4,(Enc.encL ((a0++([a1])):List Bnd)).length,[]⟩)],15,81,[]⟩:=by
     refine ExecOK.walk (fun w0 M V0 ro n Q hv6 hro6 hQn6=>?_)
     refine XC.block<|XC.region<|rR Z Z Z (RO.loadOwnAgg ag_39 Z Z Z Z)<|rR Z Z Z (RO.loadOwnAgg ag_39 Z Z Z Z) ?_
     refine bindK h6 (fun x85 hx85 h6=>?_)
     refine XL.put Z Z (lb Z) (OpOK.callG (hp1':=[(9,.cells 70 (flatE x85))]) (tk1':=[]) (hpF:=m18_h39 a1 o20) (tkF:=[(3,some ⟨41,4,(Enc.encL ((a0++([a1])):List Bnd)).length,[]⟩)]) (res2:=resOf []) (nx2:=15) [9] Z Z (m41f27_ok a1.hi.c a1.lo.c 1 o20 x85 hx85) Z Z (qF Z qZ) Z Z (gF Z gZ) jZ (hA Z) (kA Z) Z Z Z Z Z (bF Z bZ) Z Z Z Z)<|XL.nil<|XQ.inBlock ?_
     have e:=sI h6;subst e
     exact XQ.of hQn6 (stle tZ (hA Z) (kA Z) Z (Nat.le_trans hv6 (lb Z)) Z Z Z (bB Z Z (bB Z Z (bB Z Z (bF Z (bB Z Z (bB Z Z (bB Z Z (bB Z Z (bF Z (bA Z)))))))))) Z Z)
    refine XL.put Z Z (lb Z) (OpOK.yield (jump:=none) Z Z Z Z Z (ExecOK.from ha83 (fun E hv=>(stle (tA Z) (hA Z) (kA Z) Z (Nat.le_trans hv (lb Z)) Z Z Z (bB Z Z (bB Z Z (bB Z Z (bF Z (bB Z Z (bB Z Z (bB Z Z (bB Z Z (bF Z (bA Z)))))))))) Z Z))) Z (ExecOK.from hb84 (fun E hv=>(stle (tA Z) (hA Z) (kA Z) Z (Nat.le_trans hv (lb Z)) Z Z Z (bB Z Z (bB Z Z (bB Z Z (bF Z (bB Z Z (bB Z Z (bB Z Z (bB Z Z (bF Z (bA Z)))))))))) Z Z))) Z Z) ?_
    refine rR Z Z Z (RO.not Z)<|rR Z Z Z (RO.pickT Z Z)<|XL.nil ?_
    have e:=sI h5;subst e
    exact XQ.joinR y82 (stle (tA Z) (hA Z) (kA Z) Z (Nat.le_trans hv4 (lb Z)) Z Z Z (bB Z Z (bB Z Z (bB Z Z (bF Z (bB Z Z (bB Z Z (bB Z Z (bB Z Z (bF Z (bA Z)))))))))) Z Z) h4
    replace h5:=condF c81 h5
    refine XL.no Z Z<|XL.no Z Z<|XL.no Z Z<|XL.no Z Z<|XL.no Z Z<|XL.no Z Z<|rR Z Z Z (RO.pickF Z Z)<|XL.nil ?_
    have e:=sI h5;subst e
    exact XQ.joinR o20 (stle (tA Z) (hA Z) (kA Z) Z (Nat.le_trans hv4 (lb Z)) Z Z Z (bB Z Z (bB Z Z (bB Z Z (bF Z (bB Z Z (bB Z Z (bB Z Z (bB Z Z (bF Z (bA Z)))))))))) Z Z) h4
    intro v75 h4
    refine XQ.seq ?_
    refine XC.cond Z (fun h=>nomatch h) (fun _=>?_)
    refine XC.skip<|XQ.seq<|XC.seq<|XC.region<|rR Z Z Z (RO.fieldOwn fo_39_1 Z)<|rR Z Z Z (RO.loadOwn ag_37 Z Z Z)<|rR Z Z Z (RO.lenE (α:=LV) sl_37 Z (.d _))<|rM Z Z Z<|XL.nil<|XQ.seq<|XC.block ?_
    refine XC.joinX 0 (fun (o86:(List Int))=>⟨[],[(0,.cells 41 (cE a1)),(1,.cells 4 [dB false]),(2,.cells 25 [dI 0]),(4,.cells 70 (flatE o20)),(5,.cells 39 (cE a1.lo)),(6,.obj (.deferred (some []))),(7,m18_h26),(8,.cells 39 [dI a1.lo.c,dN]),(9,.cells 70 (flatE o86)),(10,.cells 39 (cE a1.hi)),(11,m18_h32)],[(3,some ⟨41,4,(Enc.encL ((a0++([a1])):List Bnd)).length,[]⟩)],12,36,[]⟩) (fun (o86:(List Int))=>(some o86)=some y73) ?_ ?_
    refine bindK h4 (fun o87 hl5 h4=>?_)
    refine XC.loopM (m18_l6 a1) (fun s5=>⟨[(0,.v (.one (.yld 11))),(23,.v (.one (dS a1.hi.vs))),(24,.v (.one (dI (a1.hi.vs.length:Int)))),(25,.v (.one (dI s5.1)))],[(0,.cells 41 (cE a1)),(1,.cells 4 [dB false]),(2,.cells 25 [dI 0]),(4,.cells 70 (flatE o20)),(5,.cells 39 (cE a1.lo)),(6,.obj (.deferred (some []))),(7,m18_h26),(8,.cells 39 [dI a1.lo.c,dN]),(9,.cells 70 (flatE s5.2)),(10,.cells 39 (cE a1.hi)),(11,m18_h32)],[(3,some ⟨41,4,(Enc.encL ((a0++([a1])):List Bnd)).length,[]⟩)],12,36,[]⟩) (0,v75) o87 (stle (tA Z) (hA Z) (kA Z) Z (Nat.le_trans hv4 (lb Z)) Z Z Z (bB Z Z (bB Z Z (bB Z Z (bF Z (bB Z Z (bB Z Z (bB Z Z (bB Z Z (bF Z (bA Z)))))))))) Z Z) hl5 (fun s5 n5 oo5 h5 ho5=>?_)
    unfold m18_l6 at h5
    refine XC.seq<|XC.region<|rR Z Z Z (RO.binInt Z Z Z)<|XL.nil<|XQ.seq<|XC.seq ?_
    refine XC.cond (b:=(decide (s5.1 < (a1.hi.vs.length:Int)))) Z (fun c88=>?_) (fun c88=>?_)
    replace h5:=condT c88 h5
    refine XC.skip<|XQ.seq<|XC.seq<|XC.block<|XC.seq<|XC.region ?_
    refine bindK h5 (fun x89 hx89 h5=>?_)
    refine rR Z Z Z (RO.indexE (α:=LV) sl_37 Z (.d _) Z hx89)<|rR Z Z Z (RO.loadPelCE (x89:LV) ag_59 Z)<|XL.put Z Z (lb Z) (OpOK.alloc z_59 Z)<|XL.eff Z Z (OpOK.storeCE (x89:LV) ag_59 Z Z Z Z Z)<|XL.nil<|XQ.seq<|XC.seq<|XC.region<|rM Z Z Z<|rR Z Z Z (RO.loadCE (x89:LV) ag_59 Z Z)<|XL.put Z Z (lb Z) (OpOK.lit1E (α:=LV) (x89) sl_37 z_59 Z Z (lb Z) (lb Z) Z Z (.cons (.d _) (.cons (.d _) .nil)) Z)<|rR Z Z Z (RO.build1 bd_39 Z Z Z) ?_
    refine bindK h5 (fun y90 h6 h5=>?_)
    have ha91:ExecOK Try.prog (some 11) m18_c4 ⟨[(4,.v (.one (.ptr 1 0))),(5,.v (.one (.ptr 2 0))),(14,.v (.one (.ptr 8 0))),(15,.v (.one (.ptr 9 0))),(74,.v (.one (.fn 62 [(10,0)]))),(75,.v (.agg [dI 0,dA 13 ([x89]:List LV)]))],m18_h40 a1 o20 s5 x89,[(3,some ⟨41,4,(Enc.encL ((a0++([a1])):List Bnd)).length,[]⟩),(13,some ⟨59,2,(Enc.encL ([x89]:List LV)).length,[]⟩)],14,81,[]⟩ .normal ⟨[(14,.v (.one (.ptr 8 0))),(15,.v (.one (.ptr 9 0))),(16,.v (.one (.ptr 14 0)))],m18_h42 a1 o20 s5 x89,[(3,some ⟨41,4,(Enc.encL ((a0++([a1])):List Bnd)).length,[]⟩),(13,some ⟨59,2,(Enc.encL ([x89]:List LV)).length,[]⟩)],15,81,[]⟩:=by
     refine ExecOK.walk (fun w0 M V0 ro n Q hv6 hro6 hQn6=>?_)
     refine XC.region<|XL.put Z Z (lb Z) (OpOK.alloc z_39 Z)<|XL.eff Z Z (OpOK.store ag_39 Z Z Z Z (lb Z) Z)<|XL.nil ?_
     exact XQ.of hQn6 (stle (tA Z) (hA Z) (kA Z) Z (Nat.le_trans hv6 (lb Z)) Z Z Z (bB Z Z (bB Z Z (bB Z Z (bF Z (bB Z Z (bB Z Z (bB Z Z (bB Z Z (bF Z (bA Z)))))))))) Z Z)
    have hb92:ExecOK Try.prog (some 11) m18_c5 ⟨[(14,.v (.one (.ptr 8 0))),(15,.v (.one (.ptr 9 0))),(16,.v (.one (.ptr 14 0)))],m18_h41 a1 o20 s5 x89,[(3,some ⟨41,4,(Enc.encL ((a0++([a1])):List Bnd)).length,[]⟩),(13,some ⟨59,2,(Enc.encL ([x89]:List LV)).length,[]⟩)],15,81,[]⟩ .normal ⟨[],m18_h43 a1 o20 y90 x89,[(3,some ⟨41,4,(Enc.encL ((a0++([a1])):List Bnd)).length,[]⟩),(13,some ⟨59,2,(Enc.encL ([x89]:List LV)).length,[]⟩)],17,81,[]⟩:=by
     refine ExecOK.walk (fun w0 M V0 ro n Q hv6 hro6 hQn6=>?_)
     refine XC.block<|XC.region<|rR Z Z Z (RO.loadOwnAgg ag_39 Z Z Z Z)<|rR Z Z Z (RO.loadOwnAgg ag_39 Z Z Z Z) ?_
     refine bindK h6 (fun x93 hx93 h6=>?_)
     refine XL.put Z Z (lb Z) (OpOK.callG (hp1':=[(9,.cells 70 (flatE x93))]) (tk1':=[(13,some ⟨59,2,(Enc.encL ([x89]:List LV)).length,[]⟩)]) (hpF:=m18_h44 a1 o20 x89) (tkF:=[(3,some ⟨41,4,(Enc.encL ((a0++([a1])):List Bnd)).length,[]⟩)]) (res2:=resOf []) (nx2:=17) [9,13] Z Z (m41f28_ok 0 ([x89]) a1.lo.c 1 s5.2 x93 hx93) Z Z (qF Z qZ) Z Z (gF Z gZ) (jR Z jZ) (hA Z) (kA Z) Z Z Z Z Z (bF Z bZ) Z Z Z Z)<|XL.nil<|XQ.inBlock ?_
     have e:=sI h6;subst e
     exact XQ.of hQn6 (stle tZ (hA Z) (kA Z) Z (Nat.le_trans hv6 (lb Z)) Z Z Z (bB Z Z (bB Z Z (bB Z Z (bF Z (bB Z Z (bB Z Z (bB Z Z (bB Z Z (bF Z (bA Z)))))))))) Z Z)
    refine XL.put Z Z (lb Z) (OpOK.yield (jump:=none) Z Z Z Z Z (ExecOK.from ha91 (fun E hv=>(stle (tA Z) (hA Z) (kA Z) Z (Nat.le_trans hv (lb Z)) Z Z Z (bB Z Z (bB Z Z (bB Z Z (bF Z (bB Z Z (bB Z Z (bB Z Z (bB Z Z (bF Z (bA Z)))))))))) Z Z))) Z (ExecOK.from hb92 (fun E hv=>(stle (tA Z) (hA Z) (kA Z) Z (Nat.le_trans hv (lb Z)) Z Z Z (bB Z Z (bB Z Z (bB Z Z (bF Z (bB Z Z (bB Z Z (bB Z Z (bB Z Z (bF Z (bA Z)))))))))) Z Z))) Z Z) ?_
    refine rR Z Z Z (RO.not Z)<|XL.nil<|XQ.seq ?_
    refine XC.cond Z (fun h=>nomatch h) (fun _=>?_)
    refine XC.skip<|XQ.inBlock<|XQ.seq<|XC.region<|rR Z Z Z (RO.binInt Z Z Z)<|rM Z Z Z<|XL.nil ?_
    have e:=sI h5;subst e
    refine XQ.nextM ((w64 (s5.1+1)),y90) (stle (tA Z) (hA Z) (kA Z) Z (Nat.le_trans hv4 (lb Z)) Z Z Z (bB Z Z (bB Z Z (bB Z Z (bF Z (bB Z Z (bB Z Z (bB Z Z (bB Z Z (bF Z (bA Z)))))))))) Z Z) ho5
    replace h5:=condF c88 h5
    refine XC.exit<|XQ.thenE<|XQ.thenE ?_
    have e:=sI h5;subst e
    have e_:_=_:=ho5
    subst e_
    exact XQ.joinX s5.2 (stle tZ (hA Z) (kA Z) Z (Nat.le_trans hv4 (lb Z)) Z Z Z (bB Z Z (bB Z Z (bB Z Z (bF Z (bB Z Z (bB Z Z (bB Z Z (bB Z Z (bF Z (bA Z)))))))))) Z Z) h4
    intro o86 h4
    refine XQ.blockX ?_
    have e:=sI h4;subst e
    exact hQ4 _ _ _ (.inl Z) Z (stle tZ (hA Z) (kA Z) Z (Nat.le_trans hv4 (lb Z)) Z Z Z (bB Z Z (bB Z Z (bB Z Z (bF Z (bB Z Z (bB Z Z (bB Z Z (bB Z Z (bF Z (bA Z)))))))))) Z Z)
   refine XC.exec (rangeFunc_in (e:=.normal) (L0:=7) rfl rfl hc74 rfl (by intro h;cases h) rfl) hro3 ?_
   refine XQ.inBlock<|XQ.seq<|XC.seq<|XC.region ?_
   refine guardK h3 (fun g94 h3=>?_)
   refine rR Z Z Z (RO.loadArr ag_70 Z Z g94) ?_
   refine bindK h3 (fun x95 hx95 h3=>?_)
   refine XL.put Z Z (lb Z) (OpOK.callFun (m42_ok y73 x95 hx95) Z (.cons (.agg (lsub_flat _)) .nil))<|XL.nil<|XQ.seq ?_
   refine XC.cond (b:=x95) Z (fun c96=>?_) (fun c96=>?_)
   replace h3:=condT c96 h3
   refine XC.seq<|XC.region<|XL.eff Z Z (OpOK.store ag_4 Z Z Z Z (lb Z) Z)<|XL.eff Z Z (OpOK.store ag_25 Z Z Z Z (lb Z) Z)<|XL.nil<|XQ.seq<|XC.ret ?_
   have e:=sI h3;subst e
   exact XQ.of (e:=.ret) (st':=⟨[],m18_h29 a1 o20,[(3,some ⟨41,4,(Enc.encL ((a0++([a1])):List Bnd)).length,[]⟩)],12,81,[]⟩) hQn3 (stle tZ (hA Z) (kA Z) Z (Nat.le_trans hv3 (lb Z)) Z Z Z (bB Z Z (bB Z Z (bB Z Z (bF Z (bA Z))))) Z Z)
   replace h3:=condF c96 h3
   refine XC.skip<|XQ.inBlock ?_
   have e:=sI h3;subst e
   exact XQ.of (e:=.normal) (st':=⟨[],m18_h29 a1 o20,[(3,some ⟨41,4,(Enc.encL ((a0++([a1])):List Bnd)).length,[]⟩)],12,81,[]⟩) hQn3 (stle tZ (hA Z) (kA Z) Z (Nat.le_trans hv3 (lb Z)) Z Z Z (bB Z Z (bB Z Z (bB Z Z (bF Z (bA Z))))) Z Z)
  refine sumK (C:=fun q_=>ExecOK Try.prog (some 7) m18_c3 ⟨[(3,.v (.one (.ptr 0 0))),(4,.v (.one (.ptr 1 0))),(5,.v (.one (.ptr 2 0))),(7,.v (.one (.ptr 4 0))),(14,.v (.one (.ptr 8 0)))],m18_h27 a1 o20,[(3,some ⟨41,4,(Enc.encL ((a0++([a1])):List Bnd)).length,[]⟩)],9,81,[]⟩ ((Sum.elim (fun (_:Unit)=>(.normal:Exit)) (fun (_:Unit)=>(.ret:Exit))) q_) ((Sum.elim (fun (y63:Unit)=>(⟨[],m18_h29 a1 o20,[(3,some ⟨41,4,(Enc.encL ((a0++([a1])):List Bnd)).length,[]⟩)],12,81,[]⟩:St)) (fun (y64:Unit)=>(⟨[],m18_h29 a1 o20,[(3,some ⟨41,4,(Enc.encL ((a0++([a1])):List Bnd)).length,[]⟩)],12,81,[]⟩:St))) q_)) hb67 h2 (fun y63 hb67 h2=>?_) (fun y64 hb67 h2=>?_)
  replace hb67:ExecOK Try.prog (some 7) m18_c3 ⟨[(3,.v (.one (.ptr 0 0))),(4,.v (.one (.ptr 1 0))),(5,.v (.one (.ptr 2 0))),(7,.v (.one (.ptr 4 0))),(14,.v (.one (.ptr 8 0)))],m18_h27 a1 o20,[(3,some ⟨41,4,(Enc.encL ((a0++([a1])):List Bnd)).length,[]⟩)],9,81,[]⟩ .normal ⟨[],m18_h29 a1 o20,[(3,some ⟨41,4,(Enc.encL ((a0++([a1])):List Bnd)).length,[]⟩)],12,81,[]⟩:=hb67
  refine XL.put Z Z (lb Z) (OpOK.yield (jump:=none) Z Z Z Z Z (ExecOK.from ha66 (fun E hv=>(stle (tA Z) (hA Z) (kA Z) Z (Nat.le_trans hv (lb Z)) Z Z Z (bB Z Z (bB Z Z (bB Z Z (bF Z (bA Z))))) Z Z))) Z (ExecOK.from hb67 (fun E hv=>(stle (tA Z) (hA Z) (kA Z) Z (Nat.le_trans hv (lb Z)) Z Z Z (bB Z Z (bB Z Z (bB Z Z (bF Z (bA Z))))) Z Z))) Z Z) ?_
  refine rR Z Z Z (RO.not Z)<|rR Z Z Z (RO.pickT Z Z)<|XL.nil ?_
  have e:=sI h2;subst e
  exact XQ.joinRl () (stle (tA Z) (hA Z) (kA Z) Z (Nat.le_trans hv1 (lb Z)) Z Z Z (bB Z Z (bB Z Z (bB Z Z (bF Z (bA Z))))) Z Z) h1
  replace hb67:ExecOK Try.prog (some 7) m18_c3 ⟨[(3,.v (.one (.ptr 0 0))),(4,.v (.one (.ptr 1 0))),(5,.v (.one (.ptr 2 0))),(7,.v (.one (.ptr 4 0))),(14,.v (.one (.ptr 8 0)))],m18_h27 a1 o20,[(3,some ⟨41,4,(Enc.encL ((a0++([a1])):List Bnd)).length,[]⟩)],9,81,[]⟩ .ret ⟨[],m18_h29 a1 o20,[(3,some ⟨41,4,(Enc.encL ((a0++([a1])):List Bnd)).length,[]⟩)],12,81,[]⟩:=hb67
  refine XL.put Z Z (lb Z) (OpOK.yield (jump:=(some .ret)) Z Z Z Z Z (ExecOK.from ha66 (fun E hv=>(stle (tA Z) (hA Z) (kA Z) Z (Nat.le_trans hv (lb Z)) Z Z Z (bB Z Z (bB Z Z (bB Z Z (bF Z (bA Z))))) Z Z))) Z (ExecOK.from hb67 (fun E hv=>(stle (tA Z) (hA Z) (kA Z) Z (Nat.le_trans hv (lb Z)) Z Z Z (bB Z Z (bB Z Z (bB Z Z (bF Z (bA Z))))) Z Z))) Z Z) ?_
  refine rR Z Z Z (RO.not Z)<|rR Z Z Z (RO.pickT Z Z)<|XL.nil ?_
  have e:=sI h2;subst e
  exact XQ.joinRr () (stle (tA Z) (hA Z) (kA Z) Z (Nat.le_trans hv1 (lb Z)) Z Z Z (bB Z Z (bB Z Z (bB Z Z (bF Z (bA Z))))) Z Z) h1
  replace h2:=condF c62 h2
  refine rR Z Z Z (RO.fieldOwn fo_39_1 Z)<|rR Z Z Z (RO.loadOwn ag_37 Z Z Z)<|rR Z Z Z (RO.lenE (α:=LV) sl_37 Z (.d _))<|rR Z Z Z (RO.binInt Z Z Z)<|rR Z Z Z (RO.pickF Z Z)<|rM Z Z Z ?_
  refine XL.case (d:=14) (c:=((a1.lo.vs.length:Int)==0)) Z (fun c97=>?_) (fun c97=>?_)
  replace h2:=condT c97 h2
  refine rM Z Z Z<|rR Z Z Z (RO.fieldOwn fo_39_0 Z)<|rR Z Z Z (RO.loadOwn ag_3 Z Z Z)<|rR Z Z Z (RO.build1 bd_39 Z Z Z) ?_
  refine bindK h2 (fun y100 h3 h2=>?_)
  have ha101:ExecOK Try.prog (some 7) m18_c2 ⟨[(3,.v (.one (.ptr 0 0))),(4,.v (.one (.ptr 1 0))),(5,.v (.one (.ptr 2 0))),(7,.v (.one (.ptr 4 0))),(69,.v (.one (.fn 62 [(5,0)]))),(70,.v (.agg [dI a1.lo.c,dN]))],m18_h23 a1 o20,[(3,some ⟨41,4,(Enc.encL ((a0++([a1])):List Bnd)).length,[]⟩)],8,81,[]⟩ .normal ⟨[(3,.v (.one (.ptr 0 0))),(4,.v (.one (.ptr 1 0))),(5,.v (.one (.ptr 2 0))),(7,.v (.one (.ptr 4 0))),(14,.v (.one (.ptr 8 0)))],m18_h28 a1 o20,[(3,some ⟨41,4,(Enc.encL ((a0++([a1])):List Bnd)).length,[]⟩)],9,81,[]⟩:=by
   refine ExecOK.walk (fun w0 M V0 ro n Q hv3 hro3 hQn3=>?_)
   refine XC.region<|XL.put Z Z (lb Z) (OpOK.alloc z_39 Z)<|XL.eff Z Z (OpOK.store ag_39 Z Z Z Z (lb Z) Z)<|XL.nil ?_
   exact XQ.of hQn3 (stle (tA Z) (hA Z) (kA Z) Z (Nat.le_trans hv3 (lb Z)) Z Z Z (bB Z Z (bB Z Z (bB Z Z (bF Z (bA Z))))) Z Z)
  have hb102:ExecOK Try.prog (some 7) m18_c3 ⟨[(3,.v (.one (.ptr 0 0))),(4,.v (.one (.ptr 1 0))),(5,.v (.one (.ptr 2 0))),(7,.v (.one (.ptr 4 0))),(14,.v (.one (.ptr 8 0)))],m18_h27 a1 o20,[(3,some ⟨41,4,(Enc.encL ((a0++([a1])):List Bnd)).length,[]⟩)],9,81,[]⟩ ((Sum.elim (fun (_:Unit)=>(.normal:Exit)) (fun (_:Unit)=>(.ret:Exit))) y100) ((Sum.elim (fun (y98:Unit)=>(⟨[],m18_h29 a1 o20,[(3,some ⟨41,4,(Enc.encL ((a0++([a1])):List Bnd)).length,[]⟩)],12,81,[]⟩:St)) (fun (y99:Unit)=>(⟨[],m18_h29 a1 o20,[(3,some ⟨41,4,(Enc.encL ((a0++([a1])):List Bnd)).length,[]⟩)],12,81,[]⟩:St))) y100):=by
   refine ExecOK.walk (fun w0 M V0 ro n Q hv3 hro3 hQn3=>?_)
   refine XC.block<|XC.seq<|XC.region ?_
   refine guardK h3 (fun g103 h3=>?_)
   refine rR Z Z Z (RO.loadArr ag_70 Z Z g103)<|XL.put Z Z (lb Z) (OpOK.allocA (l:=(List.replicate 81 (0:Int))) z_70 Z Z) ?_
   refine guardK h3 (fun g104 h3=>?_)
   refine guardK h3 (fun g105 h3=>?_)
   refine XL.eff Z Z (OpOK.storeArr ag_70 Z Z Z g104 g105 Z)<|XL.nil<|XQ.seq<|XC.seq<|XC.seq<|XC.region<|rR Z Z Z (RO.fieldOwn fo_41_1 Z)<|rR Z Z Z (RO.loadOwnAgg ag_39 Z Z Z Z) ?_
   refine bindK h3 (fun y106 h4 h3=>?_)
   have hc107:CallM Try.prog 40 [.agg (cE a1.hi)] ⟨m18_h30 a1 o20,[(3,some ⟨41,4,(Enc.encL ((a0++([a1])):List Bnd)).length,[]⟩)],10⟩ (resOf [.one (.fn 62 [(10,0)])]) ⟨m18_h31 a1 o20,[(3,some ⟨41,4,(Enc.encL ((a0++([a1])):List Bnd)).length,[]⟩)],11⟩:=by
    refine CallM.of_bodyD ⟨[(2,.v (.one (.fn 62 [(10,0)])))],m18_h31 a1 o20,[(3,some ⟨41,4,(Enc.encL ((a0++([a1])):List Bnd)).length,[]⟩)],11,4,[]⟩ Z Z en_40 (lb Z) Z (RAs.tmp Z .nil) (fun w0 M V0 Q hv4 hQ4=>?_)
    simp only [entry]
    refine XC.seq<|XC.region<|XL.put Z Z (lb Z) (OpOK.box Z)<|rA Z Z Z<|XL.nil<|XQ.seq<|XC.seq<|XC.region<|rR Z Z Z (RO.makeFunc1 Z)<|rA Z Z Z<|XL.nil<|XQ.seq<|XC.ret ?_
    have e:=sI h4;subst e
    exact hQ4 _ _ _ (.inr Z) Z (stle (tA Z) (hA Z) (kA Z) Z (Nat.le_trans hv4 (lb Z)) Z Z Z (bB Z Z (bB Z Z (bB Z Z (bF Z (bB Z Z (bB Z Z (bB Z Z (bB Z Z (bF Z (bA Z)))))))))) Z Z)
   refine XL.put Z Z (lb Z) (OpOK.callW Z Z Z hc107 Z (hA Z) (kA Z))<|XL.nil<|XQ.seq<|XC.block<|XC.less (st':=⟨[(4,.v (.one (.ptr 1 0))),(5,.v (.one (.ptr 2 0))),(14,.v (.one (.ptr 8 0))),(15,.v (.one (.ptr 9 0))),(74,.v (.one (.fn 62 [(10,0)])))],m18_h31 a1 o20,[(3,some ⟨41,4,(Enc.encL ((a0++([a1])):List Bnd)).length,[]⟩)],11,81,[]⟩) (stle (tA Z) (hA Z) (kA Z) Z (Nat.le_trans hv3 (lb Z)) Z Z Z (bB Z Z (bB Z Z (bB Z Z (bF Z (bB Z Z (bB Z Z (bB Z Z (bB Z Z (bF Z (bA Z)))))))))) Z Z) ?_
   refine bindK h3 (fun y108 h4 h3=>?_)
   have hc109:CallM Try.prog 62 [.one (.yld 11),.one (.ptr 10 0)] ⟨[(11,.loop .ready none [(4,.v (.one (.ptr 1 0))),(5,.v (.one (.ptr 2 0))),(14,.v (.one (.ptr 8 0))),(15,.v (.one (.ptr 9 0))),(74,.v (.one (.fn 62 [(10,0)])))] 81 #[75] m18_c4 m18_c5 6),(0,.cells 41 (cE a1)),(1,.cells 4 [dB false]),(2,.cells 25 [dI 0]),(4,.cells 70 (flatE o20)),(5,.cells 39 (cE a1.lo)),(6,.obj (.deferred (some []))),(7,.loop .busy none [(3,.v (.one (.ptr 0 0))),(4,.v (.one (.ptr 1 0))),(5,.v (.one (.ptr 2 0))),(7,.v (.one (.ptr 4 0))),(69,.v (.one (.fn 62 [(5,0)])))] 81 #[70] m18_c2 m18_c3 6),(8,.cells 39 [dI a1.lo.c,dN]),(9,.cells 70 (flatE o20)),(10,.cells 39 (cE a1.hi))],[(3,some ⟨41,4,(Enc.encL ((a0++([a1])):List Bnd)).length,[]⟩)],12⟩ (resOf []) ⟨m18_h33 a1 o20 y108,[(3,some ⟨41,4,(Enc.encL ((a0++([a1])):List Bnd)).length,[]⟩)],12⟩:=by
    refine CallM.of_bodyD ⟨[],m18_h33 a1 o20 y108,[(3,some ⟨41,4,(Enc.encL ((a0++([a1])):List Bnd)).length,[]⟩)],12,36,[]⟩ Z Z en_62 (lb Z) Z .nil (fun w0 M V0 Q hv4 hQ4=>?_)
    simp only [entry]
    refine XC.seq<|XC.seq ?_
    refine XC.joinR (fun (v110:(List Int))=>⟨[(0,.v (.one (.yld 11))),(1,.v (.one (.ptr 10 0))),(21,.v (.one (dB false)))],[(0,.cells 41 (cE a1)),(1,.cells 4 [dB false]),(2,.cells 25 [dI 0]),(4,.cells 70 (flatE o20)),(5,.cells 39 (cE a1.lo)),(6,.obj (.deferred (some []))),(7,m18_h26),(8,.cells 39 [dI a1.lo.c,dN]),(9,.cells 70 (flatE v110)),(10,.cells 39 (cE a1.hi)),(11,m18_h32)],[(3,some ⟨41,4,(Enc.encL ((a0++([a1])):List Bnd)).length,[]⟩)],12,36,[]⟩) (fun (v110:(List Int))=>(Option.bind (loopN (m18_l6 a1) FUEL (0,v110)) (fun (o111:(List Int))=>some o111))=some y108) ?_ ?_
    refine bindK h4 (fun w5_ h5 h4=>?_)
    refine XC.region<|rR Z Z Z (RO.fieldOwn fo_39_0 Z)<|rR Z Z Z (RO.loadOwn ag_3 Z Z Z)<|rR Z Z Z (RO.binInt Z Z Z)<|rM Z Z Z ?_
    refine XL.case (d:=8) (c:=(decide (0 < a1.hi.c))) Z (fun c111=>?_) (fun c111=>?_)
    replace h5:=condT c111 h5
    refine XL.no Z Z<|XL.no Z Z<|XL.no Z Z<|XL.no Z Z<|rR Z Z Z (RO.pickT Z Z)<|rM Z Z Z<|rM Z Z Z<|rR Z Z Z (RO.fieldOwn fo_39_0 Z)<|rR Z Z Z (RO.loadOwn ag_3 Z Z Z)<|rR Z Z Z (RO.build1 bd_39 Z Z Z) ?_
    refine bindK h5 (fun y112 h6 h5=>?_)
    have ha113:ExecOK Try.prog (some 11) m18_c4 ⟨[(4,.v (.one (.ptr 1 0))),(5,.v (.one (.ptr 2 0))),(14,.v (.one (.ptr 8 0))),(15,.v (.one (.ptr 9 0))),(74,.v (.one (.fn 62 [(10,0)]))),(75,.v (.agg [dI a1.hi.c,dN]))],m18_h34 a1 o20,[(3,some ⟨41,4,(Enc.encL ((a0++([a1])):List Bnd)).length,[]⟩)],12,81,[]⟩ .normal ⟨[(14,.v (.one (.ptr 8 0))),(15,.v (.one (.ptr 9 0))),(16,.v (.one (.ptr 12 0)))],m18_h37 a1 o20,[(3,some ⟨41,4,(Enc.encL ((a0++([a1])):List Bnd)).length,[]⟩)],13,81,[]⟩:=by
     refine ExecOK.walk (fun w0 M V0 ro n Q hv6 hro6 hQn6=>?_)
     refine XC.region<|XL.put Z Z (lb Z) (OpOK.alloc z_39 Z)<|XL.eff Z Z (OpOK.store ag_39 Z Z Z Z (lb Z) Z)<|XL.nil ?_
     exact XQ.of hQn6 (stle (tA Z) (hA Z) (kA Z) Z (Nat.le_trans hv6 (lb Z)) Z Z Z (bB Z Z (bB Z Z (bB Z Z (bF Z (bB Z Z (bB Z Z (bB Z Z (bB Z Z (bF Z (bA Z)))))))))) Z Z)
    have hb114:ExecOK Try.prog (some 11) m18_c5 ⟨[(14,.v (.one (.ptr 8 0))),(15,.v (.one (.ptr 9 0))),(16,.v (.one (.ptr 12 0)))],m18_h36 a1 o20,[(3,some ⟨41,4,(Enc.encL ((a0++([a1])):List Bnd)).length,[]⟩)],13,81,[]⟩ .normal ⟨[],m18_h38 a1 o20 y112,[(3,some ⟨41,4,(Enc.encL ((a0++([a1])):List Bnd)).length,[]⟩)],15,81,[]⟩:=by
     refine ExecOK.walk (fun w0 M V0 ro n Q hv6 hro6 hQn6=>?_)
     refine XC.block<|XC.region<|rR Z Z Z (RO.loadOwnAgg ag_39 Z Z Z Z)<|rR Z Z Z (RO.loadOwnAgg ag_39 Z Z Z Z) ?_
     refine bindK h6 (fun x115 hx115 h6=>?_)
     refine XL.put Z Z (lb Z) (OpOK.callG (hp1':=[(9,.cells 70 (flatE x115))]) (tk1':=[]) (hpF:=m18_h39 a1 o20) (tkF:=[(3,some ⟨41,4,(Enc.encL ((a0++([a1])):List Bnd)).length,[]⟩)]) (res2:=resOf []) (nx2:=15) [9] Z Z (m41f27_ok a1.hi.c a1.lo.c 1 o20 x115 hx115) Z Z (qF Z qZ) Z Z (gF Z gZ) jZ (hA Z) (kA Z) Z Z Z Z Z (bF Z bZ) Z Z Z Z)<|XL.nil<|XQ.inBlock ?_
     have e:=sI h6;subst e
     exact XQ.of hQn6 (stle tZ (hA Z) (kA Z) Z (Nat.le_trans hv6 (lb Z)) Z Z Z (bB Z Z (bB Z Z (bB Z Z (bF Z (bB Z Z (bB Z Z (bB Z Z (bB Z Z (bF Z (bA Z)))))))))) Z Z)
    refine XL.put Z Z (lb Z) (OpOK.yield (jump:=none) Z Z Z Z Z (ExecOK.from ha113 (fun E hv=>(stle (tA Z) (hA Z) (kA Z) Z (Nat.le_trans hv (lb Z)) Z Z Z (bB Z Z (bB Z Z (bB Z Z (bF Z (bB Z Z (bB Z Z (bB Z Z (bB Z Z (bF Z (bA Z)))))))))) Z Z))) Z (ExecOK.from hb114 (fun E hv=>(stle (tA Z) (hA Z) (kA Z) Z (Nat.le_trans hv (lb Z)) Z Z Z (bB Z Z (bB Z Z (bB Z Z (bF Z (bB Z Z (bB Z Z (bB Z Z (bB Z Z (bF Z (bA Z)))))))))) Z Z))) Z Z) ?_
    refine rR Z Z Z (RO.not Z)<|rR Z Z Z (RO.pickT Z Z)<|XL.nil ?_
    have e:=sI h5;subst e
    exact XQ.joinR y112 (stle (tA Z) (hA Z) (kA Z) Z (Nat.le_trans hv4 (lb Z)) Z Z Z (bB Z Z (bB Z Z (bB Z Z (bF Z (bB Z Z (bB Z Z (bB Z Z (bB Z Z (bF Z (bA Z)))))))))) Z Z) h4
    replace h5:=condF c111 h5
    refine rR Z Z Z (RO.fieldOwn fo_39_1 Z)<|rR Z Z Z (RO.loadOwn ag_37 Z Z Z)<|rR Z Z Z (RO.lenE (α:=LV) sl_37 Z (.d _))<|rR Z Z Z (RO.binInt Z Z Z)<|rR Z Z Z (RO.pickF Z Z)<|rM Z Z Z ?_
    refine XL.case (d:=14) (c:=((a1.hi.vs.length:Int)==0)) Z (fun c116=>?_) (fun c116=>?_)
    replace h5:=condT c116 h5
    refine rM Z Z Z<|rR Z Z Z (RO.fieldOwn fo_39_0 Z)<|rR Z Z Z (RO.loadOwn ag_3 Z Z Z)<|rR Z Z Z (RO.build1 bd_39 Z Z Z) ?_
    refine bindK h5 (fun y117 h6 h5=>?_)
    have ha118:ExecOK Try.prog (some 11) m18_c4 ⟨[(4,.v (.one (.ptr 1 0))),(5,.v (.one (.ptr 2 0))),(14,.v (.one (.ptr 8 0))),(15,.v (.one (.ptr 9 0))),(74,.v (.one (.fn 62 [(10,0)]))),(75,.v (.agg [dI a1.hi.c,dN]))],m18_h34 a1 o20,[(3,some ⟨41,4,(Enc.encL ((a0++([a1])):List Bnd)).length,[]⟩)],12,81,[]⟩ .normal ⟨[(14,.v (.one (.ptr 8 0))),(15,.v (.one (.ptr 9 0))),(16,.v (.one (.ptr 12 0)))],m18_h37 a1 o20,[(3,some ⟨41,4,(Enc.encL ((a0++([a1])):List Bnd)).length,[]⟩)],13,81,[]⟩:=by
     refine ExecOK.walk (fun w0 M V0 ro n Q hv6 hro6 hQn6=>?_)
     refine XC.region<|XL.put Z Z (lb Z) (OpOK.alloc z_39 Z)<|XL.eff Z Z (OpOK.store ag_39 Z Z Z Z (lb Z) Z)<|XL.nil ?_
     exact XQ.of hQn6 (stle (tA Z) (hA Z) (kA Z) Z (Nat.le_trans hv6 (lb Z)) Z Z Z (bB Z Z (bB Z Z (bB Z Z (bF Z (bB Z Z (bB Z Z (bB Z Z (bB Z Z (bF Z (bA Z)))))))))) Z Z)
    have hb119:ExecOK Try.prog (some 11) m18_c5 ⟨[(14,.v (.one (.ptr 8 0))),(15,.v (.one (.ptr 9 0))),(16,.v (.one (.ptr 12 0)))],m18_h36 a1 o20,[(3,some ⟨41,4,(Enc.encL ((a0++([a1])):List Bnd)).length,[]⟩)],13,81,[]⟩ .normal ⟨[],m18_h38 a1 o20 y117,[(3,some ⟨41,4,(Enc.encL ((a0++([a1])):List Bnd)).length,[]⟩)],15,81,[]⟩:=by
     refine ExecOK.walk (fun w0 M V0 ro n Q hv6 hro6 hQn6=>?_)
     refine XC.block<|XC.region<|rR Z Z Z (RO.loadOwnAgg ag_39 Z Z Z Z)<|rR Z Z Z (RO.loadOwnAgg ag_39 Z Z Z Z) ?_
     refine bindK h6 (fun x120 hx120 h6=>?_)
     refine XL.put Z Z (lb Z) (OpOK.callG (hp1':=[(9,.cells 70 (flatE x120))]) (tk1':=[]) (hpF:=m18_h39 a1 o20) (tkF:=[(3,some ⟨41,4,(Enc.encL ((a0++([a1])):List Bnd)).length,[]⟩)]) (res2:=resOf []) (nx2:=15) [9] Z Z (m41f27_ok a1.hi.c a1.lo.c 1 o20 x120 hx120) Z Z (qF Z qZ) Z Z (gF Z gZ) jZ (hA Z) (kA Z) Z Z Z Z Z (bF Z bZ) Z Z Z Z)<|XL.nil<|XQ.inBlock ?_
     have e:=sI h6;subst e
     exact XQ.of hQn6 (stle tZ (hA Z) (kA Z) Z (Nat.le_trans hv6 (lb Z)) Z Z Z (bB Z Z (bB Z Z (bB Z Z (bF Z (bB Z Z (bB Z Z (bB Z Z (bB Z Z (bF Z (bA Z)))))))))) Z Z)
    refine XL.put Z Z (lb Z) (OpOK.yield (jump:=none) Z Z Z Z Z (ExecOK.from ha118 (fun E hv=>(stle (tA Z) (hA Z) (kA Z) Z (Nat.le_trans hv (lb Z)) Z Z Z (bB Z Z (bB Z Z (bB Z Z (bF Z (bB Z Z (bB Z Z (bB Z Z (bB Z Z (bF Z (bA Z)))))))))) Z Z))) Z (ExecOK.from hb119 (fun E hv=>(stle (tA Z) (hA Z) (kA Z) Z (Nat.le_trans hv (lb Z)) Z Z Z (bB Z Z (bB Z Z (bB Z Z (bF Z (bB Z Z (bB Z Z (bB Z Z (bB Z Z (bF Z (bA Z)))))))))) Z Z))) Z Z) ?_
    refine rR Z Z Z (RO.not Z)<|rR Z Z Z (RO.pickT Z Z)<|XL.nil ?_
    have e:=sI h5;subst e
    exact XQ.joinR y117 (stle (tA Z) (hA Z) (kA Z) Z (Nat.le_trans hv4 (lb Z)) Z Z Z (bB Z Z (bB Z Z (bB Z Z (bF Z (bB Z Z (bB Z Z (bB Z Z (bB Z Z (bF Z (bA Z)))))))))) Z Z) h4
    replace h5:=condF c116 h5
    refine XL.no Z Z<|XL.no Z Z<|XL.no Z Z<|XL.no Z Z<|XL.no Z Z<|XL.no Z Z<|rR Z Z Z (RO.pickF Z Z)<|XL.nil ?_
    have e:=sI h5;subst e
    exact XQ.joinR o20 (stle (tA Z) (hA Z) (kA Z) Z (Nat.le_trans hv4 (lb Z)) Z Z Z (bB Z Z (bB Z Z (bB Z Z (bF Z (bB Z Z (bB Z Z (bB Z Z (bB Z Z (bF Z (bA Z)))))))))) Z Z) h4
    intro v110 h4
    refine XQ.seq ?_
    refine XC.cond Z (fun h=>nomatch h) (fun _=>?_)
    refine XC.skip<|XQ.seq<|XC.seq<|XC.region<|rR Z Z Z (RO.fieldOwn fo_39_1 Z)<|rR Z Z Z (RO.loadOwn ag_37 Z Z Z)<|rR Z Z Z (RO.lenE (α:=LV) sl_37 Z (.d _))<|rM Z Z Z<|XL.nil<|XQ.seq<|XC.block ?_
    refine XC.joinX 0 (fun (o121:(List Int))=>⟨[],[(0,.cells 41 (cE a1)),(1,.cells 4 [dB false]),(2,.cells 25 [dI 0]),(4,.cells 70 (flatE o20)),(5,.cells 39 (cE a1.lo)),(6,.obj (.deferred (some []))),(7,m18_h26),(8,.cells 39 [dI a1.lo.c,dN]),(9,.cells 70 (flatE o121)),(10,.cells 39 (cE a1.hi)),(11,m18_h32)],[(3,some ⟨41,4,(Enc.encL ((a0++([a1])):List Bnd)).length,[]⟩)],12,36,[]⟩) (fun (o121:(List Int))=>(some o121)=some y108) ?_ ?_
    refine bindK h4 (fun o122 hl5 h4=>?_)
    refine XC.loopM (m18_l6 a1) (fun s5=>⟨[(0,.v (.one (.yld 11))),(23,.v (.one (dS a1.hi.vs))),(24,.v (.one (dI (a1.hi.vs.length:Int)))),(25,.v (.one (dI s5.1)))],[(0,.cells 41 (cE a1)),(1,.cells 4 [dB false]),(2,.cells 25 [dI 0]),(4,.cells 70 (flatE o20)),(5,.cells 39 (cE a1.lo)),(6,.obj (.deferred (some []))),(7,m18_h26),(8,.cells 39 [dI a1.lo.c,dN]),(9,.cells 70 (flatE s5.2)),(10,.cells 39 (cE a1.hi)),(11,m18_h32)],[(3,some ⟨41,4,(Enc.encL ((a0++([a1])):List Bnd)).length,[]⟩)],12,36,[]⟩) (0,v110) o122 (stle (tA Z) (hA Z) (kA Z) Z (Nat.le_trans hv4 (lb Z)) Z Z Z (bB Z Z (bB Z Z (bB Z Z (bF Z (bB Z Z (bB Z Z (bB Z Z (bB Z Z (bF Z (bA Z)))))))))) Z Z) hl5 (fun s5 n5 oo5 h5 ho5=>?_)
    unfold m18_l6 at h5
    refine XC.seq<|XC.region<|rR Z Z Z (RO.binInt Z Z Z)<|XL.nil<|XQ.seq<|XC.seq ?_
    refine XC.cond (b:=(decide (s5.1 < (a1.hi.vs.length:Int)))) Z (fun c123=>?_) (fun c123=>?_)
    replace h5:=condT c123 h5
    refine XC.skip<|XQ.seq<|XC.seq<|XC.block<|XC.seq<|XC.region ?_
    refine bindK h5 (fun x124 hx124 h5=>?_)
    refine rR Z Z Z (RO.indexE (α:=LV) sl_37 Z (.d _) Z hx124)<|rR Z Z Z (RO.loadPelCE (x124:LV) ag_59 Z)<|XL.put Z Z (lb Z) (OpOK.alloc z_59 Z)<|XL.eff Z Z (OpOK.storeCE (x124:LV) ag_59 Z Z Z Z Z)<|XL.nil<|XQ.seq<|XC.seq<|XC.region<|rM Z Z Z<|rR Z Z Z (RO.loadCE (x124:LV) ag_59 Z Z)<|XL.put Z Z (lb Z) (OpOK.lit1E (α:=LV) (x124) sl_37 z_59 Z Z (lb Z) (lb Z) Z Z (.cons (.d _) (.cons (.d _) .nil)) Z)<|rR Z Z Z (RO.build1 bd_39 Z Z Z) ?_
    refine bindK h5 (fun y125 h6 h5=>?_)
    have ha126:ExecOK Try.prog (some 11) m18_c4 ⟨[(4,.v (.one (.ptr 1 0))),(5,.v (.one (.ptr 2 0))),(14,.v (.one (.ptr 8 0))),(15,.v (.one (.ptr 9 0))),(74,.v (.one (.fn 62 [(10,0)]))),(75,.v (.agg [dI 0,dA 13 ([x124]:List LV)]))],m18_h40 a1 o20 s5 x124,[(3,some ⟨41,4,(Enc.encL ((a0++([a1])):List Bnd)).length,[]⟩),(13,some ⟨59,2,(Enc.encL ([x124]:List LV)).length,[]⟩)],14,81,[]⟩ .normal ⟨[(14,.v (.one (.ptr 8 0))),(15,.v (.one (.ptr 9 0))),(16,.v (.one (.ptr 14 0)))],m18_h42 a1 o20 s5 x124,[(3,some ⟨41,4,(Enc.encL ((a0++([a1])):List Bnd)).length,[]⟩),(13,some ⟨59,2,(Enc.encL ([x124]:List LV)).length,[]⟩)],15,81,[]⟩:=by
     refine ExecOK.walk (fun w0 M V0 ro n Q hv6 hro6 hQn6=>?_)
     refine XC.region<|XL.put Z Z (lb Z) (OpOK.alloc z_39 Z)<|XL.eff Z Z (OpOK.store ag_39 Z Z Z Z (lb Z) Z)<|XL.nil ?_
     exact XQ.of hQn6 (stle (tA Z) (hA Z) (kA Z) Z (Nat.le_trans hv6 (lb Z)) Z Z Z (bB Z Z (bB Z Z (bB Z Z (bF Z (bB Z Z (bB Z Z (bB Z Z (bB Z Z (bF Z (bA Z)))))))))) Z Z)
    have hb127:ExecOK Try.prog (some 11) m18_c5 ⟨[(14,.v (.one (.ptr 8 0))),(15,.v (.one (.ptr 9 0))),(16,.v (.one (.ptr 14 0)))],m18_h41 a1 o20 s5 x124,[(3,some ⟨41,4,(Enc.encL ((a0++([a1])):List Bnd)).length,[]⟩),(13,some ⟨59,2,(Enc.encL ([x124]:List LV)).length,[]⟩)],15,81,[]⟩ .normal ⟨[],m18_h43 a1 o20 y125 x124,[(3,some ⟨41,4,(Enc.encL ((a0++([a1])):List Bnd)).length,[]⟩),(13,some ⟨59,2,(Enc.encL ([x124]:List LV)).length,[]⟩)],17,81,[]⟩:=by
     refine ExecOK.walk (fun w0 M V0 ro n Q hv6 hro6 hQn6=>?_)
     refine XC.block<|XC.region<|rR Z Z Z (RO.loadOwnAgg ag_39 Z Z Z Z)<|rR Z Z Z (RO.loadOwnAgg ag_39 Z Z Z Z) ?_
     refine bindK h6 (fun x128 hx128 h6=>?_)
     refine XL.put Z Z (lb Z) (OpOK.callG (hp1':=[(9,.cells 70 (flatE x128))]) (tk1':=[(13,some ⟨59,2,(Enc.encL ([x124]:List LV)).length,[]⟩)]) (hpF:=m18_h44 a1 o20 x124) (tkF:=[(3,some ⟨41,4,(Enc.encL ((a0++([a1])):List Bnd)).length,[]⟩)]) (res2:=resOf []) (nx2:=17) [9,13] Z Z (m41f28_ok 0 ([x124]) a1.lo.c 1 s5.2 x128 hx128) Z Z (qF Z qZ) Z Z (gF Z gZ) (jR Z jZ) (hA Z) (kA Z) Z Z Z Z Z (bF Z bZ) Z Z Z Z)<|XL.nil<|XQ.inBlock ?_
     have e:=sI h6;subst e
     exact XQ.of hQn6 (stle tZ (hA Z) (kA Z) Z (Nat.le_trans hv6 (lb Z)) Z Z Z (bB Z Z (bB Z Z (bB Z Z (bF Z (bB Z Z (bB Z Z (bB Z Z (bB Z Z (bF Z (bA Z)))))))))) Z Z)
    refine XL.put Z Z (lb Z) (OpOK.yield (jump:=none) Z Z Z Z Z (ExecOK.from ha126 (fun E hv=>(stle (tA Z) (hA Z) (kA Z) Z (Nat.le_trans hv (lb Z)) Z Z Z (bB Z Z (bB Z Z (bB Z Z (bF Z (bB Z Z (bB Z Z (bB Z Z (bB Z Z (bF Z (bA Z)))))))))) Z Z))) Z (ExecOK.from hb127 (fun E hv=>(stle (tA Z) (hA Z) (kA Z) Z (Nat.le_trans hv (lb Z)) Z Z Z (bB Z Z (bB Z Z (bB Z Z (bF Z (bB Z Z (bB Z Z (bB Z Z (bB Z Z (bF Z (bA Z)))))))))) Z Z))) Z Z) ?_
    refine rR Z Z Z (RO.not Z)<|XL.nil<|XQ.seq ?_
    refine XC.cond Z (fun h=>nomatch h) (fun _=>?_)
    refine XC.skip<|XQ.inBlock<|XQ.seq<|XC.region<|rR Z Z Z (RO.binInt Z Z Z)<|rM Z Z Z<|XL.nil ?_
    have e:=sI h5;subst e
    refine XQ.nextM ((w64 (s5.1+1)),y125) (stle (tA Z) (hA Z) (kA Z) Z (Nat.le_trans hv4 (lb Z)) Z Z Z (bB Z Z (bB Z Z (bB Z Z (bF Z (bB Z Z (bB Z Z (bB Z Z (bB Z Z (bF Z (bA Z)))))))))) Z Z) ho5
    replace h5:=condF c123 h5
    refine XC.exit<|XQ.thenE<|XQ.thenE ?_
    have e:=sI h5;subst e
    have e_:_=_:=ho5
    subst e_
    exact XQ.joinX s5.2 (stle tZ (hA Z) (kA Z) Z (Nat.le_trans hv4 (lb Z)) Z Z Z (bB Z Z (bB Z Z (bB Z Z (bF Z (bB Z Z (bB Z Z (bB Z Z (bB Z Z (bF Z (bA Z)))))))))) Z Z) h4
    intro o121 h4
    refine XQ.blockX ?_
    have e:=sI h4;subst e
    exact hQ4 _ _ _ (.inl Z) Z (stle tZ (hA Z) (kA Z) Z (Nat.le_trans hv4 (lb Z)) Z Z Z (bB Z Z (bB Z Z (bB Z Z (bF Z (bB Z Z (bB Z Z (bB Z Z (bB Z Z (bF Z (bA Z)))))))))) Z Z)
   refine XC.exec (rangeFunc_in (e:=.normal) (L0:=7) rfl rfl hc109 rfl (by intro h;cases h) rfl) hro3 ?_
   refine XQ.inBlock<|XQ.seq<|XC.seq<|XC.region ?_
   refine guardK h3 (fun g129 h3=>?_)
   refine rR Z Z Z (RO.loadArr ag_70 Z Z g129) ?_
   refine bindK h3 (fun x130 hx130 h3=>?_)
   refine XL.put Z Z (lb Z) (OpOK.callFun (m42_ok y108 x130 hx130) Z (.cons (.agg (lsub_flat _)) .nil))<|XL.nil<|XQ.seq ?_
   refine XC.cond (b:=x130) Z (fun c131=>?_) (fun c131=>?_)
   replace h3:=condT c131 h3
   refine XC.seq<|XC.region<|XL.eff Z Z (OpOK.store ag_4 Z Z Z Z (lb Z) Z)<|XL.eff Z Z (OpOK.store ag_25 Z Z Z Z (lb Z) Z)<|XL.nil<|XQ.seq<|XC.ret ?_
   have e:=sI h3;subst e
   exact XQ.of (e:=.ret) (st':=⟨[],m18_h29 a1 o20,[(3,some ⟨41,4,(Enc.encL ((a0++([a1])):List Bnd)).length,[]⟩)],12,81,[]⟩) hQn3 (stle tZ (hA Z) (kA Z) Z (Nat.le_trans hv3 (lb Z)) Z Z Z (bB Z Z (bB Z Z (bB Z Z (bF Z (bA Z))))) Z Z)
   replace h3:=condF c131 h3
   refine XC.skip<|XQ.inBlock ?_
   have e:=sI h3;subst e
   exact XQ.of (e:=.normal) (st':=⟨[],m18_h29 a1 o20,[(3,some ⟨41,4,(Enc.encL ((a0++([a1])):List Bnd)).length,[]⟩)],12,81,[]⟩) hQn3 (stle tZ (hA Z) (kA Z) Z (Nat.le_trans hv3 (lb Z)) Z Z Z (bB Z Z (bB Z Z (bB Z Z (bF Z (bA Z))))) Z Z)
  refine sumK (C:=fun q_=>ExecOK Try.prog (some 7) m18_c3 ⟨[(3,.v (.one (.ptr 0 0))),(4,.v (.one (.ptr 1 0))),(5,.v (.one (.ptr 2 0))),(7,.v (.one (.ptr 4 0))),(14,.v (.one (.ptr 8 0)))],m18_h27 a1 o20,[(3,some ⟨41,4,(Enc.encL ((a0++([a1])):List Bnd)).length,[]⟩)],9,81,[]⟩ ((Sum.elim (fun (_:Unit)=>(.normal:Exit)) (fun (_:Unit)=>(.ret:Exit))) q_) ((Sum.elim (fun (y98:Unit)=>(⟨[],m18_h29 a1 o20,[(3,some ⟨41,4,(Enc.encL ((a0++([a1])):List Bnd)).length,[]⟩)],12,81,[]⟩:St)) (fun (y99:Unit)=>(⟨[],m18_h29 a1 o20,[(3,some ⟨41,4,(Enc.encL ((a0++([a1])):List Bnd)).length,[]⟩)],12,81,[]⟩:St))) q_)) hb102 h2 (fun y98 hb102 h2=>?_) (fun y99 hb102 h2=>?_)
  replace hb102:ExecOK Try.prog (some 7) m18_c3 ⟨[(3,.v (.one (.ptr 0 0))),(4,.v (.one (.ptr 1 0))),(5,.v (.one (.ptr 2 0))),(7,.v (.one (.ptr 4 0))),(14,.v (.one (.ptr 8 0)))],m18_h27 a1 o20,[(3,some ⟨41,4,(Enc.encL ((a0++([a1])):List Bnd)).length,[]⟩)],9,81,[]⟩ .normal ⟨[],m18_h29 a1 o20,[(3,some ⟨41,4,(Enc.encL ((a0++([a1])):List Bnd)).length,[]⟩)],12,81,[]⟩:=hb102
  refine XL.put Z Z (lb Z) (OpOK.yield (jump:=none) Z Z Z Z Z (ExecOK.from ha101 (fun E hv=>(stle (tA Z) (hA Z) (kA Z) Z (Nat.le_trans hv (lb Z)) Z Z Z (bB Z Z (bB Z Z (bB Z Z (bF Z (bA Z))))) Z Z))) Z (ExecOK.from hb102 (fun E hv=>(stle (tA Z) (hA Z) (kA Z) Z (Nat.le_trans hv (lb Z)) Z Z Z (bB Z Z (bB Z Z (bB Z Z (bF Z (bA Z))))) Z Z))) Z Z) ?_
  refine rR Z Z Z (RO.not Z)<|rR Z Z Z (RO.pickT Z Z)<|XL.nil ?_
  have e:=sI h2;subst e
  exact XQ.joinRl () (stle (tA Z) (hA Z) (kA Z) Z (Nat.le_trans hv1 (lb Z)) Z Z Z (bB Z Z (bB Z Z (bB Z Z (bF Z (bA Z))))) Z Z) h1
  replace hb102:ExecOK Try.prog (some 7) m18_c3 ⟨[(3,.v (.one (.ptr 0 0))),(4,.v (.one (.ptr 1 0))),(5,.v (.one (.ptr 2 0))),(7,.v (.one (.ptr 4 0))),(14,.v (.one (.ptr 8 0)))],m18_h27 a1 o20,[(3,some ⟨41,4,(Enc.encL ((a0++([a1])):List Bnd)).length,[]⟩)],9,81,[]⟩ .ret ⟨[],m18_h29 a1 o20,[(3,some ⟨41,4,(Enc.encL ((a0++([a1])):List Bnd)).length,[]⟩)],12,81,[]⟩:=hb102
  refine XL.put Z Z (lb Z) (OpOK.yield (jump:=(some .ret)) Z Z Z Z Z (ExecOK.from ha101 (fun E hv=>(stle (tA Z) (hA Z) (kA Z) Z (Nat.le_trans hv (lb Z)) Z Z Z (bB Z Z (bB Z Z (bB Z Z (bF Z (bA Z))))) Z Z))) Z (ExecOK.from hb102 (fun E hv=>(stle (tA Z) (hA Z) (kA Z) Z (Nat.le_trans hv (lb Z)) Z Z Z (bB Z Z (bB Z Z (bB Z Z (bF Z (bA Z))))) Z Z))) Z Z) ?_
  refine rR Z Z Z (RO.not Z)<|rR Z Z Z (RO.pickT Z Z)<|XL.nil ?_
  have e:=sI h2;subst e
  exact XQ.joinRr () (stle (tA Z) (hA Z) (kA Z) Z (Nat.le_trans hv1 (lb Z)) Z Z Z (bB Z Z (bB Z Z (bB Z Z (bF Z (bA Z))))) Z Z) h1
  replace h2:=condF c97 h2
  refine XL.no Z Z<|XL.no Z Z<|XL.no Z Z<|XL.no Z Z<|XL.no Z Z<|XL.no Z Z<|rR Z Z Z (RO.pickF Z Z)<|XL.nil ?_
  have e:=sI h2;subst e
  exact XQ.joinRl () (stle (tA Z) (hA Z) (kA Z) Z (Nat.le_trans hv1 (lb Z)) Z Z Z (bB Z Z (bB Z Z (bB Z Z (bF Z (bA Z))))) Z Z) h1
  intro v60 h1
  refine XQ.seq ?_
  refine XC.cond Z (fun h=>nomatch h) (fun _=>?_)
  refine XC.skip<|XQ.seq<|XC.seq<|XC.region<|rR Z Z Z (RO.fieldOwn fo_39_1 Z)<|rR Z Z Z (RO.loadOwn ag_37 Z Z Z)<|rR Z Z Z (RO.lenE (α:=LV) sl_37 Z (.d _))<|rM Z Z Z<|XL.nil<|XQ.seq<|XC.block ?_
  refine XC.joinX 0 (fun (o132:Unit)=>⟨[],m18_h23 a1 o20,[(3,some ⟨41,4,(Enc.encL ((a0++([a1])):List Bnd)).length,[]⟩)],8,36,[]⟩) (fun (o132:Unit)=>(some (.inl ()))=some y59) ?_ ?_
  refine bindK h1 (fun o133 hl2 h1=>?_)
  refine XC.loopM (m18_l5 a1 o20) (fun s2=>⟨[(0,.v (.one (.yld 7))),(23,.v (.one (dS a1.lo.vs))),(24,.v (.one (dI (a1.lo.vs.length:Int)))),(25,.v (.one (dI s2)))],m18_h23 a1 o20,[(3,some ⟨41,4,(Enc.encL ((a0++([a1])):List Bnd)).length,[]⟩)],8,36,[]⟩) 0 o133 (stle (tA Z) (hA Z) (kA Z) Z (Nat.le_trans hv1 (lb Z)) Z Z Z (bB Z Z (bB Z Z (bB Z Z (bF Z (bA Z))))) Z Z) hl2 (fun s2 n2 oo2 h2 ho2=>?_)
  unfold m18_l5 at h2
  refine XC.seq<|XC.region<|rR Z Z Z (RO.binInt Z Z Z)<|XL.nil<|XQ.seq<|XC.seq ?_
  refine XC.cond (b:=(decide (s2 < (a1.lo.vs.length:Int)))) Z (fun c134=>?_) (fun c134=>?_)
  replace h2:=condT c134 h2
  refine XC.skip<|XQ.seq<|XC.seq<|XC.block<|XC.seq<|XC.region ?_
  refine bindK h2 (fun x135 hx135 h2=>?_)
  refine rR Z Z Z (RO.indexE (α:=LV) sl_37 Z (.d _) Z hx135)<|rR Z Z Z (RO.loadPelCE (x135:LV) ag_59 Z)<|XL.put Z Z (lb Z) (OpOK.alloc z_59 Z)<|XL.eff Z Z (OpOK.storeCE (x135:LV) ag_59 Z Z Z Z Z)<|XL.nil<|XQ.seq<|XC.seq<|XC.region<|rM Z Z Z<|rR Z Z Z (RO.loadCE (x135:LV) ag_59 Z Z)<|XL.put Z Z (lb Z) (OpOK.lit1E (α:=LV) (x135) sl_37 z_59 Z Z (lb Z) (lb Z) Z Z (.cons (.d _) (.cons (.d _) .nil)) Z)<|rR Z Z Z (RO.build1 bd_39 Z Z Z) ?_
  refine bindK h2 (fun y138 h3 h2=>?_)
  have ha139:ExecOK Try.prog (some 7) m18_c2 ⟨[(3,.v (.one (.ptr 0 0))),(4,.v (.one (.ptr 1 0))),(5,.v (.one (.ptr 2 0))),(7,.v (.one (.ptr 4 0))),(69,.v (.one (.fn 62 [(5,0)]))),(70,.v (.agg [dI 0,dA 9 ([x135]:List LV)]))],m18_h45 a1 o20 x135,[(3,some ⟨41,4,(Enc.encL ((a0++([a1])):List Bnd)).length,[]⟩),(9,some ⟨59,2,(Enc.encL ([x135]:List LV)).length,[]⟩)],10,81,[]⟩ .normal ⟨[(3,.v (.one (.ptr 0 0))),(4,.v (.one (.ptr 1 0))),(5,.v (.one (.ptr 2 0))),(7,.v (.one (.ptr 4 0))),(14,.v (.one (.ptr 10 0)))],m18_h47 a1 o20 x135,[(3,some ⟨41,4,(Enc.encL ((a0++([a1])):List Bnd)).length,[]⟩),(9,some ⟨59,2,(Enc.encL ([x135]:List LV)).length,[]⟩)],11,81,[]⟩:=by
   refine ExecOK.walk (fun w0 M V0 ro n Q hv3 hro3 hQn3=>?_)
   refine XC.region<|XL.put Z Z (lb Z) (OpOK.alloc z_39 Z)<|XL.eff Z Z (OpOK.store ag_39 Z Z Z Z (lb Z) Z)<|XL.nil ?_
   exact XQ.of hQn3 (stle (tA Z) (hA Z) (kA Z) Z (Nat.le_trans hv3 (lb Z)) Z Z Z (bB Z Z (bB Z Z (bB Z Z (bF Z (bA Z))))) Z Z)
  have hb140:ExecOK Try.prog (some 7) m18_c3 ⟨[(3,.v (.one (.ptr 0 0))),(4,.v (.one (.ptr 1 0))),(5,.v (.one (.ptr 2 0))),(7,.v (.one (.ptr 4 0))),(14,.v (.one (.ptr 10 0)))],m18_h46 a1 o20 x135,[(3,some ⟨41,4,(Enc.encL ((a0++([a1])):List Bnd)).length,[]⟩),(9,some ⟨59,2,(Enc.encL ([x135]:List LV)).length,[]⟩)],11,81,[]⟩ ((Sum.elim (fun (_:Unit)=>(.normal:Exit)) (fun (_:Unit)=>(.ret:Exit))) y138) ((Sum.elim (fun (y136:Unit)=>(⟨[],m18_h48 a1 o20 x135,[(3,some ⟨41,4,(Enc.encL ((a0++([a1])):List Bnd)).length,[]⟩),(9,some ⟨59,2,(Enc.encL ([x135]:List LV)).length,[]⟩)],14,81,[]⟩:St)) (fun (y137:Unit)=>(⟨[],m18_h48 a1 o20 x135,[(3,some ⟨41,4,(Enc.encL ((a0++([a1])):List Bnd)).length,[]⟩),(9,some ⟨59,2,(Enc.encL ([x135]:List LV)).length,[]⟩)],14,81,[]⟩:St))) y138):=by
   refine ExecOK.walk (fun w0 M V0 ro n Q hv3 hro3 hQn3=>?_)
   refine XC.block<|XC.seq<|XC.region ?_
   refine guardK h3 (fun g141 h3=>?_)
   refine rR Z Z Z (RO.loadArr ag_70 Z Z g141)<|XL.put Z Z (lb Z) (OpOK.allocA (l:=(List.replicate 81 (0:Int))) z_70 Z Z) ?_
   refine guardK h3 (fun g142 h3=>?_)
   refine guardK h3 (fun g143 h3=>?_)
   refine XL.eff Z Z (OpOK.storeArr ag_70 Z Z Z g142 g143 Z)<|XL.nil<|XQ.seq<|XC.seq<|XC.seq<|XC.region<|rR Z Z Z (RO.fieldOwn fo_41_1 Z)<|rR Z Z Z (RO.loadOwnAgg ag_39 Z Z Z Z) ?_
   refine bindK h3 (fun y144 h4 h3=>?_)
   have hc145:CallM Try.prog 40 [.agg (cE a1.hi)] ⟨m18_h49 a1 o20 x135,[(3,some ⟨41,4,(Enc.encL ((a0++([a1])):List Bnd)).length,[]⟩),(9,some ⟨59,2,(Enc.encL ([x135]:List LV)).length,[]⟩)],12⟩ (resOf [.one (.fn 62 [(12,0)])]) ⟨m18_h50 a1 o20 x135,[(3,some ⟨41,4,(Enc.encL ((a0++([a1])):List Bnd)).length,[]⟩),(9,some ⟨59,2,(Enc.encL ([x135]:List LV)).length,[]⟩)],13⟩:=by
    refine CallM.of_bodyD ⟨[(2,.v (.one (.fn 62 [(12,0)])))],m18_h50 a1 o20 x135,[(3,some ⟨41,4,(Enc.encL ((a0++([a1])):List Bnd)).length,[]⟩),(9,some ⟨59,2,(Enc.encL ([x135]:List LV)).length,[]⟩)],13,4,[]⟩ Z Z en_40 (lb Z) Z (RAs.tmp Z .nil) (fun w0 M V0 Q hv4 hQ4=>?_)
    simp only [entry]
    refine XC.seq<|XC.region<|XL.put Z Z (lb Z) (OpOK.box Z)<|rA Z Z Z<|XL.nil<|XQ.seq<|XC.seq<|XC.region<|rR Z Z Z (RO.makeFunc1 Z)<|rA Z Z Z<|XL.nil<|XQ.seq<|XC.ret ?_
    have e:=sI h4;subst e
    exact hQ4 _ _ _ (.inr Z) Z (stle (tA Z) (hA Z) (kA Z) Z (Nat.le_trans hv4 (lb Z)) Z Z Z (bB Z Z (bB Z Z (bB Z Z (bF Z (bB Z Z (bB Z Z (bB Z Z (bB Z Z (bB Z Z (bF Z (bA Z))))))))))) Z Z)
   refine XL.put Z Z (lb Z) (OpOK.callW Z Z Z hc145 Z (hA Z) (kA Z))<|XL.nil<|XQ.seq<|XC.block<|XC.less (st':=⟨[(4,.v (.one (.ptr 1 0))),(5,.v (.one (.ptr 2 0))),(14,.v (.one (.ptr 10 0))),(15,.v (.one (.ptr 11 0))),(74,.v (.one (.fn 62 [(12,0)])))],m18_h50 a1 o20 x135,[(3,some ⟨41,4,(Enc.encL ((a0++([a1])):List Bnd)).length,[]⟩),(9,some ⟨59,2,(Enc.encL ([x135]:List LV)).length,[]⟩)],13,81,[]⟩) (stle (tA Z) (hA Z) (kA Z) Z (Nat.le_trans hv3 (lb Z)) Z Z Z (bB Z Z (bB Z Z (bB Z Z (bF Z (bB Z Z (bB Z Z (bB Z Z (bB Z Z (bB Z Z (bF Z (bA Z))))))))))) Z Z) ?_
   refine bindK h3 (fun y146 h4 h3=>?_)
   have hc147:CallM Try.prog 62 [.one (.yld 13),.one (.ptr 12 0)] ⟨[(13,.loop .ready none [(4,.v (.one (.ptr 1 0))),(5,.v (.one (.ptr 2 0))),(14,.v (.one (.ptr 10 0))),(15,.v (.one (.ptr 11 0))),(74,.v (.one (.fn 62 [(12,0)])))] 81 #[75] m18_c4 m18_c5 6),(0,.cells 41 (cE a1)),(1,.cells 4 [dB false]),(2,.cells 25 [dI 0]),(4,.cells 70 (flatE o20)),(5,.cells 39 (cE a1.lo)),(6,.obj (.deferred (some []))),(7,.loop .busy none [(3,.v (.one (.ptr 0 0))),(4,.v (.one (.ptr 1 0))),(5,.v (.one (.ptr 2 0))),(7,.v (.one (.ptr 4 0))),(69,.v (.one (.fn 62 [(5,0)])))] 81 #[70] m18_c2 m18_c3 6),(8,.cells 59 (cE x135)),(10,.cells 39 [dI 0,dA 9 ([x135]:List LV)]),(11,.cells 70 (flatE o20)),(12,.cells 39 (cE a1.hi))],[(3,some ⟨41,4,(Enc.encL ((a0++([a1])):List Bnd)).length,[]⟩),(9,some ⟨59,2,(Enc.encL ([x135]:List LV)).length,[]⟩)],14⟩ (resOf []) ⟨m18_h52 a1 o20 x135 y146,[(3,some ⟨41,4,(Enc.encL ((a0++([a1])):List Bnd)).length,[]⟩),(9,some ⟨59,2,(Enc.encL ([x135]:List LV)).length,[]⟩)],14⟩:=by
    refine CallM.of_bodyD ⟨[],m18_h52 a1 o20 x135 y146,[(3,some ⟨41,4,(Enc.encL ((a0++([a1])):List Bnd)).length,[]⟩),(9,some ⟨59,2,(Enc.encL ([x135]:List LV)).length,[]⟩)],14,36,[]⟩ Z Z en_62 (lb Z) Z .nil (fun w0 M V0 Q hv4 hQ4=>?_)
    simp only [entry]
    refine XC.seq<|XC.seq ?_
    refine XC.joinR (fun (v148:(List Int))=>⟨[(0,.v (.one (.yld 13))),(1,.v (.one (.ptr 12 0))),(21,.v (.one (dB false)))],[(0,.cells 41 (cE a1)),(1,.cells 4 [dB false]),(2,.cells 25 [dI 0]),(4,.cells 70 (flatE o20)),(5,.cells 39 (cE a1.lo)),(6,.obj (.deferred (some []))),(7,m18_h26),(8,.cells 59 (cE x135)),(10,.cells 39 [dI 0,dA 9 ([x135]:List LV)]),(11,.cells 70 (flatE v148)),(12,.cells 39 (cE a1.hi)),(13,m18_h51)],[(3,some ⟨41,4,(Enc.encL ((a0++([a1])):List Bnd)).length,[]⟩),(9,some ⟨59,2,(Enc.encL ([x135]:List LV)).length,[]⟩)],14,36,[]⟩) (fun (v148:(List Int))=>(Option.bind (loopN (m18_l4 a1 x135) FUEL (0,v148)) (fun (o149:(List Int))=>some o149))=some y146) ?_ ?_
    refine bindK h4 (fun w5_ h5 h4=>?_)
    refine XC.region<|rR Z Z Z (RO.fieldOwn fo_39_0 Z)<|rR Z Z Z (RO.loadOwn ag_3 Z Z Z)<|rR Z Z Z (RO.binInt Z Z Z)<|rM Z Z Z ?_
    refine XL.case (d:=8) (c:=(decide (0 < a1.hi.c))) Z (fun c149=>?_) (fun c149=>?_)
    replace h5:=condT c149 h5
    refine XL.no Z Z<|XL.no Z Z<|XL.no Z Z<|XL.no Z Z<|rR Z Z Z (RO.pickT Z Z)<|rM Z Z Z<|rM Z Z Z<|rR Z Z Z (RO.fieldOwn fo_39_0 Z)<|rR Z Z Z (RO.loadOwn ag_3 Z Z Z)<|rR Z Z Z (RO.build1 bd_39 Z Z Z) ?_
    refine bindK h5 (fun y150 h6 h5=>?_)
    have ha151:ExecOK Try.prog (some 13) m18_c4 ⟨[(4,.v (.one (.ptr 1 0))),(5,.v (.one (.ptr 2 0))),(14,.v (.one (.ptr 10 0))),(15,.v (.one (.ptr 11 0))),(74,.v (.one (.fn 62 [(12,0)]))),(75,.v (.agg [dI a1.hi.c,dN]))],m18_h53 a1 o20 x135,[(3,some ⟨41,4,(Enc.encL ((a0++([a1])):List Bnd)).length,[]⟩),(9,some ⟨59,2,(Enc.encL ([x135]:List LV)).length,[]⟩)],14,81,[]⟩ .normal ⟨[(14,.v (.one (.ptr 10 0))),(15,.v (.one (.ptr 11 0))),(16,.v (.one (.ptr 14 0)))],m18_h56 a1 o20 x135,[(3,some ⟨41,4,(Enc.encL ((a0++([a1])):List Bnd)).length,[]⟩),(9,some ⟨59,2,(Enc.encL ([x135]:List LV)).length,[]⟩)],15,81,[]⟩:=by
     refine ExecOK.walk (fun w0 M V0 ro n Q hv6 hro6 hQn6=>?_)
     refine XC.region<|XL.put Z Z (lb Z) (OpOK.alloc z_39 Z)<|XL.eff Z Z (OpOK.store ag_39 Z Z Z Z (lb Z) Z)<|XL.nil ?_
     exact XQ.of hQn6 (stle (tA Z) (hA Z) (kA Z) Z (Nat.le_trans hv6 (lb Z)) Z Z Z (bB Z Z (bB Z Z (bB Z Z (bF Z (bB Z Z (bB Z Z (bB Z Z (bB Z Z (bB Z Z (bF Z (bA Z))))))))))) Z Z)
    have hb152:ExecOK Try.prog (some 13) m18_c5 ⟨[(14,.v (.one (.ptr 10 0))),(15,.v (.one (.ptr 11 0))),(16,.v (.one (.ptr 14 0)))],m18_h55 a1 o20 x135,[(3,some ⟨41,4,(Enc.encL ((a0++([a1])):List Bnd)).length,[]⟩),(9,some ⟨59,2,(Enc.encL ([x135]:List LV)).length,[]⟩)],15,81,[]⟩ .normal ⟨[],m18_h57 a1 o20 x135 y150,[(3,some ⟨41,4,(Enc.encL ((a0++([a1])):List Bnd)).length,[]⟩),(9,some ⟨59,2,(Enc.encL ([x135]:List LV)).length,[]⟩)],17,81,[]⟩:=by
     refine ExecOK.walk (fun w0 M V0 ro n Q hv6 hro6 hQn6=>?_)
     refine XC.block<|XC.region<|rR Z Z Z (RO.loadOwnAgg ag_39 Z Z Z Z)<|rR Z Z Z (RO.loadOwnAgg ag_39 Z Z Z Z) ?_
     refine bindK h6 (fun x153 hx153 h6=>?_)
     refine XL.put Z Z (lb Z) (OpOK.callG (hp1':=[(11,.cells 70 (flatE x153))]) (tk1':=[(9,some ⟨59,2,(Enc.encL ([x135]:List LV)).length,[]⟩)]) (hpF:=m18_h58 a1 o20 x135) (tkF:=[(3,some ⟨41,4,(Enc.encL ((a0++([a1])):List Bnd)).length,[]⟩)]) (res2:=resOf []) (nx2:=17) [11,9] Z Z (m41f29_ok a1.hi.c 0 ([x135]) 1 o20 x153 hx153) Z Z (qF Z qZ) Z Z (gF Z gZ) (jR Z jZ) (hA Z) (kA Z) Z Z Z Z Z (bF Z bZ) Z Z Z Z)<|XL.nil<|XQ.inBlock ?_
     have e:=sI h6;subst e
     exact XQ.of hQn6 (stle tZ (hA Z) (kA Z) Z (Nat.le_trans hv6 (lb Z)) Z Z Z (bB Z Z (bB Z Z (bB Z Z (bF Z (bB Z Z (bB Z Z (bB Z Z (bB Z Z (bB Z Z (bF Z (bA Z))))))))))) Z Z)
    refine XL.put Z Z (lb Z) (OpOK.yield (jump:=none) Z Z Z Z Z (ExecOK.from ha151 (fun E hv=>(stle (tA Z) (hA Z) (kA Z) Z (Nat.le_trans hv (lb Z)) Z Z Z (bB Z Z (bB Z Z (bB Z Z (bF Z (bB Z Z (bB Z Z (bB Z Z (bB Z Z (bB Z Z (bF Z (bA Z))))))))))) Z Z))) Z (ExecOK.from hb152 (fun E hv=>(stle (tA Z) (hA Z) (kA Z) Z (Nat.le_trans hv (lb Z)) Z Z Z (bB Z Z (bB Z Z (bB Z Z (bF Z (bB Z Z (bB Z Z (bB Z Z (bB Z Z (bB Z Z (bF Z (bA Z))))))))))) Z Z))) Z Z) ?_
    refine rR Z Z Z (RO.not Z)<|rR Z Z Z (RO.pickT Z Z)<|XL.nil ?_
    have e:=sI h5;subst e
    exact XQ.joinR y150 (stle (tA Z) (hA Z) (kA Z) Z (Nat.le_trans hv4 (lb Z)) Z Z Z (bB Z Z (bB Z Z (bB Z Z (bF Z (bB Z Z (bB Z Z (bB Z Z (bB Z Z (bB Z Z (bF Z (bA Z))))))))))) Z Z) h4
    replace h5:=condF c149 h5
    refine rR Z Z Z (RO.fieldOwn fo_39_1 Z)<|rR Z Z Z (RO.loadOwn ag_37 Z Z Z)<|rR Z Z Z (RO.lenE (α:=LV) sl_37 Z (.d _))<|rR Z Z Z (RO.binInt Z Z Z)<|rR Z Z Z (RO.pickF Z Z)<|rM Z Z Z ?_
    refine XL.case (d:=14) (c:=((a1.hi.vs.length:Int)==0)) Z (fun c154=>?_) (fun c154=>?_)
    replace h5:=condT c154 h5
    refine rM Z Z Z<|rR Z Z Z (RO.fieldOwn fo_39_0 Z)<|rR Z Z Z (RO.loadOwn ag_3 Z Z Z)<|rR Z Z Z (RO.build1 bd_39 Z Z Z) ?_
    refine bindK h5 (fun y155 h6 h5=>?_)
    have ha156:ExecOK Try.prog (some 13) m18_c4 ⟨[(4,.v (.one (.ptr 1 0))),(5,.v (.one (.ptr 2 0))),(14,.v (.one (.ptr 10 0))),(15,.v (.one (.ptr 11 0))),(74,.v (.one (.fn 62 [(12,0)]))),(75,.v (.agg [dI a1.hi.c,dN]))],m18_h53 a1 o20 x135,[(3,some ⟨41,4,(Enc.encL ((a0++([a1])):List Bnd)).length,[]⟩),(9,some ⟨59,2,(Enc.encL ([x135]:List LV)).length,[]⟩)],14,81,[]⟩ .normal ⟨[(14,.v (.one (.ptr 10 0))),(15,.v (.one (.ptr 11 0))),(16,.v (.one (.ptr 14 0)))],m18_h56 a1 o20 x135,[(3,some ⟨41,4,(Enc.encL ((a0++([a1])):List Bnd)).length,[]⟩),(9,some ⟨59,2,(Enc.encL ([x135]:List LV)).length,[]⟩)],15,81,[]⟩:=by
     refine ExecOK.walk (fun w0 M V0 ro n Q hv6 hro6 hQn6=>?_)
     refine XC.region<|XL.put Z Z (lb Z) (OpOK.alloc z_39 Z)<|XL.eff Z Z (OpOK.store ag_39 Z Z Z Z (lb Z) Z)<|XL.nil ?_
     exact XQ.of hQn6 (stle (tA Z) (hA Z) (kA Z) Z (Nat.le_trans hv6 (lb Z)) Z Z Z (bB Z Z (bB Z Z (bB Z Z (bF Z (bB Z Z (bB Z Z (bB Z Z (bB Z Z (bB Z Z (bF Z (bA Z))))))))))) Z Z)
    have hb157:ExecOK Try.prog (some 13) m18_c5 ⟨[(14,.v (.one (.ptr 10 0))),(15,.v (.one (.ptr 11 0))),(16,.v (.one (.ptr 14 0)))],m18_h55 a1 o20 x135,[(3,some ⟨41,4,(Enc.encL ((a0++([a1])):List Bnd)).length,[]⟩),(9,some ⟨59,2,(Enc.encL ([x135]:List LV)).length,[]⟩)],15,81,[]⟩ .normal ⟨[],m18_h57 a1 o20 x135 y155,[(3,some ⟨41,4,(Enc.encL ((a0++([a1])):List Bnd)).length,[]⟩),(9,some ⟨59,2,(Enc.encL ([x135]:List LV)).length,[]⟩)],17,81,[]⟩:=by
     refine ExecOK.walk (fun w0 M V0 ro n Q hv6 hro6 hQn6=>?_)
     refine XC.block<|XC.region<|rR Z Z Z (RO.loadOwnAgg ag_39 Z Z Z Z)<|rR Z Z Z (RO.loadOwnAgg ag_39 Z Z Z Z) ?_
     refine bindK h6 (fun x158 hx158 h6=>?_)
     refine XL.put Z Z (lb Z) (OpOK.callG (hp1':=[(11,.cells 70 (flatE x158))]) (tk1':=[(9,some ⟨59,2,(Enc.encL ([x135]:List LV)).length,[]⟩)]) (hpF:=m18_h58 a1 o20 x135) (tkF:=[(3,some ⟨41,4,(Enc.encL ((a0++([a1])):List Bnd)).length,[]⟩)]) (res2:=resOf []) (nx2:=17) [11,9] Z Z (m41f29_ok a1.hi.c 0 ([x135]) 1 o20 x158 hx158) Z Z (qF Z qZ) Z Z (gF Z gZ) (jR Z jZ) (hA Z) (kA Z) Z Z Z Z Z (bF Z bZ) Z Z Z Z)<|XL.nil<|XQ.inBlock ?_
     have e:=sI h6;subst e
     exact XQ.of hQn6 (stle tZ (hA Z) (kA Z) Z (Nat.le_trans hv6 (lb Z)) Z Z Z (bB Z Z (bB Z Z (bB Z Z (bF Z (bB Z Z (bB Z Z (bB Z Z (bB Z Z (bB Z Z (bF Z (bA Z))))))))))) Z Z)
    refine XL.put Z Z (lb Z) (OpOK.yield (jump:=none) Z Z Z Z Z (ExecOK.from ha156 (fun E hv=>(stle (tA Z) (hA Z) (kA Z) Z (Nat.le_trans hv (lb Z)) Z Z Z (bB Z Z (bB Z Z (bB Z Z (bF Z (bB Z Z (bB Z Z (bB Z Z (bB Z Z (bB Z Z (bF Z (bA Z))))))))))) Z Z))) Z (ExecOK.from hb157 (fun E hv=>(stle (tA Z) (hA Z) (kA Z) Z (Nat.le_trans hv (lb Z)) Z Z Z (bB Z Z (bB Z Z (bB Z Z (bF Z (bB Z Z (bB Z Z (bB Z Z (bB Z Z (bB Z Z (bF Z (bA Z))))))))))) Z Z))) Z Z) ?_
    refine rR Z Z Z (RO.not Z)<|rR Z Z Z (RO.pickT Z Z)<|XL.nil ?_
    have e:=sI h5;subst e
    exact XQ.joinR y155 (stle (tA Z) (hA Z) (kA Z) Z (Nat.le_trans hv4 (lb Z)) Z Z Z (bB Z Z (bB Z Z (bB Z Z (bF Z (bB Z Z (bB Z Z (bB Z Z (bB Z Z (bB Z Z (bF Z (bA Z))))))))))) Z Z) h4
    replace h5:=condF c154 h5
    refine XL.no Z Z<|XL.no Z Z<|XL.no Z Z<|XL.no Z Z<|XL.no Z Z<|XL.no Z Z<|rR Z Z Z (RO.pickF Z Z)<|XL.nil ?_
    have e:=sI h5;subst e
    exact XQ.joinR o20 (stle (tA Z) (hA Z) (kA Z) Z (Nat.le_trans hv4 (lb Z)) Z Z Z (bB Z Z (bB Z Z (bB Z Z (bF Z (bB Z Z (bB Z Z (bB Z Z (bB Z Z (bB Z Z (bF Z (bA Z))))))))))) Z Z) h4
    intro v148 h4
    refine XQ.seq ?_
    refine XC.cond Z (fun h=>nomatch h) (fun _=>?_)
    refine XC.skip<|XQ.seq<|XC.seq<|XC.region<|rR Z Z Z (RO.fieldOwn fo_39_1 Z)<|rR Z Z Z (RO.loadOwn ag_37 Z Z Z)<|rR Z Z Z (RO.lenE (α:=LV) sl_37 Z (.d _))<|rM Z Z Z<|XL.nil<|XQ.seq<|XC.block ?_
    refine XC.joinX 0 (fun (o159:(List Int))=>⟨[],[(0,.cells 41 (cE a1)),(1,.cells 4 [dB false]),(2,.cells 25 [dI 0]),(4,.cells 70 (flatE o20)),(5,.cells 39 (cE a1.lo)),(6,.obj (.deferred (some []))),(7,m18_h26),(8,.cells 59 (cE x135)),(10,.cells 39 [dI 0,dA 9 ([x135]:List LV)]),(11,.cells 70 (flatE o159)),(12,.cells 39 (cE a1.hi)),(13,m18_h51)],[(3,some ⟨41,4,(Enc.encL ((a0++([a1])):List Bnd)).length,[]⟩),(9,some ⟨59,2,(Enc.encL ([x135]:List LV)).length,[]⟩)],14,36,[]⟩) (fun (o159:(List Int))=>(some o159)=some y146) ?_ ?_
    refine bindK h4 (fun o160 hl5 h4=>?_)
    refine XC.loopM (m18_l4 a1 x135) (fun s5=>⟨[(0,.v (.one (.yld 13))),(23,.v (.one (dS a1.hi.vs))),(24,.v (.one (dI (a1.hi.vs.length:Int)))),(25,.v (.one (dI s5.1)))],[(0,.cells 41 (cE a1)),(1,.cells 4 [dB false]),(2,.cells 25 [dI 0]),(4,.cells 70 (flatE o20)),(5,.cells 39 (cE a1.lo)),(6,.obj (.deferred (some []))),(7,m18_h26),(8,.cells 59 (cE x135)),(10,.cells 39 [dI 0,dA 9 ([x135]:List LV)]),(11,.cells 70 (flatE s5.2)),(12,.cells 39 (cE a1.hi)),(13,m18_h51)],[(3,some ⟨41,4,(Enc.encL ((a0++([a1])):List Bnd)).length,[]⟩),(9,some ⟨59,2,(Enc.encL ([x135]:List LV)).length,[]⟩)],14,36,[]⟩) (0,v148) o160 (stle (tA Z) (hA Z) (kA Z) Z (Nat.le_trans hv4 (lb Z)) Z Z Z (bB Z Z (bB Z Z (bB Z Z (bF Z (bB Z Z (bB Z Z (bB Z Z (bB Z Z (bB Z Z (bF Z (bA Z))))))))))) Z Z) hl5 (fun s5 n5 oo5 h5 ho5=>?_)
    unfold m18_l4 at h5
    refine XC.seq<|XC.region<|rR Z Z Z (RO.binInt Z Z Z)<|XL.nil<|XQ.seq<|XC.seq ?_
    refine XC.cond (b:=(decide (s5.1 < (a1.hi.vs.length:Int)))) Z (fun c161=>?_) (fun c161=>?_)
    replace h5:=condT c161 h5
    refine XC.skip<|XQ.seq<|XC.seq<|XC.block<|XC.seq<|XC.region ?_
    refine bindK h5 (fun x162 hx162 h5=>?_)
    refine rR Z Z Z (RO.indexE (α:=LV) sl_37 Z (.d _) Z hx162)<|rR Z Z Z (RO.loadPelCE (x162:LV) ag_59 Z)<|XL.put Z Z (lb Z) (OpOK.alloc z_59 Z)<|XL.eff Z Z (OpOK.storeCE (x162:LV) ag_59 Z Z Z Z Z)<|XL.nil<|XQ.seq<|XC.seq<|XC.region<|rM Z Z Z<|rR Z Z Z (RO.loadCE (x162:LV) ag_59 Z Z)<|XL.put Z Z (lb Z) (OpOK.lit1E (α:=LV) (x162) sl_37 z_59 Z Z (lb Z) (lb Z) Z Z (.cons (.d _) (.cons (.d _) .nil)) Z)<|rR Z Z Z (RO.build1 bd_39 Z Z Z) ?_
    refine bindK h5 (fun y163 h6 h5=>?_)
    have ha164:ExecOK Try.prog (some 13) m18_c4 ⟨[(4,.v (.one (.ptr 1 0))),(5,.v (.one (.ptr 2 0))),(14,.v (.one (.ptr 10 0))),(15,.v (.one (.ptr 11 0))),(74,.v (.one (.fn 62 [(12,0)]))),(75,.v (.agg [dI 0,dA 15 ([x162]:List LV)]))],m18_h59 a1 o20 x135 s5 x162,[(3,some ⟨41,4,(Enc.encL ((a0++([a1])):List Bnd)).length,[]⟩),(9,some ⟨59,2,(Enc.encL ([x135]:List LV)).length,[]⟩),(15,some ⟨59,2,(Enc.encL ([x162]:List LV)).length,[]⟩)],16,81,[]⟩ .normal ⟨[(14,.v (.one (.ptr 10 0))),(15,.v (.one (.ptr 11 0))),(16,.v (.one (.ptr 16 0)))],m18_h61 a1 o20 x135 s5 x162,[(3,some ⟨41,4,(Enc.encL ((a0++([a1])):List Bnd)).length,[]⟩),(9,some ⟨59,2,(Enc.encL ([x135]:List LV)).length,[]⟩),(15,some ⟨59,2,(Enc.encL ([x162]:List LV)).length,[]⟩)],17,81,[]⟩:=by
     refine ExecOK.walk (fun w0 M V0 ro n Q hv6 hro6 hQn6=>?_)
     refine XC.region<|XL.put Z Z (lb Z) (OpOK.alloc z_39 Z)<|XL.eff Z Z (OpOK.store ag_39 Z Z Z Z (lb Z) Z)<|XL.nil ?_
     exact XQ.of hQn6 (stle (tA Z) (hA Z) (kA Z) Z (Nat.le_trans hv6 (lb Z)) Z Z Z (bB Z Z (bB Z Z (bB Z Z (bF Z (bB Z Z (bB Z Z (bB Z Z (bB Z Z (bB Z Z (bF Z (bA Z))))))))))) Z Z)
    have hb165:ExecOK Try.prog (some 13) m18_c5 ⟨[(14,.v (.one (.ptr 10 0))),(15,.v (.one (.ptr 11 0))),(16,.v (.one (.ptr 16 0)))],m18_h60 a1 o20 x135 s5 x162,[(3,some ⟨41,4,(Enc.encL ((a0++([a1])):List Bnd)).length,[]⟩),(9,some ⟨59,2,(Enc.encL ([x135]:List LV)).length,[]⟩),(15,some ⟨59,2,(Enc.encL ([x162]:List LV)).length,[]⟩)],17,81,[]⟩ .normal ⟨[],m18_h62 a1 o20 x135 y163 x162,[(3,some ⟨41,4,(Enc.encL ((a0++([a1])):List Bnd)).length,[]⟩),(9,some ⟨59,2,(Enc.encL ([x135]:List LV)).length,[]⟩),(15,some ⟨59,2,(Enc.encL ([x162]:List LV)).length,[]⟩)],19,81,[]⟩:=by
     refine ExecOK.walk (fun w0 M V0 ro n Q hv6 hro6 hQn6=>?_)
     refine XC.block<|XC.region<|rR Z Z Z (RO.loadOwnAgg ag_39 Z Z Z Z)<|rR Z Z Z (RO.loadOwnAgg ag_39 Z Z Z Z) ?_
     refine bindK h6 (fun x166 hx166 h6=>?_)
     refine XL.put Z Z (lb Z) (OpOK.callG (hp1':=[(11,.cells 70 (flatE x166))]) (tk1':=[(15,some ⟨59,2,(Enc.encL ([x162]:List LV)).length,[]⟩),(9,some ⟨59,2,(Enc.encL ([x135]:List LV)).length,[]⟩)]) (hpF:=m18_h63 a1 o20 x135 x162) (tkF:=[(3,some ⟨41,4,(Enc.encL ((a0++([a1])):List Bnd)).length,[]⟩)]) (res2:=resOf []) (nx2:=19) [11,15,9] Z Z (m41f30_ok 0 ([x162]) 0 ([x135]) 1 s5.2 x166 hx166) Z Z (qF Z qZ) Z Z (gF Z gZ) (jR Z (jR Z jZ)) (hA Z) (kA Z) Z Z Z Z Z (bF Z bZ) Z Z Z Z)<|XL.nil<|XQ.inBlock ?_
     have e:=sI h6;subst e
     exact XQ.of hQn6 (stle tZ (hA Z) (kA Z) Z (Nat.le_trans hv6 (lb Z)) Z Z Z (bB Z Z (bB Z Z (bB Z Z (bF Z (bB Z Z (bB Z Z (bB Z Z (bB Z Z (bB Z Z (bF Z (bA Z))))))))))) Z Z)
    refine XL.put Z Z (lb Z) (OpOK.yield (jump:=none) Z Z Z Z Z (ExecOK.from ha164 (fun E hv=>(stle (tA Z) (hA Z) (kA Z) Z (Nat.le_trans hv (lb Z)) Z Z Z (bB Z Z (bB Z Z (bB Z Z (bF Z (bB Z Z (bB Z Z (bB Z Z (bB Z Z (bB Z Z (bF Z (bA Z))))))))))) Z Z))) Z (ExecOK.from hb165 (fun E hv=>(stle (tA Z) (hA Z) (kA Z) Z (Nat.le_trans hv (lb Z)) Z Z Z (bB Z Z (bB Z Z (bB Z Z (bF Z (bB Z Z (bB Z Z (bB Z Z (bB Z Z (bB Z Z (bF Z (bA Z))))))))))) Z Z))) Z Z) ?_
    refine rR Z Z Z (RO.not Z)<|XL.nil<|XQ.seq ?_
    refine XC.cond Z (fun h=>nomatch h) (fun _=>?_)
    refine XC.skip<|XQ.inBlock<|XQ.seq<|XC.region<|rR Z Z Z (RO.binInt Z Z Z)<|rM Z Z Z<|XL.nil ?_
    have e:=sI h5;subst e
    refine XQ.nextM ((w64 (s5.1+1)),y163) (stle (tA Z) (hA Z) (kA Z) Z (Nat.le_trans hv4 (lb Z)) Z Z Z (bB Z Z (bB Z Z (bB Z Z (bF Z (bB Z Z (bB Z Z (bB Z Z (bB Z Z (bB Z Z (bF Z (bA Z))))))))))) Z Z) ho5
    replace h5:=condF c161 h5
    refine XC.exit<|XQ.thenE<|XQ.thenE ?_
    have e:=sI h5;subst e
    have e_:_=_:=ho5
    subst e_
    exact XQ.joinX s5.2 (stle tZ (hA Z) (kA Z) Z (Nat.le_trans hv4 (lb Z)) Z Z Z (bB Z Z (bB Z Z (bB Z Z (bF Z (bB Z Z (bB Z Z (bB Z Z (bB Z Z (bB Z Z (bF Z (bA Z))))))))))) Z Z) h4
    intro o159 h4
    refine XQ.blockX ?_
    have e:=sI h4;subst e
    exact hQ4 _ _ _ (.inl Z) Z (stle tZ (hA Z) (kA Z) Z (Nat.le_trans hv4 (lb Z)) Z Z Z (bB Z Z (bB Z Z (bB Z Z (bF Z (bB Z Z (bB Z Z (bB Z Z (bB Z Z (bB Z Z (bF Z (bA Z))))))))))) Z Z)
   refine XC.exec (rangeFunc_in (e:=.normal) (L0:=7) rfl rfl hc147 rfl (by intro h;cases h) rfl) hro3 ?_
   refine XQ.inBlock<|XQ.seq<|XC.seq<|XC.region ?_
   refine guardK h3 (fun g167 h3=>?_)
   refine rR Z Z Z (RO.loadArr ag_70 Z Z g167) ?_
   refine bindK h3 (fun x168 hx168 h3=>?_)
   refine XL.put Z Z (lb Z) (OpOK.callFun (m42_ok y146 x168 hx168) Z (.cons (.agg (lsub_flat _)) .nil))<|XL.nil<|XQ.seq ?_
   refine XC.cond (b:=x168) Z (fun c169=>?_) (fun c169=>?_)
   replace h3:=condT c169 h3
   refine XC.seq<|XC.region<|XL.eff Z Z (OpOK.store ag_4 Z Z Z Z (lb Z) Z)<|XL.eff Z Z (OpOK.store ag_25 Z Z Z Z (lb Z) Z)<|XL.nil<|XQ.seq<|XC.ret ?_
   have e:=sI h3;subst e
   exact XQ.of (e:=.ret) (st':=⟨[],m18_h48 a1 o20 x135,[(3,some ⟨41,4,(Enc.encL ((a0++([a1])):List Bnd)).length,[]⟩),(9,some ⟨59,2,(Enc.encL ([x135]:List LV)).length,[]⟩)],14,81,[]⟩) hQn3 (stle tZ (hA Z) (kA Z) Z (Nat.le_trans hv3 (lb Z)) Z Z Z (bB Z Z (bB Z Z (bB Z Z (bF Z (bA Z))))) Z Z)
   replace h3:=condF c169 h3
   refine XC.skip<|XQ.inBlock ?_
   have e:=sI h3;subst e
   exact XQ.of (e:=.normal) (st':=⟨[],m18_h48 a1 o20 x135,[(3,some ⟨41,4,(Enc.encL ((a0++([a1])):List Bnd)).length,[]⟩),(9,some ⟨59,2,(Enc.encL ([x135]:List LV)).length,[]⟩)],14,81,[]⟩) hQn3 (stle tZ (hA Z) (kA Z) Z (Nat.le_trans hv3 (lb Z)) Z Z Z (bB Z Z (bB Z Z (bB Z Z (bF Z (bA Z))))) Z Z)
  refine sumK (C:=fun q_=>ExecOK Try.prog (some 7) m18_c3 ⟨[(3,.v (.one (.ptr 0 0))),(4,.v (.one (.ptr 1 0))),(5,.v (.one (.ptr 2 0))),(7,.v (.one (.ptr 4 0))),(14,.v (.one (.ptr 10 0)))],m18_h46 a1 o20 x135,[(3,some ⟨41,4,(Enc.encL ((a0++([a1])):List Bnd)).length,[]⟩),(9,some ⟨59,2,(Enc.encL ([x135]:List LV)).length,[]⟩)],11,81,[]⟩ ((Sum.elim (fun (_:Unit)=>(.normal:Exit)) (fun (_:Unit)=>(.ret:Exit))) q_) ((Sum.elim (fun (y136:Unit)=>(⟨[],m18_h48 a1 o20 x135,[(3,some ⟨41,4,(Enc.encL ((a0++([a1])):List Bnd)).length,[]⟩),(9,some ⟨59,2,(Enc.encL ([x135]:List LV)).length,[]⟩)],14,81,[]⟩:St)) (fun (y137:Unit)=>(⟨[],m18_h48 a1 o20 x135,[(3,some ⟨41,4,(Enc.encL ((a0++([a1])):List Bnd)).length,[]⟩),(9,some ⟨59,2,(Enc.encL ([x135]:List LV)).length,[]⟩)],14,81,[]⟩:St))) q_)) hb140 h2 (fun y136 hb140 h2=>?_) (fun y137 hb140 h2=>?_)
  replace hb140:ExecOK Try.prog (some 7) m18_c3 ⟨[(3,.v (.one (.ptr 0 0))),(4,.v (.one (.ptr 1 0))),(5,.v (.one (.ptr 2 0))),(7,.v (.one (.ptr 4 0))),(14,.v (.one (.ptr 10 0)))],m18_h46 a1 o20 x135,[(3,some ⟨41,4,(Enc.encL ((a0++([a1])):List Bnd)).length,[]⟩),(9,some ⟨59,2,(Enc.encL ([x135]:List LV)).length,[]⟩)],11,81,[]⟩ .normal ⟨[],m18_h48 a1 o20 x135,[(3,some ⟨41,4,(Enc.encL ((a0++([a1])):List Bnd)).length,[]⟩),(9,some ⟨59,2,(Enc.encL ([x135]:List LV)).length,[]⟩)],14,81,[]⟩:=hb140
  refine XL.put Z Z (lb Z) (OpOK.yield (jump:=none) Z Z Z Z Z (ExecOK.from ha139 (fun E hv=>(stle (tA Z) (hA Z) (kA Z) Z (Nat.le_trans hv (lb Z)) Z Z Z (bB Z Z (bB Z Z (bB Z Z (bF Z (bA Z))))) Z Z))) Z (ExecOK.from hb140 (fun E hv=>(stle (tA Z) (hA Z) (kA Z) Z (Nat.le_trans hv (lb Z)) Z Z Z (bB Z Z (bB Z Z (bB Z Z (bF Z (bA Z))))) Z Z))) Z Z) ?_
  refine rR Z Z Z (RO.not Z)<|XL.nil<|XQ.seq ?_
  refine XC.cond Z (fun h=>nomatch h) (fun _=>?_)
  refine XC.skip<|XQ.inBlock<|XQ.seq<|XC.region<|rR Z Z Z (RO.binInt Z Z Z)<|rM Z Z Z<|XL.nil ?_
  have e:=sI h2;subst e
  refine XQ.nextM (w64 (s2+1)) (stle (tA Z) (hA Z) (kA Z) Z (Nat.le_trans hv1 (lb Z)) Z Z Z (bB Z Z (bB Z Z (bB Z Z (bF Z (bA Z))))) Z Z) ho2
  replace hb140:ExecOK Try.prog (some 7) m18_c3 ⟨[(3,.v (.one (.ptr 0 0))),(4,.v (.one (.ptr 1 0))),(5,.v (.one (.ptr 2 0))),(7,.v (.one (.ptr 4 0))),(14,.v (.one (.ptr 10 0)))],m18_h46 a1 o20 x135,[(3,some ⟨41,4,(Enc.encL ((a0++([a1])):List Bnd)).length,[]⟩),(9,some ⟨59,2,(Enc.encL ([x135]:List LV)).length,[]⟩)],11,81,[]⟩ .ret ⟨[],m18_h48 a1 o20 x135,[(3,some ⟨41,4,(Enc.encL ((a0++([a1])):List Bnd)).length,[]⟩),(9,some ⟨59,2,(Enc.encL ([x135]:List LV)).length,[]⟩)],14,81,[]⟩:=hb140
  refine XL.put Z Z (lb Z) (OpOK.yield (jump:=(some .ret)) Z Z Z Z Z (ExecOK.from ha139 (fun E hv=>(stle (tA Z) (hA Z) (kA Z) Z (Nat.le_trans hv (lb Z)) Z Z Z (bB Z Z (bB Z Z (bB Z Z (bF Z (bA Z))))) Z Z))) Z (ExecOK.from hb140 (fun E hv=>(stle (tA Z) (hA Z) (kA Z) Z (Nat.le_trans hv (lb Z)) Z Z Z (bB Z Z (bB Z Z (bB Z Z (bF Z (bA Z))))) Z Z))) Z Z) ?_
  refine rR Z Z Z (RO.not Z)<|XL.nil<|XQ.seq ?_
  refine XC.cond Z (fun _=>?_) (fun h=>nomatch h)
  refine XC.ret ?_
  have e:=sI h2;subst e
  have e_:_=_:=ho2
  subst e_
  try dsimp only [Sum.elim_inl,Sum.elim_inr] at h1
  have e:=sI h1;subst e
  exact hQ1 _ _ _ (.inr Z) Z (show StLe _ _ ⟨[],m18_h25 a1 o20,[(3,some ⟨41,4,(Enc.encL ((a0++([a1])):List Bnd)).length,[]⟩)],12,36,[]⟩ from (stle tZ (hA Z) (kA Z) Z (Nat.le_trans hv1 (lb Z)) Z Z Z (bB Z Z (bB Z Z (bB Z Z (bF Z (bA Z))))) Z Z))
  replace h2:=condF c134 h2
  refine XC.exit<|XQ.thenE<|XQ.thenE ?_
  have e:=sI h2;subst e
  have e_:_=_:=ho2
  subst e_
  exact XQ.joinX () (stle tZ (hA Z) (kA Z) Z (Nat.le_trans hv1 (lb Z)) Z Z Z (bB Z Z (bB Z Z (bB Z Z (bF Z (bA Z))))) Z Z) h1
  intro o132 h1
  refine XQ.blockX ?_
  have e:=sI h1;subst e
  exact hQ1 _ _ _ (.inl Z) Z (show StLe _ _ ⟨[],m18_h23 a1 o20,[(3,some ⟨41,4,(Enc.encL ((a0++([a1])):List Bnd)).length,[]⟩)],8,36,[]⟩ from (stle tZ (hA Z) (kA Z) Z (Nat.le_trans hv1 (lb Z)) Z Z Z (bB Z Z (bB Z Z (bB Z Z (bF Z (bA Z))))) Z Z))
  intro v61 h1
  refine XQ.seq ?_
  refine XC.cond Z (fun _=>?_) (fun h=>nomatch h)
  refine XC.ret ?_
  have e:=sI h1;subst e
  exact hQ1 _ _ _ (.inr Z) Z (show StLe _ _ ⟨[],m18_h25 a1 o20,[(3,some ⟨41,4,(Enc.encL ((a0++([a1])):List Bnd)).length,[]⟩)],12,36,[]⟩ from (stle tZ (hA Z) (kA Z) Z (Nat.le_trans hv1 (lb Z)) Z Z Z (bB Z Z (bB Z Z (bB Z Z (bF Z (bA Z))))) Z Z))
 refine sumK (C:=fun q_=>CallM Try.prog 62 [.one (.yld 7),.one (.ptr 5 0)] ⟨[(7,.loop .ready none [(3,.v (.one (.ptr 0 0))),(4,.v (.one (.ptr 1 0))),(5,.v (.one (.ptr 2 0))),(7,.v (.one (.ptr 4 0))),(69,.v (.one (.fn 62 [(5,0)])))] 81 #[70] m18_c2 m18_c3 6),(6,.obj (.deferred (some []))),(0,.cells 41 (cE a1)),(1,.cells 4 [dB false]),(2,.cells 25 [dI 0]),(4,.cells 70 (flatE o20)),(5,.cells 39 (cE a1.lo))],[(3,some ⟨41,4,(Enc.encL ((a0++([a1])):List Bnd)).length,[]⟩)],8⟩ (resOf []) ⟨(((Sum.elim (fun (y56:Unit)=>(⟨[],m18_h23 a1 o20,[(3,some ⟨41,4,(Enc.encL ((a0++([a1])):List Bnd)).length,[]⟩)],8,36,[]⟩:St)) (fun (y57:Unit)=>(⟨[],m18_h25 a1 o20,[(3,some ⟨41,4,(Enc.encL ((a0++([a1])):List Bnd)).length,[]⟩)],12,36,[]⟩:St)))) q_).hp,(((Sum.elim (fun (y56:Unit)=>(⟨[],m18_h23 a1 o20,[(3,some ⟨41,4,(Enc.encL ((a0++([a1])):List Bnd)).length,[]⟩)],8,36,[]⟩:St)) (fun (y57:Unit)=>(⟨[],m18_h25 a1 o20,[(3,some ⟨41,4,(Enc.encL ((a0++([a1])):List Bnd)).length,[]⟩)],12,36,[]⟩:St)))) q_).tk,(((Sum.elim (fun (y56:Unit)=>(⟨[],m18_h23 a1 o20,[(3,some ⟨41,4,(Enc.encL ((a0++([a1])):List Bnd)).length,[]⟩)],8,36,[]⟩:St)) (fun (y57:Unit)=>(⟨[],m18_h25 a1 o20,[(3,some ⟨41,4,(Enc.encL ((a0++([a1])):List Bnd)).length,[]⟩)],12,36,[]⟩:St)))) q_).nx⟩) hc58 h0 (fun y56 hc58 h0=>?_) (fun y57 hc58 h0=>?_)
 replace hc58:CallM Try.prog 62 [.one (.yld 7),.one (.ptr 5 0)] ⟨[(7,.loop .ready none [(3,.v (.one (.ptr 0 0))),(4,.v (.one (.ptr 1 0))),(5,.v (.one (.ptr 2 0))),(7,.v (.one (.ptr 4 0))),(69,.v (.one (.fn 62 [(5,0)])))] 81 #[70] m18_c2 m18_c3 6),(6,.obj (.deferred (some []))),(0,.cells 41 (cE a1)),(1,.cells 4 [dB false]),(2,.cells 25 [dI 0]),(4,.cells 70 (flatE o20)),(5,.cells 39 (cE a1.lo))],[(3,some ⟨41,4,(Enc.encL ((a0++([a1])):List Bnd)).length,[]⟩)],8⟩ (resOf []) ⟨m18_h23 a1 o20,[(3,some ⟨41,4,(Enc.encL ((a0++([a1])):List Bnd)).length,[]⟩)],8⟩:=hc58
 refine XC.exec (rangeFunc_out (e:=.normal) rfl hc58 rfl rfl (by intro h;cases h) rfl) rfl ?_
 refine XQ.inBlock<|XQ.seq<|XC.seq<|XC.region<|XL.eff Z Z (OpOK.store ag_4 Z Z Z Z (lb Z) Z)<|XL.eff Z Z (OpOK.store ag_25 Z Z Z Z (lb Z) Z)<|XL.nil<|XQ.seq<|XC.ret ?_
 have e:=sI h0;subst e
 exact XQ.retF (fun _ _ h=>h) Z (RAs.cell ag_4 Z Z Z (RAs.cell ag_25 Z Z Z .nil)) (.cons (.one (.d _)) (.cons (.one (.d _)) .nil))
 replace hc58:CallM Try.prog 62 [.one (.yld 7),.one (.ptr 5 0)] ⟨[(7,.loop .ready none [(3,.v (.one (.ptr 0 0))),(4,.v (.one (.ptr 1 0))),(5,.v (.one (.ptr 2 0))),(7,.v (.one (.ptr 4 0))),(69,.v (.one (.fn 62 [(5,0)])))] 81 #[70] m18_c2 m18_c3 6),(6,.obj (.deferred (some []))),(0,.cells 41 (cE a1)),(1,.cells 4 [dB false]),(2,.cells 25 [dI 0]),(4,.cells 70 (flatE o20)),(5,.cells 39 (cE a1.lo))],[(3,some ⟨41,4,(Enc.encL ((a0++([a1])):List Bnd)).length,[]⟩)],8⟩ (resOf []) ⟨m18_h25 a1 o20,[(3,some ⟨41,4,(Enc.encL ((a0++([a1])):List Bnd)).length,[]⟩)],12⟩:=hc58
 refine XC.exec (rangeFunc_out (e:=.ret) rfl hc58 rfl rfl (by intro h;cases h) rfl) rfl ?_
 have e:=sI h0;subst e
 exact XQ.retF (fun _ _ h=>h) Z (RAs.cell ag_4 Z Z Z (RAs.cell ag_25 Z Z Z .nil)) (.cons (.one (.d _)) (.cons (.one (.d _)) .nil))
end Go.Proofs.Ytkimijmiphkddaa
namespace Go.Proofs.Ytkimijmiphkddaa
open Go.RowKit Go.Shelf
theorem en_13:Enters Try.prog 13:=enters_of Try.func13 (by kernel_rfl) rfl
theorem en_29:Enters Try.prog 29:=enters_of Try.func29 (by kernel_rfl) rfl
theorem en_52:Enters Try.prog 52:=enters_of Try.func52 (by kernel_rfl) rfl
theorem en_53:Enters Try.prog 53:=enters_of Try.func53 (by kernel_rfl) rfl
theorem en_75:Enters Try.prog 75:=enters_of Try.func75 (by kernel_rfl) rfl
def m53f5 (a0:Int) (a1:Int):Option Unit :=
 some ()
theorem m53f5_ok (a0:Int) (a1:Int) (r:Unit) (h0:m53f5 a0 a1=some r):CallM Try.prog 53 [.one (dI a0),.one (.ptr 0 0)] ⟨[(0,.cells 3 [dI a1])],[],1⟩ (resOf [.one (dB (decide (a1≤a0)))]) ⟨[(0,.cells 3 [dI a1])],[],1⟩:=by
 unfold m53f5 at h0
 refine CallM.of_bodyD ⟨[(3,.v (.one (dB (decide (a1≤a0)))))],[(0,.cells 3 [dI a1])],[],1,7,[]⟩ Z Z en_53 (lb Z) Z (RAs.tmp Z .nil) (fun w0 M V0 Q hv0 hQ0=>?_)
 simp only [entry]
 refine XC.seq<|XC.region<|rA Z Z Z<|XL.nil<|XQ.seq<|XC.seq<|XC.region<|rM Z Z Z<|rR Z Z Z (RO.loadOwn ag_3 Z Z Z)<|rR Z Z Z (RO.binInt Z Z Z)<|rA Z Z Z<|XL.nil<|XQ.seq<|XC.ret ?_
 have e:=sI h0;subst e
 exact hQ0 _ _ _ (.inr Z) Z (sL (Nat.le_trans hv0 (lb Z)) Z Z Z Z Z)
def m75f4_l0 (a0:List Int) (a1:Int) (s1:Int):Option (LO Int (Unit⊕Int)) :=
 cond (decide (s1 < (a0.length:Int)))
   (Option.bind (idx a0 s1) fun (x3:Int) =>
 Option.bind (m53f5 x3 a1) fun (x4:Unit) =>
 cond (decide (a1≤x3))
   (some (.done (.inr s1)))
   (some (.next (w64 (s1+1)))))
   (some (.done (.inl ())))
def m75f4 (a0:List Int) (a1:Int):Option Int :=
 Option.bind (loopN (m75f4_l0 a0 a1) FUEL 0) (Sum.elim (fun (o1:Unit)=>some (-1)) (fun o=>some o))
theorem m75f4_ok (a0:List Int) (a1:Int) (r:Int) (h0:m75f4 a0 a1=some r):CallM Try.prog 75 [.one (dS a0),.one (.fn 53 [(0,0)])] ⟨[(0,.cells 3 [dI a1])],[],1⟩ (resOf [.one (dI r)]) ⟨[(0,.cells 3 [dI a1])],[],1⟩:=by
 unfold m75f4 at h0
 refine CallM.of_bodyD ⟨[(4,.v (.one (dI r)))],[(0,.cells 3 [dI a1])],[],1,19,[]⟩ Z Z en_75 (lb Z) Z (RAs.tmp Z .nil) (fun w0 M V0 Q hv0 hQ0=>?_)
 simp only [entry]
 refine XC.seq<|XC.region<|rA Z Z Z<|XL.nil<|XQ.seq<|XC.seq<|XC.seq<|XC.region<|rM Z Z Z<|rR Z Z Z (RO.lenE (α:=Int) sl_66 Z (.d _))<|rM Z Z Z<|XL.nil<|XQ.seq<|XC.block ?_
 refine XC.joinX 0 (fun (o1:Unit)=>⟨[],[(0,.cells 3 [dI a1])],[],1,19,[]⟩) (fun (o1:Unit)=>(some (-1))=some r) ?_ ?_
 refine bindK h0 (fun o2 hl1 h0=>?_)
 refine XC.loopM (m75f4_l0 a0 a1) (fun s1=>⟨[(0,.v (.one (dS a0))),(1,.v (.one (.fn 53 [(0,0)]))),(7,.v (.one (dI (a0.length:Int)))),(8,.v (.one (dI s1)))],[(0,.cells 3 [dI a1])],[],1,19,[]⟩) 0 o2 (sL (Nat.le_trans hv0 (lb Z)) Z Z Z Z Z) hl1 (fun s1 n1 oo1 h1 ho1=>?_)
 unfold m75f4_l0 at h1
 refine XC.seq<|XC.region<|rR Z Z Z (RO.binInt Z Z Z)<|XL.nil<|XQ.seq<|XC.seq ?_
 refine XC.cond (b:=(decide (s1 < (a0.length:Int)))) Z (fun c3=>?_) (fun c3=>?_)
 replace h1:=condT c3 h1
 refine XC.skip<|XQ.seq<|XC.seq<|XC.block<|XC.seq<|XC.region<|rM Z Z Z<|rA Z Z Z<|XL.nil<|XQ.seq<|XC.seq<|XC.region<|rM Z Z Z<|rM Z Z Z ?_
 refine rM Z Z Z ?_
 refine bindK h1 (fun x4 hx4 h1=>?_)
 refine rR Z Z Z (RO.indexE (α:=Int) sl_66 Z (.d _) Z hx4)<|rR Z Z Z (RO.loadPel ag_3 Z Z) ?_
 refine bindK h1 (fun x5 hx5 h1=>?_)
 refine XL.put Z Z (lb Z) (OpOK.callG (hp1':=[(0,.cells 3 [dI a1])]) (tk1':=[]) (hpF:=[]) (tkF:=[]) (res2:=resOf [.one (dB (decide (a1≤x4)))]) (nx2:=1) [0] Z Z (m53f5_ok x4 a1 x5 hx5) Z Z (qB Z Z qZ) Z Z (gR Z gZ) jZ hZ kZ Z Z Z Z Z (bA Z) Z Z Z Z)<|XL.nil<|XQ.seq ?_
 refine XC.cond (b:=(decide (a1≤x4))) Z (fun c6=>?_) (fun c6=>?_)
 replace h1:=condT c6 h1
 refine XC.seq<|XC.region<|rM Z Z Z<|rA Z Z Z<|XL.nil<|XQ.seq<|XC.ret ?_
 have e:=sI h1;subst e
 have e_:_=_:=ho1
 subst e_
 try dsimp only [Sum.elim_inl,Sum.elim_inr] at h0
 have e:=sI h0;subst e
 exact hQ0 _ _ _ (.inr Z) Z (sL (Nat.le_trans hv0 (lb Z)) Z Z Z Z Z)
 replace h1:=condF c6 h1
 refine XC.skip<|XQ.inBlock<|XQ.seq<|XC.region<|rR Z Z Z (RO.binInt Z Z Z)<|rM Z Z Z<|XL.nil ?_
 have e:=sI h1;subst e
 refine XQ.nextM (w64 (s1+1)) (sL (Nat.le_trans hv0 (lb Z)) Z Z Z Z Z) ho1
 replace h1:=condF c3 h1
 refine XC.exit<|XQ.thenE<|XQ.thenE ?_
 have e:=sI h1;subst e
 have e_:_=_:=ho1
 subst e_
 exact XQ.joinX () (sL (Nat.le_trans hv0 (lb Z)) Z Z Z Z Z) h0
 intro o1 h0
 refine XQ.blockX<|XQ.seq<|XC.seq<|XC.region<|rA Z Z Z<|XL.nil<|XQ.seq<|XC.ret ?_
 have e:=sI h0;subst e
 exact hQ0 _ _ _ (.inr Z) Z (sL (Nat.le_trans hv0 (lb Z)) Z Z Z Z Z)
def m52f3 (a0:List Int) (a1:Int):Option Bool :=
 Option.bind (m75f4 a0 a1) fun (x1:Int) =>
 some (decide (0≤x1))
theorem m52f3_ok (a0:List Int) (a1:Int) (r:Bool) (h0:m52f3 a0 a1=some r):CallM Try.prog 52 [.one (dS a0),.one (.fn 53 [(0,0)])] ⟨[(0,.cells 3 [dI a1])],[],1⟩ (resOf [.one (dB r)]) ⟨[(0,.cells 3 [dI a1])],[],1⟩:=by
 unfold m52f3 at h0
 refine CallM.of_bodyD ⟨[(4,.v (.one (dB r)))],[(0,.cells 3 [dI a1])],[],1,9,[]⟩ Z Z en_52 (lb Z) Z (RAs.tmp Z .nil) (fun w0 M V0 Q hv0 hQ0=>?_)
 simp only [entry]
 refine XC.seq<|XC.region<|rA Z Z Z<|XL.nil<|XQ.seq<|XC.seq<|XC.region<|rM Z Z Z<|rM Z Z Z ?_
 refine bindK h0 (fun x1 hx1 h0=>?_)
 refine XL.put Z Z (lb Z) (OpOK.callG (hp1':=[(0,.cells 3 [dI a1])]) (tk1':=[]) (hpF:=[]) (tkF:=[]) (res2:=resOf [.one (dI x1)]) (nx2:=1) [0] Z Z (m75f4_ok a0 a1 x1 hx1) Z Z (qB Z Z qZ) Z Z (gR Z gZ) jZ hZ kZ Z Z Z Z Z (bA Z) Z Z Z Z)<|rR Z Z Z (RO.binInt Z Z Z)<|rA Z Z Z<|XL.nil<|XQ.seq<|XC.ret ?_
 have e:=sI h0;subst e
 exact hQ0 _ _ _ (.inr Z) Z (sL (Nat.le_trans hv0 (lb Z)) Z Z Z Z Z)
def m29 (a0:Lvl) (a1:Int):Option Bool :=
 Option.bind (m38 a0) fun (x1:(List Int)) =>
 Option.bind (m52f3 x1 a1) fun (x2:Bool) =>
 some x2
theorem m29_ok (a0:Lvl) (a1:Int) (r:Bool) (h0:m29 a0 a1=some r):Fun Try.prog 29 [.agg (cE a0),.one (dI a1)] (resOf [.one (dB r)]):=by
 unfold m29 at h0
 refine Fun.of_bodyM 9 9 Try.func29 Z en_29 Z (lb Z) (fun S w=>?_)
 simp only [entry]
 refine XC.seq<|XC.region<|XL.put Z Z (lb Z) (OpOK.box Z)<|XL.put Z Z (lb Z) (OpOK.box Z)<|rA Z Z Z<|XL.nil<|XQ.seq<|XC.seq<|XC.region<|rR Z Z Z (RO.loadCE (a0:Lvl) ag_39 Z Z) ?_
 refine bindK h0 (fun x1 hx1 h0=>?_)
 refine XL.put Z Z (lb Z) (OpOK.callFun (m38_ok a0 x1 hx1) Z (.cons (.agg (.cons (.d _) (.cons (.d _) .nil))) .nil))<|rR Z Z Z (RO.makeFunc1 Z) ?_
 refine bindK h0 (fun x2 hx2 h0=>?_)
 refine XL.put Z Z (lb Z) (OpOK.callG (hp1':=[(1,.cells 3 [dI a1])]) (tk1':=[]) (hpF:=[(0,.cells 39 (cE a0))]) (tkF:=[]) (res2:=resOf [.one (dB x2)]) (nx2:=2) [1] Z Z (m52f3_ok x1 a1 x2 hx2) Z Z (qB Z Z qZ) Z Z (gR Z gZ) jZ (hA Z) kZ Z Z Z Z Z (bA Z) Z Z Z Z)<|rA Z Z Z<|XL.nil<|XQ.seq<|XC.ret ?_
 have e:=sI h0;subst e
 exact XQ.retF (fun _ _ h=>h) Z (RAs.tmp Z .nil) (.cons (.one (.d _)) .nil)
def m13_l0 (a1:List Bnd) (a0:Int) (s1:Int):Option (LO Int (Unit⊕(Int×Int))) :=
 cond (decide (s1 < (a1.length:Int)))
   (Option.bind (idx a1 s1) fun (x5:Bnd) =>
 Option.bind (Option.bind (m28 x5.lo) fun (x7:Bool) =>
 cond (!x7)
   (some true)
   (Option.bind (m28 x5.hi) fun (x9:Bool) =>
 some (!x9))) (fun (v6:Bool)=>cond v6
   (some (.done (.inr (s1,3))))
   (Option.bind (Option.bind (m29 x5.lo a0) fun (x9:Bool) =>
 cond x9
   (some true)
   (Option.bind (m29 x5.hi a0) fun (x11:Bool) =>
 some x11)) (fun (v8:Bool)=>cond v8
   (some (.done (.inr (s1,24))))
   (some (.next (w64 (s1+1))))))))
   (some (.done (.inl ())))
def m13 (a0:Int) (a1:List Bnd):Option (Int×Int) :=
 Option.bind (cond (decide (a0 < 0))
   (some true)
   (some (decide (2000 < a0)))) (fun (v1:Bool)=>cond v1
   (some (0,2))
   (Option.bind (loopN (m13_l0 a1 a0) FUEL 0) (Sum.elim (fun (o3:Unit)=>some (0,0)) (fun o=>some o))))
theorem m13_ok (a0:Int) (a1:List Bnd) (r:Int×Int) (h0:m13 a0 a1=some r):Fun Try.prog 13 [.one (dI a0),.one (dS a1)] (resOf [.one (dI r.1),.one (dI r.2)]):=by
 unfold m13 at h0
 refine Fun.of_bodyM 9 46 Try.func13 Z en_13 Z (lb Z) (fun S w=>?_)
 simp only [entry]
 refine XC.seq<|XC.region<|rA Z Z Z<|rA Z Z Z<|XL.nil<|XQ.seq<|XC.seq<|XC.seq ?_
 refine XC.joinR (fun (v1:Bool)=>⟨[(0,.v (.one (dI a0))),(1,.v (.one (dS a1))),(13,.v (.one (dB v1)))],[],[],0,46,[]⟩) (fun (v1:Bool)=>(cond v1
     (some (0,2))
     (Option.bind (loopN (m13_l0 a1 a0) FUEL 0) (Sum.elim (fun (o3:Unit)=>some (0,0)) (fun o=>some o))))=some r) ?_ ?_
 refine bindK h0 (fun w1_ h1 h0=>?_)
 refine XC.region<|rM Z Z Z<|rR Z Z Z (RO.binInt Z Z Z)<|rM Z Z Z ?_
 refine XL.case (d:=10) (c:=(decide (a0 < 0))) Z (fun c2=>?_) (fun c2=>?_)
 replace h1:=condT c2 h1
 refine XL.no Z Z<|XL.no Z Z<|rR Z Z Z (RO.pickT Z Z)<|XL.nil ?_
 have e:=sI h1;subst e
 exact XQ.joinR true (sL (Nat.zero_le _) Z Z Z Z Z) h0
 replace h1:=condF c2 h1
 refine rM Z Z Z<|rR Z Z Z (RO.binInt Z Z Z)<|rR Z Z Z (RO.pickF Z Z)<|XL.nil ?_
 have e:=sI h1;subst e
 exact XQ.joinR (decide (2000 < a0)) (sL (Nat.zero_le _) Z Z Z Z Z) h0
 intro v1 h0
 refine XQ.seq ?_
 refine XC.cond (b:=v1) Z (fun c3=>?_) (fun c3=>?_)
 replace h0:=condT c3 h0
 refine XC.seq<|XC.region<|rA Z Z Z<|rA Z Z Z<|XL.nil<|XQ.seq<|XC.ret ?_
 have e:=sI h0;subst e
 exact XQ.retF (fun _ _ h=>h) Z (RAs.tmp Z (RAs.tmp Z .nil)) (.cons (.one (.d _)) (.cons (.one (.d _)) .nil))
 replace h0:=condF c3 h0
 refine XC.skip<|XQ.seq<|XC.seq<|XC.seq<|XC.region<|rM Z Z Z<|rR Z Z Z (RO.lenE (α:=Bnd) sl_22 Z (.d _))<|rM Z Z Z<|XL.nil<|XQ.seq<|XC.block ?_
 refine XC.joinX 0 (fun (o4:Unit)=>⟨[],[],[],0,46,[]⟩) (fun (o4:Unit)=>(some (0,0))=some r) ?_ ?_
 refine bindK h0 (fun o5 hl1 h0=>?_)
 refine XC.loopM (m13_l0 a1 a0) (fun s1=>⟨[(0,.v (.one (dI a0))),(14,.v (.one (dS a1))),(15,.v (.one (dI (a1.length:Int)))),(16,.v (.one (dI s1)))],[],[],0,46,[]⟩) 0 o5 (sL (Nat.zero_le _) Z Z Z Z Z) hl1 (fun s1 n1 oo1 h1 ho1=>?_)
 unfold m13_l0 at h1
 refine XC.seq<|XC.region<|rR Z Z Z (RO.binInt Z Z Z)<|XL.nil<|XQ.seq<|XC.seq ?_
 refine XC.cond (b:=(decide (s1 < (a1.length:Int)))) Z (fun c6=>?_) (fun c6=>?_)
 replace h1:=condT c6 h1
 refine XC.skip<|XQ.seq<|XC.seq<|XC.block<|XC.seq<|XC.region<|rM Z Z Z ?_
 refine bindK h1 (fun x7 hx7 h1=>?_)
 refine rR Z Z Z (RO.indexE (α:=Bnd) sl_22 Z (.d _) Z hx7)<|rR Z Z Z (RO.loadPelCE (x7:Bnd) ag_41 Z)<|XL.put Z Z (lb Z) (OpOK.alloc z_41 Z)<|rA Z Z Z<|XL.eff Z Z (OpOK.storeCE (x7:Bnd) ag_41 Z Z Z Z Z)<|XL.nil<|XQ.seq<|XC.block<|XC.seq ?_
 refine XC.joinR (fun (v8:Bool)=>⟨[(0,.v (.one (dI a0))),(6,.v (.one (dI s1))),(7,.v (.one (.ptr 0 0))),(14,.v (.one (dS a1))),(15,.v (.one (dI (a1.length:Int)))),(16,.v (.one (dI s1))),(21,.v (.one (dB v8)))],[(0,.cells 41 (cE x7))],[],1,46,[]⟩) (fun (v8:Bool)=>(cond v8
     (some (.done (.inr (s1,3))))
     (Option.bind (Option.bind (m29 x7.lo a0) fun (x11:Bool) =>
   cond x11
     (some true)
     (Option.bind (m29 x7.hi a0) fun (x13:Bool) =>
   some x13)) (fun (v10:Bool)=>cond v10
     (some (.done (.inr (s1,24))))
     (some (.next (w64 (s1+1)))))))=some oo1) ?_ ?_
 refine bindK h1 (fun w2_ h2 h1=>?_)
 refine XC.region<|rR Z Z Z (RO.fieldOwn fo_41_0 Z)<|rR Z Z Z (RO.loadOwnAgg ag_39 Z Z Z Z) ?_
 refine bindK h2 (fun x9 hx9 h2=>?_)
 refine XL.put Z Z (lb Z) (OpOK.callFun (m28_ok x7.lo x9 hx9) Z (.cons (.agg (.cons (.d _) (.cons (.d _) .nil))) .nil))<|rR Z Z Z (RO.not Z)<|rM Z Z Z ?_
 refine XL.case (d:=26) (c:=(!x9)) Z (fun c10=>?_) (fun c10=>?_)
 replace h2:=condT c10 h2
 refine XL.no Z Z<|XL.no Z Z<|XL.no Z Z<|XL.no Z Z<|rR Z Z Z (RO.pickT Z Z)<|rA Z Z Z<|XL.nil ?_
 have e:=sI h2;subst e
 exact XQ.joinR true (sL (Nat.zero_le _) Z Z Z Z Z) h1
 replace h2:=condF c10 h2
 refine rR Z Z Z (RO.fieldOwn fo_41_1 Z)<|rR Z Z Z (RO.loadOwnAgg ag_39 Z Z Z Z) ?_
 refine bindK h2 (fun x11 hx11 h2=>?_)
 refine XL.put Z Z (lb Z) (OpOK.callFun (m28_ok x7.hi x11 hx11) Z (.cons (.agg (.cons (.d _) (.cons (.d _) .nil))) .nil))<|rR Z Z Z (RO.not Z)<|rR Z Z Z (RO.pickF Z Z)<|rA Z Z Z<|XL.nil ?_
 have e:=sI h2;subst e
 exact XQ.joinR (!x11) (sL (Nat.zero_le _) Z Z Z Z Z) h1
 intro v8 h1
 refine XQ.seq ?_
 refine XC.cond (b:=v8) Z (fun c12=>?_) (fun c12=>?_)
 replace h1:=condT c12 h1
 refine XC.seq<|XC.region<|rM Z Z Z<|rA Z Z Z<|rA Z Z Z<|XL.nil<|XQ.seq<|XC.ret ?_
 have e:=sI h1;subst e
 have e_:_=_:=ho1
 subst e_
 try dsimp only [Sum.elim_inl,Sum.elim_inr] at h0
 have e:=sI h0;subst e
 exact XQ.retF (fun _ _ h=>h) Z (RAs.tmp Z (RAs.tmp Z .nil)) (.cons (.one (.d _)) (.cons (.one (.d _)) .nil))
 replace h1:=condF c12 h1
 refine XC.seq ?_
 refine XC.joinR (fun (v13:Bool)=>⟨[(0,.v (.one (dI a0))),(6,.v (.one (dI s1))),(14,.v (.one (dS a1))),(15,.v (.one (dI (a1.length:Int)))),(16,.v (.one (dI s1))),(33,.v (.one (dB v13)))],[(0,.cells 41 (cE x7))],[],1,46,[]⟩) (fun (v13:Bool)=>(cond v13
     (some (.done (.inr (s1,24))))
     (some (.next (w64 (s1+1)))))=some oo1) ?_ ?_
 refine bindK h1 (fun w2_ h2 h1=>?_)
 refine XC.region<|rR Z Z Z (RO.fieldOwn fo_41_0 Z)<|rR Z Z Z (RO.loadOwnAgg ag_39 Z Z Z Z)<|rM Z Z Z ?_
 refine bindK h2 (fun x14 hx14 h2=>?_)
 refine XL.put Z Z (lb Z) (OpOK.callFun (m29_ok x7.lo a0 x14 hx14) Z (.cons (.agg (.cons (.d _) (.cons (.d _) .nil))) (.cons (.one (.d _)) .nil)))<|rM Z Z Z ?_
 refine XL.case (d:=38) (c:=x14) Z (fun c15=>?_) (fun c15=>?_)
 replace h2:=condT c15 h2
 refine XL.no Z Z<|XL.no Z Z<|XL.no Z Z<|XL.no Z Z<|rR Z Z Z (RO.pickT Z Z)<|rA Z Z Z<|XL.nil ?_
 have e:=sI h2;subst e
 exact XQ.joinR true (sL (Nat.zero_le _) Z Z Z Z Z) h1
 replace h2:=condF c15 h2
 refine rR Z Z Z (RO.fieldOwn fo_41_1 Z)<|rR Z Z Z (RO.loadOwnAgg ag_39 Z Z Z Z)<|rM Z Z Z ?_
 refine bindK h2 (fun x16 hx16 h2=>?_)
 refine XL.put Z Z (lb Z) (OpOK.callFun (m29_ok x7.hi a0 x16 hx16) Z (.cons (.agg (.cons (.d _) (.cons (.d _) .nil))) (.cons (.one (.d _)) .nil)))<|rR Z Z Z (RO.pickF Z Z)<|rA Z Z Z<|XL.nil ?_
 have e:=sI h2;subst e
 exact XQ.joinR x16 (sL (Nat.zero_le _) Z Z Z Z Z) h1
 intro v13 h1
 refine XQ.seq ?_
 refine XC.cond (b:=v13) Z (fun c17=>?_) (fun c17=>?_)
 replace h1:=condT c17 h1
 refine XC.seq<|XC.region<|rM Z Z Z<|rA Z Z Z<|rA Z Z Z<|XL.nil<|XQ.seq<|XC.ret ?_
 have e:=sI h1;subst e
 have e_:_=_:=ho1
 subst e_
 try dsimp only [Sum.elim_inl,Sum.elim_inr] at h0
 have e:=sI h0;subst e
 exact XQ.retF (fun _ _ h=>h) Z (RAs.tmp Z (RAs.tmp Z .nil)) (.cons (.one (.d _)) (.cons (.one (.d _)) .nil))
 replace h1:=condF c17 h1
 refine XC.skip<|XQ.inBlock<|XQ.inBlock<|XQ.seq<|XC.region<|rR Z Z Z (RO.binInt Z Z Z)<|rM Z Z Z<|XL.nil ?_
 have e:=sI h1;subst e
 refine XQ.nextM (w64 (s1+1)) (sL (Nat.zero_le _) Z Z Z Z Z) ho1
 replace h1:=condF c6 h1
 refine XC.exit<|XQ.thenE<|XQ.thenE ?_
 have e:=sI h1;subst e
 have e_:_=_:=ho1
 subst e_
 exact XQ.joinX () (sL (Nat.zero_le _) Z Z Z Z Z) h0
 intro o4 h0
 refine XQ.blockX<|XQ.seq<|XC.seq<|XC.region<|rA Z Z Z<|rA Z Z Z<|XL.nil<|XQ.seq<|XC.ret ?_
 have e:=sI h0;subst e
 exact XQ.retF (fun _ _ h=>h) Z (RAs.tmp Z (RAs.tmp Z .nil)) (.cons (.one (.d _)) (.cons (.one (.d _)) .nil))
end Go.Proofs.Ytkimijmiphkddaa
namespace Go.Proofs.Ytkimijmiphkddaa
open Go.RowKit Go.Shelf
theorem fo_105_0:fieldOff Try.prog 105 0=some 0:=by kernel_rfl
theorem fo_105_1:fieldOff Try.prog 105 1=some 1:=by kernel_rfl
theorem ag_103:tyAgg Try.prog 103=some (false,1):=by kernel_rfl
theorem bd_59:IsStruct Try.prog 59 [(0,1),(1,1)] [.int .i64 0,.int .i64 0]:=⟨by kernel_rfl,by kernel_rfl⟩
theorem bd_105:IsStruct Try.prog 105 [(0,1),(1,1)] [.map none,.int .i64 0]:=⟨by kernel_rfl,by kernel_rfl⟩
theorem el_59:tyElem Try.prog 59=some (2,16):=by kernel_rfl
theorem mp_103:tyMap Try.prog 103=some (true,.one (.d (.v (.int .i64 0)))):=by kernel_rfl
theorem en_48:Enters Try.prog 48:=enters_of Try.func48 (by kernel_rfl) rfl
theorem en_54:Enters Try.prog 54:=enters_of Try.func54 (by kernel_rfl) rfl
theorem en_55:Enters Try.prog 55:=enters_of Try.func55 (by kernel_rfl) rfl
theorem en_56:Enters Try.prog 56:=enters_of Try.func56 (by kernel_rfl) rfl
theorem en_66:Enters Try.prog 66:=enters_of Try.func66 (by kernel_rfl) rfl
theorem en_67:Enters Try.prog 67:=enters_of Try.func67 (by kernel_rfl) rfl
theorem en_68:Enters Try.prog 68:=enters_of Try.func68 (by kernel_rfl) rfl
theorem en_69:Enters Try.prog 69:=enters_of Try.func69 (by kernel_rfl) rfl
theorem en_76:Enters Try.prog 76:=enters_of Try.func76 (by kernel_rfl) rfl
theorem en_77:Enters Try.prog 77:=enters_of Try.func77 (by kernel_rfl) rfl
theorem en_83:Enters Try.prog 83:=enters_of Try.func83 (by kernel_rfl) rfl
theorem en_87:Enters Try.prog 87:=enters_of Try.func87 (by kernel_rfl) rfl
noncomputable def m55_c0:Code:=(cA (cA (cB (cA (cB (cB (cB (bodyC Try.f55))))))))
noncomputable def m55_c1:Code:=(cB (cA (cB (cA (cB (cB (cB (bodyC Try.f55))))))))
def m56 (a0:Lvl) (a1:Int):Option Lvl :=
 cond ((a0.vs.length:Int)==0)
   (some (⟨(max 0 (w64 (a0.c - a1))),([]:List LV)⟩:Lvl))
   (Option.bind (idx a0.vs 0) fun (x2:LV) =>
 some (⟨0,[(x2.1,(max 0 (w64 (x2.2 - a1))))]⟩:Lvl))
theorem m56_ok (a0:Lvl) (a1:Int) (r:Lvl) (h0:m56 a0 a1=some r):Fun Try.prog 56 [.agg (cE a0),.one (dI a1)] (resOf [.agg (cE r)]):=by
 unfold m56 at h0
 refine Fun.of_bodyM 9 30 Try.func56 Z en_56 Z (lb Z) (fun S w=>?_)
 simp only [entry]
 refine XC.seq<|XC.region<|XL.put Z Z (lb Z) (OpOK.box Z)<|XL.put Z Z (lb Z) (OpOK.alloc z_39 Z)<|XL.nil<|XQ.seq<|XC.seq<|XC.seq<|XC.region<|rR Z Z Z (RO.fieldOwn fo_39_1 Z)<|rR Z Z Z (RO.loadOwn ag_37 Z Z Z)<|rR Z Z Z (RO.lenE (α:=LV) sl_37 Z (.d _))<|rR Z Z Z (RO.binInt Z Z Z)<|XL.nil ?_
 refine XQ.seq ?_
 refine XC.cond (b:=((a0.vs.length:Int)==0)) Z (fun c1=>?_) (fun c1=>?_)
 replace h0:=condT c1 h0
 refine XC.seq<|XC.region<|rR Z Z Z (RO.fieldOwn fo_39_0 Z)<|rR Z Z Z (RO.loadOwn ag_3 Z Z Z)<|rM Z Z Z<|rR Z Z Z (RO.binInt Z Z Z)<|rR Z Z Z (RO.max2 Z Z)<|rR Z Z Z (RO.build1 bd_39 Z Z Z)<|XL.eff Z Z (OpOK.store ag_39 Z Z Z Z (lb Z) Z)<|XL.nil<|XQ.seq<|XC.ret ?_
 have e:=sI h0;subst e
 exact XQ.retF (fun _ _ h=>h) Z (RAs.agg ag_39 Z Z Z Z .nil) (.cons (.agg (.cons (.d _) (.cons (.nil _) .nil))) .nil)
 replace h0:=condF c1 h0
 refine XC.skip<|XQ.seq<|XC.seq<|XC.region<|rR Z Z Z (RO.fieldOwn fo_39_1 Z)<|rR Z Z Z (RO.loadOwn ag_37 Z Z Z) ?_
 refine bindK h0 (fun x2 hx2 h0=>?_)
 refine rR Z Z Z (RO.indexE (α:=LV) sl_37 Z (.d _) Z hx2)<|rR Z Z Z (RO.loadPelCE (x2:LV) ag_59 Z)<|XL.put Z Z (lb Z) (OpOK.alloc z_59 Z)<|XL.eff Z Z (OpOK.storeCE (x2:LV) ag_59 Z Z Z Z Z)<|XL.nil<|XQ.seq<|XC.seq<|XC.region<|rR Z Z Z (RO.fieldOwn fo_59_0 Z)<|rR Z Z Z (RO.loadOwn ag_3 Z Z Z)<|rR Z Z Z (RO.fieldOwn fo_59_1 Z)<|rR Z Z Z (RO.loadOwn ag_3 Z Z Z)<|rM Z Z Z<|rR Z Z Z (RO.binInt Z Z Z) ?_
 refine rR Z Z Z (RO.max2 Z Z)<|rR Z Z Z (RO.build2 bd_59 Z Z Z Z)<|XL.put Z Z (lb Z) (OpOK.lit1E (α:=LV) ((x2.1,(max 0 (w64 (x2.2 - a1))))) sl_37 z_59 Z Z (lb Z) (lb Z) Z Z (.cons (.d _) (.cons (.d _) .nil)) Z)<|rR Z Z Z (RO.build1 bd_39 Z Z Z)<|XL.eff Z Z (OpOK.store ag_39 Z Z Z Z (lb Z) Z)<|XL.nil<|XQ.seq<|XC.ret ?_
 have e:=sI h0;subst e
 exact XQ.retF (fun _ _ h=>h) Z (RAs.agg ag_39 Z Z Z Z .nil) (.cons (.agg (.cons (.d _) (.cons (.app _ _ _) .nil))) .nil)
def m54_l0 (a0:Lvl) (s1:Int):Option (LO Int (Unit⊕(Int×Int))) :=
 cond (decide (0≤s1))
   (Option.bind (idx a0.vs s1) fun (x3:LV) =>
 cond (decide (x3.1 < 0))
   (some (.done (.inr ((w64 ((-1) - x3.1)),x3.2))))
   (some (.next (w64 (s1 - 1)))))
   (some (.done (.inl ())))
def m54 (a0:Lvl):Option (Int×Int) :=
 Option.bind (loopN (m54_l0 a0) FUEL (w64 ((a0.vs.length:Int) - 1))) (Sum.elim (fun (o1:Unit)=>some ((-1),0)) (fun o=>some o))
theorem m54_ok (a0:Lvl) (r:Int×Int) (h0:m54 a0=some r):Fun Try.prog 54 [.agg (cE a0)] (resOf [.one (dI r.1),.one (dI r.2)]):=by
 unfold m54 at h0
 refine Fun.of_bodyM 9 27 Try.func54 Z en_54 Z (lb Z) (fun S w=>?_)
 simp only [entry]
 refine XC.seq<|XC.region<|XL.put Z Z (lb Z) (OpOK.box Z)<|rA Z Z Z<|rA Z Z Z<|XL.nil<|XQ.seq<|XC.seq<|XC.seq<|XC.region<|rR Z Z Z (RO.fieldOwn fo_39_1 Z)<|rR Z Z Z (RO.loadOwn ag_37 Z Z Z)<|rR Z Z Z (RO.lenE (α:=LV) sl_37 Z (.d _))<|rR Z Z Z (RO.binInt Z Z Z) ?_
 refine rA Z Z Z<|XL.nil<|XQ.seq<|XC.block ?_
 refine XC.joinX 0 (fun (o1:Unit)=>⟨[],[(0,.cells 39 (cE a0))],[],1,27,[]⟩) (fun (o1:Unit)=>(some ((-1),0))=some r) ?_ ?_
 refine bindK h0 (fun o2 hl1 h0=>?_)
 refine XC.loopM (m54_l0 a0) (fun s1=>⟨[(1,.v (.one (.ptr 0 0))),(4,.v (.one (dI s1)))],[(0,.cells 39 (cE a0))],[],1,27,[]⟩) (w64 ((a0.vs.length:Int) - 1)) o2 (sL (Nat.zero_le _) Z Z Z Z Z) hl1 (fun s1 n1 oo1 h1 ho1=>?_)
 unfold m54_l0 at h1
 refine XC.seq<|XC.seq<|XC.region<|rM Z Z Z<|rR Z Z Z (RO.binInt Z Z Z)<|XL.nil<|XQ.seq ?_
 refine XC.cond (b:=(decide (0≤s1))) Z (fun c3=>?_) (fun c3=>?_)
 replace h1:=condT c3 h1
 refine XC.skip<|XQ.seq<|XC.seq<|XC.block<|XC.seq<|XC.region<|rR Z Z Z (RO.fieldOwn fo_39_1 Z)<|rR Z Z Z (RO.loadOwn ag_37 Z Z Z)<|rM Z Z Z ?_
 refine bindK h1 (fun x4 hx4 h1=>?_)
 refine rR Z Z Z (RO.indexE (α:=LV) sl_37 Z (.d _) Z hx4)<|rR Z Z Z (RO.loadPelCE (x4:LV) ag_59 Z)<|XL.put Z Z (lb Z) (OpOK.alloc z_59 Z)<|XL.eff Z Z (OpOK.storeCE (x4:LV) ag_59 Z Z Z Z Z)<|XL.nil<|XQ.seq<|XC.seq<|XC.region<|rR Z Z Z (RO.fieldOwn fo_59_0 Z)<|rR Z Z Z (RO.loadOwn ag_3 Z Z Z)<|rR Z Z Z (RO.binInt Z Z Z)<|XL.nil<|XQ.seq ?_
 refine XC.cond (b:=(decide (x4.1 < 0))) Z (fun c5=>?_) (fun c5=>?_)
 replace h1:=condT c5 h1
 refine XC.seq ?_
 refine XC.anyRun [] [] mixed (by kernel_rfl) (by kernel_rfl) (by kernel_rfl) ?_
 refine RunA.rd Z Z Z (OpOK.of_ro (RO.fieldOwn fo_59_0 Z)) Z<|RunA.rd Z Z Z (OpOK.of_ro (RO.loadOwn ag_3 Z Z Z)) Z<|RunA.rd Z Z Z (OpOK.of_ro (RO.binInt Z Z Z)) Z<|RunA.rd Z Z Z (OpOK.of_ro (RO.fieldOwn fo_59_1 Z)) Z<|RunA.rd Z Z Z (OpOK.of_ro (RO.loadOwn ag_3 Z Z Z)) Z<|RunA.rd Z Z Z (OpOK.of_ro (RO.assign Z)) Z<|RunA.rd Z Z Z (OpOK.of_ro (RO.assign Z)) Z ?_
 refine RunA.nil ⟨?ex,_,_,Z,?_⟩
 case ex=>exact trivial
 refine XQ.less (st':=⟨[(2,.v (.one (dI (w64 ((-1) - x4.1))))),(3,.v (.one (dI x4.2)))],[(0,.cells 39 (cE a0)),(1,.cells 59 (cE x4))],[],2,27,[]⟩) (sL (Nat.zero_le _) Z Z Z Z Z)<|XQ.seq<|XC.ret ?_
 have e:=sI h1;subst e
 have e_:_=_:=ho1
 subst e_
 try dsimp only [Sum.elim_inl,Sum.elim_inr] at h0
 have e:=sI h0;subst e
 exact XQ.retF (fun _ _ h=>h) Z (RAs.tmp Z (RAs.tmp Z .nil)) (.cons (.one (.d _)) (.cons (.one (.d _)) .nil))
 replace h1:=condF c5 h1
 refine XC.skip<|XQ.inBlock<|XQ.seq<|XC.region<|rM Z Z Z<|rR Z Z Z (RO.binInt Z Z Z)<|rA Z Z Z<|XL.nil ?_
 have e:=sI h1;subst e
 refine XQ.nextM (w64 (s1 - 1)) (sL (Nat.zero_le _) Z Z Z Z Z) ho1
 replace h1:=condF c3 h1
 refine XC.exit<|XQ.thenE<|XQ.thenE ?_
 have e:=sI h1;subst e
 have e_:_=_:=ho1
 subst e_
 exact XQ.joinX () (sL (Nat.zero_le _) Z Z Z Z Z) h0
 intro o1 h0
 refine XQ.blockX<|XQ.seq<|XC.seq<|XC.region<|rA Z Z Z<|rA Z Z Z<|XL.nil<|XQ.seq<|XC.ret ?_
 have e:=sI h0;subst e
 exact XQ.retF (fun _ _ h=>h) Z (RAs.tmp Z (RAs.tmp Z .nil)) (.cons (.one (.d _)) (.cons (.one (.d _)) .nil))
def m77_l0 (a0:Lvl) (s1:Int):Option (LO Int (Unit⊕(Lvl×Int))) :=
 cond (decide (s1 < (a0.vs.length:Int)))
   (Option.bind (idx a0.vs s1) fun (x3:LV) =>
 cond (decide (100 < x3.2))
   (some (.done (.inr ((⟨0,([]:List LV)⟩:Lvl),15))))
   (some (.next (w64 (s1+1)))))
   (some (.done (.inl ())))
def m77 (a0:Lvl):Option (Lvl×Int) :=
 Option.bind (loopN (m77_l0 a0) FUEL 0) (Sum.elim (fun (o1:Unit)=>cond (decide (100 < a0.c))
   (some ((⟨0,([]:List LV)⟩:Lvl),15))
   (Option.bind (Option.bind (m70f0 a0.vs a0) fun (x5:Bool) =>
 some x5) (fun (y3:Bool)=>cond y3
   (some ((⟨0,a0.vs⟩:Lvl),0))
   (some (a0,0))))) (fun o=>some o))
theorem m77_ok (a0:Lvl) (r:Lvl×Int) (h0:m77 a0=some r):Fun Try.prog 77 [.agg (cE a0)] (resOf [.agg (cE r.1),.one (dI r.2)]):=by
 unfold m77 at h0
 refine Fun.of_bodyM 9 26 Try.func77 Z en_77 Z (lb Z) (fun S w=>?_)
 simp only [entry]
 refine XC.seq<|XC.region<|XL.put Z Z (lb Z) (OpOK.box Z)<|XL.put Z Z (lb Z) (OpOK.alloc z_39 Z)<|rA Z Z Z<|XL.nil<|XQ.seq<|XC.seq<|XC.seq<|XC.region<|rR Z Z Z (RO.fieldOwn fo_39_1 Z)<|rR Z Z Z (RO.loadOwn ag_37 Z Z Z)<|rR Z Z Z (RO.lenE (α:=LV) sl_37 Z (.d _))<|rM Z Z Z ?_
 refine XL.nil<|XQ.seq<|XC.block ?_
 refine XC.joinX 0 (fun (o1:Unit)=>⟨[(1,.v (.one (.ptr 0 0))),(2,.v (.one (.ptr 1 0)))],[(0,.cells 39 (cE a0)),(1,.cells 39 [dI 0,dN])],[],2,26,[]⟩) (fun (o1:Unit)=>(cond (decide (100 < a0.c))
     (some ((⟨0,([]:List LV)⟩:Lvl),15))
     (Option.bind (Option.bind (m70f0 a0.vs a0) fun (x5:Bool) =>
   some x5) (fun (y3:Bool)=>cond y3
     (some ((⟨0,a0.vs⟩:Lvl),0))
     (some (a0,0)))))=some r) ?_ ?_
 refine bindK h0 (fun o2 hl1 h0=>?_)
 refine XC.loopM (m77_l0 a0) (fun s1=>⟨[(1,.v (.one (.ptr 0 0))),(2,.v (.one (.ptr 1 0))),(7,.v (.one (dS a0.vs))),(8,.v (.one (dI (a0.vs.length:Int)))),(9,.v (.one (dI s1)))],[(0,.cells 39 (cE a0)),(1,.cells 39 [dI 0,dN])],[],2,26,[]⟩) 0 o2 (sL (Nat.zero_le _) Z Z Z Z Z) hl1 (fun s1 n1 oo1 h1 ho1=>?_)
 unfold m77_l0 at h1
 refine XC.seq<|XC.region<|rR Z Z Z (RO.binInt Z Z Z)<|XL.nil<|XQ.seq<|XC.seq ?_
 refine XC.cond (b:=(decide (s1 < (a0.vs.length:Int)))) Z (fun c3=>?_) (fun c3=>?_)
 replace h1:=condT c3 h1
 refine XC.skip<|XQ.seq<|XC.seq<|XC.block<|XC.seq<|XC.region ?_
 refine bindK h1 (fun x4 hx4 h1=>?_)
 refine rR Z Z Z (RO.indexE (α:=LV) sl_37 Z (.d _) Z hx4)<|rR Z Z Z (RO.loadPelCE (x4:LV) ag_59 Z)<|XL.put Z Z (lb Z) (OpOK.alloc z_59 Z)<|XL.eff Z Z (OpOK.storeCE (x4:LV) ag_59 Z Z Z Z Z)<|XL.nil<|XQ.seq<|XC.seq<|XC.region<|rR Z Z Z (RO.fieldOwn fo_59_1 Z)<|rR Z Z Z (RO.loadOwn ag_3 Z Z Z)<|rR Z Z Z (RO.binInt Z Z Z)<|XL.nil<|XQ.seq ?_
 refine XC.cond (b:=(decide (100 < x4.2))) Z (fun c5=>?_) (fun c5=>?_)
 replace h1:=condT c5 h1
 refine XC.seq<|XC.region<|rR Z Z Z (RO.build0 bd_39 Z )<|XL.eff Z Z (OpOK.store ag_39 Z Z Z Z (lb Z) Z)<|rA Z Z Z<|XL.nil<|XQ.seq<|XC.ret ?_
 have e:=sI h1;subst e
 have e_:_=_:=ho1
 subst e_
 try dsimp only [Sum.elim_inl,Sum.elim_inr] at h0
 have e:=sI h0;subst e
 exact XQ.retF (fun _ _ h=>h) Z (RAs.agg ag_39 Z Z Z Z (RAs.tmp Z .nil)) (.cons (.agg (.cons (.d _) (.cons (.nil _) .nil))) (.cons (.one (.d _)) .nil))
 replace h1:=condF c5 h1
 refine XC.skip<|XQ.inBlock<|XQ.seq<|XC.region<|rR Z Z Z (RO.binInt Z Z Z)<|rM Z Z Z<|XL.nil ?_
 have e:=sI h1;subst e
 refine XQ.nextM (w64 (s1+1)) (sL (Nat.zero_le _) Z Z Z Z Z) ho1
 replace h1:=condF c3 h1
 refine XC.exit<|XQ.thenE<|XQ.thenE ?_
 have e:=sI h1;subst e
 have e_:_=_:=ho1
 subst e_
 exact XQ.joinX () (sL (Nat.zero_le _) Z Z Z Z Z) h0
 intro o1 h0
 refine XQ.blockX<|XQ.seq<|XC.seq<|XC.seq<|XC.region<|rR Z Z Z (RO.fieldOwn fo_39_0 Z)<|rR Z Z Z (RO.loadOwn ag_3 Z Z Z)<|rR Z Z Z (RO.binInt Z Z Z)<|XL.nil<|XQ.seq ?_
 refine XC.cond (b:=(decide (100 < a0.c))) Z (fun c6=>?_) (fun c6=>?_)
 replace h0:=condT c6 h0
 refine XC.seq<|XC.region<|rR Z Z Z (RO.build0 bd_39 Z )<|XL.eff Z Z (OpOK.store ag_39 Z Z Z Z (lb Z) Z)<|rA Z Z Z<|XL.nil<|XQ.seq<|XC.ret ?_
 have e:=sI h0;subst e
 exact XQ.retF (fun _ _ h=>h) Z (RAs.agg ag_39 Z Z Z Z (RAs.tmp Z .nil)) (.cons (.agg (.cons (.d _) (.cons (.nil _) .nil))) (.cons (.one (.d _)) .nil))
 replace h0:=condF c6 h0
 refine XC.skip<|XQ.seq<|XC.seq<|XC.seq<|XC.region<|rR Z Z Z (RO.loadCE (a0:Lvl) ag_39 Z Z) ?_
 refine bindK h0 (fun y7 h1 h0=>?_)
 have hc8:CallM Try.prog 51 [.agg (cE a0)] ⟨[(0,.cells 39 (cE a0)),(1,.cells 39 [dI 0,dN])],[],2⟩ (resOf [.one (dB y7)]) ⟨[(0,.cells 39 (cE a0)),(1,.cells 39 [dI 0,dN])],[],3⟩:=by
  refine CallM.of_bodyD ⟨[(2,.v (.one (dB y7)))],[(0,.cells 39 (cE a0)),(1,.cells 39 [dI 0,dN])],[],3,7,[]⟩ Z Z en_51 (lb Z) Z (RAs.tmp Z .nil) (fun w0 M V0 Q hv1 hQ1=>?_)
  simp only [entry]
  refine XC.seq<|XC.region<|XL.put Z Z (lb Z) (OpOK.box Z)<|rA Z Z Z<|XL.nil<|XQ.seq<|XC.seq<|XC.region<|rR Z Z Z (RO.fieldOwn fo_39_1 Z)<|rR Z Z Z (RO.loadOwn ag_37 Z Z Z)<|rR Z Z Z (RO.makeFunc1 Z) ?_
  refine bindK h1 (fun x9 hx9 h1=>?_)
  refine XL.put Z Z (lb Z) (OpOK.callG (hp1':=[(2,.cells 39 (cE a0))]) (tk1':=[]) (hpF:=[(0,.cells 39 (cE a0)),(1,.cells 39 [dI 0,dN])]) (tkF:=[]) (res2:=resOf [.one (dB x9)]) (nx2:=3) [2] Z Z (m70f0_ok a0.vs a0 x9 hx9) Z Z (qB Z Z qZ) Z Z (gR Z gZ) jZ (hA Z) kZ Z Z Z Z Z (bA Z) Z Z Z Z)<|rA Z Z Z<|XL.nil<|XQ.seq<|XC.ret ?_
  have e:=sI h1;subst e
  exact hQ1 _ _ _ (.inr Z) Z (sL (Nat.le_trans hv1 (lb Z)) Z Z Z Z Z)
 refine XL.put Z Z (lb Z) (OpOK.callW Z Z Z hc8 Z (hA Z) kZ)<|XL.nil<|XQ.seq ?_
 refine XC.cond (b:=y7) Z (fun c10=>?_) (fun c10=>?_)
 replace h0:=condT c10 h0
 refine XC.region<|rR Z Z Z (RO.fieldOwn fo_39_0 Z)<|XL.eff Z Z (OpOK.store ag_3 Z Z Z Z (lb Z) Z)<|XL.nil<|XQ.seq<|XC.seq<|XC.region<|rR Z Z Z (RO.loadOwnAgg ag_39 Z Z Z Z)<|XL.eff Z Z (OpOK.store ag_39 Z Z Z Z (lb Z) Z)<|rA Z Z Z<|XL.nil<|XQ.seq<|XC.ret ?_
 have e:=sI h0;subst e
 exact XQ.retF (fun _ _ h=>h) Z (RAs.agg ag_39 Z Z Z Z (RAs.tmp Z .nil)) (.cons (.agg (.cons (.d _) (.cons (.d _) .nil))) (.cons (.one (.d _)) .nil))
 replace h0:=condF c10 h0
 refine XC.skip<|XQ.seq<|XC.seq<|XC.region<|rR Z Z Z (RO.loadCE (a0:Lvl) ag_39 Z Z)<|XL.eff Z Z (OpOK.storeCE (a0:Lvl) ag_39 Z Z Z Z Z)<|rA Z Z Z<|XL.nil<|XQ.seq<|XC.ret ?_
 have e:=sI h0;subst e
 exact XQ.retF (fun _ _ h=>h) Z (RAs.agg ag_39 Z Z Z Z (RAs.tmp Z .nil)) (.cons (.agg (.cons (.d _) (.cons (.d _) .nil))) (.cons (.one (.d _)) .nil))
def m55_l0  (s2:(List LV)×(List LV)×(List LV)):Option (LO ((List LV)×(List LV)×(List LV)) (((List LV)×(List LV)×(List LV)))) :=
 Option.bind (cond (decide (0 < (s2.2.1.length:Int)))
   (some true)
   (some (decide (0 < (s2.2.2.length:Int))))) (fun (v8:Bool)=>cond v8
   (Option.bind (cond ((s2.2.2.length:Int)==0)
   (some true)
   (cond (decide (0 < (s2.2.1.length:Int)))
   (Option.bind (idx s2.2.1 0) fun (x13:LV) =>
 Option.bind (idx s2.2.2 0) fun (x14:LV) =>
 some (decide (x13.1 < x14.1)))
   (some false))) (fun (v10:Bool)=>Option.bind (cond v10
   (Option.bind (idx s2.2.1 0) fun (x13:LV) =>
 guardO (cond (decide (0≤(1:Int))) (Nat.ble (1:Int).toNat s2.2.1.length) false)
 (some ((s2.2.1.drop (1:Int).toNat),s2.2.2,x13.1,x13.2)))
   (Option.bind (cond ((s2.2.1.length:Int)==0)
   (some true)
   (Option.bind (idx s2.2.2 0) fun (x17:LV) =>
 Option.bind (idx s2.2.1 0) fun (x18:LV) =>
 some (decide (x17.1 < x18.1)))) (fun (v15:Bool)=>cond v15
   (Option.bind (idx s2.2.2 0) fun (x17:LV) =>
 guardO (cond (decide (0≤(1:Int))) (Nat.ble (1:Int).toNat s2.2.2.length) false)
 (some (s2.2.1,(s2.2.2.drop (1:Int).toNat),x17.1,x17.2)))
   (Option.bind (idx s2.2.1 0) fun (x19:LV) =>
 Option.bind (idx s2.2.1 0) fun (x20:LV) =>
 Option.bind (idx s2.2.2 0) fun (x21:LV) =>
 guardO (cond (decide (0≤(1:Int))) (Nat.ble (1:Int).toNat s2.2.1.length) false)
 (guardO (cond (decide (0≤(1:Int))) (Nat.ble (1:Int).toNat s2.2.2.length) false)
 (some ((s2.2.1.drop (1:Int).toNat),(s2.2.2.drop (1:Int).toNat),x19.1,(max x20.2 x21.2)))))))) (fun (v11:(List LV)×(List LV)×Int×Int)=>Option.bind (guardO (Nat.ble (s2.1.length+([v11.2.2]).length) 1000000000)
 (some ())) (fun (y12:Unit)=>some (.next ((s2.1++([v11.2.2])),v11.1,v11.2.1))))))
   (some (.done (s2.1,s2.2.1,s2.2.2))))
noncomputable abbrev m55_h0 (p0_:Lvl) (p1_:Lvl):List (Nat×HB) :=
 [(0,.cells 39 (cE p0_)),(1,.cells 39 (cE p1_)),(2,.cells 39 [dI 0,dN])]
noncomputable abbrev m55_h1 (p0_:Lvl) (p1_:Lvl):List (Nat×HB) :=
 [(0,.cells 39 (cE p0_)),(1,.cells 39 (cE p1_)),(2,.cells 39 [dI 0,dN]),(3,.cells 39 [dI (max p0_.c p1_.c),dN])]
noncomputable abbrev m55_h2 (p0_:Lvl) (p1_:Lvl):List (Nat×HB) :=
 [(0,.cells 39 (cE p0_)),(1,.cells 39 (cE p1_)),(2,.cells 39 [dI 0,dN]),(3,.cells 39 [dI (max p0_.c p1_.c),dN]),(4,.cells 37 [dS p0_.vs]),(5,.cells 37 [dS p1_.vs])]
noncomputable abbrev m55_h3 :HB :=
 .loop .ready none [(4,.v (.one (.ptr 2 0))),(6,.v (.one (.ptr 3 0))),(27,.v (.one (.fn 87 [(4,0),(5,0)])))] 39 #[28] m55_c0 m55_c1 6
noncomputable abbrev m55_h4 (p0_:Lvl) (p1_:Lvl) (p2_:(List LV)×(List LV)×(List LV)):List (Nat×HB) :=
 [(0,.cells 39 (cE p0_)),(1,.cells 39 (cE p1_)),(2,.cells 39 [dI 0,dN]),(3,.cells 39 [dI (max p0_.c p1_.c),dA 8 p2_.1]),(4,.cells 37 [dS p2_.2.1]),(5,.cells 37 [dS p2_.2.2]),(6,.obj (.deferred (some []))),(7,m55_h3)]
noncomputable abbrev m55_h5 (p0_:Lvl) (p1_:Lvl) (p2_:(List LV)×(List LV)×(List LV)):List (Nat×HB) :=
 [(0,.cells 39 (cE p0_)),(1,.cells 39 (cE p1_)),(2,.cells 39 [dI 0,dN]),(3,.cells 39 [dI (max p0_.c p1_.c),dA 8 p2_.1]),(4,.cells 37 [dS p2_.2.1]),(5,.cells 37 [dS p2_.2.2]),(6,.obj (.deferred (some []))),(7,m55_h3),(9,.cells 59 [dI 0,dI 0])]
noncomputable abbrev m55_h6 (p0_:Lvl) (p1_:Lvl) (p2_:(List LV)×(List LV)×(List LV)) (p3_:LV) (p4_:LV) (p5_:LV):List (Nat×HB) :=
 [(0,.cells 39 (cE p0_)),(1,.cells 39 (cE p1_)),(2,.cells 39 [dI 0,dN]),(3,.cells 39 [dI (max p0_.c p1_.c),dA 8 p2_.1]),(4,.cells 37 [dS p2_.2.1]),(5,.cells 37 [dS p2_.2.2]),(6,.obj (.deferred (some []))),(7,m55_h3),(9,.cells 59 [dI p3_.1,dI (max p4_.2 p5_.2)])]
noncomputable abbrev m55_h7 (p0_:Lvl) (p1_:Lvl) (p2_:(List LV)×(List LV)×(List LV)) (p3_:(List LV)×(List LV)×Int×Int):List (Nat×HB) :=
 [(0,.cells 39 (cE p0_)),(1,.cells 39 (cE p1_)),(2,.cells 39 [dI 0,dN]),(3,.cells 39 [dI (max p0_.c p1_.c),dA 8 p2_.1]),(4,.cells 37 [dS p3_.1]),(5,.cells 37 [dS p3_.2.1]),(6,.obj (.deferred (some []))),(7,m55_h3),(9,.cells 59 (cE p3_.2.2))]
noncomputable abbrev m55_h8 :HB :=
 .loop .busy none [(4,.v (.one (.ptr 2 0))),(6,.v (.one (.ptr 3 0))),(27,.v (.one (.fn 87 [(4,0),(5,0)])))] 39 #[28] m55_c0 m55_c1 6
noncomputable abbrev m55_h9 (p0_:Lvl) (p1_:Lvl) (p2_:(List LV)×(List LV)×(List LV)) (p3_:(List LV)×(List LV)×Int×Int):List (Nat×HB) :=
 [(0,.cells 39 (cE p0_)),(1,.cells 39 (cE p1_)),(2,.cells 39 [dI 0,dN]),(3,.cells 39 [dI (max p0_.c p1_.c),dA 8 p2_.1]),(4,.cells 37 [dS p3_.1]),(5,.cells 37 [dS p3_.2.1]),(6,.obj (.deferred (some []))),(7,m55_h8),(9,.cells 59 (cE p3_.2.2)),(10,.cells 59 (cE p3_.2.2))]
noncomputable abbrev m55_h10 (p0_:Lvl) (p1_:Lvl) (p2_:(List LV)×(List LV)×(List LV)) (p3_:(List LV)×(List LV)×Int×Int):List (Nat×HB) :=
 [(0,.cells 39 (cE p0_)),(1,.cells 39 (cE p1_)),(2,.cells 39 [dI 0,dN]),(3,.cells 39 [dI (max p0_.c p1_.c),dA 8 p2_.1]),(4,.cells 37 [dS p3_.1]),(5,.cells 37 [dS p3_.2.1]),(6,.obj (.deferred (some []))),(7,m55_h3),(9,.cells 59 (cE p3_.2.2)),(10,.cells 59 (cE p3_.2.2))]
noncomputable abbrev m55_h11 (p0_:Lvl) (p1_:Lvl) (p2_:(List LV)×(List LV)×(List LV)) (p3_:(List LV)×(List LV)×Int×Int):HB :=
 .cells 39 [dI (max p0_.c p1_.c),dA 8 ((p2_.1++([p3_.2.2])):List LV)]
noncomputable abbrev m55_h12 (p0_:Lvl) (p1_:Lvl) (p2_:(List LV)×(List LV)×(List LV)) (p3_:(List LV)×(List LV)×Int×Int):List (Nat×HB) :=
 [(0,.cells 39 (cE p0_)),(1,.cells 39 (cE p1_)),(2,.cells 39 [dI 0,dN]),(3,m55_h11 p0_ p1_ p2_ p3_),(4,.cells 37 [dS p3_.1]),(5,.cells 37 [dS p3_.2.1]),(6,.obj (.deferred (some []))),(7,m55_h8),(9,.cells 59 (cE p3_.2.2))]
def m55 (a0:Lvl) (a1:Lvl):Option (Lvl×Int) :=
 Option.bind (Option.bind (m28 a0) fun (x2:Bool) =>
 cond (!x2)
   (some true)
   (Option.bind (m28 a1) fun (x4:Bool) =>
 some (!x4))) (fun (v1:Bool)=>cond v1
   (some ((⟨0,([]:List LV)⟩:Lvl),3))
   (Option.bind (some ()) (fun (y3:Unit)=>Option.bind (Option.bind (loopN (m55_l0) FUEL (([]:List LV),a0.vs,a1.vs)) (fun (o7:(List LV)×(List LV)×(List LV))=>some (o7.1,o7.2.1,o7.2.2))) (fun (y5:(List LV)×(List LV)×(List LV))=>Option.bind (m77 (⟨(max a0.c a1.c),y5.1⟩:Lvl)) fun (x37:Lvl×Int) =>
 some (x37.1,x37.2)))))
theorem m55_ok (a0:Lvl) (a1:Lvl) (r:Lvl×Int) (h0:m55 a0 a1=some r):Fun Try.prog 55 [.agg (cE a0),.agg (cE a1)] (resOf [.agg (cE r.1),.one (dI r.2)]):=by
 unfold m55 at h0
 refine Fun.of_bodyM 9 39 Try.func55 Z en_55 Z (lb Z) (fun S w=>?_)
 simp only [entry]
 refine XC.seq<|XC.region<|XL.put Z Z (lb Z) (OpOK.box Z)<|XL.put Z Z (lb Z) (OpOK.box Z)<|XL.put Z Z (lb Z) (OpOK.alloc z_39 Z)<|rA Z Z Z<|XL.nil<|XQ.seq<|XC.seq<|XC.seq ?_
 refine XC.joinR (fun (v1:Bool)=>⟨[(2,.v (.one (.ptr 0 0))),(3,.v (.one (.ptr 1 0))),(4,.v (.one (.ptr 2 0))),(15,.v (.one (dB v1)))],m55_h0 a0 a1,[],3,39,[]⟩) (fun (v1:Bool)=>(cond v1
     (some ((⟨0,([]:List LV)⟩:Lvl),3))
     (Option.bind (some ()) (fun (y3:Unit)=>Option.bind (Option.bind (loopN (m55_l0) FUEL (([]:List LV),a0.vs,a1.vs)) (fun (o7:(List LV)×(List LV)×(List LV))=>some (o7.1,o7.2.1,o7.2.2))) (fun (y5:(List LV)×(List LV)×(List LV))=>Option.bind (m77 (⟨(max a0.c a1.c),y5.1⟩:Lvl)) fun (x37:Lvl×Int) =>
   some (x37.1,x37.2)))))=some r) ?_ ?_
 refine bindK h0 (fun w1_ h1 h0=>?_)
 refine XC.region<|rR Z Z Z (RO.loadCE (a0:Lvl) ag_39 Z Z) ?_
 refine bindK h1 (fun x2 hx2 h1=>?_)
 refine XL.put Z Z (lb Z) (OpOK.callFun (m28_ok a0 x2 hx2) Z (.cons (.agg (.cons (.d _) (.cons (.d _) .nil))) .nil))<|rR Z Z Z (RO.not Z)<|rM Z Z Z ?_
 refine XL.case (d:=11) (c:=(!x2)) Z (fun c3=>?_) (fun c3=>?_)
 replace h1:=condT c3 h1
 refine XL.no Z Z<|XL.no Z Z<|XL.no Z Z<|rR Z Z Z (RO.pickT Z Z)<|XL.nil ?_
 have e:=sI h1;subst e
 exact XQ.joinR true (sL (Nat.zero_le _) Z Z Z Z Z) h0
 replace h1:=condF c3 h1
 refine rR Z Z Z (RO.loadCE (a1:Lvl) ag_39 Z Z) ?_
 refine bindK h1 (fun x4 hx4 h1=>?_)
 refine XL.put Z Z (lb Z) (OpOK.callFun (m28_ok a1 x4 hx4) Z (.cons (.agg (.cons (.d _) (.cons (.d _) .nil))) .nil))<|rR Z Z Z (RO.not Z)<|rR Z Z Z (RO.pickF Z Z)<|XL.nil ?_
 have e:=sI h1;subst e
 exact XQ.joinR (!x4) (sL (Nat.zero_le _) Z Z Z Z Z) h0
 intro v1 h0
 refine XQ.seq ?_
 refine XC.cond (b:=v1) Z (fun c5=>?_) (fun c5=>?_)
 replace h0:=condT c5 h0
 refine XC.seq<|XC.region<|rR Z Z Z (RO.build0 bd_39 Z )<|XL.eff Z Z (OpOK.store ag_39 Z Z Z Z (lb Z) Z)<|rA Z Z Z<|XL.nil<|XQ.seq<|XC.ret ?_
 have e:=sI h0;subst e
 exact XQ.retF (fun _ _ h=>h) Z (RAs.agg ag_39 Z Z Z Z (RAs.tmp Z .nil)) (.cons (.agg (.cons (.d _) (.cons (.nil _) .nil))) (.cons (.one (.d _)) .nil))
 replace h0:=condF c5 h0
 refine XC.skip<|XQ.seq<|XC.seq<|XC.region<|rR Z Z Z (RO.fieldOwn fo_39_0 Z)<|rR Z Z Z (RO.loadOwn ag_3 Z Z Z)<|rR Z Z Z (RO.fieldOwn fo_39_0 Z)<|rR Z Z Z (RO.loadOwn ag_3 Z Z Z)<|rR Z Z Z (RO.max2 Z Z)<|rR Z Z Z (RO.build1 bd_39 Z Z Z)<|XL.put Z Z (lb Z) (OpOK.alloc z_39 Z)<|XL.eff Z Z (OpOK.store ag_39 Z Z Z Z (lb Z) Z)<|XL.nil<|XQ.seq ?_
 refine XC.seq<|XC.seq<|XC.region<|rR Z Z Z (RO.fieldOwn fo_39_1 Z)<|rR Z Z Z (RO.loadOwn ag_37 Z Z Z)<|rR Z Z Z (RO.fieldOwn fo_39_1 Z)<|rR Z Z Z (RO.loadOwn ag_37 Z Z Z) ?_
 refine bindK h0 (fun y6 h1 h0=>?_)
 have hc7:CallM Try.prog 76 [.one (dS a0.vs),.one (dS a1.vs)] ⟨m55_h1 a0 a1,[],4⟩ (resOf [.one (.fn 87 [(4,0),(5,0)])]) ⟨m55_h2 a0 a1,[],6⟩:=by
  refine CallM.of_bodyD ⟨[(4,.v (.one (.fn 87 [(4,0),(5,0)])))],m55_h2 a0 a1,[],6,6,[]⟩ Z Z en_76 (lb Z) Z (RAs.tmp Z .nil) (fun w0 M V0 Q hv1 hQ1=>?_)
  simp only [entry]
  refine XC.seq<|XC.region<|XL.put Z Z (lb Z) (OpOK.box Z)<|XL.put Z Z (lb Z) (OpOK.box Z)<|rA Z Z Z<|XL.nil<|XQ.seq<|XC.seq<|XC.region<|rR Z Z Z (RO.makeFunc2 Z Z)<|rA Z Z Z<|XL.nil<|XQ.seq<|XC.ret ?_
  have e:=sI h1;subst e
  exact hQ1 _ _ _ (.inr Z) Z (sL (Nat.le_trans hv1 (lb Z)) Z Z Z Z Z)
 refine XL.put Z Z (lb Z) (OpOK.callW Z Z Z hc7 Z (hA Z) kZ)<|XL.nil<|XQ.seq<|XC.block<|XC.less (st':=⟨[(4,.v (.one (.ptr 2 0))),(6,.v (.one (.ptr 3 0))),(27,.v (.one (.fn 87 [(4,0),(5,0)])))],m55_h2 a0 a1,[],6,39,[]⟩) (sL (Nat.zero_le _) Z Z Z Z Z) ?_
 refine bindK h0 (fun y8 h1 h0=>?_)
 have hc9:CallM Try.prog 87 [.one (.yld 7),.one (.ptr 4 0),.one (.ptr 5 0)] ⟨[(7,.loop .ready none [(4,.v (.one (.ptr 2 0))),(6,.v (.one (.ptr 3 0))),(27,.v (.one (.fn 87 [(4,0),(5,0)])))] 39 #[28] m55_c0 m55_c1 6),(6,.obj (.deferred (some []))),(0,.cells 39 (cE a0)),(1,.cells 39 (cE a1)),(2,.cells 39 [dI 0,dN]),(3,.cells 39 [dI (max a0.c a1.c),dN]),(4,.cells 37 [dS a0.vs]),(5,.cells 37 [dS a1.vs])],[],8⟩ (resOf []) ⟨m55_h4 a0 a1 y8,[(8,some ⟨59,2,(Enc.encL y8.1).length,[]⟩)],9⟩:=by
  refine CallM.of_bodyD ⟨[],m55_h4 a0 a1 y8,[(8,some ⟨59,2,(Enc.encL y8.1).length,[]⟩)],9,80,[]⟩ Z Z en_87 (lb Z) Z .nil (fun w0 M V0 Q hv1 hQ1=>?_)
  simp only [entry]
  refine XC.block ?_
  refine XC.joinX 0 (fun (o10:(List LV)×(List LV)×(List LV))=>⟨[],[(0,.cells 39 (cE a0)),(1,.cells 39 (cE a1)),(2,.cells 39 [dI 0,dN]),(3,.cells 39 [dI (max a0.c a1.c),dA 8 o10.1]),(4,.cells 37 [dS o10.2.1]),(5,.cells 37 [dS o10.2.2]),(6,.obj (.deferred (some []))),(7,m55_h3)],[(8,some ⟨59,2,(Enc.encL o10.1).length,[]⟩)],9,80,[]⟩) (fun (o10:(List LV)×(List LV)×(List LV))=>(some (o10.1,o10.2.1,o10.2.2))=some y8) ?_ ?_
  refine XC.adoptC (i:=3) (off:=1) 59 2 Z Z ?_
  refine bindK h1 (fun o11 hl2 h1=>?_)
  refine XC.loopM (m55_l0) (fun s2=>⟨[(0,.v (.one (.yld 7))),(1,.v (.one (.ptr 4 0))),(2,.v (.one (.ptr 5 0)))],[(0,.cells 39 (cE a0)),(1,.cells 39 (cE a1)),(2,.cells 39 [dI 0,dN]),(3,.cells 39 [dI (max a0.c a1.c),dA 8 s2.1]),(4,.cells 37 [dS s2.2.1]),(5,.cells 37 [dS s2.2.2]),(6,.obj (.deferred (some []))),(7,m55_h3)],[(8,some ⟨59,2,(Enc.encL s2.1).length,[]⟩)],9,80,[]⟩) (([]:List LV),a0.vs,a1.vs) o11 (sL (Nat.le_trans hv1 (lb Z)) Z Z Z Z Z) hl2 (fun s2 n2 oo2 h2 ho2=>?_)
  unfold m55_l0 at h2
  refine XC.seq<|XC.seq ?_
  refine XC.joinR (fun (v12:Bool)=>⟨[(0,.v (.one (.yld 7))),(1,.v (.one (.ptr 4 0))),(2,.v (.one (.ptr 5 0))),(12,.v (.one (dB v12)))],m55_h4 a0 a1 s2,[(8,some ⟨59,2,(Enc.encL s2.1).length,[]⟩)],9,80,[]⟩) (fun (v12:Bool)=>(cond v12
      (Option.bind (cond ((s2.2.2.length:Int)==0)
      (some true)
      (cond (decide (0 < (s2.2.1.length:Int)))
      (Option.bind (idx s2.2.1 0) fun (x17:LV) =>
    Option.bind (idx s2.2.2 0) fun (x18:LV) =>
    some (decide (x17.1 < x18.1)))
      (some false))) (fun (v14:Bool)=>Option.bind (cond v14
      (Option.bind (idx s2.2.1 0) fun (x17:LV) =>
    guardO (cond (decide (0≤(1:Int))) (Nat.ble (1:Int).toNat s2.2.1.length) false)
    (some ((s2.2.1.drop (1:Int).toNat),s2.2.2,x17.1,x17.2)))
      (Option.bind (cond ((s2.2.1.length:Int)==0)
      (some true)
      (Option.bind (idx s2.2.2 0) fun (x21:LV) =>
    Option.bind (idx s2.2.1 0) fun (x22:LV) =>
    some (decide (x21.1 < x22.1)))) (fun (v19:Bool)=>cond v19
      (Option.bind (idx s2.2.2 0) fun (x21:LV) =>
    guardO (cond (decide (0≤(1:Int))) (Nat.ble (1:Int).toNat s2.2.2.length) false)
    (some (s2.2.1,(s2.2.2.drop (1:Int).toNat),x21.1,x21.2)))
      (Option.bind (idx s2.2.1 0) fun (x23:LV) =>
    Option.bind (idx s2.2.1 0) fun (x24:LV) =>
    Option.bind (idx s2.2.2 0) fun (x25:LV) =>
    guardO (cond (decide (0≤(1:Int))) (Nat.ble (1:Int).toNat s2.2.1.length) false)
    (guardO (cond (decide (0≤(1:Int))) (Nat.ble (1:Int).toNat s2.2.2.length) false)
    (some ((s2.2.1.drop (1:Int).toNat),(s2.2.2.drop (1:Int).toNat),x23.1,(max x24.2 x25.2)))))))) (fun (v15:(List LV)×(List LV)×Int×Int)=>Option.bind (guardO (Nat.ble (s2.1.length+([v15.2.2]).length) 1000000000)
    (some ())) (fun (y16:Unit)=>some (.next ((s2.1++([v15.2.2])),v15.1,v15.2.1))))))
      (some (.done (s2.1,s2.2.1,s2.2.2))))=some oo2) ?_ ?_
  refine bindK h2 (fun w3_ h3 h2=>?_)
  refine XC.region<|rR Z Z Z (RO.loadOwn ag_37 Z Z Z)<|rR Z Z Z (RO.lenE (α:=LV) sl_37 Z (.d _))<|rR Z Z Z (RO.binInt Z Z Z)<|rM Z Z Z ?_
  refine XL.case (d:=8) (c:=(decide (0 < (s2.2.1.length:Int)))) Z (fun c13=>?_) (fun c13=>?_)
  replace h3:=condT c13 h3
  refine XL.no Z Z<|XL.no Z Z<|XL.no Z Z<|rR Z Z Z (RO.pickT Z Z)<|XL.nil ?_
  have e:=sI h3;subst e
  exact XQ.joinR true (sL (Nat.le_trans hv1 (lb Z)) Z Z Z Z Z) h2
  replace h3:=condF c13 h3
  refine rR Z Z Z (RO.loadOwn ag_37 Z Z Z)<|rR Z Z Z (RO.lenE (α:=LV) sl_37 Z (.d _))<|rR Z Z Z (RO.binInt Z Z Z)<|rR Z Z Z (RO.pickF Z Z)<|XL.nil ?_
  have e:=sI h3;subst e
  exact XQ.joinR (decide (0 < (s2.2.2.length:Int))) (sL (Nat.le_trans hv1 (lb Z)) Z Z Z Z Z) h2
  intro v12 h2
  refine XQ.seq ?_
  refine XC.cond (b:=v12) Z (fun c14=>?_) (fun c14=>?_)
  replace h2:=condT c14 h2
  refine XC.skip<|XQ.seq<|XC.block<|XC.seq<|XC.region<|XL.put Z Z (lb Z) (OpOK.alloc z_59 Z)<|XL.nil<|XQ.seq<|XC.seq<|XC.block<|XC.seq ?_
  refine XC.joinR (fun (v15:Bool)=>⟨[(0,.v (.one (.yld 7))),(1,.v (.one (.ptr 4 0))),(2,.v (.one (.ptr 5 0))),(4,.v (.one (.ptr 9 0))),(31,.v (.one (dB v15)))],m55_h5 a0 a1 s2,[(8,some ⟨59,2,(Enc.encL s2.1).length,[]⟩)],10,80,[]⟩) (fun (v15:Bool)=>(Option.bind (cond v15
      (Option.bind (idx s2.2.1 0) fun (x18:LV) =>
    guardO (cond (decide (0≤(1:Int))) (Nat.ble (1:Int).toNat s2.2.1.length) false)
    (some ((s2.2.1.drop (1:Int).toNat),s2.2.2,x18.1,x18.2)))
      (Option.bind (cond ((s2.2.1.length:Int)==0)
      (some true)
      (Option.bind (idx s2.2.2 0) fun (x22:LV) =>
    Option.bind (idx s2.2.1 0) fun (x23:LV) =>
    some (decide (x22.1 < x23.1)))) (fun (v20:Bool)=>cond v20
      (Option.bind (idx s2.2.2 0) fun (x22:LV) =>
    guardO (cond (decide (0≤(1:Int))) (Nat.ble (1:Int).toNat s2.2.2.length) false)
    (some (s2.2.1,(s2.2.2.drop (1:Int).toNat),x22.1,x22.2)))
      (Option.bind (idx s2.2.1 0) fun (x24:LV) =>
    Option.bind (idx s2.2.1 0) fun (x25:LV) =>
    Option.bind (idx s2.2.2 0) fun (x26:LV) =>
    guardO (cond (decide (0≤(1:Int))) (Nat.ble (1:Int).toNat s2.2.1.length) false)
    (guardO (cond (decide (0≤(1:Int))) (Nat.ble (1:Int).toNat s2.2.2.length) false)
    (some ((s2.2.1.drop (1:Int).toNat),(s2.2.2.drop (1:Int).toNat),x24.1,(max x25.2 x26.2)))))))) (fun (v16:(List LV)×(List LV)×Int×Int)=>Option.bind (guardO (Nat.ble (s2.1.length+([v16.2.2]).length) 1000000000)
    (some ())) (fun (y17:Unit)=>some (.next ((s2.1++([v16.2.2])),v16.1,v16.2.1)))))=some oo2) ?_ ?_
  refine bindK h2 (fun w3_ h3 h2=>?_)
  refine XC.anyRun [] [] mixed (by kernel_rfl) (by kernel_rfl) (by kernel_rfl) ?_
  refine RunA.rd Z Z Z (OpOK.of_ro (RO.loadOwn ag_37 Z Z Z)) Z<|RunA.rd Z Z Z (OpOK.of_ro (RO.lenE (α:=LV) sl_37 Z (.d _))) Z<|RunA.rd Z Z Z (OpOK.of_ro (RO.binInt Z Z Z)) Z ?_
  refine RunA.case (c:=((s2.2.2.length:Int)==0)) Z Z Z (OpOK.of_ro (RO.move Z)) Z (fun c16=>?_) (fun c16=>?_)
  replace h3:=condT c16 h3
  refine RunA.no Z Z Z Z<|RunA.no Z Z Z Z<|RunA.no Z Z Z Z<|RunA.no Z Z Z Z<|RunA.no Z Z Z Z<|RunA.no Z Z Z Z<|RunA.no Z Z Z Z<|RunA.no Z Z Z Z<|RunA.no Z Z Z Z<|RunA.no Z Z Z Z<|RunA.no Z Z Z Z<|RunA.no Z Z Z Z<|RunA.no Z Z Z Z<|RunA.no Z Z Z Z ?_
  refine RunA.rd Z Z Z (OpOK.of_ro (RO.pickT Z Z)) Z<|RunA.rd Z Z Z (OpOK.of_ro (RO.assign Z)) Z ?_
  refine RunA.nil ⟨?ex,_,_,Z,?_⟩
  case ex=>exact trivial
  have e:=sI h3;subst e
  exact XQ.joinR true (sL (Nat.le_trans hv1 (lb Z)) Z Z Z Z Z) h2
  replace h3:=condF c16 h3
  refine RunA.rd Z Z Z (OpOK.of_ro (RO.loadOwn ag_37 Z Z Z)) Z<|RunA.rd Z Z Z (OpOK.of_ro (RO.lenE (α:=LV) sl_37 Z (.d _))) Z<|RunA.rd Z Z Z (OpOK.of_ro (RO.binInt Z Z Z)) Z ?_
  refine RunA.case (c:=(decide (0 < (s2.2.1.length:Int)))) Z Z Z (OpOK.of_ro (RO.move Z)) Z (fun c17=>?_) (fun c17=>?_)
  replace h3:=condT c17 h3
  refine RunA.rd Z Z Z (OpOK.of_ro (RO.loadOwn ag_37 Z Z Z)) Z ?_
  refine bindK h3 (fun x18 hx18 h3=>?_)
  refine RunA.rd Z Z Z (OpOK.of_ro (RO.indexE (α:=LV) sl_37 Z (.d _) Z hx18)) Z<|RunA.rd Z Z Z (OpOK.of_ro (RO.fieldPel fo_59_0 Z)) Z<|RunA.rd Z Z Z (OpOK.of_ro (RO.loadPel ag_3 Z Z)) Z<|RunA.rd Z Z Z (OpOK.of_ro (RO.loadOwn ag_37 Z Z Z)) Z ?_
  refine bindK h3 (fun x19 hx19 h3=>?_)
  refine RunA.rd Z Z Z (OpOK.of_ro (RO.indexE (α:=LV) sl_37 Z (.d _) Z hx19)) Z<|RunA.rd Z Z Z (OpOK.of_ro (RO.fieldPel fo_59_0 Z)) Z<|RunA.rd Z Z Z (OpOK.of_ro (RO.loadPel ag_3 Z Z)) Z<|RunA.rd Z Z Z (OpOK.of_ro (RO.binInt Z Z Z)) Z<|RunA.rd Z Z Z (OpOK.of_ro (RO.pickT Z Z)) Z<|RunA.rd Z Z Z (OpOK.of_ro (RO.pickF Z Z)) Z<|RunA.rd Z Z Z (OpOK.of_ro (RO.assign Z)) Z ?_
  refine RunA.nil ⟨?ex,_,_,Z,?_⟩
  case ex=>exact trivial
  have e:=sI h3;subst e
  exact XQ.joinR (decide (x18.1 < x19.1)) (sL (Nat.le_trans hv1 (lb Z)) Z Z Z Z Z) h2
  replace h3:=condF c17 h3
  refine RunA.no Z Z Z Z<|RunA.no Z Z Z Z<|RunA.no Z Z Z Z<|RunA.no Z Z Z Z<|RunA.no Z Z Z Z<|RunA.no Z Z Z Z<|RunA.no Z Z Z Z<|RunA.no Z Z Z Z<|RunA.no Z Z Z Z<|RunA.rd Z Z Z (OpOK.of_ro (RO.pickF Z Z)) Z<|RunA.rd Z Z Z (OpOK.of_ro (RO.pickF Z Z)) Z<|RunA.rd Z Z Z (OpOK.of_ro (RO.assign Z)) Z ?_
  refine RunA.nil ⟨?ex,_,_,Z,?_⟩
  case ex=>exact trivial
  have e:=sI h3;subst e
  exact XQ.joinR false (sL (Nat.le_trans hv1 (lb Z)) Z Z Z Z Z) h2
  intro v15 h2
  refine XQ.seq ?_
  refine XC.joinR (fun (v20:(List LV)×(List LV)×Int×Int)=>⟨[(0,.v (.one (.yld 7))),(1,.v (.one (.ptr 4 0))),(2,.v (.one (.ptr 5 0))),(4,.v (.one (.ptr 9 0)))],[(0,.cells 39 (cE a0)),(1,.cells 39 (cE a1)),(2,.cells 39 [dI 0,dN]),(3,.cells 39 [dI (max a0.c a1.c),dA 8 s2.1]),(4,.cells 37 [dS v20.1]),(5,.cells 37 [dS v20.2.1]),(6,.obj (.deferred (some []))),(7,m55_h3),(9,.cells 59 (cE v20.2.2))],[(8,some ⟨59,2,(Enc.encL s2.1).length,[]⟩)],10,80,[]⟩) (fun (v20:(List LV)×(List LV)×Int×Int)=>(Option.bind (guardO (Nat.ble (s2.1.length+([v20.2.2]).length) 1000000000)
    (some ())) (fun (y21:Unit)=>some (.next ((s2.1++([v20.2.2])),v20.1,v20.2.1))))=some oo2) ?_ ?_
  refine bindK h2 (fun w3_ h3 h2=>?_)
  refine XC.cond (b:=v15) Z (fun c21=>?_) (fun c21=>?_)
  replace h3:=condT c21 h3
  refine XC.anyRun [5,6] [(3,1),(4,1)] mixed (by kernel_rfl) (by kernel_rfl) (by kernel_rfl) ?_
  refine RunA.rd Z Z Z (OpOK.of_ro (RO.loadOwn ag_37 Z Z Z)) Z ?_
  refine bindK h3 (fun x22 hx22 h3=>?_)
  refine RunA.rd Z Z Z (OpOK.of_ro (RO.indexE (α:=LV) sl_37 Z (.d _) Z hx22)) Z<|RunA.rd Z Z Z (OpOK.of_ro (RO.loadPelCE (x22:LV) ag_59 Z)) Z<|RunA.rd Z Z Z (OpOK.of_ro (RO.loadOwn ag_37 Z Z Z)) Z ?_
  refine guardK h3 (fun g23 h3=>?_)
  refine RunA.rd Z Z Z (OpOK.of_ro (RO.sliceFrom (α:=LV) sl_37 Z (.d _) Z g23)) Z<|RunA.eff Z Z Z (OpOK.storeCE (x22:LV) ag_59 Z Z Z Z Z) Z<|RunA.eff Z Z Z (OpOK.store ag_37 Z Z Z Z (lb Z) Z) Z ?_
  refine RunA.nil ⟨?ex,_,_,Z,?_⟩
  case ex=>exact ⟨⟨_,rfl,_,_,rfl,rfl,rfl,.inl ⟨rfl,_,OpOK.of_ro (RO.loadOwn ag_37 rfl rfl rfl),rfl⟩⟩,⟨_,rfl,_,_,rfl,rfl,rfl,.inl ⟨rfl,_,OpOK.of_ro (RO.sliceFrom (α:=LV) sl_37 rfl (.d _) rfl g23),rfl⟩⟩,trivial⟩
  have e:=sI h3;subst e
  exact XQ.joinR ((s2.2.1.drop (1:Int).toNat),s2.2.2,x22.1,x22.2) (sL (Nat.le_trans hv1 (lb Z)) Z Z Z Z Z) h2
  replace h3:=condF c21 h3
  refine XC.seq ?_
  refine XC.joinR (fun (v24:Bool)=>⟨[(0,.v (.one (.yld 7))),(1,.v (.one (.ptr 4 0))),(2,.v (.one (.ptr 5 0))),(4,.v (.one (.ptr 9 0))),(56,.v (.one (dB v24)))],m55_h5 a0 a1 s2,[(8,some ⟨59,2,(Enc.encL s2.1).length,[]⟩)],10,80,[]⟩) (fun (v24:Bool)=>(cond v24
      (Option.bind (idx s2.2.2 0) fun (x26:LV) =>
    guardO (cond (decide (0≤(1:Int))) (Nat.ble (1:Int).toNat s2.2.2.length) false)
    (some (s2.2.1,(s2.2.2.drop (1:Int).toNat),x26.1,x26.2)))
      (Option.bind (idx s2.2.1 0) fun (x28:LV) =>
    Option.bind (idx s2.2.1 0) fun (x29:LV) =>
    Option.bind (idx s2.2.2 0) fun (x30:LV) =>
    guardO (cond (decide (0≤(1:Int))) (Nat.ble (1:Int).toNat s2.2.1.length) false)
    (guardO (cond (decide (0≤(1:Int))) (Nat.ble (1:Int).toNat s2.2.2.length) false)
    (some ((s2.2.1.drop (1:Int).toNat),(s2.2.2.drop (1:Int).toNat),x28.1,(max x29.2 x30.2))))))=some w3_) ?_ ?_
  refine bindK h3 (fun w4_ h4 h3=>?_)
  refine XC.anyRun [] [] mixed (by kernel_rfl) (by kernel_rfl) (by kernel_rfl) ?_
  refine RunA.rd Z Z Z (OpOK.of_ro (RO.loadOwn ag_37 Z Z Z)) Z<|RunA.rd Z Z Z (OpOK.of_ro (RO.lenE (α:=LV) sl_37 Z (.d _))) Z<|RunA.rd Z Z Z (OpOK.of_ro (RO.binInt Z Z Z)) Z ?_
  refine RunA.case (c:=((s2.2.1.length:Int)==0)) Z Z Z (OpOK.of_ro (RO.move Z)) Z (fun c25=>?_) (fun c25=>?_)
  replace h4:=condT c25 h4
  refine RunA.no Z Z Z Z<|RunA.no Z Z Z Z<|RunA.no Z Z Z Z<|RunA.no Z Z Z Z<|RunA.no Z Z Z Z<|RunA.no Z Z Z Z<|RunA.no Z Z Z Z<|RunA.no Z Z Z Z<|RunA.no Z Z Z Z<|RunA.rd Z Z Z (OpOK.of_ro (RO.pickT Z Z)) Z<|RunA.rd Z Z Z (OpOK.of_ro (RO.assign Z)) Z ?_
  refine RunA.nil ⟨?ex,_,_,Z,?_⟩
  case ex=>exact trivial
  have e:=sI h4;subst e
  exact XQ.joinR true (sL (Nat.le_trans hv1 (lb Z)) Z Z Z Z Z) h3
  replace h4:=condF c25 h4
  refine RunA.rd Z Z Z (OpOK.of_ro (RO.loadOwn ag_37 Z Z Z)) Z ?_
  refine bindK h4 (fun x26 hx26 h4=>?_)
  refine RunA.rd Z Z Z (OpOK.of_ro (RO.indexE (α:=LV) sl_37 Z (.d _) Z hx26)) Z<|RunA.rd Z Z Z (OpOK.of_ro (RO.fieldPel fo_59_0 Z)) Z<|RunA.rd Z Z Z (OpOK.of_ro (RO.loadPel ag_3 Z Z)) Z<|RunA.rd Z Z Z (OpOK.of_ro (RO.loadOwn ag_37 Z Z Z)) Z ?_
  refine bindK h4 (fun x27 hx27 h4=>?_)
  refine RunA.rd Z Z Z (OpOK.of_ro (RO.indexE (α:=LV) sl_37 Z (.d _) Z hx27)) Z<|RunA.rd Z Z Z (OpOK.of_ro (RO.fieldPel fo_59_0 Z)) Z<|RunA.rd Z Z Z (OpOK.of_ro (RO.loadPel ag_3 Z Z)) Z<|RunA.rd Z Z Z (OpOK.of_ro (RO.binInt Z Z Z)) Z<|RunA.rd Z Z Z (OpOK.of_ro (RO.pickF Z Z)) Z<|RunA.rd Z Z Z (OpOK.of_ro (RO.assign Z)) Z ?_
  refine RunA.nil ⟨?ex,_,_,Z,?_⟩
  case ex=>exact trivial
  have e:=sI h4;subst e
  exact XQ.joinR (decide (x26.1 < x27.1)) (sL (Nat.le_trans hv1 (lb Z)) Z Z Z Z Z) h3
  intro v24 h3
  refine XQ.seq ?_
  refine XC.cond (b:=v24) Z (fun c28=>?_) (fun c28=>?_)
  replace h3:=condT c28 h3
  refine XC.anyRun [5,6] [(3,1),(4,1)] mixed (by kernel_rfl) (by kernel_rfl) (by kernel_rfl) ?_
  refine RunA.rd Z Z Z (OpOK.of_ro (RO.loadOwn ag_37 Z Z Z)) Z ?_
  refine bindK h3 (fun x29 hx29 h3=>?_)
  refine RunA.rd Z Z Z (OpOK.of_ro (RO.indexE (α:=LV) sl_37 Z (.d _) Z hx29)) Z<|RunA.rd Z Z Z (OpOK.of_ro (RO.loadPelCE (x29:LV) ag_59 Z)) Z<|RunA.rd Z Z Z (OpOK.of_ro (RO.loadOwn ag_37 Z Z Z)) Z ?_
  refine guardK h3 (fun g30 h3=>?_)
  refine RunA.rd Z Z Z (OpOK.of_ro (RO.sliceFrom (α:=LV) sl_37 Z (.d _) Z g30)) Z<|RunA.eff Z Z Z (OpOK.storeCE (x29:LV) ag_59 Z Z Z Z Z) Z<|RunA.eff Z Z Z (OpOK.store ag_37 Z Z Z Z (lb Z) Z) Z ?_
  refine RunA.nil ⟨?ex,_,_,Z,?_⟩
  case ex=>exact ⟨⟨_,rfl,_,_,rfl,rfl,rfl,.inl ⟨rfl,_,OpOK.of_ro (RO.loadOwn ag_37 rfl rfl rfl),rfl⟩⟩,⟨_,rfl,_,_,rfl,rfl,rfl,.inl ⟨rfl,_,OpOK.of_ro (RO.sliceFrom (α:=LV) sl_37 rfl (.d _) rfl g30),rfl⟩⟩,trivial⟩
  have e:=sI h3;subst e
  exact XQ.joinR (s2.2.1,(s2.2.2.drop (1:Int).toNat),x29.1,x29.2) (sL (Nat.le_trans hv1 (lb Z)) Z Z Z Z Z) h2
  replace h3:=condF c28 h3
  refine XC.seq ?_
  refine XC.anyRun [14] [] mixed (by kernel_rfl) (by kernel_rfl) (by kernel_rfl) ?_
  refine RunA.rd Z Z Z (OpOK.of_ro (RO.loadOwn ag_37 Z Z Z)) Z ?_
  refine bindK h3 (fun x31 hx31 h3=>?_)
  refine RunA.rd Z Z Z (OpOK.of_ro (RO.indexE (α:=LV) sl_37 Z (.d _) Z hx31)) Z<|RunA.rd Z Z Z (OpOK.of_ro (RO.fieldPel fo_59_0 Z)) Z<|RunA.rd Z Z Z (OpOK.of_ro (RO.loadPel ag_3 Z Z)) Z<|RunA.rd Z Z Z (OpOK.of_ro (RO.loadOwn ag_37 Z Z Z)) Z ?_
  refine bindK h3 (fun x32 hx32 h3=>?_)
  refine RunA.rd Z Z Z (OpOK.of_ro (RO.indexE (α:=LV) sl_37 Z (.d _) Z hx32)) Z<|RunA.rd Z Z Z (OpOK.of_ro (RO.fieldPel fo_59_1 Z)) Z<|RunA.rd Z Z Z (OpOK.of_ro (RO.loadPel ag_3 Z Z)) Z<|RunA.rd Z Z Z (OpOK.of_ro (RO.loadOwn ag_37 Z Z Z)) Z ?_
  refine bindK h3 (fun x33 hx33 h3=>?_)
  refine RunA.rd Z Z Z (OpOK.of_ro (RO.indexE (α:=LV) sl_37 Z (.d _) Z hx33)) Z<|RunA.rd Z Z Z (OpOK.of_ro (RO.fieldPel fo_59_1 Z)) Z<|RunA.rd Z Z Z (OpOK.of_ro (RO.loadPel ag_3 Z Z)) Z<|RunA.rd Z Z Z (OpOK.of_ro (RO.max2 Z Z)) Z<|RunA.rd Z Z Z (OpOK.of_ro (RO.build2 bd_59 Z Z Z Z)) Z<|RunA.eff Z Z Z (OpOK.store ag_59 Z Z Z Z (lb Z) Z) Z ?_
  refine RunA.nil ⟨?ex,_,_,Z,?_⟩
  case ex=>exact trivial
  refine XQ.less (st':=⟨[(0,.v (.one (.yld 7))),(1,.v (.one (.ptr 4 0))),(2,.v (.one (.ptr 5 0))),(4,.v (.one (.ptr 9 0)))],m55_h6 a0 a1 s2 x31 x32 x33,[(8,some ⟨59,2,(Enc.encL s2.1).length,[]⟩)],10,80,[]⟩) (sL (Nat.le_trans hv1 (lb Z)) Z Z Z Z Z)<|XQ.seq ?_
  refine XC.anyRun [4,5] [(2,1),(3,1)] mixed (by kernel_rfl) (by kernel_rfl) (by kernel_rfl) ?_
  refine RunA.rd Z Z Z (OpOK.of_ro (RO.loadOwn ag_37 Z Z Z)) Z ?_
  refine guardK h3 (fun g34 h3=>?_)
  refine RunA.rd Z Z Z (OpOK.of_ro (RO.sliceFrom (α:=LV) sl_37 Z (.d _) Z g34)) Z<|RunA.rd Z Z Z (OpOK.of_ro (RO.loadOwn ag_37 Z Z Z)) Z ?_
  refine guardK h3 (fun g35 h3=>?_)
  refine RunA.rd Z Z Z (OpOK.of_ro (RO.sliceFrom (α:=LV) sl_37 Z (.d _) Z g35)) Z<|RunA.eff Z Z Z (OpOK.store ag_37 Z Z Z Z (lb Z) Z) Z<|RunA.eff Z Z Z (OpOK.store ag_37 Z Z Z Z (lb Z) Z) Z ?_
  refine RunA.nil ⟨?ex,_,_,Z,?_⟩
  case ex=>exact ⟨⟨_,rfl,_,_,rfl,rfl,rfl,.inl ⟨rfl,_,OpOK.of_ro (RO.loadOwn ag_37 rfl rfl rfl),rfl⟩⟩,⟨_,rfl,_,_,rfl,rfl,rfl,.inl ⟨rfl,_,OpOK.of_ro (RO.sliceFrom (α:=LV) sl_37 rfl (.d _) rfl g35),rfl⟩⟩,trivial⟩
  have e:=sI h3;subst e
  exact XQ.joinR ((s2.2.1.drop (1:Int).toNat),(s2.2.2.drop (1:Int).toNat),x31.1,(max x32.2 x33.2)) (sL (Nat.le_trans hv1 (lb Z)) Z Z Z Z Z) h2
  intro v20 h2
  refine XQ.inBlock<|XQ.seq<|XC.seq<|XC.region<|rM Z Z Z<|rR Z Z Z (RO.loadCE (v20.2.2:LV) ag_59 Z Z) ?_
  refine bindK h2 (fun y36 h3 h2=>?_)
  have ha37:ExecOK Try.prog (some 7) m55_c0 ⟨[(4,.v (.one (.ptr 2 0))),(6,.v (.one (.ptr 3 0))),(27,.v (.one (.fn 87 [(4,0),(5,0)]))),(28,.v (.agg (cE v20.2.2)))],m55_h7 a0 a1 s2 v20,[(8,some ⟨59,2,(Enc.encL s2.1).length,[]⟩)],10,39,[]⟩ .normal ⟨[(6,.v (.one (.ptr 3 0))),(7,.v (.one (.ptr 10 0)))],m55_h10 a0 a1 s2 v20,[(8,some ⟨59,2,(Enc.encL s2.1).length,[]⟩)],11,39,[]⟩:=by
   refine ExecOK.walk (fun w0 M V0 ro n Q hv3 hro3 hQn3=>?_)
   refine XC.region<|XL.put Z Z (lb Z) (OpOK.alloc z_59 Z)<|XL.eff Z Z (OpOK.storeCE (v20.2.2:LV) ag_59 Z Z Z Z Z)<|XL.nil ?_
   exact XQ.of hQn3 (sL (Nat.le_trans hv3 (lb Z)) Z Z Z Z Z)
  have hb38:ExecOK Try.prog (some 7) m55_c1 ⟨[(6,.v (.one (.ptr 3 0))),(7,.v (.one (.ptr 10 0)))],m55_h9 a0 a1 s2 v20,[(8,some ⟨59,2,(Enc.encL s2.1).length,[]⟩)],11,39,[]⟩ .normal ⟨[],m55_h12 a0 a1 s2 v20,[(8,some ⟨59,2,(Enc.encL ((s2.1++([v20.2.2])):List LV)).length,[]⟩)],12,39,[]⟩:=by
   refine ExecOK.walk (fun w0 M V0 ro n Q hv3 hro3 hQn3=>?_)
   refine XC.block<|XC.region<|rR Z Z Z (RO.fieldOwn fo_39_1 Z)<|rR Z Z Z (RO.loadOwn ag_37 Z Z Z)<|rR Z Z Z (RO.loadCE (v20.2.2:LV) ag_59 Z Z)<|XL.put Z Z (lb Z) (OpOK.lit1E (α:=LV) (v20.2.2) sl_37 z_59 Z Z (lb Z) (lb Z) Z Z (.cons (.d _) (.cons (.d _) .nil)) Z) ?_
   refine guardK h3 (fun g39 h3=>?_)
   refine XL.put Z Z (lb Z) (OpOK.appendE (α:=LV) sl_37 el_59 Z Z Z Z Z (.app _ _) g39)<|rR Z Z Z (RO.fieldOwn fo_39_1 Z)<|XL.eff Z Z (OpOK.store ag_37 Z Z Z Z (lb Z) Z)<|XL.nil<|XQ.inBlock ?_
   have e:=sI h3;subst e
   exact XQ.of hQn3 (sL (Nat.le_trans hv3 (lb Z)) Z Z Z Z Z)
  refine XL.put Z Z (lb Z) (OpOK.yield (jump:=none) Z Z Z Z Z (ExecOK.from ha37 (fun E hv=>(sL (Nat.le_trans hv (lb Z)) Z Z Z Z Z))) Z (ExecOK.from hb38 (fun E hv=>(sL (Nat.le_trans hv (lb Z)) Z Z Z Z Z))) Z Z) ?_
  refine rR Z Z Z (RO.not Z)<|XL.nil<|XQ.seq ?_
  refine XC.cond Z (fun h=>nomatch h) (fun _=>?_)
  refine XC.skip<|XQ.inBlock ?_
  have e:=sI h2;subst e
  refine XQ.nextM ((s2.1++([v20.2.2])),v20.1,v20.2.1) (sL (Nat.le_trans hv1 (lb Z)) Z Z Z Z Z) ho2
  replace h2:=condF c14 h2
  refine XC.exit<|XQ.thenE<|XQ.thenE ?_
  have e:=sI h2;subst e
  have e_:_=_:=ho2
  subst e_
  exact XQ.joinX (s2.1,s2.2.1,s2.2.2) (sL (Nat.le_trans hv1 (lb Z)) Z Z Z Z Z) h1
  intro o10 h1
  refine XQ.blockX ?_
  have e:=sI h1;subst e
  exact hQ1 _ _ _ (.inl Z) Z (sL (Nat.le_trans hv1 (lb Z)) Z Z Z Z Z)
 refine XC.exec (rangeFunc_out (e:=.normal) rfl hc9 rfl rfl (by intro h;cases h) rfl) rfl ?_
 refine XQ.inBlock<|XQ.seq<|XC.seq<|XC.region<|rR Z Z Z (RO.loadOwnAgg ag_39 Z Z Z Z) ?_
 refine bindK h0 (fun x40 hx40 h0=>?_)
 refine XL.put Z Z (lb Z) (OpOK.callFun (m77_ok (⟨(max a0.c a1.c),y8.1⟩:Lvl) x40 hx40) Z (.cons (.agg (.cons (.d _) (.cons (.app _ _ _) .nil))) .nil))<|rR Z Z Z (RO.extract Z Z)<|rR Z Z Z (RO.extract Z Z)<|XL.eff Z Z (OpOK.storeCE (x40.1:Lvl) ag_39 Z Z Z Z Z)<|rA Z Z Z<|XL.nil<|XQ.seq<|XC.ret ?_
 have e:=sI h0;subst e
 exact XQ.retF (fun _ _ h=>h) Z (RAs.agg ag_39 Z Z Z Z (RAs.tmp Z .nil)) (.cons (.agg (.cons (.d _) (.cons (.d _) .nil))) (.cons (.one (.d _)) .nil))
def m68f7 (a0:Int) (a1:Int) (a2:IMap):Option IMap :=
 Option.bind (cond (!(imHas a2 a0))
   (some true)
   (some (decide ((imVal a2 a0) < a1)))) (fun (v1:Bool)=>cond v1
   (some (imSet a2 a0 a1))
   (some a2))
theorem m68f7_ok (a0:Int) (a1:Int) (a2:IMap) (r:IMap) (h0:m68f7 a0 a1 a2=some r):CallM Try.prog 68 [.one (.mp 0),.one (dI a0),.one (dI a1)] ⟨[(0,.mp (imE a2.1) a2.2)],[],1⟩ (resOf []) ⟨[(0,.mp (imE r.1) r.2)],[],1⟩:=by
 unfold m68f7 at h0
 refine CallM.of_bodyD ⟨[],[(0,.mp (imE r.1) r.2)],[],1,24,[]⟩ Z Z en_68 (lb Z) Z .nil (fun w0 M V0 Q hv0 hQ0=>?_)
 simp only [entry]
 refine XC.seq<|XC.region<|rM Z Z Z<|rM Z Z Z<|rR Z Z Z (RO.lookupT mp_103 Z Z Z)<|rM Z Z Z<|rR Z Z Z (RO.extract Z Z)<|rR Z Z Z (RO.extract Z Z)<|rA Z Z Z<|rA Z Z Z<|XL.nil<|XQ.seq<|XC.seq ?_
 refine XC.joinR (fun (v1:Bool)=>⟨[(0,.v (.one (.mp 0))),(1,.v (.one (dI a0))),(2,.v (.one (dI a1))),(20,.v (.one (dB v1)))],[(0,.mp (imE a2.1) a2.2)],[],1,24,[]⟩) (fun (v1:Bool)=>(cond v1
     (some (imSet a2 a0 a1))
     (some a2))=some r) ?_ ?_
 refine bindK h0 (fun w1_ h1 h0=>?_)
 refine XC.region<|rM Z Z Z<|rR Z Z Z (RO.not Z)<|rM Z Z Z ?_
 refine XL.case (d:=16) (c:=(!(imHas a2 a0))) Z (fun c2=>?_) (fun c2=>?_)
 replace h1:=condT c2 h1
 refine XL.no Z Z<|XL.no Z Z<|XL.no Z Z<|rR Z Z Z (RO.pickT Z Z)<|XL.nil ?_
 have e:=sI h1;subst e
 exact XQ.joinR true (stle (tA Z) (hA Z) kZ Z (Nat.le_trans hv0 (lb Z)) Z Z Z (bM Z bZ) Z Z) h0
 replace h1:=condF c2 h1
 refine rM Z Z Z<|rM Z Z Z<|rR Z Z Z (RO.binInt Z Z Z)<|rR Z Z Z (RO.pickF Z Z)<|XL.nil ?_
 have e:=sI h1;subst e
 exact XQ.joinR (decide ((imVal a2 a0) < a1)) (stle (tA Z) (hA Z) kZ Z (Nat.le_trans hv0 (lb Z)) Z Z Z (bM Z bZ) Z Z) h0
 intro v1 h0
 refine XQ.seq ?_
 refine XC.cond (b:=v1) Z (fun c3=>?_) (fun c3=>?_)
 replace h0:=condT c3 h0
 refine XC.region<|rM Z Z Z<|rM Z Z Z<|rM Z Z Z<|XL.eff Z Z (OpOK.mapSetI mp_103 Z Z Z Z Z)<|XL.nil ?_
 have e:=sI h0;subst e
 exact hQ0 _ _ _ (.inl Z) Z (stle tZ (hA Z) kZ Z (Nat.le_trans hv0 (lb Z)) Z Z Z (bM Z bZ) Z Z)
 replace h0:=condF c3 h0
 refine XC.skip ?_
 have e:=sI h0;subst e
 exact hQ0 _ _ _ (.inl Z) Z (stle tZ (hA Z) kZ Z (Nat.le_trans hv0 (lb Z)) Z Z Z (bM Z bZ) Z Z)
def m67f6_l0 (a0:Lvl) (a1:Int) (s1:Int×IMap):Option (LO (Int×IMap) IMap) :=
 cond (decide (s1.1 < (a0.vs.length:Int)))
   (Option.bind (idx a0.vs s1.1) fun (x3:LV) =>
 Option.bind (m68f7 x3.1 (w64 (x3.2+a1)) s1.2) fun (x4:IMap) =>
 some (.next ((w64 (s1.1+1)),x4)))
   (some (.done s1.2))
def m67f6 (a0:Lvl) (a1:Int) (a2:Int) (a3:IMap):Option IMap :=
 Option.bind (loopN (m67f6_l0 a0 a1) FUEL (0,a3)) (fun (o1:IMap)=>some o1)
theorem m67f6_ok (a0:Lvl) (a1:Int) (a2:Int) (a3:IMap) (r:IMap) (h0:m67f6 a0 a1 a2 a3=some r):CallM Try.prog 67 [.one (.ptr 0 0),.agg (cE a0),.one (dI a1)] ⟨[(0,.cells 105 [.mp 1,dI a2]),(1,.mp (imE a3.1) a3.2)],[],2⟩ (resOf []) ⟨[(0,.cells 105 [.mp 1,dI (max a2 (w64 (a0.c+a1)))]),(1,.mp (imE r.1) r.2)],[],3⟩:=by
 unfold m67f6 at h0
 refine CallM.of_bodyD ⟨[],[(0,.cells 105 [.mp 1,dI (max a2 (w64 (a0.c+a1)))]),(1,.mp (imE r.1) r.2)],[],3,39,[]⟩ Z Z en_67 (lb Z) Z .nil (fun w0 M V0 Q hv0 hQ0=>?_)
 simp only [entry]
 refine XC.seq<|XC.region<|XL.put Z Z (lb Z) (OpOK.box Z)<|XL.nil<|XQ.seq<|XC.seq ?_
 refine XC.anyRun [12] [] mixed (by kernel_rfl) (by kernel_rfl) (by kernel_rfl) ?_
 refine RunA.rd Z Z Z (OpOK.of_ro (RO.move Z)) Z<|RunA.rd Z Z Z (OpOK.of_ro (RO.move Z)) Z<|RunA.rd Z Z Z (OpOK.of_ro (RO.nilCheckPtr Z)) Z<|RunA.rd Z Z Z (OpOK.of_ro (RO.fieldOwn fo_105_1 Z)) Z<|RunA.rd Z Z Z (OpOK.of_ro (RO.loadOwn ag_3 Z Z Z)) Z<|RunA.rd Z Z Z (OpOK.of_ro (RO.fieldOwn fo_39_0 Z)) Z<|RunA.rd Z Z Z (OpOK.of_ro (RO.loadOwn ag_3 Z Z Z)) Z<|RunA.rd Z Z Z (OpOK.of_ro (RO.move Z)) Z<|RunA.rd Z Z Z (OpOK.of_ro (RO.binInt Z Z Z)) Z<|RunA.rd Z Z Z (OpOK.of_ro (RO.max2 Z Z)) Z<|RunA.rd Z Z Z (OpOK.of_ro (RO.nilCheckPtr Z)) Z<|RunA.rd Z Z Z (OpOK.of_ro (RO.fieldOwn fo_105_1 Z)) Z<|RunA.eff Z Z Z (OpOK.store ag_3 Z Z Z Z (lb Z) Z) Z ?_
 refine RunA.nil ⟨?ex,_,_,Z,?_⟩
 case ex=>exact trivial
 refine XQ.less (st':=⟨[(0,.v (.one (.ptr 0 0))),(2,.v (.one (dI a1))),(4,.v (.one (.ptr 2 0)))],[(0,.cells 105 [.mp 1,dI (max a2 (w64 (a0.c+a1)))]),(1,.mp (imE a3.1) a3.2),(2,.cells 39 (cE a0))],[],3,39,[]⟩) (stle (tA Z) (hA Z) kZ Z (Nat.le_trans hv0 (lb Z)) Z Z Z (bB Z Z (bM Z (bA Z))) Z Z)<|XQ.seq<|XC.seq<|XC.region<|rR Z Z Z (RO.fieldOwn fo_39_1 Z)<|rR Z Z Z (RO.loadOwn ag_37 Z Z Z)<|rR Z Z Z (RO.lenE (α:=LV) sl_37 Z (.d _))<|rM Z Z Z<|XL.nil<|XQ.seq<|XC.block ?_
 refine XC.joinX 0 (fun (o1:IMap)=>⟨[],[(0,.cells 105 [.mp 1,dI (max a2 (w64 (a0.c+a1)))]),(1,.mp (imE o1.1) o1.2),(2,.cells 39 (cE a0))],[],3,39,[]⟩) (fun (o1:IMap)=>(some o1)=some r) ?_ ?_
 refine bindK h0 (fun o2 hl1 h0=>?_)
 refine XC.loopM (m67f6_l0 a0 a1) (fun s1=>⟨[(0,.v (.one (.ptr 0 0))),(2,.v (.one (dI a1))),(21,.v (.one (dS a0.vs))),(22,.v (.one (dI (a0.vs.length:Int)))),(23,.v (.one (dI s1.1)))],[(0,.cells 105 [.mp 1,dI (max a2 (w64 (a0.c+a1)))]),(1,.mp (imE s1.2.1) s1.2.2),(2,.cells 39 (cE a0))],[],3,39,[]⟩) (0,a3) o2 (stle (tA Z) (hA Z) kZ Z (Nat.le_trans hv0 (lb Z)) Z Z Z (bB Z Z (bM Z (bA Z))) Z Z) hl1 (fun s1 n1 oo1 h1 ho1=>?_)
 unfold m67f6_l0 at h1
 refine XC.seq<|XC.region<|rR Z Z Z (RO.binInt Z Z Z)<|XL.nil<|XQ.seq<|XC.seq ?_
 refine XC.cond (b:=(decide (s1.1 < (a0.vs.length:Int)))) Z (fun c3=>?_) (fun c3=>?_)
 replace h1:=condT c3 h1
 refine XC.skip<|XQ.seq<|XC.seq<|XC.block<|XC.seq<|XC.region ?_
 refine bindK h1 (fun x4 hx4 h1=>?_)
 refine rR Z Z Z (RO.indexE (α:=LV) sl_37 Z (.d _) Z hx4)<|rR Z Z Z (RO.loadPelCE (x4:LV) ag_59 Z)<|XL.put Z Z (lb Z) (OpOK.alloc z_59 Z)<|XL.eff Z Z (OpOK.storeCE (x4:LV) ag_59 Z Z Z Z Z)<|XL.nil<|XQ.seq ?_
 refine XC.anyRun [10] [] mixed (by kernel_rfl) (by kernel_rfl) (by kernel_rfl) ?_
 refine RunA.rd Z Z Z (OpOK.of_ro (RO.move Z)) Z<|RunA.rd Z Z Z (OpOK.of_ro (RO.nilCheckPtr Z)) Z<|RunA.rd Z Z Z (OpOK.of_ro (RO.fieldOwn fo_105_0 Z)) Z<|RunA.rd Z Z Z (OpOK.of_ro (RO.loadOwn ag_103 Z Z Z)) Z<|RunA.rd Z Z Z (OpOK.of_ro (RO.fieldOwn fo_59_0 Z)) Z<|RunA.rd Z Z Z (OpOK.of_ro (RO.loadOwn ag_3 Z Z Z)) Z<|RunA.rd Z Z Z (OpOK.of_ro (RO.fieldOwn fo_59_1 Z)) Z<|RunA.rd Z Z Z (OpOK.of_ro (RO.loadOwn ag_3 Z Z Z)) Z<|RunA.rd Z Z Z (OpOK.of_ro (RO.move Z)) Z<|RunA.rd Z Z Z (OpOK.of_ro (RO.binInt Z Z Z)) Z ?_
 refine bindK h1 (fun x5 hx5 h1=>?_)
 refine RunA.eff Z Z Z (OpOK.callG (hp1':=[(1,.mp (imE x5.1) x5.2)]) (tk1':=[]) (hpF:=[(0,.cells 105 [.mp 1,dI (max a2 (w64 (a0.c+a1)))]),(2,.cells 39 (cE a0)),(3,.cells 59 (cE x4))]) (tkF:=[]) (res2:=resOf []) (nx2:=4) [1] Z Z (m68f7_ok x4.1 (w64 (x4.2+a1)) s1.2 x5 hx5) Z Z (qM Z qZ) Z Z (gM Z gZ) jZ (hA Z) kZ Z Z Z Z Z (bM Z bZ) Z Z Z Z) Z ?_
 refine RunA.nil ⟨?ex,_,_,Z,?_⟩
 case ex=>exact trivial
 refine XQ.less (st':=⟨[(0,.v (.one (.ptr 0 0))),(2,.v (.one (dI a1))),(21,.v (.one (dS a0.vs))),(22,.v (.one (dI (a0.vs.length:Int)))),(23,.v (.one (dI s1.1)))],[(0,.cells 105 [.mp 1,dI (max a2 (w64 (a0.c+a1)))]),(1,.mp (imE x5.1) x5.2),(2,.cells 39 (cE a0)),(3,.cells 59 (cE x4))],[],4,39,[]⟩) (stle (tA Z) (hA Z) kZ Z (Nat.le_trans hv0 (lb Z)) Z Z Z (bB Z Z (bM Z (bA Z))) Z Z)<|XQ.inBlock<|XQ.seq<|XC.region<|rR Z Z Z (RO.binInt Z Z Z)<|rM Z Z Z<|XL.nil ?_
 have e:=sI h1;subst e
 refine XQ.nextM ((w64 (s1.1+1)),x5) (stle (tA Z) (hA Z) kZ Z (Nat.le_trans hv0 (lb Z)) Z Z Z (bB Z Z (bM Z (bA Z))) Z Z) ho1
 replace h1:=condF c3 h1
 refine XC.exit<|XQ.thenE<|XQ.thenE ?_
 have e:=sI h1;subst e
 have e_:_=_:=ho1
 subst e_
 exact XQ.joinX s1.2 (stle tZ (hA Z) kZ Z (Nat.le_trans hv0 (lb Z)) Z Z Z (bB Z Z (bM Z (bA Z))) Z Z) h0
 intro o1 h0
 refine XQ.blockX ?_
 have e:=sI h0;subst e
 exact hQ0 _ _ _ (.inl Z) Z (stle tZ (hA Z) kZ Z (Nat.le_trans hv0 (lb Z)) Z Z Z (bB Z Z (bM Z bZ)) Z Z)
def m83f9 (a0:IMap):Option Unit :=
 some ()
theorem m83f9_ok (a0:IMap) (r:Unit) (h0:m83f9 a0=some r):CallM Try.prog 83 [.one (.mp 0)] ⟨[(0,.mp (imE a0.1) a0.2)],[],1⟩ (resOf [.one (.fn 91 [(1,0)])]) ⟨[(0,.mp (imE a0.1) a0.2),(1,.cells 103 [.mp 0])],[],2⟩:=by
 unfold m83f9 at h0
 refine CallM.of_bodyD ⟨[(2,.v (.one (.fn 91 [(1,0)])))],[(0,.mp (imE a0.1) a0.2),(1,.cells 103 [.mp 0])],[],2,4,[]⟩ Z Z en_83 (lb Z) Z (RAs.tmp Z .nil) (fun w0 M V0 Q hv0 hQ0=>?_)
 simp only [entry]
 refine XC.seq<|XC.region<|XL.put Z Z (lb Z) (OpOK.box Z)<|rA Z Z Z<|XL.nil<|XQ.seq<|XC.seq<|XC.region<|rR Z Z Z (RO.makeFunc1 Z)<|rA Z Z Z<|XL.nil<|XQ.seq<|XC.ret ?_
 have e:=sI h0;subst e
 exact hQ0 _ _ _ (.inr Z) Z (stle (tA Z) (hA Z) kZ Z (Nat.le_trans hv0 (lb Z)) Z Z Z (bM Z (bA Z)) Z Z)
def m69f8_l0 (a1:IMap) (s1:Int×(List LV)):Option (LO (Int×(List LV)) (((List LV)))) :=
 cond (decide (s1.1 < ((imKeys a1).length:Int)))
   (Option.bind (idx (imKeys a1) s1.1) fun (x5:Int) =>
 guardO (Nat.ble (s1.2.length+([(x5,(imVal a1 x5))]).length) 1000000000)
 (some (.next ((w64 (s1.1+1)),(s1.2++([(x5,(imVal a1 x5))]))))))
   (some (.done s1.2))
noncomputable abbrev m69f8_h0 (p0_:Int):List (Nat×HB) :=
 [(0,.cells 105 [.mp 1,dI p0_]),(2,.cells 39 [dI 0,dN]),(3,.cells 39 [dI p0_,dN])]
noncomputable abbrev m69f8_h1 (p0_:Int) (p1_:Int×(List LV)) (p2_:Int) (p3_:IMap):HB :=
 .cells 39 [dI p0_,dA 5 ((p1_.2++([(p2_,(imVal p3_ p2_))])):List LV)]
noncomputable abbrev m69f8_h2 (p0_:Int) (p1_:IMap) (p2_:Int×(List LV)) (p3_:Int):List (Nat×HB) :=
 [(0,.cells 105 [.mp 1,dI p0_]),(1,.mp (imE p1_.1) p1_.2),(2,.cells 39 [dI 0,dN]),(3,m69f8_h1 p0_ p2_ p3_ p1_),(4,.cells 103 [.mp 1])]
noncomputable abbrev m69f8_h3 (p0_:Int) (p1_:IMap) (p2_:(Int×Int×(List LV))):List (Nat×HB) :=
 [(0,.cells 105 [.mp 1,dI p0_]),(1,.mp (imE p1_.1) p1_.2),(2,.cells 39 [dI p2_.2.1,dS p2_.2.2])]
def m69f8 (a0:Int) (a1:IMap):Option ((Int×Int×(List LV))) :=
 Option.bind (m83f9 a1) fun (x1:Unit) =>
 guardO (imOk a1)
 (Option.bind (loopN (m69f8_l0 a1) FUEL (0,([]:List LV))) (fun (o3:(List LV))=>Option.bind (m77 (⟨a0,o3⟩:Lvl)) fun (x4:Lvl×Int) =>
 some (x4.2,x4.1.c,x4.1.vs)))
theorem m69f8_ok (a0:Int) (a1:IMap) (r:(Int×Int×(List LV))) (h0:m69f8 a0 a1=some r):CallM Try.prog 69 [.one (.ptr 0 0)] ⟨[(0,.cells 105 [.mp 1,dI a0]),(1,.mp (imE a1.1) a1.2)],[],2⟩ (resOf [.agg [dI r.2.1,dS r.2.2],.one (dI r.1)]) ⟨m69f8_h3 a0 a1 r,[],6⟩:=by
 unfold m69f8 at h0
 refine CallM.of_bodyD ⟨[(2,.v (.one (.ptr 2 0))),(3,.v (.one (dI r.1)))],m69f8_h3 a0 a1 r,[],6,41,[]⟩ Z Z en_69 (lb Z) Z (RAs.agg ag_39 Z Z Z Z (RAs.tmp Z .nil)) (fun w0 M V0 Q hv0 hQ0=>?_)
 simp only [entry]
 refine XC.seq<|XC.region<|XL.put Z Z (lb Z) (OpOK.alloc z_39 Z)<|rA Z Z Z<|XL.nil<|XQ.seq<|XC.seq<|XC.region<|rM Z Z Z<|rR Z Z Z (RO.nilCheckPtr Z)<|rR Z Z Z (RO.fieldOwn fo_105_1 Z)<|rR Z Z Z (RO.loadOwn ag_3 Z Z Z)<|rR Z Z Z (RO.build1 bd_39 Z Z Z)<|XL.put Z Z (lb Z) (OpOK.alloc z_39 Z) ?_
 refine XL.eff Z Z (OpOK.store ag_39 Z Z Z Z (lb Z) Z)<|XL.nil<|XQ.seq<|XC.seq<|XC.seq<|XC.region<|rM Z Z Z<|rR Z Z Z (RO.nilCheckPtr Z)<|rR Z Z Z (RO.fieldOwn fo_105_0 Z)<|rR Z Z Z (RO.loadOwn ag_103 Z Z Z) ?_
 refine bindK h0 (fun x1 hx1 h0=>?_)
 refine XL.put Z Z (lb Z) (OpOK.callG (hp1':=[(1,.mp (imE a1.1) a1.2),(4,.cells 103 [.mp 1])]) (tk1':=[]) (hpF:=m69f8_h0 a0) (tkF:=[]) (res2:=resOf [.one (.fn 91 [(4,0)])]) (nx2:=5) [1] Z Z (m83f9_ok a1 x1 hx1) Z Z (qM Z (qB Z Z qZ)) Z Z (gM Z gZ) jZ (hA Z) kZ Z Z Z Z Z (bM Z bZ) Z Z Z Z) ?_
 refine guardK h0 (fun g2 h0=>?_)
 refine XL.put Z Z (lb Z) (OpOK.sortedKeys Z Z Z Z g2)<|rR Z Z Z (RO.lenE (α:=Int) sl_66 Z (.d _))<|rM Z Z Z<|XL.nil<|XQ.seq<|XC.block ?_
 refine XC.joinX 0 (fun (o3:(List LV))=>⟨[(2,.v (.one (.ptr 2 0))),(4,.v (.one (.ptr 3 0)))],[(0,.cells 105 [.mp 1,dI a0]),(1,.mp (imE a1.1) a1.2),(2,.cells 39 [dI 0,dN]),(3,.cells 39 [dI a0,dA 5 o3]),(4,.cells 103 [.mp 1])],[(5,some ⟨59,2,(Enc.encL o3).length,[]⟩)],6,41,[]⟩) (fun (o3:(List LV))=>(Option.bind (m77 (⟨a0,o3⟩:Lvl)) fun (x4:Lvl×Int) =>
   some (x4.2,x4.1.c,x4.1.vs))=some r) ?_ ?_
 refine XC.adoptC (i:=3) (off:=1) 59 2 Z Z ?_
 refine bindK h0 (fun o4 hl1 h0=>?_)
 refine XC.loopM (m69f8_l0 a1) (fun s1=>⟨[(0,.v (.one (.ptr 0 0))),(2,.v (.one (.ptr 2 0))),(4,.v (.one (.ptr 3 0))),(17,.v (.one (dS ((imKeys a1):List Int)))),(18,.v (.one (dI ((imKeys a1).length:Int)))),(19,.v (.one (dI s1.1)))],[(0,.cells 105 [.mp 1,dI a0]),(1,.mp (imE a1.1) a1.2),(2,.cells 39 [dI 0,dN]),(3,.cells 39 [dI a0,dA 5 s1.2]),(4,.cells 103 [.mp 1])],[(5,some ⟨59,2,(Enc.encL s1.2).length,[]⟩)],6,41,[]⟩) (0,([]:List LV)) o4 (stle (tA Z) (hA Z) (kA Z) Z (Nat.le_trans hv0 (lb Z)) Z Z Z (bB Z Z (bM Z (bA Z))) Z Z) hl1 (fun s1 n1 oo1 h1 ho1=>?_)
 unfold m69f8_l0 at h1
 refine XC.seq<|XC.region<|rR Z Z Z (RO.binInt Z Z Z)<|XL.nil<|XQ.seq<|XC.seq ?_
 refine XC.cond (b:=(decide (s1.1 < ((imKeys a1).length:Int)))) Z (fun c5=>?_) (fun c5=>?_)
 replace h1:=condT c5 h1
 refine XC.skip<|XQ.seq<|XC.seq<|XC.block<|XC.seq<|XC.region ?_
 refine bindK h1 (fun x6 hx6 h1=>?_)
 refine rR Z Z Z (RO.indexE (α:=Int) sl_66 Z (.d _) Z hx6)<|rR Z Z Z (RO.loadPel ag_3 Z Z)<|rA Z Z Z<|XL.nil<|XQ.seq ?_
 refine XC.anyRun [11,13] [] mixed (by kernel_rfl) (by kernel_rfl) (by kernel_rfl) ?_
 refine RunA.rd Z Z Z (OpOK.of_ro (RO.fieldOwn fo_39_1 Z)) Z<|RunA.rd Z Z Z (OpOK.of_ro (RO.loadOwn ag_37 Z Z Z)) Z<|RunA.rd Z Z Z (OpOK.of_ro (RO.move Z)) Z<|RunA.rd Z Z Z (OpOK.of_ro (RO.move Z)) Z<|RunA.rd Z Z Z (OpOK.of_ro (RO.nilCheckPtr Z)) Z<|RunA.rd Z Z Z (OpOK.of_ro (RO.fieldOwn fo_105_0 Z)) Z<|RunA.rd Z Z Z (OpOK.of_ro (RO.loadOwn ag_103 Z Z Z)) Z<|RunA.rd Z Z Z (OpOK.of_ro (RO.move Z)) Z<|RunA.rd Z Z Z (OpOK.of_ro (RO.lookupF mp_103 Z Z Z)) Z<|RunA.rd Z Z Z (OpOK.of_ro (RO.build2 bd_59 Z Z Z Z)) Z<|RunA.rd Z Z Z (OpOK.data1E (α:=LV) ((x6,(imVal a1 x6))) sl_37 z_59 Z Z (lb Z) Z Z (.cons (.d _) (.cons (.d _) .nil)) Z) Z ?_
 refine guardK h1 (fun g7 h1=>?_)
 refine RunA.eff Z Z Z (OpOK.appendE (α:=LV) sl_37 el_59 Z Z Z Z Z (.d _) g7) Z<|RunA.rd Z Z Z (OpOK.of_ro (RO.fieldOwn fo_39_1 Z)) Z<|RunA.eff Z Z Z (OpOK.store ag_37 Z Z Z Z (lb Z) Z) Z ?_
 refine RunA.nil ⟨?ex,_,_,Z,?_⟩
 case ex=>exact trivial
 refine XQ.less (st':=⟨[(0,.v (.one (.ptr 0 0))),(2,.v (.one (.ptr 2 0))),(4,.v (.one (.ptr 3 0))),(17,.v (.one (dS ((imKeys a1):List Int)))),(18,.v (.one (dI ((imKeys a1).length:Int)))),(19,.v (.one (dI s1.1)))],m69f8_h2 a0 a1 s1 x6,[(5,some ⟨59,2,(Enc.encL ((s1.2++([(x6,(imVal a1 x6))])):List LV)).length,[]⟩)],6,41,[]⟩) (stle (tA Z) (hA Z) (kA Z) Z (Nat.le_trans hv0 (lb Z)) Z Z Z (bB Z Z (bM Z (bA Z))) Z Z)<|XQ.inBlock<|XQ.seq<|XC.region<|rR Z Z Z (RO.binInt Z Z Z)<|rM Z Z Z<|XL.nil ?_
 have e:=sI h1;subst e
 refine XQ.nextM ((w64 (s1.1+1)),(s1.2++([(x6,(imVal a1 x6))]))) (stle (tA Z) (hA Z) (kA Z) Z (Nat.le_trans hv0 (lb Z)) Z Z Z (bB Z Z (bM Z (bA Z))) Z Z) ho1
 replace h1:=condF c5 h1
 refine XC.exit<|XQ.thenE<|XQ.thenE ?_
 have e:=sI h1;subst e
 have e_:_=_:=ho1
 subst e_
 exact XQ.joinX s1.2 (stle (tA Z) (hA Z) (kA Z) Z (Nat.le_trans hv0 (lb Z)) Z Z Z (bB Z Z (bM Z (bA Z))) Z Z) h0
 intro o3 h0
 refine XQ.blockX<|XQ.seq<|XC.seq<|XC.region<|rR Z Z Z (RO.loadOwnAgg ag_39 Z Z Z Z) ?_
 refine bindK h0 (fun x8 hx8 h0=>?_)
 refine XL.put Z Z (lb Z) (OpOK.callFun (m77_ok (⟨a0,o3⟩:Lvl) x8 hx8) Z (.cons (.agg (.cons (.d _) (.cons (.app _ _ _) .nil))) .nil))<|rR Z Z Z (RO.extract Z Z)<|rR Z Z Z (RO.extract Z Z)<|XL.eff Z Z (OpOK.storeCE (x8.1:Lvl) ag_39 Z Z Z Z Z)<|rA Z Z Z<|XL.nil<|XQ.seq<|XC.ret ?_
 have e:=sI h0;subst e
 exact hQ0 _ _ _ (.inr Z) Z (stle (tA Z) (hA Z) kZ Z (Nat.le_trans hv0 (lb Z)) Z Z Z (bB Z Z (bM Z (bA Z))) Z Z)
end Go.Proofs.Ytkimijmiphkddaa
namespace Go.Proofs.Ytkimijmiphkddaa
open Go.RowKit Go.Shelf
theorem en_49:Enters Try.prog 49:=enters_of Try.func49 (by kernel_rfl) rfl
theorem en_71:Enters Try.prog 71:=enters_of Try.func71 (by kernel_rfl) rfl
noncomputable def m31f10_c0:Code:=(cA (cA (cB (cA (cB (cB (cB (cB (bodyC Try.f31)))))))))
noncomputable def m31f10_c1:Code:=(cB (cA (cB (cA (cB (cB (cB (cB (bodyC Try.f31)))))))))
def m88f14_l0 (a0:Nat) (a1:List Lvl) (s1:Int):Option (LO Int (Unit⊕Int)) :=
 cond (decide (s1 < ((a0:Nat):Int)))
   (Option.bind (idx a1 s1) fun (x3:Lvl) =>
 guardO (Nat.beq a1.length a0)
 (Option.bind (Option.bind (m28 x3) fun (x7:Bool) =>
 some (!x7)) (fun (y5:Bool)=>cond y5
   (some (.done (.inr s1)))
   (some (.next (w64 (s1+1)))))))
   (some (.done (.inl ())))
def m88f14 (a0:Nat) (a1:List Lvl):Option Int :=
 Option.bind (loopN (m88f14_l0 a0 a1) FUEL 0) (Sum.elim (fun (o1:Unit)=>some (-1)) (fun o=>some o))
theorem m88f14_ok (a0:Nat) (a1:List Lvl) (r:Int) (h0:m88f14 a0 a1=some r):CallM Try.prog 88 [.one (.osl 0 0 a0 a0),.one (.fn 81 [])] ⟨[(0,.cells 39 (flatE a1))],[],1⟩ (resOf [.one (dI r)]) ⟨[(0,.cells 39 (flatE a1))],[],1⟩:=by
 unfold m88f14 at h0
 refine CallM.of_bodyD ⟨[(4,.v (.one (dI r)))],[(0,.cells 39 (flatE a1))],[],1,19,[]⟩ Z Z en_88 (lb Z) Z (RAs.tmp Z .nil) (fun w0 M V0 Q hv0 hQ0=>?_)
 simp only [entry]
 refine XC.seq<|XC.region<|rA Z Z Z<|XL.nil<|XQ.seq<|XC.seq<|XC.seq<|XC.region<|rM Z Z Z<|rR Z Z Z (RO.lenOsl sl_31 Z)<|rM Z Z Z<|XL.nil<|XQ.seq<|XC.block ?_
 refine XC.joinX 0 (fun (o1:Unit)=>⟨[],[(0,.cells 39 (flatE a1))],[],1,19,[]⟩) (fun (o1:Unit)=>(some (-1))=some r) ?_ ?_
 refine bindK h0 (fun o2 hl1 h0=>?_)
 refine XC.loopM (m88f14_l0 a0 a1) (fun s1=>⟨[(0,.v (.one (.osl 0 0 a0 a0))),(1,.v (.one (.fn 81 []))),(7,.v (.one (dI ((a0:Nat):Int)))),(8,.v (.one (dI s1)))],[(0,.cells 39 (flatE a1))],[],1,19,[]⟩) 0 o2 (stle (tA Z) (hA Z) kZ Z (Nat.le_trans hv0 (lb Z)) Z Z Z (bF Z bZ) Z Z) hl1 (fun s1 n1 oo1 h1 ho1=>?_)
 unfold m88f14_l0 at h1
 refine XC.seq<|XC.region<|rR Z Z Z (RO.binInt Z Z Z)<|XL.nil<|XQ.seq<|XC.seq ?_
 refine XC.cond (b:=(decide (s1 < ((a0:Nat):Int)))) Z (fun c3=>?_) (fun c3=>?_)
 replace h1:=condT c3 h1
 refine XC.skip<|XQ.seq<|XC.seq<|XC.block<|XC.seq<|XC.region<|rM Z Z Z<|rA Z Z Z<|XL.nil<|XQ.seq<|XC.seq<|XC.region<|rM Z Z Z<|rM Z Z Z ?_
 refine rM Z Z Z ?_
 refine bindK h1 (fun x4 hx4 h1=>?_)
 refine guardK h1 (fun g5 h1=>?_)
 refine rR Z Z Z (RO.indexO (α:=Lvl) sl_31 Z Z hx4 g5)<|rR Z Z Z (RO.loadOE (α:=Lvl) (ys:=[dI x4.c,dS x4.vs]) ag_39 Z Z hx4 Z) ?_
 refine bindK h1 (fun y6 h2 h1=>?_)
 have hc7:CallM Try.prog 81 [.agg (cE x4)] ⟨[(0,.cells 39 (flatE a1))],[],1⟩ (resOf [.one (dB y6)]) ⟨[(0,.cells 39 (flatE a1))],[],2⟩:=by
  refine CallM.of_bodyD ⟨[(2,.v (.one (dB y6)))],[(0,.cells 39 (flatE a1))],[],2,6,[]⟩ Z Z en_81 (lb Z) Z (RAs.tmp Z .nil) (fun w0 M V0 Q hv2 hQ2=>?_)
  simp only [entry]
  refine XC.seq<|XC.region<|XL.put Z Z (lb Z) (OpOK.box Z)<|rA Z Z Z<|XL.nil<|XQ.seq<|XC.seq<|XC.region<|rR Z Z Z (RO.loadCE (x4:Lvl) ag_39 Z Z) ?_
  refine bindK h2 (fun x8 hx8 h2=>?_)
  refine XL.put Z Z (lb Z) (OpOK.callFun (m28_ok x4 x8 hx8) Z (.cons (.agg (.cons (.d _) (.cons (.d _) .nil))) .nil))<|rR Z Z Z (RO.not Z)<|rA Z Z Z<|XL.nil<|XQ.seq<|XC.ret ?_
  have e:=sI h2;subst e
  exact hQ2 _ _ _ (.inr Z) Z (stle (tA Z) (hA Z) kZ Z (Nat.le_trans hv2 (lb Z)) Z Z Z (bF Z bZ) Z Z)
 refine XL.put Z Z (lb Z) (OpOK.callW Z Z Z hc7 Z (hA Z) kZ)<|XL.nil<|XQ.seq ?_
 refine XC.cond (b:=y6) Z (fun c9=>?_) (fun c9=>?_)
 replace h1:=condT c9 h1
 refine XC.seq<|XC.region<|rM Z Z Z<|rA Z Z Z<|XL.nil<|XQ.seq<|XC.ret ?_
 have e:=sI h1;subst e
 have e_:_=_:=ho1
 subst e_
 try dsimp only [Sum.elim_inl,Sum.elim_inr] at h0
 have e:=sI h0;subst e
 exact hQ0 _ _ _ (.inr Z) Z (stle (tA Z) (hA Z) kZ Z (Nat.le_trans hv0 (lb Z)) Z Z Z (bF Z bZ) Z Z)
 replace h1:=condF c9 h1
 refine XC.skip<|XQ.inBlock<|XQ.seq<|XC.region<|rR Z Z Z (RO.binInt Z Z Z)<|rM Z Z Z<|XL.nil ?_
 have e:=sI h1;subst e
 refine XQ.nextM (w64 (s1+1)) (stle (tA Z) (hA Z) kZ Z (Nat.le_trans hv0 (lb Z)) Z Z Z (bF Z bZ) Z Z) ho1
 replace h1:=condF c3 h1
 refine XC.exit<|XQ.thenE<|XQ.thenE ?_
 have e:=sI h1;subst e
 have e_:_=_:=ho1
 subst e_
 exact XQ.joinX () (stle tZ (hA Z) kZ Z (Nat.le_trans hv0 (lb Z)) Z Z Z (bF Z bZ) Z Z) h0
 intro o1 h0
 refine XQ.blockX<|XQ.seq<|XC.seq<|XC.region<|rA Z Z Z<|XL.nil<|XQ.seq<|XC.ret ?_
 have e:=sI h0;subst e
 exact hQ0 _ _ _ (.inr Z) Z (stle (tA Z) (hA Z) kZ Z (Nat.le_trans hv0 (lb Z)) Z Z Z (bF Z bZ) Z Z)
def m80f13 (a0:Nat) (a1:List Lvl):Option Bool :=
 Option.bind (m88f14 a0 a1) fun (x1:Int) =>
 some (decide (0≤x1))
theorem m80f13_ok (a0:Nat) (a1:List Lvl) (r:Bool) (h0:m80f13 a0 a1=some r):CallM Try.prog 80 [.one (.osl 0 0 a0 a0),.one (.fn 81 [])] ⟨[(0,.cells 39 (flatE a1))],[],1⟩ (resOf [.one (dB r)]) ⟨[(0,.cells 39 (flatE a1))],[],1⟩:=by
 unfold m80f13 at h0
 refine CallM.of_bodyD ⟨[(4,.v (.one (dB r)))],[(0,.cells 39 (flatE a1))],[],1,9,[]⟩ Z Z en_80 (lb Z) Z (RAs.tmp Z .nil) (fun w0 M V0 Q hv0 hQ0=>?_)
 simp only [entry]
 refine XC.seq<|XC.region<|rA Z Z Z<|XL.nil<|XQ.seq<|XC.seq<|XC.region<|rM Z Z Z<|rM Z Z Z ?_
 refine bindK h0 (fun x1 hx1 h0=>?_)
 refine XL.put Z Z (lb Z) (OpOK.callG (hp1':=[(0,.cells 39 (flatE a1))]) (tk1':=[]) (hpF:=[]) (tkF:=[]) (res2:=resOf [.one (dI x1)]) (nx2:=1) [0] Z Z (m88f14_ok a0 a1 x1 hx1) Z Z (qF Z qZ) Z Z (gF Z gZ) jZ hZ kZ Z Z Z Z Z (bF Z bZ) Z Z Z Z)<|rR Z Z Z (RO.binInt Z Z Z)<|rA Z Z Z<|XL.nil<|XQ.seq<|XC.ret ?_
 have e:=sI h0;subst e
 exact hQ0 _ _ _ (.inr Z) Z (stle (tA Z) (hA Z) kZ Z (Nat.le_trans hv0 (lb Z)) Z Z Z (bF Z bZ) Z Z)
def m65f12 (a0:Nat) (a1:List Lvl):Option Bool :=
 Option.bind (m80f13 a0 a1) fun (x1:Bool) =>
 some (!x1)
theorem m65f12_ok (a0:Nat) (a1:List Lvl) (r:Bool) (h0:m65f12 a0 a1=some r):CallM Try.prog 65 [.one (.osl 0 0 a0 a0)] ⟨[(0,.cells 39 (flatE a1))],[],1⟩ (resOf [.one (dB r)]) ⟨[(0,.cells 39 (flatE a1))],[],1⟩:=by
 unfold m65f12 at h0
 refine CallM.of_bodyD ⟨[(2,.v (.one (dB r)))],[(0,.cells 39 (flatE a1))],[],1,6,[]⟩ Z Z en_65 (lb Z) Z (RAs.tmp Z .nil) (fun w0 M V0 Q hv0 hQ0=>?_)
 simp only [entry]
 refine XC.seq<|XC.region<|rA Z Z Z<|XL.nil<|XQ.seq<|XC.seq<|XC.region<|rM Z Z Z ?_
 refine bindK h0 (fun x1 hx1 h0=>?_)
 refine XL.put Z Z (lb Z) (OpOK.callG (hp1':=[(0,.cells 39 (flatE a1))]) (tk1':=[]) (hpF:=[]) (tkF:=[]) (res2:=resOf [.one (dB x1)]) (nx2:=1) [0] Z Z (m80f13_ok a0 a1 x1 hx1) Z Z (qF Z qZ) Z Z (gF Z gZ) jZ hZ kZ Z Z Z Z Z (bF Z bZ) Z Z Z Z)<|rR Z Z Z (RO.not Z)<|rA Z Z Z<|XL.nil<|XQ.seq<|XC.ret ?_
 have e:=sI h0;subst e
 exact hQ0 _ _ _ (.inr Z) Z (stle (tA Z) (hA Z) kZ Z (Nat.le_trans hv0 (lb Z)) Z Z Z (bF Z bZ) Z Z)
def m48f11_l0 (a0:Lvl) (a1:Nat) (a2:List Lvl) (s1:Int×IMap×Int):Option (LO (Int×IMap×Int) ((IMap×Int))) :=
 cond (decide (s1.1 < (a0.vs.length:Int)))
   (Option.bind (idx a0.vs s1.1) fun (x7:LV) =>
 Option.bind (cond (decide (0≤(w64 ((-1) - x7.1))))
   (some (decide ((w64 ((-1) - x7.1)) < ((a1:Nat):Int))))
   (some false)) (fun (v8:Bool)=>cond v8
   (Option.bind (idx a2 (w64 ((-1) - x7.1))) fun (x10:Lvl) =>
 guardO (Nat.beq a2.length a1)
 (Option.bind (m67f6 x10 x7.2 s1.2.2 s1.2.1) fun (x12:IMap) =>
 some (.next ((w64 (s1.1+1)),x12,(max s1.2.2 (w64 (x10.c+x7.2)))))))
   (Option.bind (m68f7 x7.1 x7.2 s1.2.1) fun (x13:IMap) =>
 some (.next ((w64 (s1.1+1)),x13,s1.2.2)))))
   (some (.done (s1.2.1,s1.2.2)))
noncomputable abbrev m48f11_h0 (p0_:List Lvl) (p1_:Lvl):List (Nat×HB) :=
 [(0,.cells 39 (flatE p0_)),(1,.cells 39 (cE p1_)),(2,.cells 39 [dI 0,dN])]
noncomputable abbrev m48f11_h1 (p0_:List Lvl) (p1_:Lvl):List (Nat×HB) :=
 [(0,.cells 39 (flatE p0_)),(1,.cells 39 (cE p1_)),(2,.cells 39 [dI 0,dN]),(3,.mp (imE imNil.1) imNil.2),(4,.cells 105 [.mp 3,dI 0])]
noncomputable abbrev m48f11_h2 (p0_:List Lvl) (p1_:Lvl) (p2_:Int×IMap×Int) (p3_:LV):List (Nat×HB) :=
 [(0,.cells 39 (flatE p0_)),(1,.cells 39 (cE p1_)),(2,.cells 39 [dI 0,dN]),(3,.mp (imE p2_.2.1.1) p2_.2.1.2),(4,.cells 105 [.mp 3,dI p2_.2.2]),(5,.cells 59 (cE p3_))]
noncomputable abbrev m48f11_h3 (p0_:List Lvl) (p1_:Lvl) (p2_:LV):List (Nat×HB) :=
 [(0,.cells 39 (flatE p0_)),(1,.cells 39 (cE p1_)),(2,.cells 39 [dI 0,dN]),(5,.cells 59 (cE p2_))]
noncomputable abbrev m48f11_h4 (p0_:List Lvl) (p1_:Lvl) (p2_:Int×IMap×Int) (p3_:LV):List (Nat×HB) :=
 [(0,.cells 39 (flatE p0_)),(1,.cells 39 (cE p1_)),(2,.cells 39 [dI 0,dN]),(4,.cells 105 [.mp 3,dI p2_.2.2]),(5,.cells 59 (cE p3_))]
noncomputable abbrev m48f11_h5 (p0_:List Lvl) (p1_:Lvl) (p2_:IMap) (p3_:Int×IMap×Int) (p4_:LV):List (Nat×HB) :=
 [(0,.cells 39 (flatE p0_)),(1,.cells 39 (cE p1_)),(2,.cells 39 [dI 0,dN]),(3,.mp (imE p2_.1) p2_.2),(4,.cells 105 [.mp 3,dI p3_.2.2]),(5,.cells 59 (cE p4_))]
noncomputable abbrev m48f11_h6 (p0_:List Lvl) (p1_:(Int×Int×(List LV))):List (Nat×HB) :=
 [(0,.cells 39 (flatE p0_)),(2,.cells 39 [dI p1_.2.1,dS p1_.2.2])]
def m48f11 (a0:Lvl) (a1:Nat) (a2:List Lvl):Option ((Int×Int×(List LV))) :=
 Option.bind (Option.bind (m28 a0) fun (x2:Bool) =>
 cond (!x2)
   (some true)
   (Option.bind (m65f12 a1 a2) fun (x4:Bool) =>
 some (!x4))) (fun (v1:Bool)=>cond v1
   (some (3,0,([]:List LV)))
   (Option.bind (some ()) (fun (y3:Unit)=>Option.bind (loopN (m48f11_l0 a0 a1 a2) FUEL (0,imNil,a0.c)) (fun (o5:IMap×Int)=>Option.bind (m69f8 o5.2 o5.1) fun (x6:(Int×Int×(List LV))) =>
 some (x6.1,x6.2.1,x6.2.2)))))
theorem m48f11_ok (a0:Lvl) (a1:Nat) (a2:List Lvl) (r:(Int×Int×(List LV))) (h0:m48f11 a0 a1 a2=some r):CallM Try.prog 48 [.agg (cE a0),.one (.osl 0 0 a1 a1)] ⟨[(0,.cells 39 (flatE a2))],[],1⟩ (resOf [.agg [dI r.2.1,dS r.2.2],.one (dI r.1)]) ⟨m48f11_h6 a2 r,[],3⟩:=by
 unfold m48f11 at h0
 refine CallM.of_bodyD ⟨[(4,.v (.one (.ptr 2 0))),(5,.v (.one (dI r.1)))],m48f11_h6 a2 r,[],3,65,[]⟩ Z Z en_48 (lb Z) Z (RAs.agg ag_39 Z Z Z Z (RAs.tmp Z .nil)) (fun w0 M V0 Q hv0 hQ0=>?_)
 simp only [entry]
 refine XC.seq<|XC.region<|XL.put Z Z (lb Z) (OpOK.box Z)<|XL.put Z Z (lb Z) (OpOK.alloc z_39 Z)<|rA Z Z Z<|XL.nil<|XQ.seq<|XC.seq<|XC.seq ?_
 refine XC.joinR (fun (v1:Bool)=>⟨[(1,.v (.one (.osl 0 0 a1 a1))),(2,.v (.one (.ptr 1 0))),(4,.v (.one (.ptr 2 0))),(17,.v (.one (dB v1)))],m48f11_h0 a2 a0,[],3,65,[]⟩) (fun (v1:Bool)=>(cond v1
     (some (3,0,([]:List LV)))
     (Option.bind (some ()) (fun (y3:Unit)=>Option.bind (loopN (m48f11_l0 a0 a1 a2) FUEL (0,imNil,a0.c)) (fun (o5:IMap×Int)=>Option.bind (m69f8 o5.2 o5.1) fun (x6:(Int×Int×(List LV))) =>
   some (x6.1,x6.2.1,x6.2.2)))))=some r) ?_ ?_
 refine bindK h0 (fun w1_ h1 h0=>?_)
 refine XC.region<|rR Z Z Z (RO.loadCE (a0:Lvl) ag_39 Z Z) ?_
 refine bindK h1 (fun x2 hx2 h1=>?_)
 refine XL.put Z Z (lb Z) (OpOK.callFun (m28_ok a0 x2 hx2) Z (.cons (.agg (.cons (.d _) (.cons (.d _) .nil))) .nil))<|rR Z Z Z (RO.not Z)<|rM Z Z Z ?_
 refine XL.case (d:=13) (c:=(!x2)) Z (fun c3=>?_) (fun c3=>?_)
 replace h1:=condT c3 h1
 refine XL.no Z Z<|XL.no Z Z<|XL.no Z Z<|rR Z Z Z (RO.pickT Z Z)<|XL.nil ?_
 have e:=sI h1;subst e
 exact XQ.joinR true (stle (tA Z) (hA Z) kZ Z (Nat.le_trans hv0 (lb Z)) Z Z Z (bF Z (bA Z)) Z Z) h0
 replace h1:=condF c3 h1
 refine rM Z Z Z ?_
 refine bindK h1 (fun x4 hx4 h1=>?_)
 refine XL.put Z Z (lb Z) (OpOK.callG (hp1':=[(0,.cells 39 (flatE a2))]) (tk1':=[]) (hpF:=[(1,.cells 39 (cE a0)),(2,.cells 39 [dI 0,dN])]) (tkF:=[]) (res2:=resOf [.one (dB x4)]) (nx2:=3) [0] Z Z (m65f12_ok a1 a2 x4 hx4) Z Z (qF Z qZ) Z Z (gF Z gZ) jZ (hA Z) kZ Z Z Z Z Z (bF Z bZ) Z Z Z Z)<|rR Z Z Z (RO.not Z)<|rR Z Z Z (RO.pickF Z Z)<|XL.nil ?_
 have e:=sI h1;subst e
 exact XQ.joinR (!x4) (stle (tA Z) (hA Z) kZ Z (Nat.le_trans hv0 (lb Z)) Z Z Z (bF Z (bA Z)) Z Z) h0
 intro v1 h0
 refine XQ.seq ?_
 refine XC.cond (b:=v1) Z (fun c5=>?_) (fun c5=>?_)
 replace h0:=condT c5 h0
 refine XC.seq<|XC.region<|rR Z Z Z (RO.build0 bd_39 Z )<|XL.eff Z Z (OpOK.store ag_39 Z Z Z Z (lb Z) Z)<|rA Z Z Z<|XL.nil<|XQ.seq<|XC.ret ?_
 have e:=sI h0;subst e
 exact hQ0 _ _ _ (.inr Z) Z (stle (tA Z) (hR Z (hC Z (.cons (.refl _) (.cons (.sub (.nil _)) .nil)) hZ)) kZ Z (Nat.le_trans hv0 (lb Z)) Z Z Z (bF Z (bA Z)) Z Z)
 replace h0:=condF c5 h0
 refine XC.skip<|XQ.seq<|XC.seq<|XC.region ?_
 refine bindK h0 (fun y6 h1 h0=>?_)
 have hc7:CallM Try.prog 66 [] ⟨m48f11_h0 a2 a0,[],3⟩ (resOf [.one (.ptr 4 0)]) ⟨m48f11_h1 a2 a0,[],5⟩:=by
  refine CallM.of_bodyD ⟨[(0,.v (.one (.ptr 4 0)))],m48f11_h1 a2 a0,[],5,4,[]⟩ Z Z en_66 (lb Z) Z (RAs.tmp Z .nil) (fun w0 M V0 Q hv1 hQ1=>?_)
  simp only [entry]
  refine XC.seq<|XC.region<|rA Z Z Z<|XL.nil<|XQ.seq<|XC.seq<|XC.region<|XL.put Z Z (lb Z) (OpOK.makeMapI)<|rR Z Z Z (RO.build1 bd_105 Z Z Z)<|XL.put Z Z (lb Z) (OpOK.box Z)<|rA Z Z Z<|XL.nil<|XQ.seq<|XC.ret ?_
  have e:=sI h1;subst e
  exact hQ1 _ _ _ (.inr Z) Z (stle (tA Z) (hA Z) kZ Z (Nat.le_trans hv1 (lb Z)) Z Z Z (bF Z (bB Z Z (bB Z Z (bM Z (bA Z))))) Z Z)
 refine XL.put Z Z (lb Z) (OpOK.callW Z Z Z hc7 Z (hA Z) kZ)<|rA Z Z Z<|XL.nil<|XQ.seq<|XC.seq<|XC.region<|rM Z Z Z<|rR Z Z Z (RO.fieldOwn fo_39_0 Z)<|rR Z Z Z (RO.loadOwn ag_3 Z Z Z)<|rR Z Z Z (RO.nilCheckPtr Z)<|rR Z Z Z (RO.fieldOwn fo_105_1 Z)<|XL.eff Z Z (OpOK.store ag_3 Z Z Z Z (lb Z) Z)<|XL.nil<|XQ.seq ?_
 refine XC.seq<|XC.seq<|XC.region<|rR Z Z Z (RO.fieldOwn fo_39_1 Z)<|rR Z Z Z (RO.loadOwn ag_37 Z Z Z)<|rR Z Z Z (RO.lenE (α:=LV) sl_37 Z (.d _))<|rM Z Z Z<|XL.nil<|XQ.seq<|XC.block ?_
 refine XC.joinX 0 (fun (o8:IMap×Int)=>⟨[(4,.v (.one (.ptr 2 0))),(6,.v (.one (.ptr 4 0)))],[(0,.cells 39 (flatE a2)),(1,.cells 39 (cE a0)),(2,.cells 39 [dI 0,dN]),(3,.mp (imE o8.1.1) o8.1.2),(4,.cells 105 [.mp 3,dI o8.2])],[],5,65,[]⟩) (fun (o8:IMap×Int)=>(Option.bind (m69f8 o8.2 o8.1) fun (x9:(Int×Int×(List LV))) =>
   some (x9.1,x9.2.1,x9.2.2))=some r) ?_ ?_
 refine bindK h0 (fun o9 hl1 h0=>?_)
 refine XC.loopM (m48f11_l0 a0 a1 a2) (fun s1=>⟨[(1,.v (.one (.osl 0 0 a1 a1))),(4,.v (.one (.ptr 2 0))),(6,.v (.one (.ptr 4 0))),(26,.v (.one (dS a0.vs))),(27,.v (.one (dI (a0.vs.length:Int)))),(28,.v (.one (dI s1.1)))],[(0,.cells 39 (flatE a2)),(1,.cells 39 (cE a0)),(2,.cells 39 [dI 0,dN]),(3,.mp (imE s1.2.1.1) s1.2.1.2),(4,.cells 105 [.mp 3,dI s1.2.2])],[],5,65,[]⟩) (0,imNil,a0.c) o9 (stle (tA Z) (hA Z) kZ Z (Nat.le_trans hv0 (lb Z)) Z Z Z (bF Z (bB Z Z (bB Z Z (bM Z (bA Z))))) Z Z) hl1 (fun s1 n1 oo1 h1 ho1=>?_)
 unfold m48f11_l0 at h1
 refine XC.seq<|XC.region<|rR Z Z Z (RO.binInt Z Z Z)<|XL.nil<|XQ.seq<|XC.seq ?_
 refine XC.cond (b:=(decide (s1.1 < (a0.vs.length:Int)))) Z (fun c10=>?_) (fun c10=>?_)
 replace h1:=condT c10 h1
 refine XC.skip<|XQ.seq<|XC.seq<|XC.block<|XC.seq<|XC.region ?_
 refine bindK h1 (fun x11 hx11 h1=>?_)
 refine rR Z Z Z (RO.indexE (α:=LV) sl_37 Z (.d _) Z hx11)<|rR Z Z Z (RO.loadPelCE (x11:LV) ag_59 Z)<|XL.put Z Z (lb Z) (OpOK.alloc z_59 Z)<|XL.eff Z Z (OpOK.storeCE (x11:LV) ag_59 Z Z Z Z Z)<|XL.nil<|XQ.seq<|XC.seq<|XC.region<|rR Z Z Z (RO.fieldOwn fo_59_0 Z)<|rR Z Z Z (RO.loadOwn ag_3 Z Z Z)<|rR Z Z Z (RO.binInt Z Z Z)<|rA Z Z Z<|XL.nil<|XQ.seq ?_
 refine XC.seq ?_
 refine XC.joinR (fun (v12:Bool)=>⟨[(1,.v (.one (.osl 0 0 a1 a1))),(4,.v (.one (.ptr 2 0))),(6,.v (.one (.ptr 4 0))),(8,.v (.one (.ptr 5 0))),(9,.v (.one (dI (w64 ((-1) - x11.1))))),(26,.v (.one (dS a0.vs))),(27,.v (.one (dI (a0.vs.length:Int)))),(28,.v (.one (dI s1.1))),(42,.v (.one (dB v12)))],m48f11_h2 a2 a0 s1 x11,[],6,65,[]⟩) (fun (v12:Bool)=>(cond v12
     (Option.bind (idx a2 (w64 ((-1) - x11.1))) fun (x14:Lvl) =>
   guardO (Nat.beq a2.length a1)
   (Option.bind (m67f6 x14 x11.2 s1.2.2 s1.2.1) fun (x16:IMap) =>
   some (.next ((w64 (s1.1+1)),x16,(max s1.2.2 (w64 (x14.c+x11.2)))))))
     (Option.bind (m68f7 x11.1 x11.2 s1.2.1) fun (x17:IMap) =>
   some (.next ((w64 (s1.1+1)),x17,s1.2.2))))=some oo1) ?_ ?_
 refine bindK h1 (fun w2_ h2 h1=>?_)
 refine XC.region<|rM Z Z Z<|rR Z Z Z (RO.binInt Z Z Z)<|rM Z Z Z ?_
 refine XL.case (d:=37) (c:=(decide (0≤(w64 ((-1) - x11.1))))) Z (fun c13=>?_) (fun c13=>?_)
 replace h2:=condT c13 h2
 refine rM Z Z Z<|rM Z Z Z<|rR Z Z Z (RO.lenOsl sl_31 Z)<|rR Z Z Z (RO.binInt Z Z Z)<|rR Z Z Z (RO.pickT Z Z)<|XL.nil ?_
 have e:=sI h2;subst e
 exact XQ.joinR (decide ((w64 ((-1) - x11.1)) < ((a1:Nat):Int))) (stle (tA Z) (hA Z) kZ Z (Nat.le_trans hv0 (lb Z)) Z Z Z (bF Z (bB Z Z (bB Z Z (bM Z (bA Z))))) Z Z) h1
 replace h2:=condF c13 h2
 refine XL.no Z Z<|XL.no Z Z<|XL.no Z Z<|XL.no Z Z<|rR Z Z Z (RO.pickF Z Z)<|XL.nil ?_
 have e:=sI h2;subst e
 exact XQ.joinR false (stle (tA Z) (hA Z) kZ Z (Nat.le_trans hv0 (lb Z)) Z Z Z (bF Z (bB Z Z (bB Z Z (bM Z (bA Z))))) Z Z) h1
 intro v12 h1
 refine XQ.seq ?_
 refine XC.cond (b:=v12) Z (fun c14=>?_) (fun c14=>?_)
 replace h1:=condT c14 h1
 refine XC.anyRun [7] [] mixed (by kernel_rfl) (by kernel_rfl) (by kernel_rfl) ?_
 refine RunA.rd Z Z Z (OpOK.of_ro (RO.move Z)) Z<|RunA.rd Z Z Z (OpOK.of_ro (RO.move Z)) Z<|RunA.rd Z Z Z (OpOK.of_ro (RO.move Z)) Z ?_
 refine bindK h1 (fun x15 hx15 h1=>?_)
 refine guardK h1 (fun g16 h1=>?_)
 refine RunA.rd Z Z Z (OpOK.of_ro (RO.indexO (α:=Lvl) sl_31 Z Z hx15 g16)) Z<|RunA.rd Z Z Z (OpOK.of_ro (RO.loadOE (α:=Lvl) (ys:=[dI x15.c,dS x15.vs]) ag_39 Z Z hx15 Z)) Z<|RunA.rd Z Z Z (OpOK.of_ro (RO.fieldOwn fo_59_1 Z)) Z<|RunA.rd Z Z Z (OpOK.of_ro (RO.loadOwn ag_3 Z Z Z)) Z ?_
 refine bindK h1 (fun x17 hx17 h1=>?_)
 refine RunA.eff Z Z Z (OpOK.callG (hp1':=[(4,.cells 105 [.mp 3,dI (max s1.2.2 (w64 (x15.c+x11.2)))]),(3,.mp (imE x17.1) x17.2)]) (tk1':=[]) (hpF:=m48f11_h3 a2 a0 x11) (tkF:=[]) (res2:=resOf []) (nx2:=7) [4,3] Z Z (m67f6_ok x15 x11.2 s1.2.2 s1.2.1 x17 hx17) Z Z (qB Z Z (qM Z qZ)) Z Z (gR Z (gM Z gZ)) jZ (hA Z) kZ Z Z Z Z Z (bB Z Z (bM Z bZ)) Z Z Z Z) Z ?_
 refine RunA.nil ⟨?ex,_,_,Z,?_⟩
 case ex=>exact trivial
 refine XQ.less (st':=⟨[(1,.v (.one (.osl 0 0 a1 a1))),(4,.v (.one (.ptr 2 0))),(6,.v (.one (.ptr 4 0))),(26,.v (.one (dS a0.vs))),(27,.v (.one (dI (a0.vs.length:Int)))),(28,.v (.one (dI s1.1)))],[(0,.cells 39 (flatE a2)),(1,.cells 39 (cE a0)),(2,.cells 39 [dI 0,dN]),(3,.mp (imE x17.1) x17.2),(4,.cells 105 [.mp 3,dI (max s1.2.2 (w64 (x15.c+x11.2)))]),(5,.cells 59 (cE x11))],[],7,65,[]⟩) (stle (tA Z) (hA Z) kZ Z (Nat.le_trans hv0 (lb Z)) Z Z Z (bF Z (bB Z Z (bB Z Z (bM Z (bA Z))))) Z Z)<|XQ.inBlock<|XQ.seq<|XC.region<|rR Z Z Z (RO.binInt Z Z Z)<|rM Z Z Z<|XL.nil ?_
 have e:=sI h1;subst e
 refine XQ.nextM ((w64 (s1.1+1)),x17,(max s1.2.2 (w64 (x15.c+x11.2)))) (stle (tA Z) (hA Z) kZ Z (Nat.le_trans hv0 (lb Z)) Z Z Z (bF Z (bB Z Z (bB Z Z (bM Z (bA Z))))) Z Z) ho1
 replace h1:=condF c14 h1
 refine XC.anyRun [8] [] mixed (by kernel_rfl) (by kernel_rfl) (by kernel_rfl) ?_
 refine RunA.rd Z Z Z (OpOK.of_ro (RO.move Z)) Z<|RunA.rd Z Z Z (OpOK.of_ro (RO.nilCheckPtr Z)) Z<|RunA.rd Z Z Z (OpOK.of_ro (RO.fieldOwn fo_105_0 Z)) Z<|RunA.rd Z Z Z (OpOK.of_ro (RO.loadOwn ag_103 Z Z Z)) Z<|RunA.rd Z Z Z (OpOK.of_ro (RO.fieldOwn fo_59_0 Z)) Z<|RunA.rd Z Z Z (OpOK.of_ro (RO.loadOwn ag_3 Z Z Z)) Z<|RunA.rd Z Z Z (OpOK.of_ro (RO.fieldOwn fo_59_1 Z)) Z<|RunA.rd Z Z Z (OpOK.of_ro (RO.loadOwn ag_3 Z Z Z)) Z ?_
 refine bindK h1 (fun x18 hx18 h1=>?_)
 refine RunA.eff Z Z Z (OpOK.callG (hp1':=[(3,.mp (imE x18.1) x18.2)]) (tk1':=[]) (hpF:=m48f11_h4 a2 a0 s1 x11) (tkF:=[]) (res2:=resOf []) (nx2:=6) [3] Z Z (m68f7_ok x11.1 x11.2 s1.2.1 x18 hx18) Z Z (qM Z qZ) Z Z (gM Z gZ) jZ (hA Z) kZ Z Z Z Z Z (bM Z bZ) Z Z Z Z) Z ?_
 refine RunA.nil ⟨?ex,_,_,Z,?_⟩
 case ex=>exact trivial
 refine XQ.less (st':=⟨[(1,.v (.one (.osl 0 0 a1 a1))),(4,.v (.one (.ptr 2 0))),(6,.v (.one (.ptr 4 0))),(26,.v (.one (dS a0.vs))),(27,.v (.one (dI (a0.vs.length:Int)))),(28,.v (.one (dI s1.1)))],m48f11_h5 a2 a0 x18 s1 x11,[],6,65,[]⟩) (stle (tA Z) (hA Z) kZ Z (Nat.le_trans hv0 (lb Z)) Z Z Z (bF Z (bB Z Z (bB Z Z (bM Z (bA Z))))) Z Z)<|XQ.inBlock<|XQ.seq<|XC.region<|rR Z Z Z (RO.binInt Z Z Z)<|rM Z Z Z<|XL.nil ?_
 have e:=sI h1;subst e
 refine XQ.nextM ((w64 (s1.1+1)),x18,s1.2.2) (stle (tA Z) (hA Z) kZ Z (Nat.le_trans hv0 (lb Z)) Z Z Z (bF Z (bB Z Z (bB Z Z (bM Z (bA Z))))) Z Z) ho1
 replace h1:=condF c10 h1
 refine XC.exit<|XQ.thenE<|XQ.thenE ?_
 have e:=sI h1;subst e
 have e_:_=_:=ho1
 subst e_
 exact XQ.joinX (s1.2.1,s1.2.2) (stle (tA Z) (hA Z) kZ Z (Nat.le_trans hv0 (lb Z)) Z Z Z (bF Z (bB Z Z (bB Z Z (bM Z (bA Z))))) Z Z) h0
 intro o8 h0
 refine XQ.blockX<|XQ.seq<|XC.seq<|XC.region<|rM Z Z Z ?_
 refine bindK h0 (fun x19 hx19 h0=>?_)
 refine XL.put Z Z (lb Z) (OpOK.callG (hp1':=[(4,.cells 105 [.mp 3,dI o8.2]),(3,.mp (imE o8.1.1) o8.1.2),(5,.cells 39 [dI x19.2.1,dS x19.2.2])]) (tk1':=[]) (hpF:=m48f11_h0 a2 a0) (tkF:=[]) (res2:=resOf [.agg [dI x19.2.1,dS x19.2.2],.one (dI x19.1)]) (nx2:=9) [4,3] Z Z (m69f8_ok o8.2 o8.1 x19 hx19) Z Z (qB Z Z (qM Z (qB Z Z qZ))) Z Z (gR Z (gM Z gZ)) jZ (hA Z) kZ Z Z Z Z Z (bB Z Z (bM Z bZ)) Z Z Z Z)<|rR Z Z Z (RO.extract Z Z)<|rR Z Z Z (RO.extract Z Z)<|XL.eff Z Z (OpOK.store ag_39 Z Z Z Z (lb Z) Z)<|rA Z Z Z<|XL.nil<|XQ.seq<|XC.ret ?_
 have e:=sI h0;subst e
 exact hQ0 _ _ _ (.inr Z) Z (stle (tA Z) (hA Z) kZ Z (Nat.le_trans hv0 (lb Z)) Z Z Z (bF Z (bA Z)) Z Z)
def m71f17 (a0:LV) (a1:LV):Option Bool :=
 Option.bind (cond (a0.1==a1.1)
   (some (decide (a1.2≤a0.2)))
   (some false)) (fun (v1:Bool)=>some v1)
theorem m71f17_ok (a0:LV) (a1:LV) (r:Bool) (h0:m71f17 a0 a1=some r):CallM Try.prog 71 [.agg (cE a0),.one (.ptr 0 0)] ⟨[(0,.cells 59 (cE a1))],[],1⟩ (resOf [.one (dB r)]) ⟨[(0,.cells 59 (cE a1))],[],2⟩:=by
 unfold m71f17 at h0
 refine CallM.of_bodyD ⟨[(3,.v (.one (dB r)))],[(0,.cells 59 (cE a1))],[],2,16,[]⟩ Z Z en_71 (lb Z) Z (RAs.tmp Z .nil) (fun w0 M V0 Q hv0 hQ0=>?_)
 simp only [entry]
 refine XC.seq<|XC.region<|XL.put Z Z (lb Z) (OpOK.box Z)<|rA Z Z Z<|XL.nil<|XQ.seq<|XC.seq ?_
 refine XC.joinR (fun (v1:Bool)=>⟨[(3,.v (.one (dB v1)))],[(0,.cells 59 (cE a1)),(1,.cells 59 (cE a0))],[],2,16,[]⟩) (fun (v1:Bool)=>(some v1)=some r) ?_ ?_
 refine bindK h0 (fun w1_ h1 h0=>?_)
 refine XC.region<|rR Z Z Z (RO.fieldOwn fo_59_0 Z)<|rR Z Z Z (RO.loadOwn ag_3 Z Z Z)<|rR Z Z Z (RO.fieldOwn fo_59_0 Z)<|rR Z Z Z (RO.loadOwn ag_3 Z Z Z)<|rR Z Z Z (RO.binInt Z Z Z)<|rM Z Z Z ?_
 refine XL.case (d:=9) (c:=(a0.1==a1.1)) Z (fun c2=>?_) (fun c2=>?_)
 replace h1:=condT c2 h1
 refine rR Z Z Z (RO.fieldOwn fo_59_1 Z)<|rR Z Z Z (RO.loadOwn ag_3 Z Z Z)<|rR Z Z Z (RO.fieldOwn fo_59_1 Z)<|rR Z Z Z (RO.loadOwn ag_3 Z Z Z)<|rR Z Z Z (RO.binInt Z Z Z)<|rR Z Z Z (RO.pickT Z Z)<|rA Z Z Z<|XL.nil ?_
 have e:=sI h1;subst e
 exact XQ.joinR (decide (a1.2≤a0.2)) (sL (Nat.le_trans hv0 (lb Z)) Z Z Z Z Z) h0
 replace h1:=condF c2 h1
 refine XL.no Z Z<|XL.no Z Z<|XL.no Z Z<|XL.no Z Z<|XL.no Z Z<|rR Z Z Z (RO.pickF Z Z)<|rA Z Z Z<|XL.nil ?_
 have e:=sI h1;subst e
 exact XQ.joinR false (sL (Nat.le_trans hv0 (lb Z)) Z Z Z Z Z) h0
 intro v1 h0
 refine XQ.seq<|XC.ret ?_
 have e:=sI h0;subst e
 exact hQ0 _ _ _ (.inr Z) Z (sL (Nat.le_trans hv0 (lb Z)) Z Z Z Z Z)
def m84f16_l0 (a0:List LV) (a1:LV) (s1:Int):Option (LO Int (Unit⊕Int)) :=
 cond (decide (s1 < (a0.length:Int)))
   (Option.bind (idx a0 s1) fun (x3:LV) =>
 Option.bind (m71f17 x3 a1) fun (x4:Bool) =>
 cond x4
   (some (.done (.inr s1)))
   (some (.next (w64 (s1+1)))))
   (some (.done (.inl ())))
def m84f16 (a0:List LV) (a1:LV):Option Int :=
 Option.bind (loopN (m84f16_l0 a0 a1) FUEL 0) (Sum.elim (fun (o1:Unit)=>some (-1)) (fun o=>some o))
theorem m84f16_ok (a0:List LV) (a1:LV) (r:Int) (h0:m84f16 a0 a1=some r):CallM Try.prog 84 [.one (dS a0),.one (.fn 71 [(0,0)])] ⟨[(0,.cells 59 (cE a1))],[],1⟩ (resOf [.one (dI r)]) ⟨[(0,.cells 59 (cE a1))],[],1⟩:=by
 unfold m84f16 at h0
 refine CallM.of_bodyD ⟨[(4,.v (.one (dI r)))],[(0,.cells 59 (cE a1))],[],1,19,[]⟩ Z Z en_84 (lb Z) Z (RAs.tmp Z .nil) (fun w0 M V0 Q hv0 hQ0=>?_)
 simp only [entry]
 refine XC.seq<|XC.region<|rA Z Z Z<|XL.nil<|XQ.seq<|XC.seq<|XC.seq<|XC.region<|rM Z Z Z<|rR Z Z Z (RO.lenE (α:=LV) sl_37 Z (.d _))<|rM Z Z Z<|XL.nil<|XQ.seq<|XC.block ?_
 refine XC.joinX 0 (fun (o1:Unit)=>⟨[],[(0,.cells 59 (cE a1))],[],1,19,[]⟩) (fun (o1:Unit)=>(some (-1))=some r) ?_ ?_
 refine bindK h0 (fun o2 hl1 h0=>?_)
 refine XC.loopM (m84f16_l0 a0 a1) (fun s1=>⟨[(0,.v (.one (dS a0))),(1,.v (.one (.fn 71 [(0,0)]))),(7,.v (.one (dI (a0.length:Int)))),(8,.v (.one (dI s1)))],[(0,.cells 59 (cE a1))],[],1,19,[]⟩) 0 o2 (sL (Nat.le_trans hv0 (lb Z)) Z Z Z Z Z) hl1 (fun s1 n1 oo1 h1 ho1=>?_)
 unfold m84f16_l0 at h1
 refine XC.seq<|XC.region<|rR Z Z Z (RO.binInt Z Z Z)<|XL.nil<|XQ.seq<|XC.seq ?_
 refine XC.cond (b:=(decide (s1 < (a0.length:Int)))) Z (fun c3=>?_) (fun c3=>?_)
 replace h1:=condT c3 h1
 refine XC.skip<|XQ.seq<|XC.seq<|XC.block<|XC.seq<|XC.region<|rM Z Z Z<|rA Z Z Z<|XL.nil<|XQ.seq<|XC.seq<|XC.region<|rM Z Z Z<|rM Z Z Z ?_
 refine rM Z Z Z ?_
 refine bindK h1 (fun x4 hx4 h1=>?_)
 refine rR Z Z Z (RO.indexE (α:=LV) sl_37 Z (.d _) Z hx4)<|rR Z Z Z (RO.loadPelCE (x4:LV) ag_59 Z) ?_
 refine bindK h1 (fun x5 hx5 h1=>?_)
 refine XL.put Z Z (lb Z) (OpOK.callG (hp1':=[(0,.cells 59 (cE a1))]) (tk1':=[]) (hpF:=[]) (tkF:=[]) (res2:=resOf [.one (dB x5)]) (nx2:=2) [0] Z Z (m71f17_ok x4 a1 x5 hx5) Z Z (qB Z Z qZ) Z Z (gR Z gZ) jZ hZ kZ Z Z Z Z Z (bA Z) Z Z Z Z)<|XL.nil<|XQ.seq ?_
 refine XC.cond (b:=x5) Z (fun c6=>?_) (fun c6=>?_)
 replace h1:=condT c6 h1
 refine XC.seq<|XC.region<|rM Z Z Z<|rA Z Z Z<|XL.nil<|XQ.seq<|XC.ret ?_
 have e:=sI h1;subst e
 have e_:_=_:=ho1
 subst e_
 try dsimp only [Sum.elim_inl,Sum.elim_inr] at h0
 have e:=sI h0;subst e
 exact hQ0 _ _ _ (.inr Z) Z (sL (Nat.le_trans hv0 (lb Z)) Z Z Z Z Z)
 replace h1:=condF c6 h1
 refine XC.skip<|XQ.inBlock<|XQ.seq<|XC.region<|rR Z Z Z (RO.binInt Z Z Z)<|rM Z Z Z<|XL.nil ?_
 have e:=sI h1;subst e
 refine XQ.nextM (w64 (s1+1)) (sL (Nat.le_trans hv0 (lb Z)) Z Z Z Z Z) ho1
 replace h1:=condF c3 h1
 refine XC.exit<|XQ.thenE<|XQ.thenE ?_
 have e:=sI h1;subst e
 have e_:_=_:=ho1
 subst e_
 exact XQ.joinX () (sL (Nat.le_trans hv0 (lb Z)) Z Z Z Z Z) h0
 intro o1 h0
 refine XQ.blockX<|XQ.seq<|XC.seq<|XC.region<|rA Z Z Z<|XL.nil<|XQ.seq<|XC.ret ?_
 have e:=sI h0;subst e
 exact hQ0 _ _ _ (.inr Z) Z (sL (Nat.le_trans hv0 (lb Z)) Z Z Z Z Z)
def m70f15 (a0:List LV) (a1:LV):Option Bool :=
 Option.bind (m84f16 a0 a1) fun (x1:Int) =>
 some (decide (0≤x1))
theorem m70f15_ok (a0:List LV) (a1:LV) (r:Bool) (h0:m70f15 a0 a1=some r):CallM Try.prog 70 [.one (dS a0),.one (.fn 71 [(0,0)])] ⟨[(0,.cells 59 (cE a1))],[],1⟩ (resOf [.one (dB r)]) ⟨[(0,.cells 59 (cE a1))],[],1⟩:=by
 unfold m70f15 at h0
 refine CallM.of_bodyD ⟨[(4,.v (.one (dB r)))],[(0,.cells 59 (cE a1))],[],1,9,[]⟩ Z Z en_70 (lb Z) Z (RAs.tmp Z .nil) (fun w0 M V0 Q hv0 hQ0=>?_)
 simp only [entry]
 refine XC.seq<|XC.region<|rA Z Z Z<|XL.nil<|XQ.seq<|XC.seq<|XC.region<|rM Z Z Z<|rM Z Z Z ?_
 refine bindK h0 (fun x1 hx1 h0=>?_)
 refine XL.put Z Z (lb Z) (OpOK.callG (hp1':=[(0,.cells 59 (cE a1))]) (tk1':=[]) (hpF:=[]) (tkF:=[]) (res2:=resOf [.one (dI x1)]) (nx2:=1) [0] Z Z (m84f16_ok a0 a1 x1 hx1) Z Z (qB Z Z qZ) Z Z (gR Z gZ) jZ hZ kZ Z Z Z Z Z (bA Z) Z Z Z Z)<|rR Z Z Z (RO.binInt Z Z Z)<|rA Z Z Z<|XL.nil<|XQ.seq<|XC.ret ?_
 have e:=sI h0;subst e
 exact hQ0 _ _ _ (.inr Z) Z (sL (Nat.le_trans hv0 (lb Z)) Z Z Z Z Z)
def m49f18_l0 (a2:Lvl) (s1:Int×Int):Option (LO (Int×Int) Int) :=
 cond (decide (s1.2 < (a2.vs.length:Int)))
   (Option.bind (idx a2.vs s1.2) fun (x5:LV) =>
 some (.next ((max s1.1 x5.2),(w64 (s1.2+1)))))
   (some (.done s1.1))
def m49f18_l1 (a1:List LV) (a2:Lvl) (s1:Int):Option (LO Int (Unit⊕Bool)) :=
 cond (decide (s1 < (a1.length:Int)))
   (Option.bind (idx a1 s1) fun (x7:LV) =>
 Option.bind (m70f15 a2.vs x7) fun (x8:Bool) =>
 cond (!x8)
   (some (.done (.inr false)))
   (some (.next (w64 (s1+1)))))
   (some (.done (.inl ())))
def m49f18 (a0:Int) (a1:List LV) (a2:Lvl):Option Bool :=
 Option.bind (Option.bind (m28 (⟨a0,a1⟩:Lvl)) fun (x2:Bool) =>
 cond (!x2)
   (some true)
   (Option.bind (m28 a2) fun (x4:Bool) =>
 some (!x4))) (fun (v1:Bool)=>cond v1
   (some false)
   (Option.bind (loopN (m49f18_l0 a2) FUEL (a2.c,0)) (fun (o3:Int)=>cond (decide (o3 < a0))
   (some false)
   (Option.bind (loopN (m49f18_l1 a1 a2) FUEL 0) (Sum.elim (fun (o5:Unit)=>some true) (fun o=>some o))))))
theorem m49f18_ok (a0:Int) (a1:List LV) (a2:Lvl) (r:Bool) (h0:m49f18 a0 a1 a2=some r):CallM Try.prog 49 [.agg [dI a0,dA 0 a1],.agg (cE a2)] ⟨[],[(0,some ⟨59,2,(Enc.encL a1).length,[]⟩)],1⟩ (resOf [.one (dB r)]) ⟨[],[(0,some ⟨59,2,(Enc.encL a1).length,[]⟩)],3⟩:=by
 unfold m49f18 at h0
 refine CallM.of_bodyD ⟨[(4,.v (.one (dB r)))],[],[(0,some ⟨59,2,(Enc.encL a1).length,[]⟩)],3,49,[]⟩ Z Z en_49 (lb Z) Z (RAs.tmp Z .nil) (fun w0 M V0 Q hv0 hQ0=>?_)
 simp only [entry]
 refine XC.seq<|XC.region<|XL.put Z Z (lb Z) (OpOK.box Z)<|XL.put Z Z (lb Z) (OpOK.box Z)<|rA Z Z Z<|XL.nil<|XQ.seq<|XC.seq<|XC.seq ?_
 refine XC.joinR (fun (v1:Bool)=>⟨[(2,.v (.one (.ptr 1 0))),(3,.v (.one (.ptr 2 0))),(17,.v (.one (dB v1)))],[(1,.cells 39 [dI a0,dA 0 a1]),(2,.cells 39 (cE a2))],[(0,some ⟨59,2,(Enc.encL a1).length,[]⟩)],3,49,[]⟩) (fun (v1:Bool)=>(cond v1
     (some false)
     (Option.bind (loopN (m49f18_l0 a2) FUEL (a2.c,0)) (fun (o3:Int)=>cond (decide (o3 < a0))
     (some false)
     (Option.bind (loopN (m49f18_l1 a1 a2) FUEL 0) (Sum.elim (fun (o5:Unit)=>some true) (fun o=>some o))))))=some r) ?_ ?_
 refine bindK h0 (fun w1_ h1 h0=>?_)
 refine XC.region<|rR Z Z Z (RO.loadOwnAgg ag_39 Z Z Z Z) ?_
 refine bindK h1 (fun x2 hx2 h1=>?_)
 refine XL.put Z Z (lb Z) (OpOK.callFun (m28_ok (⟨a0,a1⟩:Lvl) x2 hx2) Z (.cons (.agg (.cons (.d _) (.cons (.app _ _ _) .nil))) .nil))<|rR Z Z Z (RO.not Z)<|rM Z Z Z ?_
 refine XL.case (d:=13) (c:=(!x2)) Z (fun c3=>?_) (fun c3=>?_)
 replace h1:=condT c3 h1
 refine XL.no Z Z<|XL.no Z Z<|XL.no Z Z<|rR Z Z Z (RO.pickT Z Z)<|XL.nil ?_
 have e:=sI h1;subst e
 exact XQ.joinR true (sL (Nat.le_trans hv0 (lb Z)) Z Z Z Z Z) h0
 replace h1:=condF c3 h1
 refine rR Z Z Z (RO.loadCE (a2:Lvl) ag_39 Z Z) ?_
 refine bindK h1 (fun x4 hx4 h1=>?_)
 refine XL.put Z Z (lb Z) (OpOK.callFun (m28_ok a2 x4 hx4) Z (.cons (.agg (.cons (.d _) (.cons (.d _) .nil))) .nil))<|rR Z Z Z (RO.not Z)<|rR Z Z Z (RO.pickF Z Z)<|XL.nil ?_
 have e:=sI h1;subst e
 exact XQ.joinR (!x4) (sL (Nat.le_trans hv0 (lb Z)) Z Z Z Z Z) h0
 intro v1 h0
 refine XQ.seq ?_
 refine XC.cond (b:=v1) Z (fun c5=>?_) (fun c5=>?_)
 replace h0:=condT c5 h0
 refine XC.seq<|XC.region<|rA Z Z Z<|XL.nil<|XQ.seq<|XC.ret ?_
 have e:=sI h0;subst e
 exact hQ0 _ _ _ (.inr Z) Z (sL (Nat.le_trans hv0 (lb Z)) Z Z Z Z Z)
 replace h0:=condF c5 h0
 refine XC.skip<|XQ.seq<|XC.seq<|XC.region<|rR Z Z Z (RO.fieldOwn fo_39_0 Z)<|rR Z Z Z (RO.loadOwn ag_3 Z Z Z)<|rA Z Z Z<|XL.nil<|XQ.seq<|XC.seq<|XC.seq<|XC.region<|rR Z Z Z (RO.fieldOwn fo_39_1 Z)<|rR Z Z Z (RO.loadOwn ag_37 Z Z Z) ?_
 refine rR Z Z Z (RO.lenE (α:=LV) sl_37 Z (.d _))<|rM Z Z Z<|XL.nil<|XQ.seq<|XC.block ?_
 refine XC.joinX 0 (fun (o6:Int)=>⟨[(2,.v (.one (.ptr 1 0))),(3,.v (.one (.ptr 2 0))),(5,.v (.one (dI o6)))],[(1,.cells 39 [dI a0,dA 0 a1]),(2,.cells 39 (cE a2))],[(0,some ⟨59,2,(Enc.encL a1).length,[]⟩)],3,49,[]⟩) (fun (o6:Int)=>(cond (decide (o6 < a0))
     (some false)
     (Option.bind (loopN (m49f18_l1 a1 a2) FUEL 0) (Sum.elim (fun (o8:Unit)=>some true) (fun o=>some o))))=some r) ?_ ?_
 refine bindK h0 (fun o7 hl1 h0=>?_)
 refine XC.loopM (m49f18_l0 a2) (fun s1=>⟨[(2,.v (.one (.ptr 1 0))),(3,.v (.one (.ptr 2 0))),(5,.v (.one (dI s1.1))),(21,.v (.one (dS a2.vs))),(22,.v (.one (dI (a2.vs.length:Int)))),(23,.v (.one (dI s1.2)))],[(1,.cells 39 [dI a0,dA 0 a1]),(2,.cells 39 (cE a2))],[(0,some ⟨59,2,(Enc.encL a1).length,[]⟩)],3,49,[]⟩) (a2.c,0) o7 (sL (Nat.le_trans hv0 (lb Z)) Z Z Z Z Z) hl1 (fun s1 n1 oo1 h1 ho1=>?_)
 unfold m49f18_l0 at h1
 refine XC.seq<|XC.region<|rR Z Z Z (RO.binInt Z Z Z)<|XL.nil<|XQ.seq<|XC.seq ?_
 refine XC.cond (b:=(decide (s1.2 < (a2.vs.length:Int)))) Z (fun c8=>?_) (fun c8=>?_)
 replace h1:=condT c8 h1
 refine XC.skip<|XQ.seq<|XC.seq<|XC.block<|XC.seq<|XC.region ?_
 refine bindK h1 (fun x9 hx9 h1=>?_)
 refine rR Z Z Z (RO.indexE (α:=LV) sl_37 Z (.d _) Z hx9)<|rR Z Z Z (RO.loadPelCE (x9:LV) ag_59 Z)<|XL.put Z Z (lb Z) (OpOK.alloc z_59 Z)<|XL.eff Z Z (OpOK.storeCE (x9:LV) ag_59 Z Z Z Z Z)<|XL.nil<|XQ.seq<|XC.region<|rM Z Z Z<|rR Z Z Z (RO.fieldOwn fo_59_1 Z)<|rR Z Z Z (RO.loadOwn ag_3 Z Z Z)<|rR Z Z Z (RO.max2 Z Z)<|rA Z Z Z<|XL.nil<|XQ.inBlock ?_
 refine XQ.seq<|XC.region<|rR Z Z Z (RO.binInt Z Z Z)<|rM Z Z Z<|XL.nil ?_
 have e:=sI h1;subst e
 refine XQ.nextM ((max s1.1 x9.2),(w64 (s1.2+1))) (sL (Nat.le_trans hv0 (lb Z)) Z Z Z Z Z) ho1
 replace h1:=condF c8 h1
 refine XC.exit<|XQ.thenE<|XQ.thenE ?_
 have e:=sI h1;subst e
 have e_:_=_:=ho1
 subst e_
 exact XQ.joinX s1.1 (sL (Nat.le_trans hv0 (lb Z)) Z Z Z Z Z) h0
 intro o6 h0
 refine XQ.blockX<|XQ.seq<|XC.seq<|XC.seq<|XC.region<|rR Z Z Z (RO.fieldOwn fo_39_0 Z)<|rR Z Z Z (RO.loadOwn ag_3 Z Z Z)<|rM Z Z Z<|rR Z Z Z (RO.binInt Z Z Z)<|XL.nil<|XQ.seq ?_
 refine XC.cond (b:=(decide (o6 < a0))) Z (fun c10=>?_) (fun c10=>?_)
 replace h0:=condT c10 h0
 refine XC.seq<|XC.region<|rA Z Z Z<|XL.nil<|XQ.seq<|XC.ret ?_
 have e:=sI h0;subst e
 exact hQ0 _ _ _ (.inr Z) Z (sL (Nat.le_trans hv0 (lb Z)) Z Z Z Z Z)
 replace h0:=condF c10 h0
 refine XC.skip<|XQ.seq<|XC.seq<|XC.seq<|XC.region<|rR Z Z Z (RO.fieldOwn fo_39_1 Z)<|rR Z Z Z (RO.loadOwn ag_37 Z Z Z)<|rR Z Z Z (RO.lenE (α:=LV) sl_37 Z (.app _ _))<|rM Z Z Z<|XL.nil<|XQ.seq<|XC.block ?_
 refine XC.joinX 2 (fun (o11:Unit)=>⟨[],[(1,.cells 39 [dI a0,dA 0 a1]),(2,.cells 39 (cE a2))],[(0,some ⟨59,2,(Enc.encL a1).length,[]⟩)],3,49,[]⟩) (fun (o11:Unit)=>(some true)=some r) ?_ ?_
 refine bindK h0 (fun o12 hl1 h0=>?_)
 refine XC.loopM (m49f18_l1 a1 a2) (fun s1=>⟨[(3,.v (.one (.ptr 2 0))),(37,.v (.one (dA 0 a1))),(38,.v (.one (dI (a1.length:Int)))),(39,.v (.one (dI s1)))],[(1,.cells 39 [dI a0,dA 0 a1]),(2,.cells 39 (cE a2))],[(0,some ⟨59,2,(Enc.encL a1).length,[]⟩)],3,49,[]⟩) 0 o12 (sL (Nat.le_trans hv0 (lb Z)) Z Z Z Z Z) hl1 (fun s1 n1 oo1 h1 ho1=>?_)
 unfold m49f18_l1 at h1
 refine XC.seq<|XC.region<|rR Z Z Z (RO.binInt Z Z Z)<|XL.nil<|XQ.seq<|XC.seq ?_
 refine XC.cond (b:=(decide (s1 < (a1.length:Int)))) Z (fun c13=>?_) (fun c13=>?_)
 replace h1:=condT c13 h1
 refine XC.skip<|XQ.seq<|XC.seq<|XC.block<|XC.seq<|XC.region ?_
 refine bindK h1 (fun x14 hx14 h1=>?_)
 refine rR Z Z Z (RO.indexE (α:=LV) sl_37 Z (.app _ _) Z hx14)<|rR Z Z Z (RO.loadPelCE (x14:LV) ag_59 Z)<|XL.put Z Z (lb Z) (OpOK.alloc z_59 Z)<|XL.eff Z Z (OpOK.storeCE (x14:LV) ag_59 Z Z Z Z Z)<|XL.nil<|XQ.seq<|XC.seq<|XC.region<|rR Z Z Z (RO.fieldOwn fo_39_1 Z)<|rR Z Z Z (RO.loadOwn ag_37 Z Z Z)<|rR Z Z Z (RO.makeFunc1 Z) ?_
 refine bindK h1 (fun x15 hx15 h1=>?_)
 refine XL.put Z Z (lb Z) (OpOK.callG (hp1':=[(3,.cells 59 (cE x14))]) (tk1':=[]) (hpF:=[(1,.cells 39 [dI a0,dA 0 a1]),(2,.cells 39 (cE a2))]) (tkF:=[(0,some ⟨59,2,(Enc.encL a1).length,[]⟩)]) (res2:=resOf [.one (dB x15)]) (nx2:=4) [3] Z Z (m70f15_ok a2.vs x14 x15 hx15) Z Z (qB Z Z qZ) Z Z (gR Z gZ) jZ (hA Z) (kA Z) Z Z Z Z Z (bA Z) Z Z Z Z)<|rR Z Z Z (RO.not Z)<|XL.nil<|XQ.seq ?_
 refine XC.cond (b:=(!x15)) Z (fun c16=>?_) (fun c16=>?_)
 replace h1:=condT c16 h1
 refine XC.seq<|XC.region<|rA Z Z Z<|XL.nil<|XQ.seq<|XC.ret ?_
 have e:=sI h1;subst e
 have e_:_=_:=ho1
 subst e_
 try dsimp only [Sum.elim_inl,Sum.elim_inr] at h0
 have e:=sI h0;subst e
 exact hQ0 _ _ _ (.inr Z) Z (sL (Nat.le_trans hv0 (lb Z)) Z Z Z Z Z)
 replace h1:=condF c16 h1
 refine XC.skip<|XQ.inBlock<|XQ.seq<|XC.region<|rR Z Z Z (RO.binInt Z Z Z)<|rM Z Z Z<|XL.nil ?_
 have e:=sI h1;subst e
 refine XQ.nextM (w64 (s1+1)) (sL (Nat.le_trans hv0 (lb Z)) Z Z Z Z Z) ho1
 replace h1:=condF c13 h1
 refine XC.exit<|XQ.thenE<|XQ.thenE ?_
 have e:=sI h1;subst e
 have e_:_=_:=ho1
 subst e_
 exact XQ.joinX () (sL (Nat.le_trans hv0 (lb Z)) Z Z Z Z Z) h0
 intro o11 h0
 refine XQ.blockX<|XQ.seq<|XC.seq<|XC.region<|rA Z Z Z<|XL.nil<|XQ.seq<|XC.ret ?_
 have e:=sI h0;subst e
 exact hQ0 _ _ _ (.inr Z) Z (sL (Nat.le_trans hv0 (lb Z)) Z Z Z Z Z)
end Go.Proofs.Ytkimijmiphkddaa
