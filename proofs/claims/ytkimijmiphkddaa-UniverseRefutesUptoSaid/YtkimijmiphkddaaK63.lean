/- Part 3 of the proof: rules, mirrors and plain laws. The statement UniverseRefutesUpto is proved here: for every list of bounds and every bound the law returns true, and what it is given reads behind the call as it did before; condition: the arguments are of bulk at most 1048576 (the second form). -/
import Derived.Test.YtkimijmiphkddaaK62
set_option maxRecDepth 100000
set_option maxHeartbeats 2000000
set_option linter.unusedSimpArgs false
set_option linter.unusedVariables false
set_option linter.unusedSectionVars false
namespace Go.Proofs.Ytkimijmiphkddaa
open Go.RowKit Go.Shelf
theorem ag_4:tyAgg Try.prog 4=some (false,1):=by kernel_rfl
theorem ag_25:tyAgg Try.prog 25=some (false,1):=by kernel_rfl
theorem ag_70:tyAgg Try.prog 70=some (true,81):=by kernel_rfl
theorem z_4:tyZero Try.prog 4=some [.bool false]:=by kernel_rfl
theorem z_25:tyZero Try.prog 25=some [.int .i64 0]:=by kernel_rfl
theorem z_31:tyZero Try.prog 31=some [.slice none 0 0]:=by kernel_rfl
theorem z_41:tyZero Try.prog 41=some [.int .i64 0,.slice none 0 0,.int .i64 0,.slice none 0 0]:=by kernel_rfl
theorem z_70:tyZero Try.prog 70=some [.int .i64 0,.int .i64 0,.int .i64 0,.int .i64 0,.int .i64 0,.int .i64 0,.int .i64 0,.int .i64 0,.int .i64 0,.int .i64 0,.int .i64 0,.int .i64 0,.int .i64 0,.int .i64 0,.int .i64 0,.int .i64 0,.int .i64 0,.int .i64 0,.int .i64 0,.int .i64 0,.int .i64 0,.int .i64 0,.int .i64 0,.int .i64 0,.int .i64 0,.int .i64 0,.int .i64 0,.int .i64 0,.int .i64 0,.int .i64 0,.int .i64 0,.int .i64 0,.int .i64 0,.int .i64 0,.int .i64 0,.int .i64 0,.int .i64 0,.int .i64 0,.int .i64 0,.int .i64 0,.int .i64 0,.int .i64 0,.int .i64 0,.int .i64 0,.int .i64 0,.int .i64 0,.int .i64 0,.int .i64 0,.int .i64 0,.int .i64 0,.int .i64 0,.int .i64 0,.int .i64 0,.int .i64 0,.int .i64 0,.int .i64 0,.int .i64 0,.int .i64 0,.int .i64 0,.int .i64 0,.int .i64 0,.int .i64 0,.int .i64 0,.int .i64 0,.int .i64 0,.int .i64 0,.int .i64 0,.int .i64 0,.int .i64 0,.int .i64 0,.int .i64 0,.int .i64 0,.int .i64 0,.int .i64 0,.int .i64 0,.int .i64 0,.int .i64 0,.int .i64 0,.int .i64 0,.int .i64 0,.int .i64 0]:=by kernel_rfl
theorem el_41:tyElem Try.prog 41=some (4,64):=by kernel_rfl
theorem en_18:Enters Try.prog 18:=enters_of Try.func18 (by kernel_rfl) rfl
theorem en_40:Enters Try.prog 40:=enters_of Try.func40 (by kernel_rfl) rfl
theorem m18_ok (a0:List Bnd) (a1:Bnd) (r:Bool×Int) (h0:m18 a0 a1=some r):Fun Try.prog 18 [.one (dS a0),.agg (cE a1)] (resOf [.one (dB r.1),.one (dI r.2)]):=by
 unfold m18 at h0
 refine Fun.of_bodyM 9 81 Try.func18 Z en_18 Z (lb Z) (fun S w=>?_)
 simp only [entry]
 refine XC.seq<|XC.region<|XL.put Z Z (lb Z) (OpOK.box Z)<|XL.put Z Z (lb Z) (OpOK.alloc z_4 Z)<|XL.put Z Z (lb Z) (OpOK.alloc z_25 Z)<|XL.nil<|XQ.seq<|XC.seq ?_
 refine XC.anyRun [1,4] [(2,0),(3,0)] mixed (by kernel_rfl) (by kernel_rfl) (by kernel_rfl) ?_
 refine RunA.rd Z Z Z (OpOK.of_ro (RO.move Z)) Z ?_
 refine guardK h0 (fun g1 h0=>?_)
 refine RunA.eff Z Z Z (OpOK.clone Z Z g1) Z<|RunA.rd Z Z Z (OpOK.of_ro (RO.loadCE (a1:Bnd) ag_41 Z Z)) Z<|RunA.rd Z Z Z (OpOK.data1E (α:=Bnd) (a1) sl_22 z_41 Z Z (lb Z) Z Z (.cons (.d _) (.cons (.d _) (.cons (.d _) (.cons (.d _) .nil)))) Z) Z ?_
 refine guardK h0 (fun g2 h0=>?_)
 refine RunA.eff Z Z Z (OpOK.appendE (α:=Bnd) sl_22 el_41 Z Z Z Z Z (.d _) g2) Z<|RunA.rd Z Z Z (OpOK.of_ro (RO.assign Z)) Z ?_
 refine RunA.nil ⟨?ex,_,_,Z,?_⟩
 case ex=>exact ⟨⟨_,rfl,_,_,rfl,rfl,rfl,.inl ⟨rfl,_,OpOK.of_ro (RO.loadCE (a1:Bnd) ag_41 rfl rfl),rfl⟩⟩,⟨_,rfl,_,_,rfl,rfl,rfl,.inl ⟨rfl,_,OpOK.data1E (α:=Bnd) (a1) sl_22 z_41 rfl rfl (lb rfl) rfl rfl (.cons (.d _) (.cons (.d _) (.cons (.d _) (.cons (.d _) .nil)))) rfl,rfl⟩⟩,trivial⟩
 refine XQ.less (st':=⟨[(0,.v (.one (dS a0))),(3,.v (.one (.ptr 0 0))),(4,.v (.one (.ptr 1 0))),(5,.v (.one (.ptr 2 0))),(6,.v (.one (dA 3 ((a0++([a1])):List Bnd))))],m18_h0 a1,[(3,some ⟨41,4,(Enc.encL ((a0++([a1])):List Bnd)).length,[]⟩)],4,81,[]⟩) (sL (Nat.zero_le _) Z Z Z Z Z)<|XQ.seq<|XC.seq<|XC.seq<|XC.region<|rM Z Z Z ?_
 refine bindK h0 (fun x3 hx3 h0=>?_)
 refine XL.put Z Z (lb Z) (OpOK.callG (hp1':=[]) (tk1':=[(3,some ⟨41,4,(Enc.encL ((a0++([a1])):List Bnd)).length,[]⟩)]) (hpF:=m18_h0 a1) (tkF:=[]) (res2:=resOf [.one (dB x3)]) (nx2:=4) [3] Z Z (m35f19_ok (a0++([a1])) x3 hx3) Z Z qZ Z Z gZ (jR Z jZ) (hA Z) kZ Z Z Z Z Z bZ Z Z Z Z)<|XL.nil<|XQ.seq ?_
 refine XC.cond (b:=x3) Z (fun c4=>?_) (fun c4=>?_)
 replace h0:=condT c4 h0
 refine XC.seq<|XC.region<|XL.eff Z Z (OpOK.store ag_4 Z Z Z Z (lb Z) Z)<|XL.eff Z Z (OpOK.store ag_25 Z Z Z Z (lb Z) Z)<|XL.nil<|XQ.seq<|XC.ret ?_
 have e:=sI h0;subst e
 exact XQ.retF (fun _ _ h=>h) Z (RAs.cell ag_4 Z Z Z (RAs.cell ag_25 Z Z Z .nil)) (.cons (.one (.d _)) (.cons (.one (.d _)) .nil))
 replace h0:=condF c4 h0
 refine XC.skip<|XQ.seq<|XC.seq<|XC.seq<|XC.region<|rM Z Z Z ?_
 refine bindK h0 (fun x5 hx5 h0=>?_)
 refine XL.put Z Z (lb Z) (OpOK.callG (hp1':=[]) (tk1':=[(3,some ⟨41,4,(Enc.encL ((a0++([a1])):List Bnd)).length,[]⟩)]) (hpF:=m18_h0 a1) (tkF:=[]) (res2:=resOf [.one (dB x5)]) (nx2:=4) [3] Z Z (m35f21_ok (a0++([a1])) x5 hx5) Z Z qZ Z Z gZ (jR Z jZ) (hA Z) kZ Z Z Z Z Z bZ Z Z Z Z)<|XL.nil<|XQ.seq ?_
 refine XC.cond (b:=x5) Z (fun c6=>?_) (fun c6=>?_)
 replace h0:=condT c6 h0
 refine XC.seq<|XC.region<|XL.eff Z Z (OpOK.store ag_4 Z Z Z Z (lb Z) Z)<|XL.eff Z Z (OpOK.store ag_25 Z Z Z Z (lb Z) Z)<|XL.nil<|XQ.seq<|XC.ret ?_
 have e:=sI h0;subst e
 exact XQ.retF (fun _ _ h=>h) Z (RAs.cell ag_4 Z Z Z (RAs.cell ag_25 Z Z Z .nil)) (.cons (.one (.d _)) (.cons (.one (.d _)) .nil))
 replace h0:=condF c6 h0
 refine XC.skip<|XQ.seq<|XC.seq<|XC.region<|XL.put Z Z (lb Z) (OpOK.allocA (l:=(List.replicate 81 (0:Int))) z_70 Z Z)<|XL.nil<|XQ.seq<|XC.seq<|XC.seq<|XC.region<|rM Z Z Z<|XL.nil<|XQ.seq<|XC.block ?_
 refine XC.joinX 0 (fun (o7:(List Int))=>⟨[(0,.v (.one (dS a0))),(3,.v (.one (.ptr 0 0))),(4,.v (.one (.ptr 1 0))),(5,.v (.one (.ptr 2 0))),(7,.v (.one (.ptr 4 0)))],[(0,.cells 41 (cE a1)),(1,.cells 4 [dB false]),(2,.cells 25 [dI 0]),(4,.cells 70 (flatE o7))],[(3,some ⟨41,4,(Enc.encL ((a0++([a1])):List Bnd)).length,[]⟩)],5,81,[]⟩) (fun (o7:(List Int))=>(Option.bind (loopN (m18_l3 a0) FUEL (0,o7)) (Sum.elim (fun (o8:(List Int))=>Option.bind (some ()) (fun (y9:Unit)=>Option.bind (Option.bind (cond (decide (0 < a1.lo.c))
     (Option.bind (guardO (Nat.beq o8.length 81)
   (guardO (Nat.beq (List.replicate 81 (0:Int)).length 81)
   (guardO (Nat.beq o8.length 81)
   (Option.bind (some ()) (fun (y26:Unit)=>Option.bind (Option.bind (cond (decide (0 < a1.hi.c))
     (Option.bind (Option.bind (m41f27 a1.hi.c a1.lo.c 1 o8) fun (x35:((List Int))) =>
   some x35) (fun (y32:(List Int))=>some y32))
     (cond ((a1.hi.vs.length:Int)==0)
     (Option.bind (Option.bind (m41f27 a1.hi.c a1.lo.c 1 o8) fun (x40:((List Int))) =>
   some x40) (fun (y37:(List Int))=>some y37))
     (some o8))) (fun (v30:(List Int))=>Option.bind (loopN (m18_l6 a1) FUEL (0,v30)) (fun (o31:(List Int))=>some o31))) (fun (y28:(List Int))=>guardO (Nat.beq y28.length 81)
   (Option.bind (m42 y28) fun (x50:Bool) =>
   cond x50
     (some (.inr ()))
     (some (.inl ()))))))))) (Sum.elim (fun (y18:Unit)=>some (.inl ())) (fun (y19:Unit)=>some (.inr ()))))
     (cond ((a1.lo.vs.length:Int)==0)
     (Option.bind (guardO (Nat.beq o8.length 81)
   (guardO (Nat.beq (List.replicate 81 (0:Int)).length 81)
   (guardO (Nat.beq o8.length 81)
   (Option.bind (some ()) (fun (y61:Unit)=>Option.bind (Option.bind (cond (decide (0 < a1.hi.c))
     (Option.bind (Option.bind (m41f27 a1.hi.c a1.lo.c 1 o8) fun (x70:((List Int))) =>
   some x70) (fun (y67:(List Int))=>some y67))
     (cond ((a1.hi.vs.length:Int)==0)
     (Option.bind (Option.bind (m41f27 a1.hi.c a1.lo.c 1 o8) fun (x75:((List Int))) =>
   some x75) (fun (y72:(List Int))=>some y72))
     (some o8))) (fun (v65:(List Int))=>Option.bind (loopN (m18_l6 a1) FUEL (0,v65)) (fun (o66:(List Int))=>some o66))) (fun (y63:(List Int))=>guardO (Nat.beq y63.length 81)
   (Option.bind (m42 y63) fun (x85:Bool) =>
   cond x85
     (some (.inr ()))
     (some (.inl ()))))))))) (Sum.elim (fun (y53:Unit)=>some (.inl ())) (fun (y54:Unit)=>some (.inr ()))))
     (some (.inl ())))) (Sum.elim (fun (v15:Unit)=>Option.bind (loopN (m18_l5 a1 o8) FUEL 0) (Sum.elim (fun (o17:Unit)=>some (.inl ())) (fun o=>some o))) (fun (v16:Unit)=>some (.inr ())))) (Sum.elim (fun (y11:Unit)=>some (true,0)) (fun (y12:Unit)=>some (false,0))))) (fun o=>some o)))=some r) ?_ ?_
 refine bindK h0 (fun o8 hl1 h0=>?_)
 refine XC.loopM (m18_l1) (fun s1=>⟨[(0,.v (.one (dS a0))),(3,.v (.one (.ptr 0 0))),(4,.v (.one (.ptr 1 0))),(5,.v (.one (.ptr 2 0))),(7,.v (.one (.ptr 4 0))),(26,.v (.one (dI s1.1)))],[(0,.cells 41 (cE a1)),(1,.cells 4 [dB false]),(2,.cells 25 [dI 0]),(4,.cells 70 (flatE s1.2))],[(3,some ⟨41,4,(Enc.encL ((a0++([a1])):List Bnd)).length,[]⟩)],5,81,[]⟩) (0,(List.replicate 81 (0:Int))) o8 (stle (tA Z) (hA Z) (kA Z) Z (Nat.zero_le _) Z Z Z (bB Z Z (bB Z Z (bB Z Z (bF Z bZ)))) Z Z) hl1 (fun s1 n1 oo1 h1 ho1=>?_)
 unfold m18_l1 at h1
 refine XC.seq<|XC.region<|rR Z Z Z (RO.binInt Z Z Z)<|XL.nil<|XQ.seq<|XC.seq ?_
 refine XC.cond (b:=(decide (s1.1 < 9))) Z (fun c9=>?_) (fun c9=>?_)
 replace h1:=condT c9 h1
 refine XC.skip<|XQ.seq<|XC.seq<|XC.block<|XC.seq<|XC.region<|rM Z Z Z<|rA Z Z Z<|XL.nil<|XQ.seq<|XC.seq<|XC.seq<|XC.region<|rM Z Z Z ?_
 refine XL.nil<|XQ.seq<|XC.block ?_
 refine XC.joinX 2 (fun (o10:(List Int))=>⟨[(0,.v (.one (dS a0))),(3,.v (.one (.ptr 0 0))),(4,.v (.one (.ptr 1 0))),(5,.v (.one (.ptr 2 0))),(7,.v (.one (.ptr 4 0))),(8,.v (.one (dI s1.1))),(26,.v (.one (dI s1.1)))],[(0,.cells 41 (cE a1)),(1,.cells 4 [dB false]),(2,.cells 25 [dI 0]),(4,.cells 70 (flatE o10))],[(3,some ⟨41,4,(Enc.encL ((a0++([a1])):List Bnd)).length,[]⟩)],5,81,[]⟩) (fun (o10:(List Int))=>(guardO (cond (decide (0≤(0:Int))) (Nat.blt (0:Int).toNat 9) false)
   (guardO (cond (decide (0≤s1.1)) (Nat.blt s1.1.toNat 9) false)
   (guardO (Nat.blt (0+(0:Int).toNat * 9+s1.1.toNat * 1) o10.length)
   (some (.next ((w64 (s1.1+1)),(o10.set (0+(0:Int).toNat * 9+s1.1.toNat * 1) 0)))))))=some oo1) ?_ ?_
 refine bindK h1 (fun o11 hl2 h1=>?_)
 refine XC.loopM (m18_l0 s1) (fun s2=>⟨[(0,.v (.one (dS a0))),(3,.v (.one (.ptr 0 0))),(4,.v (.one (.ptr 1 0))),(5,.v (.one (.ptr 2 0))),(7,.v (.one (.ptr 4 0))),(8,.v (.one (dI s1.1))),(26,.v (.one (dI s1.1))),(29,.v (.one (dI s2.1)))],[(0,.cells 41 (cE a1)),(1,.cells 4 [dB false]),(2,.cells 25 [dI 0]),(4,.cells 70 (flatE s2.2))],[(3,some ⟨41,4,(Enc.encL ((a0++([a1])):List Bnd)).length,[]⟩)],5,81,[]⟩) (0,s1.2) o11 (stle (tA Z) (hA Z) (kA Z) Z (Nat.zero_le _) Z Z Z (bB Z Z (bB Z Z (bB Z Z (bF Z bZ)))) Z Z) hl2 (fun s2 n2 oo2 h2 ho2=>?_)
 unfold m18_l0 at h2
 refine XC.seq<|XC.region<|rR Z Z Z (RO.binInt Z Z Z)<|XL.nil<|XQ.seq<|XC.seq ?_
 refine XC.cond (b:=(decide (s2.1 < 9))) Z (fun c12=>?_) (fun c12=>?_)
 replace h2:=condT c12 h2
 refine XC.skip<|XQ.seq<|XC.seq<|XC.block<|XC.seq<|XC.region<|rM Z Z Z<|rA Z Z Z<|XL.nil<|XQ.seq<|XC.seq<|XC.region<|rM Z Z Z<|rM Z Z Z ?_
 refine rR Z Z Z (RO.binInt Z Z Z)<|XL.nil<|XQ.seq ?_
 refine XC.cond (b:=(s1.1 != s2.1)) Z (fun c13=>?_) (fun c13=>?_)
 replace h2:=condT c13 h2
 refine XC.region<|rM Z Z Z<|rM Z Z Z ?_
 refine guardK h2 (fun g14 h2=>?_)
 refine rR Z Z Z (RO.indexA arr_70 Z Z g14) ?_
 refine guardK h2 (fun g15 h2=>?_)
 refine rR Z Z Z (RO.indexA arr_68 Z Z g15) ?_
 refine guardK h2 (fun g16 h2=>?_)
 refine XL.eff Z Z (OpOK.storeA ag_3 Z Z Z g16 Z)<|XL.nil<|XQ.inBlock<|XQ.seq<|XC.region<|rR Z Z Z (RO.binInt Z Z Z)<|rM Z Z Z<|XL.nil ?_
 have e:=sI h2;subst e
 refine XQ.nextM ((w64 (s2.1+1)),(s2.2.set (0+s1.1.toNat * 9+s2.1.toNat * 1) 1048576)) (stle (tA Z) (hA Z) (kA Z) Z (Nat.zero_le _) Z Z Z (bB Z Z (bB Z Z (bB Z Z (bF Z bZ)))) Z Z) ho2
 replace h2:=condF c13 h2
 refine XC.skip<|XQ.inBlock<|XQ.seq<|XC.region<|rR Z Z Z (RO.binInt Z Z Z)<|rM Z Z Z<|XL.nil ?_
 have e:=sI h2;subst e
 refine XQ.nextM ((w64 (s2.1+1)),s2.2) (stle (tA Z) (hA Z) (kA Z) Z (Nat.zero_le _) Z Z Z (bB Z Z (bB Z Z (bB Z Z (bF Z bZ)))) Z Z) ho2
 replace h2:=condF c12 h2
 refine XC.exit<|XQ.thenE<|XQ.thenE ?_
 have e:=sI h2;subst e
 have e_:_=_:=ho2
 subst e_
 exact XQ.joinX s2.2 (stle (tA Z) (hA Z) (kA Z) Z (Nat.zero_le _) Z Z Z (bB Z Z (bB Z Z (bB Z Z (bF Z bZ)))) Z Z) h1
 intro o10 h1
 refine XQ.blockX<|XQ.seq<|XC.region<|rM Z Z Z ?_
 refine guardK h1 (fun g17 h1=>?_)
 refine rR Z Z Z (RO.indexA arr_70 Z Z g17) ?_
 refine guardK h1 (fun g18 h1=>?_)
 refine rR Z Z Z (RO.indexA arr_68 Z Z g18) ?_
 refine guardK h1 (fun g19 h1=>?_)
 refine XL.eff Z Z (OpOK.storeA ag_3 Z Z Z g19 Z)<|XL.nil<|XQ.inBlock<|XQ.seq<|XC.region<|rR Z Z Z (RO.binInt Z Z Z)<|rM Z Z Z<|XL.nil ?_
 have e:=sI h1;subst e
 refine XQ.nextM ((w64 (s1.1+1)),(o10.set (0+(0:Int).toNat * 9+s1.1.toNat * 1) 0)) (stle (tA Z) (hA Z) (kA Z) Z (Nat.zero_le _) Z Z Z (bB Z Z (bB Z Z (bB Z Z (bF Z bZ)))) Z Z) ho1
 replace h1:=condF c9 h1
 refine XC.exit<|XQ.thenE<|XQ.thenE ?_
 have e:=sI h1;subst e
 have e_:_=_:=ho1
 subst e_
 exact XQ.joinX s1.2 (stle (tA Z) (hA Z) (kA Z) Z (Nat.zero_le _) Z Z Z (bB Z Z (bB Z Z (bB Z Z (bF Z bZ)))) Z Z) h0
 intro o7 h0
 refine XQ.blockX<|XQ.seq<|XC.seq<|XC.seq<|XC.region<|rM Z Z Z<|rR Z Z Z (RO.lenE (α:=Bnd) sl_22 Z (.d _))<|rM Z Z Z<|XL.nil<|XQ.seq<|XC.block ?_
 refine XC.joinX 4 (fun (o20:(List Int))=>⟨[(3,.v (.one (.ptr 0 0))),(4,.v (.one (.ptr 1 0))),(5,.v (.one (.ptr 2 0))),(7,.v (.one (.ptr 4 0)))],[(0,.cells 41 (cE a1)),(1,.cells 4 [dB false]),(2,.cells 25 [dI 0]),(4,.cells 70 (flatE o20))],[(3,some ⟨41,4,(Enc.encL ((a0++([a1])):List Bnd)).length,[]⟩)],5,81,[]⟩) (fun (o20:(List Int))=>(Option.bind (some ()) (fun (y21:Unit)=>Option.bind (Option.bind (cond (decide (0 < a1.lo.c))
     (Option.bind (guardO (Nat.beq o20.length 81)
   (guardO (Nat.beq (List.replicate 81 (0:Int)).length 81)
   (guardO (Nat.beq o20.length 81)
   (Option.bind (some ()) (fun (y38:Unit)=>Option.bind (Option.bind (cond (decide (0 < a1.hi.c))
     (Option.bind (Option.bind (m41f27 a1.hi.c a1.lo.c 1 o20) fun (x47:((List Int))) =>
   some x47) (fun (y44:(List Int))=>some y44))
     (cond ((a1.hi.vs.length:Int)==0)
     (Option.bind (Option.bind (m41f27 a1.hi.c a1.lo.c 1 o20) fun (x52:((List Int))) =>
   some x52) (fun (y49:(List Int))=>some y49))
     (some o20))) (fun (v42:(List Int))=>Option.bind (loopN (m18_l6 a1) FUEL (0,v42)) (fun (o43:(List Int))=>some o43))) (fun (y40:(List Int))=>guardO (Nat.beq y40.length 81)
   (Option.bind (m42 y40) fun (x62:Bool) =>
   cond x62
     (some (.inr ()))
     (some (.inl ()))))))))) (Sum.elim (fun (y30:Unit)=>some (.inl ())) (fun (y31:Unit)=>some (.inr ()))))
     (cond ((a1.lo.vs.length:Int)==0)
     (Option.bind (guardO (Nat.beq o20.length 81)
   (guardO (Nat.beq (List.replicate 81 (0:Int)).length 81)
   (guardO (Nat.beq o20.length 81)
   (Option.bind (some ()) (fun (y73:Unit)=>Option.bind (Option.bind (cond (decide (0 < a1.hi.c))
     (Option.bind (Option.bind (m41f27 a1.hi.c a1.lo.c 1 o20) fun (x82:((List Int))) =>
   some x82) (fun (y79:(List Int))=>some y79))
     (cond ((a1.hi.vs.length:Int)==0)
     (Option.bind (Option.bind (m41f27 a1.hi.c a1.lo.c 1 o20) fun (x87:((List Int))) =>
   some x87) (fun (y84:(List Int))=>some y84))
     (some o20))) (fun (v77:(List Int))=>Option.bind (loopN (m18_l6 a1) FUEL (0,v77)) (fun (o78:(List Int))=>some o78))) (fun (y75:(List Int))=>guardO (Nat.beq y75.length 81)
   (Option.bind (m42 y75) fun (x97:Bool) =>
   cond x97
     (some (.inr ()))
     (some (.inl ()))))))))) (Sum.elim (fun (y65:Unit)=>some (.inl ())) (fun (y66:Unit)=>some (.inr ()))))
     (some (.inl ())))) (Sum.elim (fun (v27:Unit)=>Option.bind (loopN (m18_l5 a1 o20) FUEL 0) (Sum.elim (fun (o29:Unit)=>some (.inl ())) (fun o=>some o))) (fun (v28:Unit)=>some (.inr ())))) (Sum.elim (fun (y23:Unit)=>some (true,0)) (fun (y24:Unit)=>some (false,0)))))=some r) ?_ ?_
 refine bindK h0 (fun o21 hl1 h0=>?_)
 refine XC.loopM (m18_l3 a0) (fun s1=>⟨[(3,.v (.one (.ptr 0 0))),(4,.v (.one (.ptr 1 0))),(5,.v (.one (.ptr 2 0))),(7,.v (.one (.ptr 4 0))),(44,.v (.one (dS a0))),(45,.v (.one (dI (a0.length:Int)))),(46,.v (.one (dI s1.1)))],[(0,.cells 41 (cE a1)),(1,.cells 4 [dB false]),(2,.cells 25 [dI 0]),(4,.cells 70 (flatE s1.2))],[(3,some ⟨41,4,(Enc.encL ((a0++([a1])):List Bnd)).length,[]⟩)],5,81,[]⟩) (0,o7) o21 (stle (tA Z) (hA Z) (kA Z) Z (Nat.zero_le _) Z Z Z (bB Z Z (bB Z Z (bB Z Z (bF Z bZ)))) Z Z) hl1 (fun s1 n1 oo1 h1 ho1=>?_)
 unfold m18_l3 at h1
 refine XC.seq<|XC.region<|rR Z Z Z (RO.binInt Z Z Z)<|XL.nil<|XQ.seq<|XC.seq ?_
 refine XC.cond (b:=(decide (s1.1 < (a0.length:Int)))) Z (fun c22=>?_) (fun c22=>?_)
 replace h1:=condT c22 h1
 refine XC.skip<|XQ.seq<|XC.seq<|XC.block<|XC.seq<|XC.region ?_
 refine bindK h1 (fun x23 hx23 h1=>?_)
 refine rR Z Z Z (RO.indexE (α:=Bnd) sl_22 Z (.d _) Z hx23)<|rR Z Z Z (RO.loadPelCE (x23:Bnd) ag_41 Z)<|XL.put Z Z (lb Z) (OpOK.alloc z_41 Z)<|XL.eff Z Z (OpOK.storeCE (x23:Bnd) ag_41 Z Z Z Z Z)<|XL.nil<|XQ.seq<|XC.seq<|XC.region<|rR Z Z Z (RO.fieldOwn fo_41_1 Z)<|rR Z Z Z (RO.loadOwnAgg ag_39 Z Z Z Z) ?_
 refine bindK h1 (fun y24 h2 h1=>?_)
 have hc25:CallM Try.prog 40 [.agg (cE x23.hi)] ⟨m18_h1 a1 s1 x23,[(3,some ⟨41,4,(Enc.encL ((a0++([a1])):List Bnd)).length,[]⟩)],6⟩ (resOf [.one (.fn 62 [(6,0)])]) ⟨m18_h2 a1 s1 x23,[(3,some ⟨41,4,(Enc.encL ((a0++([a1])):List Bnd)).length,[]⟩)],7⟩:=by
  refine CallM.of_bodyD ⟨[(2,.v (.one (.fn 62 [(6,0)])))],m18_h2 a1 s1 x23,[(3,some ⟨41,4,(Enc.encL ((a0++([a1])):List Bnd)).length,[]⟩)],7,4,[]⟩ Z Z en_40 (lb Z) Z (RAs.tmp Z .nil) (fun w0 M V0 Q hv2 hQ2=>?_)
  simp only [entry]
  refine XC.seq<|XC.region<|XL.put Z Z (lb Z) (OpOK.box Z)<|rA Z Z Z<|XL.nil<|XQ.seq<|XC.seq<|XC.region<|rR Z Z Z (RO.makeFunc1 Z)<|rA Z Z Z<|XL.nil<|XQ.seq<|XC.ret ?_
  have e:=sI h2;subst e
  exact hQ2 _ _ _ (.inr Z) Z (stle (tA Z) (hA Z) (kA Z) Z (Nat.le_trans hv2 (lb Z)) Z Z Z (bB Z Z (bB Z Z (bB Z Z (bF Z (bA Z))))) Z Z)
 refine XL.put Z Z (lb Z) (OpOK.callW Z Z Z hc25 Z (hA Z) (kA Z)) ?_
 refine bindK h1 (fun x26 hx26 h1=>?_)
 refine XL.put Z Z (lb Z) (OpOK.callG (hp1':=[(6,.cells 39 (cE x23.hi))]) (tk1':=[(8,some ⟨39,2,(Enc.encL x26).length,[]⟩)]) (hpF:=m18_h1 a1 s1 x23) (tkF:=[(3,some ⟨41,4,(Enc.encL ((a0++([a1])):List Bnd)).length,[]⟩)]) (res2:=resOf [.one (dA 8 x26)]) (nx2:=11) [6] Z Z (m39f23_ok x23.hi x26 hx26) Z Z (qB Z Z qZ) Z Z (gR Z gZ) jZ (hA Z) (kA Z) Z Z Z Z Z (bA Z) Z Z Z Z)<|XL.put Z Z (lb Z) (OpOK.alloc z_31 Z)<|XL.eff Z Z (OpOK.store ag_31 Z Z Z Z (lb Z) Z)<|XL.nil<|XQ.seq<|XC.seq<|XC.seq<|XC.region<|rR Z Z Z (RO.loadOwn ag_31 Z Z Z)<|rR Z Z Z (RO.lenE (α:=Lvl) sl_31 Z (.app _ _))<|rR Z Z Z (RO.binInt Z Z Z)<|XL.nil<|XQ.seq ?_
 refine XC.cond (b:=(decide (1 < (x26.length:Int)))) Z (fun c27=>?_) (fun c27=>?_)
 replace h1:=condT c27 h1
 refine XC.seq<|XC.region<|XL.eff Z Z (OpOK.store ag_4 Z Z Z Z (lb Z) Z)<|XL.eff Z Z (OpOK.store ag_25 Z Z Z Z (lb Z) Z)<|XL.nil<|XQ.seq<|XC.ret ?_
 have e:=sI h1;subst e
 have e_:_=_:=ho1
 subst e_
 try dsimp only [Sum.elim_inl,Sum.elim_inr] at h0
 have e:=sI h0;subst e
 exact XQ.retF (fun _ _ h=>h) Z (RAs.cell ag_4 Z Z Z (RAs.cell ag_25 Z Z Z .nil)) (.cons (.one (.d _)) (.cons (.one (.d _)) .nil))
 replace h1:=condF c27 h1
 refine XC.skip<|XQ.seq<|XC.seq<|XC.region<|rR Z Z Z (RO.fieldOwn fo_41_0 Z)<|rR Z Z Z (RO.loadOwnAgg ag_39 Z Z Z Z) ?_
 refine bindK h1 (fun y28 h2 h1=>?_)
 have hc29:CallM Try.prog 40 [.agg (cE x23.lo)] ⟨m18_h3 a1 s1 x23 x26,[(3,some ⟨41,4,(Enc.encL ((a0++([a1])):List Bnd)).length,[]⟩),(8,some ⟨39,2,(Enc.encL x26).length,[]⟩)],12⟩ (resOf [.one (.fn 62 [(12,0)])]) ⟨m18_h4 a1 s1 x23 x26,[(3,some ⟨41,4,(Enc.encL ((a0++([a1])):List Bnd)).length,[]⟩),(8,some ⟨39,2,(Enc.encL x26).length,[]⟩)],13⟩:=by
  refine CallM.of_bodyD ⟨[(2,.v (.one (.fn 62 [(12,0)])))],m18_h4 a1 s1 x23 x26,[(3,some ⟨41,4,(Enc.encL ((a0++([a1])):List Bnd)).length,[]⟩),(8,some ⟨39,2,(Enc.encL x26).length,[]⟩)],13,4,[]⟩ Z Z en_40 (lb Z) Z (RAs.tmp Z .nil) (fun w0 M V0 Q hv2 hQ2=>?_)
  simp only [entry]
  refine XC.seq<|XC.region<|XL.put Z Z (lb Z) (OpOK.box Z)<|rA Z Z Z<|XL.nil<|XQ.seq<|XC.seq<|XC.region<|rR Z Z Z (RO.makeFunc1 Z)<|rA Z Z Z<|XL.nil<|XQ.seq<|XC.ret ?_
  have e:=sI h2;subst e
  exact hQ2 _ _ _ (.inr Z) Z (stle (tA Z) (hA Z) (kA Z) Z (Nat.le_trans hv2 (lb Z)) Z Z Z (bB Z Z (bB Z Z (bB Z Z (bF Z (bA Z))))) Z Z)
 refine XL.put Z Z (lb Z) (OpOK.callW Z Z Z hc29 Z (hA Z) (kA Z))<|XL.nil<|XQ.seq<|XC.block<|XC.less (st':=⟨[(3,.v (.one (.ptr 0 0))),(4,.v (.one (.ptr 1 0))),(5,.v (.one (.ptr 2 0))),(7,.v (.one (.ptr 4 0))),(12,.v (.one (.ptr 11 0))),(44,.v (.one (dS a0))),(45,.v (.one (dI (a0.length:Int)))),(46,.v (.one (dI s1.1))),(59,.v (.one (.fn 62 [(12,0)])))],m18_h4 a1 s1 x23 x26,[(3,some ⟨41,4,(Enc.encL ((a0++([a1])):List Bnd)).length,[]⟩),(8,some ⟨39,2,(Enc.encL x26).length,[]⟩)],13,81,[]⟩) (stle (tA Z) (hA Z) (kA Z) Z (Nat.zero_le _) Z Z Z (bB Z Z (bB Z Z (bB Z Z (bF Z (bA Z))))) Z Z) ?_
 refine bindK h1 (fun y30 h2 h1=>?_)
 have hc31:CallM Try.prog 62 [.one (.yld 14),.one (.ptr 12 0)] ⟨[(14,.loop .ready none [(3,.v (.one (.ptr 0 0))),(4,.v (.one (.ptr 1 0))),(5,.v (.one (.ptr 2 0))),(7,.v (.one (.ptr 4 0))),(12,.v (.one (.ptr 11 0))),(44,.v (.one (dS a0))),(45,.v (.one (dI (a0.length:Int)))),(46,.v (.one (dI s1.1))),(59,.v (.one (.fn 62 [(12,0)])))] 81 #[60] m18_c0 m18_c1 13),(13,.obj (.deferred (some []))),(0,.cells 41 (cE a1)),(1,.cells 4 [dB false]),(2,.cells 25 [dI 0]),(4,.cells 70 (flatE s1.2)),(5,.cells 41 (cE x23)),(6,.cells 39 (cE x23.hi)),(11,.cells 31 [dA 8 x26]),(12,.cells 39 (cE x23.lo))],[(3,some ⟨41,4,(Enc.encL ((a0++([a1])):List Bnd)).length,[]⟩),(8,some ⟨39,2,(Enc.encL x26).length,[]⟩)],15⟩ (resOf []) ⟨m18_h6 a1 y30 x23 x26 a0 s1,[(3,some ⟨41,4,(Enc.encL ((a0++([a1])):List Bnd)).length,[]⟩),(8,some ⟨39,2,(Enc.encL x26).length,[]⟩)],15⟩:=by
  refine CallM.of_bodyD ⟨[],m18_h6 a1 y30 x23 x26 a0 s1,[(3,some ⟨41,4,(Enc.encL ((a0++([a1])):List Bnd)).length,[]⟩),(8,some ⟨39,2,(Enc.encL x26).length,[]⟩)],15,36,[]⟩ Z Z en_62 (lb Z) Z .nil (fun w0 M V0 Q hv2 hQ2=>?_)
  simp only [entry]
  refine XC.seq<|XC.seq ?_
  refine XC.joinR (fun (v32:(List Int))=>⟨[(0,.v (.one (.yld 14))),(1,.v (.one (.ptr 12 0))),(21,.v (.one (dB false)))],[(0,.cells 41 (cE a1)),(1,.cells 4 [dB false]),(2,.cells 25 [dI 0]),(4,.cells 70 (flatE v32)),(5,.cells 41 (cE x23)),(6,.cells 39 (cE x23.hi)),(11,.cells 31 [dA 8 x26]),(12,.cells 39 (cE x23.lo)),(13,.obj (.deferred (some []))),(14,m18_h5 a0 s1)],[(3,some ⟨41,4,(Enc.encL ((a0++([a1])):List Bnd)).length,[]⟩),(8,some ⟨39,2,(Enc.encL x26).length,[]⟩)],15,36,[]⟩) (fun (v32:(List Int))=>(Option.bind (loopN (m18_l2 x23 x26) FUEL (0,v32)) (fun (o33:(List Int))=>some o33))=some y30) ?_ ?_
  refine bindK h2 (fun w3_ h3 h2=>?_)
  refine XC.region<|rR Z Z Z (RO.fieldOwn fo_39_0 Z)<|rR Z Z Z (RO.loadOwn ag_3 Z Z Z)<|rR Z Z Z (RO.binInt Z Z Z)<|rM Z Z Z ?_
  refine XL.case (d:=8) (c:=(decide (0 < x23.lo.c))) Z (fun c33=>?_) (fun c33=>?_)
  replace h3:=condT c33 h3
  refine XL.no Z Z<|XL.no Z Z<|XL.no Z Z<|XL.no Z Z<|rR Z Z Z (RO.pickT Z Z)<|rM Z Z Z<|rM Z Z Z<|rR Z Z Z (RO.fieldOwn fo_39_0 Z)<|rR Z Z Z (RO.loadOwn ag_3 Z Z Z)<|rR Z Z Z (RO.build1 bd_39 Z Z Z) ?_
  refine bindK h3 (fun y34 h4 h3=>?_)
  have ha35:ExecOK Try.prog (some 14) m18_c0 ⟨[(3,.v (.one (.ptr 0 0))),(4,.v (.one (.ptr 1 0))),(5,.v (.one (.ptr 2 0))),(7,.v (.one (.ptr 4 0))),(12,.v (.one (.ptr 11 0))),(44,.v (.one (dS a0))),(45,.v (.one (dI (a0.length:Int)))),(46,.v (.one (dI s1.1))),(59,.v (.one (.fn 62 [(12,0)]))),(60,.v (.agg [dI x23.lo.c,dN]))],m18_h7 a1 s1 x23 x26 a0,[(3,some ⟨41,4,(Enc.encL ((a0++([a1])):List Bnd)).length,[]⟩),(8,some ⟨39,2,(Enc.encL x26).length,[]⟩)],15,81,[]⟩ .normal ⟨[(7,.v (.one (.ptr 4 0))),(12,.v (.one (.ptr 11 0))),(13,.v (.one (.ptr 15 0)))],m18_h10 a1 s1 x23 x26 a0,[(3,some ⟨41,4,(Enc.encL ((a0++([a1])):List Bnd)).length,[]⟩),(8,some ⟨39,2,(Enc.encL x26).length,[]⟩)],16,81,[]⟩:=by
   refine ExecOK.walk (fun w0 M V0 ro n Q hv4 hro4 hQn4=>?_)
   refine XC.region<|XL.put Z Z (lb Z) (OpOK.alloc z_39 Z)<|XL.eff Z Z (OpOK.store ag_39 Z Z Z Z (lb Z) Z)<|XL.nil ?_
   exact XQ.of hQn4 (stle (tA Z) (hA Z) (kA Z) Z (Nat.le_trans hv4 (lb Z)) Z Z Z (bB Z Z (bB Z Z (bB Z Z (bF Z (bA Z))))) Z Z)
  have hb36:ExecOK Try.prog (some 14) m18_c1 ⟨[(7,.v (.one (.ptr 4 0))),(12,.v (.one (.ptr 11 0))),(13,.v (.one (.ptr 15 0)))],m18_h9 a1 s1 x23 x26 a0,[(3,some ⟨41,4,(Enc.encL ((a0++([a1])):List Bnd)).length,[]⟩),(8,some ⟨39,2,(Enc.encL x26).length,[]⟩)],16,81,[]⟩ .normal ⟨[],m18_h11 a1 y34 x23 x26 a0 s1,[(3,some ⟨41,4,(Enc.encL ((a0++([a1])):List Bnd)).length,[]⟩),(8,some ⟨39,2,(Enc.encL x26).length,[]⟩)],18,81,[]⟩:=by
   refine ExecOK.walk (fun w0 M V0 ro n Q hv4 hro4 hQn4=>?_)
   refine XC.block ?_
   refine XC.anyRun [4] [] mixed (by kernel_rfl) (by kernel_rfl) (by kernel_rfl) ?_
   refine RunA.rd Z Z Z (OpOK.of_ro (RO.loadOwnAgg ag_39 Z Z Z Z)) Z<|RunA.rd Z Z Z (OpOK.of_ro (RO.loadOwn ag_31 Z Z Z)) Z ?_
   refine bindK h4 (fun x37 hx37 h4=>?_)
   refine RunA.rd Z Z Z (OpOK.of_ro (RO.indexE (α:=Lvl) sl_31 Z (.app _ _) Z hx37)) Z<|RunA.rd Z Z Z (OpOK.of_ro (RO.loadPelCE (x37:Lvl) ag_39 Z)) Z ?_
   refine bindK h4 (fun x38 hx38 h4=>?_)
   refine RunA.eff Z Z Z (OpOK.callG (hp1':=[(4,.cells 70 (flatE x38))]) (tk1':=[]) (hpF:=m18_h12 a1 x23 x26 a0 s1) (tkF:=[(3,some ⟨41,4,(Enc.encL ((a0++([a1])):List Bnd)).length,[]⟩),(8,some ⟨39,2,(Enc.encL x26).length,[]⟩)]) (res2:=resOf []) (nx2:=18) [4] Z Z (m41f25_ok x23.lo.c x37 0 s1.2 x38 hx38) Z Z (qF Z qZ) Z Z (gF Z gZ) jZ (hA Z) (kA Z) Z Z Z Z Z (bF Z bZ) Z Z Z Z) Z ?_
   refine RunA.nil ⟨?ex,_,_,Z,?_⟩
   case ex=>exact trivial
   refine XQ.less (st':=⟨[],m18_h13 a1 x38 x23 x26 a0 s1,[(3,some ⟨41,4,(Enc.encL ((a0++([a1])):List Bnd)).length,[]⟩),(8,some ⟨39,2,(Enc.encL x26).length,[]⟩)],18,81,[]⟩) (stle tZ (hA Z) (kA Z) Z (Nat.le_trans hv4 (lb Z)) Z Z Z (bB Z Z (bB Z Z (bB Z Z (bF Z (bA Z))))) Z Z)<|XQ.inBlock ?_
   have e:=sI h4;subst e
   exact XQ.of hQn4 (stle tZ (hA Z) (kA Z) Z (Nat.le_trans hv4 (lb Z)) Z Z Z (bB Z Z (bB Z Z (bB Z Z (bF Z (bA Z))))) Z Z)
  refine XL.put Z Z (lb Z) (OpOK.yield (jump:=none) Z Z Z Z Z (ExecOK.from ha35 (fun E hv=>(stle (tA Z) (hA Z) (kA Z) Z (Nat.le_trans hv (lb Z)) Z Z Z (bB Z Z (bB Z Z (bB Z Z (bF Z (bA Z))))) Z Z))) Z (ExecOK.from hb36 (fun E hv=>(stle (tA Z) (hA Z) (kA Z) Z (Nat.le_trans hv (lb Z)) Z Z Z (bB Z Z (bB Z Z (bB Z Z (bF Z (bA Z))))) Z Z))) Z Z) ?_
  refine rR Z Z Z (RO.not Z)<|rR Z Z Z (RO.pickT Z Z)<|XL.nil ?_
  have e:=sI h3;subst e
  exact XQ.joinR y34 (stle (tA Z) (hA Z) (kA Z) Z (Nat.le_trans hv2 (lb Z)) Z Z Z (bB Z Z (bB Z Z (bB Z Z (bF Z (bA Z))))) Z Z) h2
  replace h3:=condF c33 h3
  refine rR Z Z Z (RO.fieldOwn fo_39_1 Z)<|rR Z Z Z (RO.loadOwn ag_37 Z Z Z)<|rR Z Z Z (RO.lenE (α:=LV) sl_37 Z (.d _))<|rR Z Z Z (RO.binInt Z Z Z)<|rR Z Z Z (RO.pickF Z Z)<|rM Z Z Z ?_
  refine XL.case (d:=14) (c:=((x23.lo.vs.length:Int)==0)) Z (fun c39=>?_) (fun c39=>?_)
  replace h3:=condT c39 h3
  refine rM Z Z Z<|rR Z Z Z (RO.fieldOwn fo_39_0 Z)<|rR Z Z Z (RO.loadOwn ag_3 Z Z Z)<|rR Z Z Z (RO.build1 bd_39 Z Z Z) ?_
  refine bindK h3 (fun y40 h4 h3=>?_)
  have ha41:ExecOK Try.prog (some 14) m18_c0 ⟨[(3,.v (.one (.ptr 0 0))),(4,.v (.one (.ptr 1 0))),(5,.v (.one (.ptr 2 0))),(7,.v (.one (.ptr 4 0))),(12,.v (.one (.ptr 11 0))),(44,.v (.one (dS a0))),(45,.v (.one (dI (a0.length:Int)))),(46,.v (.one (dI s1.1))),(59,.v (.one (.fn 62 [(12,0)]))),(60,.v (.agg [dI x23.lo.c,dN]))],m18_h7 a1 s1 x23 x26 a0,[(3,some ⟨41,4,(Enc.encL ((a0++([a1])):List Bnd)).length,[]⟩),(8,some ⟨39,2,(Enc.encL x26).length,[]⟩)],15,81,[]⟩ .normal ⟨[(7,.v (.one (.ptr 4 0))),(12,.v (.one (.ptr 11 0))),(13,.v (.one (.ptr 15 0)))],m18_h10 a1 s1 x23 x26 a0,[(3,some ⟨41,4,(Enc.encL ((a0++([a1])):List Bnd)).length,[]⟩),(8,some ⟨39,2,(Enc.encL x26).length,[]⟩)],16,81,[]⟩:=by
   refine ExecOK.walk (fun w0 M V0 ro n Q hv4 hro4 hQn4=>?_)
   refine XC.region<|XL.put Z Z (lb Z) (OpOK.alloc z_39 Z)<|XL.eff Z Z (OpOK.store ag_39 Z Z Z Z (lb Z) Z)<|XL.nil ?_
   exact XQ.of hQn4 (stle (tA Z) (hA Z) (kA Z) Z (Nat.le_trans hv4 (lb Z)) Z Z Z (bB Z Z (bB Z Z (bB Z Z (bF Z (bA Z))))) Z Z)
  have hb42:ExecOK Try.prog (some 14) m18_c1 ⟨[(7,.v (.one (.ptr 4 0))),(12,.v (.one (.ptr 11 0))),(13,.v (.one (.ptr 15 0)))],m18_h9 a1 s1 x23 x26 a0,[(3,some ⟨41,4,(Enc.encL ((a0++([a1])):List Bnd)).length,[]⟩),(8,some ⟨39,2,(Enc.encL x26).length,[]⟩)],16,81,[]⟩ .normal ⟨[],m18_h11 a1 y40 x23 x26 a0 s1,[(3,some ⟨41,4,(Enc.encL ((a0++([a1])):List Bnd)).length,[]⟩),(8,some ⟨39,2,(Enc.encL x26).length,[]⟩)],18,81,[]⟩:=by
   refine ExecOK.walk (fun w0 M V0 ro n Q hv4 hro4 hQn4=>?_)
   refine XC.block ?_
   refine XC.anyRun [4] [] mixed (by kernel_rfl) (by kernel_rfl) (by kernel_rfl) ?_
   refine RunA.rd Z Z Z (OpOK.of_ro (RO.loadOwnAgg ag_39 Z Z Z Z)) Z<|RunA.rd Z Z Z (OpOK.of_ro (RO.loadOwn ag_31 Z Z Z)) Z ?_
   refine bindK h4 (fun x43 hx43 h4=>?_)
   refine RunA.rd Z Z Z (OpOK.of_ro (RO.indexE (α:=Lvl) sl_31 Z (.app _ _) Z hx43)) Z<|RunA.rd Z Z Z (OpOK.of_ro (RO.loadPelCE (x43:Lvl) ag_39 Z)) Z ?_
   refine bindK h4 (fun x44 hx44 h4=>?_)
   refine RunA.eff Z Z Z (OpOK.callG (hp1':=[(4,.cells 70 (flatE x44))]) (tk1':=[]) (hpF:=m18_h12 a1 x23 x26 a0 s1) (tkF:=[(3,some ⟨41,4,(Enc.encL ((a0++([a1])):List Bnd)).length,[]⟩),(8,some ⟨39,2,(Enc.encL x26).length,[]⟩)]) (res2:=resOf []) (nx2:=18) [4] Z Z (m41f25_ok x23.lo.c x43 0 s1.2 x44 hx44) Z Z (qF Z qZ) Z Z (gF Z gZ) jZ (hA Z) (kA Z) Z Z Z Z Z (bF Z bZ) Z Z Z Z) Z ?_
   refine RunA.nil ⟨?ex,_,_,Z,?_⟩
   case ex=>exact trivial
   refine XQ.less (st':=⟨[],m18_h13 a1 x44 x23 x26 a0 s1,[(3,some ⟨41,4,(Enc.encL ((a0++([a1])):List Bnd)).length,[]⟩),(8,some ⟨39,2,(Enc.encL x26).length,[]⟩)],18,81,[]⟩) (stle tZ (hA Z) (kA Z) Z (Nat.le_trans hv4 (lb Z)) Z Z Z (bB Z Z (bB Z Z (bB Z Z (bF Z (bA Z))))) Z Z)<|XQ.inBlock ?_
   have e:=sI h4;subst e
   exact XQ.of hQn4 (stle tZ (hA Z) (kA Z) Z (Nat.le_trans hv4 (lb Z)) Z Z Z (bB Z Z (bB Z Z (bB Z Z (bF Z (bA Z))))) Z Z)
  refine XL.put Z Z (lb Z) (OpOK.yield (jump:=none) Z Z Z Z Z (ExecOK.from ha41 (fun E hv=>(stle (tA Z) (hA Z) (kA Z) Z (Nat.le_trans hv (lb Z)) Z Z Z (bB Z Z (bB Z Z (bB Z Z (bF Z (bA Z))))) Z Z))) Z (ExecOK.from hb42 (fun E hv=>(stle (tA Z) (hA Z) (kA Z) Z (Nat.le_trans hv (lb Z)) Z Z Z (bB Z Z (bB Z Z (bB Z Z (bF Z (bA Z))))) Z Z))) Z Z) ?_
  refine rR Z Z Z (RO.not Z)<|rR Z Z Z (RO.pickT Z Z)<|XL.nil ?_
  have e:=sI h3;subst e
  exact XQ.joinR y40 (stle (tA Z) (hA Z) (kA Z) Z (Nat.le_trans hv2 (lb Z)) Z Z Z (bB Z Z (bB Z Z (bB Z Z (bF Z (bA Z))))) Z Z) h2
  replace h3:=condF c39 h3
  refine XL.no Z Z<|XL.no Z Z<|XL.no Z Z<|XL.no Z Z<|XL.no Z Z<|XL.no Z Z<|rR Z Z Z (RO.pickF Z Z)<|XL.nil ?_
  have e:=sI h3;subst e
  exact XQ.joinR s1.2 (stle (tA Z) (hA Z) (kA Z) Z (Nat.le_trans hv2 (lb Z)) Z Z Z (bB Z Z (bB Z Z (bB Z Z (bF Z (bA Z))))) Z Z) h2
  intro v32 h2
  refine XQ.seq ?_
  refine XC.cond Z (fun h=>nomatch h) (fun _=>?_)
  refine XC.skip<|XQ.seq<|XC.seq<|XC.region<|rR Z Z Z (RO.fieldOwn fo_39_1 Z)<|rR Z Z Z (RO.loadOwn ag_37 Z Z Z)<|rR Z Z Z (RO.lenE (α:=LV) sl_37 Z (.d _))<|rM Z Z Z<|XL.nil<|XQ.seq<|XC.block ?_
  refine XC.joinX 0 (fun (o45:(List Int))=>⟨[],[(0,.cells 41 (cE a1)),(1,.cells 4 [dB false]),(2,.cells 25 [dI 0]),(4,.cells 70 (flatE o45)),(5,.cells 41 (cE x23)),(6,.cells 39 (cE x23.hi)),(11,.cells 31 [dA 8 x26]),(12,.cells 39 (cE x23.lo)),(13,.obj (.deferred (some []))),(14,m18_h5 a0 s1)],[(3,some ⟨41,4,(Enc.encL ((a0++([a1])):List Bnd)).length,[]⟩),(8,some ⟨39,2,(Enc.encL x26).length,[]⟩)],15,36,[]⟩) (fun (o45:(List Int))=>(some o45)=some y30) ?_ ?_
  refine bindK h2 (fun o46 hl3 h2=>?_)
  refine XC.loopM (m18_l2 x23 x26) (fun s3=>⟨[(0,.v (.one (.yld 14))),(23,.v (.one (dS x23.lo.vs))),(24,.v (.one (dI (x23.lo.vs.length:Int)))),(25,.v (.one (dI s3.1)))],[(0,.cells 41 (cE a1)),(1,.cells 4 [dB false]),(2,.cells 25 [dI 0]),(4,.cells 70 (flatE s3.2)),(5,.cells 41 (cE x23)),(6,.cells 39 (cE x23.hi)),(11,.cells 31 [dA 8 x26]),(12,.cells 39 (cE x23.lo)),(13,.obj (.deferred (some []))),(14,m18_h5 a0 s1)],[(3,some ⟨41,4,(Enc.encL ((a0++([a1])):List Bnd)).length,[]⟩),(8,some ⟨39,2,(Enc.encL x26).length,[]⟩)],15,36,[]⟩) (0,v32) o46 (stle (tA Z) (hA Z) (kA Z) Z (Nat.le_trans hv2 (lb Z)) Z Z Z (bB Z Z (bB Z Z (bB Z Z (bF Z (bA Z))))) Z Z) hl3 (fun s3 n3 oo3 h3 ho3=>?_)
  unfold m18_l2 at h3
  refine XC.seq<|XC.region<|rR Z Z Z (RO.binInt Z Z Z)<|XL.nil<|XQ.seq<|XC.seq ?_
  refine XC.cond (b:=(decide (s3.1 < (x23.lo.vs.length:Int)))) Z (fun c47=>?_) (fun c47=>?_)
  replace h3:=condT c47 h3
  refine XC.skip<|XQ.seq<|XC.seq<|XC.block<|XC.seq<|XC.region ?_
  refine bindK h3 (fun x48 hx48 h3=>?_)
  refine rR Z Z Z (RO.indexE (α:=LV) sl_37 Z (.d _) Z hx48)<|rR Z Z Z (RO.loadPelCE (x48:LV) ag_59 Z)<|XL.put Z Z (lb Z) (OpOK.alloc z_59 Z)<|XL.eff Z Z (OpOK.storeCE (x48:LV) ag_59 Z Z Z Z Z)<|XL.nil<|XQ.seq<|XC.seq<|XC.region<|rM Z Z Z<|rR Z Z Z (RO.loadCE (x48:LV) ag_59 Z Z)<|XL.put Z Z (lb Z) (OpOK.lit1E (α:=LV) (x48) sl_37 z_59 Z Z (lb Z) (lb Z) Z Z (.cons (.d _) (.cons (.d _) .nil)) Z)<|rR Z Z Z (RO.build1 bd_39 Z Z Z) ?_
  refine bindK h3 (fun y49 h4 h3=>?_)
  have ha50:ExecOK Try.prog (some 14) m18_c0 ⟨[(3,.v (.one (.ptr 0 0))),(4,.v (.one (.ptr 1 0))),(5,.v (.one (.ptr 2 0))),(7,.v (.one (.ptr 4 0))),(12,.v (.one (.ptr 11 0))),(44,.v (.one (dS a0))),(45,.v (.one (dI (a0.length:Int)))),(46,.v (.one (dI s1.1))),(59,.v (.one (.fn 62 [(12,0)]))),(60,.v (.agg [dI 0,dA 16 ([x48]:List LV)]))],m18_h14 a1 s3 x23 x26 a0 s1 x48,[(3,some ⟨41,4,(Enc.encL ((a0++([a1])):List Bnd)).length,[]⟩),(8,some ⟨39,2,(Enc.encL x26).length,[]⟩),(16,some ⟨59,2,(Enc.encL ([x48]:List LV)).length,[]⟩)],17,81,[]⟩ .normal ⟨[(7,.v (.one (.ptr 4 0))),(12,.v (.one (.ptr 11 0))),(13,.v (.one (.ptr 17 0)))],m18_h16 a1 s3 x23 x26 a0 s1 x48,[(3,some ⟨41,4,(Enc.encL ((a0++([a1])):List Bnd)).length,[]⟩),(8,some ⟨39,2,(Enc.encL x26).length,[]⟩),(16,some ⟨59,2,(Enc.encL ([x48]:List LV)).length,[]⟩)],18,81,[]⟩:=by
   refine ExecOK.walk (fun w0 M V0 ro n Q hv4 hro4 hQn4=>?_)
   refine XC.region<|XL.put Z Z (lb Z) (OpOK.alloc z_39 Z)<|XL.eff Z Z (OpOK.store ag_39 Z Z Z Z (lb Z) Z)<|XL.nil ?_
   exact XQ.of hQn4 (stle (tA Z) (hA Z) (kA Z) Z (Nat.le_trans hv4 (lb Z)) Z Z Z (bB Z Z (bB Z Z (bB Z Z (bF Z (bA Z))))) Z Z)
  have hb51:ExecOK Try.prog (some 14) m18_c1 ⟨[(7,.v (.one (.ptr 4 0))),(12,.v (.one (.ptr 11 0))),(13,.v (.one (.ptr 17 0)))],m18_h15 a1 s3 x23 x26 a0 s1 x48,[(3,some ⟨41,4,(Enc.encL ((a0++([a1])):List Bnd)).length,[]⟩),(8,some ⟨39,2,(Enc.encL x26).length,[]⟩),(16,some ⟨59,2,(Enc.encL ([x48]:List LV)).length,[]⟩)],18,81,[]⟩ .normal ⟨[],m18_h17 a1 y49 x23 x26 a0 s1 x48,[(3,some ⟨41,4,(Enc.encL ((a0++([a1])):List Bnd)).length,[]⟩),(8,some ⟨39,2,(Enc.encL x26).length,[]⟩),(16,some ⟨59,2,(Enc.encL ([x48]:List LV)).length,[]⟩)],20,81,[]⟩:=by
   refine ExecOK.walk (fun w0 M V0 ro n Q hv4 hro4 hQn4=>?_)
   refine XC.block ?_
   refine XC.anyRun [4] [] mixed (by kernel_rfl) (by kernel_rfl) (by kernel_rfl) ?_
   refine RunA.rd Z Z Z (OpOK.of_ro (RO.loadOwnAgg ag_39 Z Z Z Z)) Z<|RunA.rd Z Z Z (OpOK.of_ro (RO.loadOwn ag_31 Z Z Z)) Z ?_
   refine bindK h4 (fun x52 hx52 h4=>?_)
   refine RunA.rd Z Z Z (OpOK.of_ro (RO.indexE (α:=Lvl) sl_31 Z (.app _ _) Z hx52)) Z<|RunA.rd Z Z Z (OpOK.of_ro (RO.loadPelCE (x52:Lvl) ag_39 Z)) Z ?_
   refine bindK h4 (fun x53 hx53 h4=>?_)
   refine RunA.eff Z Z Z (OpOK.callG (hp1':=[(4,.cells 70 (flatE x53))]) (tk1':=[(16,some ⟨59,2,(Enc.encL ([x48]:List LV)).length,[]⟩)]) (hpF:=m18_h18 a1 x23 x26 a0 s1 x48) (tkF:=[(3,some ⟨41,4,(Enc.encL ((a0++([a1])):List Bnd)).length,[]⟩),(8,some ⟨39,2,(Enc.encL x26).length,[]⟩)]) (res2:=resOf []) (nx2:=20) [4,16] Z Z (m41f26_ok 0 ([x48]) x52 0 s3.2 x53 hx53) Z Z (qF Z qZ) Z Z (gF Z gZ) (jR Z jZ) (hA Z) (kA Z) Z Z Z Z Z (bF Z bZ) Z Z Z Z) Z ?_
   refine RunA.nil ⟨?ex,_,_,Z,?_⟩
   case ex=>exact trivial
   refine XQ.less (st':=⟨[],m18_h19 a1 x53 x23 x26 a0 s1 x48,[(3,some ⟨41,4,(Enc.encL ((a0++([a1])):List Bnd)).length,[]⟩),(8,some ⟨39,2,(Enc.encL x26).length,[]⟩),(16,some ⟨59,2,(Enc.encL ([x48]:List LV)).length,[]⟩)],20,81,[]⟩) (stle tZ (hA Z) (kA Z) Z (Nat.le_trans hv4 (lb Z)) Z Z Z (bB Z Z (bB Z Z (bB Z Z (bF Z (bA Z))))) Z Z)<|XQ.inBlock ?_
   have e:=sI h4;subst e
   exact XQ.of hQn4 (stle tZ (hA Z) (kA Z) Z (Nat.le_trans hv4 (lb Z)) Z Z Z (bB Z Z (bB Z Z (bB Z Z (bF Z (bA Z))))) Z Z)
  refine XL.put Z Z (lb Z) (OpOK.yield (jump:=none) Z Z Z Z Z (ExecOK.from ha50 (fun E hv=>(stle (tA Z) (hA Z) (kA Z) Z (Nat.le_trans hv (lb Z)) Z Z Z (bB Z Z (bB Z Z (bB Z Z (bF Z (bA Z))))) Z Z))) Z (ExecOK.from hb51 (fun E hv=>(stle (tA Z) (hA Z) (kA Z) Z (Nat.le_trans hv (lb Z)) Z Z Z (bB Z Z (bB Z Z (bB Z Z (bF Z (bA Z))))) Z Z))) Z Z) ?_
  refine rR Z Z Z (RO.not Z)<|XL.nil<|XQ.seq ?_
  refine XC.cond Z (fun h=>nomatch h) (fun _=>?_)
  refine XC.skip<|XQ.inBlock<|XQ.seq<|XC.region<|rR Z Z Z (RO.binInt Z Z Z)<|rM Z Z Z<|XL.nil ?_
  have e:=sI h3;subst e
  refine XQ.nextM ((w64 (s3.1+1)),y49) (stle (tA Z) (hA Z) (kA Z) Z (Nat.le_trans hv2 (lb Z)) Z Z Z (bB Z Z (bB Z Z (bB Z Z (bF Z (bA Z))))) Z Z) ho3
  replace h3:=condF c47 h3
  refine XC.exit<|XQ.thenE<|XQ.thenE ?_
  have e:=sI h3;subst e
  have e_:_=_:=ho3
  subst e_
  exact XQ.joinX s3.2 (stle tZ (hA Z) (kA Z) Z (Nat.le_trans hv2 (lb Z)) Z Z Z (bB Z Z (bB Z Z (bB Z Z (bF Z (bA Z))))) Z Z) h2
  intro o45 h2
  refine XQ.blockX ?_
  have e:=sI h2;subst e
  exact hQ2 _ _ _ (.inl Z) Z (stle tZ (hA Z) (kA Z) Z (Nat.le_trans hv2 (lb Z)) Z Z Z (bB Z Z (bB Z Z (bB Z Z (bF Z (bA Z))))) Z Z)
 refine XC.exec (rangeFunc_out (e:=.normal) rfl hc31 rfl rfl (by intro h;cases h) rfl) rfl ?_
 refine XQ.inBlock<|XQ.inBlock<|XQ.seq<|XC.region<|rR Z Z Z (RO.binInt Z Z Z)<|rM Z Z Z<|XL.nil ?_
 have e:=sI h1;subst e
 refine XQ.nextM ((w64 (s1.1+1)),y30) (stle (tA Z) (hA Z) (kA Z) Z (Nat.zero_le _) Z Z Z (bB Z Z (bB Z Z (bB Z Z (bF Z bZ)))) Z Z) ho1
 replace h1:=condF c22 h1
 refine XC.exit<|XQ.thenE<|XQ.thenE ?_
 have e:=sI h1;subst e
 have e_:_=_:=ho1
 subst e_
 exact XQ.joinX s1.2 (stle (tA Z) (hA Z) (kA Z) Z (Nat.zero_le _) Z Z Z (bB Z Z (bB Z Z (bB Z Z (bF Z bZ)))) Z Z) h0
 intro o20 h0
 refine XQ.blockX<|XQ.seq<|XC.seq<|XC.seq<|XC.region<|rR Z Z Z (RO.fieldOwn fo_41_0 Z)<|rR Z Z Z (RO.loadOwnAgg ag_39 Z Z Z Z) ?_
 refine bindK h0 (fun y54 h1 h0=>?_)
 have hc55:CallM Try.prog 40 [.agg (cE a1.lo)] ⟨m18_h20 a1 o20,[(3,some ⟨41,4,(Enc.encL ((a0++([a1])):List Bnd)).length,[]⟩)],5⟩ (resOf [.one (.fn 62 [(5,0)])]) ⟨m18_h21 a1 o20,[(3,some ⟨41,4,(Enc.encL ((a0++([a1])):List Bnd)).length,[]⟩)],6⟩:=by
  refine CallM.of_bodyD ⟨[(2,.v (.one (.fn 62 [(5,0)])))],m18_h21 a1 o20,[(3,some ⟨41,4,(Enc.encL ((a0++([a1])):List Bnd)).length,[]⟩)],6,4,[]⟩ Z Z en_40 (lb Z) Z (RAs.tmp Z .nil) (fun w0 M V0 Q hv1 hQ1=>?_)
  simp only [entry]
  refine XC.seq<|XC.region<|XL.put Z Z (lb Z) (OpOK.box Z)<|rA Z Z Z<|XL.nil<|XQ.seq<|XC.seq<|XC.region<|rR Z Z Z (RO.makeFunc1 Z)<|rA Z Z Z<|XL.nil<|XQ.seq<|XC.ret ?_
  have e:=sI h1;subst e
  exact hQ1 _ _ _ (.inr Z) Z (stle (tA Z) (hA Z) (kA Z) Z (Nat.le_trans hv1 (lb Z)) Z Z Z (bB Z Z (bB Z Z (bB Z Z (bF Z (bA Z))))) Z Z)
 refine XL.put Z Z (lb Z) (OpOK.callW Z Z Z hc55 Z (hA Z) (kA Z))<|XL.nil<|XQ.seq<|XC.block<|XC.less (st':=⟨[(3,.v (.one (.ptr 0 0))),(4,.v (.one (.ptr 1 0))),(5,.v (.one (.ptr 2 0))),(7,.v (.one (.ptr 4 0))),(69,.v (.one (.fn 62 [(5,0)])))],m18_h21 a1 o20,[(3,some ⟨41,4,(Enc.encL ((a0++([a1])):List Bnd)).length,[]⟩)],6,81,[]⟩) (stle (tA Z) (hA Z) (kA Z) Z (Nat.zero_le _) Z Z Z (bB Z Z (bB Z Z (bB Z Z (bF Z (bA Z))))) Z Z) ?_
 refine bindK h0 (fun y59 h1 h0=>?_)
 have hc58:CallM Try.prog 62 [.one (.yld 7),.one (.ptr 5 0)] ⟨[(7,.loop .ready none [(3,.v (.one (.ptr 0 0))),(4,.v (.one (.ptr 1 0))),(5,.v (.one (.ptr 2 0))),(7,.v (.one (.ptr 4 0))),(69,.v (.one (.fn 62 [(5,0)])))] 81 #[70] m18_c2 m18_c3 6),(6,.obj (.deferred (some []))),(0,.cells 41 (cE a1)),(1,.cells 4 [dB false]),(2,.cells 25 [dI 0]),(4,.cells 70 (flatE o20)),(5,.cells 39 (cE a1.lo))],[(3,some ⟨41,4,(Enc.encL ((a0++([a1])):List Bnd)).length,[]⟩)],8⟩ (resOf []) ⟨(((Sum.elim (fun (y56:Unit)=>(⟨[],m18_h23 a1 o20,[(3,some ⟨41,4,(Enc.encL ((a0++([a1])):List Bnd)).length,[]⟩)],8,36,[]⟩:St)) (fun (y57:Unit)=>(⟨[],m18_h25 a1 o20,[(3,some ⟨41,4,(Enc.encL ((a0++([a1])):List Bnd)).length,[]⟩)],12,36,[]⟩:St)))) y59).hp,(((Sum.elim (fun (y56:Unit)=>(⟨[],m18_h23 a1 o20,[(3,some ⟨41,4,(Enc.encL ((a0++([a1])):List Bnd)).length,[]⟩)],8,36,[]⟩:St)) (fun (y57:Unit)=>(⟨[],m18_h25 a1 o20,[(3,some ⟨41,4,(Enc.encL ((a0++([a1])):List Bnd)).length,[]⟩)],12,36,[]⟩:St)))) y59).tk,(((Sum.elim (fun (y56:Unit)=>(⟨[],m18_h23 a1 o20,[(3,some ⟨41,4,(Enc.encL ((a0++([a1])):List Bnd)).length,[]⟩)],8,36,[]⟩:St)) (fun (y57:Unit)=>(⟨[],m18_h25 a1 o20,[(3,some ⟨41,4,(Enc.encL ((a0++([a1])):List Bnd)).length,[]⟩)],12,36,[]⟩:St)))) y59).nx⟩:=by
  refine CallM.of_bodyS y59 ((Sum.elim (fun (y56:Unit)=>(⟨[],m18_h23 a1 o20,[(3,some ⟨41,4,(Enc.encL ((a0++([a1])):List Bnd)).length,[]⟩)],8,36,[]⟩:St)) (fun (y57:Unit)=>(⟨[],m18_h25 a1 o20,[(3,some ⟨41,4,(Enc.encL ((a0++([a1])):List Bnd)).length,[]⟩)],12,36,[]⟩:St)))) rfl rfl en_62 (lb rfl) (fun z_=>by cases z_ <;> rfl) (fun z_=>.nil) (fun w0 M V0 Q hv1 hQ1=>?_)
  simp only [entry]
  refine XC.seq<|XC.seq ?_
  refine XC.joinR2 (fun (v60:Unit)=>⟨[(0,.v (.one (.yld 7))),(1,.v (.one (.ptr 5 0))),(21,.v (.one (dB false)))],m18_h23 a1 o20,[(3,some ⟨41,4,(Enc.encL ((a0++([a1])):List Bnd)).length,[]⟩)],8,36,[]⟩) (fun (v61:Unit)=>⟨[(0,.v (.one (.yld 7))),(1,.v (.one (.ptr 5 0))),(21,.v (.one (dB true)))],m18_h25 a1 o20,[(3,some ⟨41,4,(Enc.encL ((a0++([a1])):List Bnd)).length,[]⟩)],12,36,[]⟩) (fun (v60:Unit)=>(Option.bind (loopN (m18_l5 a1 o20) FUEL 0) (Sum.elim (fun (o62:Unit)=>some (.inl ())) (fun o=>some o)))=some y59) (fun (v61:Unit)=>(some (.inr ()))=some y59) ?_ ?_ ?_
  refine bindK h1 (fun w2_ h2 h1=>?_)
  refine XC.region<|rR Z Z Z (RO.fieldOwn fo_39_0 Z)<|rR Z Z Z (RO.loadOwn ag_3 Z Z Z)<|rR Z Z Z (RO.binInt Z Z Z)<|rM Z Z Z ?_
  refine XL.case (d:=8) (c:=(decide (0 < a1.lo.c))) Z (fun c62=>?_) (fun c62=>?_)
  replace h2:=condT c62 h2
  refine XL.no Z Z<|XL.no Z Z<|XL.no Z Z<|XL.no Z Z<|rR Z Z Z (RO.pickT Z Z)<|rM Z Z Z<|rM Z Z Z<|rR Z Z Z (RO.fieldOwn fo_39_0 Z)<|rR Z Z Z (RO.loadOwn ag_3 Z Z Z)<|rR Z Z Z (RO.build1 bd_39 Z Z Z) ?_
  refine bindK h2 (fun y65 h3 h2=>?_)
  have ha66:ExecOK Try.prog (some 7) m18_c2 ⟨[(3,.v (.one (.ptr 0 0))),(4,.v (.one (.ptr 1 0))),(5,.v (.one (.ptr 2 0))),(7,.v (.one (.ptr 4 0))),(69,.v (.one (.fn 62 [(5,0)]))),(70,.v (.agg [dI a1.lo.c,dN]))],m18_h23 a1 o20,[(3,some ⟨41,4,(Enc.encL ((a0++([a1])):List Bnd)).length,[]⟩)],8,81,[]⟩ .normal ⟨[(3,.v (.one (.ptr 0 0))),(4,.v (.one (.ptr 1 0))),(5,.v (.one (.ptr 2 0))),(7,.v (.one (.ptr 4 0))),(14,.v (.one (.ptr 8 0)))],m18_h28 a1 o20,[(3,some ⟨41,4,(Enc.encL ((a0++([a1])):List Bnd)).length,[]⟩)],9,81,[]⟩:=by
   refine ExecOK.walk (fun w0 M V0 ro n Q hv3 hro3 hQn3=>?_)
   refine XC.region<|XL.put Z Z (lb Z) (OpOK.alloc z_39 Z)<|XL.eff Z Z (OpOK.store ag_39 Z Z Z Z (lb Z) Z)<|XL.nil ?_
   exact XQ.of hQn3 (stle (tA Z) (hA Z) (kA Z) Z (Nat.le_trans hv3 (lb Z)) Z Z Z (bB Z Z (bB Z Z (bB Z Z (bF Z (bA Z))))) Z Z)
  have hb67:ExecOK Try.prog (some 7) m18_c3 ⟨[(3,.v (.one (.ptr 0 0))),(4,.v (.one (.ptr 1 0))),(5,.v (.one (.ptr 2 0))),(7,.v (.one (.ptr 4 0))),(14,.v (.one (.ptr 8 0)))],m18_h27 a1 o20,[(3,some ⟨41,4,(Enc.encL ((a0++([a1])):List Bnd)).length,[]⟩)],9,81,[]⟩ ((Sum.elim (fun (_:Unit)=>(.normal:Exit)) (fun (_:Unit)=>(.ret:Exit))) y65) ((Sum.elim (fun (y63:Unit)=>(⟨[],m18_h29 a1 o20,[(3,some ⟨41,4,(Enc.encL ((a0++([a1])):List Bnd)).length,[]⟩)],12,81,[]⟩:St)) (fun (y64:Unit)=>(⟨[],m18_h29 a1 o20,[(3,some ⟨41,4,(Enc.encL ((a0++([a1])):List Bnd)).length,[]⟩)],12,81,[]⟩:St))) y65):=by
   refine ExecOK.walk (fun w0 M V0 ro n Q hv3 hro3 hQn3=>?_)
   refine XC.block<|XC.seq<|XC.region ?_
   refine guardK h3 (fun g68 h3=>?_)
   refine rR Z Z Z (RO.loadArr ag_70 Z Z g68)<|XL.put Z Z (lb Z) (OpOK.allocA (l:=(List.replicate 81 (0:Int))) z_70 Z Z) ?_
   refine guardK h3 (fun g69 h3=>?_)
   refine guardK h3 (fun g70 h3=>?_)
   refine XL.eff Z Z (OpOK.storeArr ag_70 Z Z Z g69 g70 Z)<|XL.nil<|XQ.seq<|XC.seq<|XC.seq<|XC.region<|rR Z Z Z (RO.fieldOwn fo_41_1 Z)<|rR Z Z Z (RO.loadOwnAgg ag_39 Z Z Z Z) ?_
   refine bindK h3 (fun y71 h4 h3=>?_)
   have hc72:CallM Try.prog 40 [.agg (cE a1.hi)] ⟨m18_h30 a1 o20,[(3,some ⟨41,4,(Enc.encL ((a0++([a1])):List Bnd)).length,[]⟩)],10⟩ (resOf [.one (.fn 62 [(10,0)])]) ⟨m18_h31 a1 o20,[(3,some ⟨41,4,(Enc.encL ((a0++([a1])):List Bnd)).length,[]⟩)],11⟩:=by
    refine CallM.of_bodyD ⟨[(2,.v (.one (.fn 62 [(10,0)])))],m18_h31 a1 o20,[(3,some ⟨41,4,(Enc.encL ((a0++([a1])):List Bnd)).length,[]⟩)],11,4,[]⟩ Z Z en_40 (lb Z) Z (RAs.tmp Z .nil) (fun w0 M V0 Q hv4 hQ4=>?_)
    simp only [entry]
    refine XC.seq<|XC.region<|XL.put Z Z (lb Z) (OpOK.box Z)<|rA Z Z Z<|XL.nil<|XQ.seq<|XC.seq<|XC.region<|rR Z Z Z (RO.makeFunc1 Z)<|rA Z Z Z<|XL.nil<|XQ.seq<|XC.ret ?_
    have e:=sI h4;subst e
    exact hQ4 _ _ _ (.inr Z) Z (stle (tA Z) (hA Z) (kA Z) Z (Nat.le_trans hv4 (lb Z)) Z Z Z (bB Z Z (bB Z Z (bB Z Z (bF Z (bB Z Z (bB Z Z (bB Z Z (bB Z Z (bF Z (bA Z)))))))))) Z Z)
   refine XL.put Z Z (lb Z) (OpOK.callW Z Z Z hc72 Z (hA Z) (kA Z))<|XL.nil<|XQ.seq<|XC.block<|XC.less (st':=⟨[(4,.v (.one (.ptr 1 0))),(5,.v (.one (.ptr 2 0))),(14,.v (.one (.ptr 8 0))),(15,.v (.one (.ptr 9 0))),(74,.v (.one (.fn 62 [(10,0)])))],m18_h31 a1 o20,[(3,some ⟨41,4,(Enc.encL ((a0++([a1])):List Bnd)).length,[]⟩)],11,81,[]⟩) (stle (tA Z) (hA Z) (kA Z) Z (Nat.le_trans hv3 (lb Z)) Z Z Z (bB Z Z (bB Z Z (bB Z Z (bF Z (bB Z Z (bB Z Z (bB Z Z (bB Z Z (bF Z (bA Z)))))))))) Z Z) ?_
   refine bindK h3 (fun y73 h4 h3=>?_)
   have hc74:CallM Try.prog 62 [.one (.yld 11),.one (.ptr 10 0)] ⟨[(11,.loop .ready none [(4,.v (.one (.ptr 1 0))),(5,.v (.one (.ptr 2 0))),(14,.v (.one (.ptr 8 0))),(15,.v (.one (.ptr 9 0))),(74,.v (.one (.fn 62 [(10,0)])))] 81 #[75] m18_c4 m18_c5 6),(0,.cells 41 (cE a1)),(1,.cells 4 [dB false]),(2,.cells 25 [dI 0]),(4,.cells 70 (flatE o20)),(5,.cells 39 (cE a1.lo)),(6,.obj (.deferred (some []))),(7,.loop .busy none [(3,.v (.one (.ptr 0 0))),(4,.v (.one (.ptr 1 0))),(5,.v (.one (.ptr 2 0))),(7,.v (.one (.ptr 4 0))),(69,.v (.one (.fn 62 [(5,0)])))] 81 #[70] m18_c2 m18_c3 6),(8,.cells 39 [dI a1.lo.c,dN]),(9,.cells 70 (flatE o20)),(10,.cells 39 (cE a1.hi))],[(3,some ⟨41,4,(Enc.encL ((a0++([a1])):List Bnd)).length,[]⟩)],12⟩ (resOf []) ⟨m18_h33 a1 o20 y73,[(3,some ⟨41,4,(Enc.encL ((a0++([a1])):List Bnd)).length,[]⟩)],12⟩:=by
    refine CallM.of_bodyD ⟨[],m18_h33 a1 o20 y73,[(3,some ⟨41,4,(Enc.encL ((a0++([a1])):List Bnd)).length,[]⟩)],12,36,[]⟩ Z Z en_62 (lb Z) Z .nil (fun w0 M V0 Q hv4 hQ4=>?_)
    simp only [entry]
    refine XC.seq<|XC.seq ?_
    refine XC.joinR (fun (v75:(List Int))=>⟨[(0,.v (.one (.yld 11))),(1,.v (.one (.ptr 10 0))),(21,.v (.one (dB false)))],[(0,.cells 41 (cE a1)),(1,.cells 4 [dB false]),(2,.cells 25 [dI 0]),(4,.cells 70 (flatE o20)),(5,.cells 39 (cE a1.lo)),(6,.obj (.deferred (some []))),(7,m18_h26),(8,.cells 39 [dI a1.lo.c,dN]),(9,.cells 70 (flatE v75)),(10,.cells 39 (cE a1.hi)),(11,m18_h32)],[(3,some ⟨41,4,(Enc.encL ((a0++([a1])):List Bnd)).length,[]⟩)],12,36,[]⟩) (fun (v75:(List Int))=>(Option.bind (loopN (m18_l6 a1) FUEL (0,v75)) (fun (o76:(List Int))=>some o76))=some y73) ?_ ?_
    refine bindK h4 (fun w5_ h5 h4=>?_)
    refine XC.region<|rR Z Z Z (RO.fieldOwn fo_39_0 Z)<|rR Z Z Z (RO.loadOwn ag_3 Z Z Z)<|rR Z Z Z (RO.binInt Z Z Z)<|rM Z Z Z ?_
    refine XL.case (d:=8) (c:=(decide (0 < a1.hi.c))) Z (fun c76=>?_) (fun c76=>?_)
    replace h5:=condT c76 h5
    refine XL.no Z Z<|XL.no Z Z<|XL.no Z Z<|XL.no Z Z<|rR Z Z Z (RO.pickT Z Z)<|rM Z Z Z<|rM Z Z Z<|rR Z Z Z (RO.fieldOwn fo_39_0 Z)<|rR Z Z Z (RO.loadOwn ag_3 Z Z Z)<|rR Z Z Z (RO.build1 bd_39 Z Z Z) ?_
    refine bindK h5 (fun y77 h6 h5=>?_)
    have ha78:ExecOK Try.prog (some 11) m18_c4 ⟨[(4,.v (.one (.ptr 1 0))),(5,.v (.one (.ptr 2 0))),(14,.v (.one (.ptr 8 0))),(15,.v (.one (.ptr 9 0))),(74,.v (.one (.fn 62 [(10,0)]))),(75,.v (.agg [dI a1.hi.c,dN]))],m18_h34 a1 o20,[(3,some ⟨41,4,(Enc.encL ((a0++([a1])):List Bnd)).length,[]⟩)],12,81,[]⟩ .normal ⟨[(14,.v (.one (.ptr 8 0))),(15,.v (.one (.ptr 9 0))),(16,.v (.one (.ptr 12 0)))],m18_h37 a1 o20,[(3,some ⟨41,4,(Enc.encL ((a0++([a1])):List Bnd)).length,[]⟩)],13,81,[]⟩:=by
     refine ExecOK.walk (fun w0 M V0 ro n Q hv6 hro6 hQn6=>?_)
     refine XC.region<|XL.put Z Z (lb Z) (OpOK.alloc z_39 Z)<|XL.eff Z Z (OpOK.store ag_39 Z Z Z Z (lb Z) Z)<|XL.nil ?_
     exact XQ.of hQn6 (stle (tA Z) (hA Z) (kA Z) Z (Nat.le_trans hv6 (lb Z)) Z Z Z (bB Z Z (bB Z Z (bB Z Z (bF Z (bB Z Z (bB Z Z (bB Z Z (bB Z Z (bF Z (bA Z)))))))))) Z Z)
    have hb79:ExecOK Try.prog (some 11) m18_c5 ⟨[(14,.v (.one (.ptr 8 0))),(15,.v (.one (.ptr 9 0))),(16,.v (.one (.ptr 12 0)))],m18_h36 a1 o20,[(3,some ⟨41,4,(Enc.encL ((a0++([a1])):List Bnd)).length,[]⟩)],13,81,[]⟩ .normal ⟨[],m18_h38 a1 o20 y77,[(3,some ⟨41,4,(Enc.encL ((a0++([a1])):List Bnd)).length,[]⟩)],15,81,[]⟩:=by
     refine ExecOK.walk (fun w0 M V0 ro n Q hv6 hro6 hQn6=>?_)
     refine XC.block<|XC.region<|rR Z Z Z (RO.loadOwnAgg ag_39 Z Z Z Z)<|rR Z Z Z (RO.loadOwnAgg ag_39 Z Z Z Z) ?_
     refine bindK h6 (fun x80 hx80 h6=>?_)
     refine XL.put Z Z (lb Z) (OpOK.callG (hp1':=[(9,.cells 70 (flatE x80))]) (tk1':=[]) (hpF:=m18_h39 a1 o20) (tkF:=[(3,some ⟨41,4,(Enc.encL ((a0++([a1])):List Bnd)).length,[]⟩)]) (res2:=resOf []) (nx2:=15) [9] Z Z (m41f27_ok a1.hi.c a1.lo.c 1 o20 x80 hx80) Z Z (qF Z qZ) Z Z (gF Z gZ) jZ (hA Z) (kA Z) Z Z Z Z Z (bF Z bZ) Z Z Z Z)<|XL.nil<|XQ.inBlock ?_
     have e:=sI h6;subst e
     exact XQ.of hQn6 (stle tZ (hA Z) (kA Z) Z (Nat.le_trans hv6 (lb Z)) Z Z Z (bB Z Z (bB Z Z (bB Z Z (bF Z (bB Z Z (bB Z Z (bB Z Z (bB Z Z (bF Z (bA Z)))))))))) Z Z)
    refine XL.put Z Z (lb Z) (OpOK.yield (jump:=none) Z Z Z Z Z (ExecOK.from ha78 (fun E hv=>(stle (tA Z) (hA Z) (kA Z) Z (Nat.le_trans hv (lb Z)) Z Z Z (bB Z Z (bB Z Z (bB Z Z (bF Z (bB Z Z (bB Z Z (bB Z Z (bB Z Z (bF Z (bA Z)))))))))) Z Z))) Z (ExecOK.from hb79 (fun E hv=>(stle (tA Z) (hA Z) (kA Z) Z (Nat.le_trans hv (lb Z)) Z Z Z (bB Z Z (bB Z Z (bB Z Z (bF Z (bB Z Z (bB Z Z (bB Z Z (bB Z Z (bF Z (bA Z)))))))))) Z Z))) Z Z) ?_
    refine rR Z Z Z (RO.not Z)<|rR Z Z Z (RO.pickT Z Z)<|XL.nil ?_
    have e:=sI h5;subst e
    exact XQ.joinR y77 (stle (tA Z) (hA Z) (kA Z) Z (Nat.le_trans hv4 (lb Z)) Z Z Z (bB Z Z (bB Z Z (bB Z Z (bF Z (bB Z Z (bB Z Z (bB Z Z (bB Z Z (bF Z (bA Z)))))))))) Z Z) h4
    replace h5:=condF c76 h5
    refine rR Z Z Z (RO.fieldOwn fo_39_1 Z)<|rR Z Z Z (RO.loadOwn ag_37 Z Z Z)<|rR Z Z Z (RO.lenE (α:=LV) sl_37 Z (.d _))<|rR Z Z Z (RO.binInt Z Z Z)<|rR Z Z Z (RO.pickF Z Z)<|rM Z Z Z ?_
    refine XL.case (d:=14) (c:=((a1.hi.vs.length:Int)==0)) Z (fun c81=>?_) (fun c81=>?_)
    replace h5:=condT c81 h5
    refine rM Z Z Z<|rR Z Z Z (RO.fieldOwn fo_39_0 Z)<|rR Z Z Z (RO.loadOwn ag_3 Z Z Z)<|rR Z Z Z (RO.build1 bd_39 Z Z Z) ?_
    refine bindK h5 (fun y82 h6 h5=>?_)
    have ha83:ExecOK Try.prog (some 11) m18_c4 ⟨[(4,.v (.one (.ptr 1 0))),(5,.v (.one (.ptr 2 0))),(14,.v (.one (.ptr 8 0))),(15,.v (.one (.ptr 9 0))),(74,.v (.one (.fn 62 [(10,0)]))),(75,.v (.agg [dI a1.hi.c,dN]))],m18_h34 a1 o20,[(3,some ⟨41,4,(Enc.encL ((a0++([a1])):List Bnd)).length,[]⟩)],12,81,[]⟩ .normal ⟨[(14,.v (.one (.ptr 8 0))),(15,.v (.one (.ptr 9 0))),(16,.v (.one (.ptr 12 0)))],m18_h37 a1 o20,[(3,some ⟨41,4,(Enc.encL ((a0++([a1])):List Bnd)).length,[]⟩)],13,81,[]⟩:=by
     refine ExecOK.walk (fun w0 M V0 ro n Q hv6 hro6 hQn6=>?_)
     refine XC.region<|XL.put Z Z (lb Z) (OpOK.alloc z_39 Z)<|XL.eff Z Z (OpOK.store ag_39 Z Z Z Z (lb Z) Z)<|XL.nil ?_
     exact XQ.of hQn6 (stle (tA Z) (hA Z) (kA Z) Z (Nat.le_trans hv6 (lb Z)) Z Z Z (bB Z Z (bB Z Z (bB Z Z (bF Z (bB Z Z (bB Z Z (bB Z Z (bB Z Z (bF Z (bA Z)))))))))) Z Z)
    have hb84:ExecOK Try.prog (some 11) m18_c5 ⟨[(14,.v (.one (.ptr 8 0))),(15,.v (.one (.ptr 9 0))),(16,.v (.one (.ptr 12 0)))],m18_h36 a1 o20,[(3,some ⟨41,4,(Enc.encL ((a0++([a1])):List Bnd)).length,[]⟩)],13,81,[]⟩ .normal ⟨[],m18_h38 a1 o20 y82,[(3,some ⟨41,4,(Enc.encL ((a0++([a1])):List Bnd)).length,[]⟩)],15,81,[]⟩:=by
     refine ExecOK.walk (fun w0 M V0 ro n Q hv6 hro6 hQn6=>?_)
     refine XC.block<|XC.region<|rR Z Z Z (RO.loadOwnAgg ag_39 Z Z Z Z)<|rR Z Z Z (RO.loadOwnAgg ag_39 Z Z Z Z) ?_
     refine bindK h6 (fun x85 hx85 h6=>?_)
     refine XL.put Z Z (lb Z) (OpOK.callG (hp1':=[(9,.cells 70 (flatE x85))]) (tk1':=[]) (hpF:=m18_h39 a1 o20) (tkF:=[(3,some ⟨41,4,(Enc.encL ((a0++([a1])):List Bnd)).length,[]⟩)]) (res2:=resOf []) (nx2:=15) [9] Z Z (m41f27_ok a1.hi.c a1.lo.c 1 o20 x85 hx85) Z Z (qF Z qZ) Z Z (gF Z gZ) jZ (hA Z) (kA Z) Z Z Z Z Z (bF Z bZ) Z Z Z Z)<|XL.nil<|XQ.inBlock ?_
     have e:=sI h6;subst e
     exact XQ.of hQn6 (stle tZ (hA Z) (kA Z) Z (Nat.le_trans hv6 (lb Z)) Z Z Z (bB Z Z (bB Z Z (bB Z Z (bF Z (bB Z Z (bB Z Z (bB Z Z (bB Z Z (bF Z (bA Z)))))))))) Z Z)
    refine XL.put Z Z (lb Z) (OpOK.yield (jump:=none) Z Z Z Z Z (ExecOK.from ha83 (fun E hv=>(stle (tA Z) (hA Z) (kA Z) Z (Nat.le_trans hv (lb Z)) Z Z Z (bB Z Z (bB Z Z (bB Z Z (bF Z (bB Z Z (bB Z Z (bB Z Z (bB Z Z (bF Z (bA Z)))))))))) Z Z))) Z (ExecOK.from hb84 (fun E hv=>(stle (tA Z) (hA Z) (kA Z) Z (Nat.le_trans hv (lb Z)) Z Z Z (bB Z Z (bB Z Z (bB Z Z (bF Z (bB Z Z (bB Z Z (bB Z Z (bB Z Z (bF Z (bA Z)))))))))) Z Z))) Z Z) ?_
    refine rR Z Z Z (RO.not Z)<|rR Z Z Z (RO.pickT Z Z)<|XL.nil ?_
    have e:=sI h5;subst e
    exact XQ.joinR y82 (stle (tA Z) (hA Z) (kA Z) Z (Nat.le_trans hv4 (lb Z)) Z Z Z (bB Z Z (bB Z Z (bB Z Z (bF Z (bB Z Z (bB Z Z (bB Z Z (bB Z Z (bF Z (bA Z)))))))))) Z Z) h4
    replace h5:=condF c81 h5
    refine XL.no Z Z<|XL.no Z Z<|XL.no Z Z<|XL.no Z Z<|XL.no Z Z<|XL.no Z Z<|rR Z Z Z (RO.pickF Z Z)<|XL.nil ?_
    have e:=sI h5;subst e
    exact XQ.joinR o20 (stle (tA Z) (hA Z) (kA Z) Z (Nat.le_trans hv4 (lb Z)) Z Z Z (bB Z Z (bB Z Z (bB Z Z (bF Z (bB Z Z (bB Z Z (bB Z Z (bB Z Z (bF Z (bA Z)))))))))) Z Z) h4
    intro v75 h4
    refine XQ.seq ?_
    refine XC.cond Z (fun h=>nomatch h) (fun _=>?_)
    refine XC.skip<|XQ.seq<|XC.seq<|XC.region<|rR Z Z Z (RO.fieldOwn fo_39_1 Z)<|rR Z Z Z (RO.loadOwn ag_37 Z Z Z)<|rR Z Z Z (RO.lenE (α:=LV) sl_37 Z (.d _))<|rM Z Z Z<|XL.nil<|XQ.seq<|XC.block ?_
    refine XC.joinX 0 (fun (o86:(List Int))=>⟨[],[(0,.cells 41 (cE a1)),(1,.cells 4 [dB false]),(2,.cells 25 [dI 0]),(4,.cells 70 (flatE o20)),(5,.cells 39 (cE a1.lo)),(6,.obj (.deferred (some []))),(7,m18_h26),(8,.cells 39 [dI a1.lo.c,dN]),(9,.cells 70 (flatE o86)),(10,.cells 39 (cE a1.hi)),(11,m18_h32)],[(3,some ⟨41,4,(Enc.encL ((a0++([a1])):List Bnd)).length,[]⟩)],12,36,[]⟩) (fun (o86:(List Int))=>(some o86)=some y73) ?_ ?_
    refine bindK h4 (fun o87 hl5 h4=>?_)
    refine XC.loopM (m18_l6 a1) (fun s5=>⟨[(0,.v (.one (.yld 11))),(23,.v (.one (dS a1.hi.vs))),(24,.v (.one (dI (a1.hi.vs.length:Int)))),(25,.v (.one (dI s5.1)))],[(0,.cells 41 (cE a1)),(1,.cells 4 [dB false]),(2,.cells 25 [dI 0]),(4,.cells 70 (flatE o20)),(5,.cells 39 (cE a1.lo)),(6,.obj (.deferred (some []))),(7,m18_h26),(8,.cells 39 [dI a1.lo.c,dN]),(9,.cells 70 (flatE s5.2)),(10,.cells 39 (cE a1.hi)),(11,m18_h32)],[(3,some ⟨41,4,(Enc.encL ((a0++([a1])):List Bnd)).length,[]⟩)],12,36,[]⟩) (0,v75) o87 (stle (tA Z) (hA Z) (kA Z) Z (Nat.le_trans hv4 (lb Z)) Z Z Z (bB Z Z (bB Z Z (bB Z Z (bF Z (bB Z Z (bB Z Z (bB Z Z (bB Z Z (bF Z (bA Z)))))))))) Z Z) hl5 (fun s5 n5 oo5 h5 ho5=>?_)
    unfold m18_l6 at h5
    refine XC.seq<|XC.region<|rR Z Z Z (RO.binInt Z Z Z)<|XL.nil<|XQ.seq<|XC.seq ?_
    refine XC.cond (b:=(decide (s5.1 < (a1.hi.vs.length:Int)))) Z (fun c88=>?_) (fun c88=>?_)
    replace h5:=condT c88 h5
    refine XC.skip<|XQ.seq<|XC.seq<|XC.block<|XC.seq<|XC.region ?_
    refine bindK h5 (fun x89 hx89 h5=>?_)
    refine rR Z Z Z (RO.indexE (α:=LV) sl_37 Z (.d _) Z hx89)<|rR Z Z Z (RO.loadPelCE (x89:LV) ag_59 Z)<|XL.put Z Z (lb Z) (OpOK.alloc z_59 Z)<|XL.eff Z Z (OpOK.storeCE (x89:LV) ag_59 Z Z Z Z Z)<|XL.nil<|XQ.seq<|XC.seq<|XC.region<|rM Z Z Z<|rR Z Z Z (RO.loadCE (x89:LV) ag_59 Z Z)<|XL.put Z Z (lb Z) (OpOK.lit1E (α:=LV) (x89) sl_37 z_59 Z Z (lb Z) (lb Z) Z Z (.cons (.d _) (.cons (.d _) .nil)) Z)<|rR Z Z Z (RO.build1 bd_39 Z Z Z) ?_
    refine bindK h5 (fun y90 h6 h5=>?_)
    have ha91:ExecOK Try.prog (some 11) m18_c4 ⟨[(4,.v (.one (.ptr 1 0))),(5,.v (.one (.ptr 2 0))),(14,.v (.one (.ptr 8 0))),(15,.v (.one (.ptr 9 0))),(74,.v (.one (.fn 62 [(10,0)]))),(75,.v (.agg [dI 0,dA 13 ([x89]:List LV)]))],m18_h40 a1 o20 s5 x89,[(3,some ⟨41,4,(Enc.encL ((a0++([a1])):List Bnd)).length,[]⟩),(13,some ⟨59,2,(Enc.encL ([x89]:List LV)).length,[]⟩)],14,81,[]⟩ .normal ⟨[(14,.v (.one (.ptr 8 0))),(15,.v (.one (.ptr 9 0))),(16,.v (.one (.ptr 14 0)))],m18_h42 a1 o20 s5 x89,[(3,some ⟨41,4,(Enc.encL ((a0++([a1])):List Bnd)).length,[]⟩),(13,some ⟨59,2,(Enc.encL ([x89]:List LV)).length,[]⟩)],15,81,[]⟩:=by
     refine ExecOK.walk (fun w0 M V0 ro n Q hv6 hro6 hQn6=>?_)
     refine XC.region<|XL.put Z Z (lb Z) (OpOK.alloc z_39 Z)<|XL.eff Z Z (OpOK.store ag_39 Z Z Z Z (lb Z) Z)<|XL.nil ?_
     exact XQ.of hQn6 (stle (tA Z) (hA Z) (kA Z) Z (Nat.le_trans hv6 (lb Z)) Z Z Z (bB Z Z (bB Z Z (bB Z Z (bF Z (bB Z Z (bB Z Z (bB Z Z (bB Z Z (bF Z (bA Z)))))))))) Z Z)
    have hb92:ExecOK Try.prog (some 11) m18_c5 ⟨[(14,.v (.one (.ptr 8 0))),(15,.v (.one (.ptr 9 0))),(16,.v (.one (.ptr 14 0)))],m18_h41 a1 o20 s5 x89,[(3,some ⟨41,4,(Enc.encL ((a0++([a1])):List Bnd)).length,[]⟩),(13,some ⟨59,2,(Enc.encL ([x89]:List LV)).length,[]⟩)],15,81,[]⟩ .normal ⟨[],m18_h43 a1 o20 y90 x89,[(3,some ⟨41,4,(Enc.encL ((a0++([a1])):List Bnd)).length,[]⟩),(13,some ⟨59,2,(Enc.encL ([x89]:List LV)).length,[]⟩)],17,81,[]⟩:=by
     refine ExecOK.walk (fun w0 M V0 ro n Q hv6 hro6 hQn6=>?_)
     refine XC.block<|XC.region<|rR Z Z Z (RO.loadOwnAgg ag_39 Z Z Z Z)<|rR Z Z Z (RO.loadOwnAgg ag_39 Z Z Z Z) ?_
     refine bindK h6 (fun x93 hx93 h6=>?_)
     refine XL.put Z Z (lb Z) (OpOK.callG (hp1':=[(9,.cells 70 (flatE x93))]) (tk1':=[(13,some ⟨59,2,(Enc.encL ([x89]:List LV)).length,[]⟩)]) (hpF:=m18_h44 a1 o20 x89) (tkF:=[(3,some ⟨41,4,(Enc.encL ((a0++([a1])):List Bnd)).length,[]⟩)]) (res2:=resOf []) (nx2:=17) [9,13] Z Z (m41f28_ok 0 ([x89]) a1.lo.c 1 s5.2 x93 hx93) Z Z (qF Z qZ) Z Z (gF Z gZ) (jR Z jZ) (hA Z) (kA Z) Z Z Z Z Z (bF Z bZ) Z Z Z Z)<|XL.nil<|XQ.inBlock ?_
     have e:=sI h6;subst e
     exact XQ.of hQn6 (stle tZ (hA Z) (kA Z) Z (Nat.le_trans hv6 (lb Z)) Z Z Z (bB Z Z (bB Z Z (bB Z Z (bF Z (bB Z Z (bB Z Z (bB Z Z (bB Z Z (bF Z (bA Z)))))))))) Z Z)
    refine XL.put Z Z (lb Z) (OpOK.yield (jump:=none) Z Z Z Z Z (ExecOK.from ha91 (fun E hv=>(stle (tA Z) (hA Z) (kA Z) Z (Nat.le_trans hv (lb Z)) Z Z Z (bB Z Z (bB Z Z (bB Z Z (bF Z (bB Z Z (bB Z Z (bB Z Z (bB Z Z (bF Z (bA Z)))))))))) Z Z))) Z (ExecOK.from hb92 (fun E hv=>(stle (tA Z) (hA Z) (kA Z) Z (Nat.le_trans hv (lb Z)) Z Z Z (bB Z Z (bB Z Z (bB Z Z (bF Z (bB Z Z (bB Z Z (bB Z Z (bB Z Z (bF Z (bA Z)))))))))) Z Z))) Z Z) ?_
    refine rR Z Z Z (RO.not Z)<|XL.nil<|XQ.seq ?_
    refine XC.cond Z (fun h=>nomatch h) (fun _=>?_)
    refine XC.skip<|XQ.inBlock<|XQ.seq<|XC.region<|rR Z Z Z (RO.binInt Z Z Z)<|rM Z Z Z<|XL.nil ?_
    have e:=sI h5;subst e
    refine XQ.nextM ((w64 (s5.1+1)),y90) (stle (tA Z) (hA Z) (kA Z) Z (Nat.le_trans hv4 (lb Z)) Z Z Z (bB Z Z (bB Z Z (bB Z Z (bF Z (bB Z Z (bB Z Z (bB Z Z (bB Z Z (bF Z (bA Z)))))))))) Z Z) ho5
    replace h5:=condF c88 h5
    refine XC.exit<|XQ.thenE<|XQ.thenE ?_
    have e:=sI h5;subst e
    have e_:_=_:=ho5
    subst e_
    exact XQ.joinX s5.2 (stle tZ (hA Z) (kA Z) Z (Nat.le_trans hv4 (lb Z)) Z Z Z (bB Z Z (bB Z Z (bB Z Z (bF Z (bB Z Z (bB Z Z (bB Z Z (bB Z Z (bF Z (bA Z)))))))))) Z Z) h4
    intro o86 h4
    refine XQ.blockX ?_
    have e:=sI h4;subst e
    exact hQ4 _ _ _ (.inl Z) Z (stle tZ (hA Z) (kA Z) Z (Nat.le_trans hv4 (lb Z)) Z Z Z (bB Z Z (bB Z Z (bB Z Z (bF Z (bB Z Z (bB Z Z (bB Z Z (bB Z Z (bF Z (bA Z)))))))))) Z Z)
   refine XC.exec (rangeFunc_in (e:=.normal) (L0:=7) rfl rfl hc74 rfl (by intro h;cases h) rfl) hro3 ?_
   refine XQ.inBlock<|XQ.seq<|XC.seq<|XC.region ?_
   refine guardK h3 (fun g94 h3=>?_)
   refine rR Z Z Z (RO.loadArr ag_70 Z Z g94) ?_
   refine bindK h3 (fun x95 hx95 h3=>?_)
   refine XL.put Z Z (lb Z) (OpOK.callFun (m42_ok y73 x95 hx95) Z (.cons (.agg (lsub_flat _)) .nil))<|XL.nil<|XQ.seq ?_
   refine XC.cond (b:=x95) Z (fun c96=>?_) (fun c96=>?_)
   replace h3:=condT c96 h3
   refine XC.seq<|XC.region<|XL.eff Z Z (OpOK.store ag_4 Z Z Z Z (lb Z) Z)<|XL.eff Z Z (OpOK.store ag_25 Z Z Z Z (lb Z) Z)<|XL.nil<|XQ.seq<|XC.ret ?_
   have e:=sI h3;subst e
   exact XQ.of (e:=.ret) (st':=⟨[],m18_h29 a1 o20,[(3,some ⟨41,4,(Enc.encL ((a0++([a1])):List Bnd)).length,[]⟩)],12,81,[]⟩) hQn3 (stle tZ (hA Z) (kA Z) Z (Nat.le_trans hv3 (lb Z)) Z Z Z (bB Z Z (bB Z Z (bB Z Z (bF Z (bA Z))))) Z Z)
   replace h3:=condF c96 h3
   refine XC.skip<|XQ.inBlock ?_
   have e:=sI h3;subst e
   exact XQ.of (e:=.normal) (st':=⟨[],m18_h29 a1 o20,[(3,some ⟨41,4,(Enc.encL ((a0++([a1])):List Bnd)).length,[]⟩)],12,81,[]⟩) hQn3 (stle tZ (hA Z) (kA Z) Z (Nat.le_trans hv3 (lb Z)) Z Z Z (bB Z Z (bB Z Z (bB Z Z (bF Z (bA Z))))) Z Z)
  refine sumK (C:=fun q_=>ExecOK Try.prog (some 7) m18_c3 ⟨[(3,.v (.one (.ptr 0 0))),(4,.v (.one (.ptr 1 0))),(5,.v (.one (.ptr 2 0))),(7,.v (.one (.ptr 4 0))),(14,.v (.one (.ptr 8 0)))],m18_h27 a1 o20,[(3,some ⟨41,4,(Enc.encL ((a0++([a1])):List Bnd)).length,[]⟩)],9,81,[]⟩ ((Sum.elim (fun (_:Unit)=>(.normal:Exit)) (fun (_:Unit)=>(.ret:Exit))) q_) ((Sum.elim (fun (y63:Unit)=>(⟨[],m18_h29 a1 o20,[(3,some ⟨41,4,(Enc.encL ((a0++([a1])):List Bnd)).length,[]⟩)],12,81,[]⟩:St)) (fun (y64:Unit)=>(⟨[],m18_h29 a1 o20,[(3,some ⟨41,4,(Enc.encL ((a0++([a1])):List Bnd)).length,[]⟩)],12,81,[]⟩:St))) q_)) hb67 h2 (fun y63 hb67 h2=>?_) (fun y64 hb67 h2=>?_)
  replace hb67:ExecOK Try.prog (some 7) m18_c3 ⟨[(3,.v (.one (.ptr 0 0))),(4,.v (.one (.ptr 1 0))),(5,.v (.one (.ptr 2 0))),(7,.v (.one (.ptr 4 0))),(14,.v (.one (.ptr 8 0)))],m18_h27 a1 o20,[(3,some ⟨41,4,(Enc.encL ((a0++([a1])):List Bnd)).length,[]⟩)],9,81,[]⟩ .normal ⟨[],m18_h29 a1 o20,[(3,some ⟨41,4,(Enc.encL ((a0++([a1])):List Bnd)).length,[]⟩)],12,81,[]⟩:=hb67
  refine XL.put Z Z (lb Z) (OpOK.yield (jump:=none) Z Z Z Z Z (ExecOK.from ha66 (fun E hv=>(stle (tA Z) (hA Z) (kA Z) Z (Nat.le_trans hv (lb Z)) Z Z Z (bB Z Z (bB Z Z (bB Z Z (bF Z (bA Z))))) Z Z))) Z (ExecOK.from hb67 (fun E hv=>(stle (tA Z) (hA Z) (kA Z) Z (Nat.le_trans hv (lb Z)) Z Z Z (bB Z Z (bB Z Z (bB Z Z (bF Z (bA Z))))) Z Z))) Z Z) ?_
  refine rR Z Z Z (RO.not Z)<|rR Z Z Z (RO.pickT Z Z)<|XL.nil ?_
  have e:=sI h2;subst e
  exact XQ.joinRl () (stle (tA Z) (hA Z) (kA Z) Z (Nat.le_trans hv1 (lb Z)) Z Z Z (bB Z Z (bB Z Z (bB Z Z (bF Z (bA Z))))) Z Z) h1
  replace hb67:ExecOK Try.prog (some 7) m18_c3 ⟨[(3,.v (.one (.ptr 0 0))),(4,.v (.one (.ptr 1 0))),(5,.v (.one (.ptr 2 0))),(7,.v (.one (.ptr 4 0))),(14,.v (.one (.ptr 8 0)))],m18_h27 a1 o20,[(3,some ⟨41,4,(Enc.encL ((a0++([a1])):List Bnd)).length,[]⟩)],9,81,[]⟩ .ret ⟨[],m18_h29 a1 o20,[(3,some ⟨41,4,(Enc.encL ((a0++([a1])):List Bnd)).length,[]⟩)],12,81,[]⟩:=hb67
  refine XL.put Z Z (lb Z) (OpOK.yield (jump:=(some .ret)) Z Z Z Z Z (ExecOK.from ha66 (fun E hv=>(stle (tA Z) (hA Z) (kA Z) Z (Nat.le_trans hv (lb Z)) Z Z Z (bB Z Z (bB Z Z (bB Z Z (bF Z (bA Z))))) Z Z))) Z (ExecOK.from hb67 (fun E hv=>(stle (tA Z) (hA Z) (kA Z) Z (Nat.le_trans hv (lb Z)) Z Z Z (bB Z Z (bB Z Z (bB Z Z (bF Z (bA Z))))) Z Z))) Z Z) ?_
  refine rR Z Z Z (RO.not Z)<|rR Z Z Z (RO.pickT Z Z)<|XL.nil ?_
  have e:=sI h2;subst e
  exact XQ.joinRr () (stle (tA Z) (hA Z) (kA Z) Z (Nat.le_trans hv1 (lb Z)) Z Z Z (bB Z Z (bB Z Z (bB Z Z (bF Z (bA Z))))) Z Z) h1
  replace h2:=condF c62 h2
  refine rR Z Z Z (RO.fieldOwn fo_39_1 Z)<|rR Z Z Z (RO.loadOwn ag_37 Z Z Z)<|rR Z Z Z (RO.lenE (α:=LV) sl_37 Z (.d _))<|rR Z Z Z (RO.binInt Z Z Z)<|rR Z Z Z (RO.pickF Z Z)<|rM Z Z Z ?_
  refine XL.case (d:=14) (c:=((a1.lo.vs.length:Int)==0)) Z (fun c97=>?_) (fun c97=>?_)
  replace h2:=condT c97 h2
  refine rM Z Z Z<|rR Z Z Z (RO.fieldOwn fo_39_0 Z)<|rR Z Z Z (RO.loadOwn ag_3 Z Z Z)<|rR Z Z Z (RO.build1 bd_39 Z Z Z) ?_
  refine bindK h2 (fun y100 h3 h2=>?_)
  have ha101:ExecOK Try.prog (some 7) m18_c2 ⟨[(3,.v (.one (.ptr 0 0))),(4,.v (.one (.ptr 1 0))),(5,.v (.one (.ptr 2 0))),(7,.v (.one (.ptr 4 0))),(69,.v (.one (.fn 62 [(5,0)]))),(70,.v (.agg [dI a1.lo.c,dN]))],m18_h23 a1 o20,[(3,some ⟨41,4,(Enc.encL ((a0++([a1])):List Bnd)).length,[]⟩)],8,81,[]⟩ .normal ⟨[(3,.v (.one (.ptr 0 0))),(4,.v (.one (.ptr 1 0))),(5,.v (.one (.ptr 2 0))),(7,.v (.one (.ptr 4 0))),(14,.v (.one (.ptr 8 0)))],m18_h28 a1 o20,[(3,some ⟨41,4,(Enc.encL ((a0++([a1])):List Bnd)).length,[]⟩)],9,81,[]⟩:=by
   refine ExecOK.walk (fun w0 M V0 ro n Q hv3 hro3 hQn3=>?_)
   refine XC.region<|XL.put Z Z (lb Z) (OpOK.alloc z_39 Z)<|XL.eff Z Z (OpOK.store ag_39 Z Z Z Z (lb Z) Z)<|XL.nil ?_
   exact XQ.of hQn3 (stle (tA Z) (hA Z) (kA Z) Z (Nat.le_trans hv3 (lb Z)) Z Z Z (bB Z Z (bB Z Z (bB Z Z (bF Z (bA Z))))) Z Z)
  have hb102:ExecOK Try.prog (some 7) m18_c3 ⟨[(3,.v (.one (.ptr 0 0))),(4,.v (.one (.ptr 1 0))),(5,.v (.one (.ptr 2 0))),(7,.v (.one (.ptr 4 0))),(14,.v (.one (.ptr 8 0)))],m18_h27 a1 o20,[(3,some ⟨41,4,(Enc.encL ((a0++([a1])):List Bnd)).length,[]⟩)],9,81,[]⟩ ((Sum.elim (fun (_:Unit)=>(.normal:Exit)) (fun (_:Unit)=>(.ret:Exit))) y100) ((Sum.elim (fun (y98:Unit)=>(⟨[],m18_h29 a1 o20,[(3,some ⟨41,4,(Enc.encL ((a0++([a1])):List Bnd)).length,[]⟩)],12,81,[]⟩:St)) (fun (y99:Unit)=>(⟨[],m18_h29 a1 o20,[(3,some ⟨41,4,(Enc.encL ((a0++([a1])):List Bnd)).length,[]⟩)],12,81,[]⟩:St))) y100):=by
   refine ExecOK.walk (fun w0 M V0 ro n Q hv3 hro3 hQn3=>?_)
   refine XC.block<|XC.seq<|XC.region ?_
   refine guardK h3 (fun g103 h3=>?_)
   refine rR Z Z Z (RO.loadArr ag_70 Z Z g103)<|XL.put Z Z (lb Z) (OpOK.allocA (l:=(List.replicate 81 (0:Int))) z_70 Z Z) ?_
   refine guardK h3 (fun g104 h3=>?_)
   refine guardK h3 (fun g105 h3=>?_)
   refine XL.eff Z Z (OpOK.storeArr ag_70 Z Z Z g104 g105 Z)<|XL.nil<|XQ.seq<|XC.seq<|XC.seq<|XC.region<|rR Z Z Z (RO.fieldOwn fo_41_1 Z)<|rR Z Z Z (RO.loadOwnAgg ag_39 Z Z Z Z) ?_
   refine bindK h3 (fun y106 h4 h3=>?_)
   have hc107:CallM Try.prog 40 [.agg (cE a1.hi)] ⟨m18_h30 a1 o20,[(3,some ⟨41,4,(Enc.encL ((a0++([a1])):List Bnd)).length,[]⟩)],10⟩ (resOf [.one (.fn 62 [(10,0)])]) ⟨m18_h31 a1 o20,[(3,some ⟨41,4,(Enc.encL ((a0++([a1])):List Bnd)).length,[]⟩)],11⟩:=by
    refine CallM.of_bodyD ⟨[(2,.v (.one (.fn 62 [(10,0)])))],m18_h31 a1 o20,[(3,some ⟨41,4,(Enc.encL ((a0++([a1])):List Bnd)).length,[]⟩)],11,4,[]⟩ Z Z en_40 (lb Z) Z (RAs.tmp Z .nil) (fun w0 M V0 Q hv4 hQ4=>?_)
    simp only [entry]
    refine XC.seq<|XC.region<|XL.put Z Z (lb Z) (OpOK.box Z)<|rA Z Z Z<|XL.nil<|XQ.seq<|XC.seq<|XC.region<|rR Z Z Z (RO.makeFunc1 Z)<|rA Z Z Z<|XL.nil<|XQ.seq<|XC.ret ?_
    have e:=sI h4;subst e
    exact hQ4 _ _ _ (.inr Z) Z (stle (tA Z) (hA Z) (kA Z) Z (Nat.le_trans hv4 (lb Z)) Z Z Z (bB Z Z (bB Z Z (bB Z Z (bF Z (bB Z Z (bB Z Z (bB Z Z (bB Z Z (bF Z (bA Z)))))))))) Z Z)
   refine XL.put Z Z (lb Z) (OpOK.callW Z Z Z hc107 Z (hA Z) (kA Z))<|XL.nil<|XQ.seq<|XC.block<|XC.less (st':=⟨[(4,.v (.one (.ptr 1 0))),(5,.v (.one (.ptr 2 0))),(14,.v (.one (.ptr 8 0))),(15,.v (.one (.ptr 9 0))),(74,.v (.one (.fn 62 [(10,0)])))],m18_h31 a1 o20,[(3,some ⟨41,4,(Enc.encL ((a0++([a1])):List Bnd)).length,[]⟩)],11,81,[]⟩) (stle (tA Z) (hA Z) (kA Z) Z (Nat.le_trans hv3 (lb Z)) Z Z Z (bB Z Z (bB Z Z (bB Z Z (bF Z (bB Z Z (bB Z Z (bB Z Z (bB Z Z (bF Z (bA Z)))))))))) Z Z) ?_
   refine bindK h3 (fun y108 h4 h3=>?_)
   have hc109:CallM Try.prog 62 [.one (.yld 11),.one (.ptr 10 0)] ⟨[(11,.loop .ready none [(4,.v (.one (.ptr 1 0))),(5,.v (.one (.ptr 2 0))),(14,.v (.one (.ptr 8 0))),(15,.v (.one (.ptr 9 0))),(74,.v (.one (.fn 62 [(10,0)])))] 81 #[75] m18_c4 m18_c5 6),(0,.cells 41 (cE a1)),(1,.cells 4 [dB false]),(2,.cells 25 [dI 0]),(4,.cells 70 (flatE o20)),(5,.cells 39 (cE a1.lo)),(6,.obj (.deferred (some []))),(7,.loop .busy none [(3,.v (.one (.ptr 0 0))),(4,.v (.one (.ptr 1 0))),(5,.v (.one (.ptr 2 0))),(7,.v (.one (.ptr 4 0))),(69,.v (.one (.fn 62 [(5,0)])))] 81 #[70] m18_c2 m18_c3 6),(8,.cells 39 [dI a1.lo.c,dN]),(9,.cells 70 (flatE o20)),(10,.cells 39 (cE a1.hi))],[(3,some ⟨41,4,(Enc.encL ((a0++([a1])):List Bnd)).length,[]⟩)],12⟩ (resOf []) ⟨m18_h33 a1 o20 y108,[(3,some ⟨41,4,(Enc.encL ((a0++([a1])):List Bnd)).length,[]⟩)],12⟩:=by
    refine CallM.of_bodyD ⟨[],m18_h33 a1 o20 y108,[(3,some ⟨41,4,(Enc.encL ((a0++([a1])):List Bnd)).length,[]⟩)],12,36,[]⟩ Z Z en_62 (lb Z) Z .nil (fun w0 M V0 Q hv4 hQ4=>?_)
    simp only [entry]
    refine XC.seq<|XC.seq ?_
    refine XC.joinR (fun (v110:(List Int))=>⟨[(0,.v (.one (.yld 11))),(1,.v (.one (.ptr 10 0))),(21,.v (.one (dB false)))],[(0,.cells 41 (cE a1)),(1,.cells 4 [dB false]),(2,.cells 25 [dI 0]),(4,.cells 70 (flatE o20)),(5,.cells 39 (cE a1.lo)),(6,.obj (.deferred (some []))),(7,m18_h26),(8,.cells 39 [dI a1.lo.c,dN]),(9,.cells 70 (flatE v110)),(10,.cells 39 (cE a1.hi)),(11,m18_h32)],[(3,some ⟨41,4,(Enc.encL ((a0++([a1])):List Bnd)).length,[]⟩)],12,36,[]⟩) (fun (v110:(List Int))=>(Option.bind (loopN (m18_l6 a1) FUEL (0,v110)) (fun (o111:(List Int))=>some o111))=some y108) ?_ ?_
    refine bindK h4 (fun w5_ h5 h4=>?_)
    refine XC.region<|rR Z Z Z (RO.fieldOwn fo_39_0 Z)<|rR Z Z Z (RO.loadOwn ag_3 Z Z Z)<|rR Z Z Z (RO.binInt Z Z Z)<|rM Z Z Z ?_
    refine XL.case (d:=8) (c:=(decide (0 < a1.hi.c))) Z (fun c111=>?_) (fun c111=>?_)
    replace h5:=condT c111 h5
    refine XL.no Z Z<|XL.no Z Z<|XL.no Z Z<|XL.no Z Z<|rR Z Z Z (RO.pickT Z Z)<|rM Z Z Z<|rM Z Z Z<|rR Z Z Z (RO.fieldOwn fo_39_0 Z)<|rR Z Z Z (RO.loadOwn ag_3 Z Z Z)<|rR Z Z Z (RO.build1 bd_39 Z Z Z) ?_
    refine bindK h5 (fun y112 h6 h5=>?_)
    have ha113:ExecOK Try.prog (some 11) m18_c4 ⟨[(4,.v (.one (.ptr 1 0))),(5,.v (.one (.ptr 2 0))),(14,.v (.one (.ptr 8 0))),(15,.v (.one (.ptr 9 0))),(74,.v (.one (.fn 62 [(10,0)]))),(75,.v (.agg [dI a1.hi.c,dN]))],m18_h34 a1 o20,[(3,some ⟨41,4,(Enc.encL ((a0++([a1])):List Bnd)).length,[]⟩)],12,81,[]⟩ .normal ⟨[(14,.v (.one (.ptr 8 0))),(15,.v (.one (.ptr 9 0))),(16,.v (.one (.ptr 12 0)))],m18_h37 a1 o20,[(3,some ⟨41,4,(Enc.encL ((a0++([a1])):List Bnd)).length,[]⟩)],13,81,[]⟩:=by
     refine ExecOK.walk (fun w0 M V0 ro n Q hv6 hro6 hQn6=>?_)
     refine XC.region<|XL.put Z Z (lb Z) (OpOK.alloc z_39 Z)<|XL.eff Z Z (OpOK.store ag_39 Z Z Z Z (lb Z) Z)<|XL.nil ?_
     exact XQ.of hQn6 (stle (tA Z) (hA Z) (kA Z) Z (Nat.le_trans hv6 (lb Z)) Z Z Z (bB Z Z (bB Z Z (bB Z Z (bF Z (bB Z Z (bB Z Z (bB Z Z (bB Z Z (bF Z (bA Z)))))))))) Z Z)
    have hb114:ExecOK Try.prog (some 11) m18_c5 ⟨[(14,.v (.one (.ptr 8 0))),(15,.v (.one (.ptr 9 0))),(16,.v (.one (.ptr 12 0)))],m18_h36 a1 o20,[(3,some ⟨41,4,(Enc.encL ((a0++([a1])):List Bnd)).length,[]⟩)],13,81,[]⟩ .normal ⟨[],m18_h38 a1 o20 y112,[(3,some ⟨41,4,(Enc.encL ((a0++([a1])):List Bnd)).length,[]⟩)],15,81,[]⟩:=by
     refine ExecOK.walk (fun w0 M V0 ro n Q hv6 hro6 hQn6=>?_)
     refine XC.block<|XC.region<|rR Z Z Z (RO.loadOwnAgg ag_39 Z Z Z Z)<|rR Z Z Z (RO.loadOwnAgg ag_39 Z Z Z Z) ?_
     refine bindK h6 (fun x115 hx115 h6=>?_)
     refine XL.put Z Z (lb Z) (OpOK.callG (hp1':=[(9,.cells 70 (flatE x115))]) (tk1':=[]) (hpF:=m18_h39 a1 o20) (tkF:=[(3,some ⟨41,4,(Enc.encL ((a0++([a1])):List Bnd)).length,[]⟩)]) (res2:=resOf []) (nx2:=15) [9] Z Z (m41f27_ok a1.hi.c a1.lo.c 1 o20 x115 hx115) Z Z (qF Z qZ) Z Z (gF Z gZ) jZ (hA Z) (kA Z) Z Z Z Z Z (bF Z bZ) Z Z Z Z)<|XL.nil<|XQ.inBlock ?_
     have e:=sI h6;subst e
     exact XQ.of hQn6 (stle tZ (hA Z) (kA Z) Z (Nat.le_trans hv6 (lb Z)) Z Z Z (bB Z Z (bB Z Z (bB Z Z (bF Z (bB Z Z (bB Z Z (bB Z Z (bB Z Z (bF Z (bA Z)))))))))) Z Z)
    refine XL.put Z Z (lb Z) (OpOK.yield (jump:=none) Z Z Z Z Z (ExecOK.from ha113 (fun E hv=>(stle (tA Z) (hA Z) (kA Z) Z (Nat.le_trans hv (lb Z)) Z Z Z (bB Z Z (bB Z Z (bB Z Z (bF Z (bB Z Z (bB Z Z (bB Z Z (bB Z Z (bF Z (bA Z)))))))))) Z Z))) Z (ExecOK.from hb114 (fun E hv=>(stle (tA Z) (hA Z) (kA Z) Z (Nat.le_trans hv (lb Z)) Z Z Z (bB Z Z (bB Z Z (bB Z Z (bF Z (bB Z Z (bB Z Z (bB Z Z (bB Z Z (bF Z (bA Z)))))))))) Z Z))) Z Z) ?_
    refine rR Z Z Z (RO.not Z)<|rR Z Z Z (RO.pickT Z Z)<|XL.nil ?_
    have e:=sI h5;subst e
    exact XQ.joinR y112 (stle (tA Z) (hA Z) (kA Z) Z (Nat.le_trans hv4 (lb Z)) Z Z Z (bB Z Z (bB Z Z (bB Z Z (bF Z (bB Z Z (bB Z Z (bB Z Z (bB Z Z (bF Z (bA Z)))))))))) Z Z) h4
    replace h5:=condF c111 h5
    refine rR Z Z Z (RO.fieldOwn fo_39_1 Z)<|rR Z Z Z (RO.loadOwn ag_37 Z Z Z)<|rR Z Z Z (RO.lenE (α:=LV) sl_37 Z (.d _))<|rR Z Z Z (RO.binInt Z Z Z)<|rR Z Z Z (RO.pickF Z Z)<|rM Z Z Z ?_
    refine XL.case (d:=14) (c:=((a1.hi.vs.length:Int)==0)) Z (fun c116=>?_) (fun c116=>?_)
    replace h5:=condT c116 h5
    refine rM Z Z Z<|rR Z Z Z (RO.fieldOwn fo_39_0 Z)<|rR Z Z Z (RO.loadOwn ag_3 Z Z Z)<|rR Z Z Z (RO.build1 bd_39 Z Z Z) ?_
    refine bindK h5 (fun y117 h6 h5=>?_)
    have ha118:ExecOK Try.prog (some 11) m18_c4 ⟨[(4,.v (.one (.ptr 1 0))),(5,.v (.one (.ptr 2 0))),(14,.v (.one (.ptr 8 0))),(15,.v (.one (.ptr 9 0))),(74,.v (.one (.fn 62 [(10,0)]))),(75,.v (.agg [dI a1.hi.c,dN]))],m18_h34 a1 o20,[(3,some ⟨41,4,(Enc.encL ((a0++([a1])):List Bnd)).length,[]⟩)],12,81,[]⟩ .normal ⟨[(14,.v (.one (.ptr 8 0))),(15,.v (.one (.ptr 9 0))),(16,.v (.one (.ptr 12 0)))],m18_h37 a1 o20,[(3,some ⟨41,4,(Enc.encL ((a0++([a1])):List Bnd)).length,[]⟩)],13,81,[]⟩:=by
     refine ExecOK.walk (fun w0 M V0 ro n Q hv6 hro6 hQn6=>?_)
     refine XC.region<|XL.put Z Z (lb Z) (OpOK.alloc z_39 Z)<|XL.eff Z Z (OpOK.store ag_39 Z Z Z Z (lb Z) Z)<|XL.nil ?_
     exact XQ.of hQn6 (stle (tA Z) (hA Z) (kA Z) Z (Nat.le_trans hv6 (lb Z)) Z Z Z (bB Z Z (bB Z Z (bB Z Z (bF Z (bB Z Z (bB Z Z (bB Z Z (bB Z Z (bF Z (bA Z)))))))))) Z Z)
    have hb119:ExecOK Try.prog (some 11) m18_c5 ⟨[(14,.v (.one (.ptr 8 0))),(15,.v (.one (.ptr 9 0))),(16,.v (.one (.ptr 12 0)))],m18_h36 a1 o20,[(3,some ⟨41,4,(Enc.encL ((a0++([a1])):List Bnd)).length,[]⟩)],13,81,[]⟩ .normal ⟨[],m18_h38 a1 o20 y117,[(3,some ⟨41,4,(Enc.encL ((a0++([a1])):List Bnd)).length,[]⟩)],15,81,[]⟩:=by
     refine ExecOK.walk (fun w0 M V0 ro n Q hv6 hro6 hQn6=>?_)
     refine XC.block<|XC.region<|rR Z Z Z (RO.loadOwnAgg ag_39 Z Z Z Z)<|rR Z Z Z (RO.loadOwnAgg ag_39 Z Z Z Z) ?_
     refine bindK h6 (fun x120 hx120 h6=>?_)
     refine XL.put Z Z (lb Z) (OpOK.callG (hp1':=[(9,.cells 70 (flatE x120))]) (tk1':=[]) (hpF:=m18_h39 a1 o20) (tkF:=[(3,some ⟨41,4,(Enc.encL ((a0++([a1])):List Bnd)).length,[]⟩)]) (res2:=resOf []) (nx2:=15) [9] Z Z (m41f27_ok a1.hi.c a1.lo.c 1 o20 x120 hx120) Z Z (qF Z qZ) Z Z (gF Z gZ) jZ (hA Z) (kA Z) Z Z Z Z Z (bF Z bZ) Z Z Z Z)<|XL.nil<|XQ.inBlock ?_
     have e:=sI h6;subst e
     exact XQ.of hQn6 (stle tZ (hA Z) (kA Z) Z (Nat.le_trans hv6 (lb Z)) Z Z Z (bB Z Z (bB Z Z (bB Z Z (bF Z (bB Z Z (bB Z Z (bB Z Z (bB Z Z (bF Z (bA Z)))))))))) Z Z)
    refine XL.put Z Z (lb Z) (OpOK.yield (jump:=none) Z Z Z Z Z (ExecOK.from ha118 (fun E hv=>(stle (tA Z) (hA Z) (kA Z) Z (Nat.le_trans hv (lb Z)) Z Z Z (bB Z Z (bB Z Z (bB Z Z (bF Z (bB Z Z (bB Z Z (bB Z Z (bB Z Z (bF Z (bA Z)))))))))) Z Z))) Z (ExecOK.from hb119 (fun E hv=>(stle (tA Z) (hA Z) (kA Z) Z (Nat.le_trans hv (lb Z)) Z Z Z (bB Z Z (bB Z Z (bB Z Z (bF Z (bB Z Z (bB Z Z (bB Z Z (bB Z Z (bF Z (bA Z)))))))))) Z Z))) Z Z) ?_
    refine rR Z Z Z (RO.not Z)<|rR Z Z Z (RO.pickT Z Z)<|XL.nil ?_
    have e:=sI h5;subst e
    exact XQ.joinR y117 (stle (tA Z) (hA Z) (kA Z) Z (Nat.le_trans hv4 (lb Z)) Z Z Z (bB Z Z (bB Z Z (bB Z Z (bF Z (bB Z Z (bB Z Z (bB Z Z (bB Z Z (bF Z (bA Z)))))))))) Z Z) h4
    replace h5:=condF c116 h5
    refine XL.no Z Z<|XL.no Z Z<|XL.no Z Z<|XL.no Z Z<|XL.no Z Z<|XL.no Z Z<|rR Z Z Z (RO.pickF Z Z)<|XL.nil ?_
    have e:=sI h5;subst e
    exact XQ.joinR o20 (stle (tA Z) (hA Z) (kA Z) Z (Nat.le_trans hv4 (lb Z)) Z Z Z (bB Z Z (bB Z Z (bB Z Z (bF Z (bB Z Z (bB Z Z (bB Z Z (bB Z Z (bF Z (bA Z)))))))))) Z Z) h4
    intro v110 h4
    refine XQ.seq ?_
    refine XC.cond Z (fun h=>nomatch h) (fun _=>?_)
    refine XC.skip<|XQ.seq<|XC.seq<|XC.region<|rR Z Z Z (RO.fieldOwn fo_39_1 Z)<|rR Z Z Z (RO.loadOwn ag_37 Z Z Z)<|rR Z Z Z (RO.lenE (α:=LV) sl_37 Z (.d _))<|rM Z Z Z<|XL.nil<|XQ.seq<|XC.block ?_
    refine XC.joinX 0 (fun (o121:(List Int))=>⟨[],[(0,.cells 41 (cE a1)),(1,.cells 4 [dB false]),(2,.cells 25 [dI 0]),(4,.cells 70 (flatE o20)),(5,.cells 39 (cE a1.lo)),(6,.obj (.deferred (some []))),(7,m18_h26),(8,.cells 39 [dI a1.lo.c,dN]),(9,.cells 70 (flatE o121)),(10,.cells 39 (cE a1.hi)),(11,m18_h32)],[(3,some ⟨41,4,(Enc.encL ((a0++([a1])):List Bnd)).length,[]⟩)],12,36,[]⟩) (fun (o121:(List Int))=>(some o121)=some y108) ?_ ?_
    refine bindK h4 (fun o122 hl5 h4=>?_)
    refine XC.loopM (m18_l6 a1) (fun s5=>⟨[(0,.v (.one (.yld 11))),(23,.v (.one (dS a1.hi.vs))),(24,.v (.one (dI (a1.hi.vs.length:Int)))),(25,.v (.one (dI s5.1)))],[(0,.cells 41 (cE a1)),(1,.cells 4 [dB false]),(2,.cells 25 [dI 0]),(4,.cells 70 (flatE o20)),(5,.cells 39 (cE a1.lo)),(6,.obj (.deferred (some []))),(7,m18_h26),(8,.cells 39 [dI a1.lo.c,dN]),(9,.cells 70 (flatE s5.2)),(10,.cells 39 (cE a1.hi)),(11,m18_h32)],[(3,some ⟨41,4,(Enc.encL ((a0++([a1])):List Bnd)).length,[]⟩)],12,36,[]⟩) (0,v110) o122 (stle (tA Z) (hA Z) (kA Z) Z (Nat.le_trans hv4 (lb Z)) Z Z Z (bB Z Z (bB Z Z (bB Z Z (bF Z (bB Z Z (bB Z Z (bB Z Z (bB Z Z (bF Z (bA Z)))))))))) Z Z) hl5 (fun s5 n5 oo5 h5 ho5=>?_)
    unfold m18_l6 at h5
    refine XC.seq<|XC.region<|rR Z Z Z (RO.binInt Z Z Z)<|XL.nil<|XQ.seq<|XC.seq ?_
    refine XC.cond (b:=(decide (s5.1 < (a1.hi.vs.length:Int)))) Z (fun c123=>?_) (fun c123=>?_)
    replace h5:=condT c123 h5
    refine XC.skip<|XQ.seq<|XC.seq<|XC.block<|XC.seq<|XC.region ?_
    refine bindK h5 (fun x124 hx124 h5=>?_)
    refine rR Z Z Z (RO.indexE (α:=LV) sl_37 Z (.d _) Z hx124)<|rR Z Z Z (RO.loadPelCE (x124:LV) ag_59 Z)<|XL.put Z Z (lb Z) (OpOK.alloc z_59 Z)<|XL.eff Z Z (OpOK.storeCE (x124:LV) ag_59 Z Z Z Z Z)<|XL.nil<|XQ.seq<|XC.seq<|XC.region<|rM Z Z Z<|rR Z Z Z (RO.loadCE (x124:LV) ag_59 Z Z)<|XL.put Z Z (lb Z) (OpOK.lit1E (α:=LV) (x124) sl_37 z_59 Z Z (lb Z) (lb Z) Z Z (.cons (.d _) (.cons (.d _) .nil)) Z)<|rR Z Z Z (RO.build1 bd_39 Z Z Z) ?_
    refine bindK h5 (fun y125 h6 h5=>?_)
    have ha126:ExecOK Try.prog (some 11) m18_c4 ⟨[(4,.v (.one (.ptr 1 0))),(5,.v (.one (.ptr 2 0))),(14,.v (.one (.ptr 8 0))),(15,.v (.one (.ptr 9 0))),(74,.v (.one (.fn 62 [(10,0)]))),(75,.v (.agg [dI 0,dA 13 ([x124]:List LV)]))],m18_h40 a1 o20 s5 x124,[(3,some ⟨41,4,(Enc.encL ((a0++([a1])):List Bnd)).length,[]⟩),(13,some ⟨59,2,(Enc.encL ([x124]:List LV)).length,[]⟩)],14,81,[]⟩ .normal ⟨[(14,.v (.one (.ptr 8 0))),(15,.v (.one (.ptr 9 0))),(16,.v (.one (.ptr 14 0)))],m18_h42 a1 o20 s5 x124,[(3,some ⟨41,4,(Enc.encL ((a0++([a1])):List Bnd)).length,[]⟩),(13,some ⟨59,2,(Enc.encL ([x124]:List LV)).length,[]⟩)],15,81,[]⟩:=by
     refine ExecOK.walk (fun w0 M V0 ro n Q hv6 hro6 hQn6=>?_)
     refine XC.region<|XL.put Z Z (lb Z) (OpOK.alloc z_39 Z)<|XL.eff Z Z (OpOK.store ag_39 Z Z Z Z (lb Z) Z)<|XL.nil ?_
     exact XQ.of hQn6 (stle (tA Z) (hA Z) (kA Z) Z (Nat.le_trans hv6 (lb Z)) Z Z Z (bB Z Z (bB Z Z (bB Z Z (bF Z (bB Z Z (bB Z Z (bB Z Z (bB Z Z (bF Z (bA Z)))))))))) Z Z)
    have hb127:ExecOK Try.prog (some 11) m18_c5 ⟨[(14,.v (.one (.ptr 8 0))),(15,.v (.one (.ptr 9 0))),(16,.v (.one (.ptr 14 0)))],m18_h41 a1 o20 s5 x124,[(3,some ⟨41,4,(Enc.encL ((a0++([a1])):List Bnd)).length,[]⟩),(13,some ⟨59,2,(Enc.encL ([x124]:List LV)).length,[]⟩)],15,81,[]⟩ .normal ⟨[],m18_h43 a1 o20 y125 x124,[(3,some ⟨41,4,(Enc.encL ((a0++([a1])):List Bnd)).length,[]⟩),(13,some ⟨59,2,(Enc.encL ([x124]:List LV)).length,[]⟩)],17,81,[]⟩:=by
     refine ExecOK.walk (fun w0 M V0 ro n Q hv6 hro6 hQn6=>?_)
     refine XC.block<|XC.region<|rR Z Z Z (RO.loadOwnAgg ag_39 Z Z Z Z)<|rR Z Z Z (RO.loadOwnAgg ag_39 Z Z Z Z) ?_
     refine bindK h6 (fun x128 hx128 h6=>?_)
     refine XL.put Z Z (lb Z) (OpOK.callG (hp1':=[(9,.cells 70 (flatE x128))]) (tk1':=[(13,some ⟨59,2,(Enc.encL ([x124]:List LV)).length,[]⟩)]) (hpF:=m18_h44 a1 o20 x124) (tkF:=[(3,some ⟨41,4,(Enc.encL ((a0++([a1])):List Bnd)).length,[]⟩)]) (res2:=resOf []) (nx2:=17) [9,13] Z Z (m41f28_ok 0 ([x124]) a1.lo.c 1 s5.2 x128 hx128) Z Z (qF Z qZ) Z Z (gF Z gZ) (jR Z jZ) (hA Z) (kA Z) Z Z Z Z Z (bF Z bZ) Z Z Z Z)<|XL.nil<|XQ.inBlock ?_
     have e:=sI h6;subst e
     exact XQ.of hQn6 (stle tZ (hA Z) (kA Z) Z (Nat.le_trans hv6 (lb Z)) Z Z Z (bB Z Z (bB Z Z (bB Z Z (bF Z (bB Z Z (bB Z Z (bB Z Z (bB Z Z (bF Z (bA Z)))))))))) Z Z)
    refine XL.put Z Z (lb Z) (OpOK.yield (jump:=none) Z Z Z Z Z (ExecOK.from ha126 (fun E hv=>(stle (tA Z) (hA Z) (kA Z) Z (Nat.le_trans hv (lb Z)) Z Z Z (bB Z Z (bB Z Z (bB Z Z (bF Z (bB Z Z (bB Z Z (bB Z Z (bB Z Z (bF Z (bA Z)))))))))) Z Z))) Z (ExecOK.from hb127 (fun E hv=>(stle (tA Z) (hA Z) (kA Z) Z (Nat.le_trans hv (lb Z)) Z Z Z (bB Z Z (bB Z Z (bB Z Z (bF Z (bB Z Z (bB Z Z (bB Z Z (bB Z Z (bF Z (bA Z)))))))))) Z Z))) Z Z) ?_
    refine rR Z Z Z (RO.not Z)<|XL.nil<|XQ.seq ?_
    refine XC.cond Z (fun h=>nomatch h) (fun _=>?_)
    refine XC.skip<|XQ.inBlock<|XQ.seq<|XC.region<|rR Z Z Z (RO.binInt Z Z Z)<|rM Z Z Z<|XL.nil ?_
    have e:=sI h5;subst e
    refine XQ.nextM ((w64 (s5.1+1)),y125) (stle (tA Z) (hA Z) (kA Z) Z (Nat.le_trans hv4 (lb Z)) Z Z Z (bB Z Z (bB Z Z (bB Z Z (bF Z (bB Z Z (bB Z Z (bB Z Z (bB Z Z (bF Z (bA Z)))))))))) Z Z) ho5
    replace h5:=condF c123 h5
    refine XC.exit<|XQ.thenE<|XQ.thenE ?_
    have e:=sI h5;subst e
    have e_:_=_:=ho5
    subst e_
    exact XQ.joinX s5.2 (stle tZ (hA Z) (kA Z) Z (Nat.le_trans hv4 (lb Z)) Z Z Z (bB Z Z (bB Z Z (bB Z Z (bF Z (bB Z Z (bB Z Z (bB Z Z (bB Z Z (bF Z (bA Z)))))))))) Z Z) h4
    intro o121 h4
    refine XQ.blockX ?_
    have e:=sI h4;subst e
    exact hQ4 _ _ _ (.inl Z) Z (stle tZ (hA Z) (kA Z) Z (Nat.le_trans hv4 (lb Z)) Z Z Z (bB Z Z (bB Z Z (bB Z Z (bF Z (bB Z Z (bB Z Z (bB Z Z (bB Z Z (bF Z (bA Z)))))))))) Z Z)
   refine XC.exec (rangeFunc_in (e:=.normal) (L0:=7) rfl rfl hc109 rfl (by intro h;cases h) rfl) hro3 ?_
   refine XQ.inBlock<|XQ.seq<|XC.seq<|XC.region ?_
   refine guardK h3 (fun g129 h3=>?_)
   refine rR Z Z Z (RO.loadArr ag_70 Z Z g129) ?_
   refine bindK h3 (fun x130 hx130 h3=>?_)
   refine XL.put Z Z (lb Z) (OpOK.callFun (m42_ok y108 x130 hx130) Z (.cons (.agg (lsub_flat _)) .nil))<|XL.nil<|XQ.seq ?_
   refine XC.cond (b:=x130) Z (fun c131=>?_) (fun c131=>?_)
   replace h3:=condT c131 h3
   refine XC.seq<|XC.region<|XL.eff Z Z (OpOK.store ag_4 Z Z Z Z (lb Z) Z)<|XL.eff Z Z (OpOK.store ag_25 Z Z Z Z (lb Z) Z)<|XL.nil<|XQ.seq<|XC.ret ?_
   have e:=sI h3;subst e
   exact XQ.of (e:=.ret) (st':=⟨[],m18_h29 a1 o20,[(3,some ⟨41,4,(Enc.encL ((a0++([a1])):List Bnd)).length,[]⟩)],12,81,[]⟩) hQn3 (stle tZ (hA Z) (kA Z) Z (Nat.le_trans hv3 (lb Z)) Z Z Z (bB Z Z (bB Z Z (bB Z Z (bF Z (bA Z))))) Z Z)
   replace h3:=condF c131 h3
   refine XC.skip<|XQ.inBlock ?_
   have e:=sI h3;subst e
   exact XQ.of (e:=.normal) (st':=⟨[],m18_h29 a1 o20,[(3,some ⟨41,4,(Enc.encL ((a0++([a1])):List Bnd)).length,[]⟩)],12,81,[]⟩) hQn3 (stle tZ (hA Z) (kA Z) Z (Nat.le_trans hv3 (lb Z)) Z Z Z (bB Z Z (bB Z Z (bB Z Z (bF Z (bA Z))))) Z Z)
  refine sumK (C:=fun q_=>ExecOK Try.prog (some 7) m18_c3 ⟨[(3,.v (.one (.ptr 0 0))),(4,.v (.one (.ptr 1 0))),(5,.v (.one (.ptr 2 0))),(7,.v (.one (.ptr 4 0))),(14,.v (.one (.ptr 8 0)))],m18_h27 a1 o20,[(3,some ⟨41,4,(Enc.encL ((a0++([a1])):List Bnd)).length,[]⟩)],9,81,[]⟩ ((Sum.elim (fun (_:Unit)=>(.normal:Exit)) (fun (_:Unit)=>(.ret:Exit))) q_) ((Sum.elim (fun (y98:Unit)=>(⟨[],m18_h29 a1 o20,[(3,some ⟨41,4,(Enc.encL ((a0++([a1])):List Bnd)).length,[]⟩)],12,81,[]⟩:St)) (fun (y99:Unit)=>(⟨[],m18_h29 a1 o20,[(3,some ⟨41,4,(Enc.encL ((a0++([a1])):List Bnd)).length,[]⟩)],12,81,[]⟩:St))) q_)) hb102 h2 (fun y98 hb102 h2=>?_) (fun y99 hb102 h2=>?_)
  replace hb102:ExecOK Try.prog (some 7) m18_c3 ⟨[(3,.v (.one (.ptr 0 0))),(4,.v (.one (.ptr 1 0))),(5,.v (.one (.ptr 2 0))),(7,.v (.one (.ptr 4 0))),(14,.v (.one (.ptr 8 0)))],m18_h27 a1 o20,[(3,some ⟨41,4,(Enc.encL ((a0++([a1])):List Bnd)).length,[]⟩)],9,81,[]⟩ .normal ⟨[],m18_h29 a1 o20,[(3,some ⟨41,4,(Enc.encL ((a0++([a1])):List Bnd)).length,[]⟩)],12,81,[]⟩:=hb102
  refine XL.put Z Z (lb Z) (OpOK.yield (jump:=none) Z Z Z Z Z (ExecOK.from ha101 (fun E hv=>(stle (tA Z) (hA Z) (kA Z) Z (Nat.le_trans hv (lb Z)) Z Z Z (bB Z Z (bB Z Z (bB Z Z (bF Z (bA Z))))) Z Z))) Z (ExecOK.from hb102 (fun E hv=>(stle (tA Z) (hA Z) (kA Z) Z (Nat.le_trans hv (lb Z)) Z Z Z (bB Z Z (bB Z Z (bB Z Z (bF Z (bA Z))))) Z Z))) Z Z) ?_
  refine rR Z Z Z (RO.not Z)<|rR Z Z Z (RO.pickT Z Z)<|XL.nil ?_
  have e:=sI h2;subst e
  exact XQ.joinRl () (stle (tA Z) (hA Z) (kA Z) Z (Nat.le_trans hv1 (lb Z)) Z Z Z (bB Z Z (bB Z Z (bB Z Z (bF Z (bA Z))))) Z Z) h1
  replace hb102:ExecOK Try.prog (some 7) m18_c3 ⟨[(3,.v (.one (.ptr 0 0))),(4,.v (.one (.ptr 1 0))),(5,.v (.one (.ptr 2 0))),(7,.v (.one (.ptr 4 0))),(14,.v (.one (.ptr 8 0)))],m18_h27 a1 o20,[(3,some ⟨41,4,(Enc.encL ((a0++([a1])):List Bnd)).length,[]⟩)],9,81,[]⟩ .ret ⟨[],m18_h29 a1 o20,[(3,some ⟨41,4,(Enc.encL ((a0++([a1])):List Bnd)).length,[]⟩)],12,81,[]⟩:=hb102
  refine XL.put Z Z (lb Z) (OpOK.yield (jump:=(some .ret)) Z Z Z Z Z (ExecOK.from ha101 (fun E hv=>(stle (tA Z) (hA Z) (kA Z) Z (Nat.le_trans hv (lb Z)) Z Z Z (bB Z Z (bB Z Z (bB Z Z (bF Z (bA Z))))) Z Z))) Z (ExecOK.from hb102 (fun E hv=>(stle (tA Z) (hA Z) (kA Z) Z (Nat.le_trans hv (lb Z)) Z Z Z (bB Z Z (bB Z Z (bB Z Z (bF Z (bA Z))))) Z Z))) Z Z) ?_
  refine rR Z Z Z (RO.not Z)<|rR Z Z Z (RO.pickT Z Z)<|XL.nil ?_
  have e:=sI h2;subst e
  exact XQ.joinRr () (stle (tA Z) (hA Z) (kA Z) Z (Nat.le_trans hv1 (lb Z)) Z Z Z (bB Z Z (bB Z Z (bB Z Z (bF Z (bA Z))))) Z Z) h1
  replace h2:=condF c97 h2
  refine XL.no Z Z<|XL.no Z Z<|XL.no Z Z<|XL.no Z Z<|XL.no Z Z<|XL.no Z Z<|rR Z Z Z (RO.pickF Z Z)<|XL.nil ?_
  have e:=sI h2;subst e
  exact XQ.joinRl () (stle (tA Z) (hA Z) (kA Z) Z (Nat.le_trans hv1 (lb Z)) Z Z Z (bB Z Z (bB Z Z (bB Z Z (bF Z (bA Z))))) Z Z) h1
  intro v60 h1
  refine XQ.seq ?_
  refine XC.cond Z (fun h=>nomatch h) (fun _=>?_)
  refine XC.skip<|XQ.seq<|XC.seq<|XC.region<|rR Z Z Z (RO.fieldOwn fo_39_1 Z)<|rR Z Z Z (RO.loadOwn ag_37 Z Z Z)<|rR Z Z Z (RO.lenE (α:=LV) sl_37 Z (.d _))<|rM Z Z Z<|XL.nil<|XQ.seq<|XC.block ?_
  refine XC.joinX 0 (fun (o132:Unit)=>⟨[],m18_h23 a1 o20,[(3,some ⟨41,4,(Enc.encL ((a0++([a1])):List Bnd)).length,[]⟩)],8,36,[]⟩) (fun (o132:Unit)=>(some (.inl ()))=some y59) ?_ ?_
  refine bindK h1 (fun o133 hl2 h1=>?_)
  refine XC.loopM (m18_l5 a1 o20) (fun s2=>⟨[(0,.v (.one (.yld 7))),(23,.v (.one (dS a1.lo.vs))),(24,.v (.one (dI (a1.lo.vs.length:Int)))),(25,.v (.one (dI s2)))],m18_h23 a1 o20,[(3,some ⟨41,4,(Enc.encL ((a0++([a1])):List Bnd)).length,[]⟩)],8,36,[]⟩) 0 o133 (stle (tA Z) (hA Z) (kA Z) Z (Nat.le_trans hv1 (lb Z)) Z Z Z (bB Z Z (bB Z Z (bB Z Z (bF Z (bA Z))))) Z Z) hl2 (fun s2 n2 oo2 h2 ho2=>?_)
  unfold m18_l5 at h2
  refine XC.seq<|XC.region<|rR Z Z Z (RO.binInt Z Z Z)<|XL.nil<|XQ.seq<|XC.seq ?_
  refine XC.cond (b:=(decide (s2 < (a1.lo.vs.length:Int)))) Z (fun c134=>?_) (fun c134=>?_)
  replace h2:=condT c134 h2
  refine XC.skip<|XQ.seq<|XC.seq<|XC.block<|XC.seq<|XC.region ?_
  refine bindK h2 (fun x135 hx135 h2=>?_)
  refine rR Z Z Z (RO.indexE (α:=LV) sl_37 Z (.d _) Z hx135)<|rR Z Z Z (RO.loadPelCE (x135:LV) ag_59 Z)<|XL.put Z Z (lb Z) (OpOK.alloc z_59 Z)<|XL.eff Z Z (OpOK.storeCE (x135:LV) ag_59 Z Z Z Z Z)<|XL.nil<|XQ.seq<|XC.seq<|XC.region<|rM Z Z Z<|rR Z Z Z (RO.loadCE (x135:LV) ag_59 Z Z)<|XL.put Z Z (lb Z) (OpOK.lit1E (α:=LV) (x135) sl_37 z_59 Z Z (lb Z) (lb Z) Z Z (.cons (.d _) (.cons (.d _) .nil)) Z)<|rR Z Z Z (RO.build1 bd_39 Z Z Z) ?_
  refine bindK h2 (fun y138 h3 h2=>?_)
  have ha139:ExecOK Try.prog (some 7) m18_c2 ⟨[(3,.v (.one (.ptr 0 0))),(4,.v (.one (.ptr 1 0))),(5,.v (.one (.ptr 2 0))),(7,.v (.one (.ptr 4 0))),(69,.v (.one (.fn 62 [(5,0)]))),(70,.v (.agg [dI 0,dA 9 ([x135]:List LV)]))],m18_h45 a1 o20 x135,[(3,some ⟨41,4,(Enc.encL ((a0++([a1])):List Bnd)).length,[]⟩),(9,some ⟨59,2,(Enc.encL ([x135]:List LV)).length,[]⟩)],10,81,[]⟩ .normal ⟨[(3,.v (.one (.ptr 0 0))),(4,.v (.one (.ptr 1 0))),(5,.v (.one (.ptr 2 0))),(7,.v (.one (.ptr 4 0))),(14,.v (.one (.ptr 10 0)))],m18_h47 a1 o20 x135,[(3,some ⟨41,4,(Enc.encL ((a0++([a1])):List Bnd)).length,[]⟩),(9,some ⟨59,2,(Enc.encL ([x135]:List LV)).length,[]⟩)],11,81,[]⟩:=by
   refine ExecOK.walk (fun w0 M V0 ro n Q hv3 hro3 hQn3=>?_)
   refine XC.region<|XL.put Z Z (lb Z) (OpOK.alloc z_39 Z)<|XL.eff Z Z (OpOK.store ag_39 Z Z Z Z (lb Z) Z)<|XL.nil ?_
   exact XQ.of hQn3 (stle (tA Z) (hA Z) (kA Z) Z (Nat.le_trans hv3 (lb Z)) Z Z Z (bB Z Z (bB Z Z (bB Z Z (bF Z (bA Z))))) Z Z)
  have hb140:ExecOK Try.prog (some 7) m18_c3 ⟨[(3,.v (.one (.ptr 0 0))),(4,.v (.one (.ptr 1 0))),(5,.v (.one (.ptr 2 0))),(7,.v (.one (.ptr 4 0))),(14,.v (.one (.ptr 10 0)))],m18_h46 a1 o20 x135,[(3,some ⟨41,4,(Enc.encL ((a0++([a1])):List Bnd)).length,[]⟩),(9,some ⟨59,2,(Enc.encL ([x135]:List LV)).length,[]⟩)],11,81,[]⟩ ((Sum.elim (fun (_:Unit)=>(.normal:Exit)) (fun (_:Unit)=>(.ret:Exit))) y138) ((Sum.elim (fun (y136:Unit)=>(⟨[],m18_h48 a1 o20 x135,[(3,some ⟨41,4,(Enc.encL ((a0++([a1])):List Bnd)).length,[]⟩),(9,some ⟨59,2,(Enc.encL ([x135]:List LV)).length,[]⟩)],14,81,[]⟩:St)) (fun (y137:Unit)=>(⟨[],m18_h48 a1 o20 x135,[(3,some ⟨41,4,(Enc.encL ((a0++([a1])):List Bnd)).length,[]⟩),(9,some ⟨59,2,(Enc.encL ([x135]:List LV)).length,[]⟩)],14,81,[]⟩:St))) y138):=by
   refine ExecOK.walk (fun w0 M V0 ro n Q hv3 hro3 hQn3=>?_)
   refine XC.block<|XC.seq<|XC.region ?_
   refine guardK h3 (fun g141 h3=>?_)
   refine rR Z Z Z (RO.loadArr ag_70 Z Z g141)<|XL.put Z Z (lb Z) (OpOK.allocA (l:=(List.replicate 81 (0:Int))) z_70 Z Z) ?_
   refine guardK h3 (fun g142 h3=>?_)
   refine guardK h3 (fun g143 h3=>?_)
   refine XL.eff Z Z (OpOK.storeArr ag_70 Z Z Z g142 g143 Z)<|XL.nil<|XQ.seq<|XC.seq<|XC.seq<|XC.region<|rR Z Z Z (RO.fieldOwn fo_41_1 Z)<|rR Z Z Z (RO.loadOwnAgg ag_39 Z Z Z Z) ?_
   refine bindK h3 (fun y144 h4 h3=>?_)
   have hc145:CallM Try.prog 40 [.agg (cE a1.hi)] ⟨m18_h49 a1 o20 x135,[(3,some ⟨41,4,(Enc.encL ((a0++([a1])):List Bnd)).length,[]⟩),(9,some ⟨59,2,(Enc.encL ([x135]:List LV)).length,[]⟩)],12⟩ (resOf [.one (.fn 62 [(12,0)])]) ⟨m18_h50 a1 o20 x135,[(3,some ⟨41,4,(Enc.encL ((a0++([a1])):List Bnd)).length,[]⟩),(9,some ⟨59,2,(Enc.encL ([x135]:List LV)).length,[]⟩)],13⟩:=by
    refine CallM.of_bodyD ⟨[(2,.v (.one (.fn 62 [(12,0)])))],m18_h50 a1 o20 x135,[(3,some ⟨41,4,(Enc.encL ((a0++([a1])):List Bnd)).length,[]⟩),(9,some ⟨59,2,(Enc.encL ([x135]:List LV)).length,[]⟩)],13,4,[]⟩ Z Z en_40 (lb Z) Z (RAs.tmp Z .nil) (fun w0 M V0 Q hv4 hQ4=>?_)
    simp only [entry]
    refine XC.seq<|XC.region<|XL.put Z Z (lb Z) (OpOK.box Z)<|rA Z Z Z<|XL.nil<|XQ.seq<|XC.seq<|XC.region<|rR Z Z Z (RO.makeFunc1 Z)<|rA Z Z Z<|XL.nil<|XQ.seq<|XC.ret ?_
    have e:=sI h4;subst e
    exact hQ4 _ _ _ (.inr Z) Z (stle (tA Z) (hA Z) (kA Z) Z (Nat.le_trans hv4 (lb Z)) Z Z Z (bB Z Z (bB Z Z (bB Z Z (bF Z (bB Z Z (bB Z Z (bB Z Z (bB Z Z (bB Z Z (bF Z (bA Z))))))))))) Z Z)
   refine XL.put Z Z (lb Z) (OpOK.callW Z Z Z hc145 Z (hA Z) (kA Z))<|XL.nil<|XQ.seq<|XC.block<|XC.less (st':=⟨[(4,.v (.one (.ptr 1 0))),(5,.v (.one (.ptr 2 0))),(14,.v (.one (.ptr 10 0))),(15,.v (.one (.ptr 11 0))),(74,.v (.one (.fn 62 [(12,0)])))],m18_h50 a1 o20 x135,[(3,some ⟨41,4,(Enc.encL ((a0++([a1])):List Bnd)).length,[]⟩),(9,some ⟨59,2,(Enc.encL ([x135]:List LV)).length,[]⟩)],13,81,[]⟩) (stle (tA Z) (hA Z) (kA Z) Z (Nat.le_trans hv3 (lb Z)) Z Z Z (bB Z Z (bB Z Z (bB Z Z (bF Z (bB Z Z (bB Z Z (bB Z Z (bB Z Z (bB Z Z (bF Z (bA Z))))))))))) Z Z) ?_
   refine bindK h3 (fun y146 h4 h3=>?_)
   have hc147:CallM Try.prog 62 [.one (.yld 13),.one (.ptr 12 0)] ⟨[(13,.loop .ready none [(4,.v (.one (.ptr 1 0))),(5,.v (.one (.ptr 2 0))),(14,.v (.one (.ptr 10 0))),(15,.v (.one (.ptr 11 0))),(74,.v (.one (.fn 62 [(12,0)])))] 81 #[75] m18_c4 m18_c5 6),(0,.cells 41 (cE a1)),(1,.cells 4 [dB false]),(2,.cells 25 [dI 0]),(4,.cells 70 (flatE o20)),(5,.cells 39 (cE a1.lo)),(6,.obj (.deferred (some []))),(7,.loop .busy none [(3,.v (.one (.ptr 0 0))),(4,.v (.one (.ptr 1 0))),(5,.v (.one (.ptr 2 0))),(7,.v (.one (.ptr 4 0))),(69,.v (.one (.fn 62 [(5,0)])))] 81 #[70] m18_c2 m18_c3 6),(8,.cells 59 (cE x135)),(10,.cells 39 [dI 0,dA 9 ([x135]:List LV)]),(11,.cells 70 (flatE o20)),(12,.cells 39 (cE a1.hi))],[(3,some ⟨41,4,(Enc.encL ((a0++([a1])):List Bnd)).length,[]⟩),(9,some ⟨59,2,(Enc.encL ([x135]:List LV)).length,[]⟩)],14⟩ (resOf []) ⟨m18_h52 a1 o20 x135 y146,[(3,some ⟨41,4,(Enc.encL ((a0++([a1])):List Bnd)).length,[]⟩),(9,some ⟨59,2,(Enc.encL ([x135]:List LV)).length,[]⟩)],14⟩:=by
    refine CallM.of_bodyD ⟨[],m18_h52 a1 o20 x135 y146,[(3,some ⟨41,4,(Enc.encL ((a0++([a1])):List Bnd)).length,[]⟩),(9,some ⟨59,2,(Enc.encL ([x135]:List LV)).length,[]⟩)],14,36,[]⟩ Z Z en_62 (lb Z) Z .nil (fun w0 M V0 Q hv4 hQ4=>?_)
    simp only [entry]
    refine XC.seq<|XC.seq ?_
    refine XC.joinR (fun (v148:(List Int))=>⟨[(0,.v (.one (.yld 13))),(1,.v (.one (.ptr 12 0))),(21,.v (.one (dB false)))],[(0,.cells 41 (cE a1)),(1,.cells 4 [dB false]),(2,.cells 25 [dI 0]),(4,.cells 70 (flatE o20)),(5,.cells 39 (cE a1.lo)),(6,.obj (.deferred (some []))),(7,m18_h26),(8,.cells 59 (cE x135)),(10,.cells 39 [dI 0,dA 9 ([x135]:List LV)]),(11,.cells 70 (flatE v148)),(12,.cells 39 (cE a1.hi)),(13,m18_h51)],[(3,some ⟨41,4,(Enc.encL ((a0++([a1])):List Bnd)).length,[]⟩),(9,some ⟨59,2,(Enc.encL ([x135]:List LV)).length,[]⟩)],14,36,[]⟩) (fun (v148:(List Int))=>(Option.bind (loopN (m18_l4 a1 x135) FUEL (0,v148)) (fun (o149:(List Int))=>some o149))=some y146) ?_ ?_
    refine bindK h4 (fun w5_ h5 h4=>?_)
    refine XC.region<|rR Z Z Z (RO.fieldOwn fo_39_0 Z)<|rR Z Z Z (RO.loadOwn ag_3 Z Z Z)<|rR Z Z Z (RO.binInt Z Z Z)<|rM Z Z Z ?_
    refine XL.case (d:=8) (c:=(decide (0 < a1.hi.c))) Z (fun c149=>?_) (fun c149=>?_)
    replace h5:=condT c149 h5
    refine XL.no Z Z<|XL.no Z Z<|XL.no Z Z<|XL.no Z Z<|rR Z Z Z (RO.pickT Z Z)<|rM Z Z Z<|rM Z Z Z<|rR Z Z Z (RO.fieldOwn fo_39_0 Z)<|rR Z Z Z (RO.loadOwn ag_3 Z Z Z)<|rR Z Z Z (RO.build1 bd_39 Z Z Z) ?_
    refine bindK h5 (fun y150 h6 h5=>?_)
    have ha151:ExecOK Try.prog (some 13) m18_c4 ⟨[(4,.v (.one (.ptr 1 0))),(5,.v (.one (.ptr 2 0))),(14,.v (.one (.ptr 10 0))),(15,.v (.one (.ptr 11 0))),(74,.v (.one (.fn 62 [(12,0)]))),(75,.v (.agg [dI a1.hi.c,dN]))],m18_h53 a1 o20 x135,[(3,some ⟨41,4,(Enc.encL ((a0++([a1])):List Bnd)).length,[]⟩),(9,some ⟨59,2,(Enc.encL ([x135]:List LV)).length,[]⟩)],14,81,[]⟩ .normal ⟨[(14,.v (.one (.ptr 10 0))),(15,.v (.one (.ptr 11 0))),(16,.v (.one (.ptr 14 0)))],m18_h56 a1 o20 x135,[(3,some ⟨41,4,(Enc.encL ((a0++([a1])):List Bnd)).length,[]⟩),(9,some ⟨59,2,(Enc.encL ([x135]:List LV)).length,[]⟩)],15,81,[]⟩:=by
     refine ExecOK.walk (fun w0 M V0 ro n Q hv6 hro6 hQn6=>?_)
     refine XC.region<|XL.put Z Z (lb Z) (OpOK.alloc z_39 Z)<|XL.eff Z Z (OpOK.store ag_39 Z Z Z Z (lb Z) Z)<|XL.nil ?_
     exact XQ.of hQn6 (stle (tA Z) (hA Z) (kA Z) Z (Nat.le_trans hv6 (lb Z)) Z Z Z (bB Z Z (bB Z Z (bB Z Z (bF Z (bB Z Z (bB Z Z (bB Z Z (bB Z Z (bB Z Z (bF Z (bA Z))))))))))) Z Z)
    have hb152:ExecOK Try.prog (some 13) m18_c5 ⟨[(14,.v (.one (.ptr 10 0))),(15,.v (.one (.ptr 11 0))),(16,.v (.one (.ptr 14 0)))],m18_h55 a1 o20 x135,[(3,some ⟨41,4,(Enc.encL ((a0++([a1])):List Bnd)).length,[]⟩),(9,some ⟨59,2,(Enc.encL ([x135]:List LV)).length,[]⟩)],15,81,[]⟩ .normal ⟨[],m18_h57 a1 o20 x135 y150,[(3,some ⟨41,4,(Enc.encL ((a0++([a1])):List Bnd)).length,[]⟩),(9,some ⟨59,2,(Enc.encL ([x135]:List LV)).length,[]⟩)],17,81,[]⟩:=by
     refine ExecOK.walk (fun w0 M V0 ro n Q hv6 hro6 hQn6=>?_)
     refine XC.block<|XC.region<|rR Z Z Z (RO.loadOwnAgg ag_39 Z Z Z Z)<|rR Z Z Z (RO.loadOwnAgg ag_39 Z Z Z Z) ?_
     refine bindK h6 (fun x153 hx153 h6=>?_)
     refine XL.put Z Z (lb Z) (OpOK.callG (hp1':=[(11,.cells 70 (flatE x153))]) (tk1':=[(9,some ⟨59,2,(Enc.encL ([x135]:List LV)).length,[]⟩)]) (hpF:=m18_h58 a1 o20 x135) (tkF:=[(3,some ⟨41,4,(Enc.encL ((a0++([a1])):List Bnd)).length,[]⟩)]) (res2:=resOf []) (nx2:=17) [11,9] Z Z (m41f29_ok a1.hi.c 0 ([x135]) 1 o20 x153 hx153) Z Z (qF Z qZ) Z Z (gF Z gZ) (jR Z jZ) (hA Z) (kA Z) Z Z Z Z Z (bF Z bZ) Z Z Z Z)<|XL.nil<|XQ.inBlock ?_
     have e:=sI h6;subst e
     exact XQ.of hQn6 (stle tZ (hA Z) (kA Z) Z (Nat.le_trans hv6 (lb Z)) Z Z Z (bB Z Z (bB Z Z (bB Z Z (bF Z (bB Z Z (bB Z Z (bB Z Z (bB Z Z (bB Z Z (bF Z (bA Z))))))))))) Z Z)
    refine XL.put Z Z (lb Z) (OpOK.yield (jump:=none) Z Z Z Z Z (ExecOK.from ha151 (fun E hv=>(stle (tA Z) (hA Z) (kA Z) Z (Nat.le_trans hv (lb Z)) Z Z Z (bB Z Z (bB Z Z (bB Z Z (bF Z (bB Z Z (bB Z Z (bB Z Z (bB Z Z (bB Z Z (bF Z (bA Z))))))))))) Z Z))) Z (ExecOK.from hb152 (fun E hv=>(stle (tA Z) (hA Z) (kA Z) Z (Nat.le_trans hv (lb Z)) Z Z Z (bB Z Z (bB Z Z (bB Z Z (bF Z (bB Z Z (bB Z Z (bB Z Z (bB Z Z (bB Z Z (bF Z (bA Z))))))))))) Z Z))) Z Z) ?_
    refine rR Z Z Z (RO.not Z)<|rR Z Z Z (RO.pickT Z Z)<|XL.nil ?_
    have e:=sI h5;subst e
    exact XQ.joinR y150 (stle (tA Z) (hA Z) (kA Z) Z (Nat.le_trans hv4 (lb Z)) Z Z Z (bB Z Z (bB Z Z (bB Z Z (bF Z (bB Z Z (bB Z Z (bB Z Z (bB Z Z (bB Z Z (bF Z (bA Z))))))))))) Z Z) h4
    replace h5:=condF c149 h5
    refine rR Z Z Z (RO.fieldOwn fo_39_1 Z)<|rR Z Z Z (RO.loadOwn ag_37 Z Z Z)<|rR Z Z Z (RO.lenE (α:=LV) sl_37 Z (.d _))<|rR Z Z Z (RO.binInt Z Z Z)<|rR Z Z Z (RO.pickF Z Z)<|rM Z Z Z ?_
    refine XL.case (d:=14) (c:=((a1.hi.vs.length:Int)==0)) Z (fun c154=>?_) (fun c154=>?_)
    replace h5:=condT c154 h5
    refine rM Z Z Z<|rR Z Z Z (RO.fieldOwn fo_39_0 Z)<|rR Z Z Z (RO.loadOwn ag_3 Z Z Z)<|rR Z Z Z (RO.build1 bd_39 Z Z Z) ?_
    refine bindK h5 (fun y155 h6 h5=>?_)
    have ha156:ExecOK Try.prog (some 13) m18_c4 ⟨[(4,.v (.one (.ptr 1 0))),(5,.v (.one (.ptr 2 0))),(14,.v (.one (.ptr 10 0))),(15,.v (.one (.ptr 11 0))),(74,.v (.one (.fn 62 [(12,0)]))),(75,.v (.agg [dI a1.hi.c,dN]))],m18_h53 a1 o20 x135,[(3,some ⟨41,4,(Enc.encL ((a0++([a1])):List Bnd)).length,[]⟩),(9,some ⟨59,2,(Enc.encL ([x135]:List LV)).length,[]⟩)],14,81,[]⟩ .normal ⟨[(14,.v (.one (.ptr 10 0))),(15,.v (.one (.ptr 11 0))),(16,.v (.one (.ptr 14 0)))],m18_h56 a1 o20 x135,[(3,some ⟨41,4,(Enc.encL ((a0++([a1])):List Bnd)).length,[]⟩),(9,some ⟨59,2,(Enc.encL ([x135]:List LV)).length,[]⟩)],15,81,[]⟩:=by
     refine ExecOK.walk (fun w0 M V0 ro n Q hv6 hro6 hQn6=>?_)
     refine XC.region<|XL.put Z Z (lb Z) (OpOK.alloc z_39 Z)<|XL.eff Z Z (OpOK.store ag_39 Z Z Z Z (lb Z) Z)<|XL.nil ?_
     exact XQ.of hQn6 (stle (tA Z) (hA Z) (kA Z) Z (Nat.le_trans hv6 (lb Z)) Z Z Z (bB Z Z (bB Z Z (bB Z Z (bF Z (bB Z Z (bB Z Z (bB Z Z (bB Z Z (bB Z Z (bF Z (bA Z))))))))))) Z Z)
    have hb157:ExecOK Try.prog (some 13) m18_c5 ⟨[(14,.v (.one (.ptr 10 0))),(15,.v (.one (.ptr 11 0))),(16,.v (.one (.ptr 14 0)))],m18_h55 a1 o20 x135,[(3,some ⟨41,4,(Enc.encL ((a0++([a1])):List Bnd)).length,[]⟩),(9,some ⟨59,2,(Enc.encL ([x135]:List LV)).length,[]⟩)],15,81,[]⟩ .normal ⟨[],m18_h57 a1 o20 x135 y155,[(3,some ⟨41,4,(Enc.encL ((a0++([a1])):List Bnd)).length,[]⟩),(9,some ⟨59,2,(Enc.encL ([x135]:List LV)).length,[]⟩)],17,81,[]⟩:=by
     refine ExecOK.walk (fun w0 M V0 ro n Q hv6 hro6 hQn6=>?_)
     refine XC.block<|XC.region<|rR Z Z Z (RO.loadOwnAgg ag_39 Z Z Z Z)<|rR Z Z Z (RO.loadOwnAgg ag_39 Z Z Z Z) ?_
     refine bindK h6 (fun x158 hx158 h6=>?_)
     refine XL.put Z Z (lb Z) (OpOK.callG (hp1':=[(11,.cells 70 (flatE x158))]) (tk1':=[(9,some ⟨59,2,(Enc.encL ([x135]:List LV)).length,[]⟩)]) (hpF:=m18_h58 a1 o20 x135) (tkF:=[(3,some ⟨41,4,(Enc.encL ((a0++([a1])):List Bnd)).length,[]⟩)]) (res2:=resOf []) (nx2:=17) [11,9] Z Z (m41f29_ok a1.hi.c 0 ([x135]) 1 o20 x158 hx158) Z Z (qF Z qZ) Z Z (gF Z gZ) (jR Z jZ) (hA Z) (kA Z) Z Z Z Z Z (bF Z bZ) Z Z Z Z)<|XL.nil<|XQ.inBlock ?_
     have e:=sI h6;subst e
     exact XQ.of hQn6 (stle tZ (hA Z) (kA Z) Z (Nat.le_trans hv6 (lb Z)) Z Z Z (bB Z Z (bB Z Z (bB Z Z (bF Z (bB Z Z (bB Z Z (bB Z Z (bB Z Z (bB Z Z (bF Z (bA Z))))))))))) Z Z)
    refine XL.put Z Z (lb Z) (OpOK.yield (jump:=none) Z Z Z Z Z (ExecOK.from ha156 (fun E hv=>(stle (tA Z) (hA Z) (kA Z) Z (Nat.le_trans hv (lb Z)) Z Z Z (bB Z Z (bB Z Z (bB Z Z (bF Z (bB Z Z (bB Z Z (bB Z Z (bB Z Z (bB Z Z (bF Z (bA Z))))))))))) Z Z))) Z (ExecOK.from hb157 (fun E hv=>(stle (tA Z) (hA Z) (kA Z) Z (Nat.le_trans hv (lb Z)) Z Z Z (bB Z Z (bB Z Z (bB Z Z (bF Z (bB Z Z (bB Z Z (bB Z Z (bB Z Z (bB Z Z (bF Z (bA Z))))))))))) Z Z))) Z Z) ?_
    refine rR Z Z Z (RO.not Z)<|rR Z Z Z (RO.pickT Z Z)<|XL.nil ?_
    have e:=sI h5;subst e
    exact XQ.joinR y155 (stle (tA Z) (hA Z) (kA Z) Z (Nat.le_trans hv4 (lb Z)) Z Z Z (bB Z Z (bB Z Z (bB Z Z (bF Z (bB Z Z (bB Z Z (bB Z Z (bB Z Z (bB Z Z (bF Z (bA Z))))))))))) Z Z) h4
    replace h5:=condF c154 h5
    refine XL.no Z Z<|XL.no Z Z<|XL.no Z Z<|XL.no Z Z<|XL.no Z Z<|XL.no Z Z<|rR Z Z Z (RO.pickF Z Z)<|XL.nil ?_
    have e:=sI h5;subst e
    exact XQ.joinR o20 (stle (tA Z) (hA Z) (kA Z) Z (Nat.le_trans hv4 (lb Z)) Z Z Z (bB Z Z (bB Z Z (bB Z Z (bF Z (bB Z Z (bB Z Z (bB Z Z (bB Z Z (bB Z Z (bF Z (bA Z))))))))))) Z Z) h4
    intro v148 h4
    refine XQ.seq ?_
    refine XC.cond Z (fun h=>nomatch h) (fun _=>?_)
    refine XC.skip<|XQ.seq<|XC.seq<|XC.region<|rR Z Z Z (RO.fieldOwn fo_39_1 Z)<|rR Z Z Z (RO.loadOwn ag_37 Z Z Z)<|rR Z Z Z (RO.lenE (α:=LV) sl_37 Z (.d _))<|rM Z Z Z<|XL.nil<|XQ.seq<|XC.block ?_
    refine XC.joinX 0 (fun (o159:(List Int))=>⟨[],[(0,.cells 41 (cE a1)),(1,.cells 4 [dB false]),(2,.cells 25 [dI 0]),(4,.cells 70 (flatE o20)),(5,.cells 39 (cE a1.lo)),(6,.obj (.deferred (some []))),(7,m18_h26),(8,.cells 59 (cE x135)),(10,.cells 39 [dI 0,dA 9 ([x135]:List LV)]),(11,.cells 70 (flatE o159)),(12,.cells 39 (cE a1.hi)),(13,m18_h51)],[(3,some ⟨41,4,(Enc.encL ((a0++([a1])):List Bnd)).length,[]⟩),(9,some ⟨59,2,(Enc.encL ([x135]:List LV)).length,[]⟩)],14,36,[]⟩) (fun (o159:(List Int))=>(some o159)=some y146) ?_ ?_
    refine bindK h4 (fun o160 hl5 h4=>?_)
    refine XC.loopM (m18_l4 a1 x135) (fun s5=>⟨[(0,.v (.one (.yld 13))),(23,.v (.one (dS a1.hi.vs))),(24,.v (.one (dI (a1.hi.vs.length:Int)))),(25,.v (.one (dI s5.1)))],[(0,.cells 41 (cE a1)),(1,.cells 4 [dB false]),(2,.cells 25 [dI 0]),(4,.cells 70 (flatE o20)),(5,.cells 39 (cE a1.lo)),(6,.obj (.deferred (some []))),(7,m18_h26),(8,.cells 59 (cE x135)),(10,.cells 39 [dI 0,dA 9 ([x135]:List LV)]),(11,.cells 70 (flatE s5.2)),(12,.cells 39 (cE a1.hi)),(13,m18_h51)],[(3,some ⟨41,4,(Enc.encL ((a0++([a1])):List Bnd)).length,[]⟩),(9,some ⟨59,2,(Enc.encL ([x135]:List LV)).length,[]⟩)],14,36,[]⟩) (0,v148) o160 (stle (tA Z) (hA Z) (kA Z) Z (Nat.le_trans hv4 (lb Z)) Z Z Z (bB Z Z (bB Z Z (bB Z Z (bF Z (bB Z Z (bB Z Z (bB Z Z (bB Z Z (bB Z Z (bF Z (bA Z))))))))))) Z Z) hl5 (fun s5 n5 oo5 h5 ho5=>?_)
    unfold m18_l4 at h5
    refine XC.seq<|XC.region<|rR Z Z Z (RO.binInt Z Z Z)<|XL.nil<|XQ.seq<|XC.seq ?_
    refine XC.cond (b:=(decide (s5.1 < (a1.hi.vs.length:Int)))) Z (fun c161=>?_) (fun c161=>?_)
    replace h5:=condT c161 h5
    refine XC.skip<|XQ.seq<|XC.seq<|XC.block<|XC.seq<|XC.region ?_
    refine bindK h5 (fun x162 hx162 h5=>?_)
    refine rR Z Z Z (RO.indexE (α:=LV) sl_37 Z (.d _) Z hx162)<|rR Z Z Z (RO.loadPelCE (x162:LV) ag_59 Z)<|XL.put Z Z (lb Z) (OpOK.alloc z_59 Z)<|XL.eff Z Z (OpOK.storeCE (x162:LV) ag_59 Z Z Z Z Z)<|XL.nil<|XQ.seq<|XC.seq<|XC.region<|rM Z Z Z<|rR Z Z Z (RO.loadCE (x162:LV) ag_59 Z Z)<|XL.put Z Z (lb Z) (OpOK.lit1E (α:=LV) (x162) sl_37 z_59 Z Z (lb Z) (lb Z) Z Z (.cons (.d _) (.cons (.d _) .nil)) Z)<|rR Z Z Z (RO.build1 bd_39 Z Z Z) ?_
    refine bindK h5 (fun y163 h6 h5=>?_)
    have ha164:ExecOK Try.prog (some 13) m18_c4 ⟨[(4,.v (.one (.ptr 1 0))),(5,.v (.one (.ptr 2 0))),(14,.v (.one (.ptr 10 0))),(15,.v (.one (.ptr 11 0))),(74,.v (.one (.fn 62 [(12,0)]))),(75,.v (.agg [dI 0,dA 15 ([x162]:List LV)]))],m18_h59 a1 o20 x135 s5 x162,[(3,some ⟨41,4,(Enc.encL ((a0++([a1])):List Bnd)).length,[]⟩),(9,some ⟨59,2,(Enc.encL ([x135]:List LV)).length,[]⟩),(15,some ⟨59,2,(Enc.encL ([x162]:List LV)).length,[]⟩)],16,81,[]⟩ .normal ⟨[(14,.v (.one (.ptr 10 0))),(15,.v (.one (.ptr 11 0))),(16,.v (.one (.ptr 16 0)))],m18_h61 a1 o20 x135 s5 x162,[(3,some ⟨41,4,(Enc.encL ((a0++([a1])):List Bnd)).length,[]⟩),(9,some ⟨59,2,(Enc.encL ([x135]:List LV)).length,[]⟩),(15,some ⟨59,2,(Enc.encL ([x162]:List LV)).length,[]⟩)],17,81,[]⟩:=by
     refine ExecOK.walk (fun w0 M V0 ro n Q hv6 hro6 hQn6=>?_)
     refine XC.region<|XL.put Z Z (lb Z) (OpOK.alloc z_39 Z)<|XL.eff Z Z (OpOK.store ag_39 Z Z Z Z (lb Z) Z)<|XL.nil ?_
     exact XQ.of hQn6 (stle (tA Z) (hA Z) (kA Z) Z (Nat.le_trans hv6 (lb Z)) Z Z Z (bB Z Z (bB Z Z (bB Z Z (bF Z (bB Z Z (bB Z Z (bB Z Z (bB Z Z (bB Z Z (bF Z (bA Z))))))))))) Z Z)
    have hb165:ExecOK Try.prog (some 13) m18_c5 ⟨[(14,.v (.one (.ptr 10 0))),(15,.v (.one (.ptr 11 0))),(16,.v (.one (.ptr 16 0)))],m18_h60 a1 o20 x135 s5 x162,[(3,some ⟨41,4,(Enc.encL ((a0++([a1])):List Bnd)).length,[]⟩),(9,some ⟨59,2,(Enc.encL ([x135]:List LV)).length,[]⟩),(15,some ⟨59,2,(Enc.encL ([x162]:List LV)).length,[]⟩)],17,81,[]⟩ .normal ⟨[],m18_h62 a1 o20 x135 y163 x162,[(3,some ⟨41,4,(Enc.encL ((a0++([a1])):List Bnd)).length,[]⟩),(9,some ⟨59,2,(Enc.encL ([x135]:List LV)).length,[]⟩),(15,some ⟨59,2,(Enc.encL ([x162]:List LV)).length,[]⟩)],19,81,[]⟩:=by
     refine ExecOK.walk (fun w0 M V0 ro n Q hv6 hro6 hQn6=>?_)
     refine XC.block<|XC.region<|rR Z Z Z (RO.loadOwnAgg ag_39 Z Z Z Z)<|rR Z Z Z (RO.loadOwnAgg ag_39 Z Z Z Z) ?_
     refine bindK h6 (fun x166 hx166 h6=>?_)
     refine XL.put Z Z (lb Z) (OpOK.callG (hp1':=[(11,.cells 70 (flatE x166))]) (tk1':=[(15,some ⟨59,2,(Enc.encL ([x162]:List LV)).length,[]⟩),(9,some ⟨59,2,(Enc.encL ([x135]:List LV)).length,[]⟩)]) (hpF:=m18_h63 a1 o20 x135 x162) (tkF:=[(3,some ⟨41,4,(Enc.encL ((a0++([a1])):List Bnd)).length,[]⟩)]) (res2:=resOf []) (nx2:=19) [11,15,9] Z Z (m41f30_ok 0 ([x162]) 0 ([x135]) 1 s5.2 x166 hx166) Z Z (qF Z qZ) Z Z (gF Z gZ) (jR Z (jR Z jZ)) (hA Z) (kA Z) Z Z Z Z Z (bF Z bZ) Z Z Z Z)<|XL.nil<|XQ.inBlock ?_
     have e:=sI h6;subst e
     exact XQ.of hQn6 (stle tZ (hA Z) (kA Z) Z (Nat.le_trans hv6 (lb Z)) Z Z Z (bB Z Z (bB Z Z (bB Z Z (bF Z (bB Z Z (bB Z Z (bB Z Z (bB Z Z (bB Z Z (bF Z (bA Z))))))))))) Z Z)
    refine XL.put Z Z (lb Z) (OpOK.yield (jump:=none) Z Z Z Z Z (ExecOK.from ha164 (fun E hv=>(stle (tA Z) (hA Z) (kA Z) Z (Nat.le_trans hv (lb Z)) Z Z Z (bB Z Z (bB Z Z (bB Z Z (bF Z (bB Z Z (bB Z Z (bB Z Z (bB Z Z (bB Z Z (bF Z (bA Z))))))))))) Z Z))) Z (ExecOK.from hb165 (fun E hv=>(stle (tA Z) (hA Z) (kA Z) Z (Nat.le_trans hv (lb Z)) Z Z Z (bB Z Z (bB Z Z (bB Z Z (bF Z (bB Z Z (bB Z Z (bB Z Z (bB Z Z (bB Z Z (bF Z (bA Z))))))))))) Z Z))) Z Z) ?_
    refine rR Z Z Z (RO.not Z)<|XL.nil<|XQ.seq ?_
    refine XC.cond Z (fun h=>nomatch h) (fun _=>?_)
    refine XC.skip<|XQ.inBlock<|XQ.seq<|XC.region<|rR Z Z Z (RO.binInt Z Z Z)<|rM Z Z Z<|XL.nil ?_
    have e:=sI h5;subst e
    refine XQ.nextM ((w64 (s5.1+1)),y163) (stle (tA Z) (hA Z) (kA Z) Z (Nat.le_trans hv4 (lb Z)) Z Z Z (bB Z Z (bB Z Z (bB Z Z (bF Z (bB Z Z (bB Z Z (bB Z Z (bB Z Z (bB Z Z (bF Z (bA Z))))))))))) Z Z) ho5
    replace h5:=condF c161 h5
    refine XC.exit<|XQ.thenE<|XQ.thenE ?_
    have e:=sI h5;subst e
    have e_:_=_:=ho5
    subst e_
    exact XQ.joinX s5.2 (stle tZ (hA Z) (kA Z) Z (Nat.le_trans hv4 (lb Z)) Z Z Z (bB Z Z (bB Z Z (bB Z Z (bF Z (bB Z Z (bB Z Z (bB Z Z (bB Z Z (bB Z Z (bF Z (bA Z))))))))))) Z Z) h4
    intro o159 h4
    refine XQ.blockX ?_
    have e:=sI h4;subst e
    exact hQ4 _ _ _ (.inl Z) Z (stle tZ (hA Z) (kA Z) Z (Nat.le_trans hv4 (lb Z)) Z Z Z (bB Z Z (bB Z Z (bB Z Z (bF Z (bB Z Z (bB Z Z (bB Z Z (bB Z Z (bB Z Z (bF Z (bA Z))))))))))) Z Z)
   refine XC.exec (rangeFunc_in (e:=.normal) (L0:=7) rfl rfl hc147 rfl (by intro h;cases h) rfl) hro3 ?_
   refine XQ.inBlock<|XQ.seq<|XC.seq<|XC.region ?_
   refine guardK h3 (fun g167 h3=>?_)
   refine rR Z Z Z (RO.loadArr ag_70 Z Z g167) ?_
   refine bindK h3 (fun x168 hx168 h3=>?_)
   refine XL.put Z Z (lb Z) (OpOK.callFun (m42_ok y146 x168 hx168) Z (.cons (.agg (lsub_flat _)) .nil))<|XL.nil<|XQ.seq ?_
   refine XC.cond (b:=x168) Z (fun c169=>?_) (fun c169=>?_)
   replace h3:=condT c169 h3
   refine XC.seq<|XC.region<|XL.eff Z Z (OpOK.store ag_4 Z Z Z Z (lb Z) Z)<|XL.eff Z Z (OpOK.store ag_25 Z Z Z Z (lb Z) Z)<|XL.nil<|XQ.seq<|XC.ret ?_
   have e:=sI h3;subst e
   exact XQ.of (e:=.ret) (st':=⟨[],m18_h48 a1 o20 x135,[(3,some ⟨41,4,(Enc.encL ((a0++([a1])):List Bnd)).length,[]⟩),(9,some ⟨59,2,(Enc.encL ([x135]:List LV)).length,[]⟩)],14,81,[]⟩) hQn3 (stle tZ (hA Z) (kA Z) Z (Nat.le_trans hv3 (lb Z)) Z Z Z (bB Z Z (bB Z Z (bB Z Z (bF Z (bA Z))))) Z Z)
   replace h3:=condF c169 h3
   refine XC.skip<|XQ.inBlock ?_
   have e:=sI h3;subst e
   exact XQ.of (e:=.normal) (st':=⟨[],m18_h48 a1 o20 x135,[(3,some ⟨41,4,(Enc.encL ((a0++([a1])):List Bnd)).length,[]⟩),(9,some ⟨59,2,(Enc.encL ([x135]:List LV)).length,[]⟩)],14,81,[]⟩) hQn3 (stle tZ (hA Z) (kA Z) Z (Nat.le_trans hv3 (lb Z)) Z Z Z (bB Z Z (bB Z Z (bB Z Z (bF Z (bA Z))))) Z Z)
  refine sumK (C:=fun q_=>ExecOK Try.prog (some 7) m18_c3 ⟨[(3,.v (.one (.ptr 0 0))),(4,.v (.one (.ptr 1 0))),(5,.v (.one (.ptr 2 0))),(7,.v (.one (.ptr 4 0))),(14,.v (.one (.ptr 10 0)))],m18_h46 a1 o20 x135,[(3,some ⟨41,4,(Enc.encL ((a0++([a1])):List Bnd)).length,[]⟩),(9,some ⟨59,2,(Enc.encL ([x135]:List LV)).length,[]⟩)],11,81,[]⟩ ((Sum.elim (fun (_:Unit)=>(.normal:Exit)) (fun (_:Unit)=>(.ret:Exit))) q_) ((Sum.elim (fun (y136:Unit)=>(⟨[],m18_h48 a1 o20 x135,[(3,some ⟨41,4,(Enc.encL ((a0++([a1])):List Bnd)).length,[]⟩),(9,some ⟨59,2,(Enc.encL ([x135]:List LV)).length,[]⟩)],14,81,[]⟩:St)) (fun (y137:Unit)=>(⟨[],m18_h48 a1 o20 x135,[(3,some ⟨41,4,(Enc.encL ((a0++([a1])):List Bnd)).length,[]⟩),(9,some ⟨59,2,(Enc.encL ([x135]:List LV)).length,[]⟩)],14,81,[]⟩:St))) q_)) hb140 h2 (fun y136 hb140 h2=>?_) (fun y137 hb140 h2=>?_)
  replace hb140:ExecOK Try.prog (some 7) m18_c3 ⟨[(3,.v (.one (.ptr 0 0))),(4,.v (.one (.ptr 1 0))),(5,.v (.one (.ptr 2 0))),(7,.v (.one (.ptr 4 0))),(14,.v (.one (.ptr 10 0)))],m18_h46 a1 o20 x135,[(3,some ⟨41,4,(Enc.encL ((a0++([a1])):List Bnd)).length,[]⟩),(9,some ⟨59,2,(Enc.encL ([x135]:List LV)).length,[]⟩)],11,81,[]⟩ .normal ⟨[],m18_h48 a1 o20 x135,[(3,some ⟨41,4,(Enc.encL ((a0++([a1])):List Bnd)).length,[]⟩),(9,some ⟨59,2,(Enc.encL ([x135]:List LV)).length,[]⟩)],14,81,[]⟩:=hb140
  refine XL.put Z Z (lb Z) (OpOK.yield (jump:=none) Z Z Z Z Z (ExecOK.from ha139 (fun E hv=>(stle (tA Z) (hA Z) (kA Z) Z (Nat.le_trans hv (lb Z)) Z Z Z (bB Z Z (bB Z Z (bB Z Z (bF Z (bA Z))))) Z Z))) Z (ExecOK.from hb140 (fun E hv=>(stle (tA Z) (hA Z) (kA Z) Z (Nat.le_trans hv (lb Z)) Z Z Z (bB Z Z (bB Z Z (bB Z Z (bF Z (bA Z))))) Z Z))) Z Z) ?_
  refine rR Z Z Z (RO.not Z)<|XL.nil<|XQ.seq ?_
  refine XC.cond Z (fun h=>nomatch h) (fun _=>?_)
  refine XC.skip<|XQ.inBlock<|XQ.seq<|XC.region<|rR Z Z Z (RO.binInt Z Z Z)<|rM Z Z Z<|XL.nil ?_
  have e:=sI h2;subst e
  refine XQ.nextM (w64 (s2+1)) (stle (tA Z) (hA Z) (kA Z) Z (Nat.le_trans hv1 (lb Z)) Z Z Z (bB Z Z (bB Z Z (bB Z Z (bF Z (bA Z))))) Z Z) ho2
  replace hb140:ExecOK Try.prog (some 7) m18_c3 ⟨[(3,.v (.one (.ptr 0 0))),(4,.v (.one (.ptr 1 0))),(5,.v (.one (.ptr 2 0))),(7,.v (.one (.ptr 4 0))),(14,.v (.one (.ptr 10 0)))],m18_h46 a1 o20 x135,[(3,some ⟨41,4,(Enc.encL ((a0++([a1])):List Bnd)).length,[]⟩),(9,some ⟨59,2,(Enc.encL ([x135]:List LV)).length,[]⟩)],11,81,[]⟩ .ret ⟨[],m18_h48 a1 o20 x135,[(3,some ⟨41,4,(Enc.encL ((a0++([a1])):List Bnd)).length,[]⟩),(9,some ⟨59,2,(Enc.encL ([x135]:List LV)).length,[]⟩)],14,81,[]⟩:=hb140
  refine XL.put Z Z (lb Z) (OpOK.yield (jump:=(some .ret)) Z Z Z Z Z (ExecOK.from ha139 (fun E hv=>(stle (tA Z) (hA Z) (kA Z) Z (Nat.le_trans hv (lb Z)) Z Z Z (bB Z Z (bB Z Z (bB Z Z (bF Z (bA Z))))) Z Z))) Z (ExecOK.from hb140 (fun E hv=>(stle (tA Z) (hA Z) (kA Z) Z (Nat.le_trans hv (lb Z)) Z Z Z (bB Z Z (bB Z Z (bB Z Z (bF Z (bA Z))))) Z Z))) Z Z) ?_
  refine rR Z Z Z (RO.not Z)<|XL.nil<|XQ.seq ?_
  refine XC.cond Z (fun _=>?_) (fun h=>nomatch h)
  refine XC.ret ?_
  have e:=sI h2;subst e
  have e_:_=_:=ho2
  subst e_
  try dsimp only [Sum.elim_inl,Sum.elim_inr] at h1
  have e:=sI h1;subst e
  exact hQ1 _ _ _ (.inr Z) Z (show StLe _ _ ⟨[],m18_h25 a1 o20,[(3,some ⟨41,4,(Enc.encL ((a0++([a1])):List Bnd)).length,[]⟩)],12,36,[]⟩ from (stle tZ (hA Z) (kA Z) Z (Nat.le_trans hv1 (lb Z)) Z Z Z (bB Z Z (bB Z Z (bB Z Z (bF Z (bA Z))))) Z Z))
  replace h2:=condF c134 h2
  refine XC.exit<|XQ.thenE<|XQ.thenE ?_
  have e:=sI h2;subst e
  have e_:_=_:=ho2
  subst e_
  exact XQ.joinX () (stle tZ (hA Z) (kA Z) Z (Nat.le_trans hv1 (lb Z)) Z Z Z (bB Z Z (bB Z Z (bB Z Z (bF Z (bA Z))))) Z Z) h1
  intro o132 h1
  refine XQ.blockX ?_
  have e:=sI h1;subst e
  exact hQ1 _ _ _ (.inl Z) Z (show StLe _ _ ⟨[],m18_h23 a1 o20,[(3,some ⟨41,4,(Enc.encL ((a0++([a1])):List Bnd)).length,[]⟩)],8,36,[]⟩ from (stle tZ (hA Z) (kA Z) Z (Nat.le_trans hv1 (lb Z)) Z Z Z (bB Z Z (bB Z Z (bB Z Z (bF Z (bA Z))))) Z Z))
  intro v61 h1
  refine XQ.seq ?_
  refine XC.cond Z (fun _=>?_) (fun h=>nomatch h)
  refine XC.ret ?_
  have e:=sI h1;subst e
  exact hQ1 _ _ _ (.inr Z) Z (show StLe _ _ ⟨[],m18_h25 a1 o20,[(3,some ⟨41,4,(Enc.encL ((a0++([a1])):List Bnd)).length,[]⟩)],12,36,[]⟩ from (stle tZ (hA Z) (kA Z) Z (Nat.le_trans hv1 (lb Z)) Z Z Z (bB Z Z (bB Z Z (bB Z Z (bF Z (bA Z))))) Z Z))
 refine sumK (C:=fun q_=>CallM Try.prog 62 [.one (.yld 7),.one (.ptr 5 0)] ⟨[(7,.loop .ready none [(3,.v (.one (.ptr 0 0))),(4,.v (.one (.ptr 1 0))),(5,.v (.one (.ptr 2 0))),(7,.v (.one (.ptr 4 0))),(69,.v (.one (.fn 62 [(5,0)])))] 81 #[70] m18_c2 m18_c3 6),(6,.obj (.deferred (some []))),(0,.cells 41 (cE a1)),(1,.cells 4 [dB false]),(2,.cells 25 [dI 0]),(4,.cells 70 (flatE o20)),(5,.cells 39 (cE a1.lo))],[(3,some ⟨41,4,(Enc.encL ((a0++([a1])):List Bnd)).length,[]⟩)],8⟩ (resOf []) ⟨(((Sum.elim (fun (y56:Unit)=>(⟨[],m18_h23 a1 o20,[(3,some ⟨41,4,(Enc.encL ((a0++([a1])):List Bnd)).length,[]⟩)],8,36,[]⟩:St)) (fun (y57:Unit)=>(⟨[],m18_h25 a1 o20,[(3,some ⟨41,4,(Enc.encL ((a0++([a1])):List Bnd)).length,[]⟩)],12,36,[]⟩:St)))) q_).hp,(((Sum.elim (fun (y56:Unit)=>(⟨[],m18_h23 a1 o20,[(3,some ⟨41,4,(Enc.encL ((a0++([a1])):List Bnd)).length,[]⟩)],8,36,[]⟩:St)) (fun (y57:Unit)=>(⟨[],m18_h25 a1 o20,[(3,some ⟨41,4,(Enc.encL ((a0++([a1])):List Bnd)).length,[]⟩)],12,36,[]⟩:St)))) q_).tk,(((Sum.elim (fun (y56:Unit)=>(⟨[],m18_h23 a1 o20,[(3,some ⟨41,4,(Enc.encL ((a0++([a1])):List Bnd)).length,[]⟩)],8,36,[]⟩:St)) (fun (y57:Unit)=>(⟨[],m18_h25 a1 o20,[(3,some ⟨41,4,(Enc.encL ((a0++([a1])):List Bnd)).length,[]⟩)],12,36,[]⟩:St)))) q_).nx⟩) hc58 h0 (fun y56 hc58 h0=>?_) (fun y57 hc58 h0=>?_)
 replace hc58:CallM Try.prog 62 [.one (.yld 7),.one (.ptr 5 0)] ⟨[(7,.loop .ready none [(3,.v (.one (.ptr 0 0))),(4,.v (.one (.ptr 1 0))),(5,.v (.one (.ptr 2 0))),(7,.v (.one (.ptr 4 0))),(69,.v (.one (.fn 62 [(5,0)])))] 81 #[70] m18_c2 m18_c3 6),(6,.obj (.deferred (some []))),(0,.cells 41 (cE a1)),(1,.cells 4 [dB false]),(2,.cells 25 [dI 0]),(4,.cells 70 (flatE o20)),(5,.cells 39 (cE a1.lo))],[(3,some ⟨41,4,(Enc.encL ((a0++([a1])):List Bnd)).length,[]⟩)],8⟩ (resOf []) ⟨m18_h23 a1 o20,[(3,some ⟨41,4,(Enc.encL ((a0++([a1])):List Bnd)).length,[]⟩)],8⟩:=hc58
 refine XC.exec (rangeFunc_out (e:=.normal) rfl hc58 rfl rfl (by intro h;cases h) rfl) rfl ?_
 refine XQ.inBlock<|XQ.seq<|XC.seq<|XC.region<|XL.eff Z Z (OpOK.store ag_4 Z Z Z Z (lb Z) Z)<|XL.eff Z Z (OpOK.store ag_25 Z Z Z Z (lb Z) Z)<|XL.nil<|XQ.seq<|XC.ret ?_
 have e:=sI h0;subst e
 exact XQ.retF (fun _ _ h=>h) Z (RAs.cell ag_4 Z Z Z (RAs.cell ag_25 Z Z Z .nil)) (.cons (.one (.d _)) (.cons (.one (.d _)) .nil))
 replace hc58:CallM Try.prog 62 [.one (.yld 7),.one (.ptr 5 0)] ⟨[(7,.loop .ready none [(3,.v (.one (.ptr 0 0))),(4,.v (.one (.ptr 1 0))),(5,.v (.one (.ptr 2 0))),(7,.v (.one (.ptr 4 0))),(69,.v (.one (.fn 62 [(5,0)])))] 81 #[70] m18_c2 m18_c3 6),(6,.obj (.deferred (some []))),(0,.cells 41 (cE a1)),(1,.cells 4 [dB false]),(2,.cells 25 [dI 0]),(4,.cells 70 (flatE o20)),(5,.cells 39 (cE a1.lo))],[(3,some ⟨41,4,(Enc.encL ((a0++([a1])):List Bnd)).length,[]⟩)],8⟩ (resOf []) ⟨m18_h25 a1 o20,[(3,some ⟨41,4,(Enc.encL ((a0++([a1])):List Bnd)).length,[]⟩)],12⟩:=hc58
 refine XC.exec (rangeFunc_out (e:=.ret) rfl hc58 rfl rfl (by intro h;cases h) rfl) rfl ?_
 have e:=sI h0;subst e
 exact XQ.retF (fun _ _ h=>h) Z (RAs.cell ag_4 Z Z Z (RAs.cell ag_25 Z Z Z .nil)) (.cons (.one (.d _)) (.cons (.one (.d _)) .nil))
end Go.Proofs.Ytkimijmiphkddaa
namespace Go.Proofs.Ytkimijmiphkddaa
open Go.RowKit Go.Shelf
theorem w64_id {n:Int} (h1:-9223372036854775808≤n) (h2:n≤9223372036854775807):w64 n=n:=IntWalk.i64_in n ⟨h1,h2⟩
theorem w64_nx {k:Nat} (h:k≤1000000000):w64 ((k:Int)+1)=((k+1:Nat):Int):=by rw [w64_id (by omega) (by omega)];rfl
theorem idx_at {α:Type} {l:List α} {k:Nat} {x:α} (h:l[k]?=some x):idx l (k:Int)=some x:=h
theorem idx_mid {α:Type} (a:List α) (x:α) (b:List α):idx (a++x::b) (a.length:Int)=some x:=by
 show (a++x::b)[a.length]?=some x
 simp
theorem lt_mid {α:Type} (a:List α) (x:α) (b:List α):decide ((a.length:Int) < ((a++x::b).length:Int))=true:=by
 rw [decide_eq_true_eq,List.length_append,List.length_cons];omega
theorem mid_lt {α:Type} {l a b:List α} {x:α} (h:l=a++x::b):a.length < l.length:=by rw [h,List.length_append,List.length_cons];omega
theorem beqI (a b:Int):(a==b)=decide (a=b):=by
 by_cases h:a=b
 ·rw [decide_eq_true h];exact beq_iff_eq.2 h
 ·rw [decide_eq_false h,Bool.eq_false_iff];exact fun h'=>h (beq_iff_eq.1 h')
theorem lt_end {α:Type} (a:List α):decide ((a.length:Int) < (a.length:Int))=false:=by simp
theorem guard_le {α:Type} {a b:Nat} {x:Option α} (h:a≤b):guardO (Nat.ble a b) x=x:=by
 rw [Nat.ble_eq_true_of_le h];rfl
theorem guard_eq {α:Type} {a b:Nat} {x:Option α} (h:a=b):guardO (Nat.beq a b) x=x:=by
 subst h;rw [Nat.beq_refl];rfl
theorem loop_all {α σ τ β:Type} {step:τ→Option (LO τ β)} (l:List α) (mk:Int→σ→τ) (I:List α→σ→Prop) (Q:β→Prop) (hlen:l.length≤900000000)
  (hin:∀ (a:List α) (x:α) (b:List α) (s:σ),l=a++x::b→I a s →
   (∃ r,step (mk (a.length:Int) s)=some (.done r)∧Q r)∨∃ s',step (mk (a.length:Int) s)=some (.next (mk (w64 ((a.length:Int)+1)) s'))∧I (a++[x]) s')
  (hout:∀ s,I l s→∃ r,step (mk (l.length:Int) s)=some (.done r)∧Q r) (s0:σ) (h0:I [] s0):∃ r,loopN step FUEL (mk 0 s0)=some r∧Q r:=by
 have key:∀ (b a:List α) (s:σ) (n:Nat),l=a++b→b.length < n→I a s→∃ r,loopN step n (mk (a.length:Int) s)=some r∧Q r:=by
  intro b
  induction b with
  | nil =>
   intro a s n hl hn hI
   rw [List.append_nil] at hl
   subst hl
   obtain ⟨r,h1,h2⟩:=hout s hI
   cases n with
   | zero=>omega
   | succ n=>exact ⟨r,by simp only [loopN,h1],h2⟩
  | cons x b ih =>
   intro a s n hl hn hI
   cases n with
   | zero=>omega
   | succ n =>
    rcases hin a x b s hl hI with ⟨r,h1,h2⟩ | ⟨s',h1,h2⟩
    ·exact ⟨r,by simp only [loopN,h1],h2⟩
    ·have hal:a.length≤900000000:=by rw [hl,List.length_append] at hlen;omega
     rw [w64_nx (by omega)] at h1
     obtain ⟨r,h3,h4⟩:=ih (a++[x]) s' n (by rw [hl,List.append_assoc];rfl) (by simp only [List.length_cons] at hn;omega) h2
     refine ⟨r,?_,h4⟩
     simp only [loopN,h1]
     rw [List.length_append] at h3
     exact h3
 exact key l [] s0 FUEL rfl (by unfold FUEL;omega) h0
theorem loop_fold {α σ τ β:Type} {step:τ→Option (LO τ β)} (l:List α) (mk:Int→σ→τ) (f:σ→α→σ) (s0:σ) (fin:β) (hlen:l.length≤900000000)
  (hin:∀ (a:List α) (x:α) (b:List α),l=a++x::b→step (mk (a.length:Int) (a.foldl f s0))=some (.next (mk (w64 ((a.length:Int)+1)) (f (a.foldl f s0) x))))
  (hout:step (mk (l.length:Int) (l.foldl f s0))=some (.done fin)):loopN step FUEL (mk 0 s0)=some fin:=by
 obtain ⟨r,h1,h2⟩:=loop_all (step:=step) l mk (fun a s=>s=a.foldl f s0) (fun r=>r=fin) hlen (fun a x b s hl hs=>.inr ⟨f (a.foldl f s0) x,by rw [hs];exact hin a x b hl,by rw [List.foldl_append];rfl⟩)
  (fun s hs=>⟨fin,by rw [hs];exact hout,rfl⟩) s0 rfl
 rw [h1,h2]
end Go.Proofs.Ytkimijmiphkddaa
namespace Go.Proofs.Ytkimijmiphkddaa
open Go.RowKit Go.Shelf
theorem loop_n {σ τ β:Type} {step:τ→Option (LO τ β)} (n:Nat) (mk:Int→σ→τ) (I:Nat→σ→Prop) (Q:β→Prop) (hlen:n≤900000000)
  (hin:∀ (k:Nat) (s:σ),k < n→I k s→(∃ r,step (mk (k:Int) s)=some (.done r)∧Q r)∨∃ s',step (mk (k:Int) s)=some (.next (mk (w64 ((k:Int)+1)) s'))∧I (k+1) s')
  (hout:∀ s,I n s→∃ r,step (mk (n:Int) s)=some (.done r)∧Q r) (s0:σ) (h0:I 0 s0):∃ r,loopN step FUEL (mk 0 s0)=some r∧Q r:=by
 refine loop_all (step:=step) (List.replicate n ()) mk (fun a s=>I a.length s) Q (by rw [List.length_replicate];exact hlen) (fun a x b s e hI=>?_) (fun s hI=>?_) s0 h0
 ·have:=mid_lt e
  rw [List.length_replicate] at this
  rcases hin a.length s this hI with h | ⟨s',h1,h2⟩
  ·exact .inl h
  ·exact .inr ⟨s',h1,by rw [List.length_append];exact h2⟩
 ·rw [List.length_replicate] at hI ⊢
  exact hout s hI
def far:Int:=1048576
def gt (a:List Int) (i j:Nat):Int:=a.getD (i * 9+j) 0
def Mx (a:List Int):Prop:=a.length=81∧∀ i j,i < 9→j < 9→-far≤gt a i j∧gt a i j≤far
theorem gt_get {a:List Int} (h:a.length=81) {i j:Nat} (hi:i < 9) (hj:j < 9):a[0+i * 9+j * 1]?=some (gt a i j):=by
 have:0+i * 9+j * 1=i * 9+j:=by omega
 rw [this]
 unfold gt
 rw [List.getD_eq_getElem?_getD,List.getElem?_eq_getElem (by omega)];rfl
theorem gt_set {a:List Int} (h:a.length=81) {i j:Nat} (hi:i < 9) (hj:j < 9) (v:Int) (i' j':Nat) (hi':i' < 9) (hj':j' < 9):gt (a.set (0+i * 9+j * 1) v) i' j'=if i'=i∧j'=j then v else gt a i' j':=by
 have e:0+i * 9+j * 1=i * 9+j:=by omega
 unfold gt
 rw [e,List.getD_eq_getElem?_getD,List.getElem?_set]
 by_cases hij:i'=i∧j'=j
 ·obtain ⟨rfl,rfl⟩:=hij
  rw [if_pos rfl,if_pos (And.intro rfl rfl),if_pos (by omega)];rfl
 ·rw [if_neg (by omega),if_neg hij,List.getD_eq_getElem?_getD]
theorem grd {α:Type} {k:Nat} (h:k < 9) (x:Option α):guardO (cond (decide ((0:Int)≤(k:Int))) (Nat.blt k 9) false) x=x:=by
 rw [decide_eq_true (show (0:Int)≤(k:Int) by omega),cond_true]
 show guardO (Nat.ble (k+1) 9) x=x
 rw [Nat.ble_eq_true_of_le (by omega)];rfl
def nw (a:List Int) (k i j:Nat):Int:=if gt a i k < far∧gt a k j < far then max (-far) (min (gt a i j) (gt a i k+gt a k j)) else gt a i j
def Sol (x:Nat→Int) (a:List Int):Prop:=∀ i j,i < 9→j < 9→gt a i j < far→x i - x j≤gt a i j
def Neg (a:List Int):Prop:=∃ i,i < 9∧gt a i i < 0
theorem step_eq {a:List Int} (h:Mx a) {k i j:Nat} (hk:k < 9) (hi:i < 9) (hj:j < 9) (b c:List Int):∃ a',m42_l0 ((i:Int),b) ((k:Int),c) ((j:Int),a)=some (.next (w64 ((j:Int)+1),a'))∧Mx a'∧∀ i' j',i' < 9→j' < 9→gt a' i' j'=if i'=i∧j'=j then nw a k i j else gt a i' j':=by
 have hik:=h.2 i k hi hk
 have hkj:=h.2 k j hk hj
 have hij:=h.2 i j hi hj
 unfold far at hik hkj hij
 have hw:w64 (gt a i k+gt a k j)=gt a i k+gt a k j:=w64_id (by omega) (by omega)
 unfold m42_l0
 dsimp only
 rw [decide_eq_true (show (j:Int) < 9 by omega)]
 simp only [cond_true,Int.toNat_natCast]
 rw [grd hi,grd hk,gt_get h.1 hi hk,Option.bind_some]
 by_cases c1:gt a i k < 1048576
 ·rw [decide_eq_true c1,cond_true,grd hk,grd hj,gt_get h.1 hk hj,Option.bind_some,Option.bind_some]
  by_cases c2:gt a k j < 1048576
  ·rw [decide_eq_true c2,cond_true,grd hi,grd hj,gt_get h.1 hi hj,Option.bind_some,grd hi,grd hk,Option.bind_some,grd hk,grd hj,Option.bind_some,grd hi,grd hj,hw]
   have hlt:Nat.blt (0+i * 9+j * 1) a.length=true:=Nat.ble_eq_true_of_le (by rw [h.1];omega)
   rw [hlt]
   have hnw:nw a k i j=max (-1048576) (min (gt a i j) (gt a i k+gt a k j)):=by unfold nw far;rw [if_pos ⟨c1,c2⟩]
   have hset:=fun i' j' (hi':i' < 9) (hj':j' < 9)=>gt_set h.1 hi hj (nw a k i j) i' j' hi' hj'
   rw [hnw] at hset
   refine ⟨a.set (0+i * 9+j * 1) (max (-1048576) (min (gt a i j) (gt a i k+gt a k j))),rfl,⟨by rw [List.length_set];exact h.1,fun i' j' hi' hj'=>?_⟩,fun i' j' hi' hj'=>by rw [hset i' j' hi' hj',hnw]⟩
   rw [hset i' j' hi' hj']
   unfold far
   split
   ·omega
   ·exact h.2 i' j' hi' hj'
  ·rw [decide_eq_false c2]
   refine ⟨a,Z,h,fun i' j' hi' hj'=>?_⟩
   split
   ·next e =>
    obtain ⟨rfl,rfl⟩:=e
    unfold nw far;rw [if_neg (by omega)]
   ·rfl
 ·rw [decide_eq_false c1]
  refine ⟨a,Z,h,fun i' j' hi' hj'=>?_⟩
  split
  ·next e =>
   obtain ⟨rfl,rfl⟩:=e
   unfold nw far;rw [if_neg (by omega)]
  ·rfl
def Dn (K:List Int) (k:Nat) (a:List Int) (i j:Nat):Prop:=0≤gt K k k→∀ i' j',i' < 9→j' < 9→gt a i' j'=if i' < i∨(i'=i∧j' < j) then nw K k i' j' else gt K i' j'
structure St1 (K:List Int) (k:Nat) (a:List Int) (i j:Nat):Prop where
 mx:Mx a
 dn:Dn K k a i j
 neg:Neg K→Neg a
 sol:∀ x,Sol x K→Sol x a
theorem neg_step {a a':List Int} {k i j:Nat} (hk:k < 9) (hi:i < 9) (hj:j < 9) (h:∀ i' j',i' < 9→j' < 9→gt a' i' j'=if i'=i∧j'=j then nw a k i j else gt a i' j') (hn:Neg a):Neg a':=by
 obtain ⟨p,hp,hpn⟩:=hn
 refine ⟨p,hp,?_⟩
 rw [h p p hp hp]
 split
 ·next e =>
  obtain ⟨rfl,rfl⟩:=e
  unfold nw far
  split <;> omega
 ·exact hpn
theorem sol_step {a a':List Int} {k i j:Nat} (hk:k < 9) (hi:i < 9) (hj:j < 9) (h:∀ i' j',i' < 9→j' < 9→gt a' i' j'=if i'=i∧j'=j then nw a k i j else gt a i' j') {x:Nat→Int} (hs:Sol x a):Sol x a':=by
 intro i' j' hi' hj'
 rw [h i' j' hi' hj']
 split
 ·next e =>
  obtain ⟨rfl,rfl⟩:=e
  have h1:=hs i' j' hi' hj'
  have h2:=hs i' k hi' hk
  have h3:=hs k j' hk hj'
  unfold nw
  unfold far at h1 h2 h3 ⊢
  split <;> omega
 ·exact hs i' j' hi' hj'
theorem nw_row {K:List Int} (h:Mx K) {k:Nat} (hk:k < 9) (hkk:0≤gt K k k) {i:Nat} (hi:i < 9):nw K k i k=gt K i k∧nw K k k i=gt K k i:=by
 have h1:=h.2 i k hi hk
 have h2:=h.2 k i hk hi
 have h3:=h.2 k k hk hk
 unfold nw
 unfold far at h1 h2 h3 ⊢
 constructor <;> split <;> omega
theorem dn_step {K a a':List Int} {k i j:Nat} (hK:Mx K) (hk:k < 9) (hi:i < 9) (hj:j < 9) (hd:Dn K k a i j) (h:∀ i' j',i' < 9→j' < 9→gt a' i' j'=if i'=i∧j'=j then nw a k i j else gt a i' j'):Dn K k a' i (j+1):=by
 intro hkk i' j' hi' hj'
 have e:=hd hkk
 have e1:gt a i k=gt K i k:=by
  rw [e i k hi hk]
  split
  ·exact (nw_row hK hk hkk hi).1
  ·rfl
 have e2:gt a k j=gt K k j:=by
  rw [e k j hk hj]
  split
  ·exact (nw_row hK hk hkk hj).2
  ·rfl
 have e3:gt a i j=gt K i j:=by rw [e i j hi hj,if_neg (by omega)]
 rw [h i' j' hi' hj']
 by_cases c:i'=i∧j'=j
 ·obtain ⟨rfl,rfl⟩:=c
  rw [if_pos ⟨rfl,rfl⟩,if_pos (by omega)]
  unfold nw
  rw [e1,e2,e3]
 ·rw [if_neg c,e i' j' hi' hj']
  by_cases c2:i' < i∨(i'=i∧j' < j)
  ·rw [if_pos c2,if_pos (by omega)]
  ·rw [if_neg c2,if_neg (by omega)]
theorem stage_eq {K:List Int} (hK:Mx K) {k:Nat} (hk:k < 9) (c:List Int):∃ a,loopN (m42_l1 ((k:Int),c)) FUEL (0,K)=some a∧St1 K k a 9 0:=by
 refine loop_n (step:=m42_l1 ((k:Int),c)) 9 (fun i (s:List Int)=>(i,s)) (fun i s=>St1 K k s i 0) (fun a=>St1 K k a 9 0) (by omega) (fun i s hi hI=>?_) (fun s hI=>⟨s,by unfold m42_l1;rfl,hI⟩) K
  ⟨hK,fun _ i' j' _ _=>by rw [if_neg (by omega)],fun h=>h,fun _ h=>h⟩
 obtain ⟨a,h1,h2⟩:=loop_n (step:=m42_l0 ((i:Int),s) ((k:Int),c)) 9 (fun j (s:List Int)=>(j,s)) (fun j s=>St1 K k s i j) (fun a=>St1 K k a i 9) (by omega) (fun j s hj hI=>by
   obtain ⟨a',e1,e2,e3⟩:=step_eq hI.mx hk hi hj _ c
   exact .inr ⟨a',e1,e2,dn_step hK hk hi hj hI.dn e3,fun hn=>neg_step hk hi hj e3 (hI.neg hn),fun x hx=>sol_step hk hi hj e3 (hI.sol x hx)⟩)
  (fun s hI=>⟨s,by unfold m42_l0;rfl,hI⟩) s hI
 have h1':loopN (m42_l0 ((i:Int),s) ((k:Int),c)) FUEL (0,s)=some a:=h1
 refine .inr ⟨a,?_,h2.mx,fun hkk i' j' hi' hj'=>?_,h2.neg,h2.sol⟩
 ·unfold m42_l1
  dsimp only
  rw [decide_eq_true (show (i:Int) < 9 by omega),cond_true,h1'];rfl
 ·rw [h2.dn hkk i' j' hi' hj']
  by_cases c2:i' < i∨(i'=i∧j' < 9)
  ·rw [if_pos c2,if_pos (by omega)]
  ·rw [if_neg c2,if_neg (by omega)]
structure Gd (M0:List Int) (k:Nat) (K:List Int):Prop where
 tri:∀ m i j,m < k→i < 9→j < 9→gt K i m < far→gt K m j < far→gt K i j≤gt K i m+gt K m j
 mag:∀ i j,i < 9→j < 9→gt K i j=far∨(-(101 * 2 ^ k)≤gt K i j∧gt K i j≤101 * 2 ^ k)
 dia:∀ i,i < 9→0≤gt K i i
 le:∀ i j,i < 9→j < 9→gt K i j≤gt M0 i j
theorem gd_step {M0 K a:List Int} {k:Nat} (hk:k < 9) (h:Gd M0 k K) (hs:St1 K k a 9 0) (hn:¬ Neg a):Gd M0 (k+1) a:=by
 have hkk:=h.dia k hk
 have e:∀ i j,i < 9→j < 9→gt a i j=nw K k i j:=fun i j hi hj=>by rw [hs.dn hkk i j hi hj,if_pos (by omega)]
 have p2:(2:Int) ^ (k+1)=2 * 2 ^ k:=by rw [Int.pow_succ];omega
 have pb:(2:Int) ^ k≤256∧(1:Int)≤2 ^ k:=by
  have:k=0∨k=1∨k=2∨k=3∨k=4∨k=5∨k=6∨k=7∨k=8:=by omega
  rcases this with rfl | rfl | rfl | rfl | rfl | rfl | rfl | rfl | rfl <;> decide
 have hmag:=h.mag
 generalize hq:(2:Int) ^ k=q at *
 have mg:∀ i j,i < 9→j < 9→gt K i j < 1048576→-(101 * q)≤gt K i j∧gt K i j≤101 * q:=by
  intro i j hi hj hf
  rcases hmag i j hi hj with h1 | h1
  ·unfold far at h1;omega
  ·exact h1
 have D:∀ i j,i < 9→j < 9→gt a i j≤gt K i j∧(gt K i k < 1048576→gt K k j < 1048576→gt a i j≤gt K i k+gt K k j)∧(gt a i j=gt K i j∨(gt K i k < 1048576∧gt K k j < 1048576∧gt a i j=gt K i k+gt K k j)):=by
  intro i j hi hj
  rw [e i j hi hj]
  unfold nw far
  by_cases c:gt K i k < 1048576∧gt K k j < 1048576
  ·rw [if_pos c]
   have m1:=mg i k hi hk c.1
   have m2:=mg k j hk hj c.2
   have m3:=hmag i j hi hj
   unfold far at m3
   refine ⟨by omega,fun _ _=>by omega,?_⟩
   by_cases c3:gt K i j≤gt K i k+gt K k j
   ·exact .inl (by omega)
   ·exact .inr ⟨c.1,c.2,by omega⟩
  ·rw [if_neg c]
   exact ⟨Int.le_refl _,fun h1 h2=>(c ⟨h1,h2⟩).elim,.inl Z⟩
 refine ⟨fun m i j hm hi hj f1 f2=>?_,fun i j hi hj=>?_,fun i hi=>?_,fun i j hi hj=>Int.le_trans (D i j hi hj).1 (h.le i j hi hj)⟩
 ·unfold far at f1 f2
  have hm9:m < 9:=by omega
  have d0:=D i j hi hj
  have d1:=D i m hi hm9
  have d2:=D m j hm9 hj
  by_cases cm:m=k
  ·subst cm
   have r1:gt a i m=gt K i m:=by
    rcases d1.2.2 with h1 | ⟨h1,h2,h3⟩
    ·exact h1
    ·have:=d1.1;omega
   have r2:gt a m j=gt K m j:=by
    rcases d2.2.2 with h1 | ⟨h1,h2,h3⟩
    ·exact h1
    ·have:=d2.1;omega
   rw [r1,r2]
   exact d0.2.1 (by omega) (by omega)
  ·have hmk:m < k:=by omega
   have tri:=fun i j (hi:i < 9) (hj:j < 9) (f1:gt K i m < 1048576) (f2:gt K m j < 1048576)=>h.tri m i j hmk hi hj f1 f2
   rcases d1.2.2 with h1 | ⟨h1,h1',h1''⟩ <;> rcases d2.2.2 with h2 | ⟨h2,h2',h2''⟩
   ·have:=tri i j hi hj (by omega) (by omega)
    have:=d0.1
    omega
   ·have t1:=tri i k hi hk (by omega) h2
    have m1:=mg i m hi hm9 (by omega)
    have m2:=mg m k hm9 hk h2
    have:=d0.2.1 (by omega) h2'
    omega
   ·have t1:=tri k j hk hj h1' (by omega)
    have m1:=mg k m hk hm9 h1'
    have m2:=mg m j hm9 hj (by omega)
    have:=d0.2.1 h1 (by omega)
    omega
   ·have t1:=tri k k hk hk h1' h2
    have:=d0.2.1 h1 h2'
    omega
 ·rw [p2]
  unfold far
  have d0:=D i j hi hj
  rcases d0.2.2 with h1 | ⟨h1,h2,h3⟩
  ·rw [h1]
   rcases hmag i j hi hj with h4 | h4
   ·exact .inl h4
   ·exact .inr (by omega)
  ·have m1:=mg i k hi hk h1
   have m2:=mg k j hk hj h2
   exact .inr (by omega)
 ·exact Int.not_lt.1 fun hlt=>hn ⟨i,hi,hlt⟩
end Go.Proofs.Ytkimijmiphkddaa
namespace Go.Proofs.Ytkimijmiphkddaa
open Go.RowKit Go.Shelf
theorem sol_neg {x:Nat→Int} {a:List Int} (h:Sol x a) (hn:Neg a):False:=by
 obtain ⟨i,hi,hlt⟩:=hn
 have:=h i i hi hi (by unfold far;omega)
 omega
theorem diag_eq (a:List Int) (h:a.length=81):∃ b,Option.bind (loopN (m42_l3 a) FUEL 0) (Sum.elim (fun (o2:Unit)=>some true) (fun o=>some o))=some b∧(b=true↔¬ Neg a):=by
 obtain ⟨r,h1,h2⟩:=loop_n (step:=m42_l3 a) 9 (fun i (_:Unit)=>i) (fun i _=>∀ p,p < i→0≤gt a p p) (fun r=>(r=.inl ()∧¬ Neg a)∨(r=.inr false∧Neg a)) (by omega)
  (fun i s hi hI=>by
   have e:m42_l3 a (i:Int)=cond (decide (gt a i i < 0)) (some (.done (.inr false))) (some (.next (w64 ((i:Int)+1)))):=by
    unfold m42_l3
    rw [decide_eq_true (show (i:Int) < 9 by omega)]
    simp only [cond_true,Int.toNat_natCast]
    rw [grd hi,grd hi,gt_get h hi hi];rfl
   by_cases c:gt a i i < 0
   ·exact .inl ⟨.inr false,by rw [e,decide_eq_true c];rfl,.inr ⟨rfl,i,hi,c⟩⟩
   ·refine .inr ⟨(),by rw [e,decide_eq_false c];rfl,fun p hp=>?_⟩
    by_cases hpi:p=i
    ·rw [hpi];omega
    ·exact hI p (by omega))
  (fun s hI=>⟨.inl (),by unfold m42_l3;rfl,.inl ⟨rfl,fun ⟨i,hi,hlt⟩=>by have:=hI i hi;omega⟩⟩) () (fun p hp=>by omega)
 have h1':loopN (m42_l3 a) FUEL 0=some r:=h1
 rw [h1']
 rcases h2 with ⟨rfl,h3⟩ | ⟨rfl,h3⟩
 ·exact ⟨true,rfl,fun _=>h3,fun _=>rfl⟩
 ·exact ⟨false,rfl,(fun h=>by cases h),fun h=>(h h3).elim⟩
def Nats (a:List Int):Prop:=∃ x:Nat→Int,x 0=0∧(∀ i,i < 9→0≤x i)∧Sol x a
theorem possible_eq (a:List Int) (hA:Mx a) (hm:∀ i j,i < 9→j < 9→gt a i j=far∨(-101≤gt a i j∧gt a i j≤101)) (h0:∀ i,i < 9→gt a 0 i≤0):∃ b,m42 a=some b∧(b=true↔Nats a):=by
 obtain ⟨f,h1,h2,h3,h4⟩:=loop_n (step:=m42_l2) 9 (fun k (s:List Int)=>(k,s)) (fun k s=>Mx s∧(∀ x,Sol x a→Sol x s)∧(Neg s∨Gd a k s)) (fun s=>Mx s∧(∀ x,Sol x a→Sol x s)∧(Neg s∨Gd a 9 s)) (by omega)
  (fun k s hk hI=>by
   obtain ⟨i1,i2,i3⟩:=hI
   obtain ⟨a',e1,e2⟩:=stage_eq i1 hk s
   refine .inr ⟨a',?_,e2.mx,fun x hx=>e2.sol x (i2 x hx),?_⟩
   ·unfold m42_l2
    dsimp only
    rw [decide_eq_true (show (k:Int) < 9 by omega),cond_true,e1];rfl
   ·rcases i3 with i3 | i3
    ·exact .inl (e2.neg i3)
    ·by_cases hn:Neg a'
     ·exact .inl hn
     ·exact .inr (gd_step hk i3 e2 hn))
  (fun s hI=>⟨s,by unfold m42_l2;rfl,hI⟩) a ⟨hA,fun x hx=>hx,by
   by_cases hn:Neg a
   ·exact .inl hn
   ·refine .inr ⟨fun m i j hm=>by omega,fun i j hi hj=>?_,fun i hi=>Int.not_lt.1 fun hlt=>hn ⟨i,hi,hlt⟩,fun i j _ _=>Int.le_refl _⟩
    rcases hm i j hi hj with h | h
    ·exact .inl h
    ·exact .inr (by simpa using h)⟩
 obtain ⟨b,h5,h6⟩:=diag_eq f h2.1
 have h1':loopN m42_l2 FUEL (0,a)=some f:=h1
 refine ⟨b,?_,h6.trans ⟨fun hn=>?_,fun ⟨x,_,_,hx⟩ hn=>sol_neg (h3 x hx) hn⟩⟩
 ·unfold m42
  rw [h1',Option.bind_some];exact h5
 ·rcases h4 with h4 | h4
  ·exact (hn h4).elim
  ·have hz:∀ i,i < 9→gt f 0 i≤0:=fun i hi=>Int.le_trans (h4.le 0 i (by omega) hi) (h0 i hi)
   refine ⟨fun i=>-(gt f 0 i),?_,fun i hi=>?_,fun i j hi hj hf=>?_⟩
   ·have h7:=h4.dia 0 (by omega)
    have h8:=hz 0 (by omega)
    show -(gt f 0 0)=0
    omega
   ·have:=hz i hi
    show 0≤-(gt f 0 i)
    omega
   ·have h7:=h4.le i j hi hj
    have h8:=hz i hi
    have h9:=h4.tri i 0 j hi (by omega) hj (by unfold far;omega) (by unfold far at hf ⊢;omega)
    show -(gt f 0 i) - -(gt f 0 j)≤gt a i j
    omega
end Go.Proofs.Ytkimijmiphkddaa
namespace Go.Proofs.Ytkimijmiphkddaa
open Go.RowKit Go.Shelf
def Part (l:Lvl):Prop:=(l.vs=[]∧0≤l.c∧l.c≤100)∨∃ v,l.vs=[v]∧0≤v.1∧v.1≤7∧0≤v.2∧v.2≤100
def ptI (l:Lvl):Nat:=match l.vs with
 | []=>0
 | v::_=>v.1.toNat+1
def ptP (l:Lvl):Int:=match l.vs with
 | []=>l.c
 | v::_=>v.2
def pv (x:Nat→Int) (l:Lvl):Int:=ptP l+x (ptI l)
theorem m63_eq {l:Lvl} (h:Part l):m63 l=some ((ptI l:Int),ptP l)∧ptI l < 9∧0≤ptP l∧ptP l≤100:=by
 rcases h with ⟨h1,h2,h3⟩ | ⟨v,h1,h2,h3,h4,h5⟩
 ·unfold m63 ptI ptP
  rw [h1]
  exact ⟨rfl,by decide,h2,h3⟩
 ·have e:w64 (v.1+1)=((v.1.toNat+1:Nat):Int):=by rw [w64_id (by omega) (by omega)];omega
  unfold m63 ptI ptP
  rw [h1]
  refine ⟨?_,by show v.1.toNat+1 < 9;omega,h4,h5⟩
  show some (w64 (v.1+1),v.2)=_
  rw [e]
structure Ini (a:List Int):Prop where
 mx:Mx a
 mag:∀ i j,i < 9→j < 9→gt a i j=far∨(-101≤gt a i j∧gt a i j≤101)
 low:∀ i,i < 9→gt a 0 i≤0
def dem (l h:Lvl) (more:Int) (a:List Int):Option (List Int) :=
 Option.bind (m63 l) fun (x1:Int×Int) =>
 Option.bind (m63 h) fun (x2:Int×Int) =>
 guardO (cond (decide (0≤x1.1)) (Nat.blt x1.1.toNat 9) false)
 (guardO (cond (decide (0≤x2.1)) (Nat.blt x2.1.toNat 9) false)
 (Option.bind (a[0+x1.1.toNat * 9+x2.1.toNat * 1]?) fun (x5:Int) =>
 guardO (cond (decide (0≤x1.1)) (Nat.blt x1.1.toNat 9) false)
 (guardO (cond (decide (0≤x2.1)) (Nat.blt x2.1.toNat 9) false)
 (guardO (Nat.blt (0+x1.1.toNat * 9+x2.1.toNat * 1) a.length)
 (some (a.set (0+x1.1.toNat * 9+x2.1.toNat * 1) (min x5 (w64 ((w64 (x2.2 - x1.2)) - more)))))))))
theorem dem27 (a0 a1:Int) (m:Int) (a:List Int):m41f27 a0 a1 m a=dem ⟨a0,[]⟩ ⟨a1,[]⟩ m a:=rfl
theorem dem29 (a0 a1:Int) (a2:List LV) (m:Int) (a:List Int):m41f29 a0 a1 a2 m a=dem ⟨a0,[]⟩ ⟨a1,a2⟩ m a:=rfl
theorem dem_eq {l h:Lvl} (hl:Part l) (hh:Part h) {m:Int} (hm0:0≤m) (hm1:m≤1) {a:List Int} (ha:Ini a):∃ a',dem l h m a=some a'∧Ini a'∧∀ x,Sol x a'↔Sol x a∧pv x l+m≤pv x h:=by
 obtain ⟨e1,i9,p0,p1⟩:=m63_eq hl
 obtain ⟨e2,j9,q0,q1⟩:=m63_eq hh
 unfold pv
 generalize ptI l=i at *
 generalize ptI h=j at *
 generalize ptP l=p at *
 generalize ptP h=q at *
 have hw:w64 (w64 (q - p) - m)=q - p - m:=by rw [w64_id (n:=q - p) (by omega) (by omega),w64_id (by omega) (by omega)]
 have hlen:=ha.mx.1
 refine ⟨a.set (0+i * 9+j * 1) (min (gt a i j) (q - p - m)),?_,?_⟩
 ·unfold dem
  rw [e1,e2]
  simp only [Option.bind_some,Int.toNat_natCast]
  rw [grd i9,grd j9,gt_get hlen i9 j9,Option.bind_some,grd i9,grd j9,hw,show Nat.blt (0+i * 9+j * 1) a.length=true from Nat.ble_eq_true_of_le (by rw [hlen];omega)]
  rfl
 ·have hs:=fun i' j' (hi':i' < 9) (hj':j' < 9)=>gt_set hlen i9 j9 (min (gt a i j) (q - p - m)) i' j' hi' hj'
  have hl':(a.set (0+i * 9+j * 1) (min (gt a i j) (q - p - m))).length=81:=by rw [List.length_set];exact hlen
  generalize a.set (0+i * 9+j * 1) (min (gt a i j) (q - p - m))=a' at *
  have hij:=ha.mx.2 i j i9 j9
  have hmg:=ha.mag i j i9 j9
  unfold far at hij hmg
  refine ⟨⟨⟨hl',fun i' j' hi' hj'=>?_⟩,fun i' j' hi' hj'=>?_,fun i' hi'=>?_⟩,fun x=>⟨fun h=>⟨fun i' j' hi' hj' hf=>?_,?_⟩,fun ⟨h1,h2⟩ i' j' hi' hj' hf=>?_⟩⟩
  ·rw [hs i' j' hi' hj'];unfold far
   split
   ·omega
   ·exact ha.mx.2 i' j' hi' hj'
  ·rw [hs i' j' hi' hj'];unfold far
   split
   ·omega
   ·exact ha.mag i' j' hi' hj'
  ·rw [hs 0 i' (by omega) hi']
   split
   ·next e =>
    obtain ⟨rfl,rfl⟩:=e
    have:=ha.low i' hi'
    omega
   ·exact ha.low i' hi'
  ·have h3:=h i' j' hi' hj'
   rw [hs i' j' hi' hj'] at h3
   unfold far at h3 hf
   by_cases e:i'=i∧j'=j
   ·rw [if_pos e] at h3
    obtain ⟨rfl,rfl⟩:=e
    omega
   ·rw [if_neg e] at h3;exact h3 hf
  ·have h3:=h i j i9 j9
   rw [hs i j i9 j9,if_pos ⟨rfl,rfl⟩] at h3
   unfold far at h3
   omega
  ·rw [hs i' j' hi' hj'] at hf ⊢
   by_cases e:i'=i∧j'=j
   ·rw [if_pos e] at hf ⊢
    obtain ⟨rfl,rfl⟩:=e
    have h3:=h1 i' j' hi' hj'
    unfold far at h3 hf
    omega
   ·rw [if_neg e] at hf ⊢;exact h1 i' j' hi' hj' hf
def partsL (L:Lvl):List Lvl:=(if 0 < L.c∨L.vs=[] then [⟨L.c,[]⟩] else [])++L.vs.map (fun v=>⟨0,[v]⟩)
theorem bs {α:Type} (o:Option α):Option.bind o (fun x=>some x)=o:=by cases o <;> rfl
theorem len0 {α:Type} (l:List α):((l.length:Int)==0)=decide (l=[]):=by
 rw [beqI]
 congr 1
 rw [eq_iff_iff]
 exact ⟨fun h=>List.length_eq_zero_iff.1 (by omega),fun h=>by rw [h];rfl⟩
theorem snoc_len:∀ (l:List LV) (s:List Lvl),(l.foldl (fun s v=>s++[(⟨0,[v]⟩:Lvl)]) s).length=s.length+l.length
 | [],s=>rfl
 | z::l,s=>by
  rw [List.foldl_cons,snoc_len l]
  simp only [List.length_append,List.length_cons,List.length_nil]
  omega
theorem m39_eq (L:Lvl) (hl:L.vs.length≤900000000):m39f23 L=some (partsL L):=by
 have hloop:∀ s0:List Lvl,s0.length≤1→loopN (m61f24_l0 L) FUEL (0,s0)=some (s0++L.vs.map (fun v=>⟨0,[v]⟩)):=by
  intro s0 hs
  refine loop_fold (step:=m61f24_l0 L) L.vs (fun i (s:List Lvl)=>(i,s)) (fun s v=>s++[(⟨0,[v]⟩:Lvl)]) s0 _ hl (fun a x b e=>?_) ?_
  ·have hm:=mid_lt e
   have hlen:=snoc_len a s0
   unfold m61f24_l0
   dsimp only
   rw [e,lt_mid,idx_mid]
   simp only [cond_true,Option.bind_some]
   rw [guard_le (by rw [hlen,List.length_singleton];omega)];rfl
  ·have:∀ (l:List LV) (s:List Lvl),l.foldl (fun s v=>s++[(⟨0,[v]⟩:Lvl)]) s=s++l.map (fun v=>⟨0,[v]⟩):=by
    intro l
    induction l with
    | nil=>intro s;simp
    | cons z l ih=>intro s;rw [List.foldl_cons,ih];simp
   rw [this]
   unfold m61f24_l0
   dsimp only
   rw [lt_end];rfl
 unfold m39f23 m61f24 partsL
 simp only [bs]
 rw [len0]
 by_cases c1:0 < L.c
 ·rw [decide_eq_true c1,cond_true,if_pos (Or.inl c1),guard_le (by simp)]
  exact hloop [⟨L.c,[]⟩] (by simp)
 ·rw [decide_eq_false c1,cond_false]
  by_cases c2:L.vs=[]
  ·rw [decide_eq_true c2,cond_true,if_pos (Or.inr c2),guard_le (by simp)]
   exact hloop [⟨L.c,[]⟩] (by simp)
  ·rw [decide_eq_false c2,if_neg (by rintro (h | h) <;> contradiction)]
   exact hloop [] (by simp)
theorem all_parts (L:Lvl) (hl:L.vs.length≤900000000) (D:Lvl→List Int→Option (List Int)) (R:(Nat→Int)→Lvl→Prop)
  (hD:∀ p∈partsL L,∀ a,Ini a→∃ a',D p a=some a'∧Ini a'∧∀ x,Sol x a'↔Sol x a∧R x p) {step:Int×List Int→Option (LO (Int×List Int) (List Int))}
  (hstep:∀ (a:List LV) (v:LV) (b:List LV) (s:List Int),L.vs=a++v::b→step ((a.length:Int),s)=Option.bind (D ⟨0,[v]⟩ s) (fun y=>some (.next (w64 ((a.length:Int)+1),y))))
  (hout:∀ s,step ((L.vs.length:Int),s)=some (.done s)) (a:List Int) (ha:Ini a) :
  ∃ a',Option.bind (cond (decide (0 < L.c)) (D ⟨L.c,[]⟩ a) (cond ((L.vs.length:Int)==0) (D ⟨L.c,[]⟩ a) (some a))) (fun v=>loopN step FUEL (0,v))=some a'∧Ini a'∧∀ x,Sol x a'↔Sol x a∧∀ p∈partsL L,R x p:=by
 have vars:∀ s0,Ini s0→∃ a',loopN step FUEL (0,s0)=some a'∧Ini a'∧∀ x,Sol x a'↔Sol x s0∧∀ v∈L.vs,R x ⟨0,[v]⟩:=by
  intro s0 h0
  exact loop_all (step:=step) L.vs (fun i (s:List Int)=>(i,s)) (fun p s=>Ini s∧∀ x,Sol x s↔Sol x s0∧∀ v∈p,R x ⟨0,[v]⟩) (fun s=>Ini s∧∀ x,Sol x s↔Sol x s0∧∀ v∈L.vs,R x ⟨0,[v]⟩) hl
   (fun p v q s e hI=>by
    obtain ⟨a',h1,h2,h3⟩:=hD ⟨0,[v]⟩ (by unfold partsL;exact List.mem_append_right _ (List.mem_map.2 ⟨v,by rw [e];simp,rfl⟩)) s hI.1
    refine .inr ⟨a',by rw [hstep p v q s e,h1];rfl,h2,fun x=>?_⟩
    rw [h3,hI.2]
    constructor
    ·rintro ⟨⟨h4,h5⟩,h6⟩
     refine ⟨h4,fun u hu=>?_⟩
     rcases List.mem_append.1 hu with hu | hu
     ·exact h5 u hu
     ·rw [List.mem_singleton.1 hu];exact h6
    ·rintro ⟨h4,h5⟩
     exact ⟨⟨h4,fun u hu=>h5 u (List.mem_append_left _ hu)⟩,h5 v (by simp)⟩)
   (fun s hI=>⟨s,hout s,hI⟩) s0 ⟨h0,fun x=>⟨fun h=>⟨h,fun v hv=>by cases hv⟩,fun h=>h.1⟩⟩
 rw [len0]
 by_cases c:0 < L.c∨L.vs=[]
 ·have hp:⟨L.c,[]⟩∈partsL L:=by unfold partsL;rw [if_pos c];simp
  obtain ⟨a1,h1,h2,h3⟩:=hD _ hp a ha
  obtain ⟨a2,h4,h5,h6⟩:=vars a1 h2
  have e:cond (decide (0 < L.c)) (D ⟨L.c,[]⟩ a) (cond (decide (L.vs=[])) (D ⟨L.c,[]⟩ a) (some a))=some a1:=by
   rw [h1]
   rcases c with c | c
   ·rw [decide_eq_true c];rfl
   ·rw [decide_eq_true c];cases decide (0 < L.c) <;> rfl
  rw [e]
  refine ⟨a2,h4,h5,fun x=>?_⟩
  rw [h6,h3]
  unfold partsL
  rw [if_pos c]
  constructor
  ·rintro ⟨⟨h7,h8⟩,h9⟩
   refine ⟨h7,fun p hp=>?_⟩
   rcases List.mem_append.1 hp with hp | hp
   ·rw [List.mem_singleton.1 hp];exact h8
   ·obtain ⟨v,hv,rfl⟩:=List.mem_map.1 hp
    exact h9 v hv
  ·rintro ⟨h7,h8⟩
   exact ⟨⟨h7,h8 _ (by simp)⟩,fun v hv=>h8 _ (List.mem_append_right _ (List.mem_map.2 ⟨v,hv,rfl⟩))⟩
 ·obtain ⟨a2,h4,h5,h6⟩:=vars a ha
  rw [decide_eq_false (fun h=>c (.inl h)),decide_eq_false (fun h=>c (.inr h))]
  refine ⟨a2,h4,h5,fun x=>?_⟩
  rw [h6]
  unfold partsL
  rw [if_neg c]
  refine and_congr_right fun _=>⟨fun h p hp=>?_,fun h v hv=>h _ (List.mem_append_right _ (List.mem_map.2 ⟨v,hv,Z⟩))⟩
  rw [List.nil_append] at hp
  obtain ⟨v,hv,rfl⟩:=List.mem_map.1 hp
  exact h v hv
end Go.Proofs.Ytkimijmiphkddaa
namespace Go.Proofs.Ytkimijmiphkddaa
open Go.RowKit Go.Shelf
def LvV (L:Lvl):Prop:=0≤L.c∧L.c≤100∧∀ v∈L.vs,0≤v.1∧v.1≤7∧0≤v.2∧v.2≤100
theorem LvV.part {L:Lvl} (h:LvV L) {p:Lvl} (hp:p∈partsL L):Part p:=by
 unfold partsL at hp
 rcases List.mem_append.1 hp with hp | hp
 ·split at hp
  ·rw [List.mem_singleton.1 hp];exact .inl ⟨rfl,h.1,h.2.1⟩
  ·cases hp
 ·obtain ⟨v,hv,rfl⟩:=List.mem_map.1 hp
  obtain ⟨h1,h2,h3,h4⟩:=h.2.2 v hv
  exact .inr ⟨v,Z,h1,h2,h3,h4⟩
theorem LvV.var {L:Lvl} (h:LvV L) {v:LV} (hv:v∈L.vs):Part ⟨0,[v]⟩:=h.part (by unfold partsL;exact List.mem_append_right _ (List.mem_map.2 ⟨v,hv,rfl⟩))
theorem parts_ne (L:Lvl):partsL L ≠ []:=by
 unfold partsL
 cases h:L.vs with
 | nil=>rw [if_pos (Or.inr rfl)];simp
 | cons v l=>simp
def Nt (x:Nat→Int):Prop:=x 0=0∧∀ i,i < 9→0≤x i
theorem ref_gen (hi p:Lvl) (hhi:LvV hi) (hp:Part p) (hl:hi.vs.length≤900000000) {step:Int×List Int→Option (LO (Int×List Int) (List Int))}
  (hstep:∀ (a:List LV) (v:LV) (b:List LV) (s:List Int),hi.vs=a++v::b→step ((a.length:Int),s)=Option.bind (dem ⟨0,[v]⟩ p 1 s) (fun y=>some (.next (w64 ((a.length:Int)+1),y))))
  (hout:∀ s,step ((hi.vs.length:Int),s)=some (.done s)) (o8:List Int) (h8:Ini o8) :
  ∃ b:Bool,(guardO (Nat.beq o8.length 81) (guardO (Nat.beq (List.replicate 81 (0:Int)).length 81) (guardO (Nat.beq o8.length 81)
   (Option.bind (Option.bind (cond (decide (0 < hi.c)) (dem ⟨hi.c,[]⟩ p 1 o8) (cond ((hi.vs.length:Int)==0) (dem ⟨hi.c,[]⟩ p 1 o8) (some o8))) (fun v=>loopN step FUEL (0,v)))
    (fun (y28:List Int)=>guardO (Nat.beq y28.length 81) (Option.bind (m42 y28) fun (x50:Bool)=>cond x50 (some (.inr ():Unit⊕Unit)) (some (.inl ()))))))))=some (cond b (.inr ()) (.inl ())) ∧
   (b=true↔∃ x,Nt x∧Sol x o8∧∀ o∈partsL hi,pv x o+1≤pv x p):=by
 obtain ⟨y,h1,h2,h3⟩:=all_parts hi hl (fun o a=>dem o p 1 a) (fun x o=>pv x o+1≤pv x p) (fun o ho a ha=>dem_eq (hhi.part ho) hp (by omega) (by omega) ha) hstep hout o8 h8
 obtain ⟨b,h4,h5⟩:=possible_eq y h2.mx h2.mag h2.low
 have hlen:=h8.mx.1
 have hlen2:=h2.mx.1
 refine ⟨b,?_,h5.trans ⟨fun ⟨x,hx0,hx1,hx2⟩=>?_,fun ⟨x,hx,h6,h7⟩=>⟨x,hx.1,hx.2,(h3 x).2 ⟨h6,h7⟩⟩⟩⟩
 ·have h1':Option.bind (cond (decide (0 < hi.c)) (dem ⟨hi.c,[]⟩ p 1 o8) (cond ((hi.vs.length:Int)==0) (dem ⟨hi.c,[]⟩ p 1 o8) (some o8))) (fun v=>loopN step FUEL (0,v))=some y:=h1
  rw [guard_eq hlen,guard_eq (by rw [List.length_replicate]),guard_eq hlen,h1',Option.bind_some,guard_eq hlen2,h4,Option.bind_some]
  cases b <;> rfl
 ·obtain ⟨h6,h7⟩:=(h3 x).1 hx2
  exact ⟨x,⟨hx0,hx1⟩,h6,h7⟩
def M0:List Int:=(List.range 81).map fun t=>if t < 9∨t / 9=t % 9 then 0 else 1048576
theorem init_eq:loopN m18_l1 FUEL (0,(List.replicate 81 (0:Int)))=some M0:=by kernel_rfl
theorem M0_get:∀ i,i < 9→∀ j,j < 9→gt M0 i j=if i=0∨i=j then 0 else 1048576:=by decide +kernel
theorem M0_ini:Ini M0:=by
 refine ⟨⟨by decide +kernel,fun i j hi hj=>?_⟩,fun i j hi hj=>?_,fun i hi=>?_⟩
 ·rw [M0_get i hi j hj];unfold far;split <;> omega
 ·rw [M0_get i hi j hj];unfold far;split <;> omega
 ·rw [M0_get 0 (by omega) i hi,if_pos (Or.inl rfl)];omega
theorem M0_sol {x:Nat→Int} (h:Nt x):Sol x M0:=by
 intro i j hi hj hf
 rw [M0_get i hi j hj] at hf ⊢
 have h1:=h.1
 have h2:=h.2 j hj
 unfold far at hf
 split
 ·next e =>
  rcases e with rfl | rfl
  ·omega
  ·omega
 ·next e=>rw [if_neg e] at hf;omega
def one1 (bd:Bnd):Prop:=(partsL bd.hi).length=1
def holdsB (x:Nat→Int) (bd:Bnd):Prop:=∀ h,h∈partsL bd.hi→∀ p∈partsL bd.lo,pv x p≤pv x h
structure BdV (bd:Bnd):Prop where
 lo:LvV bd.lo
 hi:LvV bd.hi
 ll:bd.lo.vs.length≤900000000
 lh:bd.hi.vs.length≤900000000
theorem bounds_eq (a0:List Bnd) (hl:a0.length≤900000000) (hv:∀ bd∈a0,BdV bd):∃ r,loopN (m18_l3 a0) FUEL (0,M0)=some r ∧
  ((r=.inr (false,1)∧¬ ∀ bd∈a0,one1 bd)∨∃ s,r=.inl s∧(∀ bd∈a0,one1 bd)∧Ini s∧∀ x,Sol x s↔Sol x M0∧∀ bd∈a0,holdsB x bd):=by
 refine loop_all (step:=m18_l3 a0) a0 (fun i (s:List Int)=>(i,s)) (fun a s=>(∀ bd∈a,one1 bd)∧Ini s∧∀ x,Sol x s↔Sol x M0∧∀ bd∈a,holdsB x bd) (fun r=>(r=.inr (false,1)∧¬ ∀ bd∈a0,one1 bd)∨∃ s,r=.inl s∧(∀ bd∈a0,one1 bd)∧Ini s∧∀ x,Sol x s↔Sol x M0∧∀ bd∈a0,holdsB x bd) hl
  (fun a bd b s e hI=>?_) (fun s hI=>⟨.inl s,by unfold m18_l3;dsimp only;rw [lt_end];rfl,.inr ⟨s,rfl,hI⟩⟩) M0 ⟨(fun bd h=>by cases h),M0_ini,fun x=>⟨fun h=>⟨h,(fun bd h=>by cases h)⟩,fun h=>h.1⟩⟩
 have hbd:=hv bd (by rw [e];simp)
 have hlt:decide ((a.length:Int) < (a0.length:Int))=true:=by rw [e];exact lt_mid a bd b
 have hidx:idx a0 (a.length:Int)=some bd:=by rw [e];exact idx_mid a bd b
 have hne:=parts_ne bd.hi
 by_cases c:1 < ((partsL bd.hi).length:Int)
 ·refine .inl ⟨.inr (false,1),?_,.inl ⟨rfl,fun h=>by have:=h bd (by rw [e];simp);unfold one1 at this;omega⟩⟩
  unfold m18_l3
  dsimp only
  rw [hlt,hidx]
  simp only [cond_true,Option.bind_some]
  rw [m39_eq _ hbd.lh,Option.bind_some,decide_eq_true c];rfl
 ·obtain ⟨h,hh⟩:∃ h,partsL bd.hi=[h]:=by
   cases hp:partsL bd.hi with
   | nil=>exact (hne hp).elim
   | cons h l =>
    cases l with
    | nil=>exact ⟨h,rfl⟩
    | cons y l=>rw [hp] at c;simp at c;omega
  have hpart:Part h:=hbd.hi.part (by rw [hh];simp)
  obtain ⟨s',h1,h2,h3⟩:=all_parts bd.lo hbd.ll (fun p a=>dem p h 0 a) (fun x p=>pv x p+0≤pv x h) (fun p hp a ha=>dem_eq (hbd.lo.part hp) hpart (by omega) (by omega) ha) (step:=m18_l2 bd [h])
   (fun a v b s e=>by
    unfold m18_l2
    dsimp only
    rw [e,lt_mid,idx_mid]
    simp only [cond_true,Option.bind_some,bs]
    rfl)
   (fun s=>by unfold m18_l2;dsimp only;rw [lt_end];rfl) s hI.2.1
  refine .inr ⟨s',?_,fun b' hb'=>?_,h2,fun x=>?_⟩
  ·unfold m18_l3
   dsimp only
   rw [hlt,hidx]
   simp only [cond_true,Option.bind_some]
   rw [m39_eq _ hbd.lh,Option.bind_some,hh]
   simp only [bs]
   show Option.bind (Option.bind (cond (decide (0 < bd.lo.c)) (dem ⟨bd.lo.c,[]⟩ h 0 s) (cond ((bd.lo.vs.length:Int)==0) (dem ⟨bd.lo.c,[]⟩ h 0 s) (some s))) (fun v=>loopN (m18_l2 bd [h]) FUEL (0,v))) _=_
   have h1':Option.bind (cond (decide (0 < bd.lo.c)) (dem ⟨bd.lo.c,[]⟩ h 0 s) (cond ((bd.lo.vs.length:Int)==0) (dem ⟨bd.lo.c,[]⟩ h 0 s) (some s))) (fun v=>loopN (m18_l2 bd [h]) FUEL (0,v))=some s':=h1
   rw [h1'];rfl
  ·rcases List.mem_append.1 hb' with hb' | hb'
   ·exact hI.1 b' hb'
   ·rw [List.mem_singleton.1 hb'];unfold one1;rw [hh];rfl
  ·rw [h3,hI.2.2]
   have hone:holdsB x bd↔∀ p∈partsL bd.lo,pv x p+0≤pv x h:=by
    unfold holdsB
    rw [hh]
    exact ⟨fun h1 p hp=>by have:=h1 h (by simp) p hp;omega,fun h1 h' hh' p hp=>by rw [List.mem_singleton.1 hh'];have:=h1 p hp;omega⟩
   constructor
   ·rintro ⟨⟨h4,h5⟩,h6⟩
    refine ⟨h4,fun b' hb'=>?_⟩
    rcases List.mem_append.1 hb' with hb' | hb'
    ·exact h5 b' hb'
    ·rw [List.mem_singleton.1 hb'];exact hone.2 h6
   ·rintro ⟨h4,h5⟩
    exact ⟨⟨h4,fun b' hb'=>h5 b' (List.mem_append_left _ hb')⟩,hone.1 (h5 bd (by simp))⟩
end Go.Proofs.Ytkimijmiphkddaa
namespace Go.Proofs.Ytkimijmiphkddaa
open Go.RowKit Go.Shelf
theorem en_13:Enters Try.prog 13:=enters_of Try.func13 (by kernel_rfl) rfl
theorem en_29:Enters Try.prog 29:=enters_of Try.func29 (by kernel_rfl) rfl
theorem en_52:Enters Try.prog 52:=enters_of Try.func52 (by kernel_rfl) rfl
theorem en_53:Enters Try.prog 53:=enters_of Try.func53 (by kernel_rfl) rfl
theorem en_75:Enters Try.prog 75:=enters_of Try.func75 (by kernel_rfl) rfl
def m53f5 (a0:Int) (a1:Int):Option Unit :=
 some ()
theorem m53f5_ok (a0:Int) (a1:Int) (r:Unit) (h0:m53f5 a0 a1=some r):CallM Try.prog 53 [.one (dI a0),.one (.ptr 0 0)] ⟨[(0,.cells 3 [dI a1])],[],1⟩ (resOf [.one (dB (decide (a1≤a0)))]) ⟨[(0,.cells 3 [dI a1])],[],1⟩:=by
 unfold m53f5 at h0
 refine CallM.of_bodyD ⟨[(3,.v (.one (dB (decide (a1≤a0)))))],[(0,.cells 3 [dI a1])],[],1,7,[]⟩ Z Z en_53 (lb Z) Z (RAs.tmp Z .nil) (fun w0 M V0 Q hv0 hQ0=>?_)
 simp only [entry]
 refine XC.seq<|XC.region<|rA Z Z Z<|XL.nil<|XQ.seq<|XC.seq<|XC.region<|rM Z Z Z<|rR Z Z Z (RO.loadOwn ag_3 Z Z Z)<|rR Z Z Z (RO.binInt Z Z Z)<|rA Z Z Z<|XL.nil<|XQ.seq<|XC.ret ?_
 have e:=sI h0;subst e
 exact hQ0 _ _ _ (.inr Z) Z (sL (Nat.le_trans hv0 (lb Z)) Z Z Z Z Z)
def m75f4_l0 (a0:List Int) (a1:Int) (s1:Int):Option (LO Int (Unit⊕Int)) :=
 cond (decide (s1 < (a0.length:Int)))
   (Option.bind (idx a0 s1) fun (x3:Int) =>
 Option.bind (m53f5 x3 a1) fun (x4:Unit) =>
 cond (decide (a1≤x3))
   (some (.done (.inr s1)))
   (some (.next (w64 (s1+1)))))
   (some (.done (.inl ())))
def m75f4 (a0:List Int) (a1:Int):Option Int :=
 Option.bind (loopN (m75f4_l0 a0 a1) FUEL 0) (Sum.elim (fun (o1:Unit)=>some (-1)) (fun o=>some o))
theorem m75f4_ok (a0:List Int) (a1:Int) (r:Int) (h0:m75f4 a0 a1=some r):CallM Try.prog 75 [.one (dS a0),.one (.fn 53 [(0,0)])] ⟨[(0,.cells 3 [dI a1])],[],1⟩ (resOf [.one (dI r)]) ⟨[(0,.cells 3 [dI a1])],[],1⟩:=by
 unfold m75f4 at h0
 refine CallM.of_bodyD ⟨[(4,.v (.one (dI r)))],[(0,.cells 3 [dI a1])],[],1,19,[]⟩ Z Z en_75 (lb Z) Z (RAs.tmp Z .nil) (fun w0 M V0 Q hv0 hQ0=>?_)
 simp only [entry]
 refine XC.seq<|XC.region<|rA Z Z Z<|XL.nil<|XQ.seq<|XC.seq<|XC.seq<|XC.region<|rM Z Z Z<|rR Z Z Z (RO.lenE (α:=Int) sl_66 Z (.d _))<|rM Z Z Z<|XL.nil<|XQ.seq<|XC.block ?_
 refine XC.joinX 0 (fun (o1:Unit)=>⟨[],[(0,.cells 3 [dI a1])],[],1,19,[]⟩) (fun (o1:Unit)=>(some (-1))=some r) ?_ ?_
 refine bindK h0 (fun o2 hl1 h0=>?_)
 refine XC.loopM (m75f4_l0 a0 a1) (fun s1=>⟨[(0,.v (.one (dS a0))),(1,.v (.one (.fn 53 [(0,0)]))),(7,.v (.one (dI (a0.length:Int)))),(8,.v (.one (dI s1)))],[(0,.cells 3 [dI a1])],[],1,19,[]⟩) 0 o2 (sL (Nat.le_trans hv0 (lb Z)) Z Z Z Z Z) hl1 (fun s1 n1 oo1 h1 ho1=>?_)
 unfold m75f4_l0 at h1
 refine XC.seq<|XC.region<|rR Z Z Z (RO.binInt Z Z Z)<|XL.nil<|XQ.seq<|XC.seq ?_
 refine XC.cond (b:=(decide (s1 < (a0.length:Int)))) Z (fun c3=>?_) (fun c3=>?_)
 replace h1:=condT c3 h1
 refine XC.skip<|XQ.seq<|XC.seq<|XC.block<|XC.seq<|XC.region<|rM Z Z Z<|rA Z Z Z<|XL.nil<|XQ.seq<|XC.seq<|XC.region<|rM Z Z Z<|rM Z Z Z ?_
 refine rM Z Z Z ?_
 refine bindK h1 (fun x4 hx4 h1=>?_)
 refine rR Z Z Z (RO.indexE (α:=Int) sl_66 Z (.d _) Z hx4)<|rR Z Z Z (RO.loadPel ag_3 Z Z) ?_
 refine bindK h1 (fun x5 hx5 h1=>?_)
 refine XL.put Z Z (lb Z) (OpOK.callG (hp1':=[(0,.cells 3 [dI a1])]) (tk1':=[]) (hpF:=[]) (tkF:=[]) (res2:=resOf [.one (dB (decide (a1≤x4)))]) (nx2:=1) [0] Z Z (m53f5_ok x4 a1 x5 hx5) Z Z (qB Z Z qZ) Z Z (gR Z gZ) jZ hZ kZ Z Z Z Z Z (bA Z) Z Z Z Z)<|XL.nil<|XQ.seq ?_
 refine XC.cond (b:=(decide (a1≤x4))) Z (fun c6=>?_) (fun c6=>?_)
 replace h1:=condT c6 h1
 refine XC.seq<|XC.region<|rM Z Z Z<|rA Z Z Z<|XL.nil<|XQ.seq<|XC.ret ?_
 have e:=sI h1;subst e
 have e_:_=_:=ho1
 subst e_
 try dsimp only [Sum.elim_inl,Sum.elim_inr] at h0
 have e:=sI h0;subst e
 exact hQ0 _ _ _ (.inr Z) Z (sL (Nat.le_trans hv0 (lb Z)) Z Z Z Z Z)
 replace h1:=condF c6 h1
 refine XC.skip<|XQ.inBlock<|XQ.seq<|XC.region<|rR Z Z Z (RO.binInt Z Z Z)<|rM Z Z Z<|XL.nil ?_
 have e:=sI h1;subst e
 refine XQ.nextM (w64 (s1+1)) (sL (Nat.le_trans hv0 (lb Z)) Z Z Z Z Z) ho1
 replace h1:=condF c3 h1
 refine XC.exit<|XQ.thenE<|XQ.thenE ?_
 have e:=sI h1;subst e
 have e_:_=_:=ho1
 subst e_
 exact XQ.joinX () (sL (Nat.le_trans hv0 (lb Z)) Z Z Z Z Z) h0
 intro o1 h0
 refine XQ.blockX<|XQ.seq<|XC.seq<|XC.region<|rA Z Z Z<|XL.nil<|XQ.seq<|XC.ret ?_
 have e:=sI h0;subst e
 exact hQ0 _ _ _ (.inr Z) Z (sL (Nat.le_trans hv0 (lb Z)) Z Z Z Z Z)
def m52f3 (a0:List Int) (a1:Int):Option Bool :=
 Option.bind (m75f4 a0 a1) fun (x1:Int) =>
 some (decide (0≤x1))
theorem m52f3_ok (a0:List Int) (a1:Int) (r:Bool) (h0:m52f3 a0 a1=some r):CallM Try.prog 52 [.one (dS a0),.one (.fn 53 [(0,0)])] ⟨[(0,.cells 3 [dI a1])],[],1⟩ (resOf [.one (dB r)]) ⟨[(0,.cells 3 [dI a1])],[],1⟩:=by
 unfold m52f3 at h0
 refine CallM.of_bodyD ⟨[(4,.v (.one (dB r)))],[(0,.cells 3 [dI a1])],[],1,9,[]⟩ Z Z en_52 (lb Z) Z (RAs.tmp Z .nil) (fun w0 M V0 Q hv0 hQ0=>?_)
 simp only [entry]
 refine XC.seq<|XC.region<|rA Z Z Z<|XL.nil<|XQ.seq<|XC.seq<|XC.region<|rM Z Z Z<|rM Z Z Z ?_
 refine bindK h0 (fun x1 hx1 h0=>?_)
 refine XL.put Z Z (lb Z) (OpOK.callG (hp1':=[(0,.cells 3 [dI a1])]) (tk1':=[]) (hpF:=[]) (tkF:=[]) (res2:=resOf [.one (dI x1)]) (nx2:=1) [0] Z Z (m75f4_ok a0 a1 x1 hx1) Z Z (qB Z Z qZ) Z Z (gR Z gZ) jZ hZ kZ Z Z Z Z Z (bA Z) Z Z Z Z)<|rR Z Z Z (RO.binInt Z Z Z)<|rA Z Z Z<|XL.nil<|XQ.seq<|XC.ret ?_
 have e:=sI h0;subst e
 exact hQ0 _ _ _ (.inr Z) Z (sL (Nat.le_trans hv0 (lb Z)) Z Z Z Z Z)
def m29 (a0:Lvl) (a1:Int):Option Bool :=
 Option.bind (m38 a0) fun (x1:(List Int)) =>
 Option.bind (m52f3 x1 a1) fun (x2:Bool) =>
 some x2
theorem m29_ok (a0:Lvl) (a1:Int) (r:Bool) (h0:m29 a0 a1=some r):Fun Try.prog 29 [.agg (cE a0),.one (dI a1)] (resOf [.one (dB r)]):=by
 unfold m29 at h0
 refine Fun.of_bodyM 9 9 Try.func29 Z en_29 Z (lb Z) (fun S w=>?_)
 simp only [entry]
 refine XC.seq<|XC.region<|XL.put Z Z (lb Z) (OpOK.box Z)<|XL.put Z Z (lb Z) (OpOK.box Z)<|rA Z Z Z<|XL.nil<|XQ.seq<|XC.seq<|XC.region<|rR Z Z Z (RO.loadCE (a0:Lvl) ag_39 Z Z) ?_
 refine bindK h0 (fun x1 hx1 h0=>?_)
 refine XL.put Z Z (lb Z) (OpOK.callFun (m38_ok a0 x1 hx1) Z (.cons (.agg (.cons (.d _) (.cons (.d _) .nil))) .nil))<|rR Z Z Z (RO.makeFunc1 Z) ?_
 refine bindK h0 (fun x2 hx2 h0=>?_)
 refine XL.put Z Z (lb Z) (OpOK.callG (hp1':=[(1,.cells 3 [dI a1])]) (tk1':=[]) (hpF:=[(0,.cells 39 (cE a0))]) (tkF:=[]) (res2:=resOf [.one (dB x2)]) (nx2:=2) [1] Z Z (m52f3_ok x1 a1 x2 hx2) Z Z (qB Z Z qZ) Z Z (gR Z gZ) jZ (hA Z) kZ Z Z Z Z Z (bA Z) Z Z Z Z)<|rA Z Z Z<|XL.nil<|XQ.seq<|XC.ret ?_
 have e:=sI h0;subst e
 exact XQ.retF (fun _ _ h=>h) Z (RAs.tmp Z .nil) (.cons (.one (.d _)) .nil)
def m13_l0 (a1:List Bnd) (a0:Int) (s1:Int):Option (LO Int (Unit⊕(Int×Int))) :=
 cond (decide (s1 < (a1.length:Int)))
   (Option.bind (idx a1 s1) fun (x5:Bnd) =>
 Option.bind (Option.bind (m28 x5.lo) fun (x7:Bool) =>
 cond (!x7)
   (some true)
   (Option.bind (m28 x5.hi) fun (x9:Bool) =>
 some (!x9))) (fun (v6:Bool)=>cond v6
   (some (.done (.inr (s1,3))))
   (Option.bind (Option.bind (m29 x5.lo a0) fun (x9:Bool) =>
 cond x9
   (some true)
   (Option.bind (m29 x5.hi a0) fun (x11:Bool) =>
 some x11)) (fun (v8:Bool)=>cond v8
   (some (.done (.inr (s1,24))))
   (some (.next (w64 (s1+1))))))))
   (some (.done (.inl ())))
def m13 (a0:Int) (a1:List Bnd):Option (Int×Int) :=
 Option.bind (cond (decide (a0 < 0))
   (some true)
   (some (decide (2000 < a0)))) (fun (v1:Bool)=>cond v1
   (some (0,2))
   (Option.bind (loopN (m13_l0 a1 a0) FUEL 0) (Sum.elim (fun (o3:Unit)=>some (0,0)) (fun o=>some o))))
theorem m13_ok (a0:Int) (a1:List Bnd) (r:Int×Int) (h0:m13 a0 a1=some r):Fun Try.prog 13 [.one (dI a0),.one (dS a1)] (resOf [.one (dI r.1),.one (dI r.2)]):=by
 unfold m13 at h0
 refine Fun.of_bodyM 9 46 Try.func13 Z en_13 Z (lb Z) (fun S w=>?_)
 simp only [entry]
 refine XC.seq<|XC.region<|rA Z Z Z<|rA Z Z Z<|XL.nil<|XQ.seq<|XC.seq<|XC.seq ?_
 refine XC.joinR (fun (v1:Bool)=>⟨[(0,.v (.one (dI a0))),(1,.v (.one (dS a1))),(13,.v (.one (dB v1)))],[],[],0,46,[]⟩) (fun (v1:Bool)=>(cond v1
     (some (0,2))
     (Option.bind (loopN (m13_l0 a1 a0) FUEL 0) (Sum.elim (fun (o3:Unit)=>some (0,0)) (fun o=>some o))))=some r) ?_ ?_
 refine bindK h0 (fun w1_ h1 h0=>?_)
 refine XC.region<|rM Z Z Z<|rR Z Z Z (RO.binInt Z Z Z)<|rM Z Z Z ?_
 refine XL.case (d:=10) (c:=(decide (a0 < 0))) Z (fun c2=>?_) (fun c2=>?_)
 replace h1:=condT c2 h1
 refine XL.no Z Z<|XL.no Z Z<|rR Z Z Z (RO.pickT Z Z)<|XL.nil ?_
 have e:=sI h1;subst e
 exact XQ.joinR true (sL (Nat.zero_le _) Z Z Z Z Z) h0
 replace h1:=condF c2 h1
 refine rM Z Z Z<|rR Z Z Z (RO.binInt Z Z Z)<|rR Z Z Z (RO.pickF Z Z)<|XL.nil ?_
 have e:=sI h1;subst e
 exact XQ.joinR (decide (2000 < a0)) (sL (Nat.zero_le _) Z Z Z Z Z) h0
 intro v1 h0
 refine XQ.seq ?_
 refine XC.cond (b:=v1) Z (fun c3=>?_) (fun c3=>?_)
 replace h0:=condT c3 h0
 refine XC.seq<|XC.region<|rA Z Z Z<|rA Z Z Z<|XL.nil<|XQ.seq<|XC.ret ?_
 have e:=sI h0;subst e
 exact XQ.retF (fun _ _ h=>h) Z (RAs.tmp Z (RAs.tmp Z .nil)) (.cons (.one (.d _)) (.cons (.one (.d _)) .nil))
 replace h0:=condF c3 h0
 refine XC.skip<|XQ.seq<|XC.seq<|XC.seq<|XC.region<|rM Z Z Z<|rR Z Z Z (RO.lenE (α:=Bnd) sl_22 Z (.d _))<|rM Z Z Z<|XL.nil<|XQ.seq<|XC.block ?_
 refine XC.joinX 0 (fun (o4:Unit)=>⟨[],[],[],0,46,[]⟩) (fun (o4:Unit)=>(some (0,0))=some r) ?_ ?_
 refine bindK h0 (fun o5 hl1 h0=>?_)
 refine XC.loopM (m13_l0 a1 a0) (fun s1=>⟨[(0,.v (.one (dI a0))),(14,.v (.one (dS a1))),(15,.v (.one (dI (a1.length:Int)))),(16,.v (.one (dI s1)))],[],[],0,46,[]⟩) 0 o5 (sL (Nat.zero_le _) Z Z Z Z Z) hl1 (fun s1 n1 oo1 h1 ho1=>?_)
 unfold m13_l0 at h1
 refine XC.seq<|XC.region<|rR Z Z Z (RO.binInt Z Z Z)<|XL.nil<|XQ.seq<|XC.seq ?_
 refine XC.cond (b:=(decide (s1 < (a1.length:Int)))) Z (fun c6=>?_) (fun c6=>?_)
 replace h1:=condT c6 h1
 refine XC.skip<|XQ.seq<|XC.seq<|XC.block<|XC.seq<|XC.region<|rM Z Z Z ?_
 refine bindK h1 (fun x7 hx7 h1=>?_)
 refine rR Z Z Z (RO.indexE (α:=Bnd) sl_22 Z (.d _) Z hx7)<|rR Z Z Z (RO.loadPelCE (x7:Bnd) ag_41 Z)<|XL.put Z Z (lb Z) (OpOK.alloc z_41 Z)<|rA Z Z Z<|XL.eff Z Z (OpOK.storeCE (x7:Bnd) ag_41 Z Z Z Z Z)<|XL.nil<|XQ.seq<|XC.block<|XC.seq ?_
 refine XC.joinR (fun (v8:Bool)=>⟨[(0,.v (.one (dI a0))),(6,.v (.one (dI s1))),(7,.v (.one (.ptr 0 0))),(14,.v (.one (dS a1))),(15,.v (.one (dI (a1.length:Int)))),(16,.v (.one (dI s1))),(21,.v (.one (dB v8)))],[(0,.cells 41 (cE x7))],[],1,46,[]⟩) (fun (v8:Bool)=>(cond v8
     (some (.done (.inr (s1,3))))
     (Option.bind (Option.bind (m29 x7.lo a0) fun (x11:Bool) =>
   cond x11
     (some true)
     (Option.bind (m29 x7.hi a0) fun (x13:Bool) =>
   some x13)) (fun (v10:Bool)=>cond v10
     (some (.done (.inr (s1,24))))
     (some (.next (w64 (s1+1)))))))=some oo1) ?_ ?_
 refine bindK h1 (fun w2_ h2 h1=>?_)
 refine XC.region<|rR Z Z Z (RO.fieldOwn fo_41_0 Z)<|rR Z Z Z (RO.loadOwnAgg ag_39 Z Z Z Z) ?_
 refine bindK h2 (fun x9 hx9 h2=>?_)
 refine XL.put Z Z (lb Z) (OpOK.callFun (m28_ok x7.lo x9 hx9) Z (.cons (.agg (.cons (.d _) (.cons (.d _) .nil))) .nil))<|rR Z Z Z (RO.not Z)<|rM Z Z Z ?_
 refine XL.case (d:=26) (c:=(!x9)) Z (fun c10=>?_) (fun c10=>?_)
 replace h2:=condT c10 h2
 refine XL.no Z Z<|XL.no Z Z<|XL.no Z Z<|XL.no Z Z<|rR Z Z Z (RO.pickT Z Z)<|rA Z Z Z<|XL.nil ?_
 have e:=sI h2;subst e
 exact XQ.joinR true (sL (Nat.zero_le _) Z Z Z Z Z) h1
 replace h2:=condF c10 h2
 refine rR Z Z Z (RO.fieldOwn fo_41_1 Z)<|rR Z Z Z (RO.loadOwnAgg ag_39 Z Z Z Z) ?_
 refine bindK h2 (fun x11 hx11 h2=>?_)
 refine XL.put Z Z (lb Z) (OpOK.callFun (m28_ok x7.hi x11 hx11) Z (.cons (.agg (.cons (.d _) (.cons (.d _) .nil))) .nil))<|rR Z Z Z (RO.not Z)<|rR Z Z Z (RO.pickF Z Z)<|rA Z Z Z<|XL.nil ?_
 have e:=sI h2;subst e
 exact XQ.joinR (!x11) (sL (Nat.zero_le _) Z Z Z Z Z) h1
 intro v8 h1
 refine XQ.seq ?_
 refine XC.cond (b:=v8) Z (fun c12=>?_) (fun c12=>?_)
 replace h1:=condT c12 h1
 refine XC.seq<|XC.region<|rM Z Z Z<|rA Z Z Z<|rA Z Z Z<|XL.nil<|XQ.seq<|XC.ret ?_
 have e:=sI h1;subst e
 have e_:_=_:=ho1
 subst e_
 try dsimp only [Sum.elim_inl,Sum.elim_inr] at h0
 have e:=sI h0;subst e
 exact XQ.retF (fun _ _ h=>h) Z (RAs.tmp Z (RAs.tmp Z .nil)) (.cons (.one (.d _)) (.cons (.one (.d _)) .nil))
 replace h1:=condF c12 h1
 refine XC.seq ?_
 refine XC.joinR (fun (v13:Bool)=>⟨[(0,.v (.one (dI a0))),(6,.v (.one (dI s1))),(14,.v (.one (dS a1))),(15,.v (.one (dI (a1.length:Int)))),(16,.v (.one (dI s1))),(33,.v (.one (dB v13)))],[(0,.cells 41 (cE x7))],[],1,46,[]⟩) (fun (v13:Bool)=>(cond v13
     (some (.done (.inr (s1,24))))
     (some (.next (w64 (s1+1)))))=some oo1) ?_ ?_
 refine bindK h1 (fun w2_ h2 h1=>?_)
 refine XC.region<|rR Z Z Z (RO.fieldOwn fo_41_0 Z)<|rR Z Z Z (RO.loadOwnAgg ag_39 Z Z Z Z)<|rM Z Z Z ?_
 refine bindK h2 (fun x14 hx14 h2=>?_)
 refine XL.put Z Z (lb Z) (OpOK.callFun (m29_ok x7.lo a0 x14 hx14) Z (.cons (.agg (.cons (.d _) (.cons (.d _) .nil))) (.cons (.one (.d _)) .nil)))<|rM Z Z Z ?_
 refine XL.case (d:=38) (c:=x14) Z (fun c15=>?_) (fun c15=>?_)
 replace h2:=condT c15 h2
 refine XL.no Z Z<|XL.no Z Z<|XL.no Z Z<|XL.no Z Z<|rR Z Z Z (RO.pickT Z Z)<|rA Z Z Z<|XL.nil ?_
 have e:=sI h2;subst e
 exact XQ.joinR true (sL (Nat.zero_le _) Z Z Z Z Z) h1
 replace h2:=condF c15 h2
 refine rR Z Z Z (RO.fieldOwn fo_41_1 Z)<|rR Z Z Z (RO.loadOwnAgg ag_39 Z Z Z Z)<|rM Z Z Z ?_
 refine bindK h2 (fun x16 hx16 h2=>?_)
 refine XL.put Z Z (lb Z) (OpOK.callFun (m29_ok x7.hi a0 x16 hx16) Z (.cons (.agg (.cons (.d _) (.cons (.d _) .nil))) (.cons (.one (.d _)) .nil)))<|rR Z Z Z (RO.pickF Z Z)<|rA Z Z Z<|XL.nil ?_
 have e:=sI h2;subst e
 exact XQ.joinR x16 (sL (Nat.zero_le _) Z Z Z Z Z) h1
 intro v13 h1
 refine XQ.seq ?_
 refine XC.cond (b:=v13) Z (fun c17=>?_) (fun c17=>?_)
 replace h1:=condT c17 h1
 refine XC.seq<|XC.region<|rM Z Z Z<|rA Z Z Z<|rA Z Z Z<|XL.nil<|XQ.seq<|XC.ret ?_
 have e:=sI h1;subst e
 have e_:_=_:=ho1
 subst e_
 try dsimp only [Sum.elim_inl,Sum.elim_inr] at h0
 have e:=sI h0;subst e
 exact XQ.retF (fun _ _ h=>h) Z (RAs.tmp Z (RAs.tmp Z .nil)) (.cons (.one (.d _)) (.cons (.one (.d _)) .nil))
 replace h1:=condF c17 h1
 refine XC.skip<|XQ.inBlock<|XQ.inBlock<|XQ.seq<|XC.region<|rR Z Z Z (RO.binInt Z Z Z)<|rM Z Z Z<|XL.nil ?_
 have e:=sI h1;subst e
 refine XQ.nextM (w64 (s1+1)) (sL (Nat.zero_le _) Z Z Z Z Z) ho1
 replace h1:=condF c6 h1
 refine XC.exit<|XQ.thenE<|XQ.thenE ?_
 have e:=sI h1;subst e
 have e_:_=_:=ho1
 subst e_
 exact XQ.joinX () (sL (Nat.zero_le _) Z Z Z Z Z) h0
 intro o4 h0
 refine XQ.blockX<|XQ.seq<|XC.seq<|XC.region<|rA Z Z Z<|rA Z Z Z<|XL.nil<|XQ.seq<|XC.ret ?_
 have e:=sI h0;subst e
 exact XQ.retF (fun _ _ h=>h) Z (RAs.tmp Z (RAs.tmp Z .nil)) (.cons (.one (.d _)) (.cons (.one (.d _)) .nil))
end Go.Proofs.Ytkimijmiphkddaa
namespace Go.Proofs.Ytkimijmiphkddaa
open Go.RowKit Go.Shelf
theorem fo_105_0:fieldOff Try.prog 105 0=some 0:=by kernel_rfl
theorem fo_105_1:fieldOff Try.prog 105 1=some 1:=by kernel_rfl
theorem ag_103:tyAgg Try.prog 103=some (false,1):=by kernel_rfl
theorem bd_59:IsStruct Try.prog 59 [(0,1),(1,1)] [.int .i64 0,.int .i64 0]:=⟨by kernel_rfl,by kernel_rfl⟩
theorem bd_105:IsStruct Try.prog 105 [(0,1),(1,1)] [.map none,.int .i64 0]:=⟨by kernel_rfl,by kernel_rfl⟩
theorem el_59:tyElem Try.prog 59=some (2,16):=by kernel_rfl
theorem mp_103:tyMap Try.prog 103=some (true,.one (.d (.v (.int .i64 0)))):=by kernel_rfl
theorem en_48:Enters Try.prog 48:=enters_of Try.func48 (by kernel_rfl) rfl
theorem en_54:Enters Try.prog 54:=enters_of Try.func54 (by kernel_rfl) rfl
theorem en_55:Enters Try.prog 55:=enters_of Try.func55 (by kernel_rfl) rfl
theorem en_56:Enters Try.prog 56:=enters_of Try.func56 (by kernel_rfl) rfl
theorem en_66:Enters Try.prog 66:=enters_of Try.func66 (by kernel_rfl) rfl
theorem en_67:Enters Try.prog 67:=enters_of Try.func67 (by kernel_rfl) rfl
theorem en_68:Enters Try.prog 68:=enters_of Try.func68 (by kernel_rfl) rfl
theorem en_69:Enters Try.prog 69:=enters_of Try.func69 (by kernel_rfl) rfl
theorem en_76:Enters Try.prog 76:=enters_of Try.func76 (by kernel_rfl) rfl
theorem en_77:Enters Try.prog 77:=enters_of Try.func77 (by kernel_rfl) rfl
theorem en_83:Enters Try.prog 83:=enters_of Try.func83 (by kernel_rfl) rfl
theorem en_87:Enters Try.prog 87:=enters_of Try.func87 (by kernel_rfl) rfl
noncomputable def m55_c0:Code:=(cA (cA (cB (cA (cB (cB (cB (bodyC Try.f55))))))))
noncomputable def m55_c1:Code:=(cB (cA (cB (cA (cB (cB (cB (bodyC Try.f55))))))))
def m56 (a0:Lvl) (a1:Int):Option Lvl :=
 cond ((a0.vs.length:Int)==0)
   (some (⟨(max 0 (w64 (a0.c - a1))),([]:List LV)⟩:Lvl))
   (Option.bind (idx a0.vs 0) fun (x2:LV) =>
 some (⟨0,[(x2.1,(max 0 (w64 (x2.2 - a1))))]⟩:Lvl))
theorem m56_ok (a0:Lvl) (a1:Int) (r:Lvl) (h0:m56 a0 a1=some r):Fun Try.prog 56 [.agg (cE a0),.one (dI a1)] (resOf [.agg (cE r)]):=by
 unfold m56 at h0
 refine Fun.of_bodyM 9 30 Try.func56 Z en_56 Z (lb Z) (fun S w=>?_)
 simp only [entry]
 refine XC.seq<|XC.region<|XL.put Z Z (lb Z) (OpOK.box Z)<|XL.put Z Z (lb Z) (OpOK.alloc z_39 Z)<|XL.nil<|XQ.seq<|XC.seq<|XC.seq<|XC.region<|rR Z Z Z (RO.fieldOwn fo_39_1 Z)<|rR Z Z Z (RO.loadOwn ag_37 Z Z Z)<|rR Z Z Z (RO.lenE (α:=LV) sl_37 Z (.d _))<|rR Z Z Z (RO.binInt Z Z Z)<|XL.nil ?_
 refine XQ.seq ?_
 refine XC.cond (b:=((a0.vs.length:Int)==0)) Z (fun c1=>?_) (fun c1=>?_)
 replace h0:=condT c1 h0
 refine XC.seq<|XC.region<|rR Z Z Z (RO.fieldOwn fo_39_0 Z)<|rR Z Z Z (RO.loadOwn ag_3 Z Z Z)<|rM Z Z Z<|rR Z Z Z (RO.binInt Z Z Z)<|rR Z Z Z (RO.max2 Z Z)<|rR Z Z Z (RO.build1 bd_39 Z Z Z)<|XL.eff Z Z (OpOK.store ag_39 Z Z Z Z (lb Z) Z)<|XL.nil<|XQ.seq<|XC.ret ?_
 have e:=sI h0;subst e
 exact XQ.retF (fun _ _ h=>h) Z (RAs.agg ag_39 Z Z Z Z .nil) (.cons (.agg (.cons (.d _) (.cons (.nil _) .nil))) .nil)
 replace h0:=condF c1 h0
 refine XC.skip<|XQ.seq<|XC.seq<|XC.region<|rR Z Z Z (RO.fieldOwn fo_39_1 Z)<|rR Z Z Z (RO.loadOwn ag_37 Z Z Z) ?_
 refine bindK h0 (fun x2 hx2 h0=>?_)
 refine rR Z Z Z (RO.indexE (α:=LV) sl_37 Z (.d _) Z hx2)<|rR Z Z Z (RO.loadPelCE (x2:LV) ag_59 Z)<|XL.put Z Z (lb Z) (OpOK.alloc z_59 Z)<|XL.eff Z Z (OpOK.storeCE (x2:LV) ag_59 Z Z Z Z Z)<|XL.nil<|XQ.seq<|XC.seq<|XC.region<|rR Z Z Z (RO.fieldOwn fo_59_0 Z)<|rR Z Z Z (RO.loadOwn ag_3 Z Z Z)<|rR Z Z Z (RO.fieldOwn fo_59_1 Z)<|rR Z Z Z (RO.loadOwn ag_3 Z Z Z)<|rM Z Z Z<|rR Z Z Z (RO.binInt Z Z Z) ?_
 refine rR Z Z Z (RO.max2 Z Z)<|rR Z Z Z (RO.build2 bd_59 Z Z Z Z)<|XL.put Z Z (lb Z) (OpOK.lit1E (α:=LV) ((x2.1,(max 0 (w64 (x2.2 - a1))))) sl_37 z_59 Z Z (lb Z) (lb Z) Z Z (.cons (.d _) (.cons (.d _) .nil)) Z)<|rR Z Z Z (RO.build1 bd_39 Z Z Z)<|XL.eff Z Z (OpOK.store ag_39 Z Z Z Z (lb Z) Z)<|XL.nil<|XQ.seq<|XC.ret ?_
 have e:=sI h0;subst e
 exact XQ.retF (fun _ _ h=>h) Z (RAs.agg ag_39 Z Z Z Z .nil) (.cons (.agg (.cons (.d _) (.cons (.app _ _ _) .nil))) .nil)
def m54_l0 (a0:Lvl) (s1:Int):Option (LO Int (Unit⊕(Int×Int))) :=
 cond (decide (0≤s1))
   (Option.bind (idx a0.vs s1) fun (x3:LV) =>
 cond (decide (x3.1 < 0))
   (some (.done (.inr ((w64 ((-1) - x3.1)),x3.2))))
   (some (.next (w64 (s1 - 1)))))
   (some (.done (.inl ())))
def m54 (a0:Lvl):Option (Int×Int) :=
 Option.bind (loopN (m54_l0 a0) FUEL (w64 ((a0.vs.length:Int) - 1))) (Sum.elim (fun (o1:Unit)=>some ((-1),0)) (fun o=>some o))
theorem m54_ok (a0:Lvl) (r:Int×Int) (h0:m54 a0=some r):Fun Try.prog 54 [.agg (cE a0)] (resOf [.one (dI r.1),.one (dI r.2)]):=by
 unfold m54 at h0
 refine Fun.of_bodyM 9 27 Try.func54 Z en_54 Z (lb Z) (fun S w=>?_)
 simp only [entry]
 refine XC.seq<|XC.region<|XL.put Z Z (lb Z) (OpOK.box Z)<|rA Z Z Z<|rA Z Z Z<|XL.nil<|XQ.seq<|XC.seq<|XC.seq<|XC.region<|rR Z Z Z (RO.fieldOwn fo_39_1 Z)<|rR Z Z Z (RO.loadOwn ag_37 Z Z Z)<|rR Z Z Z (RO.lenE (α:=LV) sl_37 Z (.d _))<|rR Z Z Z (RO.binInt Z Z Z) ?_
 refine rA Z Z Z<|XL.nil<|XQ.seq<|XC.block ?_
 refine XC.joinX 0 (fun (o1:Unit)=>⟨[],[(0,.cells 39 (cE a0))],[],1,27,[]⟩) (fun (o1:Unit)=>(some ((-1),0))=some r) ?_ ?_
 refine bindK h0 (fun o2 hl1 h0=>?_)
 refine XC.loopM (m54_l0 a0) (fun s1=>⟨[(1,.v (.one (.ptr 0 0))),(4,.v (.one (dI s1)))],[(0,.cells 39 (cE a0))],[],1,27,[]⟩) (w64 ((a0.vs.length:Int) - 1)) o2 (sL (Nat.zero_le _) Z Z Z Z Z) hl1 (fun s1 n1 oo1 h1 ho1=>?_)
 unfold m54_l0 at h1
 refine XC.seq<|XC.seq<|XC.region<|rM Z Z Z<|rR Z Z Z (RO.binInt Z Z Z)<|XL.nil<|XQ.seq ?_
 refine XC.cond (b:=(decide (0≤s1))) Z (fun c3=>?_) (fun c3=>?_)
 replace h1:=condT c3 h1
 refine XC.skip<|XQ.seq<|XC.seq<|XC.block<|XC.seq<|XC.region<|rR Z Z Z (RO.fieldOwn fo_39_1 Z)<|rR Z Z Z (RO.loadOwn ag_37 Z Z Z)<|rM Z Z Z ?_
 refine bindK h1 (fun x4 hx4 h1=>?_)
 refine rR Z Z Z (RO.indexE (α:=LV) sl_37 Z (.d _) Z hx4)<|rR Z Z Z (RO.loadPelCE (x4:LV) ag_59 Z)<|XL.put Z Z (lb Z) (OpOK.alloc z_59 Z)<|XL.eff Z Z (OpOK.storeCE (x4:LV) ag_59 Z Z Z Z Z)<|XL.nil<|XQ.seq<|XC.seq<|XC.region<|rR Z Z Z (RO.fieldOwn fo_59_0 Z)<|rR Z Z Z (RO.loadOwn ag_3 Z Z Z)<|rR Z Z Z (RO.binInt Z Z Z)<|XL.nil<|XQ.seq ?_
 refine XC.cond (b:=(decide (x4.1 < 0))) Z (fun c5=>?_) (fun c5=>?_)
 replace h1:=condT c5 h1
 refine XC.seq ?_
 refine XC.anyRun [] [] mixed (by kernel_rfl) (by kernel_rfl) (by kernel_rfl) ?_
 refine RunA.rd Z Z Z (OpOK.of_ro (RO.fieldOwn fo_59_0 Z)) Z<|RunA.rd Z Z Z (OpOK.of_ro (RO.loadOwn ag_3 Z Z Z)) Z<|RunA.rd Z Z Z (OpOK.of_ro (RO.binInt Z Z Z)) Z<|RunA.rd Z Z Z (OpOK.of_ro (RO.fieldOwn fo_59_1 Z)) Z<|RunA.rd Z Z Z (OpOK.of_ro (RO.loadOwn ag_3 Z Z Z)) Z<|RunA.rd Z Z Z (OpOK.of_ro (RO.assign Z)) Z<|RunA.rd Z Z Z (OpOK.of_ro (RO.assign Z)) Z ?_
 refine RunA.nil ⟨?ex,_,_,Z,?_⟩
 case ex=>exact trivial
 refine XQ.less (st':=⟨[(2,.v (.one (dI (w64 ((-1) - x4.1))))),(3,.v (.one (dI x4.2)))],[(0,.cells 39 (cE a0)),(1,.cells 59 (cE x4))],[],2,27,[]⟩) (sL (Nat.zero_le _) Z Z Z Z Z)<|XQ.seq<|XC.ret ?_
 have e:=sI h1;subst e
 have e_:_=_:=ho1
 subst e_
 try dsimp only [Sum.elim_inl,Sum.elim_inr] at h0
 have e:=sI h0;subst e
 exact XQ.retF (fun _ _ h=>h) Z (RAs.tmp Z (RAs.tmp Z .nil)) (.cons (.one (.d _)) (.cons (.one (.d _)) .nil))
 replace h1:=condF c5 h1
 refine XC.skip<|XQ.inBlock<|XQ.seq<|XC.region<|rM Z Z Z<|rR Z Z Z (RO.binInt Z Z Z)<|rA Z Z Z<|XL.nil ?_
 have e:=sI h1;subst e
 refine XQ.nextM (w64 (s1 - 1)) (sL (Nat.zero_le _) Z Z Z Z Z) ho1
 replace h1:=condF c3 h1
 refine XC.exit<|XQ.thenE<|XQ.thenE ?_
 have e:=sI h1;subst e
 have e_:_=_:=ho1
 subst e_
 exact XQ.joinX () (sL (Nat.zero_le _) Z Z Z Z Z) h0
 intro o1 h0
 refine XQ.blockX<|XQ.seq<|XC.seq<|XC.region<|rA Z Z Z<|rA Z Z Z<|XL.nil<|XQ.seq<|XC.ret ?_
 have e:=sI h0;subst e
 exact XQ.retF (fun _ _ h=>h) Z (RAs.tmp Z (RAs.tmp Z .nil)) (.cons (.one (.d _)) (.cons (.one (.d _)) .nil))
def m77_l0 (a0:Lvl) (s1:Int):Option (LO Int (Unit⊕(Lvl×Int))) :=
 cond (decide (s1 < (a0.vs.length:Int)))
   (Option.bind (idx a0.vs s1) fun (x3:LV) =>
 cond (decide (100 < x3.2))
   (some (.done (.inr ((⟨0,([]:List LV)⟩:Lvl),15))))
   (some (.next (w64 (s1+1)))))
   (some (.done (.inl ())))
def m77 (a0:Lvl):Option (Lvl×Int) :=
 Option.bind (loopN (m77_l0 a0) FUEL 0) (Sum.elim (fun (o1:Unit)=>cond (decide (100 < a0.c))
   (some ((⟨0,([]:List LV)⟩:Lvl),15))
   (Option.bind (Option.bind (m70f0 a0.vs a0) fun (x5:Bool) =>
 some x5) (fun (y3:Bool)=>cond y3
   (some ((⟨0,a0.vs⟩:Lvl),0))
   (some (a0,0))))) (fun o=>some o))
theorem m77_ok (a0:Lvl) (r:Lvl×Int) (h0:m77 a0=some r):Fun Try.prog 77 [.agg (cE a0)] (resOf [.agg (cE r.1),.one (dI r.2)]):=by
 unfold m77 at h0
 refine Fun.of_bodyM 9 26 Try.func77 Z en_77 Z (lb Z) (fun S w=>?_)
 simp only [entry]
 refine XC.seq<|XC.region<|XL.put Z Z (lb Z) (OpOK.box Z)<|XL.put Z Z (lb Z) (OpOK.alloc z_39 Z)<|rA Z Z Z<|XL.nil<|XQ.seq<|XC.seq<|XC.seq<|XC.region<|rR Z Z Z (RO.fieldOwn fo_39_1 Z)<|rR Z Z Z (RO.loadOwn ag_37 Z Z Z)<|rR Z Z Z (RO.lenE (α:=LV) sl_37 Z (.d _))<|rM Z Z Z ?_
 refine XL.nil<|XQ.seq<|XC.block ?_
 refine XC.joinX 0 (fun (o1:Unit)=>⟨[(1,.v (.one (.ptr 0 0))),(2,.v (.one (.ptr 1 0)))],[(0,.cells 39 (cE a0)),(1,.cells 39 [dI 0,dN])],[],2,26,[]⟩) (fun (o1:Unit)=>(cond (decide (100 < a0.c))
     (some ((⟨0,([]:List LV)⟩:Lvl),15))
     (Option.bind (Option.bind (m70f0 a0.vs a0) fun (x5:Bool) =>
   some x5) (fun (y3:Bool)=>cond y3
     (some ((⟨0,a0.vs⟩:Lvl),0))
     (some (a0,0)))))=some r) ?_ ?_
 refine bindK h0 (fun o2 hl1 h0=>?_)
 refine XC.loopM (m77_l0 a0) (fun s1=>⟨[(1,.v (.one (.ptr 0 0))),(2,.v (.one (.ptr 1 0))),(7,.v (.one (dS a0.vs))),(8,.v (.one (dI (a0.vs.length:Int)))),(9,.v (.one (dI s1)))],[(0,.cells 39 (cE a0)),(1,.cells 39 [dI 0,dN])],[],2,26,[]⟩) 0 o2 (sL (Nat.zero_le _) Z Z Z Z Z) hl1 (fun s1 n1 oo1 h1 ho1=>?_)
 unfold m77_l0 at h1
 refine XC.seq<|XC.region<|rR Z Z Z (RO.binInt Z Z Z)<|XL.nil<|XQ.seq<|XC.seq ?_
 refine XC.cond (b:=(decide (s1 < (a0.vs.length:Int)))) Z (fun c3=>?_) (fun c3=>?_)
 replace h1:=condT c3 h1
 refine XC.skip<|XQ.seq<|XC.seq<|XC.block<|XC.seq<|XC.region ?_
 refine bindK h1 (fun x4 hx4 h1=>?_)
 refine rR Z Z Z (RO.indexE (α:=LV) sl_37 Z (.d _) Z hx4)<|rR Z Z Z (RO.loadPelCE (x4:LV) ag_59 Z)<|XL.put Z Z (lb Z) (OpOK.alloc z_59 Z)<|XL.eff Z Z (OpOK.storeCE (x4:LV) ag_59 Z Z Z Z Z)<|XL.nil<|XQ.seq<|XC.seq<|XC.region<|rR Z Z Z (RO.fieldOwn fo_59_1 Z)<|rR Z Z Z (RO.loadOwn ag_3 Z Z Z)<|rR Z Z Z (RO.binInt Z Z Z)<|XL.nil<|XQ.seq ?_
 refine XC.cond (b:=(decide (100 < x4.2))) Z (fun c5=>?_) (fun c5=>?_)
 replace h1:=condT c5 h1
 refine XC.seq<|XC.region<|rR Z Z Z (RO.build0 bd_39 Z )<|XL.eff Z Z (OpOK.store ag_39 Z Z Z Z (lb Z) Z)<|rA Z Z Z<|XL.nil<|XQ.seq<|XC.ret ?_
 have e:=sI h1;subst e
 have e_:_=_:=ho1
 subst e_
 try dsimp only [Sum.elim_inl,Sum.elim_inr] at h0
 have e:=sI h0;subst e
 exact XQ.retF (fun _ _ h=>h) Z (RAs.agg ag_39 Z Z Z Z (RAs.tmp Z .nil)) (.cons (.agg (.cons (.d _) (.cons (.nil _) .nil))) (.cons (.one (.d _)) .nil))
 replace h1:=condF c5 h1
 refine XC.skip<|XQ.inBlock<|XQ.seq<|XC.region<|rR Z Z Z (RO.binInt Z Z Z)<|rM Z Z Z<|XL.nil ?_
 have e:=sI h1;subst e
 refine XQ.nextM (w64 (s1+1)) (sL (Nat.zero_le _) Z Z Z Z Z) ho1
 replace h1:=condF c3 h1
 refine XC.exit<|XQ.thenE<|XQ.thenE ?_
 have e:=sI h1;subst e
 have e_:_=_:=ho1
 subst e_
 exact XQ.joinX () (sL (Nat.zero_le _) Z Z Z Z Z) h0
 intro o1 h0
 refine XQ.blockX<|XQ.seq<|XC.seq<|XC.seq<|XC.region<|rR Z Z Z (RO.fieldOwn fo_39_0 Z)<|rR Z Z Z (RO.loadOwn ag_3 Z Z Z)<|rR Z Z Z (RO.binInt Z Z Z)<|XL.nil<|XQ.seq ?_
 refine XC.cond (b:=(decide (100 < a0.c))) Z (fun c6=>?_) (fun c6=>?_)
 replace h0:=condT c6 h0
 refine XC.seq<|XC.region<|rR Z Z Z (RO.build0 bd_39 Z )<|XL.eff Z Z (OpOK.store ag_39 Z Z Z Z (lb Z) Z)<|rA Z Z Z<|XL.nil<|XQ.seq<|XC.ret ?_
 have e:=sI h0;subst e
 exact XQ.retF (fun _ _ h=>h) Z (RAs.agg ag_39 Z Z Z Z (RAs.tmp Z .nil)) (.cons (.agg (.cons (.d _) (.cons (.nil _) .nil))) (.cons (.one (.d _)) .nil))
 replace h0:=condF c6 h0
 refine XC.skip<|XQ.seq<|XC.seq<|XC.seq<|XC.region<|rR Z Z Z (RO.loadCE (a0:Lvl) ag_39 Z Z) ?_
 refine bindK h0 (fun y7 h1 h0=>?_)
 have hc8:CallM Try.prog 51 [.agg (cE a0)] ⟨[(0,.cells 39 (cE a0)),(1,.cells 39 [dI 0,dN])],[],2⟩ (resOf [.one (dB y7)]) ⟨[(0,.cells 39 (cE a0)),(1,.cells 39 [dI 0,dN])],[],3⟩:=by
  refine CallM.of_bodyD ⟨[(2,.v (.one (dB y7)))],[(0,.cells 39 (cE a0)),(1,.cells 39 [dI 0,dN])],[],3,7,[]⟩ Z Z en_51 (lb Z) Z (RAs.tmp Z .nil) (fun w0 M V0 Q hv1 hQ1=>?_)
  simp only [entry]
  refine XC.seq<|XC.region<|XL.put Z Z (lb Z) (OpOK.box Z)<|rA Z Z Z<|XL.nil<|XQ.seq<|XC.seq<|XC.region<|rR Z Z Z (RO.fieldOwn fo_39_1 Z)<|rR Z Z Z (RO.loadOwn ag_37 Z Z Z)<|rR Z Z Z (RO.makeFunc1 Z) ?_
  refine bindK h1 (fun x9 hx9 h1=>?_)
  refine XL.put Z Z (lb Z) (OpOK.callG (hp1':=[(2,.cells 39 (cE a0))]) (tk1':=[]) (hpF:=[(0,.cells 39 (cE a0)),(1,.cells 39 [dI 0,dN])]) (tkF:=[]) (res2:=resOf [.one (dB x9)]) (nx2:=3) [2] Z Z (m70f0_ok a0.vs a0 x9 hx9) Z Z (qB Z Z qZ) Z Z (gR Z gZ) jZ (hA Z) kZ Z Z Z Z Z (bA Z) Z Z Z Z)<|rA Z Z Z<|XL.nil<|XQ.seq<|XC.ret ?_
  have e:=sI h1;subst e
  exact hQ1 _ _ _ (.inr Z) Z (sL (Nat.le_trans hv1 (lb Z)) Z Z Z Z Z)
 refine XL.put Z Z (lb Z) (OpOK.callW Z Z Z hc8 Z (hA Z) kZ)<|XL.nil<|XQ.seq ?_
 refine XC.cond (b:=y7) Z (fun c10=>?_) (fun c10=>?_)
 replace h0:=condT c10 h0
 refine XC.region<|rR Z Z Z (RO.fieldOwn fo_39_0 Z)<|XL.eff Z Z (OpOK.store ag_3 Z Z Z Z (lb Z) Z)<|XL.nil<|XQ.seq<|XC.seq<|XC.region<|rR Z Z Z (RO.loadOwnAgg ag_39 Z Z Z Z)<|XL.eff Z Z (OpOK.store ag_39 Z Z Z Z (lb Z) Z)<|rA Z Z Z<|XL.nil<|XQ.seq<|XC.ret ?_
 have e:=sI h0;subst e
 exact XQ.retF (fun _ _ h=>h) Z (RAs.agg ag_39 Z Z Z Z (RAs.tmp Z .nil)) (.cons (.agg (.cons (.d _) (.cons (.d _) .nil))) (.cons (.one (.d _)) .nil))
 replace h0:=condF c10 h0
 refine XC.skip<|XQ.seq<|XC.seq<|XC.region<|rR Z Z Z (RO.loadCE (a0:Lvl) ag_39 Z Z)<|XL.eff Z Z (OpOK.storeCE (a0:Lvl) ag_39 Z Z Z Z Z)<|rA Z Z Z<|XL.nil<|XQ.seq<|XC.ret ?_
 have e:=sI h0;subst e
 exact XQ.retF (fun _ _ h=>h) Z (RAs.agg ag_39 Z Z Z Z (RAs.tmp Z .nil)) (.cons (.agg (.cons (.d _) (.cons (.d _) .nil))) (.cons (.one (.d _)) .nil))
def m55_l0  (s2:(List LV)×(List LV)×(List LV)):Option (LO ((List LV)×(List LV)×(List LV)) (((List LV)×(List LV)×(List LV)))) :=
 Option.bind (cond (decide (0 < (s2.2.1.length:Int)))
   (some true)
   (some (decide (0 < (s2.2.2.length:Int))))) (fun (v8:Bool)=>cond v8
   (Option.bind (cond ((s2.2.2.length:Int)==0)
   (some true)
   (cond (decide (0 < (s2.2.1.length:Int)))
   (Option.bind (idx s2.2.1 0) fun (x13:LV) =>
 Option.bind (idx s2.2.2 0) fun (x14:LV) =>
 some (decide (x13.1 < x14.1)))
   (some false))) (fun (v10:Bool)=>Option.bind (cond v10
   (Option.bind (idx s2.2.1 0) fun (x13:LV) =>
 guardO (cond (decide (0≤(1:Int))) (Nat.ble (1:Int).toNat s2.2.1.length) false)
 (some ((s2.2.1.drop (1:Int).toNat),s2.2.2,x13.1,x13.2)))
   (Option.bind (cond ((s2.2.1.length:Int)==0)
   (some true)
   (Option.bind (idx s2.2.2 0) fun (x17:LV) =>
 Option.bind (idx s2.2.1 0) fun (x18:LV) =>
 some (decide (x17.1 < x18.1)))) (fun (v15:Bool)=>cond v15
   (Option.bind (idx s2.2.2 0) fun (x17:LV) =>
 guardO (cond (decide (0≤(1:Int))) (Nat.ble (1:Int).toNat s2.2.2.length) false)
 (some (s2.2.1,(s2.2.2.drop (1:Int).toNat),x17.1,x17.2)))
   (Option.bind (idx s2.2.1 0) fun (x19:LV) =>
 Option.bind (idx s2.2.1 0) fun (x20:LV) =>
 Option.bind (idx s2.2.2 0) fun (x21:LV) =>
 guardO (cond (decide (0≤(1:Int))) (Nat.ble (1:Int).toNat s2.2.1.length) false)
 (guardO (cond (decide (0≤(1:Int))) (Nat.ble (1:Int).toNat s2.2.2.length) false)
 (some ((s2.2.1.drop (1:Int).toNat),(s2.2.2.drop (1:Int).toNat),x19.1,(max x20.2 x21.2)))))))) (fun (v11:(List LV)×(List LV)×Int×Int)=>Option.bind (guardO (Nat.ble (s2.1.length+([v11.2.2]).length) 1000000000)
 (some ())) (fun (y12:Unit)=>some (.next ((s2.1++([v11.2.2])),v11.1,v11.2.1))))))
   (some (.done (s2.1,s2.2.1,s2.2.2))))
noncomputable abbrev m55_h0 (p0_:Lvl) (p1_:Lvl):List (Nat×HB) :=
 [(0,.cells 39 (cE p0_)),(1,.cells 39 (cE p1_)),(2,.cells 39 [dI 0,dN])]
noncomputable abbrev m55_h1 (p0_:Lvl) (p1_:Lvl):List (Nat×HB) :=
 [(0,.cells 39 (cE p0_)),(1,.cells 39 (cE p1_)),(2,.cells 39 [dI 0,dN]),(3,.cells 39 [dI (max p0_.c p1_.c),dN])]
noncomputable abbrev m55_h2 (p0_:Lvl) (p1_:Lvl):List (Nat×HB) :=
 [(0,.cells 39 (cE p0_)),(1,.cells 39 (cE p1_)),(2,.cells 39 [dI 0,dN]),(3,.cells 39 [dI (max p0_.c p1_.c),dN]),(4,.cells 37 [dS p0_.vs]),(5,.cells 37 [dS p1_.vs])]
noncomputable abbrev m55_h3 :HB :=
 .loop .ready none [(4,.v (.one (.ptr 2 0))),(6,.v (.one (.ptr 3 0))),(27,.v (.one (.fn 87 [(4,0),(5,0)])))] 39 #[28] m55_c0 m55_c1 6
noncomputable abbrev m55_h4 (p0_:Lvl) (p1_:Lvl) (p2_:(List LV)×(List LV)×(List LV)):List (Nat×HB) :=
 [(0,.cells 39 (cE p0_)),(1,.cells 39 (cE p1_)),(2,.cells 39 [dI 0,dN]),(3,.cells 39 [dI (max p0_.c p1_.c),dA 8 p2_.1]),(4,.cells 37 [dS p2_.2.1]),(5,.cells 37 [dS p2_.2.2]),(6,.obj (.deferred (some []))),(7,m55_h3)]
noncomputable abbrev m55_h5 (p0_:Lvl) (p1_:Lvl) (p2_:(List LV)×(List LV)×(List LV)):List (Nat×HB) :=
 [(0,.cells 39 (cE p0_)),(1,.cells 39 (cE p1_)),(2,.cells 39 [dI 0,dN]),(3,.cells 39 [dI (max p0_.c p1_.c),dA 8 p2_.1]),(4,.cells 37 [dS p2_.2.1]),(5,.cells 37 [dS p2_.2.2]),(6,.obj (.deferred (some []))),(7,m55_h3),(9,.cells 59 [dI 0,dI 0])]
noncomputable abbrev m55_h6 (p0_:Lvl) (p1_:Lvl) (p2_:(List LV)×(List LV)×(List LV)) (p3_:LV) (p4_:LV) (p5_:LV):List (Nat×HB) :=
 [(0,.cells 39 (cE p0_)),(1,.cells 39 (cE p1_)),(2,.cells 39 [dI 0,dN]),(3,.cells 39 [dI (max p0_.c p1_.c),dA 8 p2_.1]),(4,.cells 37 [dS p2_.2.1]),(5,.cells 37 [dS p2_.2.2]),(6,.obj (.deferred (some []))),(7,m55_h3),(9,.cells 59 [dI p3_.1,dI (max p4_.2 p5_.2)])]
noncomputable abbrev m55_h7 (p0_:Lvl) (p1_:Lvl) (p2_:(List LV)×(List LV)×(List LV)) (p3_:(List LV)×(List LV)×Int×Int):List (Nat×HB) :=
 [(0,.cells 39 (cE p0_)),(1,.cells 39 (cE p1_)),(2,.cells 39 [dI 0,dN]),(3,.cells 39 [dI (max p0_.c p1_.c),dA 8 p2_.1]),(4,.cells 37 [dS p3_.1]),(5,.cells 37 [dS p3_.2.1]),(6,.obj (.deferred (some []))),(7,m55_h3),(9,.cells 59 (cE p3_.2.2))]
noncomputable abbrev m55_h8 :HB :=
 .loop .busy none [(4,.v (.one (.ptr 2 0))),(6,.v (.one (.ptr 3 0))),(27,.v (.one (.fn 87 [(4,0),(5,0)])))] 39 #[28] m55_c0 m55_c1 6
noncomputable abbrev m55_h9 (p0_:Lvl) (p1_:Lvl) (p2_:(List LV)×(List LV)×(List LV)) (p3_:(List LV)×(List LV)×Int×Int):List (Nat×HB) :=
 [(0,.cells 39 (cE p0_)),(1,.cells 39 (cE p1_)),(2,.cells 39 [dI 0,dN]),(3,.cells 39 [dI (max p0_.c p1_.c),dA 8 p2_.1]),(4,.cells 37 [dS p3_.1]),(5,.cells 37 [dS p3_.2.1]),(6,.obj (.deferred (some []))),(7,m55_h8),(9,.cells 59 (cE p3_.2.2)),(10,.cells 59 (cE p3_.2.2))]
noncomputable abbrev m55_h10 (p0_:Lvl) (p1_:Lvl) (p2_:(List LV)×(List LV)×(List LV)) (p3_:(List LV)×(List LV)×Int×Int):List (Nat×HB) :=
 [(0,.cells 39 (cE p0_)),(1,.cells 39 (cE p1_)),(2,.cells 39 [dI 0,dN]),(3,.cells 39 [dI (max p0_.c p1_.c),dA 8 p2_.1]),(4,.cells 37 [dS p3_.1]),(5,.cells 37 [dS p3_.2.1]),(6,.obj (.deferred (some []))),(7,m55_h3),(9,.cells 59 (cE p3_.2.2)),(10,.cells 59 (cE p3_.2.2))]
noncomputable abbrev m55_h11 (p0_:Lvl) (p1_:Lvl) (p2_:(List LV)×(List LV)×(List LV)) (p3_:(List LV)×(List LV)×Int×Int):HB :=
 .cells 39 [dI (max p0_.c p1_.c),dA 8 ((p2_.1++([p3_.2.2])):List LV)]
noncomputable abbrev m55_h12 (p0_:Lvl) (p1_:Lvl) (p2_:(List LV)×(List LV)×(List LV)) (p3_:(List LV)×(List LV)×Int×Int):List (Nat×HB) :=
 [(0,.cells 39 (cE p0_)),(1,.cells 39 (cE p1_)),(2,.cells 39 [dI 0,dN]),(3,m55_h11 p0_ p1_ p2_ p3_),(4,.cells 37 [dS p3_.1]),(5,.cells 37 [dS p3_.2.1]),(6,.obj (.deferred (some []))),(7,m55_h8),(9,.cells 59 (cE p3_.2.2))]
def m55 (a0:Lvl) (a1:Lvl):Option (Lvl×Int) :=
 Option.bind (Option.bind (m28 a0) fun (x2:Bool) =>
 cond (!x2)
   (some true)
   (Option.bind (m28 a1) fun (x4:Bool) =>
 some (!x4))) (fun (v1:Bool)=>cond v1
   (some ((⟨0,([]:List LV)⟩:Lvl),3))
   (Option.bind (some ()) (fun (y3:Unit)=>Option.bind (Option.bind (loopN (m55_l0) FUEL (([]:List LV),a0.vs,a1.vs)) (fun (o7:(List LV)×(List LV)×(List LV))=>some (o7.1,o7.2.1,o7.2.2))) (fun (y5:(List LV)×(List LV)×(List LV))=>Option.bind (m77 (⟨(max a0.c a1.c),y5.1⟩:Lvl)) fun (x37:Lvl×Int) =>
 some (x37.1,x37.2)))))
theorem m55_ok (a0:Lvl) (a1:Lvl) (r:Lvl×Int) (h0:m55 a0 a1=some r):Fun Try.prog 55 [.agg (cE a0),.agg (cE a1)] (resOf [.agg (cE r.1),.one (dI r.2)]):=by
 unfold m55 at h0
 refine Fun.of_bodyM 9 39 Try.func55 Z en_55 Z (lb Z) (fun S w=>?_)
 simp only [entry]
 refine XC.seq<|XC.region<|XL.put Z Z (lb Z) (OpOK.box Z)<|XL.put Z Z (lb Z) (OpOK.box Z)<|XL.put Z Z (lb Z) (OpOK.alloc z_39 Z)<|rA Z Z Z<|XL.nil<|XQ.seq<|XC.seq<|XC.seq ?_
 refine XC.joinR (fun (v1:Bool)=>⟨[(2,.v (.one (.ptr 0 0))),(3,.v (.one (.ptr 1 0))),(4,.v (.one (.ptr 2 0))),(15,.v (.one (dB v1)))],m55_h0 a0 a1,[],3,39,[]⟩) (fun (v1:Bool)=>(cond v1
     (some ((⟨0,([]:List LV)⟩:Lvl),3))
     (Option.bind (some ()) (fun (y3:Unit)=>Option.bind (Option.bind (loopN (m55_l0) FUEL (([]:List LV),a0.vs,a1.vs)) (fun (o7:(List LV)×(List LV)×(List LV))=>some (o7.1,o7.2.1,o7.2.2))) (fun (y5:(List LV)×(List LV)×(List LV))=>Option.bind (m77 (⟨(max a0.c a1.c),y5.1⟩:Lvl)) fun (x37:Lvl×Int) =>
   some (x37.1,x37.2)))))=some r) ?_ ?_
 refine bindK h0 (fun w1_ h1 h0=>?_)
 refine XC.region<|rR Z Z Z (RO.loadCE (a0:Lvl) ag_39 Z Z) ?_
 refine bindK h1 (fun x2 hx2 h1=>?_)
 refine XL.put Z Z (lb Z) (OpOK.callFun (m28_ok a0 x2 hx2) Z (.cons (.agg (.cons (.d _) (.cons (.d _) .nil))) .nil))<|rR Z Z Z (RO.not Z)<|rM Z Z Z ?_
 refine XL.case (d:=11) (c:=(!x2)) Z (fun c3=>?_) (fun c3=>?_)
 replace h1:=condT c3 h1
 refine XL.no Z Z<|XL.no Z Z<|XL.no Z Z<|rR Z Z Z (RO.pickT Z Z)<|XL.nil ?_
 have e:=sI h1;subst e
 exact XQ.joinR true (sL (Nat.zero_le _) Z Z Z Z Z) h0
 replace h1:=condF c3 h1
 refine rR Z Z Z (RO.loadCE (a1:Lvl) ag_39 Z Z) ?_
 refine bindK h1 (fun x4 hx4 h1=>?_)
 refine XL.put Z Z (lb Z) (OpOK.callFun (m28_ok a1 x4 hx4) Z (.cons (.agg (.cons (.d _) (.cons (.d _) .nil))) .nil))<|rR Z Z Z (RO.not Z)<|rR Z Z Z (RO.pickF Z Z)<|XL.nil ?_
 have e:=sI h1;subst e
 exact XQ.joinR (!x4) (sL (Nat.zero_le _) Z Z Z Z Z) h0
 intro v1 h0
 refine XQ.seq ?_
 refine XC.cond (b:=v1) Z (fun c5=>?_) (fun c5=>?_)
 replace h0:=condT c5 h0
 refine XC.seq<|XC.region<|rR Z Z Z (RO.build0 bd_39 Z )<|XL.eff Z Z (OpOK.store ag_39 Z Z Z Z (lb Z) Z)<|rA Z Z Z<|XL.nil<|XQ.seq<|XC.ret ?_
 have e:=sI h0;subst e
 exact XQ.retF (fun _ _ h=>h) Z (RAs.agg ag_39 Z Z Z Z (RAs.tmp Z .nil)) (.cons (.agg (.cons (.d _) (.cons (.nil _) .nil))) (.cons (.one (.d _)) .nil))
 replace h0:=condF c5 h0
 refine XC.skip<|XQ.seq<|XC.seq<|XC.region<|rR Z Z Z (RO.fieldOwn fo_39_0 Z)<|rR Z Z Z (RO.loadOwn ag_3 Z Z Z)<|rR Z Z Z (RO.fieldOwn fo_39_0 Z)<|rR Z Z Z (RO.loadOwn ag_3 Z Z Z)<|rR Z Z Z (RO.max2 Z Z)<|rR Z Z Z (RO.build1 bd_39 Z Z Z)<|XL.put Z Z (lb Z) (OpOK.alloc z_39 Z)<|XL.eff Z Z (OpOK.store ag_39 Z Z Z Z (lb Z) Z)<|XL.nil<|XQ.seq ?_
 refine XC.seq<|XC.seq<|XC.region<|rR Z Z Z (RO.fieldOwn fo_39_1 Z)<|rR Z Z Z (RO.loadOwn ag_37 Z Z Z)<|rR Z Z Z (RO.fieldOwn fo_39_1 Z)<|rR Z Z Z (RO.loadOwn ag_37 Z Z Z) ?_
 refine bindK h0 (fun y6 h1 h0=>?_)
 have hc7:CallM Try.prog 76 [.one (dS a0.vs),.one (dS a1.vs)] ⟨m55_h1 a0 a1,[],4⟩ (resOf [.one (.fn 87 [(4,0),(5,0)])]) ⟨m55_h2 a0 a1,[],6⟩:=by
  refine CallM.of_bodyD ⟨[(4,.v (.one (.fn 87 [(4,0),(5,0)])))],m55_h2 a0 a1,[],6,6,[]⟩ Z Z en_76 (lb Z) Z (RAs.tmp Z .nil) (fun w0 M V0 Q hv1 hQ1=>?_)
  simp only [entry]
  refine XC.seq<|XC.region<|XL.put Z Z (lb Z) (OpOK.box Z)<|XL.put Z Z (lb Z) (OpOK.box Z)<|rA Z Z Z<|XL.nil<|XQ.seq<|XC.seq<|XC.region<|rR Z Z Z (RO.makeFunc2 Z Z)<|rA Z Z Z<|XL.nil<|XQ.seq<|XC.ret ?_
  have e:=sI h1;subst e
  exact hQ1 _ _ _ (.inr Z) Z (sL (Nat.le_trans hv1 (lb Z)) Z Z Z Z Z)
 refine XL.put Z Z (lb Z) (OpOK.callW Z Z Z hc7 Z (hA Z) kZ)<|XL.nil<|XQ.seq<|XC.block<|XC.less (st':=⟨[(4,.v (.one (.ptr 2 0))),(6,.v (.one (.ptr 3 0))),(27,.v (.one (.fn 87 [(4,0),(5,0)])))],m55_h2 a0 a1,[],6,39,[]⟩) (sL (Nat.zero_le _) Z Z Z Z Z) ?_
 refine bindK h0 (fun y8 h1 h0=>?_)
 have hc9:CallM Try.prog 87 [.one (.yld 7),.one (.ptr 4 0),.one (.ptr 5 0)] ⟨[(7,.loop .ready none [(4,.v (.one (.ptr 2 0))),(6,.v (.one (.ptr 3 0))),(27,.v (.one (.fn 87 [(4,0),(5,0)])))] 39 #[28] m55_c0 m55_c1 6),(6,.obj (.deferred (some []))),(0,.cells 39 (cE a0)),(1,.cells 39 (cE a1)),(2,.cells 39 [dI 0,dN]),(3,.cells 39 [dI (max a0.c a1.c),dN]),(4,.cells 37 [dS a0.vs]),(5,.cells 37 [dS a1.vs])],[],8⟩ (resOf []) ⟨m55_h4 a0 a1 y8,[(8,some ⟨59,2,(Enc.encL y8.1).length,[]⟩)],9⟩:=by
  refine CallM.of_bodyD ⟨[],m55_h4 a0 a1 y8,[(8,some ⟨59,2,(Enc.encL y8.1).length,[]⟩)],9,80,[]⟩ Z Z en_87 (lb Z) Z .nil (fun w0 M V0 Q hv1 hQ1=>?_)
  simp only [entry]
  refine XC.block ?_
  refine XC.joinX 0 (fun (o10:(List LV)×(List LV)×(List LV))=>⟨[],[(0,.cells 39 (cE a0)),(1,.cells 39 (cE a1)),(2,.cells 39 [dI 0,dN]),(3,.cells 39 [dI (max a0.c a1.c),dA 8 o10.1]),(4,.cells 37 [dS o10.2.1]),(5,.cells 37 [dS o10.2.2]),(6,.obj (.deferred (some []))),(7,m55_h3)],[(8,some ⟨59,2,(Enc.encL o10.1).length,[]⟩)],9,80,[]⟩) (fun (o10:(List LV)×(List LV)×(List LV))=>(some (o10.1,o10.2.1,o10.2.2))=some y8) ?_ ?_
  refine XC.adoptC (i:=3) (off:=1) 59 2 Z Z ?_
  refine bindK h1 (fun o11 hl2 h1=>?_)
  refine XC.loopM (m55_l0) (fun s2=>⟨[(0,.v (.one (.yld 7))),(1,.v (.one (.ptr 4 0))),(2,.v (.one (.ptr 5 0)))],[(0,.cells 39 (cE a0)),(1,.cells 39 (cE a1)),(2,.cells 39 [dI 0,dN]),(3,.cells 39 [dI (max a0.c a1.c),dA 8 s2.1]),(4,.cells 37 [dS s2.2.1]),(5,.cells 37 [dS s2.2.2]),(6,.obj (.deferred (some []))),(7,m55_h3)],[(8,some ⟨59,2,(Enc.encL s2.1).length,[]⟩)],9,80,[]⟩) (([]:List LV),a0.vs,a1.vs) o11 (sL (Nat.le_trans hv1 (lb Z)) Z Z Z Z Z) hl2 (fun s2 n2 oo2 h2 ho2=>?_)
  unfold m55_l0 at h2
  refine XC.seq<|XC.seq ?_
  refine XC.joinR (fun (v12:Bool)=>⟨[(0,.v (.one (.yld 7))),(1,.v (.one (.ptr 4 0))),(2,.v (.one (.ptr 5 0))),(12,.v (.one (dB v12)))],m55_h4 a0 a1 s2,[(8,some ⟨59,2,(Enc.encL s2.1).length,[]⟩)],9,80,[]⟩) (fun (v12:Bool)=>(cond v12
      (Option.bind (cond ((s2.2.2.length:Int)==0)
      (some true)
      (cond (decide (0 < (s2.2.1.length:Int)))
      (Option.bind (idx s2.2.1 0) fun (x17:LV) =>
    Option.bind (idx s2.2.2 0) fun (x18:LV) =>
    some (decide (x17.1 < x18.1)))
      (some false))) (fun (v14:Bool)=>Option.bind (cond v14
      (Option.bind (idx s2.2.1 0) fun (x17:LV) =>
    guardO (cond (decide (0≤(1:Int))) (Nat.ble (1:Int).toNat s2.2.1.length) false)
    (some ((s2.2.1.drop (1:Int).toNat),s2.2.2,x17.1,x17.2)))
      (Option.bind (cond ((s2.2.1.length:Int)==0)
      (some true)
      (Option.bind (idx s2.2.2 0) fun (x21:LV) =>
    Option.bind (idx s2.2.1 0) fun (x22:LV) =>
    some (decide (x21.1 < x22.1)))) (fun (v19:Bool)=>cond v19
      (Option.bind (idx s2.2.2 0) fun (x21:LV) =>
    guardO (cond (decide (0≤(1:Int))) (Nat.ble (1:Int).toNat s2.2.2.length) false)
    (some (s2.2.1,(s2.2.2.drop (1:Int).toNat),x21.1,x21.2)))
      (Option.bind (idx s2.2.1 0) fun (x23:LV) =>
    Option.bind (idx s2.2.1 0) fun (x24:LV) =>
    Option.bind (idx s2.2.2 0) fun (x25:LV) =>
    guardO (cond (decide (0≤(1:Int))) (Nat.ble (1:Int).toNat s2.2.1.length) false)
    (guardO (cond (decide (0≤(1:Int))) (Nat.ble (1:Int).toNat s2.2.2.length) false)
    (some ((s2.2.1.drop (1:Int).toNat),(s2.2.2.drop (1:Int).toNat),x23.1,(max x24.2 x25.2)))))))) (fun (v15:(List LV)×(List LV)×Int×Int)=>Option.bind (guardO (Nat.ble (s2.1.length+([v15.2.2]).length) 1000000000)
    (some ())) (fun (y16:Unit)=>some (.next ((s2.1++([v15.2.2])),v15.1,v15.2.1))))))
      (some (.done (s2.1,s2.2.1,s2.2.2))))=some oo2) ?_ ?_
  refine bindK h2 (fun w3_ h3 h2=>?_)
  refine XC.region<|rR Z Z Z (RO.loadOwn ag_37 Z Z Z)<|rR Z Z Z (RO.lenE (α:=LV) sl_37 Z (.d _))<|rR Z Z Z (RO.binInt Z Z Z)<|rM Z Z Z ?_
  refine XL.case (d:=8) (c:=(decide (0 < (s2.2.1.length:Int)))) Z (fun c13=>?_) (fun c13=>?_)
  replace h3:=condT c13 h3
  refine XL.no Z Z<|XL.no Z Z<|XL.no Z Z<|rR Z Z Z (RO.pickT Z Z)<|XL.nil ?_
  have e:=sI h3;subst e
  exact XQ.joinR true (sL (Nat.le_trans hv1 (lb Z)) Z Z Z Z Z) h2
  replace h3:=condF c13 h3
  refine rR Z Z Z (RO.loadOwn ag_37 Z Z Z)<|rR Z Z Z (RO.lenE (α:=LV) sl_37 Z (.d _))<|rR Z Z Z (RO.binInt Z Z Z)<|rR Z Z Z (RO.pickF Z Z)<|XL.nil ?_
  have e:=sI h3;subst e
  exact XQ.joinR (decide (0 < (s2.2.2.length:Int))) (sL (Nat.le_trans hv1 (lb Z)) Z Z Z Z Z) h2
  intro v12 h2
  refine XQ.seq ?_
  refine XC.cond (b:=v12) Z (fun c14=>?_) (fun c14=>?_)
  replace h2:=condT c14 h2
  refine XC.skip<|XQ.seq<|XC.block<|XC.seq<|XC.region<|XL.put Z Z (lb Z) (OpOK.alloc z_59 Z)<|XL.nil<|XQ.seq<|XC.seq<|XC.block<|XC.seq ?_
  refine XC.joinR (fun (v15:Bool)=>⟨[(0,.v (.one (.yld 7))),(1,.v (.one (.ptr 4 0))),(2,.v (.one (.ptr 5 0))),(4,.v (.one (.ptr 9 0))),(31,.v (.one (dB v15)))],m55_h5 a0 a1 s2,[(8,some ⟨59,2,(Enc.encL s2.1).length,[]⟩)],10,80,[]⟩) (fun (v15:Bool)=>(Option.bind (cond v15
      (Option.bind (idx s2.2.1 0) fun (x18:LV) =>
    guardO (cond (decide (0≤(1:Int))) (Nat.ble (1:Int).toNat s2.2.1.length) false)
    (some ((s2.2.1.drop (1:Int).toNat),s2.2.2,x18.1,x18.2)))
      (Option.bind (cond ((s2.2.1.length:Int)==0)
      (some true)
      (Option.bind (idx s2.2.2 0) fun (x22:LV) =>
    Option.bind (idx s2.2.1 0) fun (x23:LV) =>
    some (decide (x22.1 < x23.1)))) (fun (v20:Bool)=>cond v20
      (Option.bind (idx s2.2.2 0) fun (x22:LV) =>
    guardO (cond (decide (0≤(1:Int))) (Nat.ble (1:Int).toNat s2.2.2.length) false)
    (some (s2.2.1,(s2.2.2.drop (1:Int).toNat),x22.1,x22.2)))
      (Option.bind (idx s2.2.1 0) fun (x24:LV) =>
    Option.bind (idx s2.2.1 0) fun (x25:LV) =>
    Option.bind (idx s2.2.2 0) fun (x26:LV) =>
    guardO (cond (decide (0≤(1:Int))) (Nat.ble (1:Int).toNat s2.2.1.length) false)
    (guardO (cond (decide (0≤(1:Int))) (Nat.ble (1:Int).toNat s2.2.2.length) false)
    (some ((s2.2.1.drop (1:Int).toNat),(s2.2.2.drop (1:Int).toNat),x24.1,(max x25.2 x26.2)))))))) (fun (v16:(List LV)×(List LV)×Int×Int)=>Option.bind (guardO (Nat.ble (s2.1.length+([v16.2.2]).length) 1000000000)
    (some ())) (fun (y17:Unit)=>some (.next ((s2.1++([v16.2.2])),v16.1,v16.2.1)))))=some oo2) ?_ ?_
  refine bindK h2 (fun w3_ h3 h2=>?_)
  refine XC.anyRun [] [] mixed (by kernel_rfl) (by kernel_rfl) (by kernel_rfl) ?_
  refine RunA.rd Z Z Z (OpOK.of_ro (RO.loadOwn ag_37 Z Z Z)) Z<|RunA.rd Z Z Z (OpOK.of_ro (RO.lenE (α:=LV) sl_37 Z (.d _))) Z<|RunA.rd Z Z Z (OpOK.of_ro (RO.binInt Z Z Z)) Z ?_
  refine RunA.case (c:=((s2.2.2.length:Int)==0)) Z Z Z (OpOK.of_ro (RO.move Z)) Z (fun c16=>?_) (fun c16=>?_)
  replace h3:=condT c16 h3
  refine RunA.no Z Z Z Z<|RunA.no Z Z Z Z<|RunA.no Z Z Z Z<|RunA.no Z Z Z Z<|RunA.no Z Z Z Z<|RunA.no Z Z Z Z<|RunA.no Z Z Z Z<|RunA.no Z Z Z Z<|RunA.no Z Z Z Z<|RunA.no Z Z Z Z<|RunA.no Z Z Z Z<|RunA.no Z Z Z Z<|RunA.no Z Z Z Z<|RunA.no Z Z Z Z ?_
  refine RunA.rd Z Z Z (OpOK.of_ro (RO.pickT Z Z)) Z<|RunA.rd Z Z Z (OpOK.of_ro (RO.assign Z)) Z ?_
  refine RunA.nil ⟨?ex,_,_,Z,?_⟩
  case ex=>exact trivial
  have e:=sI h3;subst e
  exact XQ.joinR true (sL (Nat.le_trans hv1 (lb Z)) Z Z Z Z Z) h2
  replace h3:=condF c16 h3
  refine RunA.rd Z Z Z (OpOK.of_ro (RO.loadOwn ag_37 Z Z Z)) Z<|RunA.rd Z Z Z (OpOK.of_ro (RO.lenE (α:=LV) sl_37 Z (.d _))) Z<|RunA.rd Z Z Z (OpOK.of_ro (RO.binInt Z Z Z)) Z ?_
  refine RunA.case (c:=(decide (0 < (s2.2.1.length:Int)))) Z Z Z (OpOK.of_ro (RO.move Z)) Z (fun c17=>?_) (fun c17=>?_)
  replace h3:=condT c17 h3
  refine RunA.rd Z Z Z (OpOK.of_ro (RO.loadOwn ag_37 Z Z Z)) Z ?_
  refine bindK h3 (fun x18 hx18 h3=>?_)
  refine RunA.rd Z Z Z (OpOK.of_ro (RO.indexE (α:=LV) sl_37 Z (.d _) Z hx18)) Z<|RunA.rd Z Z Z (OpOK.of_ro (RO.fieldPel fo_59_0 Z)) Z<|RunA.rd Z Z Z (OpOK.of_ro (RO.loadPel ag_3 Z Z)) Z<|RunA.rd Z Z Z (OpOK.of_ro (RO.loadOwn ag_37 Z Z Z)) Z ?_
  refine bindK h3 (fun x19 hx19 h3=>?_)
  refine RunA.rd Z Z Z (OpOK.of_ro (RO.indexE (α:=LV) sl_37 Z (.d _) Z hx19)) Z<|RunA.rd Z Z Z (OpOK.of_ro (RO.fieldPel fo_59_0 Z)) Z<|RunA.rd Z Z Z (OpOK.of_ro (RO.loadPel ag_3 Z Z)) Z<|RunA.rd Z Z Z (OpOK.of_ro (RO.binInt Z Z Z)) Z<|RunA.rd Z Z Z (OpOK.of_ro (RO.pickT Z Z)) Z<|RunA.rd Z Z Z (OpOK.of_ro (RO.pickF Z Z)) Z<|RunA.rd Z Z Z (OpOK.of_ro (RO.assign Z)) Z ?_
  refine RunA.nil ⟨?ex,_,_,Z,?_⟩
  case ex=>exact trivial
  have e:=sI h3;subst e
  exact XQ.joinR (decide (x18.1 < x19.1)) (sL (Nat.le_trans hv1 (lb Z)) Z Z Z Z Z) h2
  replace h3:=condF c17 h3
  refine RunA.no Z Z Z Z<|RunA.no Z Z Z Z<|RunA.no Z Z Z Z<|RunA.no Z Z Z Z<|RunA.no Z Z Z Z<|RunA.no Z Z Z Z<|RunA.no Z Z Z Z<|RunA.no Z Z Z Z<|RunA.no Z Z Z Z<|RunA.rd Z Z Z (OpOK.of_ro (RO.pickF Z Z)) Z<|RunA.rd Z Z Z (OpOK.of_ro (RO.pickF Z Z)) Z<|RunA.rd Z Z Z (OpOK.of_ro (RO.assign Z)) Z ?_
  refine RunA.nil ⟨?ex,_,_,Z,?_⟩
  case ex=>exact trivial
  have e:=sI h3;subst e
  exact XQ.joinR false (sL (Nat.le_trans hv1 (lb Z)) Z Z Z Z Z) h2
  intro v15 h2
  refine XQ.seq ?_
  refine XC.joinR (fun (v20:(List LV)×(List LV)×Int×Int)=>⟨[(0,.v (.one (.yld 7))),(1,.v (.one (.ptr 4 0))),(2,.v (.one (.ptr 5 0))),(4,.v (.one (.ptr 9 0)))],[(0,.cells 39 (cE a0)),(1,.cells 39 (cE a1)),(2,.cells 39 [dI 0,dN]),(3,.cells 39 [dI (max a0.c a1.c),dA 8 s2.1]),(4,.cells 37 [dS v20.1]),(5,.cells 37 [dS v20.2.1]),(6,.obj (.deferred (some []))),(7,m55_h3),(9,.cells 59 (cE v20.2.2))],[(8,some ⟨59,2,(Enc.encL s2.1).length,[]⟩)],10,80,[]⟩) (fun (v20:(List LV)×(List LV)×Int×Int)=>(Option.bind (guardO (Nat.ble (s2.1.length+([v20.2.2]).length) 1000000000)
    (some ())) (fun (y21:Unit)=>some (.next ((s2.1++([v20.2.2])),v20.1,v20.2.1))))=some oo2) ?_ ?_
  refine bindK h2 (fun w3_ h3 h2=>?_)
  refine XC.cond (b:=v15) Z (fun c21=>?_) (fun c21=>?_)
  replace h3:=condT c21 h3
  refine XC.anyRun [5,6] [(3,1),(4,1)] mixed (by kernel_rfl) (by kernel_rfl) (by kernel_rfl) ?_
  refine RunA.rd Z Z Z (OpOK.of_ro (RO.loadOwn ag_37 Z Z Z)) Z ?_
  refine bindK h3 (fun x22 hx22 h3=>?_)
  refine RunA.rd Z Z Z (OpOK.of_ro (RO.indexE (α:=LV) sl_37 Z (.d _) Z hx22)) Z<|RunA.rd Z Z Z (OpOK.of_ro (RO.loadPelCE (x22:LV) ag_59 Z)) Z<|RunA.rd Z Z Z (OpOK.of_ro (RO.loadOwn ag_37 Z Z Z)) Z ?_
  refine guardK h3 (fun g23 h3=>?_)
  refine RunA.rd Z Z Z (OpOK.of_ro (RO.sliceFrom (α:=LV) sl_37 Z (.d _) Z g23)) Z<|RunA.eff Z Z Z (OpOK.storeCE (x22:LV) ag_59 Z Z Z Z Z) Z<|RunA.eff Z Z Z (OpOK.store ag_37 Z Z Z Z (lb Z) Z) Z ?_
  refine RunA.nil ⟨?ex,_,_,Z,?_⟩
  case ex=>exact ⟨⟨_,rfl,_,_,rfl,rfl,rfl,.inl ⟨rfl,_,OpOK.of_ro (RO.loadOwn ag_37 rfl rfl rfl),rfl⟩⟩,⟨_,rfl,_,_,rfl,rfl,rfl,.inl ⟨rfl,_,OpOK.of_ro (RO.sliceFrom (α:=LV) sl_37 rfl (.d _) rfl g23),rfl⟩⟩,trivial⟩
  have e:=sI h3;subst e
  exact XQ.joinR ((s2.2.1.drop (1:Int).toNat),s2.2.2,x22.1,x22.2) (sL (Nat.le_trans hv1 (lb Z)) Z Z Z Z Z) h2
  replace h3:=condF c21 h3
  refine XC.seq ?_
  refine XC.joinR (fun (v24:Bool)=>⟨[(0,.v (.one (.yld 7))),(1,.v (.one (.ptr 4 0))),(2,.v (.one (.ptr 5 0))),(4,.v (.one (.ptr 9 0))),(56,.v (.one (dB v24)))],m55_h5 a0 a1 s2,[(8,some ⟨59,2,(Enc.encL s2.1).length,[]⟩)],10,80,[]⟩) (fun (v24:Bool)=>(cond v24
      (Option.bind (idx s2.2.2 0) fun (x26:LV) =>
    guardO (cond (decide (0≤(1:Int))) (Nat.ble (1:Int).toNat s2.2.2.length) false)
    (some (s2.2.1,(s2.2.2.drop (1:Int).toNat),x26.1,x26.2)))
      (Option.bind (idx s2.2.1 0) fun (x28:LV) =>
    Option.bind (idx s2.2.1 0) fun (x29:LV) =>
    Option.bind (idx s2.2.2 0) fun (x30:LV) =>
    guardO (cond (decide (0≤(1:Int))) (Nat.ble (1:Int).toNat s2.2.1.length) false)
    (guardO (cond (decide (0≤(1:Int))) (Nat.ble (1:Int).toNat s2.2.2.length) false)
    (some ((s2.2.1.drop (1:Int).toNat),(s2.2.2.drop (1:Int).toNat),x28.1,(max x29.2 x30.2))))))=some w3_) ?_ ?_
  refine bindK h3 (fun w4_ h4 h3=>?_)
  refine XC.anyRun [] [] mixed (by kernel_rfl) (by kernel_rfl) (by kernel_rfl) ?_
  refine RunA.rd Z Z Z (OpOK.of_ro (RO.loadOwn ag_37 Z Z Z)) Z<|RunA.rd Z Z Z (OpOK.of_ro (RO.lenE (α:=LV) sl_37 Z (.d _))) Z<|RunA.rd Z Z Z (OpOK.of_ro (RO.binInt Z Z Z)) Z ?_
  refine RunA.case (c:=((s2.2.1.length:Int)==0)) Z Z Z (OpOK.of_ro (RO.move Z)) Z (fun c25=>?_) (fun c25=>?_)
  replace h4:=condT c25 h4
  refine RunA.no Z Z Z Z<|RunA.no Z Z Z Z<|RunA.no Z Z Z Z<|RunA.no Z Z Z Z<|RunA.no Z Z Z Z<|RunA.no Z Z Z Z<|RunA.no Z Z Z Z<|RunA.no Z Z Z Z<|RunA.no Z Z Z Z<|RunA.rd Z Z Z (OpOK.of_ro (RO.pickT Z Z)) Z<|RunA.rd Z Z Z (OpOK.of_ro (RO.assign Z)) Z ?_
  refine RunA.nil ⟨?ex,_,_,Z,?_⟩
  case ex=>exact trivial
  have e:=sI h4;subst e
  exact XQ.joinR true (sL (Nat.le_trans hv1 (lb Z)) Z Z Z Z Z) h3
  replace h4:=condF c25 h4
  refine RunA.rd Z Z Z (OpOK.of_ro (RO.loadOwn ag_37 Z Z Z)) Z ?_
  refine bindK h4 (fun x26 hx26 h4=>?_)
  refine RunA.rd Z Z Z (OpOK.of_ro (RO.indexE (α:=LV) sl_37 Z (.d _) Z hx26)) Z<|RunA.rd Z Z Z (OpOK.of_ro (RO.fieldPel fo_59_0 Z)) Z<|RunA.rd Z Z Z (OpOK.of_ro (RO.loadPel ag_3 Z Z)) Z<|RunA.rd Z Z Z (OpOK.of_ro (RO.loadOwn ag_37 Z Z Z)) Z ?_
  refine bindK h4 (fun x27 hx27 h4=>?_)
  refine RunA.rd Z Z Z (OpOK.of_ro (RO.indexE (α:=LV) sl_37 Z (.d _) Z hx27)) Z<|RunA.rd Z Z Z (OpOK.of_ro (RO.fieldPel fo_59_0 Z)) Z<|RunA.rd Z Z Z (OpOK.of_ro (RO.loadPel ag_3 Z Z)) Z<|RunA.rd Z Z Z (OpOK.of_ro (RO.binInt Z Z Z)) Z<|RunA.rd Z Z Z (OpOK.of_ro (RO.pickF Z Z)) Z<|RunA.rd Z Z Z (OpOK.of_ro (RO.assign Z)) Z ?_
  refine RunA.nil ⟨?ex,_,_,Z,?_⟩
  case ex=>exact trivial
  have e:=sI h4;subst e
  exact XQ.joinR (decide (x26.1 < x27.1)) (sL (Nat.le_trans hv1 (lb Z)) Z Z Z Z Z) h3
  intro v24 h3
  refine XQ.seq ?_
  refine XC.cond (b:=v24) Z (fun c28=>?_) (fun c28=>?_)
  replace h3:=condT c28 h3
  refine XC.anyRun [5,6] [(3,1),(4,1)] mixed (by kernel_rfl) (by kernel_rfl) (by kernel_rfl) ?_
  refine RunA.rd Z Z Z (OpOK.of_ro (RO.loadOwn ag_37 Z Z Z)) Z ?_
  refine bindK h3 (fun x29 hx29 h3=>?_)
  refine RunA.rd Z Z Z (OpOK.of_ro (RO.indexE (α:=LV) sl_37 Z (.d _) Z hx29)) Z<|RunA.rd Z Z Z (OpOK.of_ro (RO.loadPelCE (x29:LV) ag_59 Z)) Z<|RunA.rd Z Z Z (OpOK.of_ro (RO.loadOwn ag_37 Z Z Z)) Z ?_
  refine guardK h3 (fun g30 h3=>?_)
  refine RunA.rd Z Z Z (OpOK.of_ro (RO.sliceFrom (α:=LV) sl_37 Z (.d _) Z g30)) Z<|RunA.eff Z Z Z (OpOK.storeCE (x29:LV) ag_59 Z Z Z Z Z) Z<|RunA.eff Z Z Z (OpOK.store ag_37 Z Z Z Z (lb Z) Z) Z ?_
  refine RunA.nil ⟨?ex,_,_,Z,?_⟩
  case ex=>exact ⟨⟨_,rfl,_,_,rfl,rfl,rfl,.inl ⟨rfl,_,OpOK.of_ro (RO.loadOwn ag_37 rfl rfl rfl),rfl⟩⟩,⟨_,rfl,_,_,rfl,rfl,rfl,.inl ⟨rfl,_,OpOK.of_ro (RO.sliceFrom (α:=LV) sl_37 rfl (.d _) rfl g30),rfl⟩⟩,trivial⟩
  have e:=sI h3;subst e
  exact XQ.joinR (s2.2.1,(s2.2.2.drop (1:Int).toNat),x29.1,x29.2) (sL (Nat.le_trans hv1 (lb Z)) Z Z Z Z Z) h2
  replace h3:=condF c28 h3
  refine XC.seq ?_
  refine XC.anyRun [14] [] mixed (by kernel_rfl) (by kernel_rfl) (by kernel_rfl) ?_
  refine RunA.rd Z Z Z (OpOK.of_ro (RO.loadOwn ag_37 Z Z Z)) Z ?_
  refine bindK h3 (fun x31 hx31 h3=>?_)
  refine RunA.rd Z Z Z (OpOK.of_ro (RO.indexE (α:=LV) sl_37 Z (.d _) Z hx31)) Z<|RunA.rd Z Z Z (OpOK.of_ro (RO.fieldPel fo_59_0 Z)) Z<|RunA.rd Z Z Z (OpOK.of_ro (RO.loadPel ag_3 Z Z)) Z<|RunA.rd Z Z Z (OpOK.of_ro (RO.loadOwn ag_37 Z Z Z)) Z ?_
  refine bindK h3 (fun x32 hx32 h3=>?_)
  refine RunA.rd Z Z Z (OpOK.of_ro (RO.indexE (α:=LV) sl_37 Z (.d _) Z hx32)) Z<|RunA.rd Z Z Z (OpOK.of_ro (RO.fieldPel fo_59_1 Z)) Z<|RunA.rd Z Z Z (OpOK.of_ro (RO.loadPel ag_3 Z Z)) Z<|RunA.rd Z Z Z (OpOK.of_ro (RO.loadOwn ag_37 Z Z Z)) Z ?_
  refine bindK h3 (fun x33 hx33 h3=>?_)
  refine RunA.rd Z Z Z (OpOK.of_ro (RO.indexE (α:=LV) sl_37 Z (.d _) Z hx33)) Z<|RunA.rd Z Z Z (OpOK.of_ro (RO.fieldPel fo_59_1 Z)) Z<|RunA.rd Z Z Z (OpOK.of_ro (RO.loadPel ag_3 Z Z)) Z<|RunA.rd Z Z Z (OpOK.of_ro (RO.max2 Z Z)) Z<|RunA.rd Z Z Z (OpOK.of_ro (RO.build2 bd_59 Z Z Z Z)) Z<|RunA.eff Z Z Z (OpOK.store ag_59 Z Z Z Z (lb Z) Z) Z ?_
  refine RunA.nil ⟨?ex,_,_,Z,?_⟩
  case ex=>exact trivial
  refine XQ.less (st':=⟨[(0,.v (.one (.yld 7))),(1,.v (.one (.ptr 4 0))),(2,.v (.one (.ptr 5 0))),(4,.v (.one (.ptr 9 0)))],m55_h6 a0 a1 s2 x31 x32 x33,[(8,some ⟨59,2,(Enc.encL s2.1).length,[]⟩)],10,80,[]⟩) (sL (Nat.le_trans hv1 (lb Z)) Z Z Z Z Z)<|XQ.seq ?_
  refine XC.anyRun [4,5] [(2,1),(3,1)] mixed (by kernel_rfl) (by kernel_rfl) (by kernel_rfl) ?_
  refine RunA.rd Z Z Z (OpOK.of_ro (RO.loadOwn ag_37 Z Z Z)) Z ?_
  refine guardK h3 (fun g34 h3=>?_)
  refine RunA.rd Z Z Z (OpOK.of_ro (RO.sliceFrom (α:=LV) sl_37 Z (.d _) Z g34)) Z<|RunA.rd Z Z Z (OpOK.of_ro (RO.loadOwn ag_37 Z Z Z)) Z ?_
  refine guardK h3 (fun g35 h3=>?_)
  refine RunA.rd Z Z Z (OpOK.of_ro (RO.sliceFrom (α:=LV) sl_37 Z (.d _) Z g35)) Z<|RunA.eff Z Z Z (OpOK.store ag_37 Z Z Z Z (lb Z) Z) Z<|RunA.eff Z Z Z (OpOK.store ag_37 Z Z Z Z (lb Z) Z) Z ?_
  refine RunA.nil ⟨?ex,_,_,Z,?_⟩
  case ex=>exact ⟨⟨_,rfl,_,_,rfl,rfl,rfl,.inl ⟨rfl,_,OpOK.of_ro (RO.loadOwn ag_37 rfl rfl rfl),rfl⟩⟩,⟨_,rfl,_,_,rfl,rfl,rfl,.inl ⟨rfl,_,OpOK.of_ro (RO.sliceFrom (α:=LV) sl_37 rfl (.d _) rfl g35),rfl⟩⟩,trivial⟩
  have e:=sI h3;subst e
  exact XQ.joinR ((s2.2.1.drop (1:Int).toNat),(s2.2.2.drop (1:Int).toNat),x31.1,(max x32.2 x33.2)) (sL (Nat.le_trans hv1 (lb Z)) Z Z Z Z Z) h2
  intro v20 h2
  refine XQ.inBlock<|XQ.seq<|XC.seq<|XC.region<|rM Z Z Z<|rR Z Z Z (RO.loadCE (v20.2.2:LV) ag_59 Z Z) ?_
  refine bindK h2 (fun y36 h3 h2=>?_)
  have ha37:ExecOK Try.prog (some 7) m55_c0 ⟨[(4,.v (.one (.ptr 2 0))),(6,.v (.one (.ptr 3 0))),(27,.v (.one (.fn 87 [(4,0),(5,0)]))),(28,.v (.agg (cE v20.2.2)))],m55_h7 a0 a1 s2 v20,[(8,some ⟨59,2,(Enc.encL s2.1).length,[]⟩)],10,39,[]⟩ .normal ⟨[(6,.v (.one (.ptr 3 0))),(7,.v (.one (.ptr 10 0)))],m55_h10 a0 a1 s2 v20,[(8,some ⟨59,2,(Enc.encL s2.1).length,[]⟩)],11,39,[]⟩:=by
   refine ExecOK.walk (fun w0 M V0 ro n Q hv3 hro3 hQn3=>?_)
   refine XC.region<|XL.put Z Z (lb Z) (OpOK.alloc z_59 Z)<|XL.eff Z Z (OpOK.storeCE (v20.2.2:LV) ag_59 Z Z Z Z Z)<|XL.nil ?_
   exact XQ.of hQn3 (sL (Nat.le_trans hv3 (lb Z)) Z Z Z Z Z)
  have hb38:ExecOK Try.prog (some 7) m55_c1 ⟨[(6,.v (.one (.ptr 3 0))),(7,.v (.one (.ptr 10 0)))],m55_h9 a0 a1 s2 v20,[(8,some ⟨59,2,(Enc.encL s2.1).length,[]⟩)],11,39,[]⟩ .normal ⟨[],m55_h12 a0 a1 s2 v20,[(8,some ⟨59,2,(Enc.encL ((s2.1++([v20.2.2])):List LV)).length,[]⟩)],12,39,[]⟩:=by
   refine ExecOK.walk (fun w0 M V0 ro n Q hv3 hro3 hQn3=>?_)
   refine XC.block<|XC.region<|rR Z Z Z (RO.fieldOwn fo_39_1 Z)<|rR Z Z Z (RO.loadOwn ag_37 Z Z Z)<|rR Z Z Z (RO.loadCE (v20.2.2:LV) ag_59 Z Z)<|XL.put Z Z (lb Z) (OpOK.lit1E (α:=LV) (v20.2.2) sl_37 z_59 Z Z (lb Z) (lb Z) Z Z (.cons (.d _) (.cons (.d _) .nil)) Z) ?_
   refine guardK h3 (fun g39 h3=>?_)
   refine XL.put Z Z (lb Z) (OpOK.appendE (α:=LV) sl_37 el_59 Z Z Z Z Z (.app _ _) g39)<|rR Z Z Z (RO.fieldOwn fo_39_1 Z)<|XL.eff Z Z (OpOK.store ag_37 Z Z Z Z (lb Z) Z)<|XL.nil<|XQ.inBlock ?_
   have e:=sI h3;subst e
   exact XQ.of hQn3 (sL (Nat.le_trans hv3 (lb Z)) Z Z Z Z Z)
  refine XL.put Z Z (lb Z) (OpOK.yield (jump:=none) Z Z Z Z Z (ExecOK.from ha37 (fun E hv=>(sL (Nat.le_trans hv (lb Z)) Z Z Z Z Z))) Z (ExecOK.from hb38 (fun E hv=>(sL (Nat.le_trans hv (lb Z)) Z Z Z Z Z))) Z Z) ?_
  refine rR Z Z Z (RO.not Z)<|XL.nil<|XQ.seq ?_
  refine XC.cond Z (fun h=>nomatch h) (fun _=>?_)
  refine XC.skip<|XQ.inBlock ?_
  have e:=sI h2;subst e
  refine XQ.nextM ((s2.1++([v20.2.2])),v20.1,v20.2.1) (sL (Nat.le_trans hv1 (lb Z)) Z Z Z Z Z) ho2
  replace h2:=condF c14 h2
  refine XC.exit<|XQ.thenE<|XQ.thenE ?_
  have e:=sI h2;subst e
  have e_:_=_:=ho2
  subst e_
  exact XQ.joinX (s2.1,s2.2.1,s2.2.2) (sL (Nat.le_trans hv1 (lb Z)) Z Z Z Z Z) h1
  intro o10 h1
  refine XQ.blockX ?_
  have e:=sI h1;subst e
  exact hQ1 _ _ _ (.inl Z) Z (sL (Nat.le_trans hv1 (lb Z)) Z Z Z Z Z)
 refine XC.exec (rangeFunc_out (e:=.normal) rfl hc9 rfl rfl (by intro h;cases h) rfl) rfl ?_
 refine XQ.inBlock<|XQ.seq<|XC.seq<|XC.region<|rR Z Z Z (RO.loadOwnAgg ag_39 Z Z Z Z) ?_
 refine bindK h0 (fun x40 hx40 h0=>?_)
 refine XL.put Z Z (lb Z) (OpOK.callFun (m77_ok (⟨(max a0.c a1.c),y8.1⟩:Lvl) x40 hx40) Z (.cons (.agg (.cons (.d _) (.cons (.app _ _ _) .nil))) .nil))<|rR Z Z Z (RO.extract Z Z)<|rR Z Z Z (RO.extract Z Z)<|XL.eff Z Z (OpOK.storeCE (x40.1:Lvl) ag_39 Z Z Z Z Z)<|rA Z Z Z<|XL.nil<|XQ.seq<|XC.ret ?_
 have e:=sI h0;subst e
 exact XQ.retF (fun _ _ h=>h) Z (RAs.agg ag_39 Z Z Z Z (RAs.tmp Z .nil)) (.cons (.agg (.cons (.d _) (.cons (.d _) .nil))) (.cons (.one (.d _)) .nil))
def m68f7 (a0:Int) (a1:Int) (a2:IMap):Option IMap :=
 Option.bind (cond (!(imHas a2 a0))
   (some true)
   (some (decide ((imVal a2 a0) < a1)))) (fun (v1:Bool)=>cond v1
   (some (imSet a2 a0 a1))
   (some a2))
theorem m68f7_ok (a0:Int) (a1:Int) (a2:IMap) (r:IMap) (h0:m68f7 a0 a1 a2=some r):CallM Try.prog 68 [.one (.mp 0),.one (dI a0),.one (dI a1)] ⟨[(0,.mp (imE a2.1) a2.2)],[],1⟩ (resOf []) ⟨[(0,.mp (imE r.1) r.2)],[],1⟩:=by
 unfold m68f7 at h0
 refine CallM.of_bodyD ⟨[],[(0,.mp (imE r.1) r.2)],[],1,24,[]⟩ Z Z en_68 (lb Z) Z .nil (fun w0 M V0 Q hv0 hQ0=>?_)
 simp only [entry]
 refine XC.seq<|XC.region<|rM Z Z Z<|rM Z Z Z<|rR Z Z Z (RO.lookupT mp_103 Z Z Z)<|rM Z Z Z<|rR Z Z Z (RO.extract Z Z)<|rR Z Z Z (RO.extract Z Z)<|rA Z Z Z<|rA Z Z Z<|XL.nil<|XQ.seq<|XC.seq ?_
 refine XC.joinR (fun (v1:Bool)=>⟨[(0,.v (.one (.mp 0))),(1,.v (.one (dI a0))),(2,.v (.one (dI a1))),(20,.v (.one (dB v1)))],[(0,.mp (imE a2.1) a2.2)],[],1,24,[]⟩) (fun (v1:Bool)=>(cond v1
     (some (imSet a2 a0 a1))
     (some a2))=some r) ?_ ?_
 refine bindK h0 (fun w1_ h1 h0=>?_)
 refine XC.region<|rM Z Z Z<|rR Z Z Z (RO.not Z)<|rM Z Z Z ?_
 refine XL.case (d:=16) (c:=(!(imHas a2 a0))) Z (fun c2=>?_) (fun c2=>?_)
 replace h1:=condT c2 h1
 refine XL.no Z Z<|XL.no Z Z<|XL.no Z Z<|rR Z Z Z (RO.pickT Z Z)<|XL.nil ?_
 have e:=sI h1;subst e
 exact XQ.joinR true (stle (tA Z) (hA Z) kZ Z (Nat.le_trans hv0 (lb Z)) Z Z Z (bM Z bZ) Z Z) h0
 replace h1:=condF c2 h1
 refine rM Z Z Z<|rM Z Z Z<|rR Z Z Z (RO.binInt Z Z Z)<|rR Z Z Z (RO.pickF Z Z)<|XL.nil ?_
 have e:=sI h1;subst e
 exact XQ.joinR (decide ((imVal a2 a0) < a1)) (stle (tA Z) (hA Z) kZ Z (Nat.le_trans hv0 (lb Z)) Z Z Z (bM Z bZ) Z Z) h0
 intro v1 h0
 refine XQ.seq ?_
 refine XC.cond (b:=v1) Z (fun c3=>?_) (fun c3=>?_)
 replace h0:=condT c3 h0
 refine XC.region<|rM Z Z Z<|rM Z Z Z<|rM Z Z Z<|XL.eff Z Z (OpOK.mapSetI mp_103 Z Z Z Z Z)<|XL.nil ?_
 have e:=sI h0;subst e
 exact hQ0 _ _ _ (.inl Z) Z (stle tZ (hA Z) kZ Z (Nat.le_trans hv0 (lb Z)) Z Z Z (bM Z bZ) Z Z)
 replace h0:=condF c3 h0
 refine XC.skip ?_
 have e:=sI h0;subst e
 exact hQ0 _ _ _ (.inl Z) Z (stle tZ (hA Z) kZ Z (Nat.le_trans hv0 (lb Z)) Z Z Z (bM Z bZ) Z Z)
def m67f6_l0 (a0:Lvl) (a1:Int) (s1:Int×IMap):Option (LO (Int×IMap) IMap) :=
 cond (decide (s1.1 < (a0.vs.length:Int)))
   (Option.bind (idx a0.vs s1.1) fun (x3:LV) =>
 Option.bind (m68f7 x3.1 (w64 (x3.2+a1)) s1.2) fun (x4:IMap) =>
 some (.next ((w64 (s1.1+1)),x4)))
   (some (.done s1.2))
def m67f6 (a0:Lvl) (a1:Int) (a2:Int) (a3:IMap):Option IMap :=
 Option.bind (loopN (m67f6_l0 a0 a1) FUEL (0,a3)) (fun (o1:IMap)=>some o1)
theorem m67f6_ok (a0:Lvl) (a1:Int) (a2:Int) (a3:IMap) (r:IMap) (h0:m67f6 a0 a1 a2 a3=some r):CallM Try.prog 67 [.one (.ptr 0 0),.agg (cE a0),.one (dI a1)] ⟨[(0,.cells 105 [.mp 1,dI a2]),(1,.mp (imE a3.1) a3.2)],[],2⟩ (resOf []) ⟨[(0,.cells 105 [.mp 1,dI (max a2 (w64 (a0.c+a1)))]),(1,.mp (imE r.1) r.2)],[],3⟩:=by
 unfold m67f6 at h0
 refine CallM.of_bodyD ⟨[],[(0,.cells 105 [.mp 1,dI (max a2 (w64 (a0.c+a1)))]),(1,.mp (imE r.1) r.2)],[],3,39,[]⟩ Z Z en_67 (lb Z) Z .nil (fun w0 M V0 Q hv0 hQ0=>?_)
 simp only [entry]
 refine XC.seq<|XC.region<|XL.put Z Z (lb Z) (OpOK.box Z)<|XL.nil<|XQ.seq<|XC.seq ?_
 refine XC.anyRun [12] [] mixed (by kernel_rfl) (by kernel_rfl) (by kernel_rfl) ?_
 refine RunA.rd Z Z Z (OpOK.of_ro (RO.move Z)) Z<|RunA.rd Z Z Z (OpOK.of_ro (RO.move Z)) Z<|RunA.rd Z Z Z (OpOK.of_ro (RO.nilCheckPtr Z)) Z<|RunA.rd Z Z Z (OpOK.of_ro (RO.fieldOwn fo_105_1 Z)) Z<|RunA.rd Z Z Z (OpOK.of_ro (RO.loadOwn ag_3 Z Z Z)) Z<|RunA.rd Z Z Z (OpOK.of_ro (RO.fieldOwn fo_39_0 Z)) Z<|RunA.rd Z Z Z (OpOK.of_ro (RO.loadOwn ag_3 Z Z Z)) Z<|RunA.rd Z Z Z (OpOK.of_ro (RO.move Z)) Z<|RunA.rd Z Z Z (OpOK.of_ro (RO.binInt Z Z Z)) Z<|RunA.rd Z Z Z (OpOK.of_ro (RO.max2 Z Z)) Z<|RunA.rd Z Z Z (OpOK.of_ro (RO.nilCheckPtr Z)) Z<|RunA.rd Z Z Z (OpOK.of_ro (RO.fieldOwn fo_105_1 Z)) Z<|RunA.eff Z Z Z (OpOK.store ag_3 Z Z Z Z (lb Z) Z) Z ?_
 refine RunA.nil ⟨?ex,_,_,Z,?_⟩
 case ex=>exact trivial
 refine XQ.less (st':=⟨[(0,.v (.one (.ptr 0 0))),(2,.v (.one (dI a1))),(4,.v (.one (.ptr 2 0)))],[(0,.cells 105 [.mp 1,dI (max a2 (w64 (a0.c+a1)))]),(1,.mp (imE a3.1) a3.2),(2,.cells 39 (cE a0))],[],3,39,[]⟩) (stle (tA Z) (hA Z) kZ Z (Nat.le_trans hv0 (lb Z)) Z Z Z (bB Z Z (bM Z (bA Z))) Z Z)<|XQ.seq<|XC.seq<|XC.region<|rR Z Z Z (RO.fieldOwn fo_39_1 Z)<|rR Z Z Z (RO.loadOwn ag_37 Z Z Z)<|rR Z Z Z (RO.lenE (α:=LV) sl_37 Z (.d _))<|rM Z Z Z<|XL.nil<|XQ.seq<|XC.block ?_
 refine XC.joinX 0 (fun (o1:IMap)=>⟨[],[(0,.cells 105 [.mp 1,dI (max a2 (w64 (a0.c+a1)))]),(1,.mp (imE o1.1) o1.2),(2,.cells 39 (cE a0))],[],3,39,[]⟩) (fun (o1:IMap)=>(some o1)=some r) ?_ ?_
 refine bindK h0 (fun o2 hl1 h0=>?_)
 refine XC.loopM (m67f6_l0 a0 a1) (fun s1=>⟨[(0,.v (.one (.ptr 0 0))),(2,.v (.one (dI a1))),(21,.v (.one (dS a0.vs))),(22,.v (.one (dI (a0.vs.length:Int)))),(23,.v (.one (dI s1.1)))],[(0,.cells 105 [.mp 1,dI (max a2 (w64 (a0.c+a1)))]),(1,.mp (imE s1.2.1) s1.2.2),(2,.cells 39 (cE a0))],[],3,39,[]⟩) (0,a3) o2 (stle (tA Z) (hA Z) kZ Z (Nat.le_trans hv0 (lb Z)) Z Z Z (bB Z Z (bM Z (bA Z))) Z Z) hl1 (fun s1 n1 oo1 h1 ho1=>?_)
 unfold m67f6_l0 at h1
 refine XC.seq<|XC.region<|rR Z Z Z (RO.binInt Z Z Z)<|XL.nil<|XQ.seq<|XC.seq ?_
 refine XC.cond (b:=(decide (s1.1 < (a0.vs.length:Int)))) Z (fun c3=>?_) (fun c3=>?_)
 replace h1:=condT c3 h1
 refine XC.skip<|XQ.seq<|XC.seq<|XC.block<|XC.seq<|XC.region ?_
 refine bindK h1 (fun x4 hx4 h1=>?_)
 refine rR Z Z Z (RO.indexE (α:=LV) sl_37 Z (.d _) Z hx4)<|rR Z Z Z (RO.loadPelCE (x4:LV) ag_59 Z)<|XL.put Z Z (lb Z) (OpOK.alloc z_59 Z)<|XL.eff Z Z (OpOK.storeCE (x4:LV) ag_59 Z Z Z Z Z)<|XL.nil<|XQ.seq ?_
 refine XC.anyRun [10] [] mixed (by kernel_rfl) (by kernel_rfl) (by kernel_rfl) ?_
 refine RunA.rd Z Z Z (OpOK.of_ro (RO.move Z)) Z<|RunA.rd Z Z Z (OpOK.of_ro (RO.nilCheckPtr Z)) Z<|RunA.rd Z Z Z (OpOK.of_ro (RO.fieldOwn fo_105_0 Z)) Z<|RunA.rd Z Z Z (OpOK.of_ro (RO.loadOwn ag_103 Z Z Z)) Z<|RunA.rd Z Z Z (OpOK.of_ro (RO.fieldOwn fo_59_0 Z)) Z<|RunA.rd Z Z Z (OpOK.of_ro (RO.loadOwn ag_3 Z Z Z)) Z<|RunA.rd Z Z Z (OpOK.of_ro (RO.fieldOwn fo_59_1 Z)) Z<|RunA.rd Z Z Z (OpOK.of_ro (RO.loadOwn ag_3 Z Z Z)) Z<|RunA.rd Z Z Z (OpOK.of_ro (RO.move Z)) Z<|RunA.rd Z Z Z (OpOK.of_ro (RO.binInt Z Z Z)) Z ?_
 refine bindK h1 (fun x5 hx5 h1=>?_)
 refine RunA.eff Z Z Z (OpOK.callG (hp1':=[(1,.mp (imE x5.1) x5.2)]) (tk1':=[]) (hpF:=[(0,.cells 105 [.mp 1,dI (max a2 (w64 (a0.c+a1)))]),(2,.cells 39 (cE a0)),(3,.cells 59 (cE x4))]) (tkF:=[]) (res2:=resOf []) (nx2:=4) [1] Z Z (m68f7_ok x4.1 (w64 (x4.2+a1)) s1.2 x5 hx5) Z Z (qM Z qZ) Z Z (gM Z gZ) jZ (hA Z) kZ Z Z Z Z Z (bM Z bZ) Z Z Z Z) Z ?_
 refine RunA.nil ⟨?ex,_,_,Z,?_⟩
 case ex=>exact trivial
 refine XQ.less (st':=⟨[(0,.v (.one (.ptr 0 0))),(2,.v (.one (dI a1))),(21,.v (.one (dS a0.vs))),(22,.v (.one (dI (a0.vs.length:Int)))),(23,.v (.one (dI s1.1)))],[(0,.cells 105 [.mp 1,dI (max a2 (w64 (a0.c+a1)))]),(1,.mp (imE x5.1) x5.2),(2,.cells 39 (cE a0)),(3,.cells 59 (cE x4))],[],4,39,[]⟩) (stle (tA Z) (hA Z) kZ Z (Nat.le_trans hv0 (lb Z)) Z Z Z (bB Z Z (bM Z (bA Z))) Z Z)<|XQ.inBlock<|XQ.seq<|XC.region<|rR Z Z Z (RO.binInt Z Z Z)<|rM Z Z Z<|XL.nil ?_
 have e:=sI h1;subst e
 refine XQ.nextM ((w64 (s1.1+1)),x5) (stle (tA Z) (hA Z) kZ Z (Nat.le_trans hv0 (lb Z)) Z Z Z (bB Z Z (bM Z (bA Z))) Z Z) ho1
 replace h1:=condF c3 h1
 refine XC.exit<|XQ.thenE<|XQ.thenE ?_
 have e:=sI h1;subst e
 have e_:_=_:=ho1
 subst e_
 exact XQ.joinX s1.2 (stle tZ (hA Z) kZ Z (Nat.le_trans hv0 (lb Z)) Z Z Z (bB Z Z (bM Z (bA Z))) Z Z) h0
 intro o1 h0
 refine XQ.blockX ?_
 have e:=sI h0;subst e
 exact hQ0 _ _ _ (.inl Z) Z (stle tZ (hA Z) kZ Z (Nat.le_trans hv0 (lb Z)) Z Z Z (bB Z Z (bM Z bZ)) Z Z)
def m83f9 (a0:IMap):Option Unit :=
 some ()
theorem m83f9_ok (a0:IMap) (r:Unit) (h0:m83f9 a0=some r):CallM Try.prog 83 [.one (.mp 0)] ⟨[(0,.mp (imE a0.1) a0.2)],[],1⟩ (resOf [.one (.fn 91 [(1,0)])]) ⟨[(0,.mp (imE a0.1) a0.2),(1,.cells 103 [.mp 0])],[],2⟩:=by
 unfold m83f9 at h0
 refine CallM.of_bodyD ⟨[(2,.v (.one (.fn 91 [(1,0)])))],[(0,.mp (imE a0.1) a0.2),(1,.cells 103 [.mp 0])],[],2,4,[]⟩ Z Z en_83 (lb Z) Z (RAs.tmp Z .nil) (fun w0 M V0 Q hv0 hQ0=>?_)
 simp only [entry]
 refine XC.seq<|XC.region<|XL.put Z Z (lb Z) (OpOK.box Z)<|rA Z Z Z<|XL.nil<|XQ.seq<|XC.seq<|XC.region<|rR Z Z Z (RO.makeFunc1 Z)<|rA Z Z Z<|XL.nil<|XQ.seq<|XC.ret ?_
 have e:=sI h0;subst e
 exact hQ0 _ _ _ (.inr Z) Z (stle (tA Z) (hA Z) kZ Z (Nat.le_trans hv0 (lb Z)) Z Z Z (bM Z (bA Z)) Z Z)
def m69f8_l0 (a1:IMap) (s1:Int×(List LV)):Option (LO (Int×(List LV)) (((List LV)))) :=
 cond (decide (s1.1 < ((imKeys a1).length:Int)))
   (Option.bind (idx (imKeys a1) s1.1) fun (x5:Int) =>
 guardO (Nat.ble (s1.2.length+([(x5,(imVal a1 x5))]).length) 1000000000)
 (some (.next ((w64 (s1.1+1)),(s1.2++([(x5,(imVal a1 x5))]))))))
   (some (.done s1.2))
noncomputable abbrev m69f8_h0 (p0_:Int):List (Nat×HB) :=
 [(0,.cells 105 [.mp 1,dI p0_]),(2,.cells 39 [dI 0,dN]),(3,.cells 39 [dI p0_,dN])]
noncomputable abbrev m69f8_h1 (p0_:Int) (p1_:Int×(List LV)) (p2_:Int) (p3_:IMap):HB :=
 .cells 39 [dI p0_,dA 5 ((p1_.2++([(p2_,(imVal p3_ p2_))])):List LV)]
noncomputable abbrev m69f8_h2 (p0_:Int) (p1_:IMap) (p2_:Int×(List LV)) (p3_:Int):List (Nat×HB) :=
 [(0,.cells 105 [.mp 1,dI p0_]),(1,.mp (imE p1_.1) p1_.2),(2,.cells 39 [dI 0,dN]),(3,m69f8_h1 p0_ p2_ p3_ p1_),(4,.cells 103 [.mp 1])]
noncomputable abbrev m69f8_h3 (p0_:Int) (p1_:IMap) (p2_:(Int×Int×(List LV))):List (Nat×HB) :=
 [(0,.cells 105 [.mp 1,dI p0_]),(1,.mp (imE p1_.1) p1_.2),(2,.cells 39 [dI p2_.2.1,dS p2_.2.2])]
def m69f8 (a0:Int) (a1:IMap):Option ((Int×Int×(List LV))) :=
 Option.bind (m83f9 a1) fun (x1:Unit) =>
 guardO (imOk a1)
 (Option.bind (loopN (m69f8_l0 a1) FUEL (0,([]:List LV))) (fun (o3:(List LV))=>Option.bind (m77 (⟨a0,o3⟩:Lvl)) fun (x4:Lvl×Int) =>
 some (x4.2,x4.1.c,x4.1.vs)))
theorem m69f8_ok (a0:Int) (a1:IMap) (r:(Int×Int×(List LV))) (h0:m69f8 a0 a1=some r):CallM Try.prog 69 [.one (.ptr 0 0)] ⟨[(0,.cells 105 [.mp 1,dI a0]),(1,.mp (imE a1.1) a1.2)],[],2⟩ (resOf [.agg [dI r.2.1,dS r.2.2],.one (dI r.1)]) ⟨m69f8_h3 a0 a1 r,[],6⟩:=by
 unfold m69f8 at h0
 refine CallM.of_bodyD ⟨[(2,.v (.one (.ptr 2 0))),(3,.v (.one (dI r.1)))],m69f8_h3 a0 a1 r,[],6,41,[]⟩ Z Z en_69 (lb Z) Z (RAs.agg ag_39 Z Z Z Z (RAs.tmp Z .nil)) (fun w0 M V0 Q hv0 hQ0=>?_)
 simp only [entry]
 refine XC.seq<|XC.region<|XL.put Z Z (lb Z) (OpOK.alloc z_39 Z)<|rA Z Z Z<|XL.nil<|XQ.seq<|XC.seq<|XC.region<|rM Z Z Z<|rR Z Z Z (RO.nilCheckPtr Z)<|rR Z Z Z (RO.fieldOwn fo_105_1 Z)<|rR Z Z Z (RO.loadOwn ag_3 Z Z Z)<|rR Z Z Z (RO.build1 bd_39 Z Z Z)<|XL.put Z Z (lb Z) (OpOK.alloc z_39 Z) ?_
 refine XL.eff Z Z (OpOK.store ag_39 Z Z Z Z (lb Z) Z)<|XL.nil<|XQ.seq<|XC.seq<|XC.seq<|XC.region<|rM Z Z Z<|rR Z Z Z (RO.nilCheckPtr Z)<|rR Z Z Z (RO.fieldOwn fo_105_0 Z)<|rR Z Z Z (RO.loadOwn ag_103 Z Z Z) ?_
 refine bindK h0 (fun x1 hx1 h0=>?_)
 refine XL.put Z Z (lb Z) (OpOK.callG (hp1':=[(1,.mp (imE a1.1) a1.2),(4,.cells 103 [.mp 1])]) (tk1':=[]) (hpF:=m69f8_h0 a0) (tkF:=[]) (res2:=resOf [.one (.fn 91 [(4,0)])]) (nx2:=5) [1] Z Z (m83f9_ok a1 x1 hx1) Z Z (qM Z (qB Z Z qZ)) Z Z (gM Z gZ) jZ (hA Z) kZ Z Z Z Z Z (bM Z bZ) Z Z Z Z) ?_
 refine guardK h0 (fun g2 h0=>?_)
 refine XL.put Z Z (lb Z) (OpOK.sortedKeys Z Z Z Z g2)<|rR Z Z Z (RO.lenE (α:=Int) sl_66 Z (.d _))<|rM Z Z Z<|XL.nil<|XQ.seq<|XC.block ?_
 refine XC.joinX 0 (fun (o3:(List LV))=>⟨[(2,.v (.one (.ptr 2 0))),(4,.v (.one (.ptr 3 0)))],[(0,.cells 105 [.mp 1,dI a0]),(1,.mp (imE a1.1) a1.2),(2,.cells 39 [dI 0,dN]),(3,.cells 39 [dI a0,dA 5 o3]),(4,.cells 103 [.mp 1])],[(5,some ⟨59,2,(Enc.encL o3).length,[]⟩)],6,41,[]⟩) (fun (o3:(List LV))=>(Option.bind (m77 (⟨a0,o3⟩:Lvl)) fun (x4:Lvl×Int) =>
   some (x4.2,x4.1.c,x4.1.vs))=some r) ?_ ?_
 refine XC.adoptC (i:=3) (off:=1) 59 2 Z Z ?_
 refine bindK h0 (fun o4 hl1 h0=>?_)
 refine XC.loopM (m69f8_l0 a1) (fun s1=>⟨[(0,.v (.one (.ptr 0 0))),(2,.v (.one (.ptr 2 0))),(4,.v (.one (.ptr 3 0))),(17,.v (.one (dS ((imKeys a1):List Int)))),(18,.v (.one (dI ((imKeys a1).length:Int)))),(19,.v (.one (dI s1.1)))],[(0,.cells 105 [.mp 1,dI a0]),(1,.mp (imE a1.1) a1.2),(2,.cells 39 [dI 0,dN]),(3,.cells 39 [dI a0,dA 5 s1.2]),(4,.cells 103 [.mp 1])],[(5,some ⟨59,2,(Enc.encL s1.2).length,[]⟩)],6,41,[]⟩) (0,([]:List LV)) o4 (stle (tA Z) (hA Z) (kA Z) Z (Nat.le_trans hv0 (lb Z)) Z Z Z (bB Z Z (bM Z (bA Z))) Z Z) hl1 (fun s1 n1 oo1 h1 ho1=>?_)
 unfold m69f8_l0 at h1
 refine XC.seq<|XC.region<|rR Z Z Z (RO.binInt Z Z Z)<|XL.nil<|XQ.seq<|XC.seq ?_
 refine XC.cond (b:=(decide (s1.1 < ((imKeys a1).length:Int)))) Z (fun c5=>?_) (fun c5=>?_)
 replace h1:=condT c5 h1
 refine XC.skip<|XQ.seq<|XC.seq<|XC.block<|XC.seq<|XC.region ?_
 refine bindK h1 (fun x6 hx6 h1=>?_)
 refine rR Z Z Z (RO.indexE (α:=Int) sl_66 Z (.d _) Z hx6)<|rR Z Z Z (RO.loadPel ag_3 Z Z)<|rA Z Z Z<|XL.nil<|XQ.seq ?_
 refine XC.anyRun [11,13] [] mixed (by kernel_rfl) (by kernel_rfl) (by kernel_rfl) ?_
 refine RunA.rd Z Z Z (OpOK.of_ro (RO.fieldOwn fo_39_1 Z)) Z<|RunA.rd Z Z Z (OpOK.of_ro (RO.loadOwn ag_37 Z Z Z)) Z<|RunA.rd Z Z Z (OpOK.of_ro (RO.move Z)) Z<|RunA.rd Z Z Z (OpOK.of_ro (RO.move Z)) Z<|RunA.rd Z Z Z (OpOK.of_ro (RO.nilCheckPtr Z)) Z<|RunA.rd Z Z Z (OpOK.of_ro (RO.fieldOwn fo_105_0 Z)) Z<|RunA.rd Z Z Z (OpOK.of_ro (RO.loadOwn ag_103 Z Z Z)) Z<|RunA.rd Z Z Z (OpOK.of_ro (RO.move Z)) Z<|RunA.rd Z Z Z (OpOK.of_ro (RO.lookupF mp_103 Z Z Z)) Z<|RunA.rd Z Z Z (OpOK.of_ro (RO.build2 bd_59 Z Z Z Z)) Z<|RunA.rd Z Z Z (OpOK.data1E (α:=LV) ((x6,(imVal a1 x6))) sl_37 z_59 Z Z (lb Z) Z Z (.cons (.d _) (.cons (.d _) .nil)) Z) Z ?_
 refine guardK h1 (fun g7 h1=>?_)
 refine RunA.eff Z Z Z (OpOK.appendE (α:=LV) sl_37 el_59 Z Z Z Z Z (.d _) g7) Z<|RunA.rd Z Z Z (OpOK.of_ro (RO.fieldOwn fo_39_1 Z)) Z<|RunA.eff Z Z Z (OpOK.store ag_37 Z Z Z Z (lb Z) Z) Z ?_
 refine RunA.nil ⟨?ex,_,_,Z,?_⟩
 case ex=>exact trivial
 refine XQ.less (st':=⟨[(0,.v (.one (.ptr 0 0))),(2,.v (.one (.ptr 2 0))),(4,.v (.one (.ptr 3 0))),(17,.v (.one (dS ((imKeys a1):List Int)))),(18,.v (.one (dI ((imKeys a1).length:Int)))),(19,.v (.one (dI s1.1)))],m69f8_h2 a0 a1 s1 x6,[(5,some ⟨59,2,(Enc.encL ((s1.2++([(x6,(imVal a1 x6))])):List LV)).length,[]⟩)],6,41,[]⟩) (stle (tA Z) (hA Z) (kA Z) Z (Nat.le_trans hv0 (lb Z)) Z Z Z (bB Z Z (bM Z (bA Z))) Z Z)<|XQ.inBlock<|XQ.seq<|XC.region<|rR Z Z Z (RO.binInt Z Z Z)<|rM Z Z Z<|XL.nil ?_
 have e:=sI h1;subst e
 refine XQ.nextM ((w64 (s1.1+1)),(s1.2++([(x6,(imVal a1 x6))]))) (stle (tA Z) (hA Z) (kA Z) Z (Nat.le_trans hv0 (lb Z)) Z Z Z (bB Z Z (bM Z (bA Z))) Z Z) ho1
 replace h1:=condF c5 h1
 refine XC.exit<|XQ.thenE<|XQ.thenE ?_
 have e:=sI h1;subst e
 have e_:_=_:=ho1
 subst e_
 exact XQ.joinX s1.2 (stle (tA Z) (hA Z) (kA Z) Z (Nat.le_trans hv0 (lb Z)) Z Z Z (bB Z Z (bM Z (bA Z))) Z Z) h0
 intro o3 h0
 refine XQ.blockX<|XQ.seq<|XC.seq<|XC.region<|rR Z Z Z (RO.loadOwnAgg ag_39 Z Z Z Z) ?_
 refine bindK h0 (fun x8 hx8 h0=>?_)
 refine XL.put Z Z (lb Z) (OpOK.callFun (m77_ok (⟨a0,o3⟩:Lvl) x8 hx8) Z (.cons (.agg (.cons (.d _) (.cons (.app _ _ _) .nil))) .nil))<|rR Z Z Z (RO.extract Z Z)<|rR Z Z Z (RO.extract Z Z)<|XL.eff Z Z (OpOK.storeCE (x8.1:Lvl) ag_39 Z Z Z Z Z)<|rA Z Z Z<|XL.nil<|XQ.seq<|XC.ret ?_
 have e:=sI h0;subst e
 exact hQ0 _ _ _ (.inr Z) Z (stle (tA Z) (hA Z) kZ Z (Nat.le_trans hv0 (lb Z)) Z Z Z (bB Z Z (bM Z (bA Z))) Z Z)
end Go.Proofs.Ytkimijmiphkddaa
namespace Go.Proofs.Ytkimijmiphkddaa
open Go.RowKit Go.Shelf
theorem en_49:Enters Try.prog 49:=enters_of Try.func49 (by kernel_rfl) rfl
theorem en_71:Enters Try.prog 71:=enters_of Try.func71 (by kernel_rfl) rfl
noncomputable def m31f10_c0:Code:=(cA (cA (cB (cA (cB (cB (cB (cB (bodyC Try.f31)))))))))
noncomputable def m31f10_c1:Code:=(cB (cA (cB (cA (cB (cB (cB (cB (bodyC Try.f31)))))))))
def m88f14_l0 (a0:Nat) (a1:List Lvl) (s1:Int):Option (LO Int (Unit⊕Int)) :=
 cond (decide (s1 < ((a0:Nat):Int)))
   (Option.bind (idx a1 s1) fun (x3:Lvl) =>
 guardO (Nat.beq a1.length a0)
 (Option.bind (Option.bind (m28 x3) fun (x7:Bool) =>
 some (!x7)) (fun (y5:Bool)=>cond y5
   (some (.done (.inr s1)))
   (some (.next (w64 (s1+1)))))))
   (some (.done (.inl ())))
def m88f14 (a0:Nat) (a1:List Lvl):Option Int :=
 Option.bind (loopN (m88f14_l0 a0 a1) FUEL 0) (Sum.elim (fun (o1:Unit)=>some (-1)) (fun o=>some o))
theorem m88f14_ok (a0:Nat) (a1:List Lvl) (r:Int) (h0:m88f14 a0 a1=some r):CallM Try.prog 88 [.one (.osl 0 0 a0 a0),.one (.fn 81 [])] ⟨[(0,.cells 39 (flatE a1))],[],1⟩ (resOf [.one (dI r)]) ⟨[(0,.cells 39 (flatE a1))],[],1⟩:=by
 unfold m88f14 at h0
 refine CallM.of_bodyD ⟨[(4,.v (.one (dI r)))],[(0,.cells 39 (flatE a1))],[],1,19,[]⟩ Z Z en_88 (lb Z) Z (RAs.tmp Z .nil) (fun w0 M V0 Q hv0 hQ0=>?_)
 simp only [entry]
 refine XC.seq<|XC.region<|rA Z Z Z<|XL.nil<|XQ.seq<|XC.seq<|XC.seq<|XC.region<|rM Z Z Z<|rR Z Z Z (RO.lenOsl sl_31 Z)<|rM Z Z Z<|XL.nil<|XQ.seq<|XC.block ?_
 refine XC.joinX 0 (fun (o1:Unit)=>⟨[],[(0,.cells 39 (flatE a1))],[],1,19,[]⟩) (fun (o1:Unit)=>(some (-1))=some r) ?_ ?_
 refine bindK h0 (fun o2 hl1 h0=>?_)
 refine XC.loopM (m88f14_l0 a0 a1) (fun s1=>⟨[(0,.v (.one (.osl 0 0 a0 a0))),(1,.v (.one (.fn 81 []))),(7,.v (.one (dI ((a0:Nat):Int)))),(8,.v (.one (dI s1)))],[(0,.cells 39 (flatE a1))],[],1,19,[]⟩) 0 o2 (stle (tA Z) (hA Z) kZ Z (Nat.le_trans hv0 (lb Z)) Z Z Z (bF Z bZ) Z Z) hl1 (fun s1 n1 oo1 h1 ho1=>?_)
 unfold m88f14_l0 at h1
 refine XC.seq<|XC.region<|rR Z Z Z (RO.binInt Z Z Z)<|XL.nil<|XQ.seq<|XC.seq ?_
 refine XC.cond (b:=(decide (s1 < ((a0:Nat):Int)))) Z (fun c3=>?_) (fun c3=>?_)
 replace h1:=condT c3 h1
 refine XC.skip<|XQ.seq<|XC.seq<|XC.block<|XC.seq<|XC.region<|rM Z Z Z<|rA Z Z Z<|XL.nil<|XQ.seq<|XC.seq<|XC.region<|rM Z Z Z<|rM Z Z Z ?_
 refine rM Z Z Z ?_
 refine bindK h1 (fun x4 hx4 h1=>?_)
 refine guardK h1 (fun g5 h1=>?_)
 refine rR Z Z Z (RO.indexO (α:=Lvl) sl_31 Z Z hx4 g5)<|rR Z Z Z (RO.loadOE (α:=Lvl) (ys:=[dI x4.c,dS x4.vs]) ag_39 Z Z hx4 Z) ?_
 refine bindK h1 (fun y6 h2 h1=>?_)
 have hc7:CallM Try.prog 81 [.agg (cE x4)] ⟨[(0,.cells 39 (flatE a1))],[],1⟩ (resOf [.one (dB y6)]) ⟨[(0,.cells 39 (flatE a1))],[],2⟩:=by
  refine CallM.of_bodyD ⟨[(2,.v (.one (dB y6)))],[(0,.cells 39 (flatE a1))],[],2,6,[]⟩ Z Z en_81 (lb Z) Z (RAs.tmp Z .nil) (fun w0 M V0 Q hv2 hQ2=>?_)
  simp only [entry]
  refine XC.seq<|XC.region<|XL.put Z Z (lb Z) (OpOK.box Z)<|rA Z Z Z<|XL.nil<|XQ.seq<|XC.seq<|XC.region<|rR Z Z Z (RO.loadCE (x4:Lvl) ag_39 Z Z) ?_
  refine bindK h2 (fun x8 hx8 h2=>?_)
  refine XL.put Z Z (lb Z) (OpOK.callFun (m28_ok x4 x8 hx8) Z (.cons (.agg (.cons (.d _) (.cons (.d _) .nil))) .nil))<|rR Z Z Z (RO.not Z)<|rA Z Z Z<|XL.nil<|XQ.seq<|XC.ret ?_
  have e:=sI h2;subst e
  exact hQ2 _ _ _ (.inr Z) Z (stle (tA Z) (hA Z) kZ Z (Nat.le_trans hv2 (lb Z)) Z Z Z (bF Z bZ) Z Z)
 refine XL.put Z Z (lb Z) (OpOK.callW Z Z Z hc7 Z (hA Z) kZ)<|XL.nil<|XQ.seq ?_
 refine XC.cond (b:=y6) Z (fun c9=>?_) (fun c9=>?_)
 replace h1:=condT c9 h1
 refine XC.seq<|XC.region<|rM Z Z Z<|rA Z Z Z<|XL.nil<|XQ.seq<|XC.ret ?_
 have e:=sI h1;subst e
 have e_:_=_:=ho1
 subst e_
 try dsimp only [Sum.elim_inl,Sum.elim_inr] at h0
 have e:=sI h0;subst e
 exact hQ0 _ _ _ (.inr Z) Z (stle (tA Z) (hA Z) kZ Z (Nat.le_trans hv0 (lb Z)) Z Z Z (bF Z bZ) Z Z)
 replace h1:=condF c9 h1
 refine XC.skip<|XQ.inBlock<|XQ.seq<|XC.region<|rR Z Z Z (RO.binInt Z Z Z)<|rM Z Z Z<|XL.nil ?_
 have e:=sI h1;subst e
 refine XQ.nextM (w64 (s1+1)) (stle (tA Z) (hA Z) kZ Z (Nat.le_trans hv0 (lb Z)) Z Z Z (bF Z bZ) Z Z) ho1
 replace h1:=condF c3 h1
 refine XC.exit<|XQ.thenE<|XQ.thenE ?_
 have e:=sI h1;subst e
 have e_:_=_:=ho1
 subst e_
 exact XQ.joinX () (stle tZ (hA Z) kZ Z (Nat.le_trans hv0 (lb Z)) Z Z Z (bF Z bZ) Z Z) h0
 intro o1 h0
 refine XQ.blockX<|XQ.seq<|XC.seq<|XC.region<|rA Z Z Z<|XL.nil<|XQ.seq<|XC.ret ?_
 have e:=sI h0;subst e
 exact hQ0 _ _ _ (.inr Z) Z (stle (tA Z) (hA Z) kZ Z (Nat.le_trans hv0 (lb Z)) Z Z Z (bF Z bZ) Z Z)
def m80f13 (a0:Nat) (a1:List Lvl):Option Bool :=
 Option.bind (m88f14 a0 a1) fun (x1:Int) =>
 some (decide (0≤x1))
theorem m80f13_ok (a0:Nat) (a1:List Lvl) (r:Bool) (h0:m80f13 a0 a1=some r):CallM Try.prog 80 [.one (.osl 0 0 a0 a0),.one (.fn 81 [])] ⟨[(0,.cells 39 (flatE a1))],[],1⟩ (resOf [.one (dB r)]) ⟨[(0,.cells 39 (flatE a1))],[],1⟩:=by
 unfold m80f13 at h0
 refine CallM.of_bodyD ⟨[(4,.v (.one (dB r)))],[(0,.cells 39 (flatE a1))],[],1,9,[]⟩ Z Z en_80 (lb Z) Z (RAs.tmp Z .nil) (fun w0 M V0 Q hv0 hQ0=>?_)
 simp only [entry]
 refine XC.seq<|XC.region<|rA Z Z Z<|XL.nil<|XQ.seq<|XC.seq<|XC.region<|rM Z Z Z<|rM Z Z Z ?_
 refine bindK h0 (fun x1 hx1 h0=>?_)
 refine XL.put Z Z (lb Z) (OpOK.callG (hp1':=[(0,.cells 39 (flatE a1))]) (tk1':=[]) (hpF:=[]) (tkF:=[]) (res2:=resOf [.one (dI x1)]) (nx2:=1) [0] Z Z (m88f14_ok a0 a1 x1 hx1) Z Z (qF Z qZ) Z Z (gF Z gZ) jZ hZ kZ Z Z Z Z Z (bF Z bZ) Z Z Z Z)<|rR Z Z Z (RO.binInt Z Z Z)<|rA Z Z Z<|XL.nil<|XQ.seq<|XC.ret ?_
 have e:=sI h0;subst e
 exact hQ0 _ _ _ (.inr Z) Z (stle (tA Z) (hA Z) kZ Z (Nat.le_trans hv0 (lb Z)) Z Z Z (bF Z bZ) Z Z)
def m65f12 (a0:Nat) (a1:List Lvl):Option Bool :=
 Option.bind (m80f13 a0 a1) fun (x1:Bool) =>
 some (!x1)
theorem m65f12_ok (a0:Nat) (a1:List Lvl) (r:Bool) (h0:m65f12 a0 a1=some r):CallM Try.prog 65 [.one (.osl 0 0 a0 a0)] ⟨[(0,.cells 39 (flatE a1))],[],1⟩ (resOf [.one (dB r)]) ⟨[(0,.cells 39 (flatE a1))],[],1⟩:=by
 unfold m65f12 at h0
 refine CallM.of_bodyD ⟨[(2,.v (.one (dB r)))],[(0,.cells 39 (flatE a1))],[],1,6,[]⟩ Z Z en_65 (lb Z) Z (RAs.tmp Z .nil) (fun w0 M V0 Q hv0 hQ0=>?_)
 simp only [entry]
 refine XC.seq<|XC.region<|rA Z Z Z<|XL.nil<|XQ.seq<|XC.seq<|XC.region<|rM Z Z Z ?_
 refine bindK h0 (fun x1 hx1 h0=>?_)
 refine XL.put Z Z (lb Z) (OpOK.callG (hp1':=[(0,.cells 39 (flatE a1))]) (tk1':=[]) (hpF:=[]) (tkF:=[]) (res2:=resOf [.one (dB x1)]) (nx2:=1) [0] Z Z (m80f13_ok a0 a1 x1 hx1) Z Z (qF Z qZ) Z Z (gF Z gZ) jZ hZ kZ Z Z Z Z Z (bF Z bZ) Z Z Z Z)<|rR Z Z Z (RO.not Z)<|rA Z Z Z<|XL.nil<|XQ.seq<|XC.ret ?_
 have e:=sI h0;subst e
 exact hQ0 _ _ _ (.inr Z) Z (stle (tA Z) (hA Z) kZ Z (Nat.le_trans hv0 (lb Z)) Z Z Z (bF Z bZ) Z Z)
def m48f11_l0 (a0:Lvl) (a1:Nat) (a2:List Lvl) (s1:Int×IMap×Int):Option (LO (Int×IMap×Int) ((IMap×Int))) :=
 cond (decide (s1.1 < (a0.vs.length:Int)))
   (Option.bind (idx a0.vs s1.1) fun (x7:LV) =>
 Option.bind (cond (decide (0≤(w64 ((-1) - x7.1))))
   (some (decide ((w64 ((-1) - x7.1)) < ((a1:Nat):Int))))
   (some false)) (fun (v8:Bool)=>cond v8
   (Option.bind (idx a2 (w64 ((-1) - x7.1))) fun (x10:Lvl) =>
 guardO (Nat.beq a2.length a1)
 (Option.bind (m67f6 x10 x7.2 s1.2.2 s1.2.1) fun (x12:IMap) =>
 some (.next ((w64 (s1.1+1)),x12,(max s1.2.2 (w64 (x10.c+x7.2)))))))
   (Option.bind (m68f7 x7.1 x7.2 s1.2.1) fun (x13:IMap) =>
 some (.next ((w64 (s1.1+1)),x13,s1.2.2)))))
   (some (.done (s1.2.1,s1.2.2)))
noncomputable abbrev m48f11_h0 (p0_:List Lvl) (p1_:Lvl):List (Nat×HB) :=
 [(0,.cells 39 (flatE p0_)),(1,.cells 39 (cE p1_)),(2,.cells 39 [dI 0,dN])]
noncomputable abbrev m48f11_h1 (p0_:List Lvl) (p1_:Lvl):List (Nat×HB) :=
 [(0,.cells 39 (flatE p0_)),(1,.cells 39 (cE p1_)),(2,.cells 39 [dI 0,dN]),(3,.mp (imE imNil.1) imNil.2),(4,.cells 105 [.mp 3,dI 0])]
noncomputable abbrev m48f11_h2 (p0_:List Lvl) (p1_:Lvl) (p2_:Int×IMap×Int) (p3_:LV):List (Nat×HB) :=
 [(0,.cells 39 (flatE p0_)),(1,.cells 39 (cE p1_)),(2,.cells 39 [dI 0,dN]),(3,.mp (imE p2_.2.1.1) p2_.2.1.2),(4,.cells 105 [.mp 3,dI p2_.2.2]),(5,.cells 59 (cE p3_))]
noncomputable abbrev m48f11_h3 (p0_:List Lvl) (p1_:Lvl) (p2_:LV):List (Nat×HB) :=
 [(0,.cells 39 (flatE p0_)),(1,.cells 39 (cE p1_)),(2,.cells 39 [dI 0,dN]),(5,.cells 59 (cE p2_))]
noncomputable abbrev m48f11_h4 (p0_:List Lvl) (p1_:Lvl) (p2_:Int×IMap×Int) (p3_:LV):List (Nat×HB) :=
 [(0,.cells 39 (flatE p0_)),(1,.cells 39 (cE p1_)),(2,.cells 39 [dI 0,dN]),(4,.cells 105 [.mp 3,dI p2_.2.2]),(5,.cells 59 (cE p3_))]
noncomputable abbrev m48f11_h5 (p0_:List Lvl) (p1_:Lvl) (p2_:IMap) (p3_:Int×IMap×Int) (p4_:LV):List (Nat×HB) :=
 [(0,.cells 39 (flatE p0_)),(1,.cells 39 (cE p1_)),(2,.cells 39 [dI 0,dN]),(3,.mp (imE p2_.1) p2_.2),(4,.cells 105 [.mp 3,dI p3_.2.2]),(5,.cells 59 (cE p4_))]
noncomputable abbrev m48f11_h6 (p0_:List Lvl) (p1_:(Int×Int×(List LV))):List (Nat×HB) :=
 [(0,.cells 39 (flatE p0_)),(2,.cells 39 [dI p1_.2.1,dS p1_.2.2])]
def m48f11 (a0:Lvl) (a1:Nat) (a2:List Lvl):Option ((Int×Int×(List LV))) :=
 Option.bind (Option.bind (m28 a0) fun (x2:Bool) =>
 cond (!x2)
   (some true)
   (Option.bind (m65f12 a1 a2) fun (x4:Bool) =>
 some (!x4))) (fun (v1:Bool)=>cond v1
   (some (3,0,([]:List LV)))
   (Option.bind (some ()) (fun (y3:Unit)=>Option.bind (loopN (m48f11_l0 a0 a1 a2) FUEL (0,imNil,a0.c)) (fun (o5:IMap×Int)=>Option.bind (m69f8 o5.2 o5.1) fun (x6:(Int×Int×(List LV))) =>
 some (x6.1,x6.2.1,x6.2.2)))))
theorem m48f11_ok (a0:Lvl) (a1:Nat) (a2:List Lvl) (r:(Int×Int×(List LV))) (h0:m48f11 a0 a1 a2=some r):CallM Try.prog 48 [.agg (cE a0),.one (.osl 0 0 a1 a1)] ⟨[(0,.cells 39 (flatE a2))],[],1⟩ (resOf [.agg [dI r.2.1,dS r.2.2],.one (dI r.1)]) ⟨m48f11_h6 a2 r,[],3⟩:=by
 unfold m48f11 at h0
 refine CallM.of_bodyD ⟨[(4,.v (.one (.ptr 2 0))),(5,.v (.one (dI r.1)))],m48f11_h6 a2 r,[],3,65,[]⟩ Z Z en_48 (lb Z) Z (RAs.agg ag_39 Z Z Z Z (RAs.tmp Z .nil)) (fun w0 M V0 Q hv0 hQ0=>?_)
 simp only [entry]
 refine XC.seq<|XC.region<|XL.put Z Z (lb Z) (OpOK.box Z)<|XL.put Z Z (lb Z) (OpOK.alloc z_39 Z)<|rA Z Z Z<|XL.nil<|XQ.seq<|XC.seq<|XC.seq ?_
 refine XC.joinR (fun (v1:Bool)=>⟨[(1,.v (.one (.osl 0 0 a1 a1))),(2,.v (.one (.ptr 1 0))),(4,.v (.one (.ptr 2 0))),(17,.v (.one (dB v1)))],m48f11_h0 a2 a0,[],3,65,[]⟩) (fun (v1:Bool)=>(cond v1
     (some (3,0,([]:List LV)))
     (Option.bind (some ()) (fun (y3:Unit)=>Option.bind (loopN (m48f11_l0 a0 a1 a2) FUEL (0,imNil,a0.c)) (fun (o5:IMap×Int)=>Option.bind (m69f8 o5.2 o5.1) fun (x6:(Int×Int×(List LV))) =>
   some (x6.1,x6.2.1,x6.2.2)))))=some r) ?_ ?_
 refine bindK h0 (fun w1_ h1 h0=>?_)
 refine XC.region<|rR Z Z Z (RO.loadCE (a0:Lvl) ag_39 Z Z) ?_
 refine bindK h1 (fun x2 hx2 h1=>?_)
 refine XL.put Z Z (lb Z) (OpOK.callFun (m28_ok a0 x2 hx2) Z (.cons (.agg (.cons (.d _) (.cons (.d _) .nil))) .nil))<|rR Z Z Z (RO.not Z)<|rM Z Z Z ?_
 refine XL.case (d:=13) (c:=(!x2)) Z (fun c3=>?_) (fun c3=>?_)
 replace h1:=condT c3 h1
 refine XL.no Z Z<|XL.no Z Z<|XL.no Z Z<|rR Z Z Z (RO.pickT Z Z)<|XL.nil ?_
 have e:=sI h1;subst e
 exact XQ.joinR true (stle (tA Z) (hA Z) kZ Z (Nat.le_trans hv0 (lb Z)) Z Z Z (bF Z (bA Z)) Z Z) h0
 replace h1:=condF c3 h1
 refine rM Z Z Z ?_
 refine bindK h1 (fun x4 hx4 h1=>?_)
 refine XL.put Z Z (lb Z) (OpOK.callG (hp1':=[(0,.cells 39 (flatE a2))]) (tk1':=[]) (hpF:=[(1,.cells 39 (cE a0)),(2,.cells 39 [dI 0,dN])]) (tkF:=[]) (res2:=resOf [.one (dB x4)]) (nx2:=3) [0] Z Z (m65f12_ok a1 a2 x4 hx4) Z Z (qF Z qZ) Z Z (gF Z gZ) jZ (hA Z) kZ Z Z Z Z Z (bF Z bZ) Z Z Z Z)<|rR Z Z Z (RO.not Z)<|rR Z Z Z (RO.pickF Z Z)<|XL.nil ?_
 have e:=sI h1;subst e
 exact XQ.joinR (!x4) (stle (tA Z) (hA Z) kZ Z (Nat.le_trans hv0 (lb Z)) Z Z Z (bF Z (bA Z)) Z Z) h0
 intro v1 h0
 refine XQ.seq ?_
 refine XC.cond (b:=v1) Z (fun c5=>?_) (fun c5=>?_)
 replace h0:=condT c5 h0
 refine XC.seq<|XC.region<|rR Z Z Z (RO.build0 bd_39 Z )<|XL.eff Z Z (OpOK.store ag_39 Z Z Z Z (lb Z) Z)<|rA Z Z Z<|XL.nil<|XQ.seq<|XC.ret ?_
 have e:=sI h0;subst e
 exact hQ0 _ _ _ (.inr Z) Z (stle (tA Z) (hR Z (hC Z (.cons (.refl _) (.cons (.sub (.nil _)) .nil)) hZ)) kZ Z (Nat.le_trans hv0 (lb Z)) Z Z Z (bF Z (bA Z)) Z Z)
 replace h0:=condF c5 h0
 refine XC.skip<|XQ.seq<|XC.seq<|XC.region ?_
 refine bindK h0 (fun y6 h1 h0=>?_)
 have hc7:CallM Try.prog 66 [] ⟨m48f11_h0 a2 a0,[],3⟩ (resOf [.one (.ptr 4 0)]) ⟨m48f11_h1 a2 a0,[],5⟩:=by
  refine CallM.of_bodyD ⟨[(0,.v (.one (.ptr 4 0)))],m48f11_h1 a2 a0,[],5,4,[]⟩ Z Z en_66 (lb Z) Z (RAs.tmp Z .nil) (fun w0 M V0 Q hv1 hQ1=>?_)
  simp only [entry]
  refine XC.seq<|XC.region<|rA Z Z Z<|XL.nil<|XQ.seq<|XC.seq<|XC.region<|XL.put Z Z (lb Z) (OpOK.makeMapI)<|rR Z Z Z (RO.build1 bd_105 Z Z Z)<|XL.put Z Z (lb Z) (OpOK.box Z)<|rA Z Z Z<|XL.nil<|XQ.seq<|XC.ret ?_
  have e:=sI h1;subst e
  exact hQ1 _ _ _ (.inr Z) Z (stle (tA Z) (hA Z) kZ Z (Nat.le_trans hv1 (lb Z)) Z Z Z (bF Z (bB Z Z (bB Z Z (bM Z (bA Z))))) Z Z)
 refine XL.put Z Z (lb Z) (OpOK.callW Z Z Z hc7 Z (hA Z) kZ)<|rA Z Z Z<|XL.nil<|XQ.seq<|XC.seq<|XC.region<|rM Z Z Z<|rR Z Z Z (RO.fieldOwn fo_39_0 Z)<|rR Z Z Z (RO.loadOwn ag_3 Z Z Z)<|rR Z Z Z (RO.nilCheckPtr Z)<|rR Z Z Z (RO.fieldOwn fo_105_1 Z)<|XL.eff Z Z (OpOK.store ag_3 Z Z Z Z (lb Z) Z)<|XL.nil<|XQ.seq ?_
 refine XC.seq<|XC.seq<|XC.region<|rR Z Z Z (RO.fieldOwn fo_39_1 Z)<|rR Z Z Z (RO.loadOwn ag_37 Z Z Z)<|rR Z Z Z (RO.lenE (α:=LV) sl_37 Z (.d _))<|rM Z Z Z<|XL.nil<|XQ.seq<|XC.block ?_
 refine XC.joinX 0 (fun (o8:IMap×Int)=>⟨[(4,.v (.one (.ptr 2 0))),(6,.v (.one (.ptr 4 0)))],[(0,.cells 39 (flatE a2)),(1,.cells 39 (cE a0)),(2,.cells 39 [dI 0,dN]),(3,.mp (imE o8.1.1) o8.1.2),(4,.cells 105 [.mp 3,dI o8.2])],[],5,65,[]⟩) (fun (o8:IMap×Int)=>(Option.bind (m69f8 o8.2 o8.1) fun (x9:(Int×Int×(List LV))) =>
   some (x9.1,x9.2.1,x9.2.2))=some r) ?_ ?_
 refine bindK h0 (fun o9 hl1 h0=>?_)
 refine XC.loopM (m48f11_l0 a0 a1 a2) (fun s1=>⟨[(1,.v (.one (.osl 0 0 a1 a1))),(4,.v (.one (.ptr 2 0))),(6,.v (.one (.ptr 4 0))),(26,.v (.one (dS a0.vs))),(27,.v (.one (dI (a0.vs.length:Int)))),(28,.v (.one (dI s1.1)))],[(0,.cells 39 (flatE a2)),(1,.cells 39 (cE a0)),(2,.cells 39 [dI 0,dN]),(3,.mp (imE s1.2.1.1) s1.2.1.2),(4,.cells 105 [.mp 3,dI s1.2.2])],[],5,65,[]⟩) (0,imNil,a0.c) o9 (stle (tA Z) (hA Z) kZ Z (Nat.le_trans hv0 (lb Z)) Z Z Z (bF Z (bB Z Z (bB Z Z (bM Z (bA Z))))) Z Z) hl1 (fun s1 n1 oo1 h1 ho1=>?_)
 unfold m48f11_l0 at h1
 refine XC.seq<|XC.region<|rR Z Z Z (RO.binInt Z Z Z)<|XL.nil<|XQ.seq<|XC.seq ?_
 refine XC.cond (b:=(decide (s1.1 < (a0.vs.length:Int)))) Z (fun c10=>?_) (fun c10=>?_)
 replace h1:=condT c10 h1
 refine XC.skip<|XQ.seq<|XC.seq<|XC.block<|XC.seq<|XC.region ?_
 refine bindK h1 (fun x11 hx11 h1=>?_)
 refine rR Z Z Z (RO.indexE (α:=LV) sl_37 Z (.d _) Z hx11)<|rR Z Z Z (RO.loadPelCE (x11:LV) ag_59 Z)<|XL.put Z Z (lb Z) (OpOK.alloc z_59 Z)<|XL.eff Z Z (OpOK.storeCE (x11:LV) ag_59 Z Z Z Z Z)<|XL.nil<|XQ.seq<|XC.seq<|XC.region<|rR Z Z Z (RO.fieldOwn fo_59_0 Z)<|rR Z Z Z (RO.loadOwn ag_3 Z Z Z)<|rR Z Z Z (RO.binInt Z Z Z)<|rA Z Z Z<|XL.nil<|XQ.seq ?_
 refine XC.seq ?_
 refine XC.joinR (fun (v12:Bool)=>⟨[(1,.v (.one (.osl 0 0 a1 a1))),(4,.v (.one (.ptr 2 0))),(6,.v (.one (.ptr 4 0))),(8,.v (.one (.ptr 5 0))),(9,.v (.one (dI (w64 ((-1) - x11.1))))),(26,.v (.one (dS a0.vs))),(27,.v (.one (dI (a0.vs.length:Int)))),(28,.v (.one (dI s1.1))),(42,.v (.one (dB v12)))],m48f11_h2 a2 a0 s1 x11,[],6,65,[]⟩) (fun (v12:Bool)=>(cond v12
     (Option.bind (idx a2 (w64 ((-1) - x11.1))) fun (x14:Lvl) =>
   guardO (Nat.beq a2.length a1)
   (Option.bind (m67f6 x14 x11.2 s1.2.2 s1.2.1) fun (x16:IMap) =>
   some (.next ((w64 (s1.1+1)),x16,(max s1.2.2 (w64 (x14.c+x11.2)))))))
     (Option.bind (m68f7 x11.1 x11.2 s1.2.1) fun (x17:IMap) =>
   some (.next ((w64 (s1.1+1)),x17,s1.2.2))))=some oo1) ?_ ?_
 refine bindK h1 (fun w2_ h2 h1=>?_)
 refine XC.region<|rM Z Z Z<|rR Z Z Z (RO.binInt Z Z Z)<|rM Z Z Z ?_
 refine XL.case (d:=37) (c:=(decide (0≤(w64 ((-1) - x11.1))))) Z (fun c13=>?_) (fun c13=>?_)
 replace h2:=condT c13 h2
 refine rM Z Z Z<|rM Z Z Z<|rR Z Z Z (RO.lenOsl sl_31 Z)<|rR Z Z Z (RO.binInt Z Z Z)<|rR Z Z Z (RO.pickT Z Z)<|XL.nil ?_
 have e:=sI h2;subst e
 exact XQ.joinR (decide ((w64 ((-1) - x11.1)) < ((a1:Nat):Int))) (stle (tA Z) (hA Z) kZ Z (Nat.le_trans hv0 (lb Z)) Z Z Z (bF Z (bB Z Z (bB Z Z (bM Z (bA Z))))) Z Z) h1
 replace h2:=condF c13 h2
 refine XL.no Z Z<|XL.no Z Z<|XL.no Z Z<|XL.no Z Z<|rR Z Z Z (RO.pickF Z Z)<|XL.nil ?_
 have e:=sI h2;subst e
 exact XQ.joinR false (stle (tA Z) (hA Z) kZ Z (Nat.le_trans hv0 (lb Z)) Z Z Z (bF Z (bB Z Z (bB Z Z (bM Z (bA Z))))) Z Z) h1
 intro v12 h1
 refine XQ.seq ?_
 refine XC.cond (b:=v12) Z (fun c14=>?_) (fun c14=>?_)
 replace h1:=condT c14 h1
 refine XC.anyRun [7] [] mixed (by kernel_rfl) (by kernel_rfl) (by kernel_rfl) ?_
 refine RunA.rd Z Z Z (OpOK.of_ro (RO.move Z)) Z<|RunA.rd Z Z Z (OpOK.of_ro (RO.move Z)) Z<|RunA.rd Z Z Z (OpOK.of_ro (RO.move Z)) Z ?_
 refine bindK h1 (fun x15 hx15 h1=>?_)
 refine guardK h1 (fun g16 h1=>?_)
 refine RunA.rd Z Z Z (OpOK.of_ro (RO.indexO (α:=Lvl) sl_31 Z Z hx15 g16)) Z<|RunA.rd Z Z Z (OpOK.of_ro (RO.loadOE (α:=Lvl) (ys:=[dI x15.c,dS x15.vs]) ag_39 Z Z hx15 Z)) Z<|RunA.rd Z Z Z (OpOK.of_ro (RO.fieldOwn fo_59_1 Z)) Z<|RunA.rd Z Z Z (OpOK.of_ro (RO.loadOwn ag_3 Z Z Z)) Z ?_
 refine bindK h1 (fun x17 hx17 h1=>?_)
 refine RunA.eff Z Z Z (OpOK.callG (hp1':=[(4,.cells 105 [.mp 3,dI (max s1.2.2 (w64 (x15.c+x11.2)))]),(3,.mp (imE x17.1) x17.2)]) (tk1':=[]) (hpF:=m48f11_h3 a2 a0 x11) (tkF:=[]) (res2:=resOf []) (nx2:=7) [4,3] Z Z (m67f6_ok x15 x11.2 s1.2.2 s1.2.1 x17 hx17) Z Z (qB Z Z (qM Z qZ)) Z Z (gR Z (gM Z gZ)) jZ (hA Z) kZ Z Z Z Z Z (bB Z Z (bM Z bZ)) Z Z Z Z) Z ?_
 refine RunA.nil ⟨?ex,_,_,Z,?_⟩
 case ex=>exact trivial
 refine XQ.less (st':=⟨[(1,.v (.one (.osl 0 0 a1 a1))),(4,.v (.one (.ptr 2 0))),(6,.v (.one (.ptr 4 0))),(26,.v (.one (dS a0.vs))),(27,.v (.one (dI (a0.vs.length:Int)))),(28,.v (.one (dI s1.1)))],[(0,.cells 39 (flatE a2)),(1,.cells 39 (cE a0)),(2,.cells 39 [dI 0,dN]),(3,.mp (imE x17.1) x17.2),(4,.cells 105 [.mp 3,dI (max s1.2.2 (w64 (x15.c+x11.2)))]),(5,.cells 59 (cE x11))],[],7,65,[]⟩) (stle (tA Z) (hA Z) kZ Z (Nat.le_trans hv0 (lb Z)) Z Z Z (bF Z (bB Z Z (bB Z Z (bM Z (bA Z))))) Z Z)<|XQ.inBlock<|XQ.seq<|XC.region<|rR Z Z Z (RO.binInt Z Z Z)<|rM Z Z Z<|XL.nil ?_
 have e:=sI h1;subst e
 refine XQ.nextM ((w64 (s1.1+1)),x17,(max s1.2.2 (w64 (x15.c+x11.2)))) (stle (tA Z) (hA Z) kZ Z (Nat.le_trans hv0 (lb Z)) Z Z Z (bF Z (bB Z Z (bB Z Z (bM Z (bA Z))))) Z Z) ho1
 replace h1:=condF c14 h1
 refine XC.anyRun [8] [] mixed (by kernel_rfl) (by kernel_rfl) (by kernel_rfl) ?_
 refine RunA.rd Z Z Z (OpOK.of_ro (RO.move Z)) Z<|RunA.rd Z Z Z (OpOK.of_ro (RO.nilCheckPtr Z)) Z<|RunA.rd Z Z Z (OpOK.of_ro (RO.fieldOwn fo_105_0 Z)) Z<|RunA.rd Z Z Z (OpOK.of_ro (RO.loadOwn ag_103 Z Z Z)) Z<|RunA.rd Z Z Z (OpOK.of_ro (RO.fieldOwn fo_59_0 Z)) Z<|RunA.rd Z Z Z (OpOK.of_ro (RO.loadOwn ag_3 Z Z Z)) Z<|RunA.rd Z Z Z (OpOK.of_ro (RO.fieldOwn fo_59_1 Z)) Z<|RunA.rd Z Z Z (OpOK.of_ro (RO.loadOwn ag_3 Z Z Z)) Z ?_
 refine bindK h1 (fun x18 hx18 h1=>?_)
 refine RunA.eff Z Z Z (OpOK.callG (hp1':=[(3,.mp (imE x18.1) x18.2)]) (tk1':=[]) (hpF:=m48f11_h4 a2 a0 s1 x11) (tkF:=[]) (res2:=resOf []) (nx2:=6) [3] Z Z (m68f7_ok x11.1 x11.2 s1.2.1 x18 hx18) Z Z (qM Z qZ) Z Z (gM Z gZ) jZ (hA Z) kZ Z Z Z Z Z (bM Z bZ) Z Z Z Z) Z ?_
 refine RunA.nil ⟨?ex,_,_,Z,?_⟩
 case ex=>exact trivial
 refine XQ.less (st':=⟨[(1,.v (.one (.osl 0 0 a1 a1))),(4,.v (.one (.ptr 2 0))),(6,.v (.one (.ptr 4 0))),(26,.v (.one (dS a0.vs))),(27,.v (.one (dI (a0.vs.length:Int)))),(28,.v (.one (dI s1.1)))],m48f11_h5 a2 a0 x18 s1 x11,[],6,65,[]⟩) (stle (tA Z) (hA Z) kZ Z (Nat.le_trans hv0 (lb Z)) Z Z Z (bF Z (bB Z Z (bB Z Z (bM Z (bA Z))))) Z Z)<|XQ.inBlock<|XQ.seq<|XC.region<|rR Z Z Z (RO.binInt Z Z Z)<|rM Z Z Z<|XL.nil ?_
 have e:=sI h1;subst e
 refine XQ.nextM ((w64 (s1.1+1)),x18,s1.2.2) (stle (tA Z) (hA Z) kZ Z (Nat.le_trans hv0 (lb Z)) Z Z Z (bF Z (bB Z Z (bB Z Z (bM Z (bA Z))))) Z Z) ho1
 replace h1:=condF c10 h1
 refine XC.exit<|XQ.thenE<|XQ.thenE ?_
 have e:=sI h1;subst e
 have e_:_=_:=ho1
 subst e_
 exact XQ.joinX (s1.2.1,s1.2.2) (stle (tA Z) (hA Z) kZ Z (Nat.le_trans hv0 (lb Z)) Z Z Z (bF Z (bB Z Z (bB Z Z (bM Z (bA Z))))) Z Z) h0
 intro o8 h0
 refine XQ.blockX<|XQ.seq<|XC.seq<|XC.region<|rM Z Z Z ?_
 refine bindK h0 (fun x19 hx19 h0=>?_)
 refine XL.put Z Z (lb Z) (OpOK.callG (hp1':=[(4,.cells 105 [.mp 3,dI o8.2]),(3,.mp (imE o8.1.1) o8.1.2),(5,.cells 39 [dI x19.2.1,dS x19.2.2])]) (tk1':=[]) (hpF:=m48f11_h0 a2 a0) (tkF:=[]) (res2:=resOf [.agg [dI x19.2.1,dS x19.2.2],.one (dI x19.1)]) (nx2:=9) [4,3] Z Z (m69f8_ok o8.2 o8.1 x19 hx19) Z Z (qB Z Z (qM Z (qB Z Z qZ))) Z Z (gR Z (gM Z gZ)) jZ (hA Z) kZ Z Z Z Z Z (bB Z Z (bM Z bZ)) Z Z Z Z)<|rR Z Z Z (RO.extract Z Z)<|rR Z Z Z (RO.extract Z Z)<|XL.eff Z Z (OpOK.store ag_39 Z Z Z Z (lb Z) Z)<|rA Z Z Z<|XL.nil<|XQ.seq<|XC.ret ?_
 have e:=sI h0;subst e
 exact hQ0 _ _ _ (.inr Z) Z (stle (tA Z) (hA Z) kZ Z (Nat.le_trans hv0 (lb Z)) Z Z Z (bF Z (bA Z)) Z Z)
def m71f17 (a0:LV) (a1:LV):Option Bool :=
 Option.bind (cond (a0.1==a1.1)
   (some (decide (a1.2≤a0.2)))
   (some false)) (fun (v1:Bool)=>some v1)
theorem m71f17_ok (a0:LV) (a1:LV) (r:Bool) (h0:m71f17 a0 a1=some r):CallM Try.prog 71 [.agg (cE a0),.one (.ptr 0 0)] ⟨[(0,.cells 59 (cE a1))],[],1⟩ (resOf [.one (dB r)]) ⟨[(0,.cells 59 (cE a1))],[],2⟩:=by
 unfold m71f17 at h0
 refine CallM.of_bodyD ⟨[(3,.v (.one (dB r)))],[(0,.cells 59 (cE a1))],[],2,16,[]⟩ Z Z en_71 (lb Z) Z (RAs.tmp Z .nil) (fun w0 M V0 Q hv0 hQ0=>?_)
 simp only [entry]
 refine XC.seq<|XC.region<|XL.put Z Z (lb Z) (OpOK.box Z)<|rA Z Z Z<|XL.nil<|XQ.seq<|XC.seq ?_
 refine XC.joinR (fun (v1:Bool)=>⟨[(3,.v (.one (dB v1)))],[(0,.cells 59 (cE a1)),(1,.cells 59 (cE a0))],[],2,16,[]⟩) (fun (v1:Bool)=>(some v1)=some r) ?_ ?_
 refine bindK h0 (fun w1_ h1 h0=>?_)
 refine XC.region<|rR Z Z Z (RO.fieldOwn fo_59_0 Z)<|rR Z Z Z (RO.loadOwn ag_3 Z Z Z)<|rR Z Z Z (RO.fieldOwn fo_59_0 Z)<|rR Z Z Z (RO.loadOwn ag_3 Z Z Z)<|rR Z Z Z (RO.binInt Z Z Z)<|rM Z Z Z ?_
 refine XL.case (d:=9) (c:=(a0.1==a1.1)) Z (fun c2=>?_) (fun c2=>?_)
 replace h1:=condT c2 h1
 refine rR Z Z Z (RO.fieldOwn fo_59_1 Z)<|rR Z Z Z (RO.loadOwn ag_3 Z Z Z)<|rR Z Z Z (RO.fieldOwn fo_59_1 Z)<|rR Z Z Z (RO.loadOwn ag_3 Z Z Z)<|rR Z Z Z (RO.binInt Z Z Z)<|rR Z Z Z (RO.pickT Z Z)<|rA Z Z Z<|XL.nil ?_
 have e:=sI h1;subst e
 exact XQ.joinR (decide (a1.2≤a0.2)) (sL (Nat.le_trans hv0 (lb Z)) Z Z Z Z Z) h0
 replace h1:=condF c2 h1
 refine XL.no Z Z<|XL.no Z Z<|XL.no Z Z<|XL.no Z Z<|XL.no Z Z<|rR Z Z Z (RO.pickF Z Z)<|rA Z Z Z<|XL.nil ?_
 have e:=sI h1;subst e
 exact XQ.joinR false (sL (Nat.le_trans hv0 (lb Z)) Z Z Z Z Z) h0
 intro v1 h0
 refine XQ.seq<|XC.ret ?_
 have e:=sI h0;subst e
 exact hQ0 _ _ _ (.inr Z) Z (sL (Nat.le_trans hv0 (lb Z)) Z Z Z Z Z)
def m84f16_l0 (a0:List LV) (a1:LV) (s1:Int):Option (LO Int (Unit⊕Int)) :=
 cond (decide (s1 < (a0.length:Int)))
   (Option.bind (idx a0 s1) fun (x3:LV) =>
 Option.bind (m71f17 x3 a1) fun (x4:Bool) =>
 cond x4
   (some (.done (.inr s1)))
   (some (.next (w64 (s1+1)))))
   (some (.done (.inl ())))
def m84f16 (a0:List LV) (a1:LV):Option Int :=
 Option.bind (loopN (m84f16_l0 a0 a1) FUEL 0) (Sum.elim (fun (o1:Unit)=>some (-1)) (fun o=>some o))
theorem m84f16_ok (a0:List LV) (a1:LV) (r:Int) (h0:m84f16 a0 a1=some r):CallM Try.prog 84 [.one (dS a0),.one (.fn 71 [(0,0)])] ⟨[(0,.cells 59 (cE a1))],[],1⟩ (resOf [.one (dI r)]) ⟨[(0,.cells 59 (cE a1))],[],1⟩:=by
 unfold m84f16 at h0
 refine CallM.of_bodyD ⟨[(4,.v (.one (dI r)))],[(0,.cells 59 (cE a1))],[],1,19,[]⟩ Z Z en_84 (lb Z) Z (RAs.tmp Z .nil) (fun w0 M V0 Q hv0 hQ0=>?_)
 simp only [entry]
 refine XC.seq<|XC.region<|rA Z Z Z<|XL.nil<|XQ.seq<|XC.seq<|XC.seq<|XC.region<|rM Z Z Z<|rR Z Z Z (RO.lenE (α:=LV) sl_37 Z (.d _))<|rM Z Z Z<|XL.nil<|XQ.seq<|XC.block ?_
 refine XC.joinX 0 (fun (o1:Unit)=>⟨[],[(0,.cells 59 (cE a1))],[],1,19,[]⟩) (fun (o1:Unit)=>(some (-1))=some r) ?_ ?_
 refine bindK h0 (fun o2 hl1 h0=>?_)
 refine XC.loopM (m84f16_l0 a0 a1) (fun s1=>⟨[(0,.v (.one (dS a0))),(1,.v (.one (.fn 71 [(0,0)]))),(7,.v (.one (dI (a0.length:Int)))),(8,.v (.one (dI s1)))],[(0,.cells 59 (cE a1))],[],1,19,[]⟩) 0 o2 (sL (Nat.le_trans hv0 (lb Z)) Z Z Z Z Z) hl1 (fun s1 n1 oo1 h1 ho1=>?_)
 unfold m84f16_l0 at h1
 refine XC.seq<|XC.region<|rR Z Z Z (RO.binInt Z Z Z)<|XL.nil<|XQ.seq<|XC.seq ?_
 refine XC.cond (b:=(decide (s1 < (a0.length:Int)))) Z (fun c3=>?_) (fun c3=>?_)
 replace h1:=condT c3 h1
 refine XC.skip<|XQ.seq<|XC.seq<|XC.block<|XC.seq<|XC.region<|rM Z Z Z<|rA Z Z Z<|XL.nil<|XQ.seq<|XC.seq<|XC.region<|rM Z Z Z<|rM Z Z Z ?_
 refine rM Z Z Z ?_
 refine bindK h1 (fun x4 hx4 h1=>?_)
 refine rR Z Z Z (RO.indexE (α:=LV) sl_37 Z (.d _) Z hx4)<|rR Z Z Z (RO.loadPelCE (x4:LV) ag_59 Z) ?_
 refine bindK h1 (fun x5 hx5 h1=>?_)
 refine XL.put Z Z (lb Z) (OpOK.callG (hp1':=[(0,.cells 59 (cE a1))]) (tk1':=[]) (hpF:=[]) (tkF:=[]) (res2:=resOf [.one (dB x5)]) (nx2:=2) [0] Z Z (m71f17_ok x4 a1 x5 hx5) Z Z (qB Z Z qZ) Z Z (gR Z gZ) jZ hZ kZ Z Z Z Z Z (bA Z) Z Z Z Z)<|XL.nil<|XQ.seq ?_
 refine XC.cond (b:=x5) Z (fun c6=>?_) (fun c6=>?_)
 replace h1:=condT c6 h1
 refine XC.seq<|XC.region<|rM Z Z Z<|rA Z Z Z<|XL.nil<|XQ.seq<|XC.ret ?_
 have e:=sI h1;subst e
 have e_:_=_:=ho1
 subst e_
 try dsimp only [Sum.elim_inl,Sum.elim_inr] at h0
 have e:=sI h0;subst e
 exact hQ0 _ _ _ (.inr Z) Z (sL (Nat.le_trans hv0 (lb Z)) Z Z Z Z Z)
 replace h1:=condF c6 h1
 refine XC.skip<|XQ.inBlock<|XQ.seq<|XC.region<|rR Z Z Z (RO.binInt Z Z Z)<|rM Z Z Z<|XL.nil ?_
 have e:=sI h1;subst e
 refine XQ.nextM (w64 (s1+1)) (sL (Nat.le_trans hv0 (lb Z)) Z Z Z Z Z) ho1
 replace h1:=condF c3 h1
 refine XC.exit<|XQ.thenE<|XQ.thenE ?_
 have e:=sI h1;subst e
 have e_:_=_:=ho1
 subst e_
 exact XQ.joinX () (sL (Nat.le_trans hv0 (lb Z)) Z Z Z Z Z) h0
 intro o1 h0
 refine XQ.blockX<|XQ.seq<|XC.seq<|XC.region<|rA Z Z Z<|XL.nil<|XQ.seq<|XC.ret ?_
 have e:=sI h0;subst e
 exact hQ0 _ _ _ (.inr Z) Z (sL (Nat.le_trans hv0 (lb Z)) Z Z Z Z Z)
def m70f15 (a0:List LV) (a1:LV):Option Bool :=
 Option.bind (m84f16 a0 a1) fun (x1:Int) =>
 some (decide (0≤x1))
theorem m70f15_ok (a0:List LV) (a1:LV) (r:Bool) (h0:m70f15 a0 a1=some r):CallM Try.prog 70 [.one (dS a0),.one (.fn 71 [(0,0)])] ⟨[(0,.cells 59 (cE a1))],[],1⟩ (resOf [.one (dB r)]) ⟨[(0,.cells 59 (cE a1))],[],1⟩:=by
 unfold m70f15 at h0
 refine CallM.of_bodyD ⟨[(4,.v (.one (dB r)))],[(0,.cells 59 (cE a1))],[],1,9,[]⟩ Z Z en_70 (lb Z) Z (RAs.tmp Z .nil) (fun w0 M V0 Q hv0 hQ0=>?_)
 simp only [entry]
 refine XC.seq<|XC.region<|rA Z Z Z<|XL.nil<|XQ.seq<|XC.seq<|XC.region<|rM Z Z Z<|rM Z Z Z ?_
 refine bindK h0 (fun x1 hx1 h0=>?_)
 refine XL.put Z Z (lb Z) (OpOK.callG (hp1':=[(0,.cells 59 (cE a1))]) (tk1':=[]) (hpF:=[]) (tkF:=[]) (res2:=resOf [.one (dI x1)]) (nx2:=1) [0] Z Z (m84f16_ok a0 a1 x1 hx1) Z Z (qB Z Z qZ) Z Z (gR Z gZ) jZ hZ kZ Z Z Z Z Z (bA Z) Z Z Z Z)<|rR Z Z Z (RO.binInt Z Z Z)<|rA Z Z Z<|XL.nil<|XQ.seq<|XC.ret ?_
 have e:=sI h0;subst e
 exact hQ0 _ _ _ (.inr Z) Z (sL (Nat.le_trans hv0 (lb Z)) Z Z Z Z Z)
def m49f18_l0 (a2:Lvl) (s1:Int×Int):Option (LO (Int×Int) Int) :=
 cond (decide (s1.2 < (a2.vs.length:Int)))
   (Option.bind (idx a2.vs s1.2) fun (x5:LV) =>
 some (.next ((max s1.1 x5.2),(w64 (s1.2+1)))))
   (some (.done s1.1))
def m49f18_l1 (a1:List LV) (a2:Lvl) (s1:Int):Option (LO Int (Unit⊕Bool)) :=
 cond (decide (s1 < (a1.length:Int)))
   (Option.bind (idx a1 s1) fun (x7:LV) =>
 Option.bind (m70f15 a2.vs x7) fun (x8:Bool) =>
 cond (!x8)
   (some (.done (.inr false)))
   (some (.next (w64 (s1+1)))))
   (some (.done (.inl ())))
def m49f18 (a0:Int) (a1:List LV) (a2:Lvl):Option Bool :=
 Option.bind (Option.bind (m28 (⟨a0,a1⟩:Lvl)) fun (x2:Bool) =>
 cond (!x2)
   (some true)
   (Option.bind (m28 a2) fun (x4:Bool) =>
 some (!x4))) (fun (v1:Bool)=>cond v1
   (some false)
   (Option.bind (loopN (m49f18_l0 a2) FUEL (a2.c,0)) (fun (o3:Int)=>cond (decide (o3 < a0))
   (some false)
   (Option.bind (loopN (m49f18_l1 a1 a2) FUEL 0) (Sum.elim (fun (o5:Unit)=>some true) (fun o=>some o))))))
theorem m49f18_ok (a0:Int) (a1:List LV) (a2:Lvl) (r:Bool) (h0:m49f18 a0 a1 a2=some r):CallM Try.prog 49 [.agg [dI a0,dA 0 a1],.agg (cE a2)] ⟨[],[(0,some ⟨59,2,(Enc.encL a1).length,[]⟩)],1⟩ (resOf [.one (dB r)]) ⟨[],[(0,some ⟨59,2,(Enc.encL a1).length,[]⟩)],3⟩:=by
 unfold m49f18 at h0
 refine CallM.of_bodyD ⟨[(4,.v (.one (dB r)))],[],[(0,some ⟨59,2,(Enc.encL a1).length,[]⟩)],3,49,[]⟩ Z Z en_49 (lb Z) Z (RAs.tmp Z .nil) (fun w0 M V0 Q hv0 hQ0=>?_)
 simp only [entry]
 refine XC.seq<|XC.region<|XL.put Z Z (lb Z) (OpOK.box Z)<|XL.put Z Z (lb Z) (OpOK.box Z)<|rA Z Z Z<|XL.nil<|XQ.seq<|XC.seq<|XC.seq ?_
 refine XC.joinR (fun (v1:Bool)=>⟨[(2,.v (.one (.ptr 1 0))),(3,.v (.one (.ptr 2 0))),(17,.v (.one (dB v1)))],[(1,.cells 39 [dI a0,dA 0 a1]),(2,.cells 39 (cE a2))],[(0,some ⟨59,2,(Enc.encL a1).length,[]⟩)],3,49,[]⟩) (fun (v1:Bool)=>(cond v1
     (some false)
     (Option.bind (loopN (m49f18_l0 a2) FUEL (a2.c,0)) (fun (o3:Int)=>cond (decide (o3 < a0))
     (some false)
     (Option.bind (loopN (m49f18_l1 a1 a2) FUEL 0) (Sum.elim (fun (o5:Unit)=>some true) (fun o=>some o))))))=some r) ?_ ?_
 refine bindK h0 (fun w1_ h1 h0=>?_)
 refine XC.region<|rR Z Z Z (RO.loadOwnAgg ag_39 Z Z Z Z) ?_
 refine bindK h1 (fun x2 hx2 h1=>?_)
 refine XL.put Z Z (lb Z) (OpOK.callFun (m28_ok (⟨a0,a1⟩:Lvl) x2 hx2) Z (.cons (.agg (.cons (.d _) (.cons (.app _ _ _) .nil))) .nil))<|rR Z Z Z (RO.not Z)<|rM Z Z Z ?_
 refine XL.case (d:=13) (c:=(!x2)) Z (fun c3=>?_) (fun c3=>?_)
 replace h1:=condT c3 h1
 refine XL.no Z Z<|XL.no Z Z<|XL.no Z Z<|rR Z Z Z (RO.pickT Z Z)<|XL.nil ?_
 have e:=sI h1;subst e
 exact XQ.joinR true (sL (Nat.le_trans hv0 (lb Z)) Z Z Z Z Z) h0
 replace h1:=condF c3 h1
 refine rR Z Z Z (RO.loadCE (a2:Lvl) ag_39 Z Z) ?_
 refine bindK h1 (fun x4 hx4 h1=>?_)
 refine XL.put Z Z (lb Z) (OpOK.callFun (m28_ok a2 x4 hx4) Z (.cons (.agg (.cons (.d _) (.cons (.d _) .nil))) .nil))<|rR Z Z Z (RO.not Z)<|rR Z Z Z (RO.pickF Z Z)<|XL.nil ?_
 have e:=sI h1;subst e
 exact XQ.joinR (!x4) (sL (Nat.le_trans hv0 (lb Z)) Z Z Z Z Z) h0
 intro v1 h0
 refine XQ.seq ?_
 refine XC.cond (b:=v1) Z (fun c5=>?_) (fun c5=>?_)
 replace h0:=condT c5 h0
 refine XC.seq<|XC.region<|rA Z Z Z<|XL.nil<|XQ.seq<|XC.ret ?_
 have e:=sI h0;subst e
 exact hQ0 _ _ _ (.inr Z) Z (sL (Nat.le_trans hv0 (lb Z)) Z Z Z Z Z)
 replace h0:=condF c5 h0
 refine XC.skip<|XQ.seq<|XC.seq<|XC.region<|rR Z Z Z (RO.fieldOwn fo_39_0 Z)<|rR Z Z Z (RO.loadOwn ag_3 Z Z Z)<|rA Z Z Z<|XL.nil<|XQ.seq<|XC.seq<|XC.seq<|XC.region<|rR Z Z Z (RO.fieldOwn fo_39_1 Z)<|rR Z Z Z (RO.loadOwn ag_37 Z Z Z) ?_
 refine rR Z Z Z (RO.lenE (α:=LV) sl_37 Z (.d _))<|rM Z Z Z<|XL.nil<|XQ.seq<|XC.block ?_
 refine XC.joinX 0 (fun (o6:Int)=>⟨[(2,.v (.one (.ptr 1 0))),(3,.v (.one (.ptr 2 0))),(5,.v (.one (dI o6)))],[(1,.cells 39 [dI a0,dA 0 a1]),(2,.cells 39 (cE a2))],[(0,some ⟨59,2,(Enc.encL a1).length,[]⟩)],3,49,[]⟩) (fun (o6:Int)=>(cond (decide (o6 < a0))
     (some false)
     (Option.bind (loopN (m49f18_l1 a1 a2) FUEL 0) (Sum.elim (fun (o8:Unit)=>some true) (fun o=>some o))))=some r) ?_ ?_
 refine bindK h0 (fun o7 hl1 h0=>?_)
 refine XC.loopM (m49f18_l0 a2) (fun s1=>⟨[(2,.v (.one (.ptr 1 0))),(3,.v (.one (.ptr 2 0))),(5,.v (.one (dI s1.1))),(21,.v (.one (dS a2.vs))),(22,.v (.one (dI (a2.vs.length:Int)))),(23,.v (.one (dI s1.2)))],[(1,.cells 39 [dI a0,dA 0 a1]),(2,.cells 39 (cE a2))],[(0,some ⟨59,2,(Enc.encL a1).length,[]⟩)],3,49,[]⟩) (a2.c,0) o7 (sL (Nat.le_trans hv0 (lb Z)) Z Z Z Z Z) hl1 (fun s1 n1 oo1 h1 ho1=>?_)
 unfold m49f18_l0 at h1
 refine XC.seq<|XC.region<|rR Z Z Z (RO.binInt Z Z Z)<|XL.nil<|XQ.seq<|XC.seq ?_
 refine XC.cond (b:=(decide (s1.2 < (a2.vs.length:Int)))) Z (fun c8=>?_) (fun c8=>?_)
 replace h1:=condT c8 h1
 refine XC.skip<|XQ.seq<|XC.seq<|XC.block<|XC.seq<|XC.region ?_
 refine bindK h1 (fun x9 hx9 h1=>?_)
 refine rR Z Z Z (RO.indexE (α:=LV) sl_37 Z (.d _) Z hx9)<|rR Z Z Z (RO.loadPelCE (x9:LV) ag_59 Z)<|XL.put Z Z (lb Z) (OpOK.alloc z_59 Z)<|XL.eff Z Z (OpOK.storeCE (x9:LV) ag_59 Z Z Z Z Z)<|XL.nil<|XQ.seq<|XC.region<|rM Z Z Z<|rR Z Z Z (RO.fieldOwn fo_59_1 Z)<|rR Z Z Z (RO.loadOwn ag_3 Z Z Z)<|rR Z Z Z (RO.max2 Z Z)<|rA Z Z Z<|XL.nil<|XQ.inBlock ?_
 refine XQ.seq<|XC.region<|rR Z Z Z (RO.binInt Z Z Z)<|rM Z Z Z<|XL.nil ?_
 have e:=sI h1;subst e
 refine XQ.nextM ((max s1.1 x9.2),(w64 (s1.2+1))) (sL (Nat.le_trans hv0 (lb Z)) Z Z Z Z Z) ho1
 replace h1:=condF c8 h1
 refine XC.exit<|XQ.thenE<|XQ.thenE ?_
 have e:=sI h1;subst e
 have e_:_=_:=ho1
 subst e_
 exact XQ.joinX s1.1 (sL (Nat.le_trans hv0 (lb Z)) Z Z Z Z Z) h0
 intro o6 h0
 refine XQ.blockX<|XQ.seq<|XC.seq<|XC.seq<|XC.region<|rR Z Z Z (RO.fieldOwn fo_39_0 Z)<|rR Z Z Z (RO.loadOwn ag_3 Z Z Z)<|rM Z Z Z<|rR Z Z Z (RO.binInt Z Z Z)<|XL.nil<|XQ.seq ?_
 refine XC.cond (b:=(decide (o6 < a0))) Z (fun c10=>?_) (fun c10=>?_)
 replace h0:=condT c10 h0
 refine XC.seq<|XC.region<|rA Z Z Z<|XL.nil<|XQ.seq<|XC.ret ?_
 have e:=sI h0;subst e
 exact hQ0 _ _ _ (.inr Z) Z (sL (Nat.le_trans hv0 (lb Z)) Z Z Z Z Z)
 replace h0:=condF c10 h0
 refine XC.skip<|XQ.seq<|XC.seq<|XC.seq<|XC.region<|rR Z Z Z (RO.fieldOwn fo_39_1 Z)<|rR Z Z Z (RO.loadOwn ag_37 Z Z Z)<|rR Z Z Z (RO.lenE (α:=LV) sl_37 Z (.app _ _))<|rM Z Z Z<|XL.nil<|XQ.seq<|XC.block ?_
 refine XC.joinX 2 (fun (o11:Unit)=>⟨[],[(1,.cells 39 [dI a0,dA 0 a1]),(2,.cells 39 (cE a2))],[(0,some ⟨59,2,(Enc.encL a1).length,[]⟩)],3,49,[]⟩) (fun (o11:Unit)=>(some true)=some r) ?_ ?_
 refine bindK h0 (fun o12 hl1 h0=>?_)
 refine XC.loopM (m49f18_l1 a1 a2) (fun s1=>⟨[(3,.v (.one (.ptr 2 0))),(37,.v (.one (dA 0 a1))),(38,.v (.one (dI (a1.length:Int)))),(39,.v (.one (dI s1)))],[(1,.cells 39 [dI a0,dA 0 a1]),(2,.cells 39 (cE a2))],[(0,some ⟨59,2,(Enc.encL a1).length,[]⟩)],3,49,[]⟩) 0 o12 (sL (Nat.le_trans hv0 (lb Z)) Z Z Z Z Z) hl1 (fun s1 n1 oo1 h1 ho1=>?_)
 unfold m49f18_l1 at h1
 refine XC.seq<|XC.region<|rR Z Z Z (RO.binInt Z Z Z)<|XL.nil<|XQ.seq<|XC.seq ?_
 refine XC.cond (b:=(decide (s1 < (a1.length:Int)))) Z (fun c13=>?_) (fun c13=>?_)
 replace h1:=condT c13 h1
 refine XC.skip<|XQ.seq<|XC.seq<|XC.block<|XC.seq<|XC.region ?_
 refine bindK h1 (fun x14 hx14 h1=>?_)
 refine rR Z Z Z (RO.indexE (α:=LV) sl_37 Z (.app _ _) Z hx14)<|rR Z Z Z (RO.loadPelCE (x14:LV) ag_59 Z)<|XL.put Z Z (lb Z) (OpOK.alloc z_59 Z)<|XL.eff Z Z (OpOK.storeCE (x14:LV) ag_59 Z Z Z Z Z)<|XL.nil<|XQ.seq<|XC.seq<|XC.region<|rR Z Z Z (RO.fieldOwn fo_39_1 Z)<|rR Z Z Z (RO.loadOwn ag_37 Z Z Z)<|rR Z Z Z (RO.makeFunc1 Z) ?_
 refine bindK h1 (fun x15 hx15 h1=>?_)
 refine XL.put Z Z (lb Z) (OpOK.callG (hp1':=[(3,.cells 59 (cE x14))]) (tk1':=[]) (hpF:=[(1,.cells 39 [dI a0,dA 0 a1]),(2,.cells 39 (cE a2))]) (tkF:=[(0,some ⟨59,2,(Enc.encL a1).length,[]⟩)]) (res2:=resOf [.one (dB x15)]) (nx2:=4) [3] Z Z (m70f15_ok a2.vs x14 x15 hx15) Z Z (qB Z Z qZ) Z Z (gR Z gZ) jZ (hA Z) (kA Z) Z Z Z Z Z (bA Z) Z Z Z Z)<|rR Z Z Z (RO.not Z)<|XL.nil<|XQ.seq ?_
 refine XC.cond (b:=(!x15)) Z (fun c16=>?_) (fun c16=>?_)
 replace h1:=condT c16 h1
 refine XC.seq<|XC.region<|rA Z Z Z<|XL.nil<|XQ.seq<|XC.ret ?_
 have e:=sI h1;subst e
 have e_:_=_:=ho1
 subst e_
 try dsimp only [Sum.elim_inl,Sum.elim_inr] at h0
 have e:=sI h0;subst e
 exact hQ0 _ _ _ (.inr Z) Z (sL (Nat.le_trans hv0 (lb Z)) Z Z Z Z Z)
 replace h1:=condF c16 h1
 refine XC.skip<|XQ.inBlock<|XQ.seq<|XC.region<|rR Z Z Z (RO.binInt Z Z Z)<|rM Z Z Z<|XL.nil ?_
 have e:=sI h1;subst e
 refine XQ.nextM (w64 (s1+1)) (sL (Nat.le_trans hv0 (lb Z)) Z Z Z Z Z) ho1
 replace h1:=condF c13 h1
 refine XC.exit<|XQ.thenE<|XQ.thenE ?_
 have e:=sI h1;subst e
 have e_:_=_:=ho1
 subst e_
 exact XQ.joinX () (sL (Nat.le_trans hv0 (lb Z)) Z Z Z Z Z) h0
 intro o11 h0
 refine XQ.blockX<|XQ.seq<|XC.seq<|XC.region<|rA Z Z Z<|XL.nil<|XQ.seq<|XC.ret ?_
 have e:=sI h0;subst e
 exact hQ0 _ _ _ (.inr Z) Z (sL (Nat.le_trans hv0 (lb Z)) Z Z Z Z Z)
end Go.Proofs.Ytkimijmiphkddaa
