/- Part 5 of the proof: rules, mirrors and plain laws. The card of TextOffsets is proved here: for all strings the law returns true, and the arguments read behind the call as they did before; condition: the listed package-level variables hold what the text of the program lays (tied). -/
import Derived.Test.YtjcfppnjamjjhaaGreatDoorK54
import Derived.Lib.AtoiBound
set_option maxHeartbeats 2000000
set_option maxRecDepth 100000
set_option linter.unusedSimpArgs false
set_option linter.unusedVariables false
set_option linter.unusedSectionVars false
namespace Go.Proofs.YtjcfppnjamjjhaaGreatDoor
noncomputable section
open Go.RowKit
set_option maxRecDepth 100000
theorem en_145:Qc Tryz.prog 145:=enters_of Tryz.func145 (by kernel_rfl) rfl
def Qix (a0:Int):Option (Bool) :=
 Option.bind (cond ((decide (97≤a0))) (cond ((decide (a0≤122))) (some true) (cond ((decide (65≤a0))) (cond ((decide (a0≤90))) (some true) (cond ((decide (48≤a0))) (cond ((decide (a0≤57))) (some true) (cond ((a0==95)) (some true) (cond ((a0==39)) (some true) (some (a0==46))))) (cond ((a0==95)) (some true) (cond ((a0==39)) (some true) (some (a0==46)))))) (cond ((decide (48≤a0))) (cond ((decide (a0≤57))) (some true) (cond ((a0==95)) (some true) (cond ((a0==39)) (some true) (some (a0==46))))) (cond ((a0==95)) (some true) (cond ((a0==39)) (some true) (some (a0==46))))))) (cond ((decide (65≤a0))) (cond ((decide (a0≤90))) (some true) (cond ((decide (48≤a0))) (cond ((decide (a0≤57))) (some true) (cond ((a0==95)) (some true) (cond ((a0==39)) (some true) (some (a0==46))))) (cond ((a0==95)) (some true) (cond ((a0==39)) (some true) (some (a0==46)))))) (cond ((decide (48≤a0))) (cond ((decide (a0≤57))) (some true) (cond ((a0==95)) (some true) (cond ((a0==39)) (some true) (some (a0==46))))) (cond ((a0==95)) (some true) (cond ((a0==39)) (some true) (some (a0==46))))))) fun (v1:Bool)=>some v1
def k145:KF UV:=⟨[.int .u8],[.bool],fun v=>Qix v⟩
def H145:Hints UV:=⟨[(1,⟨[([.reg 2],.bool)],[],false⟩)],[]⟩
theorem Qfr:Yy DV W0 Tryz.prog 145 k145:=Zf (C:=Qr6) rfl QH Ql (QG (tb:=[]) Ql trivial) Y5 Tryz.func145 en_145 H145 k145 rfl (fun v=>by kernel_rfl)
theorem en_144:Qc Tryz.prog 144:=enters_of Tryz.func144 (by kernel_rfl) rfl
def Qiy (a0:List UInt8) (a1:Int):Option (Int) :=
 Option.bind (Qa (σ:=Int) (β:=Int) (fun s11=>Option.bind (cond ((decide (s11 < (a0.length:Int)))) (Option.bind (J0 a0 s11) fun (x16:UInt8)=>Option.bind (Qix (x16.toNat:Int)) fun (x17:Bool)=>some x17) (some false)) fun (v15:Bool)=>cond v15 (some (.next (Qo (s11+1)))) (some (.done s11))) Qd a1) fun (v12:Int)=>some v12
def k144:KF UV:=⟨[.str,.int .i64],[.int .i64],fun v=>Qiy v.1 v.2⟩
def H144:Hints UV:=⟨[(1,⟨[([.reg 1],.int .i64)],[([.reg 1],.int .i64)],false⟩),(2,⟨[([.reg 14],.bool)],[],false⟩)],[]⟩
theorem k144_ok:Yy DV W0 Tryz.prog 144 k144:=Zf (C:=Qr6) rfl QH Ql (QG (tb:=[(145,k145)]) Ql ⟨Qfr,trivial⟩) Y5 Tryz.func144 en_144 H144 k144 rfl (fun v=>by kernel_rfl)
theorem en_125:Qc Tryz.prog 125:=enters_of Tryz.func125 (by kernel_rfl) rfl
def Q1y (a0:List UInt8):Option (Int×Bool) :=
 Option.bind (cond ((decide (6 < (a0.length:Int)))) (some true) (cond ((a0==([]:List UInt8))) (some true) (Option.bind (Qkz a0 ([48,49,50,51,52,53,54,55,56,57]:List UInt8)) fun (x4:(List UInt8))=>cond ((!(x4==([]:List UInt8)))) (some true) (cond ((decide (1 < (a0.length:Int)))) (Option.bind (J0 a0 0) fun (x5:UInt8)=>some ((x5.toNat:Int)==48)) (some false))))) fun (v3:Bool)=>cond v3 (some (0,false)) (Option.bind (Q7 (cond (Nat.ble a0.length 18) (Lib.atoi a0).isSome false) (some ((Lib.atoi a0).getD 0))) fun (x6:Int)=>some (x6,true))
def k125:KF UV:=⟨[.str],[.int .i64,.bool],fun v=>Q1y v⟩
def H125:Hints UV:=⟨[(1,⟨[([.reg 27],.bool)],[],false⟩)],[(5,[])]⟩
theorem Qfv:Yy DV W0 Tryz.prog 125 k125:=Zf (C:=Qr6) rfl QH Ql (kOr_ok (QG (tb:=[(146,k146)]) Ql ⟨k146_ok,trivial⟩) atK_ok) Y5 Tryz.func125 en_125 H125 k125 rfl (fun v=>by kernel_rfl)
theorem en_123:Qc Tryz.prog 123:=enters_of Tryz.func123 (by kernel_rfl) rfl
def Qh3 (a0:List UInt8) (a1:Int):Option (Int) :=
 Option.bind (J0 a0 a1) fun (x1:UInt8)=>Option.bind (cond (((x1.toNat:Int)==40)) (some true) (some ((x1.toNat:Int)==41))) fun (v2:Bool)=>cond v2 (some (Qo (a1+1))) (Option.bind (α:=Unit⊕Int) (cond (((x1.toNat:Int)==91)) (Q7 (Q1z a1 a0.length) (Option.bind (Qdb (List.drop a1.toNat a0) 93) fun (x30:Int)=>cond ((decide (0≤x30))) (some (.inr (Qo ((Qo (a1+x30))+1)))) (some (.inl ())))) (Option.bind (cond (((x1.toNat:Int)==35)) (some true) (some ((x1.toNat:Int)==63))) fun (v31:Bool)=>Option.bind (α:=Unit⊕Int) (cond v31 (Option.bind (Qiy a0 (Qo (a1+1))) fun (x44:Int)=>Q7 (cond (decide (0≤(Qo (a1+1)))) (cond (Nat.ble (Qo (a1+1)).toNat x44.toNat) (Q1z x44 a0.length) false) false) (Option.bind (Q1y (List.drop (Qo (a1+1)).toNat (List.take x44.toNat a0))) fun (x45:Int×Bool)=>cond x45.2 (some (.inr x44)) (some (.inl ())))) (Option.bind (Qix (x1.toNat:Int)) fun (x46:Bool)=>Option.bind (α:=Unit⊕Int) (cond x46 (Option.bind (Qiy a0 a1) fun (x51:Int)=>Q7 (cond (decide (0≤a1)) (cond (Nat.ble a1.toNat x51.toNat) (Q1z x51 a0.length) false) false) (Option.bind (Q1y (List.drop a1.toNat (List.take x51.toNat a0))) fun (x52:Int×Bool)=>Option.bind (cond x52.2 (some true) (cond ((decide ((x1.toNat:Int) < 48))) (some true) (some (decide (57 < (x1.toNat:Int)))))) fun (v53:Bool)=>cond v53 (some (.inr x51)) (some (.inl ())))) (some (.inl ()))) (Sum.elim (fun (v50:Unit)=>some (.inl ())) (fun (o54:Int)=>some (.inr o54))))) (Sum.elim (fun (v43:Unit)=>some (.inl ())) (fun (o55:Int)=>some (.inr o55))))) (Sum.elim (fun (v29:Unit)=>some a1) (fun (o56:Int)=>some o56)))
def k123:KF UV:=⟨[.str,.int .i64],[.int .i64],fun v=>Qh3 v.1 v.2⟩
def H123:Hints UV:=⟨[(3,⟨[([.reg 16],.bool)],[],false⟩),(7,⟨[],[],true⟩),(12,⟨[([.reg 38],.bool)],[],false⟩),(13,⟨[],[],true⟩),(20,⟨[],[],true⟩),(23,⟨[([.reg 82],.bool)],[],false⟩)],[]⟩
theorem Qfx:Yy DV W0 Tryz.prog 123 k123:=Zf (C:=Qr6) rfl QH Ql (QG (tb:=[(122,k122),(125,k125),(144,k144),(145,k145)]) Ql ⟨Q98,Qfv,k144_ok,Qfr,trivial⟩) Y5 Tryz.func123 en_123 H123 k123 rfl (fun v=>by kernel_rfl)
theorem en_78:Qc Tryz.prog 78:=enters_of Tryz.func78 (by kernel_rfl) rfl
def Qnm (a0:Int):Option (Int) :=
 Option.bind (cond ((a0==8)) (some (a0==8)) (some (a0==11))) fun (v1:Bool)=>cond v1 (some 3) (Option.bind (cond ((a0==9)) (some (a0==9)) (some (a0==10))) fun (v2:Bool)=>cond v2 (some 1) (some 2))
def k78:KF UV:=⟨[.int .i64],[.int .i64],fun v=>Qnm v⟩
def H78:Hints UV:=⟨[(4,⟨[([.reg 4],.bool)],[],false⟩),(9,⟨[([.reg 7],.bool)],[],false⟩)],[]⟩
theorem Qj6:Yy DV W0 Tryz.prog 78 k78:=Zf (C:=Qr6) rfl QH Ql (QG (tb:=[]) Ql trivial) Y5 Tryz.func78 en_78 H78 k78 rfl (fun v=>by kernel_rfl)
theorem en_74:Qc Tryz.prog 74:=enters_of Tryz.func74 (by kernel_rfl) rfl
def Qio (b:Rdr):Option ((Rdr×((List UInt8)))⊕(Unit×Rdr)) :=
 Option.bind (J0 b.l b.n) fun (x1:Tkn)=>some (.inl (b,x1.text))
def k74:PF UV:=⟨.stc 127 .t127,[],[.str],.p0 127,fun b v=>Qio b⟩
def H74:Hints UV:=⟨[],[(1,[])]⟩
theorem Uu:WU DV W0 Tryz.prog 74 k74:=XR (C:=Qr6) rfl QH Ql (QG (tb:=[]) Ql trivial) Y5 Tryz.func74 en_74 H74 k74 rfl rfl (fun b v=>by kernel_rfl)
theorem en_72:Qc Tryz.prog 72:=enters_of Tryz.func72 (by kernel_rfl) rfl
def Qmy (b:Rdr) (a1:List UInt8):Option ((Rdr×Bool)⊕(Unit×Rdr)) :=
 Option.bind (Zv (Qio b)) fun (r1:Rdr×((List UInt8)))=>some (.inl (r1.1,(r1.2==a1)))
def k72:PF UV:=⟨.stc 127 .t127,[.str],[.bool],.p0 127,fun b v=>Qmy b v⟩
def H72:Hints UV:=⟨[],[]⟩
theorem k72_ok:WU DV W0 Tryz.prog 72 k72:=XR (C:=Qr6) rfl QH Ql (QG (tb:=[]) Ql trivial) (Kc (tb:=[(74,k74)]) Ql ⟨Uu,trivial⟩) Tryz.func72 en_72 H72 k72 rfl rfl (fun b v=>by kernel_rfl)
theorem en_124:Qc Tryz.prog 124:=enters_of Tryz.func124 (by kernel_rfl) rfl
def Qh2 (b:Rdr):Option ((Rdr×Unit)⊕((Int×Int)×Rdr)) :=
 Option.bind (J0 b.l b.n) fun (x1:Tkn)=>some (.inr ((4,x1.at_),b))
def k124:PF UV:=⟨.stc 127 .t127,[],[],.p2 69,fun b v=>Qh2 b⟩
def H124:Hints UV:=⟨[],[(0,[13])]⟩
theorem Qfw:WU DV W0 Tryz.prog 124 k124:=XR (C:=Qr6) rfl QH Ql (QG (tb:=[]) Ql trivial) Y5 Tryz.func124 en_124 H124 k124 rfl rfl (fun b v=>by kernel_rfl)
theorem en_77:Qc Tryz.prog 77:=enters_of Tryz.func77 (by kernel_rfl) rfl
def Qb4 (b:Rdr) (a1:Bool):Option ((Rdr×Unit)⊕((Int×Int)×Rdr)) :=
 Option.bind (α:=((List Tkn)×Int)⊕((Rdr×Unit)⊕((Int×Int)×Rdr))) (cond ((!a1)) (Option.bind (Qh2 b) (Sum.elim (fun (r4:Rdr×Unit)=>some (.inl (r4.1.l,r4.1.n))) (fun (e5:(Int×Int)×Rdr)=>some (.inr (.inr ((e5.1.1,e5.1.2),e5.2)))))) (some (.inl (b.l,b.n)))) (Sum.elim (fun (v3:(List Tkn)×Int)=>some (.inl ((Rdr.mk v3.1 v3.2),()))) (fun (o6:(Rdr×Unit)⊕((Int×Int)×Rdr))=>some o6))
def k77:PF UV:=⟨.stc 127 .t127,[.bool],[],.p2 69,fun b v=>Qb4 b v⟩
def H77:Hints UV:=⟨[(1,⟨[([.at 0 0],.sl .t132),([.at 0 1],.int .i64)],[],true⟩)],[]⟩
theorem Q3y:WU DV W0 Tryz.prog 77 k77:=XR (C:=Qr6) rfl QH Ql (QG (tb:=[]) Ql trivial) (Kd (tb:=[(124,k124)]) Ql ⟨Qfw,trivial⟩) Tryz.func77 en_77 H77 k77 rfl rfl (fun b v=>by kernel_rfl)
theorem en_79:Qc Tryz.prog 79:=enters_of Tryz.func79 (by kernel_rfl) rfl
def Qil (b:Rdr) (a1:List UInt8):Option ((Rdr×Unit)⊕((Int×Int)×Rdr)) :=
 Option.bind (Zv (Qio b)) fun (r1:Rdr×((List UInt8)))=>Option.bind (Qb4 r1.1 (r1.2==a1)) (Sum.elim (fun (r3:Rdr×Unit)=>some (.inl ((Rdr.mk r3.1.l (Qo (r3.1.n+1))),()))) (fun (e4:(Int×Int)×Rdr)=>some (.inr ((e4.1.1,e4.1.2),e4.2))))
def k79:PF UV:=⟨.stc 127 .t127,[.str],[],.p2 69,fun b v=>Qil b v⟩
def H79:Hints UV:=⟨[],[]⟩
theorem k79_ok:WU DV W0 Tryz.prog 79 k79:=XR (C:=Qr6) rfl QH Ql (QG (tb:=[]) Ql trivial) (Gk (Kc (tb:=[(74,k74)]) Ql ⟨Uu,trivial⟩) (Kd (tb:=[(77,k77)]) Ql ⟨Q3y,trivial⟩)) Tryz.func79 en_79 H79 k79 rfl rfl (fun b v=>by kernel_rfl)
theorem en_76:Qc Tryz.prog 76:=enters_of Tryz.func76 (by kernel_rfl) rfl
def Qma (b:Rdr):Option ((Rdr×((List UInt8)))⊕((Int×Int)×Rdr)) :=
 Option.bind (Zv (Qio b)) fun (r1:Rdr×((List UInt8)))=>Option.bind (Q04 r1.2) fun (x3:Bool)=>Option.bind (Qb4 r1.1 x3) (Sum.elim (fun (r4:Rdr×Unit)=>some (.inl ((Rdr.mk r4.1.l (Qo (r4.1.n+1))),r1.2))) (fun (e5:(Int×Int)×Rdr)=>some (.inr ((e5.1.1,e5.1.2),e5.2))))
def k76:PF UV:=⟨.stc 127 .t127,[],[.str],.p2 69,fun b v=>Qma b⟩
def H76:Hints UV:=⟨[],[]⟩
theorem Qj7:WU DV W0 Tryz.prog 76 k76:=XR (C:=Qr6) rfl QH Ql (QG (tb:=[(110,k110)]) Ql ⟨k110_ok,trivial⟩) (Gk (Kc (tb:=[(74,k74)]) Ql ⟨Uu,trivial⟩) (Kd (tb:=[(77,k77)]) Ql ⟨Q3y,trivial⟩)) Tryz.func76 en_76 H76 k76 rfl rfl (fun b v=>by kernel_rfl)
theorem en_75:Qc Tryz.prog 75:=enters_of Tryz.func75 (by kernel_rfl) rfl
def Qmb (b:Rdr):Option ((Rdr×Lvl)⊕((Int×Int)×Rdr)) :=
 Option.bind (Zv (Qio b)) fun (r1:Rdr×((List UInt8)))=>Option.bind (Qnu r1.2 ([91]:List UInt8)) fun (x3:Bool)=>Option.bind (Qb4 r1.1 x3) (Sum.elim (fun (r4:Rdr×Unit)=>Q7 (cond (decide (0≤(1:Int))) (cond (Nat.ble (1:Int).toNat (Qo ((r1.2.length:Int) - 1)).toNat) (Q1z (Qo ((r1.2.length:Int) - 1)) r1.2.length) false) false) (Option.bind (Da (List.drop (1:Int).toNat (List.take (Qo ((r1.2.length:Int) - 1)).toNat r1.2))) fun (x6:Lvl×Int)=>Option.bind (Qb4 r4.1 (x6.2==0)) (Sum.elim (fun (r7:Rdr×Unit)=>some (.inl ((Rdr.mk r7.1.l (Qo (r7.1.n+1))),x6.1))) (fun (e8:(Int×Int)×Rdr)=>some (.inr ((e8.1.1,e8.1.2),e8.2)))))) (fun (e5:(Int×Int)×Rdr)=>some (.inr ((e5.1.1,e5.1.2),e5.2))))
def k75:PF UV:=⟨.stc 127 .t127,[],[.stc .t82],.p2 69,fun b v=>Qmb b⟩
def H75:Hints UV:=⟨[],[]⟩
theorem k75_ok:WU DV W0 Tryz.prog 75 k75:=XR (C:=Qr6) rfl QH Ql (QG (tb:=[(126,k126),(127,k127)]) Ql ⟨k126_ok,k127_ok,trivial⟩) (Gk (Kc (tb:=[(74,k74)]) Ql ⟨Uu,trivial⟩) (Kd (tb:=[(77,k77)]) Ql ⟨Q3y,trivial⟩)) Tryz.func75 en_75 H75 k75 rfl rfl (fun b v=>by kernel_rfl)
theorem en_73:Qc Tryz.prog 73:=enters_of Tryz.func73 (by kernel_rfl) rfl
def Qnn (b:Rdr):Option ((Rdr×Tm)⊕((Int×Int)×Rdr)) :=
 Option.bind (Zv (Qio b)) fun (r1:Rdr×((List UInt8)))=>Option.bind (α:=((List Tkn)×Int)⊕((Rdr×Tm)⊕((Int×Int)×Rdr))) (cond ((r1.2==([]:List UInt8))) (Option.bind (Qh2 r1.1) (Sum.elim (fun (r13:Rdr×Unit)=>some (.inl (r13.1.l,r13.1.n))) (fun (e14:(Int×Int)×Rdr)=>some (.inr (.inr ((e14.1.1,e14.1.2),e14.2)))))) (cond ((r1.2==([112,114,111,112]:List UInt8))) (some (.inr (.inl ((Rdr.mk r1.1.l (Qo (r1.1.n+1))),(Tm.mk 1 0 ([]:List UInt8) ([]) ([])))))) (Option.bind (Option.bind (J0 r1.2 0) fun (x18:UInt8)=>cond (((x18.toNat:Int)==35)) (some true) (Option.bind (J0 r1.2 0) fun (x19:UInt8)=>some ((x19.toNat:Int)==63))) fun (v17:Bool)=>cond v17 (Q7 (Q1z (1:Int) r1.2.length) (Option.bind (Q1y (List.drop (1:Int).toNat r1.2)) fun (x20:Int×Bool)=>Option.bind (J0 r1.2 0) fun (x21:UInt8)=>cond (((x21.toNat:Int)==63)) (some (.inr (.inl ((Rdr.mk r1.1.l (Qo (r1.1.n+1))),(Tm.mk 12 x20.1 ([]:List UInt8) ([]) ([])))))) (some (.inr (.inl ((Rdr.mk r1.1.l (Qo (r1.1.n+1))),(Tm.mk 0 x20.1 ([]:List UInt8) ([]) ([])))))))) (some (.inl (r1.1.l,r1.1.n)))))) (Sum.elim (fun (v12:(List Tkn)×Int)=>Option.bind (Qma (Rdr.mk v12.1 v12.2)) (Sum.elim (fun (r23:Rdr×((List UInt8)))=>some (.inl (r23.1,(Tm.mk 3 0 r23.2 ([]) ([]))))) (fun (e24:(Int×Int)×Rdr)=>some (.inr ((e24.1.1,e24.1.2),e24.2))))) (fun (o22:(Rdr×Tm)⊕((Int×Int)×Rdr))=>some o22))
def k73:PF UV:=⟨.stc 127 .t127,[],[.stc .t25],.p2 69,fun b v=>Qnn b⟩
def H73:Hints UV:=⟨[(4,⟨[([.at 0 0],.sl .t132),([.at 0 1],.int .i64)],[],true⟩),(10,⟨[([.reg 24],.bool)],[],false⟩)],[]⟩
theorem k73_ok:WU DV W0 Tryz.prog 73 k73:=XR (C:=Qr6) rfl QH Ql (QG (tb:=[(125,k125)]) Ql ⟨Qfv,trivial⟩) (Gk (Kc (tb:=[(74,k74)]) Ql ⟨Uu,trivial⟩) (Kd (tb:=[(76,k76),(124,k124)]) Ql ⟨Qj7,Qfw,trivial⟩)) Tryz.func73 en_73 H73 k73 rfl rfl (fun b v=>by kernel_rfl)
theorem en_36:Qc Tryz.prog 36:=enters_of Tryz.func36 (by kernel_rfl) rfl
theorem Qjn:Qc Tryz.prog 64:=enters_of Tryz.func64 (by kernel_rfl) rfl
def B64_36:IH UV:=⟨Tryz.f64,⟨[],[]⟩,.st⟩
def Qit (rc:Rdr×Unit→Option ((Rdr×Tm)⊕((Int×Int)×Rdr))) (b:Rdr):Option ((Rdr×Tm)⊕((Int×Int)×Rdr)) :=
 Option.bind (Zv (Qmy b ([40]:List UInt8))) fun (r1:Rdr×Bool)=>cond ((!r1.2)) (Option.bind (Qnn r1.1) (Sum.elim (fun (r3:Rdr×Tm)=>some (.inl (r3.1,r3.2))) (fun (e4:(Int×Int)×Rdr)=>some (.inr ((e4.1.1,e4.1.2),e4.2))))) (Option.bind (Zv (Qio (Rdr.mk r1.1.l (Qo (r1.1.n+1))))) fun (r5:Rdr×((List UInt8)))=>cond ((r5.2==([115,111,114,116]:List UInt8))) (Option.bind (Qmb (Rdr.mk r5.1.l (Qo (r5.1.n+1)))) (Sum.elim (fun (r7:Rdr×Lvl)=>Option.bind (Qil r7.1 ([41]:List UInt8)) (Sum.elim (fun (r9:Rdr×Unit)=>some (.inl (r9.1,(Tm.mk 2 0 ([]:List UInt8) ([r7.2]:List Lvl) ([]))))) (fun (e10:(Int×Int)×Rdr)=>some (.inr ((e10.1.1,e10.1.2),e10.2))))) (fun (e8:(Int×Int)×Rdr)=>some (.inr ((e8.1.1,e8.1.2),e8.2))))) (cond ((r5.2==([99,111,110,115,116]:List UInt8))) (Option.bind (Qma (Rdr.mk r5.1.l (Qo (r5.1.n+1)))) (Sum.elim (fun (r11:Rdr×((List UInt8)))=>Option.bind (Qa (σ:=(List Tkn)×Int×(List Lvl)) (β:=((List Tkn)×Int×(List Lvl))⊕((Rdr×Tm)⊕((Int×Int)×Rdr))) (fun s25=>Option.bind (Zv (Qmy (Rdr.mk s25.1 s25.2.1) ([41]:List UInt8))) fun (r27:Rdr×Bool)=>cond ((!r27.2)) (Option.bind (Qmb r27.1) (Sum.elim (fun (r29:Rdr×Lvl)=>Q7 (Nat.ble (s25.2.2.length+([r29.2]:List Lvl).length) 1000000000) (some (.next (r29.1.l,r29.1.n,(s25.2.2++([r29.2]:List Lvl)))))) (fun (e30:(Int×Int)×Rdr)=>some (.done (.inr (.inr ((e30.1.1,e30.1.2),e30.2))))))) (some (.done (.inl (r27.1.l,r27.1.n,s25.2.2))))) Qd (r11.1.l,r11.1.n,([]:List Lvl))) (Sum.elim (fun (v26:(List Tkn)×Int×(List Lvl))=>Option.bind (Qil (Rdr.mk v26.1 v26.2.1) ([41]:List UInt8)) (Sum.elim (fun (r31:Rdr×Unit)=>some (.inl (r31.1,(Tm.mk 3 0 r11.2 v26.2.2 ([]))))) (fun (e32:(Int×Int)×Rdr)=>some (.inr ((e32.1.1,e32.1.2),e32.2))))) (fun (o33:(Rdr×Tm)⊕((Int×Int)×Rdr))=>some o33))) (fun (e12:(Int×Int)×Rdr)=>some (.inr ((e12.1.1,e12.1.2),e12.2))))) (Option.bind (Qa (σ:=Int×Int) (β:=Int) (fun s40=>cond ((decide (s40.1 < 8))) (Option.bind (J0 ([([97,112,112]:List UInt8),([108,97,109]:List UInt8),([112,105]:List UInt8),([115,105,103,109,97]:List UInt8),([112,97,105,114]:List UInt8),([102,115,116]:List UInt8),([115,110,100]:List UInt8),([108,101,116]:List UInt8)]:List (List UInt8)) s40.1) fun (x42:List UInt8)=>Option.bind (cond ((x42==r5.2)) (some (Qo (4+s40.1))) (some s40.2)) fun (v43:Int)=>some (.next ((Qo (s40.1+1)),v43))) (some (.done s40.2))) Qd (0,0)) fun (v41:Int)=>Option.bind (Qb4 r5.1 (v41 != 0)) (Sum.elim (fun (r44:Rdr×Unit)=>Option.bind (Qnm v41) fun (x46:Int)=>Option.bind (Qa (σ:=Int×(List Tkn)×Int×(List Tm)) (β:=((List Tkn)×Int×(List Tm))⊕((Rdr×Tm)⊕((Int×Int)×Rdr))) (fun s53=>cond ((decide (s53.1 < x46))) (Option.bind (rc ((Rdr.mk s53.2.1 s53.2.2.1),())) (Sum.elim (fun (r55:Rdr×Tm)=>Q7 (Nat.ble (s53.2.2.2.length+([r55.2]:List Tm).length) 1000000000) (some (.next ((Qo (s53.1+1)),r55.1.l,r55.1.n,(s53.2.2.2++([r55.2]:List Tm)))))) (fun (e56:(Int×Int)×Rdr)=>some (.done (.inr (.inr ((e56.1.1,e56.1.2),e56.2))))))) (some (.done (.inl (s53.2.1,s53.2.2.1,s53.2.2.2))))) Qd (0,r44.1.l,(Qo (r44.1.n+1)),([]:List Tm))) (Sum.elim (fun (v54:(List Tkn)×Int×(List Tm))=>Option.bind (Qil (Rdr.mk v54.1 v54.2.1) ([41]:List UInt8)) (Sum.elim (fun (r57:Rdr×Unit)=>some (.inl (r57.1,(Tm.mk v41 0 ([]:List UInt8) ([]) v54.2.2)))) (fun (e58:(Int×Int)×Rdr)=>some (.inr ((e58.1.1,e58.1.2),e58.2))))) (fun (o59:(Rdr×Tm)⊕((Int×Int)×Rdr))=>some o59))) (fun (e45:(Int×Int)×Rdr)=>some (.inr ((e45.1.1,e45.1.2),e45.2)))))))
def m36r:Rdr×Unit→Option ((Rdr×Tm)⊕((Int×Int)×Rdr)):=Jz (fun rc v=>Qit rc v.1) Qd
def Qol (b:Rdr):Option ((Rdr×Tm)⊕((Int×Int)×Rdr)):=m36r (b,())
def k36:PF UV:=⟨.stc 127 .t127,[],[.stc .t25],.p2 69,fun b v=>Qol b⟩
def H36:Hints UV:=⟨[(17,⟨[([.at 0 0],.sl .t132),([.at 0 1],.int .i64),([.at 3 3],.app 82 .t82)],[([.at 0 0],.sl .t132),([.at 0 1],.int .i64),([.at 3 3],.app 82 .t82)],true⟩),(23,⟨[([.reg 24],.int .i64),([.at 3 0],.int .i64)],[([.at 3 0],.int .i64)],false⟩),(29,⟨[([.at 3 0],.int .i64)],[],false⟩),(35,⟨[([.reg 50],.int .i64),([.at 0 0],.sl .t132),([.at 0 1],.int .i64),([.at 3 4],.app 25 .t25)],[([.at 0 0],.sl .t132),([.at 0 1],.int .i64),([.at 3 4],.app 25 .t25)],true⟩)],[(21,[3,4,5,7]),(39,[3,4,5,7])]⟩
theorem k36s_ok (rc:Rdr×Unit→Option ((Rdr×Tm)⊕((Int×Int)×Rdr))) (H:∀ (u:Rdr×Unit) (r:(Rdr×Tm)⊕((Int×Int)×Rdr)),rc u=some r→CallO W0 Tryz.prog 36 (.one (.ptr 0 0)::QN DV k36.args u.2) ((Q5m k36.bx u.1).er DV) (Qi7 DV k36.bx k36.res k36.pk r)):WU DV W0 Tryz.prog 36 ⟨k36.bx,k36.args,k36.res,k36.pk,fun b v=>Qit rc b⟩:=XR (C:=Qr6) rfl QH Ql (QG (tb:=[(78,k78)]) Ql ⟨Qj6,trivial⟩) (Xk (C:=Qr6) rfl QH Ql (QG (tb:=[(78,k78)]) Ql ⟨Qj6,trivial⟩) (Gk (Kc (tb:=[(72,k72),(74,k74)]) Ql ⟨k72_ok,Uu,trivial⟩) (Kd (tb:=[(36,(⟨k36.bx,k36.args,k36.res,k36.pk,fun b v=>rc (b,v)⟩:PF UV)),(73,k73),(75,k75),(76,k76),(77,k77),(79,k79)]) Ql ⟨⟨⟨rfl,rfl⟩,fun b v y h=>H (b,v) y h⟩,k73_ok,k75_ok,Qj7,Q3y,k79_ok,trivial⟩)) (I:=[(64,B64_36)]) ⟨⟨Tryz.func64,Qjn⟩,trivial⟩ 8) Tryz.func36 en_36 H36 _ rfl rfl (fun b v=>by kernel_rfl)
theorem k36_ok:WU DV W0 Tryz.prog 36 k36:=⟨⟨rfl,rfl⟩,fun b v r h=>XO (C:=fun (u:Rdr×Unit) (r:(Rdr×Tm)⊕((Int×Int)×Rdr))=>CallO W0 Tryz.prog 36 (.one (.ptr 0 0)::QN DV k36.args u.2) ((Q5m k36.bx u.1).er DV) (Qi7 DV k36.bx k36.res k36.pk r)) (fun rc H u r h=>(k36s_ok rc H).2 u.1 u.2 r h) Qd (b,v) r h⟩
theorem en_37:Qc Tryz.prog 37:=enters_of Tryz.func37 (by kernel_rfl) rfl
def Qnp (b:Rdr) (a1:List UInt8):Option ((Rdr×Unit)⊕((Int×Int)×Rdr)) :=
 Option.bind (α:=((List Tkn)×Int)⊕((Rdr×Unit)⊕((Int×Int)×Rdr))) (Option.bind (Zv (Qio b)) fun (r9:Rdr×((List UInt8)))=>cond ((r9.2==([]:List UInt8))) (Option.bind (J0 r9.1.l r9.1.n) fun (x11:Tkn)=>Option.bind (Qb4 r9.1 (x11.at_==(a1.length:Int))) (Sum.elim (fun (r12:Rdr×Unit)=>some (.inl (r12.1.l,r12.1.n))) (fun (e13:(Int×Int)×Rdr)=>some (.inr (.inr ((e13.1.1,e13.1.2),e13.2)))))) (Option.bind (Qb4 r9.1 false) (Sum.elim (fun (r14:Rdr×Unit)=>some (.inl (r14.1.l,r14.1.n))) (fun (e15:(Int×Int)×Rdr)=>some (.inr (.inr ((e15.1.1,e15.1.2),e15.2))))))) (Sum.elim (fun (v8:(List Tkn)×Int)=>some (.inl ((Rdr.mk v8.1 v8.2),()))) (fun (o16:(Rdr×Unit)⊕((Int×Int)×Rdr))=>some o16))
def k37:PF UV:=⟨.stc 127 .t127,[.str],[],.p2 69,fun b v=>Qnp b v⟩
def H37:Hints UV:=⟨[(0,⟨[([.at 0 0],.sl .t132),([.at 0 1],.int .i64)],[],true⟩)],[(0,[2,20])]⟩
theorem k37_ok:WU DV W0 Tryz.prog 37 k37:=XR (C:=Qr6) rfl QH Ql (QG (tb:=[]) Ql trivial) (Gk (Kc (tb:=[(74,k74)]) Ql ⟨Uu,trivial⟩) (Kd (tb:=[(77,k77)]) Ql ⟨Q3y,trivial⟩)) Tryz.func37 en_37 H37 k37 rfl rfl (fun b v=>by kernel_rfl)
theorem en_139:Qc Tryz.prog 139:=enters_of Tryz.func139 (by kernel_rfl) rfl
def Qd9 (a0:List UInt8) (a1:Int) (a2:Int):Option ((List UInt8)) :=
 Option.bind (Qir a1) fun (x1:(List UInt8))=>Q7 (Nat.ble (a0.length+x1.length) 1000000000) (Option.bind (cond ((decide (0 < a2))) (Option.bind (Qir a2) fun (x4:(List UInt8))=>Q7 (Nat.ble (([32,43,32]:List UInt8).length+x4.length) 1000000000) (Q7 (Nat.ble ((a0++x1).length+(([32,43,32]:List UInt8)++x4).length) 1000000000) (some ((a0++x1)++(([32,43,32]:List UInt8)++x4))))) (some (a0++x1))) fun (v3:(List UInt8))=>some v3)
def k139:KF UV:=⟨[.str,.int .i64,.int .i64],[.str],fun v=>Qd9 v.1 v.2.1 v.2.2⟩
def H139:Hints UV:=⟨[(3,⟨[([.reg 7],.str)],[],false⟩)],[]⟩
theorem Qft:Yy DV W0 Tryz.prog 139 k139:=Zf (C:=Qr6) rfl QH Ql (QG (tb:=[(62,k62)]) Ql ⟨Uv,trivial⟩) Y5 Tryz.func139 en_139 H139 k139 rfl (fun v=>by kernel_rfl)
theorem en_114:Qc Tryz.prog 114:=enters_of Tryz.func114 (by kernel_rfl) rfl
theorem en_140:Qc Tryz.prog 140:=enters_of Tryz.func140 (by kernel_rfl) rfl
theorem en_163:Qc Tryz.prog 163:=enters_of Tryz.func163 (by kernel_rfl) rfl
def B140_114:IH UV:=⟨Tryz.f140,⟨[],[]⟩,.st⟩
def B163_114:IH UV:=⟨Tryz.f163,⟨[(1,⟨[([.reg 3],.int .i64),([.fat 0 4 0],.app 9 .t9)],[([.fat 0 4 0],.app 9 .t9)],false⟩),(4,⟨[([.fat 0 4 0],.app 9 .t9)],[],false⟩)],[]⟩,.st⟩
def Ql0 (a0:Lvl):Option ((List UInt8)×Int) :=
 Option.bind (Q5h a0) fun (x1:Bool)=>cond ((!x1)) (some (([]:List UInt8),3)) (Option.bind (cond ((decide (0 < a0.c))) (some true) (some ((a0.vs.length:Int)==0))) fun (v2:Bool)=>Option.bind (cond v2 (Option.bind (Qir a0.c) fun (x5:(List UInt8))=>Q7 (Nat.ble (([]:List ((List UInt8))).length+([x5]:List ((List UInt8))).length) 1000000000) (some (([]:List ((List UInt8)))++([x5]:List ((List UInt8)))))) (some ([]:List ((List UInt8))))) fun (v4:(List ((List UInt8))))=>Option.bind (Qa (σ:=Int×(List ((List UInt8)))) (β:=(List ((List UInt8)))) (fun s12=>cond ((decide (s12.1 < (a0.vs.length:Int)))) (Option.bind (J0 a0.vs s12.1) fun (x14:Qr1)=>cond ((decide (0≤x14.1))) (Option.bind (Qd9 ([117]:List UInt8) x14.1 x14.2) fun (x15:(List UInt8))=>Q7 (Nat.ble (s12.2.length+([x15]:List ((List UInt8))).length) 1000000000) (some (.next ((Qo (s12.1+1)),(s12.2++([x15]:List ((List UInt8)))))))) (some (.next ((Qo (s12.1+1)),s12.2)))) (some (.done s12.2))) Qd (0,v4)) fun (v13:(List ((List UInt8))))=>Option.bind (Qa (σ:=Int×(List ((List UInt8)))) (β:=(List ((List UInt8)))) (fun s31=>cond ((decide (0≤s31.1))) (Option.bind (Option.bind (J0 a0.vs s31.1) fun (x36:Qr1)=>cond ((decide (x36.1 < 0))) (Option.bind (Qd9 ([63]:List UInt8) (Qo ((-1) - x36.1)) x36.2) fun (x37:(List UInt8))=>Q7 (Nat.ble (s31.2.length+([x37]:List ((List UInt8))).length) 1000000000) (some (s31.2++([x37]:List ((List UInt8)))))) (some s31.2)) fun (v35:(List ((List UInt8))))=>some (.next ((Qo (s31.1 - 1)),v35))) (some (.done s31.2))) Qd ((Qo ((a0.vs.length:Int) - 1)),v13)) fun (v32:(List ((List UInt8))))=>cond (((v32.length:Int)==1)) (Option.bind (J0 v32 0) fun (x38:(List UInt8))=>some (x38,0)) (Option.bind (Qnt v32 ([44,32]:List UInt8)) fun (x39:(List UInt8))=>Q7 (Nat.ble (([109,97,120,40]:List UInt8).length+x39.length) 1000000000) (Q7 (Nat.ble ((([109,97,120,40]:List UInt8)++x39).length+([41]:List UInt8).length) 1000000000) (some (((([109,97,120,40]:List UInt8)++x39)++([41]:List UInt8)),0)))))
def k114:KF UV:=⟨[.stc .t82],[.str,.int .i64],fun v=>Ql0 v⟩
def H114:Hints UV:=⟨[(5,⟨[([.reg 20],.bool)],[],false⟩),(6,⟨[([.at 4 0],.app 9 .t9)],[],false⟩),(9,⟨[([.reg 30],.int .i64),([.at 4 0],.app 9 .t9)],[([.at 4 0],.app 9 .t9)],false⟩)],[(7,[4,5,6]),(16,[6,7,8]),(24,[7,8,9])]⟩
theorem k114_ok:Yy DV W0 Tryz.prog 114 k114:=Zf (C:=Qr6) rfl QH Ql (QG (tb:=[(62,k62),(136,k136),(139,k139),(141,k141)]) Ql ⟨Uv,Qfu,Qft,Qfs,trivial⟩) (Xk (C:=Qr6) rfl QH Ql (QG (tb:=[(62,k62),(136,k136),(139,k139),(141,k141)]) Ql ⟨Uv,Qfu,Qft,Qfs,trivial⟩) Y5 (I:=[(140,B140_114),(163,B163_114)]) ⟨⟨Tryz.func140,en_140⟩,⟨Tryz.func163,en_163⟩,trivial⟩ 8) Tryz.func114 en_114 H114 k114 rfl (fun v=>by kernel_rfl)
theorem en_63:Qc Tryz.prog 63:=enters_of Tryz.func63 (by kernel_rfl) rfl
def Qlm (a0:Lvl):Option ((List UInt8)) :=
 Option.bind (Ql0 a0) fun (x1:(List UInt8)×Int)=>Q7 (Nat.ble (([91]:List UInt8).length+x1.1.length) 1000000000) (Q7 (Nat.ble ((([91]:List UInt8)++x1.1).length+([93]:List UInt8).length) 1000000000) (some ((([91]:List UInt8)++x1.1)++([93]:List UInt8))))
def k63:KF UV:=⟨[.stc .t82],[.str],fun v=>Qlm v⟩
def H63:Hints UV:=⟨[],[]⟩
theorem Q97:Yy DV W0 Tryz.prog 63 k63:=Zf (C:=Qr6) rfl QH Ql (QG (tb:=[(114,k114)]) Ql ⟨k114_ok,trivial⟩) Y5 Tryz.func63 en_63 H63 k63 rfl (fun v=>by kernel_rfl)
theorem Qls:Qc Tryz.prog 28:=enters_of Tryz.func28 (by kernel_rfl) rfl
theorem Qlr:Qc Tryz.prog 61:=enters_of Tryz.func61 (by kernel_rfl) rfl
def B61_28:IH UV:=⟨Tryz.f61,⟨[],[]⟩,.st⟩
def B64_28:IH UV:=⟨Tryz.f64,⟨[],[]⟩,.st⟩
def Qd4 (rc:(List Byt)×Tm→Option (((List Byt)×Unit)⊕(Unit×(List Byt)))) (b:List Byt) (a1:Tm):Option (((List Byt)×Unit)⊕(Unit×(List Byt))) :=
 Option.bind (α:=((List Byt))⊕(((List Byt)×Unit)⊕(Unit×(List Byt)))) (cond ((a1.kind==0)) (Option.bind (Qir a1.index) fun (x467:(List UInt8))=>Q7 (Nat.ble (([35]:List UInt8).length+x467.length) 1000000000) (Q7 (Nat.ble (b.length+(([35]:List UInt8)++x467).length) 1000000000) (some (.inl (b++(List.map (fun b:UInt8=>(⟨b.toNat⟩:Byt)) (([35]:List UInt8)++x467))))))) (Option.bind (α:=((List Byt))⊕(((List Byt)×Unit)⊕(Unit×(List Byt)))) (cond ((a1.kind==12)) (Option.bind (Qir a1.index) fun (x700:(List UInt8))=>Q7 (Nat.ble (([63]:List UInt8).length+x700.length) 1000000000) (Q7 (Nat.ble (b.length+(([63]:List UInt8)++x700).length) 1000000000) (some (.inl (b++(List.map (fun b:UInt8=>(⟨b.toNat⟩:Byt)) (([63]:List UInt8)++x700))))))) (Option.bind (α:=((List Byt))⊕(((List Byt)×Unit)⊕(Unit×(List Byt)))) (cond ((a1.kind==1)) (Q7 (Nat.ble (b.length+([112,114,111,112]:List UInt8).length) 1000000000) (some (.inl (b++(List.map (fun b:UInt8=>(⟨b.toNat⟩:Byt)) ([112,114,111,112]:List UInt8)))))) (Option.bind (α:=((List Byt))⊕(((List Byt)×Unit)⊕(Unit×(List Byt)))) (cond ((a1.kind==2)) (Option.bind (J0 a1.levels 0) fun (x873:Lvl)=>Option.bind (Qlm x873) fun (x874:(List UInt8))=>Q7 (Nat.ble (([40,115,111,114,116,32]:List UInt8).length+x874.length) 1000000000) (Q7 (Nat.ble ((([40,115,111,114,116,32]:List UInt8)++x874).length+([41]:List UInt8).length) 1000000000) (Q7 (Nat.ble (b.length+((([40,115,111,114,116,32]:List UInt8)++x874)++([41]:List UInt8)).length) 1000000000) (some (.inl (b++(List.map (fun b:UInt8=>(⟨b.toNat⟩:Byt)) ((([40,115,111,114,116,32]:List UInt8)++x874)++([41]:List UInt8))))))))) (Option.bind (α:=((List Byt))⊕(((List Byt)×Unit)⊕(Unit×(List Byt)))) (cond ((a1.kind==3)) (Option.bind (cond (((a1.levels.length:Int)==0)) (some (!(a1.name==([112,114,111,112]:List UInt8)))) (some false)) fun (v902:Bool)=>cond v902 (Q7 (Nat.ble (b.length+a1.name.length) 1000000000) (some (.inr (.inl ((b++(List.map (fun b:UInt8=>(⟨b.toNat⟩:Byt)) a1.name)),()))))) (Q7 (Nat.ble (([40,99,111,110,115,116,32]:List UInt8).length+a1.name.length) 1000000000) (Q7 (Nat.ble (b.length+(([40,99,111,110,115,116,32]:List UInt8)++a1.name).length) 1000000000) (Option.bind (Qa (σ:=Int×(List Byt)) (β:=(List Byt)) (fun s909=>cond ((decide (s909.1 < (a1.levels.length:Int)))) (Option.bind (J0 a1.levels s909.1) fun (x911:Lvl)=>Option.bind (Qlm x911) fun (x912:(List UInt8))=>Q7 (Nat.ble (([32]:List UInt8).length+x912.length) 1000000000) (Q7 (Nat.ble (s909.2.length+(([32]:List UInt8)++x912).length) 1000000000) (some (.next ((Qo (s909.1+1)),(s909.2++(List.map (fun b:UInt8=>(⟨b.toNat⟩:Byt)) (([32]:List UInt8)++x912)))))))) (some (.done s909.2))) Qd (0,(b++(List.map (fun b:UInt8=>(⟨b.toNat⟩:Byt)) (([40,99,111,110,115,116,32]:List UInt8)++a1.name))))) fun (v910:(List Byt))=>Q7 (Nat.ble (v910.length+([41]:List UInt8).length) 1000000000) (some (.inl (v910++(List.map (fun b:UInt8=>(⟨b.toNat⟩:Byt)) ([41]:List UInt8))))))))) (Option.bind (J0 ([([97,112,112]:List UInt8),([108,97,109]:List UInt8),([112,105]:List UInt8),([115,105,103,109,97]:List UInt8),([112,97,105,114]:List UInt8),([102,115,116]:List UInt8),([115,110,100]:List UInt8),([108,101,116]:List UInt8)]:List (List UInt8)) (Qo (a1.kind - 4))) fun (x913:List UInt8)=>Q7 (Nat.ble (([40]:List UInt8).length+x913.length) 1000000000) (Q7 (Nat.ble (b.length+(([40]:List UInt8)++x913).length) 1000000000) (Option.bind (Qa (σ:=Int×(List Byt)) (β:=(List Byt)) (fun s923=>cond ((decide (s923.1 < (a1.kids.length:Int)))) (Option.bind (J0 a1.kids s923.1) fun (x925:Tm)=>Q7 (Nat.ble (s923.2.length+([32]:List UInt8).length) 1000000000) (Option.bind (Zv (rc ((s923.2++(List.map (fun b:UInt8=>(⟨b.toNat⟩:Byt)) ([32]:List UInt8))),x925))) fun (r926:(List Byt)×Unit)=>some (.next ((Qo (s923.1+1)),r926.1)))) (some (.done s923.2))) Qd (0,(b++(List.map (fun b:UInt8=>(⟨b.toNat⟩:Byt)) (([40]:List UInt8)++x913))))) fun (v924:(List Byt))=>Q7 (Nat.ble (v924.length+([41]:List UInt8).length) 1000000000) (some (.inl (v924++(List.map (fun b:UInt8=>(⟨b.toNat⟩:Byt)) ([41]:List UInt8))))))))) (Sum.elim (fun (v901:(List Byt))=>some (.inl v901)) (fun (o928:((List Byt)×Unit)⊕(Unit×(List Byt)))=>some (.inr o928))))) (Sum.elim (fun (v872:(List Byt))=>some (.inl v872)) (fun (o929:((List Byt)×Unit)⊕(Unit×(List Byt)))=>some (.inr o929))))) (Sum.elim (fun (v815:(List Byt))=>some (.inl v815)) (fun (o930:((List Byt)×Unit)⊕(Unit×(List Byt)))=>some (.inr o930))))) (Sum.elim (fun (v699:(List Byt))=>some (.inl v699)) (fun (o931:((List Byt)×Unit)⊕(Unit×(List Byt)))=>some (.inr o931))))) (Sum.elim (fun (v466:(List Byt))=>some (.inl (v466,()))) (fun (o932:((List Byt)×Unit)⊕(Unit×(List Byt)))=>some o932))
def Qnr:(List Byt)×Tm→Option (((List Byt)×Unit)⊕(Unit×(List Byt))):=Jz (fun rc v=>Qd4 rc v.1 v.2) Qd
def Qov (b:List Byt) (a1:Tm):Option (((List Byt)×Unit)⊕(Unit×(List Byt))):=Qnr (b,a1)
def k28:PF UV:=⟨.bld 62 5 .t5,[.stc .t25],[],.p0 62,fun b v=>Qov b v⟩
def H28:Hints UV:=⟨[(4,⟨[([.at 0 1],.app 5 .t5)],[],true⟩),(7,⟨[([.at 0 1],.app 5 .t5)],[],true⟩),(10,⟨[([.at 0 1],.app 5 .t5)],[],true⟩),(13,⟨[([.at 0 1],.app 5 .t5)],[],true⟩),(16,⟨[([.at 0 1],.app 5 .t5)],[],true⟩),(17,⟨[([.reg 74],.bool)],[],false⟩),(22,⟨[([.reg 87],.int .i64),([.at 0 1],.app 5 .t5)],[([.at 0 1],.app 5 .t5)],false⟩),(32,⟨[([.reg 21],.int .i64),([.at 0 1],.app 5 .t5)],[([.at 0 1],.app 5 .t5)],false⟩)],[(30,[1,7])]⟩
theorem k28s_ok (rc:(List Byt)×Tm→Option (((List Byt)×Unit)⊕(Unit×(List Byt)))) (H:∀ (u:(List Byt)×Tm) (r:((List Byt)×Unit)⊕(Unit×(List Byt))),rc u=some r→CallO W0 Tryz.prog 28 (.one (.ptr 0 0)::QN DV k28.args u.2) ((Q5m k28.bx u.1).er DV) (Qi7 DV k28.bx k28.res k28.pk r)):WU DV W0 Tryz.prog 28 ⟨k28.bx,k28.args,k28.res,k28.pk,fun b v=>Qd4 rc b v⟩:=XR (C:=Qr6) rfl QH Ql (QG (tb:=[(62,k62),(63,k63)]) Ql ⟨Uv,Q97,trivial⟩) (Xk (C:=Qr6) rfl QH Ql (QG (tb:=[(62,k62),(63,k63)]) Ql ⟨Uv,Q97,trivial⟩) (Gk Qlw (Kc (tb:=[(28,(⟨k28.bx,k28.args,k28.res,k28.pk,fun b v=>rc (b,v)⟩:PF UV))]) Ql ⟨⟨⟨rfl,rfl⟩,fun b v y h=>H (b,v) y h⟩,trivial⟩)) (I:=[(61,B61_28),(64,B64_28)]) ⟨⟨Tryz.func61,Qlr⟩,⟨Tryz.func64,Qjn⟩,trivial⟩ 8) Tryz.func28 Qls H28 _ rfl rfl (fun b v=>by kernel_rfl)
theorem k28_ok:WU DV W0 Tryz.prog 28 k28:=⟨⟨rfl,rfl⟩,fun b v r h=>XO (C:=fun (u:(List Byt)×Tm) (r:((List Byt)×Unit)⊕(Unit×(List Byt)))=>CallO W0 Tryz.prog 28 (.one (.ptr 0 0)::QN DV k28.args u.2) ((Q5m k28.bx u.1).er DV) (Qi7 DV k28.bx k28.res k28.pk r)) (fun rc H u r h=>(k28s_ok rc H).2 u.1 u.2 r h) Qd (b,v) r h⟩
theorem en_13:Qc Tryz.prog 13:=enters_of Tryz.func13 (by kernel_rfl) rfl
theorem en_29:Qc Tryz.prog 29:=enters_of Tryz.func29 (by kernel_rfl) rfl
def B28_13:IH UV:=⟨Tryz.f28,⟨[(17,⟨[([.reg 74],.bool)],[],false⟩),(22,⟨[([.reg 87],.int .i64),([.at 0 1],.app 5 .t5)],[([.at 0 1],.app 5 .t5)],false⟩),(32,⟨[([.reg 21],.int .i64),([.at 0 1],.app 5 .t5)],[([.at 0 1],.app 5 .t5)],false⟩)],[(30,[1,7])]⟩,.st⟩
def B29_13:IH UV:=⟨Tryz.f29,⟨[],[]⟩,.lab [([.reg 2],.int .i64)]⟩
def B61_13:IH UV:=⟨Tryz.f61,⟨[],[]⟩,.st⟩
def B64_13:IH UV:=⟨Tryz.f64,⟨[],[]⟩,.st⟩
def Qhd (a0:Tm):Option ((List UInt8)×Int) :=
 Option.bind (Qky a0 1000000 1000000 1000000 1000000) fun (x1:Int)=>cond ((x1 != 0)) (some (([]:List UInt8),x1)) (cond ((a0.kind==0)) (Option.bind (Qir a0.index) fun (x2:(List UInt8))=>Q7 (Nat.ble (([35]:List UInt8).length+x2.length) 1000000000) (Q7 (Nat.ble (([35]:List UInt8)++x2).length 1000000000) (Option.bind (some ((List.map (fun b:UInt8=>(⟨b.toNat⟩:Byt)) (([35]:List UInt8)++x2)).length:Int)) fun (v3:Int)=>cond ((decide (65536 < v3))) (some (([]:List UInt8),5)) (Q7 (cond (List.all (List.map (fun b:UInt8=>(⟨b.toNat⟩:Byt)) (([35]:List UInt8)++x2)) (fun x:Byt=>cond (decide (0≤x.n)) (decide (x.n < 256)) false)) (!(List.isEmpty (List.map (fun b:UInt8=>(⟨b.toNat⟩:Byt)) (([35]:List UInt8)++x2)))) false) (some ((List.map Byt.u8 (List.map (fun b:UInt8=>(⟨b.toNat⟩:Byt)) (([35]:List UInt8)++x2))),0)))))) (cond ((a0.kind==12)) (Option.bind (Qir a0.index) fun (x4:(List UInt8))=>Q7 (Nat.ble (([63]:List UInt8).length+x4.length) 1000000000) (Q7 (Nat.ble (([63]:List UInt8)++x4).length 1000000000) (Option.bind (some ((List.map (fun b:UInt8=>(⟨b.toNat⟩:Byt)) (([63]:List UInt8)++x4)).length:Int)) fun (v5:Int)=>cond ((decide (65536 < v5))) (some (([]:List UInt8),5)) (Q7 (cond (List.all (List.map (fun b:UInt8=>(⟨b.toNat⟩:Byt)) (([63]:List UInt8)++x4)) (fun x:Byt=>cond (decide (0≤x.n)) (decide (x.n < 256)) false)) (!(List.isEmpty (List.map (fun b:UInt8=>(⟨b.toNat⟩:Byt)) (([63]:List UInt8)++x4)))) false) (some ((List.map Byt.u8 (List.map (fun b:UInt8=>(⟨b.toNat⟩:Byt)) (([63]:List UInt8)++x4))),0)))))) (cond ((a0.kind==1)) (Q7 (Nat.ble ([112,114,111,112]:List UInt8).length 1000000000) (Option.bind (some ((List.map (fun b:UInt8=>(⟨b.toNat⟩:Byt)) ([112,114,111,112]:List UInt8)).length:Int)) fun (v6:Int)=>cond ((decide (65536 < v6))) (some (([]:List UInt8),5)) (Q7 (cond (List.all (List.map (fun b:UInt8=>(⟨b.toNat⟩:Byt)) ([112,114,111,112]:List UInt8)) (fun x:Byt=>cond (decide (0≤x.n)) (decide (x.n < 256)) false)) (!(List.isEmpty (List.map (fun b:UInt8=>(⟨b.toNat⟩:Byt)) ([112,114,111,112]:List UInt8)))) false) (some ((List.map Byt.u8 (List.map (fun b:UInt8=>(⟨b.toNat⟩:Byt)) ([112,114,111,112]:List UInt8))),0))))) (cond ((a0.kind==2)) (Option.bind (J0 a0.levels 0) fun (x7:Lvl)=>Option.bind (Qlm x7) fun (x8:(List UInt8))=>Q7 (Nat.ble (([40,115,111,114,116,32]:List UInt8).length+x8.length) 1000000000) (Q7 (Nat.ble ((([40,115,111,114,116,32]:List UInt8)++x8).length+([41]:List UInt8).length) 1000000000) (Q7 (Nat.ble ((([40,115,111,114,116,32]:List UInt8)++x8)++([41]:List UInt8)).length 1000000000) (Option.bind (some ((List.map (fun b:UInt8=>(⟨b.toNat⟩:Byt)) ((([40,115,111,114,116,32]:List UInt8)++x8)++([41]:List UInt8))).length:Int)) fun (v9:Int)=>cond ((decide (65536 < v9))) (some (([]:List UInt8),5)) (Q7 (cond (List.all (List.map (fun b:UInt8=>(⟨b.toNat⟩:Byt)) ((([40,115,111,114,116,32]:List UInt8)++x8)++([41]:List UInt8))) (fun x:Byt=>cond (decide (0≤x.n)) (decide (x.n < 256)) false)) (!(List.isEmpty (List.map (fun b:UInt8=>(⟨b.toNat⟩:Byt)) ((([40,115,111,114,116,32]:List UInt8)++x8)++([41]:List UInt8))))) false) (some ((List.map Byt.u8 (List.map (fun b:UInt8=>(⟨b.toNat⟩:Byt)) ((([40,115,111,114,116,32]:List UInt8)++x8)++([41]:List UInt8)))),0))))))) (cond ((a0.kind==3)) (Option.bind (cond (((a0.levels.length:Int)==0)) (some (!(a0.name==([112,114,111,112]:List UInt8)))) (some false)) fun (v10:Bool)=>cond v10 (Q7 (Nat.ble a0.name.length 1000000000) (Option.bind (some ((List.map (fun b:UInt8=>(⟨b.toNat⟩:Byt)) a0.name).length:Int)) fun (v11:Int)=>cond ((decide (65536 < v11))) (some (([]:List UInt8),5)) (Q7 (cond (List.all (List.map (fun b:UInt8=>(⟨b.toNat⟩:Byt)) a0.name) (fun x:Byt=>cond (decide (0≤x.n)) (decide (x.n < 256)) false)) (!(List.isEmpty (List.map (fun b:UInt8=>(⟨b.toNat⟩:Byt)) a0.name))) false) (some ((List.map Byt.u8 (List.map (fun b:UInt8=>(⟨b.toNat⟩:Byt)) a0.name)),0))))) (Q7 (Nat.ble (([40,99,111,110,115,116,32]:List UInt8).length+a0.name.length) 1000000000) (Q7 (Nat.ble (([40,99,111,110,115,116,32]:List UInt8)++a0.name).length 1000000000) (Option.bind (Qa (σ:=Int×(List Byt)) (β:=(List Byt)) (fun s18=>cond ((decide (s18.1 < (a0.levels.length:Int)))) (Option.bind (J0 a0.levels s18.1) fun (x20:Lvl)=>Option.bind (Qlm x20) fun (x21:(List UInt8))=>Q7 (Nat.ble (([32]:List UInt8).length+x21.length) 1000000000) (Q7 (Nat.ble (s18.2.length+(([32]:List UInt8)++x21).length) 1000000000) (some (.next ((Qo (s18.1+1)),(s18.2++(List.map (fun b:UInt8=>(⟨b.toNat⟩:Byt)) (([32]:List UInt8)++x21)))))))) (some (.done s18.2))) Qd (0,(List.map (fun b:UInt8=>(⟨b.toNat⟩:Byt)) (([40,99,111,110,115,116,32]:List UInt8)++a0.name)))) fun (v19:(List Byt))=>Q7 (Nat.ble (v19.length+([41]:List UInt8).length) 1000000000) (Option.bind (some ((v19++(List.map (fun b:UInt8=>(⟨b.toNat⟩:Byt)) ([41]:List UInt8))).length:Int)) fun (v22:Int)=>cond ((decide (65536 < v22))) (some (([]:List UInt8),5)) (Q7 (cond (List.all (v19++(List.map (fun b:UInt8=>(⟨b.toNat⟩:Byt)) ([41]:List UInt8))) (fun x:Byt=>cond (decide (0≤x.n)) (decide (x.n < 256)) false)) (!(List.isEmpty (v19++(List.map (fun b:UInt8=>(⟨b.toNat⟩:Byt)) ([41]:List UInt8))))) false) (some ((List.map Byt.u8 (v19++(List.map (fun b:UInt8=>(⟨b.toNat⟩:Byt)) ([41]:List UInt8)))),0)))))))) (Option.bind (J0 ([([97,112,112]:List UInt8),([108,97,109]:List UInt8),([112,105]:List UInt8),([115,105,103,109,97]:List UInt8),([112,97,105,114]:List UInt8),([102,115,116]:List UInt8),([115,110,100]:List UInt8),([108,101,116]:List UInt8)]:List (List UInt8)) (Qo (a0.kind - 4))) fun (x23:List UInt8)=>Q7 (Nat.ble (([40]:List UInt8).length+x23.length) 1000000000) (Q7 (Nat.ble (([40]:List UInt8)++x23).length 1000000000) (Option.bind (Qa (σ:=Int×(List Byt)) (β:=(List Byt)) (fun s33=>cond ((decide (s33.1 < (a0.kids.length:Int)))) (Option.bind (J0 a0.kids s33.1) fun (x35:Tm)=>Q7 (Nat.ble (s33.2.length+([32]:List UInt8).length) 1000000000) (Option.bind (Zv (Qov (s33.2++(List.map (fun b:UInt8=>(⟨b.toNat⟩:Byt)) ([32]:List UInt8))) x35)) fun (r36:(List Byt)×Unit)=>some (.next ((Qo (s33.1+1)),r36.1)))) (some (.done s33.2))) Qd (0,(List.map (fun b:UInt8=>(⟨b.toNat⟩:Byt)) (([40]:List UInt8)++x23)))) fun (v34:(List Byt))=>Q7 (Nat.ble (v34.length+([41]:List UInt8).length) 1000000000) (Option.bind (some ((v34++(List.map (fun b:UInt8=>(⟨b.toNat⟩:Byt)) ([41]:List UInt8))).length:Int)) fun (v38:Int)=>cond ((decide (65536 < v38))) (some (([]:List UInt8),5)) (Q7 (cond (List.all (v34++(List.map (fun b:UInt8=>(⟨b.toNat⟩:Byt)) ([41]:List UInt8))) (fun x:Byt=>cond (decide (0≤x.n)) (decide (x.n < 256)) false)) (!(List.isEmpty (v34++(List.map (fun b:UInt8=>(⟨b.toNat⟩:Byt)) ([41]:List UInt8))))) false) (some ((List.map Byt.u8 (v34++(List.map (fun b:UInt8=>(⟨b.toNat⟩:Byt)) ([41]:List UInt8)))),0))))))))))))
def k13:KF UV:=⟨[.stc .t25],[.str,.int .i64],fun v=>Qhd v⟩
def H13:Hints UV:=⟨[],[]⟩
theorem Qdf:Yy DV W0 Tryz.prog 13 k13:=Zf (C:=Qr6) rfl QH Ql (QG (tb:=[(27,k27),(62,k62),(63,k63)]) Ql ⟨Qj8,Uv,Q97,trivial⟩) (Xk (C:=Qr6) rfl QH Ql (QG (tb:=[(27,k27),(62,k62),(63,k63)]) Ql ⟨Qj8,Uv,Q97,trivial⟩) (Gk Qlw (Gk st_ok (Kc (tb:=[(28,k28)]) Ql ⟨k28_ok,trivial⟩))) (I:=[(28,B28_13),(29,B29_13),(61,B61_13),(64,B64_13)]) ⟨⟨Tryz.func28,Qls⟩,⟨Tryz.func29,en_29⟩,⟨Tryz.func61,Qlr⟩,⟨Tryz.func64,Qjn⟩,trivial⟩ 8) Tryz.func13 en_13 H13 k13 rfl (fun v=>by kernel_rfl)
theorem en_15:Qc Tryz.prog 15:=enters_of Tryz.func15 (by kernel_rfl) rfl
theorem en_33:Qc Tryz.prog 33:=enters_of Tryz.func33 (by kernel_rfl) rfl
theorem en_34:Qc Tryz.prog 34:=enters_of Tryz.func34 (by kernel_rfl) rfl
theorem en_35:Qc Tryz.prog 35:=enters_of Tryz.func35 (by kernel_rfl) rfl
theorem en_71:Qc Tryz.prog 71:=enters_of Tryz.func71 (by kernel_rfl) rfl
theorem en_121:Qc Tryz.prog 121:=enters_of Tryz.func121 (by kernel_rfl) rfl
def B33_15:IH UV:=⟨Tryz.f33,⟨[],[(4,[5,6,7])]⟩,.st⟩
def B34_15:IH UV:=⟨Tryz.f34,⟨[],[]⟩,.st⟩
def B35_15:IH UV:=⟨Tryz.f35,⟨[],[(6,[6,7,10])]⟩,.st⟩
def B71_15:IH UV:=⟨Tryz.f71,⟨[],[]⟩,.st⟩
def B121_15:IH UV:=⟨Tryz.f121,⟨[(1,⟨[([.reg 3],.int .i64),([.fat 0 6 0],.app 132 .t132)],[],true⟩),(3,⟨[([.reg 3],.int .i64)],[([.reg 3],.int .i64)],false⟩),(4,⟨[([.reg 15],.bool)],[],false⟩),(10,⟨[([.reg 4],.int .i64)],[],false⟩)],[]⟩,.lab [([.fat 0 6 0],.app 132 .t132)]⟩
def Q9w (a0:List UInt8):Option (Tm×Int×Int) :=
 cond ((decide (65536 < (a0.length:Int)))) (some ((Tm.mk 0 0 ([]:List UInt8) ([]) ([])),0,5)) (Option.bind (Option.bind (Qa (σ:=Int×(List Tkn)) (β:=Unit⊕((List Tkn))) (fun s42=>Option.bind (Qa (σ:=Int) (β:=Int) (fun s54=>Option.bind (cond ((decide (s54 < (a0.length:Int)))) (Option.bind (J0 a0 s54) fun (x59:UInt8)=>Option.bind (Qdb ([32,9,13,10]:List UInt8) (x59.toNat:Int)) fun (x60:Int)=>some (decide (0≤x60))) (some false)) fun (v58:Bool)=>cond v58 (some (.next (Qo (s54+1)))) (some (.done s54))) Qd s42.1) fun (v55:Int)=>Option.bind (cond ((decide (v55 < (a0.length:Int)))) (Option.bind (Qh3 a0 v55) fun (x63:Int)=>some x63) (some v55)) fun (v62:Int)=>Q7 (cond (decide (0≤v55)) (cond (Nat.ble v55.toNat v62.toNat) (Q1z v62 a0.length) false) false) (Q7 (Nat.ble (s42.2.length+([(Tkn.mk (List.drop v55.toNat (List.take v62.toNat a0)) v55)]:List Tkn).length) 1000000000) (cond ((v62==v55)) (some (.done (.inr (s42.2++([(Tkn.mk (List.drop v55.toNat (List.take v62.toNat a0)) v55)]:List Tkn))))) (some (.next (v62,(s42.2++([(Tkn.mk (List.drop v55.toNat (List.take v62.toNat a0)) v55)]:List Tkn)))))))) Qd (0,([]:List Tkn))) (Sum.elim (fun (v43:Unit)=>some ([]:List Tkn)) (fun (o64:(List Tkn))=>some o64))) fun (v1:(List Tkn))=>Option.bind (Qol (Rdr.mk v1 0)) (Sum.elim (fun (r65:Rdr×Tm)=>Option.bind (Qnp r65.1 a0) (Sum.elim (fun (r67:Rdr×Unit)=>Option.bind (Qhd r65.2) fun (x69:(List UInt8)×Int)=>cond ((x69.2 != 0)) (some ((Tm.mk 0 0 ([]:List UInt8) ([]) ([])),0,x69.2)) (some (r65.2,0,0))) (fun (e68:(Int×Int)×Rdr)=>some ((Tm.mk 0 0 ([]:List UInt8) ([]) ([])),e68.1.2,e68.1.1)))) (fun (e66:(Int×Int)×Rdr)=>some ((Tm.mk 0 0 ([]:List UInt8) ([]) ([])),e66.1.2,e66.1.1))))
def k15:KF UV:=⟨[.str],[.stc .t25,.int .i64,.int .i64],fun v=>Q9w v⟩
def H15:Hints UV:=⟨[],[]⟩
theorem Qj9:Yy DV W0 Tryz.prog 15 k15:=Zf (C:=Qr6) rfl QH Ql (QG (tb:=[(13,k13),(122,k122),(123,k123)]) Ql ⟨Qdf,Q98,Qfx,trivial⟩) (Xk (C:=Qr6) rfl QH Ql (QG (tb:=[(13,k13),(122,k122),(123,k123)]) Ql ⟨Qdf,Q98,Qfx,trivial⟩) (Kd (tb:=[(36,k36),(37,k37)]) Ql ⟨k36_ok,k37_ok,trivial⟩) (I:=[(33,B33_15),(34,B34_15),(35,B35_15),(71,B71_15),(121,B121_15)]) ⟨⟨Tryz.func33,en_33⟩,⟨Tryz.func34,en_34⟩,⟨Tryz.func35,en_35⟩,⟨Tryz.func71,en_71⟩,⟨Tryz.func121,en_121⟩,trivial⟩ 8) Tryz.func15 en_15 H15 k15 rfl (fun v=>by kernel_rfl)
end
noncomputable section
open Go.RowKit Go.Shelf
def Qme (a0:Byt):Option Bool :=
 Option.bind (cond (decide (97≤a0.n))
   (cond (decide (a0.n≤122))
   (some true)
   (cond (decide (65≤a0.n))
   (cond (decide (a0.n≤90))
   (some true)
   (some (a0.n==95)))
   (some (a0.n==95))))
   (cond (decide (65≤a0.n))
   (cond (decide (a0.n≤90))
   (some true)
   (some (a0.n==95)))
   (some (a0.n==95)))) (fun (v1:Bool)=>some v1)
def Q3i (a0:Qr7) (s1:Bool×Int):Option (LO (Bool×Int) (Bool⊕Bool)) :=
 cond (decide (s1.2 < (a0.length:Int)))
   (Option.bind (J0 a0 s1.2) fun (x5:UInt8) =>
 cond s1.1
   (Option.bind (Qme (⟨(x5.toNat:Int)⟩:Byt)) fun (x7:Bool) =>
 cond (!x7)
   (some (.done (.inr false)))
   (some (.next (false,(Qo (s1.2+1))))))
   (cond ((x5.toNat:Int)==46)
   (some (.next (true,(Qo (s1.2+1)))))
   (Option.bind (Option.bind (Qme (⟨(x5.toNat:Int)⟩:Byt)) fun (x11:Bool) =>
 cond (!x11)
   (cond ((x5.toNat:Int) != 39)
   (cond (decide ((x5.toNat:Int) < 48))
   (some true)
   (some (decide (57 < (x5.toNat:Int)))))
   (some false))
   (some false)) (fun (v10:Bool)=>cond v10
   (some (.done (.inr false)))
   (some (.next (s1.1,(Qo (s1.2+1)))))))))
   (some (.done (.inl s1.1)))
def Qoj (a0:Qr7):Option Bool :=
 Option.bind (cond (a0==([]:List UInt8))
   (some true)
   (some (decide (64 < (a0.length:Int))))) (fun (v1:Bool)=>cond v1
   (some false)
   (Option.bind (Qa (Q3i a0) Qd (true,0)) (Sum.elim (fun (o3:Bool)=>some (!o3)) (fun o=>some o))))
def m142_k0 (p0_:Bool) (p1_:Int):Option Int :=
 cond p0_
   (some 2)
   (Option.bind (cond (p1_==8)
   (some (p1_==8))
   (some (p1_==11))) (fun (b0_:Bool)=>cond b0_
   (some 3)
   (cond (p1_==9)
   (cond (p1_==9)
   (some 1)
   (some 0))
   (cond (p1_==10)
   (some 1)
   (some 0)))))
def m142 (a0:Int):Option Int :=
 Option.bind (cond (a0==4)
   (some (a0==4))
   (cond (a0==5)
   (some (a0==5))
   (cond (a0==6)
   (some (a0==6))
   (some (a0==7))))) (fun (v1:Bool)=>m142_k0 v1 a0)
def m115_k0 (p0_:Bool) (p1_:Tm):Option Bool :=
 cond p0_
   (some false)
   (Option.bind (cond (!(p1_.name==([]:List UInt8)))
   (some (p1_.kind != 3))
   (some false)) (fun (b0_:Bool)=>cond b0_
   (some false)
   (cond (p1_.kind==2)
   (some ((p1_.levels.length:Int)==1))
   (Option.bind (cond ((p1_.levels.length:Int)==0)
   (some true)
   (some (p1_.kind==3))) (fun (b1_:Bool)=>some b1_)))))
def Qh4 (a0:Tm):Option Bool :=
 Option.bind (cond (decide (a0.kind < 0))
   (some true)
   (cond (decide (13≤a0.kind))
   (some true)
   (Option.bind (m142 a0.kind) fun (x4:Int) =>
 some ((a0.kids.length:Int) != x4)))) (fun (v1:Bool)=>cond v1
   (some false)
   (Option.bind (cond (a0.index != 0)
   (cond (a0.kind != 0)
   (some (a0.kind != 12))
   (some false))
   (some false)) (fun (v3:Bool)=>m115_k0 v3 a0)))
def Q8r (a0:Int) (a1:Int):Option Int :=
 Option.bind (cond (a1==1)
   (cond (a0==5)
   (some true)
   (cond (a0==6)
   (some true)
   (cond (a0==7)
   (some true)
   (cond (a1==2)
   (some (a0==11))
   (some false)))))
   (cond (a1==2)
   (some (a0==11))
   (some false))) (fun (v1:Bool)=>cond v1
   (some 1)
   (some 0))
def Qfh (p0_:Bool) (p1_:Int) (p2_:Lvl) (p3_:Qr1):Option (LO Int (Unit⊕Bool)) :=
 cond p0_
   (some (.done (.inr false)))
   (Option.bind (cond (decide (0 < p1_))
   (Option.bind (J0 p2_.vs (Qo (p1_ - 1))) fun (b0_:Qr1) =>
 some (decide (p3_.1≤b0_.1)))
   (some false)) (fun (b1_:Bool)=>cond b1_
   (some (.done (.inr false)))
   (Option.bind (cond (decide (0 < p2_.c))
   (some (decide (p2_.c≤p3_.2)))
   (some false)) (fun (b2_:Bool)=>cond b2_
   (some (.done (.inr false)))
   (some (.next (Qo (p1_+1))))))))
def Db (a0:Lvl) (s1:Int):Option (LO Int (Unit⊕Bool)) :=
 cond (decide (s1 < (a0.vs.length:Int)))
   (Option.bind (J0 a0.vs s1) fun (x5:Qr1) =>
 Option.bind (cond (decide (x5.1 < (-65536)))
   (some true)
   (cond (decide (8≤x5.1))
   (some true)
   (cond (decide (x5.2 < 0))
   (some true)
   (some (decide (100 < x5.2)))))) (fun (v6:Bool)=>Qfh v6 s1 a0 x5))
   (some (.done (.inl ())))
def Qiz (a0:Lvl):Option Bool :=
 Option.bind (cond (decide (a0.c < 0))
   (some true)
   (some (decide (100 < a0.c)))) (fun (v1:Bool)=>cond v1
   (some false)
   (Option.bind (Qa (Db a0) Qd 0) (Sum.elim (fun (o3:Unit)=>some true) (fun o=>some o))))
def De (a0:Lvl) (a1:Int) (s1:Int):Option (LO Int (Unit⊕Int)) :=
 cond (decide (s1 < (a0.vs.length:Int)))
   (Option.bind (Option.bind (J0 a0.vs s1) fun (x6:Qr1) =>
 cond (decide (0≤x6.1))
   (Option.bind (J0 a0.vs s1) fun (x8:Qr1) =>
 some (decide (a1≤x8.1)))
   (some false)) (fun (v5:Bool)=>cond v5
   (some (.done (.inr 15)))
   (some (.next (Qo (s1+1))))))
   (some (.done (.inl ())))
def Dc (a0:Lvl) (a2:Int) (s1:Int):Option (LO Int (Unit⊕Int)) :=
 cond (decide (s1 < (a0.vs.length:Int)))
   (Option.bind (Option.bind (J0 a0.vs s1) fun (x7:Qr1) =>
 cond (decide (x7.1 < 0))
   (Option.bind (J0 a0.vs s1) fun (x9:Qr1) =>
 some (decide (a2≤(Qo ((-1) - x9.1)))))
   (some false)) (fun (v6:Bool)=>cond v6
   (some (.done (.inr 23)))
   (some (.next (Qo (s1+1))))))
   (some (.done (.inl ())))
def Qj0 (a0:Lvl) (a1:Int) (a2:Int):Option Int :=
 Option.bind (Qiz a0) fun (x1:Bool) =>
 cond (!x1)
   (some 3)
   (Option.bind (Qa (De a0 a1) Qd 0) (Sum.elim (fun (o3:Unit)=>Option.bind (Qa (Dc a0 a2) Qd 0) (Sum.elim (fun (o4:Unit)=>some 0) (fun o=>some o))) (fun o=>some o)))
def Um (a0:Tm) (a3:Int) (a5:Int) (s1:Int):Option (LO Int (Unit⊕Int)) :=
 cond (decide (s1 < (a0.levels.length:Int)))
   (Option.bind (J0 a0.levels s1) fun (x8:Lvl) =>
 Option.bind (Qj0 x8 a3 a5) fun (x9:Int) =>
 cond (x9 != 0)
   (some (.done (.inr x9)))
   (some (.next (Qo (s1+1)))))
   (some (.done (.inl ())))
def KJ (a0:Tm) (rc:Tm×Int×Int×Int×Int×Int→Option Int) (a1:Int) (a2:Int) (a3:Int) (a4:Int) (a5:Int) (s1:Int):Option (LO Int (Unit⊕Int)) :=
 cond (decide (s1 < (a0.kids.length:Int)))
   (Option.bind (J0 a0.kids s1) fun (x13:Tm) =>
 Option.bind (Q8r a0.kind s1) fun (x14:Int) =>
 Option.bind (rc (x13,(Qo (a1+x14)),a2,a3,a4,a5)) fun (x15:Int) =>
 cond (x15 != 0)
   (some (.done (.inr x15)))
   (some (.next (Qo (s1+1)))))
   (some (.done (.inl ())))
def Un (p0_:Bool) (p1_:Tm) (p2_:Int) (p3_:Tm×Int×Int×Int×Int×Int→Option Int) (p4_:Int) (p5_:Int) (p6_:Int) (p7_:Int):Option Int :=
 cond p0_
   (some 24)
   (Option.bind (cond (p1_.kind==12)
   (cond (decide (p1_.index < 0))
   (some true)
   (some (decide (p2_≤p1_.index))))
   (some false)) (fun (b0_:Bool)=>cond b0_
   (some 23)
   (Option.bind (Qa (KJ p1_ p3_ p4_ p5_ p6_ p2_ p7_) Qd 0) (Sum.elim (fun (b1_:Unit)=>some 0) (fun o=>some o)))))
def m65_k3 (p0_:Bool) (p1_:Tm) (p2_:Int) (p3_:Int) (p4_:Int) (p5_:Int) (p6_:Int) (p7_:Tm×Int×Int×Int×Int×Int→Option Int):Option Int :=
 cond p0_
   (some 29)
   (cond (decide (8 < (p1_.levels.length:Int)))
   (some 6)
   (Option.bind (Qa (Um p1_ p2_ p3_) Qd 0) (Sum.elim (fun (b0_:Unit)=>Option.bind (cond (p1_.kind==0)
   (cond (decide (p1_.index < 0))
   (some true)
   (some (decide (p4_≤(Qo (p1_.index - p5_))))))
   (some false)) (fun (b1_:Bool)=>Un b1_ p1_ p6_ p7_ p5_ p4_ p2_ p3_)) (fun o=>some o))))
def Qiq (rc:Tm×Int×Int×Int×Int×Int→Option Int) (a0:Tm) (a1:Int) (a2:Int) (a3:Int) (a4:Int) (a5:Int):Option Int :=
 Option.bind (Qh4 a0) fun (x1:Bool) =>
 cond (!x1)
   (some 3)
   (Option.bind (cond (a0.kind==3)
   (Option.bind (Qoj a0.name) fun (x5:Bool) =>
 some (!x5))
   (some false)) (fun (v3:Bool)=>m65_k3 v3 a0 a3 a5 a2 a1 a4 rc))
def Q3l (rc:Tm×Int×Int×Int×Int×Int→Option Int) (u:Tm×Int×Int×Int×Int×Int):Option Int:=Qiq rc u.1 u.2.1 u.2.2.1 u.2.2.2.1 u.2.2.2.2.1 u.2.2.2.2.2
def Qou (a0:Tm) (a1:Int) (a2:Int) (a3:Int) (a4:Int) (a5:Int):Option Int:=Jz Q3l Qd (a0,a1,a2,a3,a4,a5)
def Q3k (a0:Tm) (rc:Tm→Option Int) (s1:Int×Int):Option (LO (Int×Int) Int) :=
 cond (decide (s1.2 < (a0.kids.length:Int)))
   (Option.bind (J0 a0.kids s1.2) fun (x3:Tm) =>
 Option.bind (rc x3) fun (x4:Int) =>
 some (.next ((Qo (s1.1+x4)),(Qo (s1.2+1)))))
   (some (.done s1.1))
def Qmd (rc:Tm→Option Int) (a0:Tm):Option Int :=
 Option.bind (Qa (Q3k a0 rc) Qd (1,0)) (fun (o1:Int)=>some o1)
def Qip (rc:Tm→Option Int) (u:Tm):Option Int:=Qmd rc u
def Qp4 (a0:Tm):Option Int:=Jz Qip Qd a0
def Q8l (a0:Tm) (rc:Tm→Option Int) (s1:Int×Int):Option (LO (Int×Int) Int) :=
 cond (decide (s1.2 < (a0.kids.length:Int)))
   (Option.bind (J0 a0.kids s1.2) fun (x3:Tm) =>
 Option.bind (rc x3) fun (x4:Int) =>
 some (.next ((max s1.1 x4),(Qo (s1.2+1)))))
   (some (.done s1.1))
def Qmc (rc:Tm→Option Int) (a0:Tm):Option Int :=
 Option.bind (Qa (Q8l a0 rc) Qd (0,0)) (fun (o1:Int)=>some (Qo (o1+1)))
def Qkx (rc:Tm→Option Int) (u:Tm):Option Int:=Qmc rc u
def m67 (a0:Tm):Option Int:=Jz Qkx Qd a0
def Qnq (a0:Tm) (a1:Int) (a2:Int) (a3:Int) (a4:Int):Option Int :=
 Option.bind (Qou a0 0 (max a1 0) a2 a3 a4) fun (x1:Int) =>
 cond (x1 != 0)
   (some x1)
   (Option.bind (Qp4 a0) fun (x3:Int) =>
 cond (decide (4096 < x3))
   (some 5)
   (Option.bind (m67 a0) fun (x5:Int) =>
 cond (decide (200 < x5))
   (some 7)
   (some 0)))
end
noncomputable section
open Go.RowKit Go.Shelf
theorem Y2 {n:Int} (h1:-9223372036854775808≤n) (h2:n≤9223372036854775807):Qo n=n:=IntWalk.i64_in n ⟨h1,h2⟩
theorem Gj {k:Nat} (h:k≤1000000000):Qo ((k:Int)+1)=((k+1:Nat):Int):=by rw [Y2 (by omega) (by omega)];rfl
theorem Zh {α:Type} (a:List α) (x:α) (b:List α):J0 (a++x::b) (a.length:Int)=some x:=by
 show (a++x::b)[a.length]?=some x
 simp
theorem Gm {α:Type} (a:List α) (x:α) (b:List α):decide ((a.length:Int) < ((a++x::b).length:Int))=true:=by
 rw [CX,C9,C2];omega
theorem mid_lt {α:Type} {l a b:List α} {x:α} (h:l=a++x::b):a.length < l.length:=by rw [h,C9,C2];omega
theorem ZJ (a b:Int):(a==b)=decide (a=b):=by
 by_cases h:a=b
 ·rw [C5 h];exact CZ.2 h
 ·rw [C6 h,Bool.eq_false_iff];exact fun h'=>h (CZ.1 h')
theorem JA {α:Type} (a:List α):decide ((a.length:Int) < (a.length:Int))=false:=by simp
theorem Dl {α:Type} {a b:Nat} {x:Option α} (h:a≤b):Q7 (Nat.ble a b) x=x:=by
 rw [Cb h];rfl
theorem Ys {α σ τ β:Type} {step:τ→Option (LO τ β)} (l:List α) (mk:Int→σ→τ) (I:List α→σ→Prop) (Q:β→Prop) (hlen:l.length≤900000000)
  (hin:∀ (a:List α) (x:α) (b:List α) (s:σ),l=a++x::b→I a s →
   (∃ r,step (mk (a.length:Int) s)=some (.done r)∧Q r)∨∃ s',step (mk (a.length:Int) s)=some (.next (mk (Qo ((a.length:Int)+1)) s'))∧I (a++[x]) s')
  (hout:∀ s,I l s→∃ r,step (mk (l.length:Int) s)=some (.done r)∧Q r) (s0:σ) (h0:I [] s0):∃ r,Qa step Qd (mk 0 s0)=some r∧Q r:=by
 have key:∀ (b a:List α) (s:σ) (n:Nat),l=a++b→b.length < n→I a s→∃ r,Qa step n (mk (a.length:Int) s)=some r∧Q r:=by
  intro b
  induction b with
  | nil =>
   intro a s n hl hn hI
   rw [CH] at hl
   subst hl
   obtain ⟨r,h1,h2⟩:=hout s hI
   cases n with
   | zero=>omega
   | succ n=>exact ⟨r,by simp only [Qa,h1],h2⟩
  | cons x b ih =>
   intro a s n hl hn hI
   cases n with
   | zero=>omega
   | succ n =>
    rcases hin a x b s hl hI with ⟨r,h1,h2⟩ | ⟨s',h1,h2⟩
    ·exact ⟨r,by simp only [Qa,h1],h2⟩
    ·have hal:a.length≤900000000:=by rw [hl,C9] at hlen;omega
     rw [Gj (by omega)] at h1
     obtain ⟨r,h3,h4⟩:=ih (a++[x]) s' n (by rw [hl,Cy];rfl) (by simp only [C2] at hn;omega) h2
     refine ⟨r,?_,h4⟩
     simp only [Qa,h1]
     rw [C9] at h3
     exact h3
 exact key l [] s0 Qd rfl (by unfold Qd;omega) h0
theorem UR {α:Type} (f:α→Nat) {x:α}:∀ {l:List α},x∈l→f x≤(l.map f).sum
 | y::l,h=>by
  rw [CF,Pj]
  rcases Cq.1 h with rfl | h
  ·omega
  ·have:=UR f h;omega
def Q3o (l:Lvl):Nat:=1+(l.vs.map fun _=>1).sum
def Qq2 (n:Int):Nat:=if -9223372036854775808≤n∧n≤9223372036854775807 then 0 else 10000000000
theorem ir_in {n:Int} (h:Qq2 n≤1000000000):-9223372036854775808≤n∧n≤9223372036854775807:=by
 unfold Qq2 at h
 split at h
 ·assumption
 ·omega
def Tm.size:Tm→Nat
 | .mk _ i n ls ks=>1+Qq2 i+n.length+(ls.map Q3o).sum+(ks.attach.map fun k=>Tm.size k.1).sum
termination_by t=>SizeOf.sizeOf t
decreasing_by
 have:=Pe k.2
 simp only [Tm.mk.sizeOf_spec];omega
theorem Tm.size_eq (t:Tm):t.size=1+Qq2 t.index+t.name.length+(t.levels.map Q3o).sum+(t.kids.map Tm.size).sum:=by
 cases t
 rw [Tm.size,Sq];rfl
theorem Y1 {t k:Tm} (h:k∈t.kids):k.size < t.size:=by
 have:=UR Tm.size h
 rw [t.size_eq];omega
theorem Qkg {C:Tm→Prop} (h:∀ t:Tm,(∀ k∈t.kids,C k)→C t) (t:Tm):C t:=by
 have:∀ n (t:Tm),t.size≤n→C t:=by
  intro n
  induction n with
  | zero=>intro t ht;rw [t.size_eq] at ht;omega
  | succ n ih=>exact fun t ht=>h t fun k hk=>ih k (by have:=Y1 hk;omega)
 exact this _ t (Ck _)
theorem W7 (t:Tm):t.kids.length < t.size:=by
 rw [t.size_eq]
 have:∀ l:List Tm,l.length≤(l.map Tm.size).sum:=by
  intro l
  induction l with
  | nil=>exact Ck _
  | cons x l ih =>
   rw [CF,Pj,C2]
   have:=x.size_eq
   omega
 have:=this t.kids
 omega
theorem sum_split {α:Type} (f:α→Nat) (a:List α) (x:α) (b:List α):((a++x::b).map f).sum=(a.map f).sum+f x+(b.map f).sum:=by simp;omega
theorem Qoa (a b:Qr7):(a==b)=decide (a=b):=by
 by_cases h:a=b
 ·rw [C5 h];exact CZ.2 h
 ·rw [C6 h,Bool.eq_false_iff];exact fun h'=>h (CZ.1 h')
theorem Dh {α:Type} (g:α→Nat) (hg:∀ x,1≤g x):∀ l:List α,l.length≤(l.map g).sum
 | []=>Ck _
 | x::l=>by
  rw [CF,Pj,C2]
  have:=hg x
  have:=Dh g hg l
  omega
theorem loop_any {α σ τ β:Type} {step:τ→Option (LO τ β)} (l:List α) (mk:Int→σ→τ) (hlen:l.length≤900000000)
  (hin:∀ (a:List α) (x:α) (b:List α) (s:σ),l=a++x::b→(∃ r,step (mk (a.length:Int) s)=some (.done r))∨∃ s',step (mk (a.length:Int) s)=some (.next (mk (Qo ((a.length:Int)+1)) s')))
  (hout:∀ s,∃ r,step (mk (l.length:Int) s)=some (.done r)) (s0:σ):∃ r,Qa step Qd (mk 0 s0)=some r:=by
 obtain ⟨r,h,-⟩:=Ys l mk (fun _ _=>True) (fun _=>True) hlen (fun a x b s e _=>(hin a x b s e).elim (fun ⟨r,h⟩=>.inl ⟨r,h,trivial⟩) (fun ⟨s',h⟩=>.inr ⟨s',h,trivial⟩)) (fun s _=>let ⟨r,h⟩:=hout s;⟨r,h,trivial⟩) s0 trivial
 exact ⟨r,h⟩
theorem Q4m:∀ (n:Nat) (t:Tm),t.size≤n→t.size≤900000000→∃ r,Jz Qkx n t=some r
 | 0,t,h,_=>by rw [t.size_eq] at h;omega
 | n+1,t,h,h2=>by
  show ∃ r,Qmc (Jz Qkx n) t=some r
  unfold Qmc
  have hl:=W7 t
  obtain ⟨r,e⟩:=loop_any (step:=Q8l t (Jz Qkx n)) t.kids (fun i (s:Int)=>(s,i)) (by omega)
   (fun a x b s e=>by
    have hx:=Y1 (t:=t) (k:=x) (by rw [e];simp)
    obtain ⟨r,hr⟩:=Q4m n x (by omega) (by omega)
    refine .inr ⟨max s r,?_⟩
    unfold Q8l
    dsimp only
    rw [e,Gm,Zh]
    simp only [C7,C1]
    rw [hr];rfl) (fun s=>⟨s,by unfold Q8l;dsimp only;rw [JA];rfl⟩) 0
  rw [e];exact ⟨_,rfl⟩
end
noncomputable section
open Go.RowKit Go.Shelf
def Qkl {α σ β:Type} (f:σ→α→σ⊕β) (e:σ→β):List α→σ→β
 | [],s=>e s
 | x::l,s=>Sum.elim (fun s'=>Qkl f e l s') (fun r=>r) (f s x)
theorem Qfm {α σ τ β:Type} {step:τ→Option (LO τ β)} (l:List α) (mk:Int→σ→τ) (f:σ→α→σ⊕β) (e:σ→β) (I:List α→σ→Prop) (hlen:l.length≤900000000)
  (hin:∀ (a:List α) (x:α) (b:List α) (s:σ),l=a++x::b→I a s→step (mk (a.length:Int) s)=some (Sum.elim (fun s'=>.next (mk (Qo ((a.length:Int)+1)) s')) .done (f s x))∧∀ s',f s x=.inl s'→I (a++[x]) s')
  (hout:∀ s,I l s→step (mk (l.length:Int) s)=some (.done (e s))) (s0:σ) (h0:I [] s0):Qa step Qd (mk 0 s0)=some (Qkl f e l s0):=by
 obtain ⟨r,h1,h2⟩:=Ys (step:=step) l mk (fun a s=>I a s∧∀ b,l=a++b→Qkl f e l s0=Qkl f e b s) (fun r=>r=Qkl f e l s0) hlen
  (fun a x b s hl hI=>by
   obtain ⟨h3,h4⟩:=hin a x b s hl hI.1
   have h5:=hI.2 (x::b) hl
   cases hf:f s x with
   | inl s' =>
    refine .inr ⟨s',by rw [h3,hf];rfl,h4 s' hf,fun b' hb=>?_⟩
    have:b'=b:=by
     rw [hl,Cy] at hb
     exact (Pf (List.append_cancel_left hb)).2.symm
    rw [this,h5,Qkl,hf];rfl
   | inr r=>exact .inl ⟨r,by rw [h3,hf];rfl,by rw [h5,Qkl,hf];rfl⟩)
  (fun s hI=>⟨e s,hout s hI.1,by rw [hI.2 [] (by simp)];rfl⟩) s0 ⟨h0,fun b hb=>by rw [P7] at hb;rw [hb]⟩
 rw [h1,h2]
theorem Qb5 {α β:Type} {step:Int→Option (LO Int β)} (l:List α) (bad:List α→α→Prop) (r0 r1:β) (hlen:l.length≤900000000)
  (hin:∀ (a:List α) (x:α) (b:List α),l=a++x::b→(bad a x→step (a.length:Int)=some (.done r0))∧(¬ bad a x→step (a.length:Int)=some (.next (Qo ((a.length:Int)+1)))))
  (hout:step (l.length:Int)=some (.done r1)):∃ r,Qa step Qd 0=some r∧((r=r1∧∀ a x b,l=a++x::b→¬ bad a x)∨(r=r0∧∃ a x b,l=a++x::b∧bad a x)):=by
 refine Ys (step:=step) l (fun i (_:Unit)=>i) (fun a _=>∀ a' x b',a=a'++x::b'→¬ bad a' x) (fun r=>(r=r1∧∀ a x b,l=a++x::b→¬ bad a x)∨(r=r0∧∃ a x b,l=a++x::b∧bad a x)) hlen
  (fun a x b s hl hI=>?_) (fun s hI=>⟨r1,hout,.inl ⟨rfl,hI⟩⟩) () (fun a' x b' h=>by cases a' <;> cases h)
 by_cases hb:bad a x
 ·exact .inl ⟨r0,(hin a x b hl).1 hb,.inr ⟨rfl,a,x,b,hl,hb⟩⟩
 ·refine .inr ⟨(),(hin a x b hl).2 hb,fun a' y b' h=>?_⟩
  rcases List.append_eq_append_iff.1 h with ⟨c,h1,h2⟩ | ⟨c,h1,h2⟩
  ·cases c with
   | nil =>
    rw [P7] at h2
    cases h2
    rw [CH] at h1
    rw [h1];exact hb
   | cons z c =>
    exfalso
    have:=congrArg List.length h2
    simp at this
  ·cases c with
   | nil =>
    rw [P7] at h2
    cases h2
    rw [CH] at h1
    rw [← h1];exact hb
   | cons z c =>
    rw [Pu] at h2
    cases h2
    exact hI a' y c h1
def Ur (c:Int):Bool:=(decide (97≤c)&&decide (c≤122))||(decide (65≤c)&&decide (c≤90))||(c==95)
theorem Qfb (c:Int):Qda ⟨c⟩=some (Ur c):=by
 unfold Qda Ur
 cases decide (97≤c) <;> cases decide (c≤122) <;> cases decide (65≤c) <;> cases decide (c≤90) <;> rfl
theorem m133_eq (c:Int):Qme ⟨c⟩=some (Ur c):=Qfb c
def Qll (st:Bool) (b:UInt8):Bool⊕(Bool⊕Bool) :=
 if Ur (b.toNat:Int)=true then .inl false else if st=true then .inr (.inr false) else if (b.toNat:Int)=46 then .inl true else
  if (b.toNat:Int) < 48∨57 < (b.toNat:Int) then (if (b.toNat:Int)=39 then .inl st else .inr (.inr false)) else .inl st
def Qmx (s:Qr7):Bool⊕Bool:=Qkl Qll .inl s true
theorem m110_l0_eq (s:Qr7) (h:s.length≤900000000):Qa (Xf s) Qd (true,0)=some (Qmx s):=by
 refine Qfm (step:=Xf s) s (fun i (st:Bool)=>(st,i)) Qll .inl (fun _ _=>True) h (fun a x b st e _=>⟨?_,fun _ _=>trivial⟩) (fun st _=>by unfold Xf;dsimp only;rw [JA];rfl) true trivial
 unfold Xf Qll
 dsimp only
 rw [e,Gm,Zh]
 simp only [C7,C1]
 rw [Qfb,C1]
 cases Ur (x.toNat:Int) with
 | true=>rfl
 | false =>
  cases st with
  | true=>rfl
  | false =>
   simp only [Cd,ZJ,CY,if_false]
   by_cases h1:(x.toNat:Int)=46
   ·rw [C5 h1,Cc h1];rfl
   ·rw [C6 h1,C8 h1,Cd]
    by_cases h2:(x.toNat:Int) < 48
    ·rw [C5 h2,Cc (Or.inl h2)]
     by_cases h4:(x.toNat:Int)=39
     ·rw [Cc h4,h4];rfl
     ·rw [C8 h4]
      have:((x.toNat:Int) != 39)=true:=SH.2 h4
      simp only [C7,C1,this];rfl
    ·rw [C6 h2]
     by_cases h3:57 < (x.toNat:Int)
     ·rw [C5 h3,Cc (Or.inr h3)]
      by_cases h4:(x.toNat:Int)=39
      ·omega
      ·rw [C8 h4]
       have:((x.toNat:Int) != 39)=true:=SH.2 h4
       simp only [C7,Cd,C1,this];rfl
     ·rw [C6 h3,C8 (by omega)];rfl
theorem m98_l0_eq (s:Qr7) (h:s.length≤900000000):Qa (Q3i s) Qd (true,0)=some (Qmx s):=by
 refine Qfm (step:=Q3i s) s (fun i (st:Bool)=>(st,i)) Qll .inl (fun _ _=>True) h (fun a x b st e _=>⟨?_,fun _ _=>trivial⟩) (fun st _=>by unfold Q3i;dsimp only;rw [JA];rfl) true trivial
 unfold Q3i Qll
 dsimp only
 rw [e,Gm,Zh]
 simp only [C7,C1]
 rw [m133_eq,C1]
 cases st with
 | true=>cases Ur (x.toNat:Int) <;> rfl
 | false =>
  simp only [Cd,ZJ,CY,if_false]
  by_cases h1:(x.toNat:Int)=46
  ·rw [C5 h1,Cc h1,C8 (by rw [h1];decide)];rfl
  ·rw [C6 h1,C8 h1,Cd]
   cases Ur (x.toNat:Int) with
   | true=>rfl
   | false =>
    rw [C1,C8 (by decide)]
    simp only [S7,C7]
    by_cases h4:(x.toNat:Int)=39
    ·have:((x.toNat:Int) != 39)=false:=by rw [h4];rfl
     simp only [Cd,C1,this,Cc h4]
     split <;> rfl
    ·have:((x.toNat:Int) != 39)=true:=SH.2 h4
     simp only [C7,this,C8 h4]
     by_cases h2:(x.toNat:Int) < 48
     ·rw [C5 h2,Cc (Or.inl h2)];rfl
     ·rw [C6 h2]
      by_cases h3:57 < (x.toNat:Int)
      ·rw [C5 h3,Cc (Or.inr h3)];rfl
      ·rw [C6 h3,C8 (by omega)];rfl
theorem Qb1:∀ (s:Qr7) (st b:Bool),Qkl Qll .inl s st=.inr b→b=false
 | [],st,b,h=>by cases h
 | x::s,st,b,h=>by
  rw [Qkl] at h
  cases hf:Qll st x with
  | inl st'=>rw [hf] at h;exact Qb1 s st' b h
  | inr r =>
   rw [hf] at h
   unfold Qll at hf
   have:r=.inr false:=by
    revert hf
    repeat' split
    all_goals intro hf;cases hf;try rfl
   rw [this] at h
   cases h;rfl
def YW (s:Qr7):Bool:=Sum.elim (fun st=>!st&&decide ((s.length:Int)≤64)) (fun b=>b) (Qmx s)
theorem Q8s (s:Qr7) (h:s.length≤900000000):Q04 s=some (YW s):=by
 unfold Q04 YW
 rw [m110_l0_eq s h,C1]
 cases Qmx s with
 | inl st=>cases st <;> rfl
 | inr b=>rfl
theorem m98_eq (s:Qr7) (h:s.length≤900000000):Qoj s=some (YW s):=by
 unfold Qoj YW
 rw [Qoa,m98_l0_eq s h]
 by_cases h0:s=[]
 ·subst h0;rfl
 ·rw [C6 h0,Cd]
  by_cases h1:64 < (s.length:Int)
  ·rw [C5 h1,C6 (by omega)]
   cases hn:Qmx s with
   | inl st=>cases st <;> rfl
   | inr b=>have:=Qb1 s true b hn;subst this;rfl
  ·rw [C6 h1,C5 (by omega)]
   cases hn:Qmx s with
   | inl st=>cases st <;> rfl
   | inr b=>rfl
end
noncomputable section
open Go.RowKit Go.Shelf
theorem idx_some {α:Type} {l:List α} {i:Int} (h0:0≤i) (h1:i < (l.length:Int)):∃ x,J0 l i=some x:=by
 cases i with
 | ofNat k=>exact ⟨l[k]'(by have:(Int.ofNat k) < (l.length:Int):=h1;simp at this;omega),Co _⟩
 | negSucc k=>omega
def Q3r (l:Lvl) (a:List Qr1) (x:Qr1):Prop:=x.1 < -65536∨7 < x.1∨x.2 < 0∨100 < x.2∨(0 < a.length∧∃ y,J0 l.vs (Qo ((a.length:Int) - 1))=some y∧x.1≤y.1)
theorem Q5z {l:List Qr1} {a:List Qr1} {x:Qr1} {b:List Qr1} (h:l.length≤900000000) (e:l=a++x::b) (ha:0 < a.length):∃ y,J0 l (Qo ((a.length:Int) - 1))=some y:=by
 have:=mid_lt e
 rw [Y2 (by omega) (by omega)]
 exact idx_some (by omega) (by omega)
theorem m211_eq (l:List Qr1) (u:Lvl) (h:l.length≤900000000):∃ b,Qd8 l u=some b∧(b=true↔∃ x∈l,u.c≤x.2):=by
 have h1:∃ r,Qa (Kq l u) Qd 0=some r∧((r=.inl ())∧(∀ x∈l,¬ u.c≤x.2)∨∃ k:Nat,r=.inr (k:Int)∧∃ x∈l,u.c≤x.2):=by
  refine Ys (step:=Kq l u) l (fun i (_:Unit)=>i) (fun a _=>∀ x∈a,¬ u.c≤x.2) (fun r=>((r=.inl ())∧(∀ x∈l,¬ u.c≤x.2)∨∃ k:Nat,r=.inr (k:Int)∧∃ x∈l,u.c≤x.2)) h
   (fun a x b s e hI=>?_) (fun s hI=>⟨.inl (),by unfold Kq;rw [JA];rfl,.inl ⟨rfl,hI⟩⟩) () (fun x hx=>by cases hx)
  by_cases hx:u.c≤x.2
  ·refine .inl ⟨.inr (a.length:Int),?_,.inr ⟨a.length,rfl,x,by rw [e];simp,hx⟩⟩
   unfold Kq
   rw [e,Gm,Zh]
   show cond (decide (u.c≤x.2)) _ _=_
   rw [C5 hx];rfl
  ·refine .inr ⟨(),?_,fun y hy=>?_⟩
   ·unfold Kq
    rw [e,Gm,Zh]
    show cond (decide (u.c≤x.2)) _ _=_
    rw [C6 hx];rfl
   ·rcases CQ.1 hy with hy | hy
    ·exact hI y hy
    ·rw [CE.1 hy];exact hx
 obtain ⟨r,h2,h3⟩:=h1
 unfold Qd8 Qiu
 rw [h2]
 rcases h3 with ⟨rfl,h4⟩ | ⟨k,rfl,h4⟩
 ·exact ⟨false,rfl,⟨fun h=>(by cases h),fun ⟨x,hx,h⟩=>(h4 x hx h).elim⟩⟩
 ·refine ⟨true,?_,⟨fun _=>h4,fun _=>rfl⟩⟩
  show some (decide ((0:Int)≤(k:Int)))=_
  rw [C5 (by omega)]
def Q5i (l:Lvl):Prop:=0≤l.c∧l.c≤100∧(0 < l.c→∀ x∈l.vs,¬ l.c≤x.2)∧∀ a x b,l.vs=a++x::b→¬ Q3r l a x
theorem Q8q (l:Lvl) (h:l.vs.length≤900000000):∃ b,Q5h l=some b∧(b=true↔Q5i l):=by
 have hloop:=Qb5 (β:=Unit⊕Bool) (step:=Xc l) l.vs (Q3r l) (.inr false) (.inl ()) h (fun a x b e=>by
  have hprev:=fun ha=>Q5z (x:=x) (b:=b) h e ha
  have:Xc l (a.length:Int)=Option.bind (cond (decide (x.1 < (-65536))) (some true) (cond (decide (7 < x.1)) (some true) (cond (decide (x.2 < 0)) (some true) (cond (decide (100 < x.2)) (some true)
    (cond (decide (0 < (a.length:Int))) (Option.bind (J0 l.vs (Qo ((a.length:Int) - 1))) fun (x12:Qr1)=>some (decide (x.1≤x12.1))) (some false)))))) (fun (v6:Bool)=>cond v6 (some (.done (.inr false))) (some (.next (Qo ((a.length:Int)+1))))):=by
   unfold Xc
   have e2:l.vs=a++x::b:=e
   rw [show decide ((a.length:Int) < (l.vs.length:Int))=true from by rw [e2];exact Gm a x b,show J0 l.vs (a.length:Int)=some x from by rw [e2];exact Zh a x b]
   rfl
  rw [this]
  unfold Q3r
  by_cases c1:x.1 < -65536
  ·rw [C5 c1];exact ⟨fun _=>rfl,fun h=>(h (.inl c1)).elim⟩
  rw [C6 c1,Cd]
  by_cases c2:7 < x.1
  ·rw [C5 c2];exact ⟨fun _=>rfl,fun h=>(h (.inr (.inl c2))).elim⟩
  rw [C6 c2,Cd]
  by_cases c3:x.2 < 0
  ·rw [C5 c3];exact ⟨fun _=>rfl,fun h=>(h (.inr (.inr (.inl c3)))).elim⟩
  rw [C6 c3,Cd]
  by_cases c4:100 < x.2
  ·rw [C5 c4];exact ⟨fun _=>rfl,fun h=>(h (.inr (.inr (.inr (.inl c4))))).elim⟩
  rw [C6 c4,Cd]
  by_cases c5:0 < a.length
  ·rw [C5 (show 0 < (a.length:Int) by omega),C7]
   obtain ⟨y,hy⟩:=hprev c5
   rw [hy,C1]
   by_cases c6:x.1≤y.1
   ·rw [C5 c6];exact ⟨fun _=>rfl,fun h=>(h (.inr (.inr (.inr (.inr ⟨c5,y,rfl,c6⟩))))).elim⟩
   ·rw [C6 c6]
    refine ⟨fun h=>?_,fun _=>rfl⟩
    rcases h with h | h | h | h | ⟨-,z,hz,h⟩
    ·exact (c1 h).elim
    ·exact (c2 h).elim
    ·exact (c3 h).elim
    ·exact (c4 h).elim
    ·cases hz;exact (c6 h).elim
  ·rw [C6 (show ¬ 0 < (a.length:Int) by omega)]
   refine ⟨fun h=>?_,fun _=>rfl⟩
   rcases h with h | h | h | h | ⟨h,-⟩
   ·exact (c1 h).elim
   ·exact (c2 h).elim
   ·exact (c3 h).elim
   ·exact (c4 h).elim
   ·exact (c5 h).elim) (by unfold Xc;rw [JA];rfl)
 obtain ⟨r,h1,h2⟩:=hloop
 obtain ⟨b,h3,h4⟩:=m211_eq l.vs l h
 unfold Q5h
 rw [h3,h1]
 by_cases c1:l.c < 0
 ·rw [C5 c1];exact ⟨false,rfl,⟨fun h=>(Cn h).elim,fun h=>by have:=h.1;omega⟩⟩
 rw [C6 c1,Cd]
 by_cases c2:100 < l.c
 ·rw [C5 c2];exact ⟨false,rfl,⟨fun h=>(Cn h).elim,fun h=>by have:=h.2.1;omega⟩⟩
 rw [C6 c2,Cd]
 have key:(∃ x,(0 < l.c∧(∃ x∈l.vs,l.c≤x.2)→x=false)∧(¬ (0 < l.c∧∃ x∈l.vs,l.c≤x.2)→Option.bind (some r) (Sum.elim (fun (o3:Unit)=>some true) (fun o=>some o))=some x)∧cond (decide (0 < l.c)) (Option.bind (Option.bind (some b) fun (x7:Bool)=>some x7) (fun (y5:Bool)=>some y5)) (some false)=some (decide (0 < l.c∧∃ x∈l.vs,l.c≤x.2))∧(x=true→r=.inl ())∧(¬ (0 < l.c∧∃ x∈l.vs,l.c≤x.2)→r=.inl ()→x=true)):=by
  by_cases c3:0 < l.c
  ·rw [C5 c3]
   cases b with
   | true =>
    have h5:=h4.1 rfl
    exact ⟨false,fun _=>rfl,fun h=>(h ⟨c3,h5⟩).elim,by rw [C5 ⟨c3,h5⟩];rfl,fun h=>(by cases h),fun h=>(h ⟨c3,h5⟩).elim⟩
   | false =>
    have h5:¬ ∃ x∈l.vs,l.c≤x.2:=fun h=>by have:=h4.2 h;cases this
    rcases h2 with ⟨rfl,-⟩ | ⟨rfl,-⟩
    ·exact ⟨true,fun h=>(h5 h.2).elim,fun _=>rfl,by rw [C6 fun h=>h5 h.2];rfl,fun _=>rfl,fun _ _=>rfl⟩
    ·exact ⟨false,fun h=>(h5 h.2).elim,fun _=>rfl,by rw [C6 fun h=>h5 h.2];rfl,fun h=>(by cases h),fun _ h=>by cases h⟩
  ·rw [C6 c3]
   rcases h2 with ⟨rfl,-⟩ | ⟨rfl,-⟩
   ·exact ⟨true,fun h=>(c3 h.1).elim,fun _=>rfl,by rw [C6 fun h=>c3 h.1];rfl,fun _=>rfl,fun _ _=>rfl⟩
   ·exact ⟨false,fun h=>(c3 h.1).elim,fun _=>rfl,by rw [C6 fun h=>c3 h.1];rfl,fun h=>(by cases h),fun _ h=>by cases h⟩
 obtain ⟨x,k1,k2,Qpz,k4,k5⟩:=key
 rw [Qpz,C1]
 by_cases c4:0 < l.c∧∃ x∈l.vs,l.c≤x.2
 ·rw [C5 c4]
  refine ⟨false,Z,fun h=>(Cn h).elim,fun h=>?_⟩
  obtain ⟨y,hy,hy2⟩:=c4.2
  exact (h.2.2.1 c4.1 y hy hy2).elim
 ·rw [C6 c4]
  refine ⟨x,k2 c4,fun h=>?_,fun h=>?_⟩
  ·have h6:=k4 h
   rcases h2 with ⟨-,h7⟩ | ⟨h7,-⟩
   ·exact ⟨by omega,by omega,fun h8 y hy h9=>c4 ⟨h8,y,hy,h9⟩,h7⟩
   ·rw [h7] at h6;cases h6
  ·refine k5 c4 ?_
   rcases h2 with ⟨h7,-⟩ | ⟨-,a,y,c,h7,h8⟩
   ·exact h7
   ·exact (h.2.2.2 a y c h7 h8).elim
theorem m118_eq (l:Lvl) (h:l.vs.length≤900000000):∃ b,Qiz l=some b∧(b=true↔Q5i l):=by
 have hloop:=Qb5 (β:=Unit⊕Bool) (step:=Db l) l.vs (fun a x=>Q3r l a x∨(0 < l.c∧l.c≤x.2)) (.inr false) (.inl ()) h (fun a x b e=>by
  have hprev:=fun ha=>Q5z (x:=x) (b:=b) h e ha
  have:Db l (a.length:Int)=Option.bind (cond (decide (x.1 < (-65536))) (some true) (cond (decide (8≤x.1)) (some true) (cond (decide (x.2 < 0)) (some true) (some (decide (100 < x.2)))))) (fun (v6:Bool)=>Qfh v6 (a.length:Int) l x):=by
   unfold Db
   have e2:l.vs=a++x::b:=e
   rw [show decide ((a.length:Int) < (l.vs.length:Int))=true from by rw [e2];exact Gm a x b,show J0 l.vs (a.length:Int)=some x from by rw [e2];exact Zh a x b]
   rfl
  rw [this]
  unfold Q3r
  by_cases c1:x.1 < -65536
  ·rw [C5 c1];exact ⟨fun _=>rfl,fun h=>(h (.inl (.inl c1))).elim⟩
  rw [C6 c1,Cd]
  by_cases c2:7 < x.1
  ·rw [C5 (show 8≤x.1 by omega)];exact ⟨fun _=>rfl,fun h=>(h (.inl (.inr (.inl c2)))).elim⟩
  rw [C6 (show ¬ 8≤x.1 by omega),Cd]
  by_cases c3:x.2 < 0
  ·rw [C5 c3];exact ⟨fun _=>rfl,fun h=>(h (.inl (.inr (.inr (.inl c3))))).elim⟩
  rw [C6 c3,Cd]
  by_cases c4:100 < x.2
  ·rw [C5 c4];exact ⟨fun _=>rfl,fun h=>(h (.inl (.inr (.inr (.inr (.inl c4)))))).elim⟩
  rw [C6 c4,C1]
  show (_→Option.bind (cond (decide (0 < (a.length:Int))) (Option.bind (J0 l.vs (Qo ((a.length:Int) - 1))) fun (b0_:Qr1)=>some (decide (x.1≤b0_.1))) (some false)) _=_)∧(_→Option.bind (cond (decide (0 < (a.length:Int))) (Option.bind (J0 l.vs (Qo ((a.length:Int) - 1))) fun (b0_:Qr1)=>some (decide (x.1≤b0_.1))) (some false)) _=_)
  have hlast:∀ (hno:¬ (0 < a.length∧∃ y,J0 l.vs (Qo ((a.length:Int) - 1))=some y∧x.1≤y.1)),((((x.1 < -65536∨7 < x.1∨x.2 < 0∨100 < x.2∨(0 < a.length∧∃ y,J0 l.vs (Qo ((a.length:Int) - 1))=some y∧x.1≤y.1)))∨(0 < l.c∧l.c≤x.2))→Option.bind (cond (decide (0 < l.c)) (some (decide (l.c≤x.2))) (some false)) (fun (b2_:Bool)=>(cond b2_ (some (.done (.inr false))) (some (.next (Qo ((a.length:Int)+1)))):Option (LO Int (Unit⊕Bool))))=some (.done (.inr false:Unit⊕Bool)))∧(¬ (((x.1 < -65536∨7 < x.1∨x.2 < 0∨100 < x.2∨(0 < a.length∧∃ y,J0 l.vs (Qo ((a.length:Int) - 1))=some y∧x.1≤y.1)))∨(0 < l.c∧l.c≤x.2))→Option.bind (cond (decide (0 < l.c)) (some (decide (l.c≤x.2))) (some false)) (fun (b2_:Bool)=>(cond b2_ (some (.done (.inr false))) (some (.next (Qo ((a.length:Int)+1)))):Option (LO Int (Unit⊕Bool))))=some (.next (β:=Unit⊕Bool) (Qo ((a.length:Int)+1)))):=by
   intro hno
   by_cases c7:0 < l.c
   ·rw [C5 c7]
    by_cases c8:l.c≤x.2
    ·rw [C5 c8];exact ⟨fun _=>rfl,fun h=>(h (.inr ⟨c7,c8⟩)).elim⟩
    ·rw [C6 c8]
     refine ⟨fun h=>?_,fun _=>rfl⟩
     rcases h with (h | h | h | h | h) | ⟨-,h⟩
     ·exact (c1 h).elim
     ·exact (c2 h).elim
     ·exact (c3 h).elim
     ·exact (c4 h).elim
     ·exact (hno h).elim
     ·exact (c8 h).elim
   ·rw [C6 c7]
    refine ⟨fun h=>?_,fun _=>rfl⟩
    rcases h with (h | h | h | h | h) | ⟨h,-⟩
    ·exact (c1 h).elim
    ·exact (c2 h).elim
    ·exact (c3 h).elim
    ·exact (c4 h).elim
    ·exact (hno h).elim
    ·exact (c7 h).elim
  by_cases c5:0 < a.length
  ·rw [C5 (show 0 < (a.length:Int) by omega),C7]
   obtain ⟨y,hy⟩:=hprev c5
   rw [hy,C1]
   rw [hy] at hlast
   by_cases c6:x.1≤y.1
   ·rw [C5 c6];exact ⟨fun _=>rfl,fun h=>(h (.inl (.inr (.inr (.inr (.inr ⟨c5,y,rfl,c6⟩)))))).elim⟩
   ·rw [C6 c6]
    exact hlast fun ⟨_,z,hz,h⟩=>by cases hz;exact c6 h
  ·rw [C6 (show ¬ 0 < (a.length:Int) by omega)]
   exact hlast fun h=>c5 h.1) (by unfold Db;rw [JA];rfl)
 obtain ⟨r,h1,h2⟩:=hloop
 unfold Qiz
 rw [h1]
 by_cases c1:l.c < 0
 ·rw [C5 c1];exact ⟨false,rfl,⟨fun h=>(Cn h).elim,fun h=>by have:=h.1;omega⟩⟩
 rw [C6 c1,Cd]
 by_cases c2:100 < l.c
 ·rw [C5 c2];exact ⟨false,rfl,⟨fun h=>(Cn h).elim,fun h=>by have:=h.2.1;omega⟩⟩
 rw [C6 c2,C1,Cd]
 rcases h2 with ⟨rfl,h3⟩ | ⟨rfl,a,x,b,e,h3⟩
 ·refine ⟨true,rfl,fun _=>⟨by omega,by omega,fun h4 y hy h5=>?_,fun a x b e h4=>h3 a x b e (.inl h4)⟩,fun _=>rfl⟩
  obtain ⟨a,b,e⟩:=List.append_of_mem hy
  exact h3 a y b e (.inr ⟨h4,h5⟩)
 ·refine ⟨false,rfl,fun h=>(Cn h).elim,fun h4=>?_⟩
  rcases h3 with h3 | ⟨h3,h5⟩
  ·exact (h4.2.2.2 a x b e h3).elim
  ·exact (h4.2.2.1 h3 x (by rw [e];simp) h5).elim
theorem lv_same (l:Lvl) (h:l.vs.length≤900000000):∃ b,Q5h l=some b∧Qiz l=some b∧(b=true→Q5i l):=by
 obtain ⟨b,h1,h2⟩:=Q8q l h
 obtain ⟨c,h3,h4⟩:=m118_eq l h
 have:b=c:=Bool.eq_iff_iff.2 (h2.trans h4.symm)
 exact ⟨b,h1,by rw [this];exact h3,h2.1⟩
end
noncomputable section
open Go.RowKit Go.Shelf
theorem Qln {α σ1 τ1 β1 σ2 τ2 β2:Type} {step1:τ1→Option (LO τ1 β1)} {step2:τ2→Option (LO τ2 β2)} (l:List α) (mk1:Int→σ1→τ1) (mk2:Int→σ2→τ2) (I:List α→σ1→σ2→Prop) (Q:β1→β2→Prop) (hlen:l.length≤900000000)
  (hin:∀ (a:List α) (x:α) (b:List α) (s1:σ1) (s2:σ2),l=a++x::b→I a s1 s2 →
   (∃ r1 r2,step1 (mk1 (a.length:Int) s1)=some (.done r1)∧step2 (mk2 (a.length:Int) s2)=some (.done r2)∧Q r1 r2) ∨
   ∃ s1' s2',step1 (mk1 (a.length:Int) s1)=some (.next (mk1 (Qo ((a.length:Int)+1)) s1'))∧step2 (mk2 (a.length:Int) s2)=some (.next (mk2 (Qo ((a.length:Int)+1)) s2'))∧I (a++[x]) s1' s2')
  (hout:∀ s1 s2,I l s1 s2→∃ r1 r2,step1 (mk1 (l.length:Int) s1)=some (.done r1)∧step2 (mk2 (l.length:Int) s2)=some (.done r2)∧Q r1 r2) (s1:σ1) (s2:σ2) (h0:I [] s1 s2) :
  ∃ r1 r2,Qa step1 Qd (mk1 0 s1)=some r1∧Qa step2 Qd (mk2 0 s2)=some r2∧Q r1 r2:=by
 have key:∀ (b a:List α) (s1:σ1) (s2:σ2) (n:Nat),l=a++b→b.length < n→I a s1 s2→∃ r1 r2,Qa step1 n (mk1 (a.length:Int) s1)=some r1∧Qa step2 n (mk2 (a.length:Int) s2)=some r2∧Q r1 r2:=by
  intro b
  induction b with
  | nil =>
   intro a s1 s2 n hl hn hI
   rw [CH] at hl
   subst hl
   obtain ⟨r1,r2,h1,h2,h3⟩:=hout s1 s2 hI
   cases n with
   | zero=>omega
   | succ n=>exact ⟨r1,r2,by simp only [Qa,h1],by simp only [Qa,h2],h3⟩
  | cons x b ih =>
   intro a s1 s2 n hl hn hI
   cases n with
   | zero=>omega
   | succ n =>
    rcases hin a x b s1 s2 hl hI with ⟨r1,r2,h1,h2,h3⟩ | ⟨s1',s2',h1,h2,h3⟩
    ·exact ⟨r1,r2,by simp only [Qa,h1],by simp only [Qa,h2],h3⟩
    ·have hal:a.length≤900000000:=by rw [hl,C9] at hlen;omega
     rw [Gj (by omega)] at h1 h2
     obtain ⟨r1,r2,h4,h5,h6⟩:=ih (a++[x]) s1' s2' n (by rw [hl,Cy];rfl) (by simp only [C2] at hn;omega) h3
     rw [C9] at h4 h5
     exact ⟨r1,r2,by simp only [Qa,h1];exact h4,by simp only [Qa,h2];exact h5,h6⟩
 exact key l [] s1 s2 Qd rfl (by unfold Qd;omega) h0
theorem Up {α β1 β2:Type} {step1:Int→Option (LO Int β1)} {step2:Int→Option (LO Int β2)} (l:List α) (z1:β1) (z2:β2) (g1:Int→β1) (Qq8:Int→β2) (hlen:l.length≤900000000)
  (hin:∀ (a:List α) (x:α) (b:List α),l=a++x::b→∃ e:Int,(e=0→step1 (a.length:Int)=some (.next (Qo ((a.length:Int)+1)))∧step2 (a.length:Int)=some (.next (Qo ((a.length:Int)+1))))∧(e ≠ 0→step1 (a.length:Int)=some (.done (g1 e))∧step2 (a.length:Int)=some (.done (Qq8 e))))
  (hout1:step1 (l.length:Int)=some (.done z1)) (hout2:step2 (l.length:Int)=some (.done z2)) :
  ∃ e:Int,(e=0→Qa step1 Qd 0=some z1∧Qa step2 Qd 0=some z2)∧(e ≠ 0→Qa step1 Qd 0=some (g1 e)∧Qa step2 Qd 0=some (Qq8 e)):=by
 obtain ⟨r1,r2,h1,h2,e,h3,h4⟩:=Qln (step1:=step1) (step2:=step2) l (fun i (_:Unit)=>i) (fun i (_:Unit)=>i) (fun _ _ _=>True) (fun r1 r2=>∃ e:Int,(e=0→r1=z1∧r2=z2)∧(e ≠ 0→r1=g1 e∧r2=Qq8 e)) hlen
  (fun a x b _ _ hl _=>by
   obtain ⟨e,h1,h2⟩:=hin a x b hl
   by_cases he:e=0
   ·exact .inr ⟨(),(),(h1 he).1,(h1 he).2,trivial⟩
   ·exact .inl ⟨_,_,(h2 he).1,(h2 he).2,e,fun h=>(he h).elim,fun _=>⟨rfl,rfl⟩⟩)
  (fun _ _ _=>⟨z1,z2,hout1,hout2,0,fun _=>⟨rfl,rfl⟩,fun h=>(h rfl).elim⟩) () () trivial
 refine ⟨e,fun he=>?_,fun he=>?_⟩
 ·rw [h1,h2,(h3 he).1,(h3 he).2];exact ⟨rfl,rfl⟩
 ·rw [h1,h2,(h4 he).1,(h4 he).2];exact ⟨rfl,rfl⟩
theorem Xn {α:Type} {l a b:List α} {x:α} (e:l=a++x::b):decide ((a.length:Int) < (l.length:Int))=true∧J0 l (a.length:Int)=some x:=by
 rw [e];exact ⟨Gm a x b,Zh a x b⟩
def Qg7 (ix nm ln A N L K:Bool):Option Bool :=
 Option.bind (cond ix (cond nm (cond ln (some K) (cond L (some K) (some false))) (cond N (cond ln (some K) (cond L (some K) (some false))) (some false)))
  (cond A (cond nm (cond ln (some K) (cond L (some K) (some false))) (cond N (cond ln (some K) (cond L (some K) (some false))) (some false))) (some false))) (fun b=>some b)
theorem Qbi (ix nm ln A N L K:Bool):Qg7 ix nm ln A N L K=some ((ix||A)&&(nm||N)&&(ln||L)&&K):=by
 cases ix <;> cases nm <;> cases ln <;> cases A <;> cases N <;> cases L <;> cases K <;> rfl
def Qlq (k0 k12 Qpz k2 A N L0 L1 K:Bool):Option Bool :=
 cond (!K) (some false) (Option.bind (cond (!A) (cond (!k0) (some (!k12)) (some false)) (some false)) (fun v3=>cond v3 (some false) (Option.bind (cond (!N) (some (!Qpz)) (some false)) (fun b0_=>cond b0_ (some false) (cond k2 (some L1) (Option.bind (cond L0 (some true) (some Qpz)) (fun b1_=>some b1_)))))))
theorem formV_eq (k0 k12 Qpz k2 A N L0 L1 K:Bool):Qlq k0 k12 Qpz k2 A N L0 L1 K=some (((k0||k12)||A)&&(Qpz||N)&&(cond k2 L1 (L0||Qpz))&&K):=by
 cases k0 <;> cases k12 <;> cases Qpz <;> cases k2 <;> cases A <;> cases N <;> cases L0 <;> cases L1 <;> cases K <;> rfl
theorem Qg6 (t:Tm):∃ b,WS t=some b∧Qh4 t=some b∧(b=true→0≤t.kind∧t.kind < 13∧(t.kind ≠ 3→(t.levels.length:Int)≤1)):=by
 by_cases h1:t.kind < 0
 ·exact ⟨false,by unfold WS;rw [C5 h1];rfl,by unfold Qh4;rw [C5 h1];rfl,fun h=>by cases h⟩
 by_cases h2:13≤t.kind
 ·exact ⟨false,by unfold WS;rw [C6 h1,C5 h2];rfl,by unfold Qh4;rw [C6 h1,C5 h2];rfl,fun h=>by cases h⟩
 have hk:t.kind=0∨t.kind=1∨t.kind=2∨t.kind=3∨t.kind=4∨t.kind=5∨t.kind=6∨t.kind=7∨t.kind=8∨t.kind=9∨t.kind=10∨t.kind=11∨t.kind=12:=by omega
 have fin:∀ (ix nm ln:Bool) (lv kd:Int) (k0 k12 Qpz k2:Bool),WS t=Qg7 ix nm ln (t.index==0) (t.name==[]) ((t.levels.length:Int)==lv) ((t.kids.length:Int)==kd) →
   Qh4 t=Qlq k0 k12 Qpz k2 (t.index==0) (t.name==[]) ((t.levels.length:Int)==0) ((t.levels.length:Int)==1) ((t.kids.length:Int)==kd) →
   ix=(k0||k12)→nm=Qpz→(ln||(t.levels.length:Int)==lv)=(cond k2 ((t.levels.length:Int)==1) ((t.levels.length:Int)==0||Qpz))→(Qpz=false→ln=false∧lv≤1)→(t.kind ≠ 3→Qpz=false) →
   ∃ b,WS t=some b∧Qh4 t=some b∧(b=true→0≤t.kind∧t.kind < 13∧(t.kind ≠ 3→(t.levels.length:Int)≤1)):=by
  intro ix nm ln lv kd k0 k12 Qpz k2 e1 e2 e3 e4 e5 e6 e7
  rw [Qbi] at e1
  rw [formV_eq,← e5,← e3,← e4] at e2
  refine ⟨_,e1,e2,fun h=>⟨by omega,by omega,fun h3=>?_⟩⟩
  obtain ⟨h4,h5⟩:=e6 (e7 h3)
  rw [h4,Bool.false_or,CD,CD] at h
  have h6:=eq_of_beq h.1.2
  omega
 obtain ⟨k,i,n,ls,ks⟩:=t
 dsimp only [Tm.kind,Tm.index,Tm.name,Tm.levels,Tm.kids] at *
 rcases hk with hk | hk | hk | hk | hk | hk | hk | hk | hk | hk | hk | hk | hk <;> subst hk
 ·exact fin true false false 0 0 true false false false rfl rfl rfl rfl (by cases ((ls.length:Int)==0) <;> rfl) (fun _=>⟨rfl,by omega⟩) (fun _=>rfl)
 ·exact fin false false false 0 0 false false false false rfl rfl rfl rfl (by cases ((ls.length:Int)==0) <;> rfl) (fun _=>⟨rfl,by omega⟩) (fun _=>rfl)
 ·exact fin false false false 1 0 false false false true rfl rfl rfl rfl rfl (fun _=>⟨rfl,by omega⟩) (fun _=>rfl)
 ·exact fin false true true (-1) 0 false false true false rfl rfl rfl rfl (by cases ((ls.length:Int)==0) <;> rfl) (fun h=>by cases h) (fun h=>(h rfl).elim)
 ·exact fin false false false 0 2 false false false false rfl rfl rfl rfl (by cases ((ls.length:Int)==0) <;> rfl) (fun _=>⟨rfl,by omega⟩) (fun _=>rfl)
 ·exact fin false false false 0 2 false false false false rfl rfl rfl rfl (by cases ((ls.length:Int)==0) <;> rfl) (fun _=>⟨rfl,by omega⟩) (fun _=>rfl)
 ·exact fin false false false 0 2 false false false false rfl rfl rfl rfl (by cases ((ls.length:Int)==0) <;> rfl) (fun _=>⟨rfl,by omega⟩) (fun _=>rfl)
 ·exact fin false false false 0 2 false false false false rfl rfl rfl rfl (by cases ((ls.length:Int)==0) <;> rfl) (fun _=>⟨rfl,by omega⟩) (fun _=>rfl)
 ·exact fin false false false 0 3 false false false false rfl rfl rfl rfl (by cases ((ls.length:Int)==0) <;> rfl) (fun _=>⟨rfl,by omega⟩) (fun _=>rfl)
 ·exact fin false false false 0 1 false false false false rfl rfl rfl rfl (by cases ((ls.length:Int)==0) <;> rfl) (fun _=>⟨rfl,by omega⟩) (fun _=>rfl)
 ·exact fin false false false 0 1 false false false false rfl rfl rfl rfl (by cases ((ls.length:Int)==0) <;> rfl) (fun _=>⟨rfl,by omega⟩) (fun _=>rfl)
 ·exact fin false false false 0 3 false false false false rfl rfl rfl rfl (by cases ((ls.length:Int)==0) <;> rfl) (fun _=>⟨rfl,by omega⟩) (fun _=>rfl)
 ·exact fin true false false 0 0 false true false false rfl rfl rfl rfl (by cases ((ls.length:Int)==0) <;> rfl) (fun _=>⟨rfl,by omega⟩) (fun _=>rfl)
def Yo (V P:Int):Scp:=⟨max V 0,max P 0,1000000,1000000⟩
theorem Qfl (V P:Int) (x:Lvl) (h:x.vs.length≤900000000):∃ e,Q03 (Yo V P) x=some e∧Qj0 x P 1000000=some e:=by
 obtain ⟨b,h1,h2,-⟩:=lv_same x h
 unfold Q03 Qj0
 rw [h1,h2]
 cases b with
 | false=>exact ⟨3,rfl,rfl⟩
 | true =>
  show ∃ e,Option.bind (Qa (Xe x (Yo V P)) Qd 0) _=_∧Option.bind (Qa (De x P) Qd 0) _=_
  obtain ⟨e,h3,h4⟩:=Up (β1:=Unit⊕Int) (β2:=Unit⊕Int) (step1:=Xe x (Yo V P)) (step2:=De x P) x.vs (.inl ()) (.inl ()) .inr .inr h (fun a y b e=>by
   obtain ⟨q1,q2⟩:=Xn e
   unfold Xe De
   rw [q1,q2]
   show ∃ e:Int,(_→cond (decide (max P 0≤y.1)) _ _=_∧Option.bind (cond (decide (0≤y.1)) (some (decide (P≤y.1))) (some false)) _=_)∧(_→cond (decide (max P 0≤y.1)) _ _=_∧Option.bind (cond (decide (0≤y.1)) (some (decide (P≤y.1))) (some false)) _=_)
   by_cases c:max P 0≤y.1
   ·rw [C5 c,C5 (show 0≤y.1 by omega),C5 (show P≤y.1 by omega)]
    exact ⟨15,fun h=>by omega,fun _=>⟨rfl,rfl⟩⟩
   ·rw [C6 c]
    refine ⟨0,fun _=>⟨Z,?_⟩,fun h=>(h Z).elim⟩
    by_cases c2:0≤y.1
    ·rw [C5 c2,C6 (show ¬ P≤y.1 by omega)];rfl
    ·rw [C6 c2];rfl)
   (by unfold Xe;rw [JA];rfl) (by unfold De;rw [JA];rfl)
  by_cases he:e=0
  ·obtain ⟨e1,e2⟩:=h3 he
   rw [e1,e2]
   show ∃ e,Option.bind (Qa (Xd x (Yo V P)) Qd 0) _=_∧Option.bind (Qa (Dc x 1000000) Qd 0) _=_
   obtain ⟨e',h5,h6⟩:=Up (β1:=Unit⊕Int) (β2:=Unit⊕Int) (step1:=Xd x (Yo V P)) (step2:=Dc x 1000000) x.vs (.inl ()) (.inl ()) .inr .inr h (fun a y b e=>by
    obtain ⟨q1,q2⟩:=Xn e
    unfold Xd Dc
    rw [q1,q2]
    show ∃ e:Int,(_→Option.bind (cond (decide (y.1 < 0)) (some (decide (1000000≤(Qo ((-1) - y.1))))) (some false)) _=_∧Option.bind (cond (decide (y.1 < 0)) (some (decide (1000000≤(Qo ((-1) - y.1))))) (some false)) _=_)∧(_→Option.bind (cond (decide (y.1 < 0)) (some (decide (1000000≤(Qo ((-1) - y.1))))) (some false)) _=_∧Option.bind (cond (decide (y.1 < 0)) (some (decide (1000000≤(Qo ((-1) - y.1))))) (some false)) _=_)
    cases decide (y.1 < 0) with
    | false=>exact ⟨0,fun _=>⟨rfl,rfl⟩,fun h=>(h rfl).elim⟩
    | true =>
     cases decide (1000000≤(Qo ((-1) - y.1))) with
     | false=>exact ⟨0,fun _=>⟨rfl,rfl⟩,fun h=>(h rfl).elim⟩
     | true=>exact ⟨23,fun h=>by omega,fun _=>⟨rfl,rfl⟩⟩)
    (by unfold Xd;rw [JA];rfl) (by unfold Dc;rw [JA];rfl)
   by_cases he':e'=0
   ·obtain ⟨e1,e2⟩:=h5 he'
    rw [e1,e2];exact ⟨0,rfl,rfl⟩
   ·obtain ⟨e1,e2⟩:=h6 he'
    rw [e1,e2];exact ⟨e',rfl,rfl⟩
  ·obtain ⟨e1,e2⟩:=h4 he
   rw [e1,e2];exact ⟨e,rfl,rfl⟩
theorem Xh (t:Tm):(t.levels.map Q3o).sum < t.size:=by rw [t.size_eq];omega
theorem Q8v (l:Lvl):l.vs.length < Q3o l:=by
 have:=Dh (fun _:Qr1=>1) (fun _=>Ck 1) l.vs
 unfold Q3o;omega
theorem Qc3 {e:Int} (h:e ≠ 0):(e != 0)=true:=SH.2 h
theorem Qdw {α:Type} {e:Int} (he:e ≠ 0) (x:Int→Option α) (y:Option α):Option.bind (some e) (fun v=>cond (v != 0) (x v) y)=x e:=by
 rw [C1,Qc3 he];rfl
def Q6u (rc:Tm×Int×Int×Int×Int×Int→Option Int) (t:Tm) (dep V P:Int):Option Int:=Option.bind (Qa (KJ t rc dep V P 1000000 1000000) Qd 0) (Sum.elim (fun (b1_:Unit)=>some 0) (fun o=>some o))
theorem node_tail (t:Tm) (dep V P:Int) (h:t.size≤900000000):∃ e,Option.bind (Qa (Yp t (Yo V P)) Qd 0) (Sum.elim (fun (o7:Unit)=>ZA t (Yo V P) dep) (fun o=>some o))=some e ∧
  ∀ rc,(Option.bind (Qa (Um t P 1000000) Qd 0) (Sum.elim (fun (b0_:Unit)=>Option.bind (cond (t.kind==0) (cond (decide (t.index < 0)) (some true) (some (decide (max V 0≤(Qo (t.index - dep)))))) (some false)) (fun (b1_:Bool)=>Un b1_ t 1000000 rc dep (max V 0) P 1000000)) (fun o=>some o)))=if e=0 then Q6u rc t dep (max V 0) P else some e:=by
 have hl:=Xh t
 have hl2:=Dh Q3o (fun l=>by unfold Q3o;omega) t.levels
 obtain ⟨e,h3,h4⟩:=Up (β1:=Unit⊕Int) (β2:=Unit⊕Int) (step1:=Yp t (Yo V P)) (step2:=Um t P 1000000) t.levels (.inl ()) (.inl ()) .inr .inr (by omega) (fun a y b e=>by
  obtain ⟨q1,q2⟩:=Xn e
  have hy:y.vs.length≤900000000:=by
   have:=Q8v y
   have:=UR Q3o (show y∈t.levels from by rw [e];simp)
   omega
  obtain ⟨e,h1,h2⟩:=Qfl V P y hy
  unfold Yp Um
  rw [q1,q2]
  show ∃ e:Int,(_→Option.bind (Q03 (Yo V P) y) _=_∧Option.bind (Qj0 y P 1000000) _=_)∧(_→Option.bind (Q03 (Yo V P) y) _=_∧Option.bind (Qj0 y P 1000000) _=_)
  rw [h1,h2]
  refine ⟨e,fun he=>?_,fun he=>?_⟩
  ·subst he;exact ⟨rfl,rfl⟩
  ·exact ⟨Qdw he _ _,Qdw he _ _⟩)
  (by unfold Yp;rw [JA];rfl) (by unfold Um;rw [JA];rfl)
 by_cases he:e=0
 ·obtain ⟨e1,e2⟩:=h3 he
  rw [e1,e2]
  show ∃ e,ZA t (Yo V P) dep=some e∧∀ rc,Option.bind (cond (t.kind==0) (cond (decide (t.index < 0)) (some true) (some (decide (max V 0≤(Qo (t.index - dep)))))) (some false)) (fun (b1_:Bool)=>Un b1_ t 1000000 rc dep (max V 0) P 1000000)=if e=0 then Q6u rc t dep (max V 0) P else some e
  unfold ZA
  show ∃ e,Option.bind (cond (t.kind==0) (cond (decide (t.index < 0)) (some true) (some (decide (max V 0≤(Qo (t.index - dep)))))) (some false)) _=some e∧_
  obtain ⟨v,hv⟩:∃ v,cond (t.kind==0) (cond (decide (t.index < 0)) (some true) (some (decide (max V 0≤(Qo (t.index - dep)))))) (some false)=some v:=by
   cases (t.kind==0) <;> cases decide (t.index < 0) <;> exact ⟨_,rfl⟩
  rw [hv]
  ·cases v with
   | true=>exact ⟨24,rfl,fun rc=>rfl⟩
   | false =>
    show ∃ e,Option.bind (cond (t.kind==12) (cond (decide (t.index < 0)) (some true) (some (decide ((1000000:Int)≤t.index)))) (some false)) _=some e∧∀ rc,Un false t 1000000 rc dep (max V 0) P 1000000=_
    unfold Un
    simp only [Cd]
    cases t.kind==12 with
    | false=>exact ⟨0,rfl,fun rc=>rfl⟩
    | true =>
     cases decide (t.index < 0) with
     | true=>exact ⟨23,rfl,fun rc=>rfl⟩
     | false =>
      cases decide ((1000000:Int)≤t.index) with
      | true=>exact ⟨23,rfl,fun rc=>rfl⟩
      | false=>exact ⟨0,rfl,fun rc=>rfl⟩
 ·obtain ⟨e1,e2⟩:=h4 he
  rw [e1,e2]
  exact ⟨e,rfl,fun rc=>by rw [C8 he];rfl⟩
theorem Qf4 (t:Tm) (dep V P:Int) (h:t.size≤900000000):∃ e,Qhc (Yo V P) t dep=some e∧(∀ rc,Qiq rc t dep (max V 0) P 1000000 1000000=if e=0 then Q6u rc t dep (max V 0) P else some e)∧(e=0→0≤t.kind∧t.kind < 13):=by
 obtain ⟨b,h1,h2,h3⟩:=Qg6 t
 unfold Qhc Qiq
 rw [h1,h2]
 cases b with
 | false=>exact ⟨3,rfl,fun rc=>rfl,fun h=>by omega⟩
 | true =>
  obtain ⟨k1,k2,Qpz⟩:=h3 rfl
  obtain ⟨e,h4,h5⟩:=node_tail t dep V P h
  have hn:t.name.length≤900000000:=by have:=t.size_eq;omega
  show ∃ e,cond (t.kind==3) (Option.bind (Q04 t.name) _) _=some e∧(∀ rc,Option.bind (cond (t.kind==3) (Option.bind (Qoj t.name) _) _) _=_)∧_
  rw [Q8s _ hn,m98_eq _ hn,ZJ]
  by_cases hk:t.kind=3
  ·rw [C5 hk]
   cases YW t.name with
   | false=>exact ⟨29,rfl,fun rc=>rfl,fun h=>by omega⟩
   | true =>
    show ∃ e,cond (decide (8 < (t.levels.length:Int))) (some 6) (Option.bind (Qa (Yp t (Yo V P)) Qd 0) (Sum.elim (fun (o7:Unit)=>ZA t (Yo V P) dep) (fun o=>some o)))=some e∧(∀ rc,cond (decide (8 < (t.levels.length:Int))) (some 6) (Option.bind (Qa (Um t P 1000000) Qd 0) (Sum.elim (fun (b0_:Unit)=>Option.bind (cond (t.kind==0) (cond (decide (t.index < 0)) (some true) (some (decide (max V 0≤(Qo (t.index - dep)))))) (some false)) (fun (b1_:Bool)=>Un b1_ t 1000000 rc dep (max V 0) P 1000000)) (fun o=>some o)))=_)∧_
    cases decide (8 < (t.levels.length:Int)) with
    | true=>exact ⟨6,rfl,fun rc=>rfl,fun h=>by omega⟩
    | false=>exact ⟨e,h4,h5,fun _=>⟨k1,k2⟩⟩
  ·rw [C6 hk]
   show ∃ e,Option.bind (Qa (Yp t (Yo V P)) Qd 0) (Sum.elim (fun (o7:Unit)=>ZA t (Yo V P) dep) (fun o=>some o))=some e∧(∀ rc,cond (decide (8 < (t.levels.length:Int))) (some 6) (Option.bind (Qa (Um t P 1000000) Qd 0) (Sum.elim (fun (b0_:Unit)=>Option.bind (cond (t.kind==0) (cond (decide (t.index < 0)) (some true) (some (decide (max V 0≤(Qo (t.index - dep)))))) (some false)) (fun (b1_:Bool)=>Un b1_ t 1000000 rc dep (max V 0) P 1000000)) (fun o=>some o)))=_)∧_
   rw [C6 (show ¬ 8 < (t.levels.length:Int) by have:=Qpz hk;omega)]
   exact ⟨e,h4,h5,fun _=>⟨k1,k2⟩⟩
end
noncomputable section
open Go.RowKit Go.Shelf
def Tm.num:Tm→Nat
 | .mk _ _ _ _ ks=>1+(ks.attach.map fun k=>Tm.num k.1).sum
termination_by t=>SizeOf.sizeOf t
decreasing_by
 have:=Pe k.2
 simp only [Tm.mk.sizeOf_spec];omega
theorem Tm.num_eq (t:Tm):t.num=1+(t.kids.map Tm.num).sum:=by
 cases t
 rw [Tm.num,Sq];rfl
theorem Q7z {α:Type} (f g:α→Nat):∀ l:List α,(∀ x∈l,f x≤g x)→(l.map f).sum≤(l.map g).sum
 | [],_=>Ck _
 | x::l,h=>by
  rw [CF,Pj,CF,Pj]
  have h1:=h x (Ch ..)
  have h2:=Q7z f g l fun y hy=>h y (Ci _ hy)
  omega
theorem Tm.num_le (t:Tm):t.num≤t.size:=by
 induction t using Qkg with
 | h t ih =>
  rw [t.num_eq,t.size_eq]
  have:=Q7z Tm.num Tm.size t.kids ih
  omega
theorem Q8e {t:Tm} {a b:List Tm} {x:Tm} (e:t.kids=a++x::b):(a.map Tm.num).sum+x.size < t.size∧(a.map Tm.num).sum+x.num < t.num:=by
 have h1:=t.size_eq
 have h2:=t.num_eq
 rw [e,sum_split] at h1 h2
 have h3:=Q7z Tm.num Tm.size a fun x _=>x.num_le
 constructor <;> omega
theorem Qaz:∀ (n:Nat) (t:Tm),t.size≤n→t.size≤900000000→Jz Qip n t=some (t.num:Int)
 | 0,t,h,_=>by rw [t.size_eq] at h;omega
 | n+1,t,h,h2=>by
  show Qmd (Jz Qip n) t=_
  unfold Qmd
  have hl:=W7 t
  have hn:=t.num_le
  obtain ⟨r,e1,e2⟩:=Ys (step:=Q3k t (Jz Qip n)) t.kids (fun i (s:Nat)=>((s:Int),i)) (fun a s=>s=1+(a.map Tm.num).sum) (fun r=>r=(t.num:Int)) (by omega)
   (fun a x b s e hI=>by
    have hx:=Y1 (t:=t) (k:=x) (by rw [e];simp)
    have hr:=Qaz n x (by omega) (by omega)
    have h3:=Q8e e
    obtain ⟨q1,q2⟩:=Xn e
    refine .inr ⟨s+x.num,?_,?_⟩
    ·unfold Q3k
     dsimp only
     rw [q1,q2]
     simp only [C7,C1]
     rw [hr]
     simp only [C1]
     rw [Y2 (n:=(s:Int)+(x.num:Int)) (by omega) (by omega)]
     rfl
    ·rw [hI,Cr,List.sum_append];simp;omega)
   (fun s hI=>⟨(s:Int),by unfold Q3k;dsimp only;rw [JA];rfl,by rw [hI,t.num_eq]⟩) 1 rfl
  have e3:Qa (Q3k t (Jz Qip n)) Qd (1,0)=some r:=e1
  rw [e3,e2];rfl
theorem m60_eq:Qok=m67:=rfl
theorem Qgr (k:Int) (h0:0≤k) (h1:k < 13):∃ v,J0 ([(-1),(-1),(-1),(-1),(-1),1,1,1,(-1),(-1),(-1),2,(-1)]:List Int) k=some v∧∀ j:Nat,Q8r k (j:Int)=some (if (j:Int)=v then 1 else 0):=by
 have hk:k=0∨k=1∨k=2∨k=3∨k=4∨k=5∨k=6∨k=7∨k=8∨k=9∨k=10∨k=11∨k=12:=by omega
 have no:∀ (c:Bool→Option Int) (j:Nat),Q8r k (j:Int)=some 0→Q8r k (j:Int)=some (if (j:Int) = -1 then 1 else 0):=fun _ j h=>by rw [h,C8 (by omega)]
 rcases hk with hk | hk | hk | hk | hk | hk | hk | hk | hk | hk | hk | hk | hk <;> subst hk
 case inr.inr.inr.inr.inr.inl=>exact ⟨1,rfl,fun j=>by
  unfold Q8r;rw [ZJ (j:Int) 1,ZJ (j:Int) 2]
  by_cases h:(j:Int)=1
  ·rw [C5 h,Cc h];rfl
  ·rw [C6 h,C8 h]
   cases decide ((j:Int)=2) <;> rfl⟩
 case inr.inr.inr.inr.inr.inr.inl=>exact ⟨1,rfl,fun j=>by
  unfold Q8r;rw [ZJ (j:Int) 1,ZJ (j:Int) 2]
  by_cases h:(j:Int)=1
  ·rw [C5 h,Cc h];rfl
  ·rw [C6 h,C8 h]
   cases decide ((j:Int)=2) <;> rfl⟩
 case inr.inr.inr.inr.inr.inr.inr.inl=>exact ⟨1,rfl,fun j=>by
  unfold Q8r;rw [ZJ (j:Int) 1,ZJ (j:Int) 2]
  by_cases h:(j:Int)=1
  ·rw [C5 h,Cc h];rfl
  ·rw [C6 h,C8 h]
   cases decide ((j:Int)=2) <;> rfl⟩
 case inr.inr.inr.inr.inr.inr.inr.inr.inr.inr.inr.inl=>exact ⟨2,rfl,fun j=>by
  unfold Q8r;rw [ZJ (j:Int) 1,ZJ (j:Int) 2]
  by_cases h:(j:Int)=2
  ·rw [C5 h,Cc h,C6 (show ¬ (j:Int)=1 by omega)];rfl
  ·rw [C6 h,C8 h]
   cases decide ((j:Int)=1) <;> rfl⟩
 all_goals exact ⟨-1,rfl,fun j=>no (fun _=>none) j (by
  unfold Q8r;rw [ZJ (j:Int) 1,ZJ (j:Int) 2]
  cases decide ((j:Int)=1) <;> cases decide ((j:Int)=2) <;> rfl)⟩
theorem Q22 (V P:Int) (root:Tm):∀ (n:Nat) (t:Tm) (dep cnt:Nat),t.size≤n→dep+t.size≤900000000→cnt+t.size≤900000000 →
  ∃ e:Int,Jz Q3l n (t,(dep:Int),max V 0,P,1000000,1000000)=some e∧(e=0→Jz Ym n (t,(dep:Int),root,0,Yo V P,(cnt:Int),root)=some (.inr (true,((cnt+t.num:Nat):Int)))) ∧
   (e ≠ 0→∃ c,Jz Ym n (t,(dep:Int),root,0,Yo V P,(cnt:Int),root)=some (.inl (e,c)))
 | 0,t,_,_,h,_,_=>by rw [t.size_eq] at h;omega
 | n+1,t,dep,cnt,h,hd,hc=>by
  show ∃ e:Int,Qiq (Jz Q3l n) t (dep:Int) (max V 0) P 1000000 1000000=some e∧(e=0→Gb (Jz Ym n) t (dep:Int) root 0 (Yo V P) (cnt:Int) root=_)∧(e ≠ 0→∃ c,Gb (Jz Ym n) t (dep:Int) root 0 (Yo V P) (cnt:Int) root=some (.inl (e,c)))
  obtain ⟨e,h1,h2,h3⟩:=Qf4 t (dep:Int) V P (by omega)
  have hl:=W7 t
  have hnum:=t.num_le
  rw [h2]
  unfold Gb
  rw [h1]
  by_cases he:e=0
  ·subst he
   obtain ⟨k0,k1⟩:=h3 rfl
   obtain ⟨v,hv,hj⟩:=Qgr t.kind k0 k1
   rw [Cc rfl]
   rw [C5 k0,C5 k1]
   show ∃ e:Int,Q6u (Jz Q3l n) t (dep:Int) (max V 0) P=some e∧(e=0→ZE true t (dep:Int) (Jz Ym n) root 0 (Yo V P) root (cnt:Int)=_)∧(e ≠ 0→∃ c,ZE true t (dep:Int) (Jz Ym n) root 0 (Yo V P) root (cnt:Int)=some (.inl (e,c)))
   have hg:Q7 (cond (decide (0≤t.kind)) (Nat.blt t.kind.toNat 13) false) (some v)=some v:=by
    rw [C5 k0,C7,show Nat.blt t.kind.toNat 13=true from Cb (by omega)];rfl
   unfold ZE Q6u
   rw [hv]
   simp only [C7,C1]
   rw [hg,C1,Gj (by omega)]
   obtain ⟨r1,r2,e1,e2,e3⟩:=Qln (β1:=Unit⊕Int) (β2:=Int⊕((Int×Int)⊕(Bool×Int))) (step1:=KJ t (Jz Q3l n) (dep:Int) (max V 0) P 1000000 1000000) (step2:=Yc t v (dep:Int) (Jz Ym n) root 0 (Yo V P) root) t.kids (fun i (_:Unit)=>i) (fun i (c:Nat)=>(i,(c:Int)))
    (fun a _ c=>c=cnt+1+(a.map Tm.num).sum) (fun r1 r2=>(r1=.inl ()∧r2=.inl ((cnt+t.num:Nat):Int))∨∃ e c,e ≠ 0∧r1=.inr e∧r2=.inr (.inl (e,c))) (by omega)
    (fun a x b _ c e hI=>by
     obtain ⟨q1,q2⟩:=Xn e
     have hx:=Q8e e
     have hxs:=Y1 (t:=t) (k:=x) (by rw [e];simp)
     unfold KJ Yc
     dsimp only
     rw [q1,q2]
     simp only [C7,C1]
     rw [hj a.length,ZJ]
     obtain ⟨d',hd1,hd2,hd3⟩:∃ d':Nat,Qo ((dep:Int)+(if (a.length:Int)=v then 1 else 0))=(d':Int)∧(cond (decide ((a.length:Int)=v)) (some (Qo ((dep:Int)+1))) (some (dep:Int)))=some (d':Int)∧d'≤dep+1:=by
      by_cases hh:(a.length:Int)=v
      ·rw [Cc hh,C5 hh,Gj (by omega)];exact ⟨dep+1,rfl,rfl,Ck _⟩
      ·rw [C8 hh,C6 hh,Y2 (by omega) (by omega)];exact ⟨dep,by omega,rfl,by omega⟩
     rw [hd2]
     simp only [C1]
     rw [hd1]
     obtain ⟨e',w1,w2,w3⟩:=Q22 V P root n x d' c (by omega) (by omega) (by omega)
     unfold GE
     rw [w1]
     simp only [C1]
     by_cases he':e'=0
     ·rw [w2 he']
      subst he'
      refine .inr ⟨(),c+x.num,Z,Z,?_⟩
      rw [hI,Cr,List.sum_append];simp;omega
     ·obtain ⟨c',w4⟩:=w3 he'
      rw [w4,Qc3 he']
      exact .inl ⟨_,_,Z,Z,.inr ⟨e',c',he',Z,Z⟩⟩)
    (fun _ c hI=>⟨_,_,by unfold KJ;rw [JA];rfl,by unfold Yc;dsimp only;rw [JA];rfl,.inl ⟨rfl,by rw [hI,t.num_eq];congr 2;omega⟩⟩) () (cnt+1) (by simp)
   have e1':Qa (KJ t (Jz Q3l n) (dep:Int) (max V 0) P 1000000 1000000) Qd 0=some r1:=e1
   have e2':Qa (Yc t v (dep:Int) (Jz Ym n) root 0 (Yo V P) root) Qd (0,((cnt+1:Nat):Int))=some r2:=e2
   rw [e1',e2']
   rcases e3 with ⟨rfl,rfl⟩ | ⟨e',c',he',rfl,rfl⟩
   ·exact ⟨0,rfl,fun _=>rfl,fun h=>(h rfl).elim⟩
   ·exact ⟨e',rfl,fun h=>(he' h).elim,fun _=>⟨c',rfl⟩⟩
  ·rw [C8 he]
   refine ⟨e,Z,fun h=>(he h).elim,fun _=>⟨(cnt:Int),?_⟩⟩
   simp only [C1,Qc3 he,C7];rfl
theorem m27_eq (t:Tm) (V P:Int) (h:t.size≤900000000):∃ e,Qnq t V P 1000000 1000000=some e∧Qky t V P 1000000 1000000=some e:=by
 obtain ⟨e,h1,h2,h3⟩:=Q22 V P t Qd t 0 0 (by unfold Qd;omega) (by omega) (by omega)
 obtain ⟨d,h4⟩:=Q4m Qd t (by unfold Qd;omega) h
 have h5:Qp4 t=some (t.num:Int):=Qaz Qd t (by unfold Qd;omega) h
 have h6:m67 t=some d:=h4
 have h1':Qou t 0 (max V 0) P 1000000 1000000=some e:=h1
 have h7:∀ r,Jz Ym Qd (t,((0:Nat):Int),t,0,Yo V P,((0:Nat):Int),t)=some r→Q8u t 0 t 0 (⟨(max V 0),(max P 0),(max 1000000 0),(max 1000000 0)⟩:Scp) 0 t=some r:=fun r h=>h
 unfold Qnq Qky
 rw [h1',m60_eq,h5,h6]
 by_cases he:e=0
 ·have h8:=h7 _ (h2 he)
  rw [h8]
  subst he
  show ∃ e,cond (decide (4096 < (t.num:Int))) (some 5) (cond (decide (200 < d)) (some 7) (some 0))=some e∧cond (decide (4096 < ((0+t.num:Nat):Int))) (some 5) (cond (decide (200 < d)) (some 7) (some 0))=some e
  rw [P4]
  cases decide (4096 < (t.num:Int)) with
  | true=>exact ⟨5,rfl,rfl⟩
  | false=>cases decide (200 < d) <;> exact ⟨_,rfl,rfl⟩
 ·obtain ⟨c,h9⟩:=h3 he
  rw [h7 _ h9]
  simp only [C1,Qc3 he,C7]
  exact ⟨e,Z,Z⟩
end
noncomputable section
open Go.RowKit
set_option maxRecDepth 100000
def m119s (rc:Int→Option ((List UInt8))) (a0:Int):Option ((List UInt8)) :=
 cond ((decide (a0 < 10))) (some (List.map Byt.u8 ([(Byt.mk (IntKind.wrap .u8 (48+(IntKind.wrap .u8 a0))))]:List Byt))) (Option.bind (rc (Qo (Int.tdiv a0 10))) fun (x1:(List UInt8))=>Q7 (!(10==0)) (Q7 (Nat.ble (x1.length+(List.map Byt.u8 ([(Byt.mk (IntKind.wrap .u8 (48+(IntKind.wrap .u8 (Int.tmod a0 10)))))]:List Byt)).length) 1000000000) (some (x1++(List.map Byt.u8 ([(Byt.mk (IntKind.wrap .u8 (48+(IntKind.wrap .u8 (Int.tmod a0 10)))))]:List Byt))))))
def m119r:Int→Option ((List UInt8)):=Jz (fun rc v=>m119s rc v) Qd
def Qmf (a0:Int):Option ((List UInt8)):=m119r a0
def Qnv (a0:List UInt8) (a1:Int) (a2:Int):Option ((List UInt8)) :=
 Option.bind (Qmf a1) fun (x1:(List UInt8))=>Q7 (Nat.ble (a0.length+x1.length) 1000000000) (Option.bind (cond ((decide (0 < a2))) (Option.bind (Qmf a2) fun (x4:(List UInt8))=>Q7 (Nat.ble (([32,43,32]:List UInt8).length+x4.length) 1000000000) (Q7 (Nat.ble ((a0++x1).length+(([32,43,32]:List UInt8)++x4).length) 1000000000) (some ((a0++x1)++(([32,43,32]:List UInt8)++x4))))) (some (a0++x1))) fun (v3:(List UInt8))=>some v3)
def Qp2 (a0:Lvl):Option ((List UInt8)×Int) :=
 Option.bind (Qiz a0) fun (x1:Bool)=>cond ((!x1)) (some (([]:List UInt8),3)) (Option.bind (cond ((decide (0 < a0.c))) (some true) (some ((a0.vs.length:Int)==0))) fun (v2:Bool)=>Option.bind (cond v2 (Option.bind (Qmf a0.c) fun (x5:(List UInt8))=>Q7 (Nat.ble (([]:List ((List UInt8))).length+([x5]:List ((List UInt8))).length) 1000000000) (some (([]:List ((List UInt8)))++([x5]:List ((List UInt8)))))) (some ([]:List ((List UInt8))))) fun (v4:(List ((List UInt8))))=>Option.bind (Qa (σ:=(List ((List UInt8)))×Int) (β:=(List ((List UInt8)))) (fun s14=>cond ((decide (s14.2 < (a0.vs.length:Int)))) (Option.bind (J0 a0.vs s14.2) fun (x16:Qr1)=>cond ((decide (0≤x16.1))) (Option.bind (J0 a0.vs s14.2) fun (x17:Qr1)=>Option.bind (J0 a0.vs s14.2) fun (x18:Qr1)=>Option.bind (Qnv ([117]:List UInt8) x17.1 x18.2) fun (x19:(List UInt8))=>Q7 (Nat.ble (s14.1.length+([x19]:List ((List UInt8))).length) 1000000000) (some (.next ((s14.1++([x19]:List ((List UInt8)))),(Qo (s14.2+1)))))) (some (.next (s14.1,(Qo (s14.2+1)))))) (some (.done s14.1))) Qd (v4,0)) fun (v15:(List ((List UInt8))))=>Option.bind (Qa (σ:=(List ((List UInt8)))×Int) (β:=(List ((List UInt8)))) (fun s28=>cond ((decide (0≤s28.2))) (Option.bind (J0 a0.vs s28.2) fun (x30:Qr1)=>cond ((decide (x30.1 < 0))) (Option.bind (J0 a0.vs s28.2) fun (x31:Qr1)=>Option.bind (J0 a0.vs s28.2) fun (x32:Qr1)=>Option.bind (Qnv ([63]:List UInt8) (Qo ((-1) - x31.1)) x32.2) fun (x33:(List UInt8))=>Q7 (Nat.ble (s28.1.length+([x33]:List ((List UInt8))).length) 1000000000) (some (.next ((s28.1++([x33]:List ((List UInt8)))),(Qo (s28.2 - 1)))))) (some (.next (s28.1,(Qo (s28.2 - 1)))))) (some (.done s28.1))) Qd (v15,(Qo ((a0.vs.length:Int) - 1)))) fun (v29:(List ((List UInt8))))=>cond (((v29.length:Int)==1)) (Option.bind (J0 v29 0) fun (x34:(List UInt8))=>some (x34,0)) (Option.bind (Qa (σ:=(List UInt8)×Int) (β:=(List UInt8)) (fun s39=>cond ((decide (s39.2 < (v29.length:Int)))) (Option.bind (cond ((decide (0 < s39.2))) (Q7 (Nat.ble (s39.1.length+([44,32]:List UInt8).length) 1000000000) (some (s39.1++([44,32]:List UInt8)))) (some s39.1)) fun (v41:(List UInt8))=>Option.bind (J0 v29 s39.2) fun (x42:(List UInt8))=>Q7 (Nat.ble (v41.length+x42.length) 1000000000) (some (.next ((v41++x42),(Qo (s39.2+1)))))) (some (.done s39.1))) Qd (([109,97,120,40]:List UInt8),0)) fun (v40:(List UInt8))=>Q7 (Nat.ble (v40.length+([41]:List UInt8).length) 1000000000) (some ((v40++([41]:List UInt8)),0))))
def m68s (rc:Int→Option ((List UInt8))) (a0:Int):Option ((List UInt8)) :=
 cond ((decide (a0 < 10))) (Q7 (cond (decide (0≤a0)) (cond (Nat.ble a0.toNat (Qo (a0+1)).toNat) (Q1z (Qo (a0+1)) ([48,49,50,51,52,53,54,55,56,57]:List UInt8).length) false) false) (some (List.drop a0.toNat (List.take (Qo (a0+1)).toNat ([48,49,50,51,52,53,54,55,56,57]:List UInt8))))) (Option.bind (rc (Qo (Int.tdiv a0 10))) fun (x1:(List UInt8))=>Q7 (!(10==0)) (Option.bind (rc (Int.tmod a0 10)) fun (x2:(List UInt8))=>Q7 (Nat.ble (x1.length+x2.length) 1000000000) (some (x1++x2))))
def m68r:Int→Option ((List UInt8)):=Jz (fun rc v=>m68s rc v) Qd
def Qp3 (a0:Int):Option ((List UInt8)):=m68r a0
def m70 (a0:Int):Option ((List UInt8)) :=
 Option.bind (cond ((decide (a0 < 4))) (some true) (some (decide (11 < a0)))) fun (v1:Bool)=>cond v1 (some ([]:List UInt8)) (Option.bind (J0 ([([97,112,112]:List UInt8),([108,97,109]:List UInt8),([112,105]:List UInt8),([115,105,103,109,97]:List UInt8),([112,97,105,114]:List UInt8),([102,115,116]:List UInt8),([115,110,100]:List UInt8),([108,101,116]:List UInt8)]:List ((List UInt8))) (Qo (a0 - 4))) fun (x2:(List UInt8))=>some x2)
def m32s (rc:Tm→Option ((List UInt8))) (a0:Tm):Option ((List UInt8)) :=
 cond ((a0.kind==0)) (Option.bind (Qp3 a0.index) fun (x1:(List UInt8))=>Q7 (Nat.ble (([35]:List UInt8).length+x1.length) 1000000000) (some (([35]:List UInt8)++x1))) (cond ((a0.kind==12)) (Option.bind (Qp3 a0.index) fun (x2:(List UInt8))=>Q7 (Nat.ble (([63]:List UInt8).length+x2.length) 1000000000) (some (([63]:List UInt8)++x2))) (cond ((a0.kind==1)) (some ([112,114,111,112]:List UInt8)) (cond ((a0.kind==2)) (Option.bind (J0 a0.levels 0) fun (x3:Lvl)=>Option.bind (Qp2 x3) fun (x4:(List UInt8)×Int)=>Q7 (Nat.ble (([40,115,111,114,116,32,91]:List UInt8).length+x4.1.length) 1000000000) (Q7 (Nat.ble ((([40,115,111,114,116,32,91]:List UInt8)++x4.1).length+([93,41]:List UInt8).length) 1000000000) (some ((([40,115,111,114,116,32,91]:List UInt8)++x4.1)++([93,41]:List UInt8))))) (cond ((a0.kind==3)) (Option.bind (cond (((a0.levels.length:Int)==0)) (some (!(a0.name==([112,114,111,112]:List UInt8)))) (some false)) fun (v5:Bool)=>cond v5 (some a0.name) (Q7 (Nat.ble (([40,99,111,110,115,116,32]:List UInt8).length+a0.name.length) 1000000000) (Option.bind (Qa (σ:=(List UInt8)×Int) (β:=(List UInt8)) (fun s10=>cond ((decide (s10.2 < (a0.levels.length:Int)))) (Option.bind (J0 a0.levels s10.2) fun (x12:Lvl)=>Option.bind (Qp2 x12) fun (x13:(List UInt8)×Int)=>Q7 (Nat.ble (([32,91]:List UInt8).length+x13.1.length) 1000000000) (Q7 (Nat.ble ((([32,91]:List UInt8)++x13.1).length+([93]:List UInt8).length) 1000000000) (Q7 (Nat.ble (s10.1.length+((([32,91]:List UInt8)++x13.1)++([93]:List UInt8)).length) 1000000000) (some (.next ((s10.1++((([32,91]:List UInt8)++x13.1)++([93]:List UInt8))),(Qo (s10.2+1)))))))) (some (.done s10.1))) Qd ((([40,99,111,110,115,116,32]:List UInt8)++a0.name),0)) fun (v11:(List UInt8))=>Q7 (Nat.ble (v11.length+([41]:List UInt8).length) 1000000000) (some (v11++([41]:List UInt8)))))) (Option.bind (m70 a0.kind) fun (x14:(List UInt8))=>Q7 (Nat.ble (([40]:List UInt8).length+x14.length) 1000000000) (Option.bind (Qa (σ:=(List UInt8)×Int) (β:=(List UInt8)) (fun s19=>cond ((decide (s19.2 < (a0.kids.length:Int)))) (Option.bind (J0 a0.kids s19.2) fun (x21:Tm)=>Option.bind (rc x21) fun (x22:(List UInt8))=>Q7 (Nat.ble (([32]:List UInt8).length+x22.length) 1000000000) (Q7 (Nat.ble (s19.1.length+(([32]:List UInt8)++x22).length) 1000000000) (some (.next ((s19.1++(([32]:List UInt8)++x22)),(Qo (s19.2+1))))))) (some (.done s19.1))) Qd ((([40]:List UInt8)++x14),0)) fun (v20:(List UInt8))=>Q7 (Nat.ble (v20.length+([41]:List UInt8).length) 1000000000) (some (v20++([41]:List UInt8)))))))))
def m32r:Tm→Option ((List UInt8)):=Jz (fun rc v=>m32s rc v) Qd
def m32 (a0:Tm):Option ((List UInt8)):=m32r a0
def m14 (a0:Tm):Option ((List UInt8)×Int) :=
 Option.bind (Qnq a0 1000000 1000000 1000000 1000000) fun (x1:Int)=>cond ((x1 != 0)) (some (([]:List UInt8),x1)) (Option.bind (m32 a0) fun (x2:(List UInt8))=>cond ((decide (65536 < (x2.length:Int)))) (some (([]:List UInt8),5)) (some (x2,0)))
end
noncomputable section
open Go.RowKit Go.Shelf
theorem Ku {σ β:Type} {step:σ→Option (LO σ β)} (I:σ→Prop) (μ:σ→Nat) (spec:σ→β)
  (h:∀ s,I s→(step s=some (.done (spec s)))∨(∃ s',step s=some (.next s')∧I s'∧μ s' < μ s∧spec s'=spec s)):∀ (n:Nat) (s:σ),I s→μ s < n→Qa step n s=some (spec s)
 | 0,_,_,h0=>absurd h0 (Sn _)
 | n+1,s,hs,hn=>by
  rcases h s hs with h1 | ⟨s',h1,h2,h3,h4⟩
  ·simp only [Qa,h1]
  ·simp only [Qa,h1]
   rw [Ku I μ spec h n s' h2 (by omega),h4]
theorem Q2f {α:Type} {l:List α} {i:Int} {x:α} (h0:0≤i) (hx:l[i.toNat]?=some x):J0 l i=some x:=by
 obtain ⟨k,rfl⟩:=PS h0
 simpa [J0] using hx
theorem Qa0 {k n:Nat} (h:k < n) (hn:n≤1000000000):Qo ((k:Int)+1)=((k+1:Nat):Int):=by rw [Y2 (by omega) (by omega)];rfl
theorem w64_neg {n:Int} (h:-65536≤n∧n≤7):Qo (-1 - n) = -1 - n:=Y2 (by omega) (by omega)
def Qoi (v:Qr1):Prop:=-65536≤v.1∧v.1≤7∧0≤v.2∧v.2≤100
theorem Ko {l:Lvl} (h:Q5i l) {x:Qr1} (hx:x∈l.vs):Qoi x:=by
 obtain ⟨a,b,e⟩:=List.append_of_mem hx
 have:=h.2.2.2 a x b e
 unfold Q3r at this
 simp only [not_or,Int.not_lt] at this
 exact ⟨this.1,this.2.1,this.2.2.1,this.2.2.2.1⟩
theorem Qk6 {l:Lvl} (h:Q5i l) (hn:l.vs.length≤900000000):∀ (k:Nat) (x:Qr1),l.vs[k]?=some x→-65536+(k:Int)≤x.1
 | 0,x,hx=>by have:=(Ko h (Cs hx)).1;omega
 | k+1,x,hx=>by
  obtain ⟨hk,e⟩:=Cf.1 hx
  obtain ⟨y,hy⟩:∃ y,l.vs[k]?=some y:=⟨_,Co (by omega)⟩
  have ih:=Qk6 h hn k y hy
  have e1:l.vs=l.vs.take (k+1)++x::l.vs.drop (k+2):=by
   conv=>lhs;rw [← S0 (k+1) l.vs,PH hk,e]
  have h1:=h.2.2.2 _ _ _ e1
  unfold Q3r at h1
  simp only [not_or] at h1
  have hl:(l.vs.take (k+1)).length=k+1:=by rw [CI];omega
  rw [hl] at h1
  have h2:=h1.2.2.2.2
  by_cases hc:x.1≤y.1
  ·refine (h2 ⟨by omega,y,?_,hc⟩).elim
   rw [Y2 (by omega) (by omega),show ((k+1:Nat):Int) - 1=(k:Int) by omega]
   exact hy
  ·omega
theorem asc_len {l:Lvl} (h:Q5i l) (hn:l.vs.length≤900000000):l.vs.length≤65544:=by
 rcases Sv l.vs.length with h0 | h0
 ·omega
 ·obtain ⟨x,hx⟩:∃ x,l.vs[l.vs.length - 1]?=some x:=⟨_,Co (by omega)⟩
  have h1:=Qk6 h hn _ x hx
  have h2:=(Ko h (Cs hx)).2.1
  omega
abbrev Q21 (n:Nat):Qr7:=Lib.decDigits n
theorem Qju {n:Nat} (h:n < 10):Q21 n=[UInt8.ofNat (48+n)]:=by unfold Q21 Lib.decDigits;rw [dif_pos h]
theorem dec_ge {n:Nat} (h:¬ n < 10):Q21 n=Q21 (n / 10)++[UInt8.ofNat (48+n % 10)]:=by
 show Lib.decDigits n=_
 rw [Lib.decDigits,dif_neg h]
theorem Q9g:∀ (k n:Nat),n < 10 ^ (k+1)→(Q21 n).length≤k+1
 | 0,n,h=>by rw [Qju (by omega)];exact Ck _
 | k+1,n,h=>by
  by_cases h1:n < 10
  ·rw [Qju h1];exact Nat.succ_le_succ (Cp _)
  ·rw [dec_ge h1,C9]
   have:=Q9g k (n / 10) (by rw [Nat.pow_succ] at h;omega)
   simp;omega
def Qeu (p:Int):Qr7:=if 0 < p then [32,43,32]++Q21 p.toNat else []
def Qck (c:UInt8) (n:Nat) (p:Int):Qr7:=c::(Q21 n++Qeu p)
def Q5c (x:Qr1):Qr7:=if 0≤x.1 then Qck 117 x.1.toNat x.2 else Qck 63 (-1 - x.1).toNat x.2
def Q33:List Qr7→Qr7
 | []=>[]
 | [x]=>x
 | x::y::r=>x++([44,32]++Q33 (y::r))
theorem Qw {α:Type} {b:Bool} {x:Option α} (h:b=true):Q7 b x=x:=by unfold Q7;rw [h];rfl
theorem Qfy {a:Int} (h0:0≤a):Lib.itoa a=Q21 a.toNat:=by unfold Lib.itoa;rw [C8 (by omega)]
theorem Kw {a:Int} (h1:a < 1000000):(Q21 a.toNat).length≤6:=Q9g 5 _ (by omega)
theorem Qd3 {a:Int} (h0:0≤a) (h1:a < 1000000):Qir a=some (Q21 a.toNat):=by
 unfold Qir
 rw [Qw (by rw [C5 (by omega),C5 (by omega)];rfl),Qfy h0]
theorem Qfa {c:UInt8} {a p:Int} (h0:0≤a) (h1:a < 1000000) (p0:0≤p) (p1:p≤100):Qd9 [c] a p=some (Qck c a.toNat p):=by
 have la:=Kw h1
 have lp:=Kw (a:=p) (by omega)
 unfold Qd9 Qck Qeu
 rw [Qd3 h0 h1,C1]
 rw [Qw (Cb (by simp only [C2,Ce];omega))]
 by_cases hp:0 < p
 ·rw [C5 hp,C7,Cc hp,Qd3 p0 (by omega),C1]
  rw [Qw (Cb (by simp only [C2,Ce];omega)),Qw (Cb (by simp only [C9,C2,Ce];omega))]
  simp
 ·rw [C6 hp,Cd,C8 hp]
  simp
theorem varX_pos {x:Qr1} (h:0≤x.1):Q5c x=Qck 117 x.1.toNat x.2:=by unfold Q5c;rw [Cc h]
theorem varX_neg {x:Qr1} (h:x.1 < 0):Q5c x=Qck 63 (-1 - x.1).toNat x.2:=by unfold Q5c;rw [C8 (by omega)]
abbrev Q87 (vs:List Qr1):List Qr7:=(vs.filter fun x=>decide (0≤x.1)).map Q5c
abbrev Q8h (vs:List Qr1):List Qr7:=(vs.filter fun x=>decide (x.1 < 0)).map Q5c
theorem posV_cons (x:Qr1) (vs:List Qr1):Q87 (x::vs)=(if 0≤x.1 then [Q5c x] else [])++Q87 vs:=by
 unfold Q87
 rw [CB]
 by_cases h:0≤x.1
 ·rw [Cc (C5 h),Cc h];rfl
 ·rw [C8 (by simpa using h),C8 h];rfl
theorem negV_cons (x:Qr1) (vs:List Qr1):Q8h (x::vs)=(if x.1 < 0 then [Q5c x] else [])++Q8h vs:=by
 unfold Q8h
 rw [CB]
 by_cases h:x.1 < 0
 ·rw [Cc (C5 h),Cc h];rfl
 ·rw [C8 (by simpa using h),C8 h];rfl
theorem Q9f {α:Type} {l:List α} {k:Nat} {x:α} (h:l[k]?=some x):l.drop k=x::l.drop (k+1):=by
 obtain ⟨hk,e⟩:=Cf.1 h
 rw [PH hk,e]
theorem take_at {α:Type} {l:List α} {k:Nat} {x:α} (h:l[k]?=some x):(l.take (k+1)).reverse=x::(l.take k).reverse:=by
 obtain ⟨hk,e⟩:=Cf.1 h
 rw [Sh,h,List.reverse_append]
 rfl
def Qog (a0:Lvl):(Int×(List ((List UInt8))))→Option (LO (Int×(List ((List UInt8)))) ((List ((List UInt8))))):=(fun s12=>cond ((decide (s12.1 < (a0.vs.length:Int)))) (Option.bind (J0 a0.vs s12.1) fun (x14:Qr1)=>cond ((decide (0≤x14.1))) (Option.bind (Qd9 ([117]:List UInt8) x14.1 x14.2) fun (x15:(List UInt8))=>Q7 (Nat.ble (s12.2.length+([x15]:List ((List UInt8))).length) 1000000000) (some (.next ((Qo (s12.1+1)),(s12.2++([x15]:List ((List UInt8)))))))) (some (.next ((Qo (s12.1+1)),s12.2)))) (some (.done s12.2)))
def Qof (a0:Lvl):(Int×(List ((List UInt8))))→Option (LO (Int×(List ((List UInt8)))) ((List ((List UInt8))))):=(fun s31=>cond ((decide (0≤s31.1))) (Option.bind (Option.bind (J0 a0.vs s31.1) fun (x36:Qr1)=>cond ((decide (x36.1 < 0))) (Option.bind (Qd9 ([63]:List UInt8) (Qo ((-1) - x36.1)) x36.2) fun (x37:(List UInt8))=>Q7 (Nat.ble (s31.2.length+([x37]:List ((List UInt8))).length) 1000000000) (some (s31.2++([x37]:List ((List UInt8)))))) (some s31.2)) fun (v35:(List ((List UInt8))))=>some (.next ((Qo (s31.1 - 1)),v35))) (some (.done s31.2)))
section
variable {l:Lvl} (hv:Q5i l) (hl:l.vs.length≤65544)
include hv hl
theorem text_l0 (k:Nat) (acc:List Qr7) (hk:k≤l.vs.length) (ha:acc.length≤20+k):Qa (Qog l) Qd ((k:Int),acc)=some (acc++Q87 (l.vs.drop k)):=by
 refine (Ku (step:=Qog l) (fun s=>∃ j:Nat,s.1=(j:Int)∧j≤l.vs.length∧s.2.length≤20+j) (fun s=>l.vs.length - s.1.toNat) (fun s=>s.2++Q87 (l.vs.drop s.1.toNat)) ?_ Qd ((k:Int),acc) ⟨k,rfl,hk,ha⟩ ?_).trans (by rw [CN])
 ·rintro ⟨i,ac⟩ ⟨j,rfl,hj,hb⟩
  dsimp only at hb ⊢
  rw [CN]
  by_cases hlt:j < l.vs.length
  ·refine .inr ?_
   obtain ⟨x,hx⟩:∃ x,l.vs[j]?=some x:=⟨_,Co hlt⟩
   have ok:=Ko hv (Cs hx)
   obtain ⟨o1,o2,o3,o4⟩:=ok
   unfold Qog
   rw [C5 (by omega:(j:Int) < l.vs.length),C7,Q2f (PT _) (by simpa using hx),C1,Qa0 hlt (by omega),Q9f hx,posV_cons]
   by_cases h0:0≤x.1
   ·rw [C5 h0,C7,Qfa h0 (by omega) o3 o4,C1,Qw (Cb (by simp only [C2,Ce];omega)),Cc h0,varX_pos h0]
    exact ⟨_,rfl,⟨j+1,rfl,hlt,by simp only [C9,C2,Ce];omega⟩,by simp only [CN];omega,by simp only [CN];simp⟩
   ·rw [C6 h0,Cd,C8 h0]
    exact ⟨_,rfl,⟨j+1,rfl,hlt,by dsimp only;omega⟩,by simp only [CN];omega,by simp only [CN];simp⟩
  ·refine .inl ?_
   unfold Qog
   rw [C6 (by omega),Cd,List.drop_eq_nil_of_le (by omega)]
   simp
 ·simp only [CN];unfold Qd;omega
theorem text_l1 (acc:List Qr7) (ha:acc.length≤100000):Qa (Qof l) Qd ((l.vs.length:Int) - 1,acc)=some (acc++Q8h l.vs.reverse):=by
 refine (Ku (step:=Qof l) (fun s=>∃ j:Nat,s.1=(j:Int) - 1∧j≤l.vs.length∧s.2.length+j≤200000) (fun s=>(s.1+1).toNat) (fun s=>s.2++Q8h (l.vs.take (s.1+1).toNat).reverse) ?_ Qd ((l.vs.length:Int) - 1,acc) ⟨l.vs.length,rfl,Ck _,by dsimp only;omega⟩ ?_).trans (by
  rw [show ((l.vs.length:Int) - 1+1).toNat=l.vs.length by omega,List.take_length])
 ·rintro ⟨i,ac⟩ ⟨j,rfl,hj,hb⟩
  dsimp only at hb ⊢
  rw [show ((j:Int) - 1+1).toNat=j by omega]
  cases j with
  | zero =>
   refine .inl ?_
   unfold Qof
   rw [C6 (by dsimp only;omega),Cd]
   simp
  | succ k =>
   refine .inr ?_
   rw [show ((k+1:Nat):Int) - 1=(k:Int) by omega]
   obtain ⟨x,hx⟩:∃ x,l.vs[k]?=some x:=⟨_,Co (by omega)⟩
   have ok:=Ko hv (Cs hx)
   obtain ⟨o1,o2,o3,o4⟩:=ok
   unfold Qof
   dsimp only
   rw [C5 (by omega:(0:Int)≤(k:Int)),C7,Q2f (PT _) (by simpa using hx),C1,Y2 (n:=(k:Int) - 1) (by omega) (by omega),take_at hx,negV_cons]
   by_cases h0:x.1 < 0
   ·rw [C5 h0,C7,w64_neg ⟨o1,o2⟩,Qfa (by omega) (by omega) o3 o4,C1,Qw (Cb (by simp only [C2,Ce];omega)),C1,Cc h0,varX_neg h0]
    exact ⟨_,rfl,⟨k,rfl,by omega,by simp only [C9,C2,Ce];omega⟩,by dsimp only;omega,by
     dsimp only;rw [show ((k:Int) - 1+1).toNat=k by omega];simp⟩
   ·rw [C6 h0,Cd,C1,C8 h0]
    exact ⟨_,rfl,⟨k,rfl,by omega,by dsimp only;omega⟩,by dsimp only;omega,by
     dsimp only;rw [show ((k:Int) - 1+1).toNat=k by omega];simp⟩
 ·dsimp only;unfold Qd;omega
end
def Qbl (r:List Qr7):Qr7:=(r.map ([44,32]++·)).flatten
theorem DS (x:Qr7):∀ r:List Qr7,Q33 (x::r)=x++Qbl r
 | []=>by simp [Q33,Qbl]
 | y::r=>by
  have:=DS y r
  simp only [Q33] at this ⊢
  rw [this]
  simp [Qbl]
theorem sepT_join (r:List Qr7):Lib.join r [44,32]=Q33 r:=by
 cases r with
 | nil=>rfl
 | cons x r=>rw [DS,Lib.join_cons];rfl
theorem Q71:∀ (r:List Qr7),(∀ x∈r,x.length≤16)→(Qbl r).length≤18 * r.length
 | [],h=>Cp _
 | x::r,h=>by
  have:=Q71 r fun y hy=>h y (Ci _ hy)
  have hx:=h x Ch
  unfold Qbl at this ⊢
  simp only [CF,PL,C9,C2,Ce] at this ⊢
  omega
theorem Qei (r:List Qr7) (h:∀ x∈r,x.length≤16):(Q33 r).length≤18 * r.length:=by
 cases r with
 | nil=>exact Cp _
 | cons x r =>
  rw [DS,C9]
  have:=Q71 r fun y hy=>h y (Ci _ hy)
  have:=h x Ch
  simp only [C2];omega
def Yl (l:Lvl):List Qr7:=(if 0 < l.c∨l.vs=[] then [Q21 l.c.toNat] else [])++Q87 l.vs++Q8h l.vs.reverse
theorem Qe9 {x:Qr1} (h:Qoi x):(Q5c x).length≤16:=by
 obtain ⟨h1,h2,h3,h4⟩:=h
 have hp:(Qeu x.2).length≤9:=by
  unfold Qeu
  split
  ·have:=Kw (a:=x.2) (by omega)
   simp only [C9,C2,Ce];omega
  ·exact Cp _
 unfold Q5c Qck
 split
 ·have:=Kw (a:=x.1) (by omega)
  simp only [C2,C9];omega
 ·have:=Kw (a:=-1 - x.1) (by omega)
  simp only [C2,C9];omega
theorem Qao {l:Lvl} (h:Q5i l):∀ x∈Yl l,x.length≤16:=by
 intro x hx
 unfold Yl Q87 Q8h at hx
 rcases CQ.1 hx with hx | hx
 ·rcases CQ.1 hx with hx | hx
  ·split at hx
   ·rw [CE.1 hx]
    have:=Kw (a:=l.c) (by have:=h.2.1;omega)
    omega
   ·cases hx
  ·obtain ⟨y,hy,rfl⟩:=Cv.1 hx
   exact Qe9 (Ko h (PJ.1 hy).1)
 ·obtain ⟨y,hy,rfl⟩:=Cv.1 hx
  exact Qe9 (Ko h (List.mem_reverse.1 (PJ.1 hy).1))
theorem Q60 (l:Lvl):(Yl l).length≤2 * l.vs.length+1:=by
 unfold Yl Q87 Q8h
 have h1:=S2 (fun x:Qr1=>decide (0≤x.1)) l.vs
 have h2:=S2 (fun x:Qr1=>decide (x.1 < 0)) l.vs.reverse
 rw [Pp] at h2
 simp only [C9,Cm]
 split <;> simp only [C2,Ce] <;> omega
def Qec (l:Lvl):Qr7:=if (Yl l).length=1 then Q33 (Yl l) else [109,97,120,40]++Q33 (Yl l)++[41]
theorem Q0y (l:Lvl):Qec l=(if (Yl l).length=1 then Q33 (Yl l) else [109,97,120,40]++Q33 (Yl l)++[41]):=rfl
theorem Q5q {l:Lvl} (h:Q5i l):(Qec l).length≤36 * l.vs.length+23:=by
 rw [Q0y]
 have h1:=Qei _ (Qao h)
 have h2:=Q60 l
 split
 ·omega
 ·simp only [C9,C2,Ce];omega
theorem first_parts (l:Lvl):(cond (decide (0 < l.c)) (some true) (some ((l.vs.length:Int)==0)))=some (decide (0 < l.c∨l.vs=[])):=by
 by_cases h0:0 < l.c
 ·rw [C5 h0,C7,C5 (.inl h0)]
 ·rw [C6 h0,Cd]
  cases hl:l.vs with
  | nil=>simp
  | cons x r=>simp [h0];omega
theorem one_get {o:List Qr7} (h:o.length=1):J0 o 0=some (Q33 o):=by
 match o,h with
 | [x],_=>rfl
theorem Jn {α β:Type} {x:Option α} {k:α→Option β} (a:α) (h:x=some a) {r:Option β} (h2:k a=r):Option.bind x k=r:=by rw [h];exact h2
theorem m114_eq {l:Lvl} (hv:Q5i l) (hn:l.vs.length≤900000000):Ql0 l=some (Qec l,0):=by
 have hl:=asc_len hv hn
 obtain ⟨b,hb1,hb2⟩:=Q8q l hn
 have hb:b=true:=hb2.2 hv
 subst hb
 have hc:0≤l.c∧l.c≤100:=⟨hv.1,hv.2.1⟩
 unfold Ql0
 rw [hb1]
 refine Jn _ (first_parts l) ?_
 have l0:(if 0 < l.c∨l.vs=[] then [Q21 l.c.toNat] else []).length≤1:=by split <;> simp
 refine Jn (if 0 < l.c∨l.vs=[] then [Q21 l.c.toNat] else []) ?_ ?_
 ·by_cases h:0 < l.c∨l.vs=[]
  ·rw [C5 h,C7,Cc h,Qd3 hc.1 (by omega)];rfl
  ·rw [C6 h,Cd,C8 h]
 refine Jn _ (text_l0 hv hl 0 _ (Cp _) (by omega)) ?_
 rw [PR]
 have l1:=S2 (fun x:Qr1=>decide (0≤x.1)) l.vs
 rw [Y2 (by omega) (by omega)]
 refine Jn _ (text_l1 hv hl _ (by rw [C9,Cm];omega)) ?_
 have ep:(if 0 < l.c∨l.vs=[] then [Q21 l.c.toNat] else [])++Q87 l.vs++Q8h l.vs.reverse=Yl l:=rfl
 rw [ep]
 have h16:=Qao hv
 have hn:=Q60 l
 have hs:=Qei _ h16
 rw [Q0y]
 by_cases h1:(Yl l).length=1
 ·rw [Cc h1,show (((Yl l).length:Int)==1)=true by rw [h1];rfl,C7,one_get h1,C1]
 ·rw [C8 h1,show (((Yl l).length:Int)==1)=false by rw [Pq];omega,Cd]
  unfold Qnt
  rw [sepT_join,Qw (by rw [Cb (by omega),Cb (by omega)];rfl),C1,Qw (Cb (by simp only [C2,Ce];omega)),Qw (Cb (by simp only [C9,C2,Ce];omega))]
end
noncomputable section
open Go.RowKit Go.Shelf
abbrev Qqw (α:Type):=(α×Nat)⊕Nat
def J7 {α β:Type} (r:Qqw α) (f:α→Nat→Qqw β):Qqw β:=match r with
 | .inl (v,m)=>f v m
 | .inr m=>.inr m
def ix {α:Type}:Qqw α→Nat
 | .inl (_,m)=>m
 | .inr m=>m+1
structure PG {α:Type} (p:(Nat→Qr7)→Nat→Qqw α):Prop where
 mono:∀ X k,k < ix (p X k)
 rng:∀ X N k,(∀ j,X j ≠ []→j+1 < N)→k < N→(∀ v m,p X k=.inl (v,m)→m < N)∧∀ m,p X k=.inr m→m < N
 dep:∀ X X' k,(∀ j,j < ix (p X k)→X j=X' j)→p X' k=p X k
theorem Qlp {α β:Type} {r:Qqw α} {f:α→Nat→Qqw β} (h:∀ v m,r=.inl (v,m)→m < ix (f v m)):ix r≤ix (J7 r f):=by
 rcases r with ⟨v,m⟩ | m
 ·exact Nat.le_of_lt (h v m rfl)
 ·exact Ck _
theorem PG.bind {α β:Type} {p:(Nat→Qr7)→Nat→Qqw α} {f:α→(Nat→Qr7)→Nat→Qqw β} (hp:PG p) (hf:∀ v,PG (f v)):PG (fun X k=>J7 (p X k) fun v m=>f v X m) where
 mono X k:=by
  have h:=hp.mono X k
  have:=Qlp (r:=p X k) (f:=fun v m=>f v X m) fun v m _=>(hf v).mono X m
  exact Cj h this
 rng X N k hX hk:=by
  have h:=hp.rng X N k hX hk
  show (∀ v m,J7 (p X k) _=_→_)∧∀ m,J7 (p X k) _=_→_
  cases hr:p X k with
  | inl r =>
   obtain ⟨v,m⟩:=r
   exact (hf v).rng X N m hX (h.1 v m hr)
  | inr m=>exact ⟨fun v m e=>(by cases e),fun m' e=>(by cases e;exact h.2 m hr)⟩
 dep X X' k hX:=by
  have h1:ix (p X k)≤ix (J7 (p X k) fun v m=>f v X m):=Qlp fun v m _=>(hf v).mono X m
  have h2:=hp.dep X X' k fun j hj=>hX j (Cj hj h1)
  show J7 (p X' k) _=J7 (p X k) _
  rw [h2]
  cases hr:p X k with
  | inl r =>
   obtain ⟨v,m⟩:=r
   refine (hf v).dep X X' m fun j hj=>hX j ?_
   show j < ix (J7 (p X k) fun v m=>f v X m)
   rw [hr];exact hj
  | inr m=>rfl
theorem PG.map {α β:Type} {p:(Nat→Qr7)→Nat→Qqw α} (hp:PG p) (g:α→β):PG (fun X k=>J7 (p X k) fun v m=>.inl (g v,m)) where
 mono X k:=by
  have h:=hp.mono X k
  show k < ix (J7 (p X k) _)
  cases hr:p X k with
  | inl r=>rw [hr] at h;exact h
  | inr m=>rw [hr] at h;exact h
 rng X N k hX hk:=by
  have h:=hp.rng X N k hX hk
  show (∀ v m,J7 (p X k) _=_→_)∧∀ m,J7 (p X k) _=_→_
  cases hr:p X k with
  | inl r =>
   obtain ⟨v,m⟩:=r
   exact ⟨fun v' m' e=>(by cases e;exact h.1 v m hr),fun m' e=>(by cases e)⟩
  | inr m=>exact ⟨fun v m e=>(by cases e),fun m' e=>(by cases e;exact h.2 m hr)⟩
 dep X X' k hX:=by
  have h1:ix (p X k)=ix (J7 (p X k) fun v m=>(.inl (g v,m):Qqw β)):=by
   cases p X k with
   | inl r=>rfl
   | inr m=>rfl
  have h2:=hp.dep X X' k fun j hj=>hX j (h1▸hj)
  show J7 (p X' k) _=J7 (p X k) _
  rw [h2]
def G0 {α:Type} (c:Qr7→Option α) (s:Qr7) (k:Nat):Qqw α:=match c s with
 | some v=>.inl (v,k+1)
 | none=>.inr k
theorem Kn {α:Type} {c:Qr7→Option α} {s:Qr7} {k:Nat} {v:α} (h:c s=some v):G0 c s k=.inl (v,k+1):=by unfold G0;rw [h]
theorem GC {α:Type} {c:Qr7→Option α} {s:Qr7} {k:Nat} (h:c s=none):G0 c s k=.inr k:=by unfold G0;rw [h]
theorem PG.one {α:Type} (c:Qr7→Option α) (hc:c []=none):PG (fun X k=>G0 c (X k) k) where
 mono X k:=by
  show k < ix (G0 c (X k) k)
  cases h:c (X k) with
  | some v=>rw [Kn h];exact Ct k
  | none=>rw [GC h];exact Ct k
 rng X N k hX hk:=by
  show (∀ v m,G0 c (X k) k=_→_)∧∀ m,G0 c (X k) k=_→_
  cases hr:c (X k) with
  | some v=>rw [Kn hr];exact ⟨fun v m e=>(by cases e;exact hX k fun e=>(by rw [e,hc] at hr;cases hr)),fun m e=>(by cases e)⟩
  | none=>rw [GC hr];exact ⟨fun v m e=>(by cases e),fun m e=>(by cases e;exact hk)⟩
 dep X X' k hX:=by
  have:X k=X' k:=hX k (by
   show k < ix (G0 c (X k) k)
   cases h:c (X k) with
   | some v=>rw [Kn h];exact Ct k
   | none=>rw [GC h];exact Ct k)
  show G0 c (X' k) k=G0 c (X k) k
  rw [this]
theorem PG.look {α:Type} (c:Qr7→Bool) {p q:(Nat→Qr7)→Nat→Qqw α} (hp:PG p) (hq:PG q):PG (fun X k=>if c (X k)=true then p X k else q X k) where
 mono X k:=by
  show k < ix (if c (X k)=true then p X k else q X k)
  split
  ·exact hp.mono X k
  ·exact hq.mono X k
 rng X N k hX hk:=by
  show (∀ v m,(if c (X k)=true then p X k else q X k)=_→_)∧∀ m,(if c (X k)=true then p X k else q X k)=_→_
  split
  ·exact hp.rng X N k hX hk
  ·exact hq.rng X N k hX hk
 dep X X' k hX:=by
  have hX':∀ j,j < ix (if c (X k)=true then p X k else q X k)→X j=X' j:=hX
  show (if c (X' k)=true then p X' k else q X' k)=(if c (X k)=true then p X k else q X k)
  by_cases h:c (X k)=true
  ·rw [Cc h] at hX'
   rw [← hX' k (hp.mono X k),Cc h,Cc h]
   exact hp.dep X X' k hX'
  ·rw [C8 h] at hX'
   rw [← hX' k (hq.mono X k),C8 h,C8 h]
   exact hq.dep X X' k hX'
theorem PG.step {α:Type} (c:Qr7→Bool) (hc:c []=false) {p q:(Nat→Qr7)→Nat→Qqw α} (hp:PG p) (hq:PG q):PG (fun X k=>if c (X k)=true then p X (k+1) else q X k) where
 mono X k:=by
  show k < ix (if c (X k)=true then p X (k+1) else q X k)
  split
  ·exact SJ (Ct k) (hp.mono X (k+1))
  ·exact hq.mono X k
 rng X N k hX hk:=by
  show (∀ v m,(if c (X k)=true then p X (k+1) else q X k)=_→_)∧∀ m,(if c (X k)=true then p X (k+1) else q X k)=_→_
  split
  ·rename_i h
   exact hp.rng X N (k+1) hX (hX k fun e=>(by rw [e,hc] at h;cases h))
  ·exact hq.rng X N k hX hk
 dep X X' k hX:=by
  have hX':∀ j,j < ix (if c (X k)=true then p X (k+1) else q X k)→X j=X' j:=hX
  show (if c (X' k)=true then p X' (k+1) else q X' k)=(if c (X k)=true then p X (k+1) else q X k)
  by_cases h:c (X k)=true
  ·rw [Cc h] at hX'
   rw [← hX' k (SJ (Ct k) (hp.mono X (k+1))),Cc h,Cc h]
   exact hp.dep X X' (k+1) hX'
  ·rw [C8 h] at hX'
   rw [← hX' k (hq.mono X k),C8 h,C8 h]
   exact hq.dep X X' k hX'
theorem PG.refuse {α:Type}:PG (α:=α) (fun _ k=>.inr k) where
 mono X k:=Ct k
 rng X N k hX hk:=⟨fun v m e=>(by cases e),fun m e=>(by cases e;exact hk)⟩
 dep X X' k hX:=rfl
variable (lv:Qr7→Lvl×Int)
def Qgn (w s:Qr7):Option Unit:=if s=w then some () else none
def XS (w:Qr7) (X:Nat→Qr7) (k:Nat):Qqw Unit:=G0 (Qgn w) (X k) k
def Q7f (s:Qr7):Option Qr7:=if YW s=true then some s else none
def pName (X:Nat→Qr7) (k:Nat):Qqw Qr7:=G0 Q7f (X k) k
def Gl (s:Qr7):Int×Bool:=(Q1y s).getD (0,false)
def Df (s:Qr7):Qr7:=(s.take (s.length - 1)).drop 1
def Qjz (s:Qr7):Option Lvl:=if Lib.hasPrefix s [91]=true then (if (lv (Df s)).2=0 then some (lv (Df s)).1 else none) else none
def Q1v (X:Nat→Qr7) (k:Nat):Qqw Lvl:=G0 (Qjz lv) (X k) k
def Qc2 (s:Qr7):Option Tm:=match s with
 | []=>none
 | c::r=>if s=[112,114,111,112] then some (Tm.mk 1 0 [] [] []) else if c=35 then some (Tm.mk 0 (Gl r).1 [] [] []) else if c=63 then some (Tm.mk 12 (Gl r).1 [] [] []) else if YW s=true then some (Tm.mk 3 0 s [] []) else none
def pAtom (X:Nat→Qr7) (k:Nat):Qqw Tm:=G0 Qc2 (X k) k
def ZV:Nat→(Nat→Qr7)→Nat→Qqw (List Lvl)
 | 0,_,k=>.inr k
 | f+1,X,k=>if (X k==[41])=true then .inl ([],k+1) else J7 (Q1v lv X k) fun l m=>J7 (ZV f X m) fun ls m'=>.inl (l::ls,m')
def U0 (rc:(Nat→Qr7)→Nat→Qqw Tm):Nat→(Nat→Qr7)→Nat→Qqw (List Tm)
 | 0,X,k=>J7 (XS [41] X k) fun _ m=>.inl ([],m)
 | c+1,X,k=>J7 (rc X k) fun t m=>J7 (U0 rc c X m) fun ts m'=>.inl (t::ts,m')
def wordsW:List Qr7:=[[97,112,112],[108,97,109],[112,105],[115,105,103,109,97],[112,97,105,114],[102,115,116],[115,110,100],[108,101,116]]
def KK (h:Qr7):Int×Int→Option (LO (Int×Int) Int):=(fun s40=>cond ((decide (s40.1 < 8))) (Option.bind (J0 ([([97,112,112]:List UInt8),([108,97,109]:List UInt8),([112,105]:List UInt8),([115,105,103,109,97]:List UInt8),([112,97,105,114]:List UInt8),([102,115,116]:List UInt8),([115,110,100]:List UInt8),([108,101,116]:List UInt8)]:List (List UInt8)) s40.1) fun (x42:List UInt8)=>Option.bind (cond ((x42==h)) (some (Qo (4+s40.1))) (some s40.2)) fun (v43:Int)=>some (.next ((Qo (s40.1+1)),v43))) (some (.done s40.2)))
def Ju (h:Qr7):Int:=(Qa (KK h) Qd (0,0)).getD 0
def D9 (k:Int):Nat:=if k=8∨k=11 then 3 else if k=9∨k=10 then 1 else 2
def Qez (X:Nat→Qr7) (k:Nat):Qqw Tm:=J7 (Q1v lv X k) fun l m=>J7 (XS [41] X m) fun _ m'=>.inl (Tm.mk 2 0 [] [l] [],m')
def Q8a (X:Nat→Qr7) (k:Nat):Qqw Tm:=J7 (pName X k) fun nm m=>J7 (ZV lv 1000000 X m) fun ls m'=>.inl (Tm.mk 3 0 nm ls [],m')
def Q63 (rc:(Nat→Qr7)→Nat→Qqw Tm) (kd:Int) (X:Nat→Qr7) (k:Nat):Qqw Tm:=J7 (U0 rc (D9 kd) X k) fun ts m=>.inl (Tm.mk kd 0 [] [] ts,m)
def Q3d (rc:(Nat→Qr7)→Nat→Qqw Tm) (X:Nat→Qr7) (k:Nat):Qqw Tm :=
 if (X k==[115,111,114,116])=true then Qez lv X (k+1) else if (X k==[99,111,110,115,116])=true then Q8a lv X (k+1) else
  if Ju (X k)=0 then .inr k else Q63 rc (Ju (X k)) X (k+1)
def Qpr:Nat→(Nat→Qr7)→Nat→Qqw Tm
 | 0,_,k=>.inr k
 | n+1,X,k=>if (X k==[40])=true then Q3d lv (Qpr n) X (k+1) else pAtom X k
theorem Qbd:Ju []=0:=by kernel_rfl
theorem Qas {w:Qr7} (hw:w ≠ []):PG (XS w):=PG.one (Qgn w) (C8 fun h=>hw h.symm)
theorem name_nil:YW []=false:=by kernel_rfl
theorem pName_ok:PG pName:=PG.one Q7f (C8 (by rw [name_nil];intro h;cases h))
theorem D4:PG (Q1v lv):=PG.one (Qjz lv) (C8 (by decide))
theorem pAtom_ok:PG pAtom:=PG.one Qc2 rfl
theorem pClose_ok {α:Type} (v:α):PG (fun X k=>(if (X k==[41])=true then (.inl (v,k+1):Qqw α) else .inr k)):=by
 have h:=PG.one (α:=α) (fun s=>if s=[41] then some v else none) (C8 (by decide))
 have e:(fun (X:Nat→Qr7) k=>(if (X k==[41])=true then (.inl (v,k+1):Qqw α) else .inr k))=fun X k=>G0 (fun s=>if s=[41] then some v else none) (X k) k:=by
  funext X k
  by_cases h:X k=[41]
  ·rw [Cc (CZ.2 h),Kn (Cc h)]
  ·rw [C8 (fun e=>h (CZ.1 e)),GC (C8 h)]
 rw [e];exact h
theorem Qat:∀ f,PG (ZV lv f)
 | 0=>PG.refuse
 | f+1=>by
  have h1:PG (fun X k=>J7 (Q1v lv X k) fun l m=>J7 (ZV lv f X m) fun ls m'=>.inl (l::ls,m')) :=
   (D4 lv).bind (f:=fun l X m=>J7 (ZV lv f X m) fun ls m'=>.inl (l::ls,m')) fun l=>(Qat f).map (l::·)
  have h2:=PG.look (fun s=>s==[41]) (pClose_ok ([]:List Lvl)) h1
  have e:ZV lv (f+1)=fun X k=>if (X k==[41])=true then (if (X k==[41])=true then (.inl ([],k+1):Qqw (List Lvl)) else .inr k) else J7 (Q1v lv X k) fun l m=>J7 (ZV lv f X m) fun ls m'=>.inl (l::ls,m'):=by
   funext X k
   show (if (X k==[41])=true then _ else _)=_
   by_cases h:(X k==[41])=true
   ·rw [Cc h,Cc h,Cc h]
   ·rw [C8 h,C8 h]
  rw [e];exact h2
theorem Qau {rc:(Nat→Qr7)→Nat→Qqw Tm} (h:PG rc):∀ c,PG (U0 rc c)
 | 0=>(Qas (by decide)).map fun _=>[]
 | c+1=>h.bind (f:=fun t X m=>J7 (U0 rc c X m) fun ts m'=>.inl (t::ts,m')) fun t=>(Qau h c).map (t::·)
theorem pSort_ok:PG (Qez lv):=(D4 lv).bind (f:=fun l X m=>J7 (XS [41] X m) fun _ m'=>.inl (Tm.mk 2 0 [] [l] [],m')) fun l=>(Qas (by decide)).map fun _=>Tm.mk 2 0 [] [l] []
theorem pConst_ok:PG (Q8a lv):=pName_ok.bind (f:=fun nm X m=>J7 (ZV lv 1000000 X m) fun ls m'=>.inl (Tm.mk 3 0 nm ls [],m')) fun nm=>(Qat lv 1000000).map fun ls=>Tm.mk 3 0 nm ls []
theorem pForm_ok {rc:(Nat→Qr7)→Nat→Qqw Tm} (h:PG rc) (kd:Int):PG (Q63 rc kd):=(Qau h (D9 kd)).map fun ts=>Tm.mk kd 0 [] [] ts
theorem PG.next {α:Type} (c:Qr7→Bool) (hc:c []=false) {p:Qr7→(Nat→Qr7)→Nat→Qqw α} (hp:∀ s,PG (p s)):PG (fun X k=>if c (X k)=true then p (X k) X (k+1) else .inr k) where
 mono X k:=by
  show k < ix (if c (X k)=true then p (X k) X (k+1) else .inr k)
  split
  ·exact SJ (Ct k) ((hp _).mono X (k+1))
  ·exact Ct k
 rng X N k hX hk:=by
  show (∀ v m,(if c (X k)=true then p (X k) X (k+1) else .inr k)=_→_)∧∀ m,(if c (X k)=true then p (X k) X (k+1) else .inr k)=_→_
  split
  ·rename_i h
   exact (hp _).rng X N (k+1) hX (hX k fun e=>(by rw [e,hc] at h;cases h))
  ·exact ⟨fun v m e=>(by cases e),fun m e=>(by cases e;exact hk)⟩
 dep X X' k hX:=by
  have hX':∀ j,j < ix (if c (X k)=true then p (X k) X (k+1) else .inr k)→X j=X' j:=hX
  have e:X k=X' k:=hX' k (by
   split
   ·exact SJ (Ct k) ((hp _).mono X (k+1))
   ·exact Ct k)
  show (if c (X' k)=true then p (X' k) X' (k+1) else .inr k)=(if c (X k)=true then p (X k) X (k+1) else .inr k)
  rw [← e]
  by_cases h:c (X k)=true
  ·rw [Cc h] at hX'
   rw [Cc h,Cc h]
   exact (hp _).dep X X' (k+1) hX'
  ·rw [C8 h,C8 h]
theorem pHead_form (rc:(Nat→Qr7)→Nat→Qqw Tm):Q3d lv rc=fun X k=>if (X k==[115,111,114,116])=true then Qez lv X (k+1) else if (X k==[99,111,110,115,116])=true then Q8a lv X (k+1) else
   if (Ju (X k) != 0)=true then Q63 rc (Ju (X k)) X (k+1) else .inr k:=by
 funext X k
 unfold Q3d
 have:(if Ju (X k)=0 then (.inr k:Qqw Tm) else Q63 rc (Ju (X k)) X (k+1))=if (Ju (X k) != 0)=true then Q63 rc (Ju (X k)) X (k+1) else .inr k:=by
  by_cases h:Ju (X k)=0
  ·rw [Cc h,C8 (by rw [h];decide)]
  ·rw [C8 h,Cc (by simpa using h)]
 rw [this]
theorem pHead_ok {rc:(Nat→Qr7)→Nat→Qqw Tm} (h:PG rc):PG (Q3d lv rc):=by
 have h1:=PG.next (fun s=>Ju s != 0) (by rw [Qbd];rfl) (p:=fun s=>Q63 rc (Ju s)) fun s=>pForm_ok h _
 have h2:=PG.step (fun s=>s==[99,111,110,115,116]) rfl (pConst_ok lv) h1
 have h3:=PG.step (fun s=>s==[115,111,114,116]) rfl (pSort_ok lv) h2
 rw [pHead_form];exact h3
theorem Q62:∀ n,PG (Qpr lv n)
 | 0=>PG.refuse
 | n+1=>PG.step (fun s=>s==[40]) rfl (pHead_ok lv (Q62 n)) pAtom_ok
end
noncomputable section
open Go.RowKit Go.Shelf
theorem U6:∀ (s:Qr7) (acc:Nat),(∀ b∈s,48≤b.toNat∧b.toNat≤57)→∃ n,Lib.decFrom acc s=some n
 | [],acc,_=>⟨_,rfl⟩
 | b::s,acc,h=>by
  have hd:Lib.digitVal b=some (b.toNat - 48):=by unfold Lib.digitVal;rw [Cc (h b Ch)]
  obtain ⟨n,hn⟩:=U6 s (acc * 10+(b.toNat - 48)) fun c hc=>h c (Ci _ hc)
  exact ⟨n,by unfold Lib.decFrom;rw [hd];exact hn⟩
theorem atoi_some {s:Qr7} (h:s ≠ []) (hd:∀ b∈s,48≤b.toNat∧b.toNat≤57):∃ n,Lib.atoi s=some n:=by
 cases s with
 | nil=>exact absurd rfl h
 | cons b s =>
  have hb:=hd b Ch
  have h1:(b==45)=false:=by
   cases hc:(b==45) with
   | false=>rfl
   | true=>have:=eq_of_beq hc;subst this;exact absurd hb.1 (by decide)
  have h2:(b==43)=false:=by
   cases hc:(b==43) with
   | false=>rfl
   | true=>have:=eq_of_beq hc;subst this;exact absurd hb.1 (by decide)
  obtain ⟨n,hn⟩:=U6 (b::s) 0 hd
  refine ⟨(n:Int),?_⟩
  unfold Lib.atoi
  dsimp only
  rw [h1,h2,C8 Cn,C8 Cn]
  unfold Lib.decNat
  rw [show (b::s).isEmpty=false from rfl,C8 Cn,hn]
  rfl
theorem Dr {p:UInt8→Bool} {s:Qr7} (h:s.dropWhile p=[]):∀ b∈s,p b=true:=by
 have e:=Cz (p:=p) (l:=s)
 rw [h,CH] at e
 intro b hb
 rw [← e] at hb
 exact Cg.1 (Sy (p:=p) (l:=s)) b hb
abbrev digits:Qr7:=[48,49,50,51,52,53,54,55,56,57]
theorem digits_mem {b:UInt8} (h:digits.contains b=true):48≤b.toNat∧b.toNat≤57:=by
 have:b∈digits:=by simpa using h
 simp only [digits,Cq,List.not_mem_nil,or_false] at this
 rcases this with rfl | rfl | rfl | rfl | rfl | rfl | rfl | rfl | rfl | rfl <;> decide
theorem trim_nil {s:Qr7} (h:Lib.trimS s digits=[]):∀ b∈s,48≤b.toNat∧b.toNat≤57:=by
 intro b hb
 unfold Lib.trimS Lib.trimLeftS Lib.trimRightS at h
 have h1:=Dr h
 by_cases hc:digits.contains b=true
 ·exact digits_mem hc
 ·exfalso
  cases hr:s.reverse.dropWhile (digits.contains ·) with
  | nil=>exact hc (Dr hr b (List.mem_reverse.2 hb))
  | cons c r =>
   have h2:digits.contains c=false:=by
    have:=List.head?_dropWhile_not (digits.contains ·) s.reverse
    rw [hr] at this
    simpa using this
   have h4:=h1 c (List.mem_reverse.2 (by rw [hr];exact Ch))
   rw [h2] at h4;cases h4
theorem Q02 (s:Qr7) (h:s.length≤100000):Q1y s=some (Gl s):=by
 have key:∃ r,Q1y s=some r:=by
  unfold Q1y
  cases h6:decide (6 < (s.length:Int)) with
  | true=>exact ⟨_,rfl⟩
  | false =>
   cases h0:(s==([]:List UInt8)) with
   | true=>exact ⟨_,rfl⟩
   | false =>
    have hm:Qkz s digits=some (Lib.trimS s digits):=by
     unfold Qkz
     refine Qw ?_
     rw [Cb (by omega)];rfl
    rw [show Qkz s ([48,49,50,51,52,53,54,55,56,57]:List UInt8)=some (Lib.trimS s digits) from hm]
    rw [Cd,Cd,C1]
    cases ht:(!(Lib.trimS s digits==([]:List UInt8))) with
    | true=>exact ⟨_,rfl⟩
    | false =>
     have ht':Lib.trimS s digits=[]:=by simpa using ht
     have hne:s ≠ []:=by intro e;rw [e] at h0;cases h0
     obtain ⟨n,hn⟩:=atoi_some hne (trim_nil ht')
     have hg:(cond (Nat.ble s.length 18) (Lib.atoi s).isSome false)=true:=by
      have:¬ 6 < (s.length:Int):=Se h6
      rw [Cb (by omega),hn];rfl
     rw [Cd,hg]
     cases h1:decide (1 < (s.length:Int)) with
     | false=>exact ⟨_,rfl⟩
     | true =>
      rw [C7]
      obtain ⟨c,r,rfl⟩:=Sz hne
      rw [show J0 (c::r) 0=some c from rfl,C1,C1]
      cases ((c.toNat:Int)==48) <;> exact ⟨_,rfl⟩
 obtain ⟨r,hr⟩:=key
 unfold Gl
 rw [hr];rfl
def J6 (L:List Tkn) (k:Nat):Qr7:=(L[k]?.map Tkn.text).getD []
def UG (L:List Tkn) (k:Nat):Int:=(L[k]?.map Tkn.at_).getD 0
structure GL (L:List Tkn):Prop where
 len:L.length≤100000
 last:∀ j,J6 L j ≠ []→j+1 < L.length
 short:∀ j,(J6 L j).length≤65536
 br:∀ j,Lib.hasPrefix (J6 L j) [91]=true→2≤(J6 L j).length
def Qqe {α:Type} (L:List Tkn):Qqw α→(Rdr×α)⊕((Int×Int)×Rdr)
 | .inl (v,m)=>.inl (⟨L,(m:Int)⟩,v)
 | .inr m=>.inr ((4,UG L m),⟨L,(m:Int)⟩)
variable {L:List Tkn} {k:Nat} {lv:Qr7→Lvl×Int}
theorem Qk5 (hk:k < L.length):∃ x,L[k]?=some x∧J6 L k=x.text∧UG L k=x.at_ :=
 ⟨L[k],Co hk,by unfold J6;rw [Co hk];rfl,by unfold UG;rw [Co hk];rfl⟩
theorem Ul (hk:k < L.length):Qio ⟨L,(k:Int)⟩=some (.inl (⟨L,(k:Int)⟩,J6 L k)):=by
 obtain ⟨x,h1,h2,-⟩:=Qk5 hk
 unfold Qio
 rw [show J0 L (k:Int)=some x from h1,h2];rfl
theorem WJ {α β:Type} (a:α):Zv (some (.inl a:α⊕β))=some a:=rfl
theorem Qd1 (hk:k < L.length) (w:Qr7):Qmy ⟨L,(k:Int)⟩ w=some (.inl (⟨L,(k:Int)⟩,(J6 L k==w))):=by
 unfold Qmy;rw [Ul hk];rfl
theorem Qff (hk:k < L.length):Qh2 ⟨L,(k:Int)⟩=some (.inr ((4,UG L k),⟨L,(k:Int)⟩)):=by
 obtain ⟨x,h1,-,h2⟩:=Qk5 hk
 unfold Qh2
 rw [show J0 L (k:Int)=some x from h1,h2];rfl
theorem Q6d:Qb4 ⟨L,(k:Int)⟩ true=some (.inl (⟨L,(k:Int)⟩,())):=rfl
theorem Q3j (hk:k < L.length):Qb4 ⟨L,(k:Int)⟩ false=some (.inr ((4,UG L k),⟨L,(k:Int)⟩)):=by
 unfold Qb4
 rw [Qff hk];rfl
theorem Qkn (h:GL L) (hk:k < L.length):Qo ((k:Int)+1)=((k+1:Nat):Int):=Gj (by have:=h.len;omega)
theorem Qd0 (h:GL L) (hk:k < L.length) (w:Qr7):Qil ⟨L,(k:Int)⟩ w=some (Qqe L (XS w (J6 L) k)):=by
 unfold Qil XS G0 Qgn
 rw [Ul hk]
 show Option.bind (Qb4 ⟨L,(k:Int)⟩ (J6 L k==w)) _=_
 by_cases hw:J6 L k=w
 ·rw [Cc hw,CZ.2 hw,Q6d]
  show some (Sum.inl (Rdr.mk L (Qo ((k:Int)+1)),()))=_
  rw [Qkn h hk];rfl
 ·rw [C8 hw,show (J6 L k==w)=false from Pq.2 hw,Q3j hk];rfl
theorem Qim (h:GL L) (hk:k < L.length):Qma ⟨L,(k:Int)⟩=some (Qqe L (pName (J6 L) k)):=by
 unfold Qma pName G0 Q7f
 rw [Ul hk]
 show Option.bind (Q04 (J6 L k)) _=_
 rw [Q8s _ (by have:=h.short k;omega)]
 show Option.bind (Qb4 ⟨L,(k:Int)⟩ (YW (J6 L k))) _=_
 cases hn:YW (J6 L k) with
 | true =>
  rw [Q6d,Cc rfl]
  show some (Sum.inl (Rdr.mk L (Qo ((k:Int)+1)),J6 L k))=_
  rw [Qkn h hk];rfl
 | false=>rw [Q3j hk,C8 Cn];rfl
theorem Qin (hl:∀ s:Qr7,s.length≤65536→Da s=some (lv s)) (h:GL L) (hk:k < L.length):Qmb ⟨L,(k:Int)⟩=some (Qqe L (Q1v lv (J6 L) k)):=by
 unfold Qmb Q1v G0 Qjz
 rw [Ul hk,WJ,C1]
 dsimp only
 rw [show Qnu (J6 L k) ([91]:List UInt8)=some (Lib.hasPrefix (J6 L k) [91]) from rfl,C1]
 cases hp:Lib.hasPrefix (J6 L k) [91] with
 | false=>rw [Q3j hk,C8 Cn];rfl
 | true =>
  have h1:=h.br k hp
  have h2:=h.short k
  have hw:Qo (((J6 L k).length:Int) - 1)=(((J6 L k).length - 1:Nat):Int):=by rw [Y2 (by omega) (by omega)];omega
  rw [Q6d,Cc rfl]
  show Q7 (cond (decide (0≤(1:Int))) (cond (Nat.ble (1:Int).toNat (Qo (((J6 L k).length:Int) - 1)).toNat) (Q1z (Qo (((J6 L k).length:Int) - 1)) (J6 L k).length) false) false) _=_
  rw [hw]
  have hg:(cond (decide (0≤(1:Int))) (cond (Nat.ble (1:Int).toNat (((J6 L k).length - 1:Nat):Int).toNat) (Q1z (((J6 L k).length - 1:Nat):Int) (J6 L k).length) false) false)=true:=by
   rw [show decide (0≤(1:Int))=true from rfl,C7,Cb (by show 1≤_;omega),C7]
   unfold Q1z
   rw [C5 (by omega),C7]
   exact Cb (by omega)
  rw [Qw hg]
  have hs:Da (List.drop (1:Int).toNat (List.take (((J6 L k).length - 1:Nat):Int).toNat (J6 L k)))=some (lv (Df (J6 L k))):=hl _ (by
   rw [Cu,CI];omega)
  rw [hs]
  show Option.bind (Qb4 ⟨L,(k:Int)⟩ ((lv (Df (J6 L k))).2==0)) _=_
  by_cases h0:(lv (Df (J6 L k))).2=0
  ·rw [Cc h0,CZ.2 h0,Q6d]
   show some (Sum.inl (Rdr.mk L (Qo ((k:Int)+1)),(lv (Df (J6 L k))).1))=_
   rw [Qkn h hk];rfl
  ·rw [C8 h0,show ((lv (Df (J6 L k))).2==0)=false from Pq.2 h0,Q3j hk];rfl
theorem m73_eq (h:GL L) (hk:k < L.length):Qnn ⟨L,(k:Int)⟩=some (Qqe L (pAtom (J6 L) k)):=by
 unfold Qnn pAtom G0
 rw [Ul hk,WJ,C1]
 dsimp only
 have hsh:=h.short k
 have h76:=Qim h hk
 unfold pName G0 Q7f at h76
 generalize hX:J6 L k=s at hsh h76 ⊢
 cases s with
 | nil =>
  show Option.bind (Option.bind (Qh2 ⟨L,(k:Int)⟩) _) _=_
  rw [Qff hk];rfl
 | cons c r =>
  by_cases hp:c::r=[112,114,111,112]
  ·obtain ⟨rfl,rfl⟩:=Pf hp
   show some (Sum.inl (Rdr.mk L (Qo ((k:Int)+1)),Tm.mk 1 0 [] [] []))=_
   rw [Qkn h hk];rfl
  ·have e1:((c::r)==([]:List UInt8))=false:=rfl
   have e2:((c::r)==([112,114,111,112]:List UInt8))=false:=Pq.2 hp
   have e3:J0 (c::r) 0=some c:=rfl
   have hbr:Q1z (1:Int) (c::r).length=true:=by
    show Nat.ble 1 (c::r).length=true
    exact Cb (by simp)
   have h125:Q1y (List.drop (1:Int).toNat (c::r))=some (Gl r):=Q02 r (by have:(c::r).length=r.length+1:=rfl;omega)
   have c35:((c.toNat:Int)==35)=decide (c=35):=by
    rw [ZJ]
    by_cases e:c=35
    ·subst e;rfl
    ·rw [C6 e,C6]
     intro h';exact e (So.1 (by show c.toNat=35;omega))
   have c63:((c.toNat:Int)==63)=decide (c=63):=by
    rw [ZJ]
    by_cases e:c=63
    ·subst e;rfl
    ·rw [C6 e,C6]
     intro h';exact e (So.1 (by show c.toNat=63;omega))
   simp only [e1,e2,e3,Cd,C1,c35,c63,hbr,h125]
   unfold Qc2
   dsimp only
   rw [C8 hp]
   by_cases h35:c=35
   ·subst h35
    rw [Cc rfl]
    show some (Sum.inl (Rdr.mk L (Qo ((k:Int)+1)),Tm.mk 0 (Gl r).1 [] [] []))=_
    rw [Qkn h hk];rfl
   ·rw [C8 h35,C6 h35,Cd]
    by_cases h63:c=63
    ·subst h63
     rw [Cc rfl]
     show some (Sum.inl (Rdr.mk L (Qo ((k:Int)+1)),Tm.mk 12 (Gl r).1 [] [] []))=_
     rw [Qkn h hk];rfl
    ·rw [C8 h63,C6 h63]
     show Option.bind (Qma ⟨L,(k:Int)⟩) _=_
     rw [h76]
     by_cases hn:YW (c::r)=true
     ·rw [Cc hn,Cc hn];rfl
     ·rw [C8 hn,C8 hn];rfl
theorem kind_some (s:Qr7):Qa (KK s) Qd (0,0)=some (Ju s):=by
 have key:∃ r,Qa (KK s) Qd (0,0)=some r:=by
  obtain ⟨r,h,-⟩:=Ys (step:=KK s) wordsW (fun i (x:Int)=>(i,x)) (fun _ _=>True) (fun _=>True) (by decide)
   (fun a x b st e _=>by
    have hl:a.length < 8:=by have:=congrArg List.length e;rw [C9,C2,show wordsW.length=8 from rfl] at this;omega
    refine .inr ⟨cond (x==s) (Qo (4+(a.length:Int))) st,?_,trivial⟩
    unfold KK
    dsimp only
    rw [C5 (by omega),C7]
    have:J0 wordsW (a.length:Int)=some x:=by rw [e];exact Zh a x b
    rw [show J0 ([([97,112,112]:List UInt8),([108,97,109]:List UInt8),([112,105]:List UInt8),([115,105,103,109,97]:List UInt8),([112,97,105,114]:List UInt8),([102,115,116]:List UInt8),([115,110,100]:List UInt8),([108,101,116]:List UInt8)]:List (List UInt8)) (a.length:Int)=some x from this,C1]
    cases (x==s) <;> rfl)
   (fun st _=>⟨st,by unfold KK;dsimp only;rw [show (wordsW.length:Int)=8 from rfl];rfl,trivial⟩) 0 trivial
  exact ⟨r,h⟩
 obtain ⟨r,hr⟩:=key
 unfold Ju
 rw [hr];rfl
end
noncomputable section
open Go.RowKit Go.Shelf
theorem m78_eq (a:Int):Qnm a=some (D9 a:Int):=by
 unfold Qnm D9
 rw [ZJ,ZJ,ZJ,ZJ]
 by_cases h8:a=8
 ·subst h8;rfl
 ·by_cases h11:a=11
  ·subst h11;rfl
  ·rw [C6 h8,C6 h11,C8 (by omega)]
   by_cases h9:a=9
   ·subst h9;rfl
   ·by_cases h10:a=10
    ·subst h10;rfl
    ·rw [C6 h9,C6 h10,C8 (by omega)];rfl
abbrev Ql4:=(Rdr×Tm)⊕((Int×Int)×Rdr)
def Q4s:(List Tkn)×Int×(List Lvl)→Option (LO ((List Tkn)×Int×(List Lvl)) (((List Tkn)×Int×(List Lvl))⊕Ql4)):=(fun s25=>Option.bind (Zv (Qmy (Rdr.mk s25.1 s25.2.1) ([41]:List UInt8))) fun (r27:Rdr×Bool)=>cond ((!r27.2)) (Option.bind (Qmb r27.1) (Sum.elim (fun (r29:Rdr×Lvl)=>Q7 (Nat.ble (s25.2.2.length+([r29.2]:List Lvl).length) 1000000000) (some (.next (r29.1.l,r29.1.n,(s25.2.2++([r29.2]:List Lvl)))))) (fun (e30:(Int×Int)×Rdr)=>some (.done (.inr (.inr ((e30.1.1,e30.1.2),e30.2))))))) (some (.done (.inl (r27.1.l,r27.1.n,s25.2.2)))))
def cEnd (nm:Qr7):((List Tkn)×Int×(List Lvl))⊕Ql4→Option Ql4:=(Sum.elim (fun (v26:(List Tkn)×Int×(List Lvl))=>Option.bind (Qil (Rdr.mk v26.1 v26.2.1) ([41]:List UInt8)) (Sum.elim (fun (r31:Rdr×Unit)=>some (.inl (r31.1,(Tm.mk 3 0 nm v26.2.2 ([]))))) (fun (e32:(Int×Int)×Rdr)=>some (.inr ((e32.1.1,e32.1.2),e32.2))))) (fun (o33:(Rdr×Tm)⊕((Int×Int)×Rdr))=>some o33))
def Q1b (rc:Rdr×Unit→Option Ql4) (x46:Int):Int×(List Tkn)×Int×(List Tm)→Option (LO (Int×(List Tkn)×Int×(List Tm)) (((List Tkn)×Int×(List Tm))⊕Ql4)):=(fun s53=>cond ((decide (s53.1 < x46))) (Option.bind (rc ((Rdr.mk s53.2.1 s53.2.2.1),())) (Sum.elim (fun (r55:Rdr×Tm)=>Q7 (Nat.ble (s53.2.2.2.length+([r55.2]:List Tm).length) 1000000000) (some (.next ((Qo (s53.1+1)),r55.1.l,r55.1.n,(s53.2.2.2++([r55.2]:List Tm)))))) (fun (e56:(Int×Int)×Rdr)=>some (.done (.inr (.inr ((e56.1.1,e56.1.2),e56.2))))))) (some (.done (.inl (s53.2.1,s53.2.2.1,s53.2.2.2)))))
def Qnx (v41:Int):((List Tkn)×Int×(List Tm))⊕Ql4→Option Ql4:=(Sum.elim (fun (v54:(List Tkn)×Int×(List Tm))=>Option.bind (Qil (Rdr.mk v54.1 v54.2.1) ([41]:List UInt8)) (Sum.elim (fun (r57:Rdr×Unit)=>some (.inl (r57.1,(Tm.mk v41 0 ([]:List UInt8) ([]) v54.2.2)))) (fun (e58:(Int×Int)×Rdr)=>some (.inr ((e58.1.1,e58.1.2),e58.2))))) (fun (o59:(Rdr×Tm)⊕((Int×Int)×Rdr))=>some o59))
theorem Qb6 {σ β:Type} {step:σ→Option (LO σ β)} {n:Nat} {s s':σ} (h:step s=some (.next s')):Qa step (n+1) s=Qa step n s':=by simp only [Qa,h]
theorem Dg {σ β:Type} {step:σ→Option (LO σ β)} {n:Nat} {s:σ} {r:β} (h:step s=some (.done r)):Qa step (n+1) s=some r:=by simp only [Qa,h]
section
variable {L:List Tkn} {lv:Qr7→Lvl×Int}
theorem Q1a (hl:∀ s:Qr7,s.length≤65536→Da s=some (lv s)) (h:GL L) (nm:Qr7):∀ (f n k:Nat) (acc:List Lvl),L.length≤f+k→L.length≤n+k→k < L.length→acc.length≤k →
  Option.bind (Qa Q4s n (L,(k:Int),acc)) (cEnd nm)=some (Qqe L (J7 (ZV lv f (J6 L) k) fun ls m=>.inl (Tm.mk 3 0 nm (acc++ls) [],m)))
 | 0,_,k,acc,h1,_,hk,_=>by omega
 | _+1,0,k,acc,_,h2,hk,_=>by omega
 | f+1,n+1,k,acc,h1,h2,hk,ha=>by
  unfold ZV
  have hlen:=h.len
  cases h41:(J6 L k==[41]) with
  | true =>
   have hst:Q4s (L,(k:Int),acc)=some (.done (.inl (L,(k:Int),acc))):=by
    unfold Q4s
    dsimp only
    rw [Qd1 hk,WJ,C1,h41];rfl
   rw [Dg hst,C1,Cc rfl]
   show Option.bind (Qil ⟨L,(k:Int)⟩ [41]) _=_
   rw [Qd0 h hk]
   unfold XS
   rw [Kn (Cc (CZ.1 h41))]
   show _=some (Qqe L (.inl (Tm.mk 3 0 nm (acc++[]) [],k+1)))
   rw [CH];rfl
  | false =>
   rw [C8 Cn]
   have hst:Q4s (L,(k:Int),acc)=Option.bind (some (Qqe L (Q1v lv (J6 L) k))) (Sum.elim (fun (r29:Rdr×Lvl)=>Q7 (Nat.ble (acc.length+([r29.2]:List Lvl).length) 1000000000) (some (.next (r29.1.l,r29.1.n,(acc++([r29.2]:List Lvl)))))) (fun (e30:(Int×Int)×Rdr)=>some (.done (.inr (.inr ((e30.1.1,e30.1.2),e30.2)))))):=by
    unfold Q4s
    dsimp only
    rw [Qd1 hk,WJ,C1,h41,show (!(((⟨L,(k:Int)⟩:Rdr),false):Rdr×Bool).2)=true from rfl,C7,Qin hl h hk]
   cases hr:Q1v lv (J6 L) k with
   | inr m =>
    rw [hr] at hst
    have hst':Q4s (L,(k:Int),acc)=some (.done (.inr (.inr ((4,UG L m),⟨L,(m:Int)⟩)))):=hst
    rw [Dg hst'];rfl
   | inl r =>
    obtain ⟨l,m⟩:=r
    have hm:=((D4 lv).rng (J6 L) L.length k h.last hk).1 l m hr
    have hm2:=(D4 lv).mono (J6 L) k
    rw [hr] at hm2 hst
    have hm3:k < m:=hm2
    have hst':Q4s (L,(k:Int),acc)=Q7 (Nat.ble (acc.length+1) 1000000000) (some (.next (L,(m:Int),acc++[l]))):=hst
    rw [Dl (by omega)] at hst'
    rw [Qb6 hst']
    show _=some (Qqe L (J7 (J7 (ZV lv f (J6 L) m) fun ls m'=>.inl (l::ls,m')) fun ls m=>.inl (Tm.mk 3 0 nm (acc++ls) [],m)))
    rw [Q1a hl h nm f n m (acc++[l]) (by omega) (by omega) hm (by rw [C9];simp only [C2,Ce];omega)]
    cases ZV lv f (J6 L) m with
    | inl r =>
     obtain ⟨ls,m'⟩:=r
     show some (Qqe L (.inl (Tm.mk 3 0 nm ((acc++[l])++ls) [],m')))=some (Qqe L (.inl (Tm.mk 3 0 nm (acc++l::ls) [],m')))
     rw [Cy];rfl
    | inr m=>rfl
theorem Q6t (h:GL L) {rc:Rdr×Unit→Option Ql4} {rcS:(Nat→Qr7)→Nat→Qqw Tm} (hS:PG rcS) (k0:Nat) (hrc:∀ m,k0≤m→m < L.length→rc (⟨L,(m:Int)⟩,())=some (Qqe L (rcS (J6 L) m))) (kd:Int) (x:Nat) (hx:x≤3):∀ (c n i k:Nat) (acc:List Tm),i+c=x→c < n→k0≤k→k < L.length→acc.length≤k →
  Option.bind (Qa (Q1b rc (x:Int)) n ((i:Int),L,(k:Int),acc)) (Qnx kd)=some (Qqe L (J7 (U0 rcS c (J6 L) k) fun ts m=>.inl (Tm.mk kd 0 [] [] (acc++ts),m)))
 | _,0,i,k,acc,_,hn,_,_,_=>by omega
 | 0,n+1,i,k,acc,hi,_,hk0,hk,ha=>by
  have hst:Q1b rc (x:Int) ((i:Int),L,(k:Int),acc)=some (.done (.inl (L,(k:Int),acc))):=by
   unfold Q1b
   dsimp only
   rw [C6 (by omega),Cd]
  rw [Dg hst,C1]
  show Option.bind (Qil ⟨L,(k:Int)⟩ [41]) _=_
  rw [Qd0 h hk]
  unfold U0
  cases XS [41] (J6 L) k with
  | inl r =>
   obtain ⟨v,m⟩:=r
   show _=some (Qqe L (.inl (Tm.mk kd 0 [] [] (acc++[]),m)))
   rw [CH];rfl
  | inr m=>rfl
 | c+1,n+1,i,k,acc,hi,hn,hk0,hk,ha=>by
  have hlen:=h.len
  have hst:Q1b rc (x:Int) ((i:Int),L,(k:Int),acc)=Option.bind (some (Qqe L (rcS (J6 L) k))) (Sum.elim (fun (r55:Rdr×Tm)=>Q7 (Nat.ble (acc.length+([r55.2]:List Tm).length) 1000000000) (some (.next ((Qo ((i:Int)+1)),r55.1.l,r55.1.n,(acc++([r55.2]:List Tm)))))) (fun (e56:(Int×Int)×Rdr)=>some (.done (.inr (.inr ((e56.1.1,e56.1.2),e56.2)))))):=by
   unfold Q1b
   dsimp only
   rw [C5 (by omega),C7,hrc k hk0 hk]
  unfold U0
  cases hr:rcS (J6 L) k with
  | inr m =>
   rw [hr] at hst
   have hst':Q1b rc (x:Int) ((i:Int),L,(k:Int),acc)=some (.done (.inr (.inr ((4,UG L m),⟨L,(m:Int)⟩)))):=hst
   rw [Dg hst'];rfl
  | inl r =>
   obtain ⟨t,m⟩:=r
   have hm:=(hS.rng (J6 L) L.length k h.last hk).1 t m hr
   have hm2:=hS.mono (J6 L) k
   rw [hr] at hm2 hst
   have hm3:k < m:=hm2
   have hst':Q1b rc (x:Int) ((i:Int),L,(k:Int),acc)=Q7 (Nat.ble (acc.length+1) 1000000000) (some (.next ((Qo ((i:Int)+1)),L,(m:Int),acc++[t]))):=hst
   rw [Dl (by omega),Gj (by omega)] at hst'
   rw [Qb6 hst']
   show _=some (Qqe L (J7 (J7 (U0 rcS c (J6 L) m) fun ts m'=>.inl (t::ts,m')) fun ts m=>.inl (Tm.mk kd 0 [] [] (acc++ts),m)))
   rw [Q6t h hS k0 hrc kd x hx c n (i+1) m (acc++[t]) (by omega) (by omega) (by omega) hm (by rw [C9];simp only [C2,Ce];omega)]
   cases U0 rcS c (J6 L) m with
   | inl r =>
    obtain ⟨ts,m'⟩:=r
    show some (Qqe L (.inl (Tm.mk kd 0 [] [] ((acc++[t])++ts),m')))=some (Qqe L (.inl (Tm.mk kd 0 [] [] (acc++t::ts),m')))
    rw [Cy];rfl
   | inr m=>rfl
theorem DY {s w:Qr7} (h:(s==w)=true) (hw:w ≠ []):s ≠ []:=fun e=>by
 rw [e] at h
 exact hw (CZ.1 h).symm
theorem m36s_eq (hl:∀ s:Qr7,s.length≤65536→Da s=some (lv s)) (h:GL L) {rc:Rdr×Unit→Option Ql4} {rcS:(Nat→Qr7)→Nat→Qqw Tm} (hS:PG rcS) {k:Nat} (hk:k < L.length)
  (hrc:∀ m,k < m→m < L.length→rc (⟨L,(m:Int)⟩,())=some (Qqe L (rcS (J6 L) m))) :
  Qit rc ⟨L,(k:Int)⟩=some (Qqe L (if (J6 L k==[40])=true then Q3d lv rcS (J6 L) (k+1) else pAtom (J6 L) k)):=by
 have hlen:=h.len
 unfold Qit
 rw [Qd1 hk]
 show cond (!(J6 L k==[40])) _ _=_
 cases h40:(J6 L k==[40]) with
 | false =>
  rw [C8 Cn]
  show Option.bind (Qnn ⟨L,(k:Int)⟩) _=_
  rw [m73_eq h hk]
  cases pAtom (J6 L) k with
  | inl r=>rfl
  | inr m=>rfl
 | true =>
  have hk1:k+1 < L.length:=h.last k (DY h40 (by decide))
  rw [Cc rfl]
  show Option.bind (Zv (Qio (Rdr.mk L (Qo ((k:Int)+1))))) _=_
  rw [Qkn h hk,Ul hk1]
  unfold Q3d
  show cond (J6 L (k+1)==[115,111,114,116]) _ _=_
  cases hs:(J6 L (k+1)==[115,111,114,116]) with
  | true =>
   have hk2:k+1+1 < L.length:=h.last (k+1) (DY hs (by decide))
   rw [Cc rfl,C7]
   show Option.bind (Qmb (Rdr.mk L (Qo (((k+1:Nat):Int)+1)))) _=_
   rw [Qkn h hk1,Qin hl h hk2]
   unfold Qez
   cases hr:Q1v lv (J6 L) (k+1+1) with
   | inr m=>rfl
   | inl r =>
    obtain ⟨l,m⟩:=r
    have hm:=((D4 lv).rng (J6 L) L.length _ h.last hk2).1 l m hr
    show Option.bind (Qil ⟨L,(m:Int)⟩ [41]) _=some (Qqe L (J7 (XS [41] (J6 L) m) _))
    rw [Qd0 h hm]
    cases XS [41] (J6 L) m with
    | inl r=>rfl
    | inr m=>rfl
  | false =>
   rw [C8 Cn,Cd]
   show cond (J6 L (k+1)==[99,111,110,115,116]) _ _=_
   cases hc:(J6 L (k+1)==[99,111,110,115,116]) with
   | true =>
    have hk2:k+1+1 < L.length:=h.last (k+1) (DY hc (by decide))
    rw [Cc rfl,C7]
    show Option.bind (Qma (Rdr.mk L (Qo (((k+1:Nat):Int)+1)))) _=_
    rw [Qkn h hk1,Qim h hk2]
    unfold Q8a
    cases hr:pName (J6 L) (k+1+1) with
    | inr m=>rfl
    | inl r =>
     obtain ⟨nm,m⟩:=r
     have hm:=(pName_ok.rng (J6 L) L.length _ h.last hk2).1 nm m hr
     have key:=Q1a hl h nm 1000000 Qd m [] (by omega) (by unfold Qd;omega) hm (Cp _)
     exact key
   | false =>
    rw [C8 Cn,Cd]
    show Option.bind (Qa (KK (J6 L (k+1))) Qd (0,0)) _=_
    rw [kind_some,C1]
    show Option.bind (Qb4 ⟨L,((k+1:Nat):Int)⟩ (Ju (J6 L (k+1)) != 0)) _=_
    by_cases h0:Ju (J6 L (k+1))=0
    ·rw [Cc h0,h0,show ((0:Int) != 0)=false from rfl,Q3j hk1];rfl
    ·have hk2:k+1+1 < L.length:=h.last (k+1) fun e=>h0 (by rw [e];exact Qbd)
     rw [C8 h0,show (Ju (J6 L (k+1)) != 0)=true from by simpa using h0,Q6d]
     show Option.bind (Qnm (Ju (J6 L (k+1)))) _=_
     rw [m78_eq,C1]
     show Option.bind (Qa (Q1b rc (D9 (Ju (J6 L (k+1))):Int)) Qd (0,L,Qo (((k+1:Nat):Int)+1),[])) (Qnx (Ju (J6 L (k+1))))=_
     rw [Qkn h hk1]
     have hn3:D9 (Ju (J6 L (k+1)))≤3:=by unfold D9;split <;> (try split) <;> omega
     have key:=Q6t h hS (k+1+1) (fun m h1 h2=>hrc m (by omega) h2) (Ju (J6 L (k+1))) (D9 (Ju (J6 L (k+1)))) hn3 (D9 (Ju (J6 L (k+1)))) Qd 0 (k+1+1) [] (by omega) (by unfold Qd;omega) (Ck _) hk2 (Cp _)
     exact key
theorem Qa5 (hl:∀ s:Qr7,s.length≤65536→Da s=some (lv s)) (h:GL L):∀ (n k:Nat),L.length≤n+k→k < L.length→Jz (fun rc v=>Qit rc v.1) n (⟨L,(k:Int)⟩,())=some (Qqe L (Qpr lv n (J6 L) k))
 | 0,k,h1,hk=>by omega
 | n+1,k,h1,hk=>m36s_eq hl h (Q62 lv n) hk fun m hkm hm=>Qa5 hl h n m (by omega) hm
theorem m36_eq (hl:∀ s:Qr7,s.length≤65536→Da s=some (lv s)) (h:GL L) (h0:0 < L.length):Qol ⟨L,0⟩=some (Qqe L (Qpr lv Qd (J6 L) 0)) :=
 Qa5 hl h Qd 0 (by have:=h.len;unfold Qd;omega) h0
theorem m37_eq {k:Nat} (hk:k < L.length) (s:Qr7):Qnp ⟨L,(k:Int)⟩ s=some (if J6 L k=[]∧UG L k=(s.length:Int) then .inl (⟨L,(k:Int)⟩,()) else .inr ((4,UG L k),⟨L,(k:Int)⟩)):=by
 obtain ⟨x,h1,h2,h3⟩:=Qk5 hk
 unfold Qnp
 rw [Ul hk]
 show Option.bind (cond (J6 L k==([]:List UInt8)) _ _) _=_
 by_cases h0:J6 L k=[]
 ·rw [CZ.2 h0,C7]
  show Option.bind (Option.bind (J0 L (k:Int)) _) _=_
  rw [show J0 L (k:Int)=some x from h1,C1]
  show Option.bind (Option.bind (Qb4 ⟨L,(k:Int)⟩ (x.at_==(s.length:Int))) _) _=_
  rw [← h3]
  by_cases ha:UG L k=(s.length:Int)
  ·rw [Cc ⟨h0,ha⟩,CZ.2 ha,Q6d];rfl
  ·rw [C8 (fun e=>ha e.2),show (UG L k==(s.length:Int))=false from Pq.2 ha,Q3j hk];rfl
 ·rw [show (J6 L k==([]:List UInt8))=false from Pq.2 h0,Cd,C8 (fun e=>h0 e.1)]
  show Option.bind (Option.bind (Qb4 ⟨L,(k:Int)⟩ false) _) _=_
  rw [Q3j hk];rfl
end
end
noncomputable section
open Go.RowKit Go.Shelf
theorem Gz {p:UInt8→Bool} (s:Qr7):(s.takeWhile p).length≤s.length:=by
 have:=congrArg List.length (Cz (p:=p) (l:=s))
 rw [C9] at this;omega
theorem X0 {p:UInt8→Bool} (s:Qr7):s.drop (s.takeWhile p).length=s.dropWhile p:=by
 conv=>lhs;rw [← Cz (p:=p) (l:=s)]
 have h:((s.takeWhile p++s.dropWhile p).takeWhile p).length=(s.takeWhile p).length:=by rw [Cz]
 rw [h,List.drop_left']
 rfl
theorem Q3s (s:Qr7) (p:UInt8→Bool) {step:Int→Option (LO Int Int)} (hlen:s.length≤900000000)
  (h1:∀ (k:Nat) b,s[k]?=some b→step (k:Int)=some (cond (p b) (.next (Qo ((k:Int)+1))) (.done (k:Int)))) (h2:step (s.length:Int)=some (.done (s.length:Int))) :
  ∀ k:Nat,k≤s.length→Qa step Qd (k:Int)=some ((k+((s.drop k).takeWhile p).length:Nat):Int):=by
 intro k hk
 have key:=Ku (step:=step) (fun i=>0≤i∧i.toNat≤s.length) (fun i=>s.length - i.toNat) (fun i=>((i.toNat+((s.drop i.toNat).takeWhile p).length:Nat):Int)) (fun i hi=>by
  obtain ⟨n,rfl⟩:=PS hi.1
  have hi2:n≤s.length:=hi.2
  rcases P1 n s.length with hlt | hge
  ·have hb:s[n]?=some s[n]:=Co hlt
   have e:=h1 n _ hb
   have hd:s.drop n=s[n]::s.drop (n+1):=PH hlt
   cases hp:p s[n] with
   | true =>
    rw [hp,C7,Gj (by omega)] at e
    refine .inr ⟨((n+1:Nat):Int),e,⟨by omega,by show n+1≤_;omega⟩,by show s.length - (n+1) < s.length - n;omega,?_⟩
    show ((n+1+((s.drop (n+1)).takeWhile p).length:Nat):Int)=((n+((s.drop n).takeWhile p).length:Nat):Int)
    rw [hd,P9,Cc hp,C2];omega
   | false =>
    rw [hp,Cd] at e
    refine .inl ?_
    rw [e]
    show some (LO.done (n:Int))=some (LO.done ((n+((s.drop n).takeWhile p).length:Nat):Int))
    rw [hd,P9,C8 (by rw [hp];exact Cn)];rfl
  ·have:n=s.length:=by omega
   subst this
   refine .inl ?_
   rw [h2]
   show some (LO.done (s.length:Int))=some (LO.done ((s.length+((s.drop s.length).takeWhile p).length:Nat):Int))
   rw [List.drop_length];rfl) Qd (k:Int) ⟨by omega,hk⟩ (by show s.length - k < Qd;unfold Qd;omega)
 exact key
def Qh6 (c:Int):Bool:=(decide (97≤c)&&decide (c≤122))||(decide (65≤c)&&decide (c≤90))||(decide (48≤c)&&decide (c≤57))||(c==95)||(c==39)||(c==46)
def UJ (b:UInt8):Bool:=Qh6 (b.toNat:Int)
theorem Qf8 (c:Int):Qix c=some (Qh6 c):=by
 unfold Qix Qh6
 cases decide (97≤c) <;> cases decide (c≤122) <;> cases decide (65≤c) <;> cases decide (c≤90) <;> cases decide (48≤c) <;> cases decide (c≤57) <;> cases (c==95) <;> cases (c==39) <;> rfl
theorem Qf9 (s:Qr7) (hs:s.length≤900000000) {k:Nat} (hk:k≤s.length):Qiy s (k:Int)=some ((k+((s.drop k).takeWhile UJ).length:Nat):Int):=by
 unfold Qiy
 rw [Q3s s UJ hs (fun j b hb=>?_) ?_ k hk]
 ·rfl
 ·rw [JA];rfl
 ·rw [C5 (by have:=(Cf.1 hb).1;omega),C7,show J0 s (j:Int)=some b from hb,C1,Qf8]
  show cond (Qh6 (b.toNat:Int)) _ _=some (cond (Qh6 (b.toNat:Int)) _ _)
  cases Qh6 (b.toNat:Int) <;> rfl
def QC:Qr7→Nat
 | []=>0
 | c::r=>if c=40∨c=41 then 1 else
   if c=91 then (if ((c::r).takeWhile (· != 93)).length < (c::r).length then ((c::r).takeWhile (· != 93)).length+1 else 0) else
    if c=35∨c=63 then (if (Gl (r.takeWhile UJ)).2=true then 1+(r.takeWhile UJ).length else 0) else
     if UJ c=true then (if (Gl ((c::r).takeWhile UJ)).2=true∨c.toNat < 48∨57 < c.toNat then ((c::r).takeWhile UJ).length else 0) else 0
theorem YV (c:UInt8) (r:Qr7):QC (c::r)=if c=40∨c=41 then 1 else
   if c=91 then (if ((c::r).takeWhile (· != 93)).length < (c::r).length then ((c::r).takeWhile (· != 93)).length+1 else 0) else
    if c=35∨c=63 then (if (Gl (r.takeWhile UJ)).2=true then 1+(r.takeWhile UJ).length else 0) else
     if UJ c=true then (if (Gl ((c::r).takeWhile UJ)).2=true∨c.toNat < 48∨57 < c.toNat then ((c::r).takeWhile UJ).length else 0) else 0:=rfl
theorem KD (s:Qr7):QC s≤s.length:=by
 cases s with
 | nil=>exact Ck _
 | cons c r =>
  have h1:=Gz (p:=UJ) r
  have h2:=Gz (p:=UJ) (c::r)
  rw [YV]
  rw [C2] at *
  split
  ·omega
  ·split
   ·split <;> omega
   ·split
    ·split <;> omega
    ·split
     ·split <;> omega
     ·omega
theorem Dj (c:UInt8):∀ s:Qr7,Lib.indexByte s c=if (s.takeWhile (· != c)).length < s.length then ((s.takeWhile (· != c)).length:Int) else -1
 | []=>rfl
 | b::s=>by
  unfold Lib.indexByte
  cases h:(b==c) with
  | true =>
   have h':(b != c)=false:=by unfold bne;rw [h];rfl
   have e1:(b::s).takeWhile (· != c)=[]:=by rw [P9,C8 (by rw [h'];exact Cn)]
   rw [Cc rfl,e1,Cc (by simp)];rfl
  | false =>
   have h':(b != c)=true:=by unfold bne;rw [h];rfl
   have e1:(b::s).takeWhile (· != c)=b::s.takeWhile (· != c):=by rw [P9,Cc h']
   rw [C8 Cn,e1,Dj c s,C2,C2]
   by_cases hl:(s.takeWhile (· != c)).length < s.length
   ·rw [Cc hl,C8 (by simp),Cc (by omega)];omega
   ·rw [C8 hl,Cc (by rfl),C8 (by omega)]
theorem nat_u8 (b:UInt8):((b.toNat:Int).toNat).toUInt8=b:=by simp
theorem Q2o (c:UInt8) (n:UInt8):((c.toNat:Int)==(n.toNat:Int))=decide (c=n):=by
 rw [ZJ]
 by_cases e:c=n
 ·subst e;simp
 ·rw [C6 e,C6]
  intro h';exact e (So.1 (by omega))
theorem Qon (a b:Bool):(cond a (some true) (some b))=some (a||b):=by cases a <;> rfl
theorem Q2x {a b n:Nat} (h1:a≤b) (h2:b≤n):(cond (decide (0≤(a:Int))) (cond (Nat.ble (a:Int).toNat (b:Int).toNat) (Q1z (b:Int) n) false) false)=true:=by
 rw [C5 (by omega),C7,Cb (by show a≤b;exact h1),C7]
 unfold Q1z
 rw [C5 (by omega),C7]
 exact Cb h2
theorem Q2y (s:Qr7) {a b:Nat} (h:a≤b):List.drop (a:Int).toNat (List.take (b:Int).toNat s)=(s.drop a).take (b - a):=by
 show List.drop a (List.take b s)=_
 rw [List.drop_take]
theorem Ub {p:UInt8→Bool} (s:Qr7):s.take (s.takeWhile p).length=s.takeWhile p:=by
 conv=>lhs;rw [← Cz (p:=p) (l:=s)]
 have h:((s.takeWhile p++s.dropWhile p).takeWhile p).length=(s.takeWhile p).length:=by rw [Cz]
 rw [h,List.take_left']
 rfl
theorem m123_eq (s:Qr7) (hs:s.length≤65536) {k:Nat} (hk:k < s.length):Qh3 s (k:Int)=some ((k+QC (s.drop k):Nat):Int):=by
 obtain ⟨c,hc⟩:∃ c,s[k]?=some c:=⟨_,Co hk⟩
 have hd:s.drop k=c::s.drop (k+1):=Q9f hc
 have hnx:Qo ((k:Int)+1)=((k+1:Nat):Int):=Gj (by omega)
 unfold Qh3
 rw [show J0 s (k:Int)=some c from hc,C1,Qon,C1,hd,hnx,YV]
 rw [show ((c.toNat:Int)==40)=decide (c=40) from Q2o c 40,show ((c.toNat:Int)==41)=decide (c=41) from Q2o c 41,
  show ((c.toNat:Int)==91)=decide (c=91) from Q2o c 91,show ((c.toNat:Int)==35)=decide (c=35) from Q2o c 35,show ((c.toNat:Int)==63)=decide (c=63) from Q2o c 63]
 by_cases hp:c=40∨c=41
 ·rw [Cc hp,show (decide (c=40)||decide (c=41))=true by rcases hp with rfl | rfl <;> rfl];rfl
 ·have e1:decide (c=40)=false:=C6 fun e=>hp (.inl e)
  have e2:decide (c=41)=false:=C6 fun e=>hp (.inr e)
  rw [C8 hp,e1,e2,Bool.or_false,Cd]
  by_cases hb:c=91
  ·rw [Cc hb,C5 hb,C7]
   have hin:Q1z (k:Int) s.length=true:=by unfold Q1z;rw [C5 (by omega),C7];exact Cb (by show k≤_;omega)
   rw [Qw hin]
   have h122:Qdb (List.drop (k:Int).toNat s) 93=some (Lib.indexByte (c::s.drop (k+1)) 93):=by rw [← hd];rfl
   rw [h122,C1,Dj]
   have hlen:(c::s.drop (k+1)).length=s.length - k:=by rw [← hd,Cu]
   by_cases hl:((c::s.drop (k+1)).takeWhile (· != 93)).length < (c::s.drop (k+1)).length
   ·rw [Cc hl,Cc hl]
    generalize ((c::s.drop (k+1)).takeWhile (· != 93)).length=n at hl
    rw [C5 (by omega),C7]
    rw [Y2 (n:=(k:Int)+(n:Int)) (by omega) (by omega),Y2 (by omega) (by omega)]
    show some ((k:Int)+(n:Int)+1)=_
    congr 1
   ·rw [C8 hl,C8 hl];rfl
  ·rw [C8 hb,C6 hb,Cd,Qon,C1]
   by_cases hh:c=35∨c=63
   ·rw [Cc hh,show (decide (c=35)||decide (c=63))=true by rcases hh with rfl | rfl <;> rfl,C7]
    rw [Qf9 s (by omega) (k:=k+1) (by omega),C1]
    have hw:=Gz (p:=UJ) (s.drop (k+1))
    rw [Cu] at hw
    rw [Qw (Q2x (by omega) (by omega)),Q2y s (by omega),PQ,Ub]
    rw [Q02 _ (by have:=Gz (p:=UJ) (s.drop (k+1));rw [Cu] at this;omega),C1]
    cases (Gl ((s.drop (k+1)).takeWhile UJ)).2 with
    | true =>
     rw [C7,Cc rfl]
     show some ((k+1+((s.drop (k+1)).takeWhile UJ).length:Nat):Int)=_
     rw [Pi]
    | false=>rw [Cd,C8 Cn];rfl
   ·have e3:decide (c=35)=false:=C6 fun e=>hh (.inl e)
    have e4:decide (c=63)=false:=C6 fun e=>hh (.inr e)
    rw [C8 hh,e3,e4,Bool.or_false,Cd,Qf8,C1]
    show Option.bind (Option.bind (Option.bind (cond (UJ c) _ _) _) _) _=_
    cases hi:UJ c with
    | false=>rw [C8 Cn];rfl
    | true =>
     rw [Cc rfl,C7,Qf9 s (by omega) (by omega),C1,hd]
     have hw:=Gz (p:=UJ) (c::s.drop (k+1))
     rw [← hd] at hw ⊢
     rw [Cu] at hw
     rw [Qw (Q2x (by omega) (by omega)),Q2y s (by omega),PQ,Ub]
     rw [Q02 _ (by have:=Gz (p:=UJ) (s.drop k);rw [Cu] at this;omega),C1]
     have e5:decide ((c.toNat:Int) < 48)=decide (c.toNat < 48):=decide_eq_decide.2 (by omega)
     have e6:decide (57 < (c.toNat:Int))=decide (57 < c.toNat):=decide_eq_decide.2 (by omega)
     rw [Qon,e5,e6,Qon,C1]
     by_cases hz:(Gl ((s.drop k).takeWhile UJ)).2=true∨c.toNat < 48∨57 < c.toNat
     ·rw [Cc hz,show ((Gl ((s.drop k).takeWhile UJ)).2||(decide (c.toNat < 48)||decide (57 < c.toNat)))=true by simpa using hz];rfl
     ·rw [C8 hz,show ((Gl ((s.drop k).takeWhile UJ)).2||(decide (c.toNat < 48)||decide (57 < c.toNat)))=false by simpa using hz];rfl
def isSp (b:UInt8):Bool:=([32,9,13,10]:List UInt8).contains b
def Yt:Nat→Qr7→Nat→List Tkn
 | 0,_,_=>[]
 | n+1,r,k=>if QC (r.dropWhile isSp)=0 then [⟨[],((k+(r.takeWhile isSp).length:Nat):Int)⟩] else
   ⟨(r.dropWhile isSp).take (QC (r.dropWhile isSp)),((k+(r.takeWhile isSp).length:Nat):Int)⟩::Yt n ((r.dropWhile isSp).drop (QC (r.dropWhile isSp))) (k+(r.takeWhile isSp).length+QC (r.dropWhile isSp))
def Jy (s:Qr7):List Tkn:=Yt (s.length+1) s 0
theorem sp_at (b:UInt8):decide (0≤Lib.indexByte ([32,9,13,10]:List UInt8) b)=isSp b:=by
 by_cases h1:b=32
 ·subst h1;rfl
 ·by_cases h2:b=9
  ·subst h2;rfl
  ·by_cases h3:b=13
   ·subst h3;rfl
   ·by_cases h4:b=10
    ·subst h4;rfl
    ·have e1:Lib.indexByte ([32,9,13,10]:List UInt8) b = -1:=by simp [Lib.indexByte,Ne.symm h1,Ne.symm h2,Ne.symm h3,Ne.symm h4]
     have e2:isSp b=false:=by unfold isSp;simp [h1,h2,h3,h4]
     rw [e1,e2];rfl
def Q2u (a0:Qr7):Int×(List Tkn)→Option (LO (Int×(List Tkn)) (Unit⊕(List Tkn))):=(fun s42=>Option.bind (Qa (σ:=Int) (β:=Int) (fun s54=>Option.bind (cond ((decide (s54 < (a0.length:Int)))) (Option.bind (J0 a0 s54) fun (x59:UInt8)=>Option.bind (Qdb ([32,9,13,10]:List UInt8) (x59.toNat:Int)) fun (x60:Int)=>some (decide (0≤x60))) (some false)) fun (v58:Bool)=>cond v58 (some (.next (Qo (s54+1)))) (some (.done s54))) Qd s42.1) fun (v55:Int)=>Option.bind (cond ((decide (v55 < (a0.length:Int)))) (Option.bind (Qh3 a0 v55) fun (x63:Int)=>some x63) (some v55)) fun (v62:Int)=>Q7 (cond (decide (0≤v55)) (cond (Nat.ble v55.toNat v62.toNat) (Q1z v62 a0.length) false) false) (Q7 (Nat.ble (s42.2.length+([(Tkn.mk (List.drop v55.toNat (List.take v62.toNat a0)) v55)]:List Tkn).length) 1000000000) (cond ((v62==v55)) (some (.done (.inr (s42.2++([(Tkn.mk (List.drop v55.toNat (List.take v62.toNat a0)) v55)]:List Tkn))))) (some (.next (v62,(s42.2++([(Tkn.mk (List.drop v55.toNat (List.take v62.toNat a0)) v55)]:List Tkn))))))))
theorem sp_loop (s:Qr7) (hs:s.length≤900000000) {k:Nat} (hk:k≤s.length):Qa (σ:=Int) (β:=Int) (fun s54=>Option.bind (cond ((decide (s54 < (s.length:Int)))) (Option.bind (J0 s s54) fun (x59:UInt8)=>Option.bind (Qdb ([32,9,13,10]:List UInt8) (x59.toNat:Int)) fun (x60:Int)=>some (decide (0≤x60))) (some false)) fun (v58:Bool)=>cond v58 (some (.next (Qo (s54+1)))) (some (.done s54))) Qd (k:Int)=some ((k+((s.drop k).takeWhile isSp).length:Nat):Int):=by
 refine Q3s s isSp hs (fun j b hb=>?_) ?_ k hk
 ·rw [C5 (by have:=(Cf.1 hb).1;omega),C7,show J0 s (j:Int)=some b from hb,C1]
  rw [show Qdb ([32,9,13,10]:List UInt8) (b.toNat:Int)=some (Lib.indexByte ([32,9,13,10]:List UInt8) b) by unfold Qdb;rw [nat_u8],C1,sp_at,C1]
  cases isSp b <;> rfl
 ·rw [JA];rfl
theorem ZH {p:UInt8→Bool} (s:Qr7):(s.takeWhile p).length+(s.dropWhile p).length=s.length:=by
 rw [← C9,Cz]
theorem Qa4 (s:Qr7) (hs:s.length≤65536):∀ (n k:Nat) (acc:List Tkn),k≤s.length→s.length < n+k→acc.length≤k→Qa (Q2u s) n ((k:Int),acc)=some (.inr (acc++Yt n (s.drop k) k))
 | 0,k,acc,h1,h2,h3=>by omega
 | n+1,k,acc,h1,h2,h3=>by
  have hdl:=ZH (p:=isSp) (s.drop k)
  rw [Cu] at hdl
  have hsp:s.drop (k+((s.drop k).takeWhile isSp).length)=(s.drop k).dropWhile isSp:=by rw [← X0,List.drop_drop]
  have hsc:=KD ((s.drop k).dropWhile isSp)
  have hsl:=sp_loop s (by omega) h1
  have hlx:Yt (n+1) (s.drop k) k=if QC ((s.drop k).dropWhile isSp)=0 then [⟨[],((k+((s.drop k).takeWhile isSp).length:Nat):Int)⟩] else
   ⟨((s.drop k).dropWhile isSp).take (QC ((s.drop k).dropWhile isSp)),((k+((s.drop k).takeWhile isSp).length:Nat):Int)⟩::Yt n (((s.drop k).dropWhile isSp).drop (QC ((s.drop k).dropWhile isSp))) (k+((s.drop k).takeWhile isSp).length+QC ((s.drop k).dropWhile isSp)):=rfl
  rw [hlx]
  rw [← hsp] at hdl hsc ⊢
  generalize ((s.drop k).takeWhile isSp).length=t at *
  rw [Cu] at hdl hsc
  have hto:(cond ((decide (((k+t:Nat):Int) < (s.length:Int)))) (Option.bind (Qh3 s ((k+t:Nat):Int)) fun (x63:Int)=>some x63) (some ((k+t:Nat):Int)))=some ((k+t+QC (s.drop (k+t)):Nat):Int):=by
   by_cases hlt:k+t < s.length
   ·rw [C5 (by omega),C7,m123_eq s hs hlt];rfl
   ·rw [C6 (by omega),Cd,List.drop_eq_nil_of_le (by omega)];rfl
  have hst:Q2u s ((k:Int),acc)=cond (((k+t+QC (s.drop (k+t)):Nat):Int)==((k+t:Nat):Int)) (some (.done (.inr (acc++[⟨(s.drop (k+t)).take (QC (s.drop (k+t))),((k+t:Nat):Int)⟩])))) (some (.next (((k+t+QC (s.drop (k+t)):Nat):Int),acc++[⟨(s.drop (k+t)).take (QC (s.drop (k+t))),((k+t:Nat):Int)⟩]))):=by
   unfold Q2u
   dsimp only
   rw [hsl,C1,hto,C1,Qw (Q2x (by omega) (by omega)),Dl (by simp only [C2,Ce];omega),Q2y s (by omega),PQ]
  simp only [Qa]
  rw [hst]
  by_cases h0:QC (s.drop (k+t))=0
  ·rw [Cc h0,h0,PV,CZ.2 rfl,C7];rfl
  ·rw [C8 h0,show ((((k+t+QC (s.drop (k+t)):Nat):Int)==((k+t:Nat):Int))=false) from Pq.2 (by omega),Cd]
   show Qa (Q2u s) n (((k+t+QC (s.drop (k+t)):Nat):Int),acc++[_])=_
   rw [Qa4 s hs n (k+t+QC (s.drop (k+t))) _ (by omega) (by omega) (by rw [C9];simp only [C2,Ce];omega),Cy,List.drop_drop]
   rfl
theorem Q93:∀ (n:Nat) (r:Qr7) (k:Nat),(Yt n r k).length≤n
 | 0,_,_=>Ck _
 | n+1,r,k=>by
  unfold Yt
  split
  ·show 1≤n+1;omega
  ·rw [C2];have:=Q93 n ((r.dropWhile isSp).drop (QC (r.dropWhile isSp))) (k+(r.takeWhile isSp).length+QC (r.dropWhile isSp));omega
theorem WE (n:Nat) (r:Qr7) (k:Nat):0 < (Yt (n+1) r k).length:=by
 unfold Yt
 split
 ·exact Nat.zero_lt_one
 ·exact Pm _
theorem Q2s (x:Tkn) (l:List Tkn):J6 (x::l) 0=x.text:=rfl
theorem Z6 (x:Tkn) (l:List Tkn) (j:Nat):J6 (x::l) (j+1)=J6 l j:=rfl
theorem Qc4 (x:Tkn) (l:List Tkn):UG (x::l) 0=x.at_:=rfl
theorem Dv (x:Tkn) (l:List Tkn) (j:Nat):UG (x::l) (j+1)=UG l j:=rfl
theorem Q26 (j:Nat):J6 [] j=[]:=by unfold J6;simp
theorem scan_br {r:Qr7} (h:QC r ≠ 0) (hb:Lib.hasPrefix (r.take (QC r)) [91]=true):2≤QC r∧QC r≤r.length:=by
 refine ⟨?_,KD r⟩
 cases r with
 | nil=>exact absurd rfl h
 | cons c r =>
  have hc:c=91:=by
   obtain ⟨n,hn⟩:=Nat.exists_eq_succ_of_ne_zero h
   rw [hn,PB] at hb
   unfold Lib.hasPrefix at hb
   simp only [List.isPrefixOf,Bool.and_true] at hb
   exact (CZ.1 hb).symm
  subst hc
  rw [YV,C8 (by decide),Cc rfl] at h ⊢
  split
  ·rw [P9,Cc (by decide),C2];omega
  ·rename_i h';rw [C8 h'] at h;exact absurd rfl h
theorem Q92:∀ (n:Nat) (r:Qr7) (k:Nat),r.length < n→r.length≤65536→(∀ j,J6 (Yt n r k) j ≠ []→j+1 < (Yt n r k).length)∧(∀ j,(J6 (Yt n r k) j).length≤65536)∧∀ j,Lib.hasPrefix (J6 (Yt n r k) j) [91]=true→2≤(J6 (Yt n r k) j).length
 | 0,r,k,h,_=>by omega
 | n+1,r,k,h,h6=>by
  have hdl:=ZH (p:=isSp) r
  have hsc:=KD (r.dropWhile isSp)
  unfold Yt
  split
  ·refine ⟨fun j hj=>?_,fun j=>?_,fun j hj=>?_⟩
   ·cases j with
    | zero=>exact absurd rfl hj
    | succ j=>rw [Z6,Q26] at hj;exact absurd rfl hj
   ·cases j with
    | zero=>exact Cp _
    | succ j=>rw [Z6,Q26];exact Cp _
   ·cases j with
    | zero=>rw [Q2s] at hj;cases hj
    | succ j=>rw [Z6,Q26] at hj;cases hj
  ·rename_i h0
   obtain ⟨i1,i2,i3⟩:=Q92 n ((r.dropWhile isSp).drop (QC (r.dropWhile isSp))) (k+(r.takeWhile isSp).length+QC (r.dropWhile isSp)) (by rw [Cu];omega) (by rw [Cu];omega)
   refine ⟨fun j hj=>?_,fun j=>?_,fun j hj=>?_⟩
   ·cases j with
    | zero =>
     rw [C2]
     have:0 < (Yt n ((r.dropWhile isSp).drop (QC (r.dropWhile isSp))) (k+(r.takeWhile isSp).length+QC (r.dropWhile isSp))).length:=by
      cases n with
      | zero=>omega
      | succ n=>exact WE n _ _
     omega
    | succ j=>rw [Z6] at hj;rw [C2];have:=i1 j hj;omega
   ·cases j with
    | zero=>rw [Q2s];show (List.take _ _).length≤_;rw [CI];omega
    | succ j=>rw [Z6];exact i2 j
   ·cases j with
    | zero =>
     rw [Q2s] at hj ⊢
     have:=scan_br h0 hj
     show 2≤(List.take _ _).length
     rw [CI];omega
    | succ j=>rw [Z6] at hj ⊢;exact i3 j hj
theorem Q27 (s:Qr7) (h:s.length≤65536):GL (Jy s) where
 len:=by have:=Q93 (s.length+1) s 0;unfold Jy;omega
 last:=(Q92 (s.length+1) s 0 (by omega) h).1
 short:=(Q92 (s.length+1) s 0 (by omega) h).2.1
 br:=(Q92 (s.length+1) s 0 (by omega) h).2.2
def Qpa:Tm:=Tm.mk 0 0 [] [] []
inductive RdE where
 | ok (t:Tm)
 | bad (i:Int)
def G9 (lv:Qr7→Lvl×Int) (s:Qr7):RdE:=match Qpr lv Qd (J6 (Jy s)) 0 with
 | .inl (t,m)=>if J6 (Jy s) m=[]∧UG (Jy s) m=(s.length:Int) then .ok t else .bad (UG (Jy s) m)
 | .inr m=>.bad (UG (Jy s) m)
theorem m15_eq {lv:Qr7→Lvl×Int} (hl:∀ s:Qr7,s.length≤65536→Da s=some (lv s)) (s:Qr7) (h:s.length≤65536):Q9w s=match G9 lv s with
  | .ok t=>Option.bind (Qhd t) fun (x69:(List UInt8)×Int)=>cond ((x69.2 != 0)) (some (Qpa,0,x69.2)) (some (t,0,0))
  | .bad i=>some (Qpa,i,4):=by
 have hG:=Q27 s h
 have h0:0 < (Jy s).length:=WE _ _ _
 have ht:Qa (Q2u s) Qd ((0:Int),[])=some (.inr (Jy s)):=by
  have key:∀ n,s.length+1≤n→Qa (Q2u s) n ((0:Int),[])=some (.inr (Yt n s 0)):=fun n hn=>Qa4 s h n 0 [] (Cp _) (by omega) (Cp _)
  have e:∀ (n:Nat) (r:Qr7) (k:Nat),r.length < n→Yt (n+1) r k=Yt n r k:=by
   intro n
   induction n with
   | zero=>intro r k hr;omega
   | succ n ih =>
    intro r k hr
    have hdl:=ZH (p:=isSp) r
    have hsc:=KD (r.dropWhile isSp)
    show (if QC (r.dropWhile isSp)=0 then _ else _::Yt (n+1) _ _)=(if QC (r.dropWhile isSp)=0 then _ else _::Yt n _ _)
    by_cases hz:QC (r.dropWhile isSp)=0
    ·rw [Cc hz,Cc hz]
    ·rw [C8 hz,C8 hz,ih _ _ (by rw [Cu];omega)]
  have e2:∀ d,Yt (s.length+1+d) s 0=Jy s:=by
   intro d
   induction d with
   | zero=>rfl
   | succ d ih=>rw [← Pi,e _ _ _ (by omega),ih]
  rw [key Qd (by unfold Qd;omega)]
  obtain ⟨d,hd⟩:∃ d,Qd=s.length+1+d:=⟨Qd - (s.length+1),by unfold Qd;omega⟩
  rw [hd,e2]
 unfold Q9w
 rw [C6 (by omega),Cd]
 show Option.bind (Option.bind (Qa (Q2u s) Qd ((0:Int),[])) _) _=_
 rw [ht]
 show Option.bind (Qol ⟨Jy s,0⟩) _=_
 rw [m36_eq hl hG h0]
 unfold G9
 cases hr:Qpr lv Qd (J6 (Jy s)) 0 with
 | inr m=>rfl
 | inl r =>
  obtain ⟨t,m⟩:=r
  have hm:=((Q62 lv Qd).rng (J6 (Jy s)) (Jy s).length 0 hG.last h0).1 t m hr
  show Option.bind (Qnp ⟨Jy s,(m:Int)⟩ s) _=_
  rw [m37_eq hm]
  by_cases he:J6 (Jy s) m=[]∧UG (Jy s) m=(s.length:Int)
  ·rw [Cc he];dsimp only;rw [Cc he];rfl
  ·rw [C8 he];dsimp only;rw [C8 he];rfl
end
noncomputable section
open Go.RowKit Go.Shelf
theorem takeW_split {p:UInt8→Bool} {s:Qr7} (h:(s.takeWhile p).length < s.length):∃ x t,s=s.takeWhile p++x::t∧p x=false:=by
 cases hd:s.dropWhile p with
 | nil =>
  have:=ZH (p:=p) s
  rw [hd] at this
  simp only [Ce] at this
  omega
 | cons x t =>
  refine ⟨x,t,by rw [← hd,Cz],?_⟩
  have h2:=List.head_dropWhile_not (p:=p) (l:=s) (by rw [hd];exact List.cons_ne_nil _ _)
  simpa [hd] using h2
theorem DN {p:UInt8→Bool}:∀ (w:Qr7) (x:UInt8) (t:Qr7),(∀ b∈w,p b=true)→p x=false→(w++x::t).takeWhile p=w
 | [],x,t,_,hx=>by rw [P7,P9,C8 (by rw [hx];exact Cn)]
 | b::w,x,t,hw,hx=>by rw [Pu,P9,Cc (hw b Ch),DN w x t (fun c hc=>hw c (Ci _ hc)) hx]
theorem Q5r {p:UInt8→Bool} (s:Qr7):∀ b∈s.takeWhile p,p b=true:=fun b hb=>Cg.1 (Sy (p:=p) (l:=s)) b hb
theorem G4 {p:UInt8→Bool} {s s':Qr7} (h:(s.takeWhile p).length < s.length) (e:s'.take ((s.takeWhile p).length+1)=s.take ((s.takeWhile p).length+1)):s'.takeWhile p=s.takeWhile p∧(s.takeWhile p).length < s'.length:=by
 obtain ⟨x,t,hs,hx⟩:=takeW_split h
 have hw:=Q5r (p:=p) s
 generalize s.takeWhile p=w at *
 have e2:s.take (w.length+1)=w++[x]:=by rw [hs,List.take_append,Pl (by omega)];simp
 rw [e2] at e
 have e3:s'=w++x::s'.drop (w.length+1):=by
  conv=>lhs;rw [← S0 (w.length+1) s',e]
  simp
 refine ⟨by rw [e3];exact DN w x _ hw hx,?_⟩
 rw [e3,C9,C2];omega
theorem scanL_local {r r':Qr7} (h0:QC r ≠ 0) (hl:QC r+1≤r.length) (e:r'.take (QC r+1)=r.take (QC r+1)):QC r'=QC r:=by
 cases r with
 | nil=>exact absurd rfl h0
 | cons c r =>
  cases r' with
  | nil =>
   rw [PB] at e
   simp at e
  | cons c' r' =>
   have hc:c'=c:=by rw [PB,PB] at e;exact (Pf e).1
   subst hc
   have e':r'.take (QC (c'::r))=r.take (QC (c'::r)):=by rw [PB,PB] at e;exact (Pf e).2
   rw [YV] at h0 hl e e'
   rw [YV,YV]
   by_cases hp:c'=40∨c'=41
   ·rw [Cc hp,Cc hp]
   ·rw [C8 hp] at h0 hl e e'
    rw [C8 hp,C8 hp]
    by_cases hb:c'=91
    ·rw [Cc hb] at h0 hl e e'
     rw [Cc hb,Cc hb]
     by_cases hlt:((c'::r).takeWhile (· != 93)).length < (c'::r).length
     ·rw [Cc hlt] at h0 hl e e'
      rw [Cc hlt]
      have:=G4 (p:=(· != 93)) (s:=c'::r) (s':=c'::r') hlt (by
       have:=congrArg (List.take (((c'::r).takeWhile (· != 93)).length+1)) e
       rw [List.take_take,List.take_take,Nat.min_eq_left (by omega)] at this
       exact this)
      rw [this.1,Cc this.2]
     ·rw [C8 hlt] at h0;exact absurd rfl h0
    ·rw [C8 hb] at h0 hl e e'
     rw [C8 hb,C8 hb]
     by_cases hh:c'=35∨c'=63
     ·rw [Cc hh] at h0 hl e e'
      rw [Cc hh,Cc hh]
      by_cases hn:(Gl (r.takeWhile UJ)).2=true
      ·rw [Cc hn] at h0 hl e e'
       rw [Cc hn]
       rw [C2] at hl
       have:=G4 (p:=UJ) (s:=r) (s':=r') (by omega) (by rw [Nat.add_comm];exact e')
       rw [this.1,Cc hn]
      ·rw [C8 hn] at h0;exact absurd rfl h0
     ·rw [C8 hh] at h0 hl e e'
      rw [C8 hh,C8 hh]
      by_cases hi:UJ c'=true
      ·rw [Cc hi] at h0 hl e e'
       rw [Cc hi,Cc hi]
       by_cases hn:(Gl ((c'::r).takeWhile UJ)).2=true∨c'.toNat < 48∨57 < c'.toNat
       ·rw [Cc hn] at h0 hl e e'
        rw [Cc hn]
        have:=G4 (p:=UJ) (s:=c'::r) (s':=c'::r') (by omega) e
        rw [this.1,Cc hn]
       ·rw [C8 hn] at h0;exact absurd rfl h0
      ·rw [C8 hi] at h0;exact absurd rfl h0
theorem Z1 (n:Nat) (r:Qr7) (k:Nat):Yt (n+1) r k=if QC (r.dropWhile isSp)=0 then [⟨[],((k+(r.takeWhile isSp).length:Nat):Int)⟩] else
   ⟨(r.dropWhile isSp).take (QC (r.dropWhile isSp)),((k+(r.takeWhile isSp).length:Nat):Int)⟩::Yt n ((r.dropWhile isSp).drop (QC (r.dropWhile isSp))) (k+(r.takeWhile isSp).length+QC (r.dropWhile isSp)):=rfl
theorem Qde:∀ (n:Nat) (r:Qr7) (k j:Nat),r.length < n→j < (Yt n r k).length→∃ d:Nat,UG (Yt n r k) j=((k+d:Nat):Int)∧d≤r.length
 | 0,r,k,j,h,_=>by omega
 | n+1,r,k,j,h,hj=>by
  have hdl:=ZH (p:=isSp) r
  have hsc:=KD (r.dropWhile isSp)
  rw [Z1] at hj ⊢
  by_cases h0:QC (r.dropWhile isSp)=0
  ·rw [Cc h0] at hj ⊢
   have:j=0:=by simp at hj;omega
   subst this
   exact ⟨_,rfl,by omega⟩
  ·rw [C8 h0] at hj ⊢
   cases j with
   | zero=>exact ⟨_,rfl,by omega⟩
   | succ j =>
    rw [Dv]
    rw [C2] at hj
    obtain ⟨d,hd,hd2⟩:=Qde n ((r.dropWhile isSp).drop (QC (r.dropWhile isSp))) (k+(r.takeWhile isSp).length+QC (r.dropWhile isSp)) j (by rw [Cu];omega) (by omega)
    refine ⟨(r.takeWhile isSp).length+QC (r.dropWhile isSp)+d,?_,?_⟩
    ·rw [hd];congr 1;omega
    ·rw [Cu] at hd2;omega
theorem UZ {c:UInt8} (hc:c=40∨c=41) (r:Qr7):QC (c::r)=1:=by rw [YV,Cc hc]
theorem par_sp {c:UInt8} (hc:c=40∨c=41):isSp c=false:=by rcases hc with rfl | rfl <;> decide
theorem Q3a {r rest:Qr7} {a b:Nat} (h:b≤a) (ha:a≤r.length):(r.take a++rest).take b=r.take b:=by
 rw [List.take_append_of_le_length (by rw [CI];omega),List.take_take,Nat.min_eq_left h]
theorem Qan {r rest:Qr7} {a b:Nat} (h:b≤a) (ha:a≤r.length):(r.take a++rest).drop b=(r.drop b).take (a - b)++rest:=by
 rw [Py (by rw [CI];omega),List.drop_take]
theorem Q3u:∀ (n:Nat) (r:Qr7) (k m d:Nat) (c:UInt8) (n':Nat) (rest:Qr7),r.length < n→(r.take (d+1)++rest).length < n'→m < (Yt n r k).length→UG (Yt n r k) m=((k+d:Nat):Int)→r[d]?=some c→(c=40∨c=41) →
  J6 (Yt n r k) m ≠ []∧m < (Yt n' (r.take (d+1)++rest) k).length∧∀ j,j≤m→J6 (Yt n' (r.take (d+1)++rest) k) j=J6 (Yt n r k) j∧UG (Yt n' (r.take (d+1)++rest) k) j=UG (Yt n r k) j
 | 0,r,k,m,d,c,n',rest,h,_,_,_,_,_=>by omega
 | _+1,r,k,m,d,c,0,rest,_,h,_,_,_,_=>by omega
 | n+1,r,k,m,d,c,n'+1,rest,hn,hn',hm,ha,hd,hc=>by
  have hdl:=ZH (p:=isSp) r
  have hsc:=KD (r.dropWhile isSp)
  have hdr:d < r.length:=(Cf.1 hd).1
  have hdw:=X0 (p:=isSp) r
  rw [Z1] at hm ha
  by_cases h0:QC (r.dropWhile isSp)=0
  ·exfalso
   rw [Cc h0] at hm ha
   have:m=0:=by simp at hm;omega
   subst this
   rw [Qc4] at ha
   have hdt:d=(r.takeWhile isSp).length:=by have:=Int.ofNat.inj ha;omega
   subst hdt
   rw [← hdw,Q9f hd,UZ hc] at h0
   cases h0
  ·rw [C8 h0] at hm ha
   cases m with
   | zero =>
    rw [Qc4] at ha
    have hdt:d=(r.takeWhile isSp).length:=by have:=Int.ofNat.inj ha;omega
    have e1:r.take (d+1)=r.takeWhile isSp++[c]:=by
     rw [hdt,Sh,Ub,← hdt,hd];rfl
    have e2:(r.take (d+1)++rest).takeWhile isSp=r.takeWhile isSp:=by
     rw [e1,Cy];exact DN _ c rest (Q5r r) (par_sp hc)
    have e3:(r.take (d+1)++rest).dropWhile isSp=c::rest:=by
     rw [← X0,e2,e1,Cy,List.drop_left']
     ·rfl
     ·rfl
    have e4:r.dropWhile isSp=c::r.drop (d+1):=by rw [← hdw,← hdt,Q9f hd]
    refine ⟨by rw [Z1,e4,UZ hc,C8 (by decide)];exact List.cons_ne_nil _ _,WE _ _ _,fun j hj=>?_⟩
    have:j=0:=by omega
    subst this
    rw [Z1,Z1,e2,e3,e4,UZ hc,UZ hc]
    exact ⟨Z,Z⟩
   | succ m =>
    rw [C2] at hm
    rw [Dv] at ha
    obtain ⟨d',hd',-⟩:=Qde n ((r.dropWhile isSp).drop (QC (r.dropWhile isSp))) (k+(r.takeWhile isSp).length+QC (r.dropWhile isSp)) m (by rw [Cu];omega) (by omega)
    have hdd:d=(r.takeWhile isSp).length+QC (r.dropWhile isSp)+d':=by rw [hd'] at ha;have:=Int.ofNat.inj ha;omega
    have q:∀ j,(r.dropWhile isSp)[j]?=r[(r.takeWhile isSp).length+j]?:=fun j=>by rw [← hdw,CR]
    have ih:=Q3u n ((r.dropWhile isSp).drop (QC (r.dropWhile isSp))) (k+(r.takeWhile isSp).length+QC (r.dropWhile isSp)) m d' c n' rest (by rw [Cu];omega)
     (by rw [C9,CI] at hn' ⊢;rw [Cu];omega) (by omega) hd' (by rw [CR,q,← Pi,← hdd];exact hd) hc
    have htl:(r.takeWhile isSp).length < r.length:=by omega
    obtain ⟨e2,-⟩:=G4 (p:=isSp) (s:=r) (s':=r.take (d+1)++rest) htl (Q3a (by omega) (by omega))
    have e3:(r.take (d+1)++rest).dropWhile isSp=(r.dropWhile isSp).take (d+1 - (r.takeWhile isSp).length)++rest:=by
     rw [← X0,e2,Qan (by omega) (by omega),hdw]
    have e4:QC ((r.dropWhile isSp).take (d+1 - (r.takeWhile isSp).length)++rest)=QC (r.dropWhile isSp) :=
     scanL_local h0 (by omega) (Q3a (by omega) (by omega))
    have e5:((r.dropWhile isSp).take (d+1 - (r.takeWhile isSp).length)++rest).drop (QC (r.dropWhile isSp))=((r.dropWhile isSp).drop (QC (r.dropWhile isSp))).take (d'+1)++rest:=by
     rw [Qan (by omega) (by omega)];congr 2;omega
    have e6:((r.dropWhile isSp).take (d+1 - (r.takeWhile isSp).length)++rest).take (QC (r.dropWhile isSp))=(r.dropWhile isSp).take (QC (r.dropWhile isSp)):=Q3a (by omega) (by omega)
    rw [Z1,Z1,e2,e3,e4,C8 h0,C8 h0,e5,e6]
    refine ⟨ih.1,by rw [C2];have:=ih.2.1;omega,fun j hj=>?_⟩
    cases j with
    | zero=>exact ⟨rfl,rfl⟩
    | succ j=>rw [Z6,Z6,Dv,Dv];exact ih.2.2 j (by omega)
theorem read_prefix {lv:Qr7→Lvl×Int} {s rest:Qr7} {i:Nat} {c:UInt8} (hs:s.length≤65536) (hs':(s.take (i+1)++rest).length≤65536) (hc:s[i]?=some c) (hp:c=40∨c=41) (h:G9 lv s=.bad (i:Int)):G9 lv (s.take (i+1)++rest)=.bad (i:Int):=by
 have hPG:=Q62 lv Qd
 have hG:=Q27 s hs
 have hr:=hPG.rng (J6 (Jy s)) (Jy s).length 0 hG.last (WE _ _ _)
 have hdep:=hPG.dep (J6 (Jy s)) (J6 (Jy (s.take (i+1)++rest))) 0
 have hpre:∀ m,m < (Jy s).length→UG (Jy s) m=(i:Int)→J6 (Jy s) m ≠ []∧m < (Jy (s.take (i+1)++rest)).length∧∀ j,j≤m→J6 (Jy (s.take (i+1)++rest)) j=J6 (Jy s) j∧UG (Jy (s.take (i+1)++rest)) j=UG (Jy s) j :=
  fun m hm ha=>Q3u (s.length+1) s 0 m i c ((s.take (i+1)++rest).length+1) rest (by omega) (by omega) hm (by rw [P4];exact ha) hc hp
 unfold G9 at h ⊢
 cases hT:Qpr lv Qd (J6 (Jy s)) 0 with
 | inr m =>
  rw [hT] at h hr hdep
  have ha:UG (Jy s) m=(i:Int):=RdE.bad.inj h
  obtain ⟨-,h1,h2⟩:=hpre m (hr.2 m rfl) ha
  rw [hdep fun j hj=>((h2 j (Nat.le_of_lt_succ hj)).1).symm]
  show RdE.bad (UG (Jy (s.take (i+1)++rest)) m)=_
  rw [(h2 m (Ck _)).2,ha]
 | inl x =>
  obtain ⟨t,m⟩:=x
  rw [hT] at h hr hdep
  dsimp only at h
  by_cases he:J6 (Jy s) m=[]∧UG (Jy s) m=(s.length:Int)
  ·rw [Cc he] at h;cases h
  ·rw [C8 he] at h
   have ha:UG (Jy s) m=(i:Int):=RdE.bad.inj h
   obtain ⟨h0,h1,h2⟩:=hpre m (hr.1 t m rfl) ha
   rw [hdep fun j hj=>((h2 j (Nat.le_of_lt hj)).1).symm]
   dsimp only
   rw [(h2 m (Ck _)).2,(h2 m (Ck _)).1,C8 (fun e=>h0 e.1),ha]
theorem read_bad {lv:Qr7→Lvl×Int} {s:Qr7} {i:Int} (hs:s.length≤65536) (h:G9 lv s=.bad i):0≤i∧i≤(s.length:Int):=by
 have hPG:=Q62 lv Qd
 have hG:=Q27 s hs
 have hr:=hPG.rng (J6 (Jy s)) (Jy s).length 0 hG.last (WE _ _ _)
 have hat:∀ m,m < (Jy s).length→0≤UG (Jy s) m∧UG (Jy s) m≤(s.length:Int):=fun m hm=>by
  obtain ⟨d,h1,h2⟩:=Qde (s.length+1) s 0 m (by omega) hm
  unfold Jy
  rw [h1];omega
 unfold G9 at h
 cases hT:Qpr lv Qd (J6 (Jy s)) 0 with
 | inr m =>
  rw [hT] at h hr
  have:=hat m (hr.2 m rfl)
  rw [← RdE.bad.inj h];exact this
 | inl x =>
  obtain ⟨t,m⟩:=x
  rw [hT] at h hr
  dsimp only at h
  have:=hat m (hr.1 t m rfl)
  split at h
  ·cases h
  ·rw [← RdE.bad.inj h];exact this
end
noncomputable section
open Go.RowKit Go.Shelf
def arity (k:Int):Nat:=if k=4∨k=5∨k=6∨k=7 then 2 else if k=8∨k=11 then 3 else if k=9∨k=10 then 1 else 0
structure NodeP (t:Tm):Prop where
 k:0≤t.kind∧t.kind < 13
 ix:t.kind ≠ 0→t.kind ≠ 12→t.index=0
 ix0:0≤t.index
 ix1:t.index < 1000000000
 me:t.kind=12→t.index < 1000000
 nm:t.kind ≠ 3→t.name=[]
 nk:t.kind=3→YW t.name=true
 l2:t.kind=2→t.levels.length=1
 l0:t.kind ≠ 2→t.kind ≠ 3→t.levels=[]
 l3:t.levels.length≤8
 kd:t.kids.length=arity t.kind
 lv:∀ l∈t.levels,Q5i l
inductive OkT:Tm→Prop
 | mk {t:Tm} (h:NodeP t) (hk:∀ k∈t.kids,OkT k):OkT t
theorem OkT.node {t:Tm} (h:OkT t):NodeP t:=by cases h;assumption
theorem OkT.kid {t k:Tm} (h:OkT t) (hk:k∈t.kids):OkT k:=by cases h with | mk _ h=>exact h k hk
structure FormP (t:Tm):Prop where
 k:0≤t.kind∧t.kind < 13
 ix:t.kind ≠ 0→t.kind ≠ 12→t.index=0
 nm:t.kind ≠ 3→t.name=[]
 l2:t.kind=2→t.levels.length=1
 l0:t.kind ≠ 2→t.kind ≠ 3→t.levels=[]
 kd:t.kids.length=arity t.kind
theorem fits_ok (t:Tm) (h:WS t=some true):FormP t:=by
 by_cases h1:t.kind < 0
 ·exfalso;unfold WS at h;rw [C5 h1] at h;cases h
 by_cases h2:13≤t.kind
 ·exfalso;unfold WS at h;rw [C6 h1,C5 h2] at h;cases h
 have hk:t.kind=0∨t.kind=1∨t.kind=2∨t.kind=3∨t.kind=4∨t.kind=5∨t.kind=6∨t.kind=7∨t.kind=8∨t.kind=9∨t.kind=10∨t.kind=11∨t.kind=12:=by omega
 have fin:∀ (ix nm ln:Bool) (lv kd:Int),WS t=Qg7 ix nm ln (t.index==0) (t.name==[]) ((t.levels.length:Int)==lv) ((t.kids.length:Int)==kd) →
   (ix=false→t.index=0)∧(nm=false→t.name=[])∧(ln=false→(t.levels.length:Int)=lv)∧(t.kids.length:Int)=kd:=by
  intro ix nm ln lv kd e
  rw [h,Qbi] at e
  have e:=(Cw e).symm
  simp only [CD,Pz,CZ] at e
  obtain ⟨⟨⟨e1,e2⟩,e3⟩,e4⟩:=e
  exact ⟨fun h=>by rcases e1 with e | e;rw [h] at e;cases e;exact e,fun h=>by rcases e2 with e | e;rw [h] at e;cases e;exact e,fun h=>by rcases e3 with e | e;rw [h] at e;cases e;exact e,e4⟩
 obtain ⟨k,i,n,ls,ks⟩:=t
 dsimp only [Tm.kind,Tm.index,Tm.name,Tm.levels,Tm.kids] at *
 have mk:∀ {ix nm ln:Bool} {lv kd:Int},WS (Tm.mk k i n ls ks)=Qg7 ix nm ln (i==0) (n==[]) ((ls.length:Int)==lv) ((ks.length:Int)==kd)→(k ≠ 0→k ≠ 12→ix=false)→(k ≠ 3→nm=false)→(k=2→ln=false∧lv=1)→(k ≠ 2→k ≠ 3→ln=false∧lv=0)→kd=(arity k:Nat)→FormP (Tm.mk k i n ls ks):=by
  intro ix nm ln lv kd e h3 h4 h5 h6 h7
  obtain ⟨f1,f2,f3,f4⟩:=fin ix nm ln lv kd e
  refine ⟨⟨by show 0≤k;omega,by show k < 13;omega⟩,fun a b=>f1 (h3 a b),fun a=>f2 (h4 a),fun a=>?_,fun a b=>?_,?_⟩
  ·obtain ⟨g1,Qq8⟩:=h5 a
   have:=f3 g1
   show ls.length=1;omega
  ·obtain ⟨g1,Qq8⟩:=h6 a b
   have:=f3 g1
   show ls=[]
   exact CC (by omega)
  ·show ks.length=arity k;omega
 rcases hk with hk | hk | hk | hk | hk | hk | hk | hk | hk | hk | hk | hk | hk <;> subst hk
 ·exact mk (ix:=true) (nm:=false) (ln:=false) (lv:=0) (kd:=0) rfl (fun a=>(a rfl).elim) (fun _=>rfl) (fun a=>by omega) (fun _ _=>⟨rfl,rfl⟩) rfl
 ·exact mk (ix:=false) (nm:=false) (ln:=false) (lv:=0) (kd:=0) rfl (fun _ _=>rfl) (fun _=>rfl) (fun a=>by omega) (fun _ _=>⟨rfl,rfl⟩) rfl
 ·exact mk (ix:=false) (nm:=false) (ln:=false) (lv:=1) (kd:=0) rfl (fun _ _=>rfl) (fun _=>rfl) (fun _=>⟨rfl,rfl⟩) (fun a=>(a rfl).elim) rfl
 ·exact mk (ix:=false) (nm:=true) (ln:=true) (lv:=-1) (kd:=0) rfl (fun _ _=>rfl) (fun a=>(a rfl).elim) (fun a=>by omega) (fun _ a=>(a rfl).elim) rfl
 ·exact mk (ix:=false) (nm:=false) (ln:=false) (lv:=0) (kd:=2) rfl (fun _ _=>rfl) (fun _=>rfl) (fun a=>by omega) (fun _ _=>⟨rfl,rfl⟩) rfl
 ·exact mk (ix:=false) (nm:=false) (ln:=false) (lv:=0) (kd:=2) rfl (fun _ _=>rfl) (fun _=>rfl) (fun a=>by omega) (fun _ _=>⟨rfl,rfl⟩) rfl
 ·exact mk (ix:=false) (nm:=false) (ln:=false) (lv:=0) (kd:=2) rfl (fun _ _=>rfl) (fun _=>rfl) (fun a=>by omega) (fun _ _=>⟨rfl,rfl⟩) rfl
 ·exact mk (ix:=false) (nm:=false) (ln:=false) (lv:=0) (kd:=2) rfl (fun _ _=>rfl) (fun _=>rfl) (fun a=>by omega) (fun _ _=>⟨rfl,rfl⟩) rfl
 ·exact mk (ix:=false) (nm:=false) (ln:=false) (lv:=0) (kd:=3) rfl (fun _ _=>rfl) (fun _=>rfl) (fun a=>by omega) (fun _ _=>⟨rfl,rfl⟩) rfl
 ·exact mk (ix:=false) (nm:=false) (ln:=false) (lv:=0) (kd:=1) rfl (fun _ _=>rfl) (fun _=>rfl) (fun a=>by omega) (fun _ _=>⟨rfl,rfl⟩) rfl
 ·exact mk (ix:=false) (nm:=false) (ln:=false) (lv:=0) (kd:=1) rfl (fun _ _=>rfl) (fun _=>rfl) (fun a=>by omega) (fun _ _=>⟨rfl,rfl⟩) rfl
 ·exact mk (ix:=false) (nm:=false) (ln:=false) (lv:=0) (kd:=3) rfl (fun _ _=>rfl) (fun _=>rfl) (fun a=>by omega) (fun _ _=>⟨rfl,rfl⟩) rfl
 ·exact mk (ix:=true) (nm:=false) (ln:=false) (lv:=0) (kd:=0) rfl (fun _ a=>(a rfl).elim) (fun _=>rfl) (fun a=>by omega) (fun _ _=>⟨rfl,rfl⟩) rfl
theorem lv_ok {V P:Int} {x:Lvl} (h:x.vs.length≤900000000) (h0:Q03 (Yo V P) x=some 0):Q5i x:=by
 obtain ⟨b,hb1,hb2⟩:=Q8q x h
 unfold Q03 at h0
 rw [hb1] at h0
 cases b with
 | false=>cases h0
 | true=>exact hb2.1 rfl
theorem lvs_ok (t:Tm) (V P:Int) (h:t.size≤900000000):∃ r,Qa (Yp t (Yo V P)) Qd 0=some r∧((r=.inl ()∧∀ l∈t.levels,Q5i l)∨∃ e:Int,e ≠ 0∧r=.inr e):=by
 have hl:=Xh t
 have hl2:=Dh Q3o (fun l=>by unfold Q3o;omega) t.levels
 refine Ys (step:=Yp t (Yo V P)) t.levels (fun i (_:Unit)=>i) (fun a _=>∀ l∈a,Q5i l) (fun r=>(r=.inl ()∧∀ l∈t.levels,Q5i l)∨∃ e:Int,e ≠ 0∧r=.inr e) (by omega)
  (fun a y b _ e hI=>?_) (fun _ hI=>⟨.inl (),by unfold Yp;rw [JA];rfl,.inl ⟨rfl,hI⟩⟩) () (fun x hx=>by cases hx)
 obtain ⟨q1,q2⟩:=Xn e
 have hy:y.vs.length≤900000000:=by
  have:=Q8v y
  have:=UR Q3o (show y∈t.levels from by rw [e];simp)
  omega
 obtain ⟨c,h1,-⟩:=Qfl V P y hy
 by_cases hc:c=0
 ·subst hc
  refine .inr ⟨(),?_,fun z hz=>?_⟩
  ·unfold Yp
   rw [q1,q2]
   show Option.bind (Q03 (Yo V P) y) _=_
   rw [h1];rfl
  ·rcases CQ.1 hz with hz | hz
   ·exact hI z hz
   ·rw [CE.1 hz];exact lv_ok hy h1
 ·refine .inl ⟨.inr c,?_,.inr ⟨c,hc,rfl⟩⟩
  unfold Yp
  rw [q1,q2]
  show Option.bind (Q03 (Yo V P) y) _=_
  rw [h1]
  exact Qdw hc _ _
theorem node_ok (t:Tm) (dep:Nat) (P:Int) (h:t.size≤900000000) (hd:dep≤900000000) (h0:Qhc (Yo 1000000 P) t (dep:Int)=some 0):NodeP t:=by
 obtain ⟨b,hb,-⟩:=Qg6 t
 have hi:=ir_in (n:=t.index) (by have:=t.size_eq;omega)
 have hn:t.name.length≤900000000:=by have:=t.size_eq;omega
 unfold Qhc at h0
 rw [hb] at h0
 cases b with
 | false=>cases h0
 | true =>
  have f:=fits_ok t hb
  obtain ⟨r,hr1,hr2⟩:=lvs_ok t 1000000 P h
  have tail:Option.bind (Qa (Yp t (Yo 1000000 P)) Qd 0) (Sum.elim (fun (o7:Unit)=>ZA t (Yo 1000000 P) (dep:Int)) (fun o=>some o))=some 0→(∀ l∈t.levels,Q5i l)∧0≤t.index∧t.index < 1000000000∧(t.kind=12→t.index < 1000000):=by
   intro h1
   rw [hr1] at h1
   rcases hr2 with ⟨rfl,hv⟩ | ⟨e,he,rfl⟩
   ·have h1:ZA t (Yo 1000000 P) (dep:Int)=some 0:=h1
    refine ⟨hv,?_⟩
    unfold ZA at h1
    rw [ZJ t.kind 0,ZJ t.kind 12] at h1
    by_cases k0:t.kind=0
    ·rw [C5 k0,C6 (show ¬ t.kind=12 by omega)] at h1
     by_cases c1:t.index < 0
     ·rw [C5 c1] at h1;cases h1
     ·rw [C6 c1] at h1
      by_cases c2:max 1000000 0≤Qo (t.index - (dep:Int))
      ·rw [show decide ((Yo 1000000 P).vars≤Qo (t.index - (dep:Int)))=true from C5 c2] at h1;cases h1
      ·rw [Y2 (by omega) (by omega)] at c2
       exact ⟨by omega,by omega,fun a=>by omega⟩
    ·rw [C6 k0] at h1
     by_cases k1:t.kind=12
     ·rw [C5 k1] at h1
      by_cases c1:t.index < 0
      ·rw [C5 c1] at h1;cases h1
      ·rw [C6 c1] at h1
       by_cases c2:1000000≤t.index
       ·rw [show decide ((Yo 1000000 P).metas≤t.index)=true from C5 c2] at h1;cases h1
       ·exact ⟨by omega,by omega,fun a=>by omega⟩
     ·have:=f.ix k0 k1
      exact ⟨by omega,by omega,fun a=>by omega⟩
   ·cases h1;exact (he rfl).elim
  have fin:(t.kind=3→YW t.name=true∧t.levels.length≤8)→(∀ l∈t.levels,Q5i l)∧0≤t.index∧t.index < 1000000000∧(t.kind=12→t.index < 1000000)→NodeP t:=fun h1 h2=>by
   refine ⟨f.k,f.ix,h2.2.1,h2.2.2.1,h2.2.2.2,f.nm,fun a=>(h1 a).1,f.l2,f.l0,?_,f.kd,h2.1⟩
   by_cases a:t.kind=3
   ·exact (h1 a).2
   ·by_cases a2:t.kind=2
    ·have:=f.l2 a2;omega
    ·rw [f.l0 a2 a];exact Cp _
  simp only [C1,PO,Cd] at h0
  rw [ZJ] at h0
  by_cases Qpz:t.kind=3
  ·rw [C5 Qpz,C7,Q8s _ hn,C1] at h0
   cases hN:YW t.name with
   | false=>rw [hN] at h0;cases h0
   | true =>
    rw [hN] at h0
    by_cases h8:8 < (t.levels.length:Int)
    ·rw [C5 h8] at h0;cases h0
    ·rw [C6 h8] at h0
     exact fin (fun _=>⟨hN,by omega⟩) (tail h0)
  ·rw [C6 Qpz] at h0
   exact fin (fun a=>(Qpz a).elim) (tail h0)
theorem Qe8 (P:Int):∀ (n:Nat) (t:Tm) (dep:Nat),t.size≤n→dep+t.size≤900000000→Jz Q3l n (t,(dep:Int),max 1000000 0,P,1000000,1000000)=some 0→OkT t
 | 0,t,_,h,_,_=>by rw [t.size_eq] at h;omega
 | n+1,t,dep,h,hd,h0=>by
  have h0:Qiq (Jz Q3l n) t (dep:Int) (max 1000000 0) P 1000000 1000000=some 0:=h0
  obtain ⟨e,h1,h2,h3⟩:=Qf4 t (dep:Int) 1000000 P (by omega)
  rw [h2] at h0
  by_cases he:e=0
  ·subst he
   rw [Cc rfl] at h0
   have hN:=node_ok t dep P (by omega) (by omega) h1
   obtain ⟨k0,k1⟩:=hN.k
   obtain ⟨v,hv,hj⟩:=Qgr t.kind k0 k1
   have hl:=W7 t
   have key:∃ r,Qa (KJ t (Jz Q3l n) (dep:Int) (max 1000000 0) P 1000000 1000000) Qd 0=some r∧((r=.inl ()∧∀ k∈t.kids,OkT k)∨∃ e:Int,e ≠ 0∧r=.inr e):=by
    refine Ys (step:=KJ t (Jz Q3l n) (dep:Int) (max 1000000 0) P 1000000 1000000) t.kids (fun i (_:Unit)=>i) (fun a _=>∀ k∈a,OkT k) (fun r=>(r=.inl ()∧∀ k∈t.kids,OkT k)∨∃ e:Int,e ≠ 0∧r=.inr e) (by omega)
     (fun a x b _ e hI=>?_) (fun _ hI=>⟨.inl (),by unfold KJ;rw [JA];rfl,.inl ⟨rfl,hI⟩⟩) () (fun x hx=>by cases hx)
    obtain ⟨q1,q2⟩:=Xn e
    have hxs:=Y1 (t:=t) (k:=x) (by rw [e];simp)
    have hx:=Q8e e
    obtain ⟨d',hd1,hd3⟩:∃ d':Nat,Qo ((dep:Int)+(if (a.length:Int)=v then 1 else 0))=(d':Int)∧d'≤dep+1:=by
     by_cases hh:(a.length:Int)=v
     ·rw [Cc hh,Gj (by omega)];exact ⟨dep+1,rfl,Ck _⟩
     ·rw [C8 hh,Y2 (by omega) (by omega)];exact ⟨dep,by omega,by omega⟩
    obtain ⟨e',w1,-,-⟩:=Q22 1000000 P t n x d' 0 (by omega) (by omega) (by omega)
    have st:KJ t (Jz Q3l n) (dep:Int) (max 1000000 0) P 1000000 1000000 (a.length:Int)=cond (e' != 0) (some (.done (.inr e'))) (some (.next (Qo ((a.length:Int)+1)))):=by
     unfold KJ
     rw [q1,q2]
     simp only [C7,C1]
     rw [hj a.length]
     simp only [C1]
     rw [hd1,w1];rfl
    by_cases he:e'=0
    ·subst he
     refine .inr ⟨(),st,fun z hz=>?_⟩
     rcases CQ.1 hz with hz | hz
     ·exact hI z hz
     ·rw [CE.1 hz];exact Qe8 P n x d' (by omega) (by omega) w1
    ·refine .inl ⟨_,by rw [st,Qc3 he];rfl,.inr ⟨e',he,rfl⟩⟩
   obtain ⟨r,hr1,hr2⟩:=key
   unfold Q6u at h0
   rw [hr1] at h0
   rcases hr2 with ⟨rfl,hk⟩ | ⟨e,he,rfl⟩
   ·exact .mk hN hk
   ·cases h0;exact (he rfl).elim
  ·rw [C8 he] at h0;cases h0;exact (he rfl).elim
theorem check_ok (t:Tm) (h:t.size≤900000000) (h0:Qnq t 1000000 1000000 1000000 1000000=some 0):OkT t:=by
 obtain ⟨e,h1,-,-⟩:=Q22 1000000 1000000 t Qd t 0 0 (by unfold Qd;omega) (by omega) (by omega)
 have h2:Qou t 0 (max 1000000 0) 1000000 1000000 1000000=some e:=h1
 unfold Qnq at h0
 rw [h2,C1] at h0
 by_cases he:e=0
 ·subst he
  exact Qe8 1000000 Qd t 0 (by unfold Qd;omega) (by omega) h1
 ·rw [Qc3 he] at h0;cases h0;exact (he rfl).elim
end
noncomputable section
open Go.RowKit Go.Shelf
abbrev Yx (s:Qr7):List Byt:=List.map (fun b:UInt8=>(⟨b.toNat⟩:Byt)) s
def Qcj:List Qr7:=[[97,112,112],[108,97,109],[112,105],[115,105,103,109,97],[112,97,105,114],[102,115,116],[115,110,100],[108,101,116]]
def Gx (k:Int):Qr7:=(Qcj[(k - 4).toNat]?).getD []
def Qhb (l:Lvl):Qr7:=[91]++Qec l++[93]
def Q3p (ls:List Lvl):Qr7:=(ls.map fun l=>[32]++Qhb l).flatten
def Yj:Tm→Qr7
 | .mk k i n ls ks=>if k=0 then [35]++Q21 i.toNat else if k=12 then [63]++Q21 i.toNat else if k=1 then [112,114,111,112] else
  if k=2 then [40,115,111,114,116,32]++(ls.map Qhb).headD []++[41] else
  if k=3 then (if ls=[]∧n ≠ [112,114,111,112] then n else [40,99,111,110,115,116,32]++n++Q3p ls++[41]) else
  [40]++Gx k++(ks.attach.map fun k=>[32]++Yj k.1).flatten++[41]
termination_by t=>SizeOf.sizeOf t
decreasing_by
 have:=Pe k.2
 simp only [Tm.mk.sizeOf_spec];omega
def Xz (ks:List Tm):Qr7:=(ks.map fun k=>[32]++Yj k).flatten
theorem KC (k i:Int) (n:Qr7) (ls:List Lvl) (ks:List Tm):Yj (.mk k i n ls ks)=if k=0 then [35]++Q21 i.toNat else if k=12 then [63]++Q21 i.toNat else if k=1 then [112,114,111,112] else
  if k=2 then [40,115,111,114,116,32]++(ls.map Qhb).headD []++[41] else
  if k=3 then (if ls=[]∧n ≠ [112,114,111,112] then n else [40,99,111,110,115,116,32]++n++Q3p ls++[41]) else
  [40]++Gx k++Xz ks++[41]:=by
 rw [Yj]
 have:(ks.attach.map fun k=>[32]++Yj k.1).flatten=Xz ks:=by
  unfold Xz
  rw [Sq (f:=fun k=>[32]++Yj k)]
 rw [this]
theorem Wk {i:Int} (h0:0≤i) (h:i < 1000000000):(Q21 i.toNat).length≤9:=Q9g 8 _ (by omega)
theorem DK {k:Int} (h:4≤k) (h2:k < 12):(Gx k).length≤5∧Qcj[(k - 4).toNat]?=some (Gx k):=by
 have:k=4∨k=5∨k=6∨k=7∨k=8∨k=9∨k=10∨k=11:=by omega
 rcases this with rfl | rfl | rfl | rfl | rfl | rfl | rfl | rfl <;> exact ⟨by decide,rfl⟩
theorem Qgp {l:Lvl} (h:Q5i l):(Qhb l).length+1≤36 * Q3o l:=by
 have h1:=Q5q h
 have h2:Q3o l=1+l.vs.length:=by unfold Q3o;rw [List.map_const',List.sum_replicate_nat];omega
 unfold Qhb
 simp only [C9,C2,Ce]
 omega
theorem Qdk {α:Type} (f:α→Qr7) (g:α→Nat):∀ l:List α,(∀ x∈l,(f x).length≤g x)→(l.map f).flatten.length≤(l.map g).sum
 | [],h=>Ck _
 | x::l,h=>by
  simp only [CF,PL,C9,Pj]
  have h1:=h x Ch
  have h2:=Qdk f g l fun y hy=>h y (Ci _ hy)
  omega
theorem Q7y {α:Type} (c:Nat) (g:α→Nat):∀ l:List α,(l.map fun x=>c * g x).sum=c * (l.map g).sum
 | []=>rfl
 | x::l=>by simp only [CF,Pj,Q7y c g l,Nat.mul_add]
theorem lvsT_len {ls:List Lvl} (h:∀ l∈ls,Q5i l):(Q3p ls).length≤36 * (ls.map Q3o).sum:=by
 rw [← Q7y]
 refine Qdk _ _ ls fun l hl=>?_
 have:=Qgp (h l hl)
 simp only [C9,C2,Ce];omega
theorem textT_len (t:Tm):OkT t→(Yj t).length+1≤60 * t.size:=by
 induction t using Qkg with
 | h t ih =>
  intro h
  have hN:=h.node
  have hk:(Xz t.kids).length≤60 * (t.kids.map Tm.size).sum:=by
   rw [← Q7y]
   refine Qdk _ _ _ fun k hk=>?_
   have:=ih k hk (h.kid hk)
   simp only [C9,C2,Ce];omega
  have hv:=lvsT_len hN.lv
  have hs:=t.size_eq
  have hd:=Wk hN.ix0 hN.ix1
  obtain ⟨k,i,n,ls,ks⟩:=t
  obtain ⟨⟨c1,c2⟩,-,-,-,-,-,-,l2,-,-,-,lv⟩:=hN
  dsimp only [Tm.kind,Tm.index,Tm.name,Tm.levels,Tm.kids] at *
  rw [KC]
  split
  ·simp only [C9,C2,Ce];omega
  split
  ·simp only [C9,C2,Ce];omega
  split
  ·simp only [C2,Ce];omega
  split
  ·rename_i h2
   have:=l2 h2
   match ls,this with
   | [l],_ =>
    have:=Qgp (lv l (by simp))
    simp only [CF,List.map_nil,List.headD_cons,C9,C2,Ce,Pj,List.sum_nil] at *
    omega
  split
  ·split
   ·omega
   ·simp only [C9,C2,Ce];omega
  ·have:=(DK (k:=k) (by omega) (by omega)).1
   simp only [C9,C2,Ce];omega
theorem Qf6 {a:Int} (h0:0≤a) (h1:a < 1000000000):Qir a=some (Q21 a.toNat):=by
 unfold Qir
 rw [Qw (by rw [C5 (by omega),C5 (by omega)];rfl),Qfy h0]
theorem Qd2 {l:Lvl} (h:Q5i l) (hn:l.vs.length≤2000000):Qlm l=some (Qhb l):=by
 have h1:=Q5q h
 unfold Qlm Qhb
 rw [m114_eq h (by omega),C1]
 rw [Qw (Cb (by simp only [C2,Ce];omega)),Qw (Cb (by simp only [C9,C2,Ce];omega))]
theorem app_loop {α β:Type} {step:Int×List β→Option (LO (Int×List β) (List β))} (l:List α) (g:α→List β) (b0:List β) (hlen:l.length≤900000000)
  (hin:∀ (a:List α) (x:α) (b:List α) (s:List β),l=a++x::b→s=b0++(a.map g).flatten→step ((a.length:Int),s)=some (.next (Qo ((a.length:Int)+1),s++g x)))
  (hout:∀ s,step ((l.length:Int),s)=some (.done s)):Qa step Qd (0,b0)=some (b0++(l.map g).flatten):=by
 obtain ⟨r,h1,h2⟩:=Ys (step:=step) l (fun i (s:List β)=>(i,s)) (fun a s=>s=b0++(a.map g).flatten) (fun r=>r=b0++(l.map g).flatten) hlen
  (fun a x b s e hI=>.inr ⟨s++g x,hin a x b s e hI,by rw [hI,Cr,List.flatten_append];simp⟩) (fun s hI=>⟨s,hout s,hI⟩) b0 (by simp)
 exact h1.trans (by rw [h2])
theorem Gf (a b:Qr7):Yx (a++b)=Yx a++Yx b:=Cr
theorem Qgo (a:Qr7):(Yx a).length=a.length:=Cm ..
theorem Q4a {α:Type} (f:α→Qr7):∀ l:List α,(l.map fun x=>Yx (f x)).flatten=Yx (l.map f).flatten
 | []=>rfl
 | x::l=>by simp only [CF,PL,Q4a f l,Gf]
theorem pre_len {α:Type} (f:α→Qr7) {l a b:List α} {x:α} (e:l=a++x::b):(a.map f).flatten.length+(f x).length≤(l.map f).flatten.length:=by
 rw [e];simp
end
noncomputable section
open Go.RowKit Go.Shelf
def Qod  (a1:Tm):(Int×(List Byt))→Option (LO (Int×(List Byt)) ((List Byt))):=(fun s909=>cond ((decide (s909.1 < (a1.levels.length:Int)))) (Option.bind (J0 a1.levels s909.1) fun (x911:Lvl)=>Option.bind (Qlm x911) fun (x912:(List UInt8))=>Q7 (Nat.ble (([32]:List UInt8).length+x912.length) 1000000000) (Q7 (Nat.ble (s909.2.length+(([32]:List UInt8)++x912).length) 1000000000) (some (.next ((Qo (s909.1+1)),(s909.2++(List.map (fun b:UInt8=>(⟨b.toNat⟩:Byt)) (([32]:List UInt8)++x912)))))))) (some (.done s909.2)))
def Qoc (rc:(List Byt)×Tm→Option (((List Byt)×Unit)⊕(Unit×(List Byt)))) (a1:Tm):(Int×(List Byt))→Option (LO (Int×(List Byt)) ((List Byt))):=(fun s923=>cond ((decide (s923.1 < (a1.kids.length:Int)))) (Option.bind (J0 a1.kids s923.1) fun (x925:Tm)=>Q7 (Nat.ble (s923.2.length+([32]:List UInt8).length) 1000000000) (Option.bind (Zv (rc ((s923.2++(List.map (fun b:UInt8=>(⟨b.toNat⟩:Byt)) ([32]:List UInt8))),x925))) fun (r926:(List Byt)×Unit)=>some (.next ((Qo (s923.1+1)),r926.1)))) (some (.done s923.2)))
theorem Q7n {α:Type} {step:Int×List Byt→Option (LO (Int×List Byt) (List Byt))} (l:List α) (f:α→Qr7) (b0:List Byt) (hlen:l.length≤900000000) (hb:b0.length+(l.map f).flatten.length≤900000000)
  (hin:∀ (a:List α) (x:α) (b:List α) (s:List Byt),l=a++x::b→s.length+(f x).length≤900000000→step ((a.length:Int),s)=some (.next (Qo ((a.length:Int)+1),s++Yx (f x))))
  (hout:∀ s,step ((l.length:Int),s)=some (.done s)):Qa step Qd (0,b0)=some (b0++Yx (l.map f).flatten):=by
 rw [← Q4a]
 refine app_loop l (fun x=>Yx (f x)) b0 hlen (fun a x b s e hs=>hin a x b s e ?_) hout
 have:=pre_len f e
 rw [hs,Q4a,C9,Qgo]
 omega
theorem Q3q {t:Tm} (h:t.size≤2000000) {l:Lvl} (hl:l∈t.levels):l.vs.length≤2000000:=by
 have h1:=Xh t
 have h2:=Q8v l
 have h3:=UR Q3o hl
 omega
theorem lvs_small {t:Tm}:t.levels.length≤t.size:=by
 have h1:=Xh t
 have h2:=Dh Q3o (fun l=>by unfold Q3o;omega) t.levels
 omega
theorem Qhk (t:Tm) (hv:∀ l∈t.levels,Q5i l) (hs:t.size≤2000000) (b0:List Byt) (hb:b0.length+(Q3p t.levels).length≤900000000):Qa (Qod t) Qd (0,b0)=some (b0++Yx (Q3p t.levels)):=by
 refine Q7n (step:=Qod t) t.levels (fun l=>[32]++Qhb l) b0 (by have:=lvs_small (t:=t);omega) hb (fun a x b s e hx=>?_) (fun s=>by unfold Qod;dsimp only;rw [JA];rfl)
 obtain ⟨q1,q2⟩:=Xn e
 have hm:x∈t.levels:=by rw [e];simp
 simp only [C9,C2,Ce] at hx
 unfold Qod
 dsimp only
 rw [q1,q2,C7,C1,Qd2 (hv x hm) (Q3q hs hm),C1,Qw (Cb (by simp only [C2,Ce];omega)),Qw (Cb (by simp only [C9,C2,Ce];omega))]
theorem Qhj (rc:(List Byt)×Tm→Option (((List Byt)×Unit)⊕(Unit×(List Byt)))) (t:Tm) (hs:t.size≤2000000) (b0:List Byt) (hb:b0.length+(Xz t.kids).length≤900000000)
  (hr:∀ k∈t.kids,∀ b:List Byt,b.length+(Yj k).length≤900000000→rc (b,k)=some (.inl (b++Yx (Yj k),()))):Qa (Qoc rc t) Qd (0,b0)=some (b0++Yx (Xz t.kids)):=by
 refine Q7n (step:=Qoc rc t) t.kids (fun k=>[32]++Yj k) b0 (by have:=W7 t;omega) hb (fun a x b s e hx=>?_) (fun s=>by unfold Qoc;dsimp only;rw [JA];rfl)
 obtain ⟨q1,q2⟩:=Xn e
 have hm:x∈t.kids:=by rw [e];simp
 simp only [C9,C2,Ce] at hx
 unfold Qoc
 dsimp only
 rw [q1,q2,C7,C1,Qw (Cb (by simp only [C2,Ce];omega)),hr x hm _ (by simp only [C9,C2,Ce,Cm];omega)]
 show some _=some _
 rw [Gf,Cy]
theorem Q9z {k:Int} (h:4≤k) (h2:k < 12):J0 Qcj (Qo (k - 4))=some (Gx k):=by
 rw [Y2 (by omega) (by omega)]
 have h1:=(DK h h2).2
 obtain ⟨n,hn⟩:=PS (show 0≤k - 4 by omega)
 rw [hn] at h1 ⊢
 exact h1
theorem YC {a b:Int} (h:a ≠ b):(a==b)=false:=by rw [ZJ,C6 h]
theorem Q4v {a b:Int} (h:a=b):(a==b)=true:=by rw [ZJ,C5 h]
theorem Q64 {t:Tm} (h:t.levels.length=1):∃ l,t.levels=[l]:=by
 match hl:t.levels,h with
 | [l],_=>exact ⟨l,rfl⟩
theorem bsne (a b:Qr7):(!(a==b))=decide (a ≠ b):=by rw [Qoa];by_cases h:a=b <;> simp [h]
theorem Qlb {t:Tm} (h:t.kind=0):Yj t=[35]++Q21 t.index.toNat:=by obtain ⟨k,i,n,ls,ks⟩:=t;rw [KC];exact Cc h
theorem Qhs {t:Tm} (h:t.kind=12):Yj t=[63]++Q21 t.index.toNat:=by obtain ⟨k,i,n,ls,ks⟩:=t;have h:k=12:=h;rw [KC,C8 (by omega),Cc h];rfl
theorem Qla {t:Tm} (h:t.kind=1):Yj t=[112,114,111,112]:=by obtain ⟨k,i,n,ls,ks⟩:=t;have h:k=1:=h;rw [KC,C8 (by omega),C8 (by omega),Cc h]
theorem Ql9 {t:Tm} {l:Lvl} (h:t.kind=2) (hl:t.levels=[l]):Yj t=[40,115,111,114,116,32]++Qhb l++[41]:=by
 obtain ⟨k,i,n,ls,ks⟩:=t
 have h:k=2:=h
 have hl:ls=[l]:=hl
 rw [KC,C8 (by omega),C8 (by omega),C8 (by omega),Cc h,hl];rfl
theorem Ql8 {t:Tm} (h:t.kind=3):Yj t=if t.levels=[]∧t.name ≠ [112,114,111,112] then t.name else [40,99,111,110,115,116,32]++t.name++Q3p t.levels++[41]:=by
 obtain ⟨k,i,n,ls,ks⟩:=t
 have h:k=3:=h
 rw [KC,C8 (by omega),C8 (by omega),C8 (by omega),C8 (by omega),Cc h];rfl
theorem Ql7 {t:Tm} (h:4≤t.kind) (h2:t.kind ≠ 12):Yj t=[40]++Gx t.kind++Xz t.kids++[41]:=by
 obtain ⟨k,i,n,ls,ks⟩:=t
 have h:4≤k:=h
 have h2:k ≠ 12:=h2
 rw [KC,C8 (by omega),C8 (by omega),C8 (by omega),C8 (by omega),C8 (by omega)];rfl
theorem Uj (t:Tm):(cond (((t.levels.length:Int)==0)) (some (!(t.name==([112,114,111,112]:List UInt8)))) (some false))=some (decide (t.levels=[]∧t.name ≠ [112,114,111,112])):=by
 rw [ZJ,bsne]
 by_cases h:t.levels=[]
 ·rw [h];simp
 ·have:t.levels.length ≠ 0:=fun h2=>h (CC h2)
  rw [C6 (p:=(t.levels.length:Int)=0) (by omega),C6 (p:=t.levels=[]∧t.name ≠ [112,114,111,112]) (fun h2=>h h2.1)];rfl
theorem Qob (b:List Byt) (x y z:Qr7):b++Yx x++Yx y++Yx z=b++Yx (x++y++z):=by rw [Gf,Gf];simp
theorem Q5n:∀ (n:Nat) (t:Tm) (b:List Byt),t.size≤n→t.size≤2000000→OkT t→b.length+(Yj t).length≤900000000→Jz (fun rc v=>Qd4 rc v.1 v.2) n (b,t)=some (.inl (b++Yx (Yj t),()))
 | 0,t,b,h,_,_,_=>by rw [t.size_eq] at h;omega
 | n+1,t,b,h,h2,ht,hb=>by
  show Qd4 (Jz (fun rc v=>Qd4 rc v.1 v.2) n) b t=_
  have hN:=ht.node
  obtain ⟨k0,k1⟩:=hN.k
  unfold Qd4
  by_cases e0:t.kind=0
  ·rw [Qlb e0] at hb ⊢
   refine Jn (.inl (b++Yx ([35]++Q21 t.index.toNat))) ?_ Z
   rw [Q4v e0,C7,Qf6 hN.ix0 hN.ix1,C1]
   have:=Wk hN.ix0 hN.ix1
   simp only [C9,C2,Ce] at hb
   rw [Qw (Cb (by simp only [C2,Ce];omega)),Qw (Cb (by simp only [C9,C2,Ce];omega))]
  by_cases e12:t.kind=12
  ·rw [Qhs e12] at hb ⊢
   refine Jn (.inl (b++Yx ([63]++Q21 t.index.toNat))) ?_ Z
   rw [YC e0,Cd]
   refine Jn (.inl (b++Yx ([63]++Q21 t.index.toNat))) ?_ Z
   rw [Q4v e12,C7,Qf6 hN.ix0 hN.ix1,C1]
   have:=Wk hN.ix0 hN.ix1
   simp only [C9,C2,Ce] at hb
   rw [Qw (Cb (by simp only [C2,Ce];omega)),Qw (Cb (by simp only [C9,C2,Ce];omega))]
  by_cases e1:t.kind=1
  ·rw [Qla e1] at hb ⊢
   refine Jn (.inl (b++Yx [112,114,111,112])) ?_ Z
   rw [YC e0,Cd]
   refine Jn (.inl (b++Yx [112,114,111,112])) ?_ Z
   rw [YC e12,Cd]
   refine Jn (.inl (b++Yx [112,114,111,112])) ?_ Z
   rw [Q4v e1,C7,Qw (Cb (by omega))]
  by_cases e2:t.kind=2
  ·obtain ⟨l,hl⟩:=Q64 (hN.l2 e2)
   have hv:=hN.lv l (by rw [hl];simp)
   rw [Ql9 e2 hl] at hb ⊢
   refine Jn (.inl (b++Yx ([40,115,111,114,116,32]++Qhb l++[41]))) ?_ Z
   rw [YC e0,Cd]
   refine Jn (.inl (b++Yx ([40,115,111,114,116,32]++Qhb l++[41]))) ?_ Z
   rw [YC e12,Cd]
   refine Jn (.inl (b++Yx ([40,115,111,114,116,32]++Qhb l++[41]))) ?_ Z
   rw [YC e1,Cd]
   refine Jn (.inl (b++Yx ([40,115,111,114,116,32]++Qhb l++[41]))) ?_ Z
   simp only [C9,C2,Ce] at hb
   rw [Q4v e2,C7,hl,show J0 [l] 0=some l from rfl,C1,Qd2 hv (Q3q h2 (by rw [hl];simp)),C1,Qw (Cb (by simp only [C2,Ce];omega)),Qw (Cb (by simp only [C9,C2,Ce];omega)),Qw (Cb (by simp only [C9,C2,Ce];omega))]
  by_cases e3:t.kind=3
  ·rw [Ql8 e3] at hb ⊢
   by_cases hc:t.levels=[]∧t.name ≠ [112,114,111,112]
   ·rw [Cc hc] at hb ⊢
    refine Jn (.inr (.inl (b++Yx t.name,()))) ?_ Z
    rw [YC e0,Cd]
    refine Jn (.inr (.inl (b++Yx t.name,()))) ?_ Z
    rw [YC e12,Cd]
    refine Jn (.inr (.inl (b++Yx t.name,()))) ?_ Z
    rw [YC e1,Cd]
    refine Jn (.inr (.inl (b++Yx t.name,()))) ?_ Z
    rw [YC e2,Cd]
    refine Jn (.inr (.inl (b++Yx t.name,()))) ?_ Z
    rw [Q4v e3,C7,Uj,C1,C5 hc,C7,Qw (Cb (by omega))]
   ·rw [C8 hc] at hb ⊢
    rw [← Qob]
    simp only [C9,C2,Ce] at hb
    have hL:=Qhk t hN.lv h2 (b++Yx ([40,99,111,110,115,116,32]++t.name)) (by simp only [C9,C2,Ce,Cm];omega)
    refine Jn (.inl (b++Yx ([40,99,111,110,115,116,32]++t.name)++Yx (Q3p t.levels)++Yx [41])) ?_ Z
    rw [YC e0,Cd]
    refine Jn (.inl (b++Yx ([40,99,111,110,115,116,32]++t.name)++Yx (Q3p t.levels)++Yx [41])) ?_ Z
    rw [YC e12,Cd]
    refine Jn (.inl (b++Yx ([40,99,111,110,115,116,32]++t.name)++Yx (Q3p t.levels)++Yx [41])) ?_ Z
    rw [YC e1,Cd]
    refine Jn (.inl (b++Yx ([40,99,111,110,115,116,32]++t.name)++Yx (Q3p t.levels)++Yx [41])) ?_ Z
    rw [YC e2,Cd]
    refine Jn (.inl (b++Yx ([40,99,111,110,115,116,32]++t.name)++Yx (Q3p t.levels)++Yx [41])) ?_ Z
    rw [Q4v e3,C7,Uj,C1,C6 hc,Cd,Qw (Cb (by simp only [C2,Ce];omega)),Qw (Cb (by simp only [C9,C2,Ce];omega))]
    refine Jn _ hL ?_
    rw [Qw (Cb (by simp only [C9,C2,Ce,Cm];omega))]
  ·rw [Ql7 (by omega) e12] at hb ⊢
   rw [← Qob]
   simp only [C9,C2,Ce] at hb
   have hw:=DK (k:=t.kind) (by omega) (by omega)
   have hL:=Qhj (Jz (fun rc v=>Qd4 rc v.1 v.2) n) t h2 (b++Yx ([40]++Gx t.kind)) (by simp only [C9,C2,Ce,Cm];omega) (fun k hk b' hb'=>Q5n n k b' (by have:=Y1 hk;omega) (by have:=Y1 hk;omega) (ht.kid hk) hb')
   refine Jn (.inl (b++Yx ([40]++Gx t.kind)++Yx (Xz t.kids)++Yx [41])) ?_ Z
   rw [YC e0,Cd]
   refine Jn (.inl (b++Yx ([40]++Gx t.kind)++Yx (Xz t.kids)++Yx [41])) ?_ Z
   rw [YC e12,Cd]
   refine Jn (.inl (b++Yx ([40]++Gx t.kind)++Yx (Xz t.kids)++Yx [41])) ?_ Z
   rw [YC e1,Cd]
   refine Jn (.inl (b++Yx ([40]++Gx t.kind)++Yx (Xz t.kids)++Yx [41])) ?_ Z
   rw [YC e2,Cd]
   refine Jn (.inl (b++Yx ([40]++Gx t.kind)++Yx (Xz t.kids)++Yx [41])) ?_ Z
   rw [YC e3,Cd]
   refine Jn _ (Q9z (by omega) (by omega)) ?_
   rw [Qw (Cb (by simp only [C2,Ce];omega)),Qw (Cb (by simp only [C9,C2,Ce];omega))]
   refine Jn _ hL ?_
   rw [Qw (Cb (by simp only [C9,C2,Ce,Cm];omega))]
theorem m28_eq {t:Tm} {b:List Byt} (h:t.size≤2000000) (ht:OkT t) (hb:b.length+(Yj t).length≤900000000):Qov b t=some (.inl (b++Yx (Yj t),())) :=
 Q5n Qd t b (by unfold Qd;omega) h ht hb
theorem cap {b:Nat} (h:b≤900000000):Nat.ble b 1000000000=true:=Cb (by omega)
def X6 (e:Int) (t:Tm):Qr7×Int:=if e=0 then (if 65536 < (Yj t).length then ([],5) else (Yj t,0)) else ([],e)
theorem u8_bts (s:Qr7):List.map Byt.u8 (Yx s)=s:=by
 unfold Yx
 rw [CJ]
 conv=>rhs;rw [← List.map_id s]
 refine Cx fun b _=>?_
 show Byt.u8 ⟨(b.toNat:Int)⟩=b
 unfold Byt.u8
 simp
theorem all_bts (s:Qr7):List.all (Yx s) (fun x:Byt=>cond (decide (0≤x.n)) (decide (x.n < 256)) false)=true:=by
 rw [Cg]
 intro x hx
 obtain ⟨b,_,rfl⟩:=Cv.1 hx
 have:=b.toNat_lt
 show cond (decide (0≤(b.toNat:Int))) (decide ((b.toNat:Int) < 256)) false=true
 rw [C5 (by omega),C5 (by omega)];rfl
theorem UB (v:List Byt) (s:Qr7) (hv:v=Yx s) (hs:s ≠ []):Option.bind (some (v.length:Int)) (fun n=>cond (decide (65536 < n)) (some (([]:List UInt8),(5:Int))) (Q7 (cond (List.all v (fun x:Byt=>cond (decide (0≤x.n)) (decide (x.n < 256)) false)) (!(List.isEmpty v)) false) (some ((List.map Byt.u8 v),0))))=some (if 65536 < s.length then ([],5) else (s,0)):=by
 subst hv
 rw [C1,Qgo]
 by_cases hl:65536 < s.length
 ·rw [Cc hl,C5 (by omega)];rfl
 ·rw [C8 hl,C6 (by omega),Cd,Qw (by
   rw [all_bts,C7]
   cases s with
   | nil=>exact (hs rfl).elim
   | cons x s=>rfl),u8_bts]
theorem name_ne {s:Qr7} (h:YW s=true):s ≠ []:=by
 rintro rfl
 revert h
 decide
end
noncomputable section
open Go.RowKit
set_option maxRecDepth 100000
def m26s (rc:Tm×Int→Option (Int)) (a0:Tm) (a1:Int):Option (Int) :=
 Option.bind (Qa (σ:=Int×Int) (β:=Int) (fun s5=>Option.bind (cond ((decide (s5.2 < (a0.levels.length:Int)))) (some (decide (0≤s5.1))) (some false)) fun (v7:Bool)=>cond v7 (Option.bind (J0 a0.levels s5.2) fun (x8:Lvl)=>some (.next ((Qo (s5.1 - (x8.vs.length:Int))),(Qo (s5.2+1))))) (some (.done s5.1))) Qd ((Qo ((Qo (a1 - 1)) - (a0.levels.length:Int))),0)) fun (v6:Int)=>Option.bind (Qa (σ:=Int×Int) (β:=Int) (fun s15=>Option.bind (cond ((decide (s15.2 < (a0.kids.length:Int)))) (some (decide (0≤s15.1))) (some false)) fun (v17:Bool)=>cond v17 (Option.bind (J0 a0.kids s15.2) fun (x18:Tm)=>Option.bind (rc (x18,s15.1)) fun (x19:Int)=>some (.next (x19,(Qo (s15.2+1))))) (some (.done s15.1))) Qd (v6,0)) fun (v16:Int)=>cond ((decide (100 < (a0.name.length:Int)))) (some (-1)) (some v16)
def m26r:Tm×Int→Option (Int):=Jz (fun rc v=>m26s rc v.1 v.2) Qd
def m26 (a0:Tm) (a1:Int):Option (Int):=m26r (a0,a1)
def Qp5 (a0:Tm) (a1:Int):Option (Bool) :=
 Option.bind (m26 a0 a1) fun (x1:Int)=>some (decide (0≤x1))
theorem en_12:Qc Tryz.prog 12:=enters_of Tryz.func12 (by kernel_rfl) rfl
def Qfg:Option (Bool) :=
 Option.bind (Q9w ([40,32,108,97,109,10,112,114,111,112,32,35,48,32,41]:List UInt8)) fun (x1:Tm×Int×Int)=>Option.bind (Qhd x1.1) fun (x2:(List UInt8)×Int)=>Option.bind (Q9w ([40,97,112,112,32,102,41]:List UInt8)) fun (x3:Tm×Int×Int)=>Option.bind (Q9w ([35,48,49]:List UInt8)) fun (x4:Tm×Int×Int)=>Option.bind (cond ((x1.2.2==0)) (cond ((x2.2==0)) (cond ((x2.1==([40,108,97,109,32,112,114,111,112,32,35,48,41]:List UInt8))) (cond ((x3.2.1==6)) (cond ((x3.2.2==4)) (cond ((x4.2.1==0)) (some (x4.2.2==4)) (some false)) (some false)) (some false)) (some false)) (some false)) (some false)) fun (v5:Bool)=>some v5
def k12:KF UV:=⟨[],[.bool],fun v=>Qfg⟩
def H12:Hints UV:=⟨[(5,⟨[([.reg 0],.bool)],[],false⟩)],[]⟩
theorem k12_ok:Yy DV W0 Tryz.prog 12 k12:=Zf (C:=Qr6) rfl QH Ql (QG (tb:=[(13,k13),(15,k15)]) Ql ⟨Qdf,Qj9,trivial⟩) Y5 Tryz.func12 en_12 H12 k12 rfl (fun v=>by kernel_rfl)
def m3 (a0:Tm):Option (Bool) :=
 Option.bind (Qp5 a0 200) fun (x1:Bool)=>cond ((!x1)) (Option.bind (Qfg) fun (x2:Bool)=>some x2) (Option.bind (Qhd a0) fun (x3:(List UInt8)×Int)=>Option.bind (m14 a0) fun (x4:(List UInt8)×Int)=>Option.bind (Option.bind (Qfg) fun (x7:Bool)=>cond x7 (cond ((x3.1==x4.1)) (some (x3.2==x4.2)) (some false)) (some false)) fun (v6:Bool)=>some v6)
def Qpz:KF UV:=⟨[.stc .t25],[.bool],fun v=>m3 v⟩
def H3:Hints UV:=⟨[(6,⟨[([.reg 2],.bool)],[],false⟩)],[]⟩
end
noncomputable section
open Go.RowKit Go.Shelf
theorem m13_ok1 {t:Tm} (h:t.size≤2000000) (ht:OkT t) (he:Qky t 1000000 1000000 1000000 1000000=some 0):Qhd t=some (if 65536 < (Yj t).length then ([],5) else (Yj t,0)):=by
 have hN:=ht.node
 obtain ⟨k0,k1⟩:=hN.k
 have hb:=textT_len t ht
 unfold Qhd
 rw [he,C1,show ((0:Int) != 0)=false from rfl,Cd]
 by_cases e0:t.kind=0
 ·rw [Qlb e0]
  have:=Wk hN.ix0 hN.ix1
  rw [Q4v e0,C7,Qf6 hN.ix0 hN.ix1,C1]
  rw [Qw (Cb (by simp only [C2,Ce];omega)),Qw (Cb (by simp only [C9,C2,Ce];omega))]
  exact UB _ _ rfl (by simp)
 by_cases e12:t.kind=12
 ·rw [Qhs e12]
  have:=Wk hN.ix0 hN.ix1
  rw [YC e0,Cd,Q4v e12,C7,Qf6 hN.ix0 hN.ix1,C1]
  rw [Qw (Cb (by simp only [C2,Ce];omega)),Qw (Cb (by simp only [C9,C2,Ce];omega))]
  exact UB _ _ rfl (by simp)
 by_cases e1:t.kind=1
 ·rw [Qla e1,YC e0,Cd,YC e12,Cd,Q4v e1,C7,Qw (Cb (by decide))]
  exact UB _ _ rfl (by simp)
 by_cases e2:t.kind=2
 ·obtain ⟨l,hl⟩:=Q64 (hN.l2 e2)
  have hm:l∈t.levels:=by rw [hl];simp
  have hv:=hN.lv l hm
  rw [Ql9 e2 hl] at hb ⊢
  simp only [C9,C2,Ce] at hb
  rw [YC e0,Cd,YC e12,Cd,YC e1,Cd,Q4v e2,C7,hl,show J0 [l] 0=some l from rfl,C1,Qd2 hv (Q3q h hm),C1,Qw (Cb (by simp only [C2,Ce];omega)),Qw (Cb (by simp only [C9,C2,Ce];omega)),Qw (Cb (by simp only [C9,C2,Ce];omega))]
  exact UB _ _ rfl (by simp)
 by_cases e3:t.kind=3
 ·rw [Ql8 e3] at hb ⊢
  rw [YC e0,Cd,YC e12,Cd,YC e1,Cd,YC e2,Cd,Q4v e3,C7,Uj,C1]
  by_cases hc:t.levels=[]∧t.name ≠ [112,114,111,112]
  ·rw [Cc hc] at hb ⊢
   rw [C5 hc,C7,Qw (Cb (by omega))]
   exact UB _ _ Z (name_ne (hN.nk e3))
  ·rw [C8 hc] at hb ⊢
   simp only [C9,C2,Ce] at hb
   rw [C6 hc,Cd,Qw (Cb (by simp only [C2,Ce];omega)),Qw (Cb (by simp only [C9,C2,Ce];omega))]
   refine Jn _ (Qhk t hN.lv h (Yx ([40,99,111,110,115,116,32]++t.name)) (by simp only [C9,C2,Ce,Cm];omega)) ?_
   rw [Qw (Cb (by simp only [C9,C2,Ce,Cm];omega))]
   exact UB _ _ (by rw [← Gf,← Gf]) (by simp)
 ·rw [Ql7 (by omega) e12] at hb ⊢
  simp only [C9,C2,Ce] at hb
  rw [YC e0,Cd,YC e12,Cd,YC e1,Cd,YC e2,Cd,YC e3,Cd]
  refine Jn _ (Q9z (by omega) (by omega)) ?_
  rw [Qw (Cb (by simp only [C2,Ce];omega)),Qw (Cb (by simp only [C9,C2,Ce];omega))]
  refine Jn _ (Qhj Qnr t h (Yx ([40]++Gx t.kind)) (by simp only [C9,C2,Ce,Cm];omega) (fun k hk b' hb'=>m28_eq (by have:=Y1 hk;omega) (ht.kid hk) hb')) ?_
  rw [Qw (Cb (by simp only [C9,C2,Ce,Cm];omega))]
  exact UB _ _ (by rw [← Gf,← Gf]) (by simp)
theorem awake_true:Qfg=some true:=by kernel_rfl
end
noncomputable section
open Go.RowKit Go.Shelf
def G3 {α:Type} (P:α→Prop) (x:Option α):Prop:=∀ a,x=some a→P a
theorem QP {α β:Type} {P:β→Prop} {x:Option α} {k:α→Option β} (h:∀ a,x=some a→G3 P (k a)):G3 P (Option.bind x k):=by
 cases x with
 | none=>intro a e;cases e
 | some a=>exact h a rfl
theorem Qr {α:Type} {P:α→Prop} {a:α} (h:P a):G3 P (some a):=fun b e=>by cases e;exact h
theorem Jg {α:Type} {P:α→Prop} {b:Bool} {x y:Option α} (h1:G3 P x) (h2:G3 P y):G3 P (cond b x y):=by cases b;exact h2;exact h1
theorem Wp {σ β:Type} {step:σ→Option (LO σ β)} {Q:β→Prop} (h:∀ s,G3 (fun o=>∀ r,o=.done r→Q r) (step s)):∀ (n:Nat) (s:σ),G3 Q (Qa step n s)
 | 0,s=>fun a e=>by cases e
 | n+1,s=>by
  intro a e
  simp only [Qa] at e
  cases hs:step s with
  | none=>rw [hs] at e;cases e
  | some o =>
   rw [hs] at e
   cases o with
   | next s'=>exact Wp h n s' a e
   | done r=>cases e;exact h s _ hs _ rfl
abbrev Qr0 (o:Unit⊕Int):Prop:=∀ e,o=.inr e→e ≠ 4
theorem m111_n4 (a0:Scp) (a1:Lvl):G3 (· ≠ 4) (Q03 a0 a1):=by
 have l0:G3 Qr0 (Qa (Xe a1 a0) Qd 0):=Wp (fun s=>by
  unfold Xe
  refine Jg (QP fun x _=>Jg (Qr fun r e=>?_) (Qr fun r e=>by cases e)) (Qr fun r e=>?_)
  ·cases e;intro e h;cases h;decide
  ·cases e;intro e h;cases h) Qd 0
 have l1:G3 Qr0 (Qa (Xd a1 a0) Qd 0):=Wp (fun s=>by
  unfold Xd
  refine Jg (QP fun x _=>QP fun v _=>Jg (Qr fun r e=>?_) (Qr fun r e=>by cases e)) (Qr fun r e=>?_)
  ·cases e;intro e h;cases h;decide
  ·cases e;intro e h;cases h) Qd 0
 unfold Q03
 refine QP fun x _=>Jg (Qr (by decide)) (QP fun o ho=>?_)
 cases o with
 | inr e=>exact Qr (l0 _ ho e rfl)
 | inl u =>
  refine QP fun o ho=>?_
  cases o with
  | inr e=>exact Qr (l1 _ ho e rfl)
  | inl u=>exact Qr (by decide)
theorem m59_n4 (a0:Scp) (a1:Tm) (a2:Int):G3 (· ≠ 4) (Qhc a0 a1 a2):=by
 have l0:G3 Qr0 (Qa (Yp a1 a0) Qd 0):=Wp (fun s=>by
  unfold Yp
  refine Jg (QP fun x _=>QP fun e he=>Jg (Qr fun r h=>?_) (Qr fun r h=>by cases h)) (Qr fun r h=>?_)
  ·cases h;intro e' h';cases h';exact m111_n4 _ _ _ he
  ·cases h;intro e h;cases h) Qd 0
 have k1:G3 (· ≠ 4) (ZA a1 a0 a2):=by
  unfold ZA
  exact QP fun b _=>Jg (Qr (by decide)) (QP fun b _=>Jg (Qr (by decide)) (Qr (by decide)))
 have tl:G3 (· ≠ 4) (Option.bind (Qa (Yp a1 a0) Qd 0) (Sum.elim (fun (o7:Unit)=>ZA a1 a0 a2) (fun o=>some o))):=QP fun o ho=>by
  cases o with
  | inr e=>exact Qr (l0 _ ho e rfl)
  | inl u=>exact k1
 unfold Qhc
 exact QP fun x _=>Jg (Qr (by decide)) (Jg (QP fun x _=>Jg (Qr (by decide)) (Jg (Qr (by decide)) tl)) tl)
abbrev Qqz (o:(Int×Int)⊕(Bool×Int)):Prop:=∀ p,o=.inl p→p.1 ≠ 4
theorem Qfi:∀ (n:Nat) (u:Tm×Int×Tm×Int×Scp×Int×Tm),G3 Qqz (Jz Ym n u)
 | 0,u=>fun a e=>by cases e
 | n+1,u=>by
  have ih:=Qfi n
  show G3 Qqz (Gb (Jz Ym n) u.1 u.2.1 u.2.2.1 u.2.2.2.1 u.2.2.2.2.1 u.2.2.2.2.2.1 u.2.2.2.2.2.2)
  generalize Jz Ym n=rc at ih
  unfold Gb
  refine QP fun o ho=>?_
  cases o with
  | inr e =>
   refine Qr fun p hp=>?_
   cases hp
   have:G3 (fun o:Unit⊕Int=>Qr0 o) (Option.bind (Qhc u.2.2.2.2.1 u.1 u.2.1) fun (x6:Int)=>cond (x6 != 0) (some (.inr x6)) (some (.inl ()))) :=
    QP fun x hx=>Jg (Qr fun e h=>by cases h;exact m59_n4 _ _ _ _ hx) (Qr fun e h=>by cases h)
   exact this _ ho e Z
  | inl y =>
   refine QP fun v _=>?_
   unfold ZE
   refine QP fun b _=>QP fun o ho=>?_
   have l1:G3 (fun o:Int⊕((Int×Int)⊕(Bool×Int))=>∀ x,o=.inr x→Qqz x) (Qa (Yc u.1 b u.2.1 rc u.2.2.1 u.2.2.2.1 u.2.2.2.2.1 u.2.2.2.2.2.2) Qd (0,Qo (u.2.2.2.2.2.1+1))):=Wp (fun s=>by
    unfold Yc
    refine Jg (QP fun x _=>QP fun v _=>?_) (Qr fun r h=>by cases h;intro x h;cases h)
    unfold GE
    refine QP fun o ho=>?_
    cases o with
    | inl p=>exact Qr fun r h=>(by cases h;intro x hx;cases hx;intro q hq;cases hq;exact ih _ _ ho p rfl)
    | inr p=>exact Jg (Qr fun r h=>(by cases h;intro x hx;cases hx;intro q hq;cases hq)) (Qr fun r h=>by cases h)) Qd _
   cases o with
   | inl b=>exact Qr fun p hp=>by cases hp
   | inr x=>exact Qr (l1 _ ho x rfl)
theorem m27_n4 (t:Tm) (a b c d:Int):G3 (· ≠ 4) (Qky t a b c d):=by
 unfold Qky
 refine QP fun y _=>QP fun o ho=>?_
 cases o with
 | inl n=>exact Jg (Qr (by decide)) (QP fun x _=>Jg (Qr (by decide)) (Qr (by decide)))
 | inr p =>
  refine Qr ?_
  have:G3 (fun o:Int⊕(Int×Int)=>∀ p,o=.inr p→p.1 ≠ 4) (Option.bind (some ()) (fun (y7:Unit)=>Option.bind (Q8u t 0 t 0 (⟨(max a 0),(max b 0),(max c 0),(max d 0)⟩:Scp) 0 t) (Sum.elim (fun (x10:Int×Int)=>some (.inr (x10.1,x10.2))) (fun (x11:Bool×Int)=>some (.inl x11.2))))) :=
   QP fun y _=>QP fun o ho=>by
    cases o with
    | inl q=>exact Qr fun p hp=>(by cases hp;exact Qfi _ _ _ ho q rfl)
    | inr q=>exact Qr fun p hp=>by cases hp
  exact this _ ho p Z
def Qpb (X:Nat→Qr7):Nat→Nat
 | 0=>0
 | m+1=>Qpb X m+((X m).length+3)
theorem Q7w (x:Tkn) (l:List Tkn):∀ m,Qpb (J6 (x::l)) (m+1)=(x.text.length+3)+Qpb (J6 l) m
 | 0=>by show 0+_=_+0;rw [P4];rfl
 | m+1=>by
  show Qpb (J6 (x::l)) (m+1)+((J6 (x::l) (m+1)).length+3)=_+(Qpb (J6 l) m+((J6 l m).length+3))
  rw [Q7w x l m,Z6,Pi]
theorem Qci:∀ m,Qpb (J6 []) m=3 * m
 | 0=>rfl
 | m+1=>by
  show Qpb (J6 []) m+((J6 [] m).length+3)=_
  rw [Qci m,Q26];simp only [Ce];omega
theorem Qhh:∀ (n:Nat) (r:Qr7) (k m:Nat),Qpb (J6 (Yt n r k)) m≤r.length+3 * m
 | _,r,k,0=>Cp _
 | 0,r,k,m+1=>by show Qpb (J6 []) (m+1)≤_;rw [Qci];omega
 | n+1,r,k,m+1=>by
  have hdl:=ZH (p:=isSp) r
  have hsc:=KD (r.dropWhile isSp)
  rw [Z1]
  split
  ·rw [Q7w,Qci];simp only [Ce];omega
  ·rw [Q7w]
   have ih:=Qhh n ((r.dropWhile isSp).drop (QC (r.dropWhile isSp))) (k+(r.takeWhile isSp).length+QC (r.dropWhile isSp)) m
   rw [Cu] at ih
   show (List.take _ _).length+3+_≤_
   rw [CI];omega
section
variable {lv:Qr7→Lvl×Int} {X:Nat→Qr7}
theorem Qf3 (s:Qr7):Qq2 (Gl s).1=0:=by
 have key:G3 (fun r:Int×Bool=>Qq2 r.1=0) (Q1y s):=by
  unfold Q1y
  refine QP fun v _=>Jg (Qr Z) ?_
  cases hg:(cond (Nat.ble s.length 18) (Lib.atoi s).isSome false) with
  | false=>intro a e;cases e
  | true =>
   rw [Qw rfl,C1]
   refine Qr ?_
   cases hb:Nat.ble s.length 18 with
   | false=>rw [hb] at hg;cases hg
   | true =>
    cases ha:Lib.atoi s with
    | none=>rw [hb,ha] at hg;cases hg
    | some n =>
     have:=Lib.atoi_bound ha (C3 hb)
     show Qq2 n=0
     unfold Qq2
     rw [Cc (by omega)]
 unfold Gl
 cases h:Q1y s with
 | none=>rfl
 | some r=>exact key r h
theorem Q8b {α:Type} {c:Qr7→Option α} {k m:Nat} {v:α} (h:G0 c (X k) k=.inl (v,m)):m=k+1∧c (X k)=some v:=by
 cases hc:c (X k) with
 | none=>rw [GC hc] at h;cases h
 | some u=>rw [Kn hc] at h;cases h;exact ⟨rfl,rfl⟩
theorem Qee {w:Qr7} {k m:Nat} {v:Unit} (h:XS w X k=.inl (v,m)):m=k+1:=(Q8b (c:=Qgn w) h).1
theorem Qj1 (hlv:∀ s:Qr7,s.length≤65536→(lv s).1.vs.length≤s.length) (hX:∀ j,(X j).length≤65536) {k m:Nat} {l:Lvl} (h:Q1v lv X k=.inl (l,m)):m=k+1∧Q3o l≤(X k).length+1:=by
 obtain ⟨h1,h2⟩:=Q8b (c:=Qjz lv) h
 refine ⟨h1,?_⟩
 unfold Qjz at h2
 split at h2
 ·split at h2
  ·cases h2
   have h3:=hX k
   have h4:=hlv (Df (X k)) (by unfold Df;rw [Cu,CI];omega)
   have h5:(Df (X k)).length≤(X k).length:=by unfold Df;rw [Cu,CI];omega
   unfold Q3o
   rw [show ((lv (Df (X k))).1.vs.map fun _=>1).sum=(lv (Df (X k))).1.vs.length by induction (lv (Df (X k))).1.vs with | nil=>rfl | cons a l ih=>rw [CF,Pj,ih,C2];omega]
   omega
  ·cases h2
 ·cases h2
theorem Qfk (hlv:∀ s:Qr7,s.length≤65536→(lv s).1.vs.length≤s.length) (hX:∀ j,(X j).length≤65536):∀ (f k m:Nat) (ls:List Lvl),ZV lv f X k=.inl (ls,m)→Qpb X k+(ls.map Q3o).sum+1≤Qpb X m
 | 0,k,m,ls,h=>by cases h
 | f+1,k,m,ls,h=>by
  unfold ZV at h
  split at h
  ·cases h
   show Qpb X k+0+1≤Qpb X k+_
   omega
  ·cases hp:Q1v lv X k with
   | inr j=>rw [hp] at h;cases h
   | inl x =>
    obtain ⟨l,j⟩:=x
    rw [hp] at h
    obtain ⟨h1,h2⟩:=Qj1 hlv hX hp
    subst h1
    cases hq:ZV lv f X (k+1) with
    | inr j=>exact absurd (show (.inr j:Qqw (List Lvl))=.inl (ls,m) from by rw [← h];show _=J7 (ZV lv f X (k+1)) _;rw [hq];rfl) (by intro e;cases e)
    | inl x =>
     obtain ⟨ls',j⟩:=x
     have e:(.inl (l::ls',j):Qqw (List Lvl))=.inl (ls,m):=by rw [← h];show _=J7 (ZV lv f X (k+1)) _;rw [hq];rfl
     cases e
     have ih:=Qfk hlv hX f (k+1) _ ls' hq
     rw [CF,Pj]
     have:Qpb X (k+1)=Qpb X k+((X k).length+3):=rfl
     omega
theorem Z0 {α β:Type} {r:Qqw α} {f:α→Nat→Qqw β} {b:β} {m:Nat} (h:J7 r f=.inl (b,m)):∃ a j,r=.inl (a,j)∧f a j=.inl (b,m):=by
 cases r with
 | inr j=>cases h
 | inl x=>exact ⟨x.1,x.2,rfl,h⟩
theorem Qfq {rc:(Nat→Qr7)→Nat→Qqw Tm} (hrc:∀ k m t,rc X k=.inl (t,m)→Qpb X k+t.size≤Qpb X m):∀ (c k m:Nat) (ts:List Tm),U0 rc c X k=.inl (ts,m)→Qpb X k+(ts.map Tm.size).sum+1≤Qpb X m
 | 0,k,m,ts,h=>by
  obtain ⟨v,j,h1,h2⟩:=Z0 h
  have:=Qee h1
  subst this
  cases h2
  show Qpb X k+0+1≤Qpb X k+_
  omega
 | c+1,k,m,ts,h=>by
  obtain ⟨t,j,h1,h2⟩:=Z0 h
  obtain ⟨ts',j',h3,h4⟩:=Z0 h2
  cases h4
  have i1:=hrc k j t h1
  have i2:=Qfq hrc c j m ts' h3
  rw [CF,Pj];omega
theorem atom_wt {k m:Nat} {t:Tm} (h:pAtom X k=.inl (t,m)):m=k+1∧t.size≤(X k).length+1:=by
 obtain ⟨h1,h2⟩:=Q8b (c:=Qc2) h
 refine ⟨h1,?_⟩
 have z:∀ (a:Int) (n:Qr7),(Tm.mk a 0 n [] []).size=1+n.length:=fun a n=>by
  rw [Tm.size_eq]
  show 1+Qq2 0+n.length+0+0=_
  rw [show Qq2 0=0 from rfl];omega
 unfold Qc2 at h2
 split at h2
 ·cases h2
 ·rename_i c r hX
  split at h2
  ·cases h2;rw [z];simp only [Ce];omega
  ·split at h2
   ·cases h2
    rw [Tm.size_eq]
    show 1+Qq2 (Gl r).1+0+0+0≤_
    rw [Qf3];omega
   ·split at h2
    ·cases h2
     rw [Tm.size_eq]
     show 1+Qq2 (Gl r).1+0+0+0≤_
     rw [Qf3];omega
    ·split at h2
     ·cases h2;rw [z,hX];omega
     ·cases h2
theorem Qed (hlv:∀ s:Qr7,s.length≤65536→(lv s).1.vs.length≤s.length) (hX:∀ j,(X j).length≤65536):∀ (n k m:Nat) (t:Tm),Qpr lv n X k=.inl (t,m)→Qpb X k+t.size≤Qpb X m
 | 0,k,m,t,h=>by cases h
 | n+1,k,m,t,h=>by
  have w1:∀ k,Qpb X (k+1)=Qpb X k+((X k).length+3):=fun _=>rfl
  unfold Qpr at h
  split at h
  ·unfold Q3d at h
   split at h
   ·obtain ⟨l,j,h1,h2⟩:=Z0 h
    obtain ⟨v,j',h3,h4⟩:=Z0 h2
    cases h4
    obtain ⟨e1,e2⟩:=Qj1 hlv hX h1
    have e3:=Qee h3
    subst e1 e3
    rw [Tm.size_eq]
    show Qpb X k+(1+Qq2 0+0+(Q3o l+0)+0)≤_
    rw [show Qq2 0=0 from rfl]
    have:=w1 k;have:=w1 (k+1);have:=w1 (k+1+1);have:=w1 (k+1+1+1)
    omega
   ·split at h
    ·obtain ⟨nm,j,h1,h2⟩:=Z0 h
     obtain ⟨ls,j',h3,h4⟩:=Z0 h2
     cases h4
     obtain ⟨e1,e2⟩:=Q8b (c:=Q7f) h1
     subst e1
     have e3:nm=X (k+1+1):=by
      unfold Q7f at e2
      split at e2
      ·cases e2;rfl
      ·cases e2
     have i:=Qfk hlv hX 1000000 _ _ ls h3
     rw [Tm.size_eq]
     show Qpb X k+(1+Qq2 0+nm.length+(ls.map Q3o).sum+0)≤_
     rw [show Qq2 0=0 from rfl,e3]
     have:=w1 k;have:=w1 (k+1);have:=w1 (k+1+1)
     omega
    ·split at h
     ·cases h
     ·obtain ⟨ts,j,h1,h2⟩:=Z0 h
      cases h2
      have i:=Qfq (fun k m t=>Qed hlv hX n k m t) _ _ _ ts h1
      rw [Tm.size_eq]
      show Qpb X k+(1+Qq2 0+0+0+(ts.map Tm.size).sum)≤_
      rw [show Qq2 0=0 from rfl]
      have:=w1 k;have:=w1 (k+1)
      omega
  ·obtain ⟨e1,e2⟩:=atom_wt h
   subst e1
   have:=w1 k
   omega
theorem read_size (hlv:∀ s:Qr7,s.length≤65536→(lv s).1.vs.length≤s.length) {s:Qr7} (hs:s.length≤65536) {t:Tm} (h:G9 lv s=.ok t):t.size≤2000000:=by
 have hG:=Q27 s hs
 unfold G9 at h
 cases hT:Qpr lv Qd (J6 (Jy s)) 0 with
 | inr m=>rw [hT] at h;cases h
 | inl x =>
  obtain ⟨u,m⟩:=x
  rw [hT] at h
  dsimp only at h
  split at h
  ·cases h
   have h1:=Qed hlv hG.short Qd 0 m t hT
   have h2:=Qhh (s.length+1) s 0 m
   have h3:=((Q62 lv Qd).rng (J6 (Jy s)) (Jy s).length 0 hG.last (WE _ _ _)).1 t m hT
   have h4:=Q93 (s.length+1) s 0
   have h5:Qpb (J6 (Jy s)) m≤s.length+3 * m:=h2
   have h6:Qpb (J6 (Jy s)) 0=0:=rfl
   have h7:(Jy s).length≤s.length+1:=h4
   omega
  ·cases h
end
def Q3c (lv:Qr7→Lvl×Int) (s:Qr7):Option (Tm×Int×Int):=match G9 lv s with
 | .ok t=>Option.bind (Qhd t) fun (x69:(List UInt8)×Int)=>cond ((x69.2 != 0)) (some (Qpa,0,x69.2)) (some (t,0,0))
 | .bad i=>some (Qpa,i,4)
theorem m13_ok {t:Tm} (hz:t.size≤2000000):∃ e,e ≠ 4∧Qhd t=some (X6 e t):=by
 obtain ⟨e,h1,h2⟩:=m27_eq t 1000000 1000000 (by omega)
 refine ⟨e,m27_n4 _ _ _ _ _ _ h2,?_⟩
 by_cases h0:e=0
 ·subst h0
  unfold X6
  rw [Cc rfl]
  exact m13_ok1 hz (check_ok t (by omega) h1) h2
 ·unfold Qhd X6
  rw [h2,C1,Qc3 h0,C8 h0];rfl
theorem printT_4 {e:Int} (h:e ≠ 4) (t:Tm):(X6 e t).2 ≠ 4:=by
 unfold X6
 split
 ·split
  ·show (5:Int) ≠ 4;decide
  ·show (0:Int) ≠ 4;decide
 ·exact h
theorem parse_ok {lv:Qr7→Lvl×Int} (hlv:∀ s:Qr7,s.length≤65536→(lv s).1.vs.length≤s.length) {s:Qr7} (hs:s.length≤65536) {t:Tm} (h:G9 lv s=.ok t):∃ e,e ≠ 4∧Qhd t=some (X6 e t)∧Q3c lv s=some (if (X6 e t).2=0 then (t,0,0) else (Qpa,0,(X6 e t).2)):=by
 obtain ⟨e,h0,h1⟩:=m13_ok (read_size hlv hs h)
 refine ⟨e,h0,h1,?_⟩
 unfold Q3c
 rw [h]
 dsimp only
 rw [h1,C1]
 by_cases h0:(X6 e t).2=0
 ·rw [Cc h0,h0];rfl
 ·rw [C8 h0,Qc3 h0];rfl
end
end Go.Proofs.YtjcfppnjamjjhaaGreatDoor
