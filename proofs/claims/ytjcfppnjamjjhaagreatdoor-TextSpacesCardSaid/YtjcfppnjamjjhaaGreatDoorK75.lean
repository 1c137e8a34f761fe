/- Part 5 of the proof: rules, mirrors and plain laws. The card of TextSpaces is proved here: for every string and every byte the law returns true, and the arguments read behind the call as they did before; condition: the listed package-level variables hold what the text of the program lays (tied). -/
import Derived.Test.YtjcfppnjamjjhaaGreatDoorK74
import Derived.Lib.AtoiBound
set_option maxHeartbeats 2000000
set_option maxRecDepth 100000
set_option linter.unusedSimpArgs false
set_option linter.unusedVariables false
set_option linter.unusedSectionVars false
namespace Go.Proofs.YtjcfppnjamjjhaaGreatDoor
noncomputable section
open Go.RowKit
set_option maxRecDepth 100000
theorem en_145:Qc Tryz.prog 145:=enters_of Tryz.func145 (by kernel_rfl) rfl
def Qj9 (a0:Int):Option (Bool) :=
 Option.bind (cond ((decide (97≤a0))) (cond ((decide (a0≤122))) (some true) (cond ((decide (65≤a0))) (cond ((decide (a0≤90))) (some true) (cond ((decide (48≤a0))) (cond ((decide (a0≤57))) (some true) (cond ((a0==95)) (some true) (cond ((a0==39)) (some true) (some (a0==46))))) (cond ((a0==95)) (some true) (cond ((a0==39)) (some true) (some (a0==46)))))) (cond ((decide (48≤a0))) (cond ((decide (a0≤57))) (some true) (cond ((a0==95)) (some true) (cond ((a0==39)) (some true) (some (a0==46))))) (cond ((a0==95)) (some true) (cond ((a0==39)) (some true) (some (a0==46))))))) (cond ((decide (65≤a0))) (cond ((decide (a0≤90))) (some true) (cond ((decide (48≤a0))) (cond ((decide (a0≤57))) (some true) (cond ((a0==95)) (some true) (cond ((a0==39)) (some true) (some (a0==46))))) (cond ((a0==95)) (some true) (cond ((a0==39)) (some true) (some (a0==46)))))) (cond ((decide (48≤a0))) (cond ((decide (a0≤57))) (some true) (cond ((a0==95)) (some true) (cond ((a0==39)) (some true) (some (a0==46))))) (cond ((a0==95)) (some true) (cond ((a0==39)) (some true) (some (a0==46))))))) fun (v1:Bool)=>some v1
def k145:KF UV:=⟨[.int .u8],[.bool],fun v=>Qj9 v⟩
def H145:Hints UV:=⟨[(1,⟨[([.reg 2],.bool)],[],false⟩)],[]⟩
theorem Qg5:Yb DV W0 Tryz.prog 145 k145:=YL (C:=Qrk) rfl QC Ql (QB (tb:=[]) Ql trivial) JH Tryz.func145 en_145 H145 k145 rfl (fun v=>by kernel_rfl)
theorem en_144:Qc Tryz.prog 144:=enters_of Tryz.func144 (by kernel_rfl) rfl
def Qja (a0:List UInt8) (a1:Int):Option (Int) :=
 Option.bind (Q9 (σ:=Int) (β:=Int) (fun s11=>Option.bind (cond ((decide (s11 < (a0.length:Int)))) (Option.bind (J0 a0 s11) fun (x16:UInt8)=>Option.bind (Qj9 (x16.toNat:Int)) fun (x17:Bool)=>some x17) (some false)) fun (v15:Bool)=>cond v15 (some (.next (Qm (s11+1)))) (some (.done s11))) Qd a1) fun (v12:Int)=>some v12
def k144:KF UV:=⟨[.str,.int .i64],[.int .i64],fun v=>Qja v.1 v.2⟩
def H144:Hints UV:=⟨[(1,⟨[([.reg 1],.int .i64)],[([.reg 1],.int .i64)],false⟩),(2,⟨[([.reg 14],.bool)],[],false⟩)],[]⟩
theorem k144_ok:Yb DV W0 Tryz.prog 144 k144:=YL (C:=Qrk) rfl QC Ql (QB (tb:=[(145,k145)]) Ql ⟨Qg5,trivial⟩) JH Tryz.func144 en_144 H144 k144 rfl (fun v=>by kernel_rfl)
theorem en_125:Qc Tryz.prog 125:=enters_of Tryz.func125 (by kernel_rfl) rfl
def Q21 (a0:List UInt8):Option (Int×Bool) :=
 Option.bind (cond ((decide (6 < (a0.length:Int)))) (some true) (cond ((a0==([]:List UInt8))) (some true) (Option.bind (Qlc a0 ([48,49,50,51,52,53,54,55,56,57]:List UInt8)) fun (x4:(List UInt8))=>cond ((!(x4==([]:List UInt8)))) (some true) (cond ((decide (1 < (a0.length:Int)))) (Option.bind (J0 a0 0) fun (x5:UInt8)=>some ((x5.toNat:Int)==48)) (some false))))) fun (v3:Bool)=>cond v3 (some (0,false)) (Option.bind (Q7 (cond (Nat.ble a0.length 18) (Lib.atoi a0).isSome false) (some ((Lib.atoi a0).getD 0))) fun (x6:Int)=>some (x6,true))
def k125:KF UV:=⟨[.str],[.int .i64,.bool],fun v=>Q21 v⟩
def H125:Hints UV:=⟨[(1,⟨[([.reg 27],.bool)],[],false⟩)],[(5,[])]⟩
theorem Qg9:Yb DV W0 Tryz.prog 125 k125:=YL (C:=Qrk) rfl QC Ql (kOr_ok (QB (tb:=[(146,k146)]) Ql ⟨k146_ok,trivial⟩) atK_ok) JH Tryz.func125 en_125 H125 k125 rfl (fun v=>by kernel_rfl)
theorem en_123:Qc Tryz.prog 123:=enters_of Tryz.func123 (by kernel_rfl) rfl
def Qhh (a0:List UInt8) (a1:Int):Option (Int) :=
 Option.bind (J0 a0 a1) fun (x1:UInt8)=>Option.bind (cond (((x1.toNat:Int)==40)) (some true) (some ((x1.toNat:Int)==41))) fun (v2:Bool)=>cond v2 (some (Qm (a1+1))) (Option.bind (α:=Unit⊕Int) (cond (((x1.toNat:Int)==91)) (Q7 (Q22 a1 a0.length) (Option.bind (Qdl (List.drop a1.toNat a0) 93) fun (x30:Int)=>cond ((decide (0≤x30))) (some (.inr (Qm ((Qm (a1+x30))+1)))) (some (.inl ())))) (Option.bind (cond (((x1.toNat:Int)==35)) (some true) (some ((x1.toNat:Int)==63))) fun (v31:Bool)=>Option.bind (α:=Unit⊕Int) (cond v31 (Option.bind (Qja a0 (Qm (a1+1))) fun (x44:Int)=>Q7 (cond (decide (0≤(Qm (a1+1)))) (cond (Nat.ble (Qm (a1+1)).toNat x44.toNat) (Q22 x44 a0.length) false) false) (Option.bind (Q21 (List.drop (Qm (a1+1)).toNat (List.take x44.toNat a0))) fun (x45:Int×Bool)=>cond x45.2 (some (.inr x44)) (some (.inl ())))) (Option.bind (Qj9 (x1.toNat:Int)) fun (x46:Bool)=>Option.bind (α:=Unit⊕Int) (cond x46 (Option.bind (Qja a0 a1) fun (x51:Int)=>Q7 (cond (decide (0≤a1)) (cond (Nat.ble a1.toNat x51.toNat) (Q22 x51 a0.length) false) false) (Option.bind (Q21 (List.drop a1.toNat (List.take x51.toNat a0))) fun (x52:Int×Bool)=>Option.bind (cond x52.2 (some true) (cond ((decide ((x1.toNat:Int) < 48))) (some true) (some (decide (57 < (x1.toNat:Int)))))) fun (v53:Bool)=>cond v53 (some (.inr x51)) (some (.inl ())))) (some (.inl ()))) (Sum.elim (fun (v50:Unit)=>some (.inl ())) (fun (o54:Int)=>some (.inr o54))))) (Sum.elim (fun (v43:Unit)=>some (.inl ())) (fun (o55:Int)=>some (.inr o55))))) (Sum.elim (fun (v29:Unit)=>some a1) (fun (o56:Int)=>some o56)))
def k123:KF UV:=⟨[.str,.int .i64],[.int .i64],fun v=>Qhh v.1 v.2⟩
def H123:Hints UV:=⟨[(3,⟨[([.reg 16],.bool)],[],false⟩),(7,⟨[],[],true⟩),(12,⟨[([.reg 38],.bool)],[],false⟩),(13,⟨[],[],true⟩),(20,⟨[],[],true⟩),(23,⟨[([.reg 82],.bool)],[],false⟩)],[]⟩
theorem Qgb:Yb DV W0 Tryz.prog 123 k123:=YL (C:=Qrk) rfl QC Ql (QB (tb:=[(122,k122),(125,k125),(144,k144),(145,k145)]) Ql ⟨Q9d,Qg9,k144_ok,Qg5,trivial⟩) JH Tryz.func123 en_123 H123 k123 rfl (fun v=>by kernel_rfl)
theorem en_78:Qc Tryz.prog 78:=enters_of Tryz.func78 (by kernel_rfl) rfl
def Qo1 (a0:Int):Option (Int) :=
 Option.bind (cond ((a0==8)) (some (a0==8)) (some (a0==11))) fun (v1:Bool)=>cond v1 (some 3) (Option.bind (cond ((a0==9)) (some (a0==9)) (some (a0==10))) fun (v2:Bool)=>cond v2 (some 1) (some 2))
def k78:KF UV:=⟨[.int .i64],[.int .i64],fun v=>Qo1 v⟩
def H78:Hints UV:=⟨[(4,⟨[([.reg 4],.bool)],[],false⟩),(9,⟨[([.reg 7],.bool)],[],false⟩)],[]⟩
theorem Qji:Yb DV W0 Tryz.prog 78 k78:=YL (C:=Qrk) rfl QC Ql (QB (tb:=[]) Ql trivial) JH Tryz.func78 en_78 H78 k78 rfl (fun v=>by kernel_rfl)
theorem en_74:Qc Tryz.prog 74:=enters_of Tryz.func74 (by kernel_rfl) rfl
def Qj1 (b:Rdr):Option ((Rdr×((List UInt8)))⊕(Unit×Rdr)) :=
 Option.bind (J0 b.l b.n) fun (x1:Tkn)=>some (.inl (b,x1.text))
def k74:PF UV:=⟨.stc 127 .t127,[],[.str],.p0 127,fun b v=>Qj1 b⟩
def H74:Hints UV:=⟨[],[(1,[])]⟩
theorem Uv:WV DV W0 Tryz.prog 74 k74:=XT (C:=Qrk) rfl QC Ql (QB (tb:=[]) Ql trivial) JH Tryz.func74 en_74 H74 k74 rfl rfl (fun b v=>by kernel_rfl)
theorem en_72:Qc Tryz.prog 72:=enters_of Tryz.func72 (by kernel_rfl) rfl
def Qnd (b:Rdr) (a1:List UInt8):Option ((Rdr×Bool)⊕(Unit×Rdr)) :=
 Option.bind (Zw (Qj1 b)) fun (r1:Rdr×((List UInt8)))=>some (.inl (r1.1,(r1.2==a1)))
def k72:PF UV:=⟨.stc 127 .t127,[.str],[.bool],.p0 127,fun b v=>Qnd b v⟩
def H72:Hints UV:=⟨[],[]⟩
theorem k72_ok:WV DV W0 Tryz.prog 72 k72:=XT (C:=Qrk) rfl QC Ql (QB (tb:=[]) Ql trivial) (Kf (tb:=[(74,k74)]) Ql ⟨Uv,trivial⟩) Tryz.func72 en_72 H72 k72 rfl rfl (fun b v=>by kernel_rfl)
theorem en_124:Qc Tryz.prog 124:=enters_of Tryz.func124 (by kernel_rfl) rfl
def Qhg (b:Rdr):Option ((Rdr×Unit)⊕((Int×Int)×Rdr)) :=
 Option.bind (J0 b.l b.n) fun (x1:Tkn)=>some (.inr ((4,x1.at_),b))
def k124:PF UV:=⟨.stc 127 .t127,[],[],.p2 69,fun b v=>Qhg b⟩
def H124:Hints UV:=⟨[],[(0,[13])]⟩
theorem Qga:WV DV W0 Tryz.prog 124 k124:=XT (C:=Qrk) rfl QC Ql (QB (tb:=[]) Ql trivial) JH Tryz.func124 en_124 H124 k124 rfl rfl (fun b v=>by kernel_rfl)
theorem en_77:Qc Tryz.prog 77:=enters_of Tryz.func77 (by kernel_rfl) rfl
def Qbd (b:Rdr) (a1:Bool):Option ((Rdr×Unit)⊕((Int×Int)×Rdr)) :=
 Option.bind (α:=((List Tkn)×Int)⊕((Rdr×Unit)⊕((Int×Int)×Rdr))) (cond ((!a1)) (Option.bind (Qhg b) (Sum.elim (fun (r4:Rdr×Unit)=>some (.inl (r4.1.l,r4.1.n))) (fun (e5:(Int×Int)×Rdr)=>some (.inr (.inr ((e5.1.1,e5.1.2),e5.2)))))) (some (.inl (b.l,b.n)))) (Sum.elim (fun (v3:(List Tkn)×Int)=>some (.inl ((Rdr.mk v3.1 v3.2),()))) (fun (o6:(Rdr×Unit)⊕((Int×Int)×Rdr))=>some o6))
def k77:PF UV:=⟨.stc 127 .t127,[.bool],[],.p2 69,fun b v=>Qbd b v⟩
def H77:Hints UV:=⟨[(1,⟨[([.at 0 0],.sl .t132),([.at 0 1],.int .i64)],[],true⟩)],[]⟩
theorem Q3v:WV DV W0 Tryz.prog 77 k77:=XT (C:=Qrk) rfl QC Ql (QB (tb:=[]) Ql trivial) (Kg (tb:=[(124,k124)]) Ql ⟨Qga,trivial⟩) Tryz.func77 en_77 H77 k77 rfl rfl (fun b v=>by kernel_rfl)
theorem en_79:Qc Tryz.prog 79:=enters_of Tryz.func79 (by kernel_rfl) rfl
def Qiy (b:Rdr) (a1:List UInt8):Option ((Rdr×Unit)⊕((Int×Int)×Rdr)) :=
 Option.bind (Zw (Qj1 b)) fun (r1:Rdr×((List UInt8)))=>Option.bind (Qbd r1.1 (r1.2==a1)) (Sum.elim (fun (r3:Rdr×Unit)=>some (.inl ((Rdr.mk r3.1.l (Qm (r3.1.n+1))),()))) (fun (e4:(Int×Int)×Rdr)=>some (.inr ((e4.1.1,e4.1.2),e4.2))))
def k79:PF UV:=⟨.stc 127 .t127,[.str],[],.p2 69,fun b v=>Qiy b v⟩
def H79:Hints UV:=⟨[],[]⟩
theorem k79_ok:WV DV W0 Tryz.prog 79 k79:=XT (C:=Qrk) rfl QC Ql (QB (tb:=[]) Ql trivial) (Gm (Kf (tb:=[(74,k74)]) Ql ⟨Uv,trivial⟩) (Kg (tb:=[(77,k77)]) Ql ⟨Q3v,trivial⟩)) Tryz.func79 en_79 H79 k79 rfl rfl (fun b v=>by kernel_rfl)
theorem en_76:Qc Tryz.prog 76:=enters_of Tryz.func76 (by kernel_rfl) rfl
def Qmp (b:Rdr):Option ((Rdr×((List UInt8)))⊕((Int×Int)×Rdr)) :=
 Option.bind (Zw (Qj1 b)) fun (r1:Rdr×((List UInt8)))=>Option.bind (Q05 r1.2) fun (x3:Bool)=>Option.bind (Qbd r1.1 x3) (Sum.elim (fun (r4:Rdr×Unit)=>some (.inl ((Rdr.mk r4.1.l (Qm (r4.1.n+1))),r1.2))) (fun (e5:(Int×Int)×Rdr)=>some (.inr ((e5.1.1,e5.1.2),e5.2))))
def k76:PF UV:=⟨.stc 127 .t127,[],[.str],.p2 69,fun b v=>Qmp b⟩
def H76:Hints UV:=⟨[],[]⟩
theorem Qjj:WV DV W0 Tryz.prog 76 k76:=XT (C:=Qrk) rfl QC Ql (QB (tb:=[(110,k110)]) Ql ⟨k110_ok,trivial⟩) (Gm (Kf (tb:=[(74,k74)]) Ql ⟨Uv,trivial⟩) (Kg (tb:=[(77,k77)]) Ql ⟨Q3v,trivial⟩)) Tryz.func76 en_76 H76 k76 rfl rfl (fun b v=>by kernel_rfl)
theorem en_75:Qc Tryz.prog 75:=enters_of Tryz.func75 (by kernel_rfl) rfl
def Qmq (b:Rdr):Option ((Rdr×Lvl)⊕((Int×Int)×Rdr)) :=
 Option.bind (Zw (Qj1 b)) fun (r1:Rdr×((List UInt8)))=>Option.bind (Qoa r1.2 ([91]:List UInt8)) fun (x3:Bool)=>Option.bind (Qbd r1.1 x3) (Sum.elim (fun (r4:Rdr×Unit)=>Q7 (cond (decide (0≤(1:Int))) (cond (Nat.ble (1:Int).toNat (Qm ((r1.2.length:Int) - 1)).toNat) (Q22 (Qm ((r1.2.length:Int) - 1)) r1.2.length) false) false) (Option.bind (Db (List.drop (1:Int).toNat (List.take (Qm ((r1.2.length:Int) - 1)).toNat r1.2))) fun (x6:Lvl×Int)=>Option.bind (Qbd r4.1 (x6.2==0)) (Sum.elim (fun (r7:Rdr×Unit)=>some (.inl ((Rdr.mk r7.1.l (Qm (r7.1.n+1))),x6.1))) (fun (e8:(Int×Int)×Rdr)=>some (.inr ((e8.1.1,e8.1.2),e8.2)))))) (fun (e5:(Int×Int)×Rdr)=>some (.inr ((e5.1.1,e5.1.2),e5.2))))
def k75:PF UV:=⟨.stc 127 .t127,[],[.stc .t82],.p2 69,fun b v=>Qmq b⟩
def H75:Hints UV:=⟨[],[]⟩
theorem k75_ok:WV DV W0 Tryz.prog 75 k75:=XT (C:=Qrk) rfl QC Ql (QB (tb:=[(126,k126),(127,k127)]) Ql ⟨k126_ok,k127_ok,trivial⟩) (Gm (Kf (tb:=[(74,k74)]) Ql ⟨Uv,trivial⟩) (Kg (tb:=[(77,k77)]) Ql ⟨Q3v,trivial⟩)) Tryz.func75 en_75 H75 k75 rfl rfl (fun b v=>by kernel_rfl)
theorem en_73:Qc Tryz.prog 73:=enters_of Tryz.func73 (by kernel_rfl) rfl
def Qo2 (b:Rdr):Option ((Rdr×Tm)⊕((Int×Int)×Rdr)) :=
 Option.bind (Zw (Qj1 b)) fun (r1:Rdr×((List UInt8)))=>Option.bind (α:=((List Tkn)×Int)⊕((Rdr×Tm)⊕((Int×Int)×Rdr))) (cond ((r1.2==([]:List UInt8))) (Option.bind (Qhg r1.1) (Sum.elim (fun (r13:Rdr×Unit)=>some (.inl (r13.1.l,r13.1.n))) (fun (e14:(Int×Int)×Rdr)=>some (.inr (.inr ((e14.1.1,e14.1.2),e14.2)))))) (cond ((r1.2==([112,114,111,112]:List UInt8))) (some (.inr (.inl ((Rdr.mk r1.1.l (Qm (r1.1.n+1))),(Tm.mk 1 0 ([]:List UInt8) ([]) ([])))))) (Option.bind (Option.bind (J0 r1.2 0) fun (x18:UInt8)=>cond (((x18.toNat:Int)==35)) (some true) (Option.bind (J0 r1.2 0) fun (x19:UInt8)=>some ((x19.toNat:Int)==63))) fun (v17:Bool)=>cond v17 (Q7 (Q22 (1:Int) r1.2.length) (Option.bind (Q21 (List.drop (1:Int).toNat r1.2)) fun (x20:Int×Bool)=>Option.bind (J0 r1.2 0) fun (x21:UInt8)=>cond (((x21.toNat:Int)==63)) (some (.inr (.inl ((Rdr.mk r1.1.l (Qm (r1.1.n+1))),(Tm.mk 12 x20.1 ([]:List UInt8) ([]) ([])))))) (some (.inr (.inl ((Rdr.mk r1.1.l (Qm (r1.1.n+1))),(Tm.mk 0 x20.1 ([]:List UInt8) ([]) ([])))))))) (some (.inl (r1.1.l,r1.1.n)))))) (Sum.elim (fun (v12:(List Tkn)×Int)=>Option.bind (Qmp (Rdr.mk v12.1 v12.2)) (Sum.elim (fun (r23:Rdr×((List UInt8)))=>some (.inl (r23.1,(Tm.mk 3 0 r23.2 ([]) ([]))))) (fun (e24:(Int×Int)×Rdr)=>some (.inr ((e24.1.1,e24.1.2),e24.2))))) (fun (o22:(Rdr×Tm)⊕((Int×Int)×Rdr))=>some o22))
def k73:PF UV:=⟨.stc 127 .t127,[],[.stc .t25],.p2 69,fun b v=>Qo2 b⟩
def H73:Hints UV:=⟨[(4,⟨[([.at 0 0],.sl .t132),([.at 0 1],.int .i64)],[],true⟩),(10,⟨[([.reg 24],.bool)],[],false⟩)],[]⟩
theorem k73_ok:WV DV W0 Tryz.prog 73 k73:=XT (C:=Qrk) rfl QC Ql (QB (tb:=[(125,k125)]) Ql ⟨Qg9,trivial⟩) (Gm (Kf (tb:=[(74,k74)]) Ql ⟨Uv,trivial⟩) (Kg (tb:=[(76,k76),(124,k124)]) Ql ⟨Qjj,Qga,trivial⟩)) Tryz.func73 en_73 H73 k73 rfl rfl (fun b v=>by kernel_rfl)
theorem en_36:Qc Tryz.prog 36:=enters_of Tryz.func36 (by kernel_rfl) rfl
theorem Qk0:Qc Tryz.prog 64:=enters_of Tryz.func64 (by kernel_rfl) rfl
def B64_36:IH UV:=⟨Tryz.f64,⟨[],[]⟩,.st⟩
def Qj6 (rc:Rdr×Unit→Option ((Rdr×Tm)⊕((Int×Int)×Rdr))) (b:Rdr):Option ((Rdr×Tm)⊕((Int×Int)×Rdr)) :=
 Option.bind (Zw (Qnd b ([40]:List UInt8))) fun (r1:Rdr×Bool)=>cond ((!r1.2)) (Option.bind (Qo2 r1.1) (Sum.elim (fun (r3:Rdr×Tm)=>some (.inl (r3.1,r3.2))) (fun (e4:(Int×Int)×Rdr)=>some (.inr ((e4.1.1,e4.1.2),e4.2))))) (Option.bind (Zw (Qj1 (Rdr.mk r1.1.l (Qm (r1.1.n+1))))) fun (r5:Rdr×((List UInt8)))=>cond ((r5.2==([115,111,114,116]:List UInt8))) (Option.bind (Qmq (Rdr.mk r5.1.l (Qm (r5.1.n+1)))) (Sum.elim (fun (r7:Rdr×Lvl)=>Option.bind (Qiy r7.1 ([41]:List UInt8)) (Sum.elim (fun (r9:Rdr×Unit)=>some (.inl (r9.1,(Tm.mk 2 0 ([]:List UInt8) ([r7.2]:List Lvl) ([]))))) (fun (e10:(Int×Int)×Rdr)=>some (.inr ((e10.1.1,e10.1.2),e10.2))))) (fun (e8:(Int×Int)×Rdr)=>some (.inr ((e8.1.1,e8.1.2),e8.2))))) (cond ((r5.2==([99,111,110,115,116]:List UInt8))) (Option.bind (Qmp (Rdr.mk r5.1.l (Qm (r5.1.n+1)))) (Sum.elim (fun (r11:Rdr×((List UInt8)))=>Option.bind (Q9 (σ:=(List Tkn)×Int×(List Lvl)) (β:=((List Tkn)×Int×(List Lvl))⊕((Rdr×Tm)⊕((Int×Int)×Rdr))) (fun s25=>Option.bind (Zw (Qnd (Rdr.mk s25.1 s25.2.1) ([41]:List UInt8))) fun (r27:Rdr×Bool)=>cond ((!r27.2)) (Option.bind (Qmq r27.1) (Sum.elim (fun (r29:Rdr×Lvl)=>Q7 (Nat.ble (s25.2.2.length+([r29.2]:List Lvl).length) 1000000000) (some (.next (r29.1.l,r29.1.n,(s25.2.2++([r29.2]:List Lvl)))))) (fun (e30:(Int×Int)×Rdr)=>some (.done (.inr (.inr ((e30.1.1,e30.1.2),e30.2))))))) (some (.done (.inl (r27.1.l,r27.1.n,s25.2.2))))) Qd (r11.1.l,r11.1.n,([]:List Lvl))) (Sum.elim (fun (v26:(List Tkn)×Int×(List Lvl))=>Option.bind (Qiy (Rdr.mk v26.1 v26.2.1) ([41]:List UInt8)) (Sum.elim (fun (r31:Rdr×Unit)=>some (.inl (r31.1,(Tm.mk 3 0 r11.2 v26.2.2 ([]))))) (fun (e32:(Int×Int)×Rdr)=>some (.inr ((e32.1.1,e32.1.2),e32.2))))) (fun (o33:(Rdr×Tm)⊕((Int×Int)×Rdr))=>some o33))) (fun (e12:(Int×Int)×Rdr)=>some (.inr ((e12.1.1,e12.1.2),e12.2))))) (Option.bind (Q9 (σ:=Int×Int) (β:=Int) (fun s40=>cond ((decide (s40.1 < 8))) (Option.bind (J0 ([([97,112,112]:List UInt8),([108,97,109]:List UInt8),([112,105]:List UInt8),([115,105,103,109,97]:List UInt8),([112,97,105,114]:List UInt8),([102,115,116]:List UInt8),([115,110,100]:List UInt8),([108,101,116]:List UInt8)]:List (List UInt8)) s40.1) fun (x42:List UInt8)=>Option.bind (cond ((x42==r5.2)) (some (Qm (4+s40.1))) (some s40.2)) fun (v43:Int)=>some (.next ((Qm (s40.1+1)),v43))) (some (.done s40.2))) Qd (0,0)) fun (v41:Int)=>Option.bind (Qbd r5.1 (v41 != 0)) (Sum.elim (fun (r44:Rdr×Unit)=>Option.bind (Qo1 v41) fun (x46:Int)=>Option.bind (Q9 (σ:=Int×(List Tkn)×Int×(List Tm)) (β:=((List Tkn)×Int×(List Tm))⊕((Rdr×Tm)⊕((Int×Int)×Rdr))) (fun s53=>cond ((decide (s53.1 < x46))) (Option.bind (rc ((Rdr.mk s53.2.1 s53.2.2.1),())) (Sum.elim (fun (r55:Rdr×Tm)=>Q7 (Nat.ble (s53.2.2.2.length+([r55.2]:List Tm).length) 1000000000) (some (.next ((Qm (s53.1+1)),r55.1.l,r55.1.n,(s53.2.2.2++([r55.2]:List Tm)))))) (fun (e56:(Int×Int)×Rdr)=>some (.done (.inr (.inr ((e56.1.1,e56.1.2),e56.2))))))) (some (.done (.inl (s53.2.1,s53.2.2.1,s53.2.2.2))))) Qd (0,r44.1.l,(Qm (r44.1.n+1)),([]:List Tm))) (Sum.elim (fun (v54:(List Tkn)×Int×(List Tm))=>Option.bind (Qiy (Rdr.mk v54.1 v54.2.1) ([41]:List UInt8)) (Sum.elim (fun (r57:Rdr×Unit)=>some (.inl (r57.1,(Tm.mk v41 0 ([]:List UInt8) ([]) v54.2.2)))) (fun (e58:(Int×Int)×Rdr)=>some (.inr ((e58.1.1,e58.1.2),e58.2))))) (fun (o59:(Rdr×Tm)⊕((Int×Int)×Rdr))=>some o59))) (fun (e45:(Int×Int)×Rdr)=>some (.inr ((e45.1.1,e45.1.2),e45.2)))))))
def m36r:Rdr×Unit→Option ((Rdr×Tm)⊕((Int×Int)×Rdr)):=Jv (fun rc v=>Qj6 rc v.1) Qd
def Qp2 (b:Rdr):Option ((Rdr×Tm)⊕((Int×Int)×Rdr)):=m36r (b,())
def k36:PF UV:=⟨.stc 127 .t127,[],[.stc .t25],.p2 69,fun b v=>Qp2 b⟩
def H36:Hints UV:=⟨[(17,⟨[([.at 0 0],.sl .t132),([.at 0 1],.int .i64),([.at 3 3],.app 82 .t82)],[([.at 0 0],.sl .t132),([.at 0 1],.int .i64),([.at 3 3],.app 82 .t82)],true⟩),(23,⟨[([.reg 24],.int .i64),([.at 3 0],.int .i64)],[([.at 3 0],.int .i64)],false⟩),(29,⟨[([.at 3 0],.int .i64)],[],false⟩),(35,⟨[([.reg 50],.int .i64),([.at 0 0],.sl .t132),([.at 0 1],.int .i64),([.at 3 4],.app 25 .t25)],[([.at 0 0],.sl .t132),([.at 0 1],.int .i64),([.at 3 4],.app 25 .t25)],true⟩)],[(21,[3,4,5,7]),(39,[3,4,5,7])]⟩
theorem k36s_ok (rc:Rdr×Unit→Option ((Rdr×Tm)⊕((Int×Int)×Rdr))) (H:∀ (u:Rdr×Unit) (r:(Rdr×Tm)⊕((Int×Int)×Rdr)),rc u=some r→CallO W0 Tryz.prog 36 (.one (.ptr 0 0)::QM DV k36.args u.2) ((Q5j k36.bx u.1).er DV) (Qik DV k36.bx k36.res k36.pk r)):WV DV W0 Tryz.prog 36 ⟨k36.bx,k36.args,k36.res,k36.pk,fun b v=>Qj6 rc b⟩:=XT (C:=Qrk) rfl QC Ql (QB (tb:=[(78,k78)]) Ql ⟨Qji,trivial⟩) (Gd (C:=Qrk) rfl QC Ql (QB (tb:=[(78,k78)]) Ql ⟨Qji,trivial⟩) (Gm (Kf (tb:=[(72,k72),(74,k74)]) Ql ⟨k72_ok,Uv,trivial⟩) (Kg (tb:=[(36,(⟨k36.bx,k36.args,k36.res,k36.pk,fun b v=>rc (b,v)⟩:PF UV)),(73,k73),(75,k75),(76,k76),(77,k77),(79,k79)]) Ql ⟨⟨⟨rfl,rfl⟩,fun b v y h=>H (b,v) y h⟩,k73_ok,k75_ok,Qjj,Q3v,k79_ok,trivial⟩)) (I:=[(64,B64_36)]) ⟨⟨Tryz.func64,Qk0⟩,trivial⟩ 8) Tryz.func36 en_36 H36 _ rfl rfl (fun b v=>by kernel_rfl)
theorem k36_ok:WV DV W0 Tryz.prog 36 k36:=⟨⟨rfl,rfl⟩,fun b v r h=>GB (C:=fun (u:Rdr×Unit) (r:(Rdr×Tm)⊕((Int×Int)×Rdr))=>CallO W0 Tryz.prog 36 (.one (.ptr 0 0)::QM DV k36.args u.2) ((Q5j k36.bx u.1).er DV) (Qik DV k36.bx k36.res k36.pk r)) (fun rc H u r h=>(k36s_ok rc H).2 u.1 u.2 r h) Qd (b,v) r h⟩
theorem en_37:Qc Tryz.prog 37:=enters_of Tryz.func37 (by kernel_rfl) rfl
def Qo5 (b:Rdr) (a1:List UInt8):Option ((Rdr×Unit)⊕((Int×Int)×Rdr)) :=
 Option.bind (α:=((List Tkn)×Int)⊕((Rdr×Unit)⊕((Int×Int)×Rdr))) (Option.bind (Zw (Qj1 b)) fun (r9:Rdr×((List UInt8)))=>cond ((r9.2==([]:List UInt8))) (Option.bind (J0 r9.1.l r9.1.n) fun (x11:Tkn)=>Option.bind (Qbd r9.1 (x11.at_==(a1.length:Int))) (Sum.elim (fun (r12:Rdr×Unit)=>some (.inl (r12.1.l,r12.1.n))) (fun (e13:(Int×Int)×Rdr)=>some (.inr (.inr ((e13.1.1,e13.1.2),e13.2)))))) (Option.bind (Qbd r9.1 false) (Sum.elim (fun (r14:Rdr×Unit)=>some (.inl (r14.1.l,r14.1.n))) (fun (e15:(Int×Int)×Rdr)=>some (.inr (.inr ((e15.1.1,e15.1.2),e15.2))))))) (Sum.elim (fun (v8:(List Tkn)×Int)=>some (.inl ((Rdr.mk v8.1 v8.2),()))) (fun (o16:(Rdr×Unit)⊕((Int×Int)×Rdr))=>some o16))
def k37:PF UV:=⟨.stc 127 .t127,[.str],[],.p2 69,fun b v=>Qo5 b v⟩
def H37:Hints UV:=⟨[(0,⟨[([.at 0 0],.sl .t132),([.at 0 1],.int .i64)],[],true⟩)],[(0,[2,20])]⟩
theorem k37_ok:WV DV W0 Tryz.prog 37 k37:=XT (C:=Qrk) rfl QC Ql (QB (tb:=[]) Ql trivial) (Gm (Kf (tb:=[(74,k74)]) Ql ⟨Uv,trivial⟩) (Kg (tb:=[(77,k77)]) Ql ⟨Q3v,trivial⟩)) Tryz.func37 en_37 H37 k37 rfl rfl (fun b v=>by kernel_rfl)
theorem en_139:Qc Tryz.prog 139:=enters_of Tryz.func139 (by kernel_rfl) rfl
def Qdj (a0:List UInt8) (a1:Int) (a2:Int):Option ((List UInt8)) :=
 Option.bind (Qj4 a1) fun (x1:(List UInt8))=>Q7 (Nat.ble (a0.length+x1.length) 1000000000) (Option.bind (cond ((decide (0 < a2))) (Option.bind (Qj4 a2) fun (x4:(List UInt8))=>Q7 (Nat.ble (([32,43,32]:List UInt8).length+x4.length) 1000000000) (Q7 (Nat.ble ((a0++x1).length+(([32,43,32]:List UInt8)++x4).length) 1000000000) (some ((a0++x1)++(([32,43,32]:List UInt8)++x4))))) (some (a0++x1))) fun (v3:(List UInt8))=>some v3)
def k139:KF UV:=⟨[.str,.int .i64,.int .i64],[.str],fun v=>Qdj v.1 v.2.1 v.2.2⟩
def H139:Hints UV:=⟨[(3,⟨[([.reg 7],.str)],[],false⟩)],[]⟩
theorem Qg7:Yb DV W0 Tryz.prog 139 k139:=YL (C:=Qrk) rfl QC Ql (QB (tb:=[(62,k62)]) Ql ⟨Uw,trivial⟩) JH Tryz.func139 en_139 H139 k139 rfl (fun v=>by kernel_rfl)
theorem en_114:Qc Tryz.prog 114:=enters_of Tryz.func114 (by kernel_rfl) rfl
theorem en_140:Qc Tryz.prog 140:=enters_of Tryz.func140 (by kernel_rfl) rfl
theorem en_163:Qc Tryz.prog 163:=enters_of Tryz.func163 (by kernel_rfl) rfl
def B140_114:IH UV:=⟨Tryz.f140,⟨[],[]⟩,.st⟩
def B163_114:IH UV:=⟨Tryz.f163,⟨[(1,⟨[([.reg 3],.int .i64),([.fat 0 4 0],.app 9 .t9)],[([.fat 0 4 0],.app 9 .t9)],false⟩),(4,⟨[([.fat 0 4 0],.app 9 .t9)],[],false⟩)],[]⟩,.st⟩
def Qld (a0:Lvl):Option ((List UInt8)×Int) :=
 Option.bind (Q5e a0) fun (x1:Bool)=>cond ((!x1)) (some (([]:List UInt8),3)) (Option.bind (cond ((decide (0 < a0.c))) (some true) (some ((a0.vs.length:Int)==0))) fun (v2:Bool)=>Option.bind (cond v2 (Option.bind (Qj4 a0.c) fun (x5:(List UInt8))=>Q7 (Nat.ble (([]:List ((List UInt8))).length+([x5]:List ((List UInt8))).length) 1000000000) (some (([]:List ((List UInt8)))++([x5]:List ((List UInt8)))))) (some ([]:List ((List UInt8))))) fun (v4:(List ((List UInt8))))=>Option.bind (Q9 (σ:=Int×(List ((List UInt8)))) (β:=(List ((List UInt8)))) (fun s12=>cond ((decide (s12.1 < (a0.vs.length:Int)))) (Option.bind (J0 a0.vs s12.1) fun (x14:Qrf)=>cond ((decide (0≤x14.1))) (Option.bind (Qdj ([117]:List UInt8) x14.1 x14.2) fun (x15:(List UInt8))=>Q7 (Nat.ble (s12.2.length+([x15]:List ((List UInt8))).length) 1000000000) (some (.next ((Qm (s12.1+1)),(s12.2++([x15]:List ((List UInt8)))))))) (some (.next ((Qm (s12.1+1)),s12.2)))) (some (.done s12.2))) Qd (0,v4)) fun (v13:(List ((List UInt8))))=>Option.bind (Q9 (σ:=Int×(List ((List UInt8)))) (β:=(List ((List UInt8)))) (fun s31=>cond ((decide (0≤s31.1))) (Option.bind (Option.bind (J0 a0.vs s31.1) fun (x36:Qrf)=>cond ((decide (x36.1 < 0))) (Option.bind (Qdj ([63]:List UInt8) (Qm ((-1) - x36.1)) x36.2) fun (x37:(List UInt8))=>Q7 (Nat.ble (s31.2.length+([x37]:List ((List UInt8))).length) 1000000000) (some (s31.2++([x37]:List ((List UInt8)))))) (some s31.2)) fun (v35:(List ((List UInt8))))=>some (.next ((Qm (s31.1 - 1)),v35))) (some (.done s31.2))) Qd ((Qm ((a0.vs.length:Int) - 1)),v13)) fun (v32:(List ((List UInt8))))=>cond (((v32.length:Int)==1)) (Option.bind (J0 v32 0) fun (x38:(List UInt8))=>some (x38,0)) (Option.bind (Qo9 v32 ([44,32]:List UInt8)) fun (x39:(List UInt8))=>Q7 (Nat.ble (([109,97,120,40]:List UInt8).length+x39.length) 1000000000) (Q7 (Nat.ble ((([109,97,120,40]:List UInt8)++x39).length+([41]:List UInt8).length) 1000000000) (some (((([109,97,120,40]:List UInt8)++x39)++([41]:List UInt8)),0)))))
def k114:KF UV:=⟨[.stc .t82],[.str,.int .i64],fun v=>Qld v⟩
def H114:Hints UV:=⟨[(5,⟨[([.reg 20],.bool)],[],false⟩),(6,⟨[([.at 4 0],.app 9 .t9)],[],false⟩),(9,⟨[([.reg 30],.int .i64),([.at 4 0],.app 9 .t9)],[([.at 4 0],.app 9 .t9)],false⟩)],[(7,[4,5,6]),(16,[6,7,8]),(24,[7,8,9])]⟩
theorem k114_ok:Yb DV W0 Tryz.prog 114 k114:=YL (C:=Qrk) rfl QC Ql (QB (tb:=[(62,k62),(136,k136),(139,k139),(141,k141)]) Ql ⟨Uw,Qg8,Qg7,Qg6,trivial⟩) (Gd (C:=Qrk) rfl QC Ql (QB (tb:=[(62,k62),(136,k136),(139,k139),(141,k141)]) Ql ⟨Uw,Qg8,Qg7,Qg6,trivial⟩) JH (I:=[(140,B140_114),(163,B163_114)]) ⟨⟨Tryz.func140,en_140⟩,⟨Tryz.func163,en_163⟩,trivial⟩ 8) Tryz.func114 en_114 H114 k114 rfl (fun v=>by kernel_rfl)
theorem en_63:Qc Tryz.prog 63:=enters_of Tryz.func63 (by kernel_rfl) rfl
def Qm1 (a0:Lvl):Option ((List UInt8)) :=
 Option.bind (Qld a0) fun (x1:(List UInt8)×Int)=>Q7 (Nat.ble (([91]:List UInt8).length+x1.1.length) 1000000000) (Q7 (Nat.ble ((([91]:List UInt8)++x1.1).length+([93]:List UInt8).length) 1000000000) (some ((([91]:List UInt8)++x1.1)++([93]:List UInt8))))
def k63:KF UV:=⟨[.stc .t82],[.str],fun v=>Qm1 v⟩
def H63:Hints UV:=⟨[],[]⟩
theorem Q9c:Yb DV W0 Tryz.prog 63 k63:=YL (C:=Qrk) rfl QC Ql (QB (tb:=[(114,k114)]) Ql ⟨k114_ok,trivial⟩) JH Tryz.func63 en_63 H63 k63 rfl (fun v=>by kernel_rfl)
theorem Qm7:Qc Tryz.prog 28:=enters_of Tryz.func28 (by kernel_rfl) rfl
theorem Qm6:Qc Tryz.prog 61:=enters_of Tryz.func61 (by kernel_rfl) rfl
def B61_28:IH UV:=⟨Tryz.f61,⟨[],[]⟩,.st⟩
def B64_28:IH UV:=⟨Tryz.f64,⟨[],[]⟩,.st⟩
def Qdd (rc:(List Byt)×Tm→Option (((List Byt)×Unit)⊕(Unit×(List Byt)))) (b:List Byt) (a1:Tm):Option (((List Byt)×Unit)⊕(Unit×(List Byt))) :=
 Option.bind (α:=((List Byt))⊕(((List Byt)×Unit)⊕(Unit×(List Byt)))) (cond ((a1.kind==0)) (Option.bind (Qj4 a1.index) fun (x467:(List UInt8))=>Q7 (Nat.ble (([35]:List UInt8).length+x467.length) 1000000000) (Q7 (Nat.ble (b.length+(([35]:List UInt8)++x467).length) 1000000000) (some (.inl (b++(List.map (fun b:UInt8=>(⟨b.toNat⟩:Byt)) (([35]:List UInt8)++x467))))))) (Option.bind (α:=((List Byt))⊕(((List Byt)×Unit)⊕(Unit×(List Byt)))) (cond ((a1.kind==12)) (Option.bind (Qj4 a1.index) fun (x700:(List UInt8))=>Q7 (Nat.ble (([63]:List UInt8).length+x700.length) 1000000000) (Q7 (Nat.ble (b.length+(([63]:List UInt8)++x700).length) 1000000000) (some (.inl (b++(List.map (fun b:UInt8=>(⟨b.toNat⟩:Byt)) (([63]:List UInt8)++x700))))))) (Option.bind (α:=((List Byt))⊕(((List Byt)×Unit)⊕(Unit×(List Byt)))) (cond ((a1.kind==1)) (Q7 (Nat.ble (b.length+([112,114,111,112]:List UInt8).length) 1000000000) (some (.inl (b++(List.map (fun b:UInt8=>(⟨b.toNat⟩:Byt)) ([112,114,111,112]:List UInt8)))))) (Option.bind (α:=((List Byt))⊕(((List Byt)×Unit)⊕(Unit×(List Byt)))) (cond ((a1.kind==2)) (Option.bind (J0 a1.levels 0) fun (x873:Lvl)=>Option.bind (Qm1 x873) fun (x874:(List UInt8))=>Q7 (Nat.ble (([40,115,111,114,116,32]:List UInt8).length+x874.length) 1000000000) (Q7 (Nat.ble ((([40,115,111,114,116,32]:List UInt8)++x874).length+([41]:List UInt8).length) 1000000000) (Q7 (Nat.ble (b.length+((([40,115,111,114,116,32]:List UInt8)++x874)++([41]:List UInt8)).length) 1000000000) (some (.inl (b++(List.map (fun b:UInt8=>(⟨b.toNat⟩:Byt)) ((([40,115,111,114,116,32]:List UInt8)++x874)++([41]:List UInt8))))))))) (Option.bind (α:=((List Byt))⊕(((List Byt)×Unit)⊕(Unit×(List Byt)))) (cond ((a1.kind==3)) (Option.bind (cond (((a1.levels.length:Int)==0)) (some (!(a1.name==([112,114,111,112]:List UInt8)))) (some false)) fun (v902:Bool)=>cond v902 (Q7 (Nat.ble (b.length+a1.name.length) 1000000000) (some (.inr (.inl ((b++(List.map (fun b:UInt8=>(⟨b.toNat⟩:Byt)) a1.name)),()))))) (Q7 (Nat.ble (([40,99,111,110,115,116,32]:List UInt8).length+a1.name.length) 1000000000) (Q7 (Nat.ble (b.length+(([40,99,111,110,115,116,32]:List UInt8)++a1.name).length) 1000000000) (Option.bind (Q9 (σ:=Int×(List Byt)) (β:=(List Byt)) (fun s909=>cond ((decide (s909.1 < (a1.levels.length:Int)))) (Option.bind (J0 a1.levels s909.1) fun (x911:Lvl)=>Option.bind (Qm1 x911) fun (x912:(List UInt8))=>Q7 (Nat.ble (([32]:List UInt8).length+x912.length) 1000000000) (Q7 (Nat.ble (s909.2.length+(([32]:List UInt8)++x912).length) 1000000000) (some (.next ((Qm (s909.1+1)),(s909.2++(List.map (fun b:UInt8=>(⟨b.toNat⟩:Byt)) (([32]:List UInt8)++x912)))))))) (some (.done s909.2))) Qd (0,(b++(List.map (fun b:UInt8=>(⟨b.toNat⟩:Byt)) (([40,99,111,110,115,116,32]:List UInt8)++a1.name))))) fun (v910:(List Byt))=>Q7 (Nat.ble (v910.length+([41]:List UInt8).length) 1000000000) (some (.inl (v910++(List.map (fun b:UInt8=>(⟨b.toNat⟩:Byt)) ([41]:List UInt8))))))))) (Option.bind (J0 ([([97,112,112]:List UInt8),([108,97,109]:List UInt8),([112,105]:List UInt8),([115,105,103,109,97]:List UInt8),([112,97,105,114]:List UInt8),([102,115,116]:List UInt8),([115,110,100]:List UInt8),([108,101,116]:List UInt8)]:List (List UInt8)) (Qm (a1.kind - 4))) fun (x913:List UInt8)=>Q7 (Nat.ble (([40]:List UInt8).length+x913.length) 1000000000) (Q7 (Nat.ble (b.length+(([40]:List UInt8)++x913).length) 1000000000) (Option.bind (Q9 (σ:=Int×(List Byt)) (β:=(List Byt)) (fun s923=>cond ((decide (s923.1 < (a1.kids.length:Int)))) (Option.bind (J0 a1.kids s923.1) fun (x925:Tm)=>Q7 (Nat.ble (s923.2.length+([32]:List UInt8).length) 1000000000) (Option.bind (Zw (rc ((s923.2++(List.map (fun b:UInt8=>(⟨b.toNat⟩:Byt)) ([32]:List UInt8))),x925))) fun (r926:(List Byt)×Unit)=>some (.next ((Qm (s923.1+1)),r926.1)))) (some (.done s923.2))) Qd (0,(b++(List.map (fun b:UInt8=>(⟨b.toNat⟩:Byt)) (([40]:List UInt8)++x913))))) fun (v924:(List Byt))=>Q7 (Nat.ble (v924.length+([41]:List UInt8).length) 1000000000) (some (.inl (v924++(List.map (fun b:UInt8=>(⟨b.toNat⟩:Byt)) ([41]:List UInt8))))))))) (Sum.elim (fun (v901:(List Byt))=>some (.inl v901)) (fun (o928:((List Byt)×Unit)⊕(Unit×(List Byt)))=>some (.inr o928))))) (Sum.elim (fun (v872:(List Byt))=>some (.inl v872)) (fun (o929:((List Byt)×Unit)⊕(Unit×(List Byt)))=>some (.inr o929))))) (Sum.elim (fun (v815:(List Byt))=>some (.inl v815)) (fun (o930:((List Byt)×Unit)⊕(Unit×(List Byt)))=>some (.inr o930))))) (Sum.elim (fun (v699:(List Byt))=>some (.inl v699)) (fun (o931:((List Byt)×Unit)⊕(Unit×(List Byt)))=>some (.inr o931))))) (Sum.elim (fun (v466:(List Byt))=>some (.inl (v466,()))) (fun (o932:((List Byt)×Unit)⊕(Unit×(List Byt)))=>some o932))
def Qo7:(List Byt)×Tm→Option (((List Byt)×Unit)⊕(Unit×(List Byt))):=Jv (fun rc v=>Qdd rc v.1 v.2) Qd
def Qpc (b:List Byt) (a1:Tm):Option (((List Byt)×Unit)⊕(Unit×(List Byt))):=Qo7 (b,a1)
def k28:PF UV:=⟨.bld 62 5 .t5,[.stc .t25],[],.p0 62,fun b v=>Qpc b v⟩
def H28:Hints UV:=⟨[(4,⟨[([.at 0 1],.app 5 .t5)],[],true⟩),(7,⟨[([.at 0 1],.app 5 .t5)],[],true⟩),(10,⟨[([.at 0 1],.app 5 .t5)],[],true⟩),(13,⟨[([.at 0 1],.app 5 .t5)],[],true⟩),(16,⟨[([.at 0 1],.app 5 .t5)],[],true⟩),(17,⟨[([.reg 74],.bool)],[],false⟩),(22,⟨[([.reg 87],.int .i64),([.at 0 1],.app 5 .t5)],[([.at 0 1],.app 5 .t5)],false⟩),(32,⟨[([.reg 21],.int .i64),([.at 0 1],.app 5 .t5)],[([.at 0 1],.app 5 .t5)],false⟩)],[(30,[1,7])]⟩
theorem k28s_ok (rc:(List Byt)×Tm→Option (((List Byt)×Unit)⊕(Unit×(List Byt)))) (H:∀ (u:(List Byt)×Tm) (r:((List Byt)×Unit)⊕(Unit×(List Byt))),rc u=some r→CallO W0 Tryz.prog 28 (.one (.ptr 0 0)::QM DV k28.args u.2) ((Q5j k28.bx u.1).er DV) (Qik DV k28.bx k28.res k28.pk r)):WV DV W0 Tryz.prog 28 ⟨k28.bx,k28.args,k28.res,k28.pk,fun b v=>Qdd rc b v⟩:=XT (C:=Qrk) rfl QC Ql (QB (tb:=[(62,k62),(63,k63)]) Ql ⟨Uw,Q9c,trivial⟩) (Gd (C:=Qrk) rfl QC Ql (QB (tb:=[(62,k62),(63,k63)]) Ql ⟨Uw,Q9c,trivial⟩) (Gm Qmb (Kf (tb:=[(28,(⟨k28.bx,k28.args,k28.res,k28.pk,fun b v=>rc (b,v)⟩:PF UV))]) Ql ⟨⟨⟨rfl,rfl⟩,fun b v y h=>H (b,v) y h⟩,trivial⟩)) (I:=[(61,B61_28),(64,B64_28)]) ⟨⟨Tryz.func61,Qm6⟩,⟨Tryz.func64,Qk0⟩,trivial⟩ 8) Tryz.func28 Qm7 H28 _ rfl rfl (fun b v=>by kernel_rfl)
theorem k28_ok:WV DV W0 Tryz.prog 28 k28:=⟨⟨rfl,rfl⟩,fun b v r h=>GB (C:=fun (u:(List Byt)×Tm) (r:((List Byt)×Unit)⊕(Unit×(List Byt)))=>CallO W0 Tryz.prog 28 (.one (.ptr 0 0)::QM DV k28.args u.2) ((Q5j k28.bx u.1).er DV) (Qik DV k28.bx k28.res k28.pk r)) (fun rc H u r h=>(k28s_ok rc H).2 u.1 u.2 r h) Qd (b,v) r h⟩
theorem en_13:Qc Tryz.prog 13:=enters_of Tryz.func13 (by kernel_rfl) rfl
theorem en_29:Qc Tryz.prog 29:=enters_of Tryz.func29 (by kernel_rfl) rfl
def B28_13:IH UV:=⟨Tryz.f28,⟨[(17,⟨[([.reg 74],.bool)],[],false⟩),(22,⟨[([.reg 87],.int .i64),([.at 0 1],.app 5 .t5)],[([.at 0 1],.app 5 .t5)],false⟩),(32,⟨[([.reg 21],.int .i64),([.at 0 1],.app 5 .t5)],[([.at 0 1],.app 5 .t5)],false⟩)],[(30,[1,7])]⟩,.st⟩
def B29_13:IH UV:=⟨Tryz.f29,⟨[],[]⟩,.lab [([.reg 2],.int .i64)]⟩
def B61_13:IH UV:=⟨Tryz.f61,⟨[],[]⟩,.st⟩
def B64_13:IH UV:=⟨Tryz.f64,⟨[],[]⟩,.st⟩
def Qhr (a0:Tm):Option ((List UInt8)×Int) :=
 Option.bind (Qlb a0 1000000 1000000 1000000 1000000) fun (x1:Int)=>cond ((x1 != 0)) (some (([]:List UInt8),x1)) (cond ((a0.kind==0)) (Option.bind (Qj4 a0.index) fun (x2:(List UInt8))=>Q7 (Nat.ble (([35]:List UInt8).length+x2.length) 1000000000) (Q7 (Nat.ble (([35]:List UInt8)++x2).length 1000000000) (Option.bind (some ((List.map (fun b:UInt8=>(⟨b.toNat⟩:Byt)) (([35]:List UInt8)++x2)).length:Int)) fun (v3:Int)=>cond ((decide (65536 < v3))) (some (([]:List UInt8),5)) (Q7 (cond (List.all (List.map (fun b:UInt8=>(⟨b.toNat⟩:Byt)) (([35]:List UInt8)++x2)) (fun x:Byt=>cond (decide (0≤x.n)) (decide (x.n < 256)) false)) (!(List.isEmpty (List.map (fun b:UInt8=>(⟨b.toNat⟩:Byt)) (([35]:List UInt8)++x2)))) false) (some ((List.map Byt.u8 (List.map (fun b:UInt8=>(⟨b.toNat⟩:Byt)) (([35]:List UInt8)++x2))),0)))))) (cond ((a0.kind==12)) (Option.bind (Qj4 a0.index) fun (x4:(List UInt8))=>Q7 (Nat.ble (([63]:List UInt8).length+x4.length) 1000000000) (Q7 (Nat.ble (([63]:List UInt8)++x4).length 1000000000) (Option.bind (some ((List.map (fun b:UInt8=>(⟨b.toNat⟩:Byt)) (([63]:List UInt8)++x4)).length:Int)) fun (v5:Int)=>cond ((decide (65536 < v5))) (some (([]:List UInt8),5)) (Q7 (cond (List.all (List.map (fun b:UInt8=>(⟨b.toNat⟩:Byt)) (([63]:List UInt8)++x4)) (fun x:Byt=>cond (decide (0≤x.n)) (decide (x.n < 256)) false)) (!(List.isEmpty (List.map (fun b:UInt8=>(⟨b.toNat⟩:Byt)) (([63]:List UInt8)++x4)))) false) (some ((List.map Byt.u8 (List.map (fun b:UInt8=>(⟨b.toNat⟩:Byt)) (([63]:List UInt8)++x4))),0)))))) (cond ((a0.kind==1)) (Q7 (Nat.ble ([112,114,111,112]:List UInt8).length 1000000000) (Option.bind (some ((List.map (fun b:UInt8=>(⟨b.toNat⟩:Byt)) ([112,114,111,112]:List UInt8)).length:Int)) fun (v6:Int)=>cond ((decide (65536 < v6))) (some (([]:List UInt8),5)) (Q7 (cond (List.all (List.map (fun b:UInt8=>(⟨b.toNat⟩:Byt)) ([112,114,111,112]:List UInt8)) (fun x:Byt=>cond (decide (0≤x.n)) (decide (x.n < 256)) false)) (!(List.isEmpty (List.map (fun b:UInt8=>(⟨b.toNat⟩:Byt)) ([112,114,111,112]:List UInt8)))) false) (some ((List.map Byt.u8 (List.map (fun b:UInt8=>(⟨b.toNat⟩:Byt)) ([112,114,111,112]:List UInt8))),0))))) (cond ((a0.kind==2)) (Option.bind (J0 a0.levels 0) fun (x7:Lvl)=>Option.bind (Qm1 x7) fun (x8:(List UInt8))=>Q7 (Nat.ble (([40,115,111,114,116,32]:List UInt8).length+x8.length) 1000000000) (Q7 (Nat.ble ((([40,115,111,114,116,32]:List UInt8)++x8).length+([41]:List UInt8).length) 1000000000) (Q7 (Nat.ble ((([40,115,111,114,116,32]:List UInt8)++x8)++([41]:List UInt8)).length 1000000000) (Option.bind (some ((List.map (fun b:UInt8=>(⟨b.toNat⟩:Byt)) ((([40,115,111,114,116,32]:List UInt8)++x8)++([41]:List UInt8))).length:Int)) fun (v9:Int)=>cond ((decide (65536 < v9))) (some (([]:List UInt8),5)) (Q7 (cond (List.all (List.map (fun b:UInt8=>(⟨b.toNat⟩:Byt)) ((([40,115,111,114,116,32]:List UInt8)++x8)++([41]:List UInt8))) (fun x:Byt=>cond (decide (0≤x.n)) (decide (x.n < 256)) false)) (!(List.isEmpty (List.map (fun b:UInt8=>(⟨b.toNat⟩:Byt)) ((([40,115,111,114,116,32]:List UInt8)++x8)++([41]:List UInt8))))) false) (some ((List.map Byt.u8 (List.map (fun b:UInt8=>(⟨b.toNat⟩:Byt)) ((([40,115,111,114,116,32]:List UInt8)++x8)++([41]:List UInt8)))),0))))))) (cond ((a0.kind==3)) (Option.bind (cond (((a0.levels.length:Int)==0)) (some (!(a0.name==([112,114,111,112]:List UInt8)))) (some false)) fun (v10:Bool)=>cond v10 (Q7 (Nat.ble a0.name.length 1000000000) (Option.bind (some ((List.map (fun b:UInt8=>(⟨b.toNat⟩:Byt)) a0.name).length:Int)) fun (v11:Int)=>cond ((decide (65536 < v11))) (some (([]:List UInt8),5)) (Q7 (cond (List.all (List.map (fun b:UInt8=>(⟨b.toNat⟩:Byt)) a0.name) (fun x:Byt=>cond (decide (0≤x.n)) (decide (x.n < 256)) false)) (!(List.isEmpty (List.map (fun b:UInt8=>(⟨b.toNat⟩:Byt)) a0.name))) false) (some ((List.map Byt.u8 (List.map (fun b:UInt8=>(⟨b.toNat⟩:Byt)) a0.name)),0))))) (Q7 (Nat.ble (([40,99,111,110,115,116,32]:List UInt8).length+a0.name.length) 1000000000) (Q7 (Nat.ble (([40,99,111,110,115,116,32]:List UInt8)++a0.name).length 1000000000) (Option.bind (Q9 (σ:=Int×(List Byt)) (β:=(List Byt)) (fun s18=>cond ((decide (s18.1 < (a0.levels.length:Int)))) (Option.bind (J0 a0.levels s18.1) fun (x20:Lvl)=>Option.bind (Qm1 x20) fun (x21:(List UInt8))=>Q7 (Nat.ble (([32]:List UInt8).length+x21.length) 1000000000) (Q7 (Nat.ble (s18.2.length+(([32]:List UInt8)++x21).length) 1000000000) (some (.next ((Qm (s18.1+1)),(s18.2++(List.map (fun b:UInt8=>(⟨b.toNat⟩:Byt)) (([32]:List UInt8)++x21)))))))) (some (.done s18.2))) Qd (0,(List.map (fun b:UInt8=>(⟨b.toNat⟩:Byt)) (([40,99,111,110,115,116,32]:List UInt8)++a0.name)))) fun (v19:(List Byt))=>Q7 (Nat.ble (v19.length+([41]:List UInt8).length) 1000000000) (Option.bind (some ((v19++(List.map (fun b:UInt8=>(⟨b.toNat⟩:Byt)) ([41]:List UInt8))).length:Int)) fun (v22:Int)=>cond ((decide (65536 < v22))) (some (([]:List UInt8),5)) (Q7 (cond (List.all (v19++(List.map (fun b:UInt8=>(⟨b.toNat⟩:Byt)) ([41]:List UInt8))) (fun x:Byt=>cond (decide (0≤x.n)) (decide (x.n < 256)) false)) (!(List.isEmpty (v19++(List.map (fun b:UInt8=>(⟨b.toNat⟩:Byt)) ([41]:List UInt8))))) false) (some ((List.map Byt.u8 (v19++(List.map (fun b:UInt8=>(⟨b.toNat⟩:Byt)) ([41]:List UInt8)))),0)))))))) (Option.bind (J0 ([([97,112,112]:List UInt8),([108,97,109]:List UInt8),([112,105]:List UInt8),([115,105,103,109,97]:List UInt8),([112,97,105,114]:List UInt8),([102,115,116]:List UInt8),([115,110,100]:List UInt8),([108,101,116]:List UInt8)]:List (List UInt8)) (Qm (a0.kind - 4))) fun (x23:List UInt8)=>Q7 (Nat.ble (([40]:List UInt8).length+x23.length) 1000000000) (Q7 (Nat.ble (([40]:List UInt8)++x23).length 1000000000) (Option.bind (Q9 (σ:=Int×(List Byt)) (β:=(List Byt)) (fun s33=>cond ((decide (s33.1 < (a0.kids.length:Int)))) (Option.bind (J0 a0.kids s33.1) fun (x35:Tm)=>Q7 (Nat.ble (s33.2.length+([32]:List UInt8).length) 1000000000) (Option.bind (Zw (Qpc (s33.2++(List.map (fun b:UInt8=>(⟨b.toNat⟩:Byt)) ([32]:List UInt8))) x35)) fun (r36:(List Byt)×Unit)=>some (.next ((Qm (s33.1+1)),r36.1)))) (some (.done s33.2))) Qd (0,(List.map (fun b:UInt8=>(⟨b.toNat⟩:Byt)) (([40]:List UInt8)++x23)))) fun (v34:(List Byt))=>Q7 (Nat.ble (v34.length+([41]:List UInt8).length) 1000000000) (Option.bind (some ((v34++(List.map (fun b:UInt8=>(⟨b.toNat⟩:Byt)) ([41]:List UInt8))).length:Int)) fun (v38:Int)=>cond ((decide (65536 < v38))) (some (([]:List UInt8),5)) (Q7 (cond (List.all (v34++(List.map (fun b:UInt8=>(⟨b.toNat⟩:Byt)) ([41]:List UInt8))) (fun x:Byt=>cond (decide (0≤x.n)) (decide (x.n < 256)) false)) (!(List.isEmpty (v34++(List.map (fun b:UInt8=>(⟨b.toNat⟩:Byt)) ([41]:List UInt8))))) false) (some ((List.map Byt.u8 (v34++(List.map (fun b:UInt8=>(⟨b.toNat⟩:Byt)) ([41]:List UInt8)))),0))))))))))))
def k13:KF UV:=⟨[.stc .t25],[.str,.int .i64],fun v=>Qhr v⟩
def H13:Hints UV:=⟨[],[]⟩
theorem Qdo:Yb DV W0 Tryz.prog 13 k13:=YL (C:=Qrk) rfl QC Ql (QB (tb:=[(27,k27),(62,k62),(63,k63)]) Ql ⟨Qjl,Uw,Q9c,trivial⟩) (Gd (C:=Qrk) rfl QC Ql (QB (tb:=[(27,k27),(62,k62),(63,k63)]) Ql ⟨Qjl,Uw,Q9c,trivial⟩) (Gm Qmb (Gm st_ok (Kf (tb:=[(28,k28)]) Ql ⟨k28_ok,trivial⟩))) (I:=[(28,B28_13),(29,B29_13),(61,B61_13),(64,B64_13)]) ⟨⟨Tryz.func28,Qm7⟩,⟨Tryz.func29,en_29⟩,⟨Tryz.func61,Qm6⟩,⟨Tryz.func64,Qk0⟩,trivial⟩ 8) Tryz.func13 en_13 H13 k13 rfl (fun v=>by kernel_rfl)
theorem en_15:Qc Tryz.prog 15:=enters_of Tryz.func15 (by kernel_rfl) rfl
theorem en_33:Qc Tryz.prog 33:=enters_of Tryz.func33 (by kernel_rfl) rfl
theorem en_34:Qc Tryz.prog 34:=enters_of Tryz.func34 (by kernel_rfl) rfl
theorem en_35:Qc Tryz.prog 35:=enters_of Tryz.func35 (by kernel_rfl) rfl
theorem en_71:Qc Tryz.prog 71:=enters_of Tryz.func71 (by kernel_rfl) rfl
theorem en_121:Qc Tryz.prog 121:=enters_of Tryz.func121 (by kernel_rfl) rfl
def B33_15:IH UV:=⟨Tryz.f33,⟨[],[(4,[5,6,7])]⟩,.st⟩
def B34_15:IH UV:=⟨Tryz.f34,⟨[],[]⟩,.st⟩
def B35_15:IH UV:=⟨Tryz.f35,⟨[],[(6,[6,7,10])]⟩,.st⟩
def B71_15:IH UV:=⟨Tryz.f71,⟨[],[]⟩,.st⟩
def B121_15:IH UV:=⟨Tryz.f121,⟨[(1,⟨[([.reg 3],.int .i64),([.fat 0 6 0],.app 132 .t132)],[],true⟩),(3,⟨[([.reg 3],.int .i64)],[([.reg 3],.int .i64)],false⟩),(4,⟨[([.reg 15],.bool)],[],false⟩),(10,⟨[([.reg 4],.int .i64)],[],false⟩)],[]⟩,.lab [([.fat 0 6 0],.app 132 .t132)]⟩
def Qfl (a0:List UInt8):Option (Tm×Int×Int) :=
 cond ((decide (65536 < (a0.length:Int)))) (some ((Tm.mk 0 0 ([]:List UInt8) ([]) ([])),0,5)) (Option.bind (Option.bind (Q9 (σ:=Int×(List Tkn)) (β:=Unit⊕((List Tkn))) (fun s42=>Option.bind (Q9 (σ:=Int) (β:=Int) (fun s54=>Option.bind (cond ((decide (s54 < (a0.length:Int)))) (Option.bind (J0 a0 s54) fun (x59:UInt8)=>Option.bind (Qdl ([32,9,13,10]:List UInt8) (x59.toNat:Int)) fun (x60:Int)=>some (decide (0≤x60))) (some false)) fun (v58:Bool)=>cond v58 (some (.next (Qm (s54+1)))) (some (.done s54))) Qd s42.1) fun (v55:Int)=>Option.bind (cond ((decide (v55 < (a0.length:Int)))) (Option.bind (Qhh a0 v55) fun (x63:Int)=>some x63) (some v55)) fun (v62:Int)=>Q7 (cond (decide (0≤v55)) (cond (Nat.ble v55.toNat v62.toNat) (Q22 v62 a0.length) false) false) (Q7 (Nat.ble (s42.2.length+([(Tkn.mk (List.drop v55.toNat (List.take v62.toNat a0)) v55)]:List Tkn).length) 1000000000) (cond ((v62==v55)) (some (.done (.inr (s42.2++([(Tkn.mk (List.drop v55.toNat (List.take v62.toNat a0)) v55)]:List Tkn))))) (some (.next (v62,(s42.2++([(Tkn.mk (List.drop v55.toNat (List.take v62.toNat a0)) v55)]:List Tkn)))))))) Qd (0,([]:List Tkn))) (Sum.elim (fun (v43:Unit)=>some ([]:List Tkn)) (fun (o64:(List Tkn))=>some o64))) fun (v1:(List Tkn))=>Option.bind (Qp2 (Rdr.mk v1 0)) (Sum.elim (fun (r65:Rdr×Tm)=>Option.bind (Qo5 r65.1 a0) (Sum.elim (fun (r67:Rdr×Unit)=>Option.bind (Qhr r65.2) fun (x69:(List UInt8)×Int)=>cond ((x69.2 != 0)) (some ((Tm.mk 0 0 ([]:List UInt8) ([]) ([])),0,x69.2)) (some (r65.2,0,0))) (fun (e68:(Int×Int)×Rdr)=>some ((Tm.mk 0 0 ([]:List UInt8) ([]) ([])),e68.1.2,e68.1.1)))) (fun (e66:(Int×Int)×Rdr)=>some ((Tm.mk 0 0 ([]:List UInt8) ([]) ([])),e66.1.2,e66.1.1))))
def k15:KF UV:=⟨[.str],[.stc .t25,.int .i64,.int .i64],fun v=>Qfl v⟩
def H15:Hints UV:=⟨[],[]⟩
theorem Qjm:Yb DV W0 Tryz.prog 15 k15:=YL (C:=Qrk) rfl QC Ql (QB (tb:=[(13,k13),(122,k122),(123,k123)]) Ql ⟨Qdo,Q9d,Qgb,trivial⟩) (Gd (C:=Qrk) rfl QC Ql (QB (tb:=[(13,k13),(122,k122),(123,k123)]) Ql ⟨Qdo,Q9d,Qgb,trivial⟩) (Kg (tb:=[(36,k36),(37,k37)]) Ql ⟨k36_ok,k37_ok,trivial⟩) (I:=[(33,B33_15),(34,B34_15),(35,B35_15),(71,B71_15),(121,B121_15)]) ⟨⟨Tryz.func33,en_33⟩,⟨Tryz.func34,en_34⟩,⟨Tryz.func35,en_35⟩,⟨Tryz.func71,en_71⟩,⟨Tryz.func121,en_121⟩,trivial⟩ 8) Tryz.func15 en_15 H15 k15 rfl (fun v=>by kernel_rfl)
end
noncomputable section
open Go.RowKit Go.Shelf
def Qmt (a0:Byt):Option Bool :=
 Option.bind (cond (decide (97≤a0.n))
   (cond (decide (a0.n≤122))
   (some true)
   (cond (decide (65≤a0.n))
   (cond (decide (a0.n≤90))
   (some true)
   (some (a0.n==95)))
   (some (a0.n==95))))
   (cond (decide (65≤a0.n))
   (cond (decide (a0.n≤90))
   (some true)
   (some (a0.n==95)))
   (some (a0.n==95)))) (fun (v1:Bool)=>some v1)
def Q3g (a0:Qrl) (s1:Bool×Int):Option (LO (Bool×Int) (Bool⊕Bool)) :=
 cond (decide (s1.2 < (a0.length:Int)))
   (Option.bind (J0 a0 s1.2) fun (x5:UInt8) =>
 cond s1.1
   (Option.bind (Qmt (⟨(x5.toNat:Int)⟩:Byt)) fun (x7:Bool) =>
 cond (!x7)
   (some (.done (.inr false)))
   (some (.next (false,(Qm (s1.2+1))))))
   (cond ((x5.toNat:Int)==46)
   (some (.next (true,(Qm (s1.2+1)))))
   (Option.bind (Option.bind (Qmt (⟨(x5.toNat:Int)⟩:Byt)) fun (x11:Bool) =>
 cond (!x11)
   (cond ((x5.toNat:Int) != 39)
   (cond (decide ((x5.toNat:Int) < 48))
   (some true)
   (some (decide (57 < (x5.toNat:Int)))))
   (some false))
   (some false)) (fun (v10:Bool)=>cond v10
   (some (.done (.inr false)))
   (some (.next (s1.1,(Qm (s1.2+1)))))))))
   (some (.done (.inl s1.1)))
def Qoz (a0:Qrl):Option Bool :=
 Option.bind (cond (a0==([]:List UInt8))
   (some true)
   (some (decide (64 < (a0.length:Int))))) (fun (v1:Bool)=>cond v1
   (some false)
   (Option.bind (Q9 (Q3g a0) Qd (true,0)) (Sum.elim (fun (o3:Bool)=>some (!o3)) (fun o=>some o))))
def m142_k0 (p0_:Bool) (p1_:Int):Option Int :=
 cond p0_
   (some 2)
   (Option.bind (cond (p1_==8)
   (some (p1_==8))
   (some (p1_==11))) (fun (b0_:Bool)=>cond b0_
   (some 3)
   (cond (p1_==9)
   (cond (p1_==9)
   (some 1)
   (some 0))
   (cond (p1_==10)
   (some 1)
   (some 0)))))
def m142 (a0:Int):Option Int :=
 Option.bind (cond (a0==4)
   (some (a0==4))
   (cond (a0==5)
   (some (a0==5))
   (cond (a0==6)
   (some (a0==6))
   (some (a0==7))))) (fun (v1:Bool)=>m142_k0 v1 a0)
def m115_k0 (p0_:Bool) (p1_:Tm):Option Bool :=
 cond p0_
   (some false)
   (Option.bind (cond (!(p1_.name==([]:List UInt8)))
   (some (p1_.kind != 3))
   (some false)) (fun (b0_:Bool)=>cond b0_
   (some false)
   (cond (p1_.kind==2)
   (some ((p1_.levels.length:Int)==1))
   (Option.bind (cond ((p1_.levels.length:Int)==0)
   (some true)
   (some (p1_.kind==3))) (fun (b1_:Bool)=>some b1_)))))
def Qhi (a0:Tm):Option Bool :=
 Option.bind (cond (decide (a0.kind < 0))
   (some true)
   (cond (decide (13≤a0.kind))
   (some true)
   (Option.bind (m142 a0.kind) fun (x4:Int) =>
 some ((a0.kids.length:Int) != x4)))) (fun (v1:Bool)=>cond v1
   (some false)
   (Option.bind (cond (a0.index != 0)
   (cond (a0.kind != 0)
   (some (a0.kind != 12))
   (some false))
   (some false)) (fun (v3:Bool)=>m115_k0 v3 a0)))
def Q8u (a0:Int) (a1:Int):Option Int :=
 Option.bind (cond (a1==1)
   (cond (a0==5)
   (some true)
   (cond (a0==6)
   (some true)
   (cond (a0==7)
   (some true)
   (cond (a1==2)
   (some (a0==11))
   (some false)))))
   (cond (a1==2)
   (some (a0==11))
   (some false))) (fun (v1:Bool)=>cond v1
   (some 1)
   (some 0))
def Qfv (p0_:Bool) (p1_:Int) (p2_:Lvl) (p3_:Qrf):Option (LO Int (Unit⊕Bool)) :=
 cond p0_
   (some (.done (.inr false)))
   (Option.bind (cond (decide (0 < p1_))
   (Option.bind (J0 p2_.vs (Qm (p1_ - 1))) fun (b0_:Qrf) =>
 some (decide (p3_.1≤b0_.1)))
   (some false)) (fun (b1_:Bool)=>cond b1_
   (some (.done (.inr false)))
   (Option.bind (cond (decide (0 < p2_.c))
   (some (decide (p2_.c≤p3_.2)))
   (some false)) (fun (b2_:Bool)=>cond b2_
   (some (.done (.inr false)))
   (some (.next (Qm (p1_+1))))))))
def Dc (a0:Lvl) (s1:Int):Option (LO Int (Unit⊕Bool)) :=
 cond (decide (s1 < (a0.vs.length:Int)))
   (Option.bind (J0 a0.vs s1) fun (x5:Qrf) =>
 Option.bind (cond (decide (x5.1 < (-65536)))
   (some true)
   (cond (decide (8≤x5.1))
   (some true)
   (cond (decide (x5.2 < 0))
   (some true)
   (some (decide (100 < x5.2)))))) (fun (v6:Bool)=>Qfv v6 s1 a0 x5))
   (some (.done (.inl ())))
def Qjb (a0:Lvl):Option Bool :=
 Option.bind (cond (decide (a0.c < 0))
   (some true)
   (some (decide (100 < a0.c)))) (fun (v1:Bool)=>cond v1
   (some false)
   (Option.bind (Q9 (Dc a0) Qd 0) (Sum.elim (fun (o3:Unit)=>some true) (fun o=>some o))))
def Df (a0:Lvl) (a1:Int) (s1:Int):Option (LO Int (Unit⊕Int)) :=
 cond (decide (s1 < (a0.vs.length:Int)))
   (Option.bind (Option.bind (J0 a0.vs s1) fun (x6:Qrf) =>
 cond (decide (0≤x6.1))
   (Option.bind (J0 a0.vs s1) fun (x8:Qrf) =>
 some (decide (a1≤x8.1)))
   (some false)) (fun (v5:Bool)=>cond v5
   (some (.done (.inr 15)))
   (some (.next (Qm (s1+1))))))
   (some (.done (.inl ())))
def De (a0:Lvl) (a2:Int) (s1:Int):Option (LO Int (Unit⊕Int)) :=
 cond (decide (s1 < (a0.vs.length:Int)))
   (Option.bind (Option.bind (J0 a0.vs s1) fun (x7:Qrf) =>
 cond (decide (x7.1 < 0))
   (Option.bind (J0 a0.vs s1) fun (x9:Qrf) =>
 some (decide (a2≤(Qm ((-1) - x9.1)))))
   (some false)) (fun (v6:Bool)=>cond v6
   (some (.done (.inr 23)))
   (some (.next (Qm (s1+1))))))
   (some (.done (.inl ())))
def Qjc (a0:Lvl) (a1:Int) (a2:Int):Option Int :=
 Option.bind (Qjb a0) fun (x1:Bool) =>
 cond (!x1)
   (some 3)
   (Option.bind (Q9 (Df a0 a1) Qd 0) (Sum.elim (fun (o3:Unit)=>Option.bind (Q9 (De a0 a2) Qd 0) (Sum.elim (fun (o4:Unit)=>some 0) (fun o=>some o))) (fun o=>some o)))
def Un (a0:Tm) (a3:Int) (a5:Int) (s1:Int):Option (LO Int (Unit⊕Int)) :=
 cond (decide (s1 < (a0.levels.length:Int)))
   (Option.bind (J0 a0.levels s1) fun (x8:Lvl) =>
 Option.bind (Qjc x8 a3 a5) fun (x9:Int) =>
 cond (x9 != 0)
   (some (.done (.inr x9)))
   (some (.next (Qm (s1+1)))))
   (some (.done (.inl ())))
def KM (a0:Tm) (rc:Tm×Int×Int×Int×Int×Int→Option Int) (a1:Int) (a2:Int) (a3:Int) (a4:Int) (a5:Int) (s1:Int):Option (LO Int (Unit⊕Int)) :=
 cond (decide (s1 < (a0.kids.length:Int)))
   (Option.bind (J0 a0.kids s1) fun (x13:Tm) =>
 Option.bind (Q8u a0.kind s1) fun (x14:Int) =>
 Option.bind (rc (x13,(Qm (a1+x14)),a2,a3,a4,a5)) fun (x15:Int) =>
 cond (x15 != 0)
   (some (.done (.inr x15)))
   (some (.next (Qm (s1+1)))))
   (some (.done (.inl ())))
def Uo (p0_:Bool) (p1_:Tm) (p2_:Int) (p3_:Tm×Int×Int×Int×Int×Int→Option Int) (p4_:Int) (p5_:Int) (p6_:Int) (p7_:Int):Option Int :=
 cond p0_
   (some 24)
   (Option.bind (cond (p1_.kind==12)
   (cond (decide (p1_.index < 0))
   (some true)
   (some (decide (p2_≤p1_.index))))
   (some false)) (fun (b0_:Bool)=>cond b0_
   (some 23)
   (Option.bind (Q9 (KM p1_ p3_ p4_ p5_ p6_ p2_ p7_) Qd 0) (Sum.elim (fun (b1_:Unit)=>some 0) (fun o=>some o)))))
def m65_k3 (p0_:Bool) (p1_:Tm) (p2_:Int) (p3_:Int) (p4_:Int) (p5_:Int) (p6_:Int) (p7_:Tm×Int×Int×Int×Int×Int→Option Int):Option Int :=
 cond p0_
   (some 29)
   (cond (decide (8 < (p1_.levels.length:Int)))
   (some 6)
   (Option.bind (Q9 (Un p1_ p2_ p3_) Qd 0) (Sum.elim (fun (b0_:Unit)=>Option.bind (cond (p1_.kind==0)
   (cond (decide (p1_.index < 0))
   (some true)
   (some (decide (p4_≤(Qm (p1_.index - p5_))))))
   (some false)) (fun (b1_:Bool)=>Uo b1_ p1_ p6_ p7_ p5_ p4_ p2_ p3_)) (fun o=>some o))))
def Qj3 (rc:Tm×Int×Int×Int×Int×Int→Option Int) (a0:Tm) (a1:Int) (a2:Int) (a3:Int) (a4:Int) (a5:Int):Option Int :=
 Option.bind (Qhi a0) fun (x1:Bool) =>
 cond (!x1)
   (some 3)
   (Option.bind (cond (a0.kind==3)
   (Option.bind (Qoz a0.name) fun (x5:Bool) =>
 some (!x5))
   (some false)) (fun (v3:Bool)=>m65_k3 v3 a0 a3 a5 a2 a1 a4 rc))
def Q3j (rc:Tm×Int×Int×Int×Int×Int→Option Int) (u:Tm×Int×Int×Int×Int×Int):Option Int:=Qj3 rc u.1 u.2.1 u.2.2.1 u.2.2.2.1 u.2.2.2.2.1 u.2.2.2.2.2
def Qpb (a0:Tm) (a1:Int) (a2:Int) (a3:Int) (a4:Int) (a5:Int):Option Int:=Jv Q3j Qd (a0,a1,a2,a3,a4,a5)
def Q3i (a0:Tm) (rc:Tm→Option Int) (s1:Int×Int):Option (LO (Int×Int) Int) :=
 cond (decide (s1.2 < (a0.kids.length:Int)))
   (Option.bind (J0 a0.kids s1.2) fun (x3:Tm) =>
 Option.bind (rc x3) fun (x4:Int) =>
 some (.next ((Qm (s1.1+x4)),(Qm (s1.2+1)))))
   (some (.done s1.1))
def Qms (rc:Tm→Option Int) (a0:Tm):Option Int :=
 Option.bind (Q9 (Q3i a0 rc) Qd (1,0)) (fun (o1:Int)=>some o1)
def Qj2 (rc:Tm→Option Int) (u:Tm):Option Int:=Qms rc u
def Qpl (a0:Tm):Option Int:=Jv Qj2 Qd a0
def Q8n (a0:Tm) (rc:Tm→Option Int) (s1:Int×Int):Option (LO (Int×Int) Int) :=
 cond (decide (s1.2 < (a0.kids.length:Int)))
   (Option.bind (J0 a0.kids s1.2) fun (x3:Tm) =>
 Option.bind (rc x3) fun (x4:Int) =>
 some (.next ((max s1.1 x4),(Qm (s1.2+1)))))
   (some (.done s1.1))
def Qmr (rc:Tm→Option Int) (a0:Tm):Option Int :=
 Option.bind (Q9 (Q8n a0 rc) Qd (0,0)) (fun (o1:Int)=>some (Qm (o1+1)))
def Qla (rc:Tm→Option Int) (u:Tm):Option Int:=Qmr rc u
def m67 (a0:Tm):Option Int:=Jv Qla Qd a0
def Qo6 (a0:Tm) (a1:Int) (a2:Int) (a3:Int) (a4:Int):Option Int :=
 Option.bind (Qpb a0 0 (max a1 0) a2 a3 a4) fun (x1:Int) =>
 cond (x1 != 0)
   (some x1)
   (Option.bind (Qpl a0) fun (x3:Int) =>
 cond (decide (4096 < x3))
   (some 5)
   (Option.bind (m67 a0) fun (x5:Int) =>
 cond (decide (200 < x5))
   (some 7)
   (some 0)))
end
noncomputable section
open Go.RowKit Go.Shelf
theorem Y4 {n:Int} (h1:-9223372036854775808≤n) (h2:n≤9223372036854775807):Qm n=n:=IntWalk.i64_in n ⟨h1,h2⟩
theorem Gl {k:Nat} (h:k≤1000000000):Qm ((k:Int)+1)=((k+1:Nat):Int):=by rw [Y4 (by omega) (by omega)];rfl
theorem Yq {α:Type} (a:List α) (x:α) (b:List α):J0 (a++x::b) (a.length:Int)=some x:=by
 show (a++x::b)[a.length]?=some x
 simp
theorem ZI {α:Type} (a:List α) (x:α) (b:List α):decide ((a.length:Int) < ((a++x::b).length:Int))=true:=by
 rw [CX,C7,C2];omega
theorem mid_lt {α:Type} {l a b:List α} {x:α} (h:l=a++x::b):a.length < l.length:=by rw [h,C7,C2];omega
theorem ZL (a b:Int):(a==b)=decide (a=b):=by
 by_cases h:a=b
 ·rw [C9 h];exact CV.2 h
 ·rw [C8 h,Bool.eq_false_iff];exact fun h'=>h (CV.1 h')
theorem Jn {α:Type} (a:List α):decide ((a.length:Int) < (a.length:Int))=false:=by simp
theorem Wg {α:Type} {a b:Nat} {x:Option α} (h:a≤b):Q7 (Nat.ble a b) x=x:=by
 rw [Cb h];rfl
theorem JN {α σ τ β:Type} {step:τ→Option (LO τ β)} (l:List α) (mk:Int→σ→τ) (I:List α→σ→Prop) (Q:β→Prop) (hlen:l.length≤900000000)
  (hin:∀ (a:List α) (x:α) (b:List α) (s:σ),l=a++x::b→I a s →
   (∃ r,step (mk (a.length:Int) s)=some (.done r)∧Q r)∨∃ s',step (mk (a.length:Int) s)=some (.next (mk (Qm ((a.length:Int)+1)) s'))∧I (a++[x]) s')
  (hout:∀ s,I l s→∃ r,step (mk (l.length:Int) s)=some (.done r)∧Q r) (s0:σ) (h0:I [] s0):∃ r,Q9 step Qd (mk 0 s0)=some r∧Q r:=by
 have key:∀ (b a:List α) (s:σ) (n:Nat),l=a++b→b.length < n→I a s→∃ r,Q9 step n (mk (a.length:Int) s)=some r∧Q r:=by
  intro b
  induction b with
  | nil =>
   intro a s n hl hn hI
   rw [Cy] at hl
   subst hl
   obtain ⟨r,h1,h2⟩:=hout s hI
   cases n with
   | zero=>omega
   | succ n=>exact ⟨r,by simp only [Q9,h1],h2⟩
  | cons x b ih =>
   intro a s n hl hn hI
   cases n with
   | zero=>omega
   | succ n =>
    rcases hin a x b s hl hI with ⟨r,h1,h2⟩ | ⟨s',h1,h2⟩
    ·exact ⟨r,by simp only [Q9,h1],h2⟩
    ·have hal:a.length≤900000000:=by rw [hl,C7] at hlen;omega
     rw [Gl (by omega)] at h1
     obtain ⟨r,h3,h4⟩:=ih (a++[x]) s' n (by rw [hl,CB];rfl) (by simp only [C2] at hn;omega) h2
     refine ⟨r,?_,h4⟩
     simp only [Q9,h1]
     rw [C7] at h3
     exact h3
 exact key l [] s0 Qd rfl (by unfold Qd;omega) h0
theorem UR {α:Type} (f:α→Nat) {x:α}:∀ {l:List α},x∈l→f x≤(l.map f).sum
 | y::l,h=>by
  rw [CF,Pk]
  rcases Cq.1 h with rfl | h
  ·omega
  ·have:=UR f h;omega
def Q3n (l:Lvl):Nat:=1+(l.vs.map fun _=>1).sum
def Qqg (n:Int):Nat:=if -9223372036854775808≤n∧n≤9223372036854775807 then 0 else 10000000000
theorem ir_in {n:Int} (h:Qqg n≤1000000000):-9223372036854775808≤n∧n≤9223372036854775807:=by
 unfold Qqg at h
 split at h
 ·assumption
 ·omega
def Tm.size:Tm→Nat
 | .mk _ i n ls ks=>1+Qqg i+n.length+(ls.map Q3n).sum+(ks.attach.map fun k=>Tm.size k.1).sum
termination_by t=>SizeOf.sizeOf t
decreasing_by
 have:=Ph k.2
 simp only [Tm.mk.sizeOf_spec];omega
theorem Tm.size_eq (t:Tm):t.size=1+Qqg t.index+t.name.length+(t.levels.map Q3n).sum+(t.kids.map Tm.size).sum:=by
 cases t
 rw [Tm.size,Sw];rfl
theorem JQ {t k:Tm} (h:k∈t.kids):k.size < t.size:=by
 have:=UR Tm.size h
 rw [t.size_eq];omega
theorem Qkt {C:Tm→Prop} (h:∀ t:Tm,(∀ k∈t.kids,C k)→C t) (t:Tm):C t:=by
 have:∀ n (t:Tm),t.size≤n→C t:=by
  intro n
  induction n with
  | zero=>intro t ht;rw [t.size_eq] at ht;omega
  | succ n ih=>exact fun t ht=>h t fun k hk=>ih k (by have:=JQ hk;omega)
 exact this _ t (Ck _)
theorem GJ (t:Tm):t.kids.length < t.size:=by
 rw [t.size_eq]
 have:∀ l:List Tm,l.length≤(l.map Tm.size).sum:=by
  intro l
  induction l with
  | nil=>exact Ck _
  | cons x l ih =>
   rw [CF,Pk,C2]
   have:=x.size_eq
   omega
 have:=this t.kids
 omega
theorem sum_split {α:Type} (f:α→Nat) (a:List α) (x:α) (b:List α):((a++x::b).map f).sum=(a.map f).sum+f x+(b.map f).sum:=by simp;omega
theorem Qoq (a b:Qrl):(a==b)=decide (a=b):=by
 by_cases h:a=b
 ·rw [C9 h];exact CV.2 h
 ·rw [C8 h,Bool.eq_false_iff];exact fun h'=>h (CV.1 h')
theorem Dk {α:Type} (g:α→Nat) (hg:∀ x,1≤g x):∀ l:List α,l.length≤(l.map g).sum
 | []=>Ck _
 | x::l=>by
  rw [CF,Pk,C2]
  have:=hg x
  have:=Dk g hg l
  omega
theorem loop_any {α σ τ β:Type} {step:τ→Option (LO τ β)} (l:List α) (mk:Int→σ→τ) (hlen:l.length≤900000000)
  (hin:∀ (a:List α) (x:α) (b:List α) (s:σ),l=a++x::b→(∃ r,step (mk (a.length:Int) s)=some (.done r))∨∃ s',step (mk (a.length:Int) s)=some (.next (mk (Qm ((a.length:Int)+1)) s')))
  (hout:∀ s,∃ r,step (mk (l.length:Int) s)=some (.done r)) (s0:σ):∃ r,Q9 step Qd (mk 0 s0)=some r:=by
 obtain ⟨r,h,-⟩:=JN l mk (fun _ _=>True) (fun _=>True) hlen (fun a x b s e _=>(hin a x b s e).elim (fun ⟨r,h⟩=>.inl ⟨r,h,trivial⟩) (fun ⟨s',h⟩=>.inr ⟨s',h,trivial⟩)) (fun s _=>let ⟨r,h⟩:=hout s;⟨r,h,trivial⟩) s0 trivial
 exact ⟨r,h⟩
theorem Q4j:∀ (n:Nat) (t:Tm),t.size≤n→t.size≤900000000→∃ r,Jv Qla n t=some r
 | 0,t,h,_=>by rw [t.size_eq] at h;omega
 | n+1,t,h,h2=>by
  show ∃ r,Qmr (Jv Qla n) t=some r
  unfold Qmr
  have hl:=GJ t
  obtain ⟨r,e⟩:=loop_any (step:=Q8n t (Jv Qla n)) t.kids (fun i (s:Int)=>(s,i)) (by omega)
   (fun a x b s e=>by
    have hx:=JQ (t:=t) (k:=x) (by rw [e];simp)
    obtain ⟨r,hr⟩:=Q4j n x (by omega) (by omega)
    refine .inr ⟨max s r,?_⟩
    unfold Q8n
    dsimp only
    rw [e,ZI,Yq]
    simp only [C6,C1]
    rw [hr];rfl) (fun s=>⟨s,by unfold Q8n;dsimp only;rw [Jn];rfl⟩) 0
  rw [e];exact ⟨_,rfl⟩
end
noncomputable section
open Go.RowKit Go.Shelf
def Qky {α σ β:Type} (f:σ→α→σ⊕β) (e:σ→β):List α→σ→β
 | [],s=>e s
 | x::l,s=>Sum.elim (fun s'=>Qky f e l s') (fun r=>r) (f s x)
theorem Qg0 {α σ τ β:Type} {step:τ→Option (LO τ β)} (l:List α) (mk:Int→σ→τ) (f:σ→α→σ⊕β) (e:σ→β) (I:List α→σ→Prop) (hlen:l.length≤900000000)
  (hin:∀ (a:List α) (x:α) (b:List α) (s:σ),l=a++x::b→I a s→step (mk (a.length:Int) s)=some (Sum.elim (fun s'=>.next (mk (Qm ((a.length:Int)+1)) s')) .done (f s x))∧∀ s',f s x=.inl s'→I (a++[x]) s')
  (hout:∀ s,I l s→step (mk (l.length:Int) s)=some (.done (e s))) (s0:σ) (h0:I [] s0):Q9 step Qd (mk 0 s0)=some (Qky f e l s0):=by
 obtain ⟨r,h1,h2⟩:=JN (step:=step) l mk (fun a s=>I a s∧∀ b,l=a++b→Qky f e l s0=Qky f e b s) (fun r=>r=Qky f e l s0) hlen
  (fun a x b s hl hI=>by
   obtain ⟨h3,h4⟩:=hin a x b s hl hI.1
   have h5:=hI.2 (x::b) hl
   cases hf:f s x with
   | inl s' =>
    refine .inr ⟨s',by rw [h3,hf];rfl,h4 s' hf,fun b' hb=>?_⟩
    have:b'=b:=by
     rw [hl,CB] at hb
     exact (Pj (List.append_cancel_left hb)).2.symm
    rw [this,h5,Qky,hf];rfl
   | inr r=>exact .inl ⟨r,by rw [h3,hf];rfl,by rw [h5,Qky,hf];rfl⟩)
  (fun s hI=>⟨e s,hout s hI.1,by rw [hI.2 [] (by simp)];rfl⟩) s0 ⟨h0,fun b hb=>by rw [CU] at hb;rw [hb]⟩
 rw [h1,h2]
theorem Qbe {α β:Type} {step:Int→Option (LO Int β)} (l:List α) (bad:List α→α→Prop) (r0 r1:β) (hlen:l.length≤900000000)
  (hin:∀ (a:List α) (x:α) (b:List α),l=a++x::b→(bad a x→step (a.length:Int)=some (.done r0))∧(¬ bad a x→step (a.length:Int)=some (.next (Qm ((a.length:Int)+1)))))
  (hout:step (l.length:Int)=some (.done r1)):∃ r,Q9 step Qd 0=some r∧((r=r1∧∀ a x b,l=a++x::b→¬ bad a x)∨(r=r0∧∃ a x b,l=a++x::b∧bad a x)):=by
 refine JN (step:=step) l (fun i (_:Unit)=>i) (fun a _=>∀ a' x b',a=a'++x::b'→¬ bad a' x) (fun r=>(r=r1∧∀ a x b,l=a++x::b→¬ bad a x)∨(r=r0∧∃ a x b,l=a++x::b∧bad a x)) hlen
  (fun a x b s hl hI=>?_) (fun s hI=>⟨r1,hout,.inl ⟨rfl,hI⟩⟩) () (fun a' x b' h=>by cases a' <;> cases h)
 by_cases hb:bad a x
 ·exact .inl ⟨r0,(hin a x b hl).1 hb,.inr ⟨rfl,a,x,b,hl,hb⟩⟩
 ·refine .inr ⟨(),(hin a x b hl).2 hb,fun a' y b' h=>?_⟩
  rcases List.append_eq_append_iff.1 h with ⟨c,h1,h2⟩ | ⟨c,h1,h2⟩
  ·cases c with
   | nil =>
    rw [CU] at h2
    cases h2
    rw [Cy] at h1
    rw [h1];exact hb
   | cons z c =>
    exfalso
    have:=congrArg List.length h2
    simp at this
  ·cases c with
   | nil =>
    rw [CU] at h2
    cases h2
    rw [Cy] at h1
    rw [← h1];exact hb
   | cons z c =>
    rw [P2] at h2
    cases h2
    exact hI a' y c h1
def Us (c:Int):Bool:=(decide (97≤c)&&decide (c≤122))||(decide (65≤c)&&decide (c≤90))||(c==95)
theorem Qfp (c:Int):Qdk ⟨c⟩=some (Us c):=by
 unfold Qdk Us
 cases decide (97≤c) <;> cases decide (c≤122) <;> cases decide (65≤c) <;> cases decide (c≤90) <;> rfl
theorem m133_eq (c:Int):Qmt ⟨c⟩=some (Us c):=Qfp c
def Qm0 (st:Bool) (b:UInt8):Bool⊕(Bool⊕Bool) :=
 if Us (b.toNat:Int)=true then .inl false else if st=true then .inr (.inr false) else if (b.toNat:Int)=46 then .inl true else
  if (b.toNat:Int) < 48∨57 < (b.toNat:Int) then (if (b.toNat:Int)=39 then .inl st else .inr (.inr false)) else .inl st
def Qnc (s:Qrl):Bool⊕Bool:=Qky Qm0 .inl s true
theorem m110_l0_eq (s:Qrl) (h:s.length≤900000000):Q9 (Xh s) Qd (true,0)=some (Qnc s):=by
 refine Qg0 (step:=Xh s) s (fun i (st:Bool)=>(st,i)) Qm0 .inl (fun _ _=>True) h (fun a x b st e _=>⟨?_,fun _ _=>trivial⟩) (fun st _=>by unfold Xh;dsimp only;rw [Jn];rfl) true trivial
 unfold Xh Qm0
 dsimp only
 rw [e,ZI,Yq]
 simp only [C6,C1]
 rw [Qfp,C1]
 cases Us (x.toNat:Int) with
 | true=>rfl
 | false =>
  cases st with
  | true=>rfl
  | false =>
   simp only [Ce,ZL,P3,if_false]
   by_cases h1:(x.toNat:Int)=46
   ·rw [C9 h1,Cd h1];rfl
   ·rw [C8 h1,C5 h1,Ce]
    by_cases h2:(x.toNat:Int) < 48
    ·rw [C9 h2,Cd (Or.inl h2)]
     by_cases h4:(x.toNat:Int)=39
     ·rw [Cd h4,h4];rfl
     ·rw [C5 h4]
      have:((x.toNat:Int) != 39)=true:=SN.2 h4
      simp only [C6,C1,this];rfl
    ·rw [C8 h2]
     by_cases h3:57 < (x.toNat:Int)
     ·rw [C9 h3,Cd (Or.inr h3)]
      by_cases h4:(x.toNat:Int)=39
      ·omega
      ·rw [C5 h4]
       have:((x.toNat:Int) != 39)=true:=SN.2 h4
       simp only [C6,Ce,C1,this];rfl
     ·rw [C8 h3,C5 (by omega)];rfl
theorem m98_l0_eq (s:Qrl) (h:s.length≤900000000):Q9 (Q3g s) Qd (true,0)=some (Qnc s):=by
 refine Qg0 (step:=Q3g s) s (fun i (st:Bool)=>(st,i)) Qm0 .inl (fun _ _=>True) h (fun a x b st e _=>⟨?_,fun _ _=>trivial⟩) (fun st _=>by unfold Q3g;dsimp only;rw [Jn];rfl) true trivial
 unfold Q3g Qm0
 dsimp only
 rw [e,ZI,Yq]
 simp only [C6,C1]
 rw [m133_eq,C1]
 cases st with
 | true=>cases Us (x.toNat:Int) <;> rfl
 | false =>
  simp only [Ce,ZL,P3,if_false]
  by_cases h1:(x.toNat:Int)=46
  ·rw [C9 h1,Cd h1,C5 (by rw [h1];decide)];rfl
  ·rw [C8 h1,C5 h1,Ce]
   cases Us (x.toNat:Int) with
   | true=>rfl
   | false =>
    rw [C1,C5 (by decide)]
    simp only [S6,C6]
    by_cases h4:(x.toNat:Int)=39
    ·have:((x.toNat:Int) != 39)=false:=by rw [h4];rfl
     simp only [Ce,C1,this,Cd h4]
     split <;> rfl
    ·have:((x.toNat:Int) != 39)=true:=SN.2 h4
     simp only [C6,this,C5 h4]
     by_cases h2:(x.toNat:Int) < 48
     ·rw [C9 h2,Cd (Or.inl h2)];rfl
     ·rw [C8 h2]
      by_cases h3:57 < (x.toNat:Int)
      ·rw [C9 h3,Cd (Or.inr h3)];rfl
      ·rw [C8 h3,C5 (by omega)];rfl
theorem Qba:∀ (s:Qrl) (st b:Bool),Qky Qm0 .inl s st=.inr b→b=false
 | [],st,b,h=>by cases h
 | x::s,st,b,h=>by
  rw [Qky] at h
  cases hf:Qm0 st x with
  | inl st'=>rw [hf] at h;exact Qba s st' b h
  | inr r =>
   rw [hf] at h
   unfold Qm0 at hf
   have:r=.inr false:=by
    revert hf
    repeat' split
    all_goals intro hf;cases hf;try rfl
   rw [this] at h
   cases h;rfl
def YZ (s:Qrl):Bool:=Sum.elim (fun st=>!st&&decide ((s.length:Int)≤64)) (fun b=>b) (Qnc s)
theorem Q8v (s:Qrl) (h:s.length≤900000000):Q05 s=some (YZ s):=by
 unfold Q05 YZ
 rw [m110_l0_eq s h,C1]
 cases Qnc s with
 | inl st=>cases st <;> rfl
 | inr b=>rfl
theorem m98_eq (s:Qrl) (h:s.length≤900000000):Qoz s=some (YZ s):=by
 unfold Qoz YZ
 rw [Qoq,m98_l0_eq s h]
 by_cases h0:s=[]
 ·subst h0;rfl
 ·rw [C8 h0,Ce]
  by_cases h1:64 < (s.length:Int)
  ·rw [C9 h1,C8 (by omega)]
   cases hn:Qnc s with
   | inl st=>cases st <;> rfl
   | inr b=>have:=Qba s true b hn;subst this;rfl
  ·rw [C8 h1,C9 (by omega)]
   cases hn:Qnc s with
   | inl st=>cases st <;> rfl
   | inr b=>rfl
end
noncomputable section
open Go.RowKit Go.Shelf
theorem idx_some {α:Type} {l:List α} {i:Int} (h0:0≤i) (h1:i < (l.length:Int)):∃ x,J0 l i=some x:=by
 cases i with
 | ofNat k=>exact ⟨l[k]'(by have:(Int.ofNat k) < (l.length:Int):=h1;simp at this;omega),Cp _⟩
 | negSucc k=>omega
def Q3p (l:Lvl) (a:List Qrf) (x:Qrf):Prop:=x.1 < -65536∨7 < x.1∨x.2 < 0∨100 < x.2∨(0 < a.length∧∃ y,J0 l.vs (Qm ((a.length:Int) - 1))=some y∧x.1≤y.1)
theorem Q5z {l:List Qrf} {a:List Qrf} {x:Qrf} {b:List Qrf} (h:l.length≤900000000) (e:l=a++x::b) (ha:0 < a.length):∃ y,J0 l (Qm ((a.length:Int) - 1))=some y:=by
 have:=mid_lt e
 rw [Y4 (by omega) (by omega)]
 exact idx_some (by omega) (by omega)
theorem m211_eq (l:List Qrf) (u:Lvl) (h:l.length≤900000000):∃ b,Qdi l u=some b∧(b=true↔∃ x∈l,u.c≤x.2):=by
 have h1:∃ r,Q9 (Kt l u) Qd 0=some r∧((r=.inl ())∧(∀ x∈l,¬ u.c≤x.2)∨∃ k:Nat,r=.inr (k:Int)∧∃ x∈l,u.c≤x.2):=by
  refine JN (step:=Kt l u) l (fun i (_:Unit)=>i) (fun a _=>∀ x∈a,¬ u.c≤x.2) (fun r=>((r=.inl ())∧(∀ x∈l,¬ u.c≤x.2)∨∃ k:Nat,r=.inr (k:Int)∧∃ x∈l,u.c≤x.2)) h
   (fun a x b s e hI=>?_) (fun s hI=>⟨.inl (),by unfold Kt;rw [Jn];rfl,.inl ⟨rfl,hI⟩⟩) () (fun x hx=>by cases hx)
  by_cases hx:u.c≤x.2
  ·refine .inl ⟨.inr (a.length:Int),?_,.inr ⟨a.length,rfl,x,by rw [e];simp,hx⟩⟩
   unfold Kt
   rw [e,ZI,Yq]
   show cond (decide (u.c≤x.2)) _ _=_
   rw [C9 hx];rfl
  ·refine .inr ⟨(),?_,fun y hy=>?_⟩
   ·unfold Kt
    rw [e,ZI,Yq]
    show cond (decide (u.c≤x.2)) _ _=_
    rw [C8 hx];rfl
   ·rcases CQ.1 hy with hy | hy
    ·exact hI y hy
    ·rw [CG.1 hy];exact hx
 obtain ⟨r,h2,h3⟩:=h1
 unfold Qdi Qj7
 rw [h2]
 rcases h3 with ⟨rfl,h4⟩ | ⟨k,rfl,h4⟩
 ·exact ⟨false,rfl,⟨fun h=>(by cases h),fun ⟨x,hx,h⟩=>(h4 x hx h).elim⟩⟩
 ·refine ⟨true,?_,⟨fun _=>h4,fun _=>rfl⟩⟩
  show some (decide ((0:Int)≤(k:Int)))=_
  rw [C9 (by omega)]
def Q5f (l:Lvl):Prop:=0≤l.c∧l.c≤100∧(0 < l.c→∀ x∈l.vs,¬ l.c≤x.2)∧∀ a x b,l.vs=a++x::b→¬ Q3p l a x
theorem Q8t (l:Lvl) (h:l.vs.length≤900000000):∃ b,Q5e l=some b∧(b=true↔Q5f l):=by
 have hloop:=Qbe (β:=Unit⊕Bool) (step:=Xe l) l.vs (Q3p l) (.inr false) (.inl ()) h (fun a x b e=>by
  have hprev:=fun ha=>Q5z (x:=x) (b:=b) h e ha
  have:Xe l (a.length:Int)=Option.bind (cond (decide (x.1 < (-65536))) (some true) (cond (decide (7 < x.1)) (some true) (cond (decide (x.2 < 0)) (some true) (cond (decide (100 < x.2)) (some true)
    (cond (decide (0 < (a.length:Int))) (Option.bind (J0 l.vs (Qm ((a.length:Int) - 1))) fun (x12:Qrf)=>some (decide (x.1≤x12.1))) (some false)))))) (fun (v6:Bool)=>cond v6 (some (.done (.inr false))) (some (.next (Qm ((a.length:Int)+1))))):=by
   unfold Xe
   have e2:l.vs=a++x::b:=e
   rw [show decide ((a.length:Int) < (l.vs.length:Int))=true from by rw [e2];exact ZI a x b,show J0 l.vs (a.length:Int)=some x from by rw [e2];exact Yq a x b]
   rfl
  rw [this]
  unfold Q3p
  by_cases c1:x.1 < -65536
  ·rw [C9 c1];exact ⟨fun _=>rfl,fun h=>(h (.inl c1)).elim⟩
  rw [C8 c1,Ce]
  by_cases c2:7 < x.1
  ·rw [C9 c2];exact ⟨fun _=>rfl,fun h=>(h (.inr (.inl c2))).elim⟩
  rw [C8 c2,Ce]
  by_cases c3:x.2 < 0
  ·rw [C9 c3];exact ⟨fun _=>rfl,fun h=>(h (.inr (.inr (.inl c3)))).elim⟩
  rw [C8 c3,Ce]
  by_cases c4:100 < x.2
  ·rw [C9 c4];exact ⟨fun _=>rfl,fun h=>(h (.inr (.inr (.inr (.inl c4))))).elim⟩
  rw [C8 c4,Ce]
  by_cases c5:0 < a.length
  ·rw [C9 (show 0 < (a.length:Int) by omega),C6]
   obtain ⟨y,hy⟩:=hprev c5
   rw [hy,C1]
   by_cases c6:x.1≤y.1
   ·rw [C9 c6];exact ⟨fun _=>rfl,fun h=>(h (.inr (.inr (.inr (.inr ⟨c5,y,rfl,c6⟩))))).elim⟩
   ·rw [C8 c6]
    refine ⟨fun h=>?_,fun _=>rfl⟩
    rcases h with h | h | h | h | ⟨-,z,hz,h⟩
    ·exact (c1 h).elim
    ·exact (c2 h).elim
    ·exact (c3 h).elim
    ·exact (c4 h).elim
    ·cases hz;exact (c6 h).elim
  ·rw [C8 (show ¬ 0 < (a.length:Int) by omega)]
   refine ⟨fun h=>?_,fun _=>rfl⟩
   rcases h with h | h | h | h | ⟨h,-⟩
   ·exact (c1 h).elim
   ·exact (c2 h).elim
   ·exact (c3 h).elim
   ·exact (c4 h).elim
   ·exact (c5 h).elim) (by unfold Xe;rw [Jn];rfl)
 obtain ⟨r,h1,h2⟩:=hloop
 obtain ⟨b,h3,h4⟩:=m211_eq l.vs l h
 unfold Q5e
 rw [h3,h1]
 by_cases c1:l.c < 0
 ·rw [C9 c1];exact ⟨false,rfl,⟨fun h=>(Cn h).elim,fun h=>by have:=h.1;omega⟩⟩
 rw [C8 c1,Ce]
 by_cases c2:100 < l.c
 ·rw [C9 c2];exact ⟨false,rfl,⟨fun h=>(Cn h).elim,fun h=>by have:=h.2.1;omega⟩⟩
 rw [C8 c2,Ce]
 have key:(∃ x,(0 < l.c∧(∃ x∈l.vs,l.c≤x.2)→x=false)∧(¬ (0 < l.c∧∃ x∈l.vs,l.c≤x.2)→Option.bind (some r) (Sum.elim (fun (o3:Unit)=>some true) (fun o=>some o))=some x)∧cond (decide (0 < l.c)) (Option.bind (Option.bind (some b) fun (x7:Bool)=>some x7) (fun (y5:Bool)=>some y5)) (some false)=some (decide (0 < l.c∧∃ x∈l.vs,l.c≤x.2))∧(x=true→r=.inl ())∧(¬ (0 < l.c∧∃ x∈l.vs,l.c≤x.2)→r=.inl ()→x=true)):=by
  by_cases c3:0 < l.c
  ·rw [C9 c3]
   cases b with
   | true =>
    have h5:=h4.1 rfl
    exact ⟨false,fun _=>rfl,fun h=>(h ⟨c3,h5⟩).elim,by rw [C9 ⟨c3,h5⟩];rfl,fun h=>(by cases h),fun h=>(h ⟨c3,h5⟩).elim⟩
   | false =>
    have h5:¬ ∃ x∈l.vs,l.c≤x.2:=fun h=>by have:=h4.2 h;cases this
    rcases h2 with ⟨rfl,-⟩ | ⟨rfl,-⟩
    ·exact ⟨true,fun h=>(h5 h.2).elim,fun _=>rfl,by rw [C8 fun h=>h5 h.2];rfl,fun _=>rfl,fun _ _=>rfl⟩
    ·exact ⟨false,fun h=>(h5 h.2).elim,fun _=>rfl,by rw [C8 fun h=>h5 h.2];rfl,fun h=>(by cases h),fun _ h=>by cases h⟩
  ·rw [C8 c3]
   rcases h2 with ⟨rfl,-⟩ | ⟨rfl,-⟩
   ·exact ⟨true,fun h=>(c3 h.1).elim,fun _=>rfl,by rw [C8 fun h=>c3 h.1];rfl,fun _=>rfl,fun _ _=>rfl⟩
   ·exact ⟨false,fun h=>(c3 h.1).elim,fun _=>rfl,by rw [C8 fun h=>c3 h.1];rfl,fun h=>(by cases h),fun _ h=>by cases h⟩
 obtain ⟨x,k1,k2,Qqd,k4,k5⟩:=key
 rw [Qqd,C1]
 by_cases c4:0 < l.c∧∃ x∈l.vs,l.c≤x.2
 ·rw [C9 c4]
  refine ⟨false,Z,fun h=>(Cn h).elim,fun h=>?_⟩
  obtain ⟨y,hy,hy2⟩:=c4.2
  exact (h.2.2.1 c4.1 y hy hy2).elim
 ·rw [C8 c4]
  refine ⟨x,k2 c4,fun h=>?_,fun h=>?_⟩
  ·have h6:=k4 h
   rcases h2 with ⟨-,h7⟩ | ⟨h7,-⟩
   ·exact ⟨by omega,by omega,fun h8 y hy h9=>c4 ⟨h8,y,hy,h9⟩,h7⟩
   ·rw [h7] at h6;cases h6
  ·refine k5 c4 ?_
   rcases h2 with ⟨h7,-⟩ | ⟨-,a,y,c,h7,h8⟩
   ·exact h7
   ·exact (h.2.2.2 a y c h7 h8).elim
theorem m118_eq (l:Lvl) (h:l.vs.length≤900000000):∃ b,Qjb l=some b∧(b=true↔Q5f l):=by
 have hloop:=Qbe (β:=Unit⊕Bool) (step:=Dc l) l.vs (fun a x=>Q3p l a x∨(0 < l.c∧l.c≤x.2)) (.inr false) (.inl ()) h (fun a x b e=>by
  have hprev:=fun ha=>Q5z (x:=x) (b:=b) h e ha
  have:Dc l (a.length:Int)=Option.bind (cond (decide (x.1 < (-65536))) (some true) (cond (decide (8≤x.1)) (some true) (cond (decide (x.2 < 0)) (some true) (some (decide (100 < x.2)))))) (fun (v6:Bool)=>Qfv v6 (a.length:Int) l x):=by
   unfold Dc
   have e2:l.vs=a++x::b:=e
   rw [show decide ((a.length:Int) < (l.vs.length:Int))=true from by rw [e2];exact ZI a x b,show J0 l.vs (a.length:Int)=some x from by rw [e2];exact Yq a x b]
   rfl
  rw [this]
  unfold Q3p
  by_cases c1:x.1 < -65536
  ·rw [C9 c1];exact ⟨fun _=>rfl,fun h=>(h (.inl (.inl c1))).elim⟩
  rw [C8 c1,Ce]
  by_cases c2:7 < x.1
  ·rw [C9 (show 8≤x.1 by omega)];exact ⟨fun _=>rfl,fun h=>(h (.inl (.inr (.inl c2)))).elim⟩
  rw [C8 (show ¬ 8≤x.1 by omega),Ce]
  by_cases c3:x.2 < 0
  ·rw [C9 c3];exact ⟨fun _=>rfl,fun h=>(h (.inl (.inr (.inr (.inl c3))))).elim⟩
  rw [C8 c3,Ce]
  by_cases c4:100 < x.2
  ·rw [C9 c4];exact ⟨fun _=>rfl,fun h=>(h (.inl (.inr (.inr (.inr (.inl c4)))))).elim⟩
  rw [C8 c4,C1]
  show (_→Option.bind (cond (decide (0 < (a.length:Int))) (Option.bind (J0 l.vs (Qm ((a.length:Int) - 1))) fun (b0_:Qrf)=>some (decide (x.1≤b0_.1))) (some false)) _=_)∧(_→Option.bind (cond (decide (0 < (a.length:Int))) (Option.bind (J0 l.vs (Qm ((a.length:Int) - 1))) fun (b0_:Qrf)=>some (decide (x.1≤b0_.1))) (some false)) _=_)
  have hlast:∀ (hno:¬ (0 < a.length∧∃ y,J0 l.vs (Qm ((a.length:Int) - 1))=some y∧x.1≤y.1)),((((x.1 < -65536∨7 < x.1∨x.2 < 0∨100 < x.2∨(0 < a.length∧∃ y,J0 l.vs (Qm ((a.length:Int) - 1))=some y∧x.1≤y.1)))∨(0 < l.c∧l.c≤x.2))→Option.bind (cond (decide (0 < l.c)) (some (decide (l.c≤x.2))) (some false)) (fun (b2_:Bool)=>(cond b2_ (some (.done (.inr false))) (some (.next (Qm ((a.length:Int)+1)))):Option (LO Int (Unit⊕Bool))))=some (.done (.inr false:Unit⊕Bool)))∧(¬ (((x.1 < -65536∨7 < x.1∨x.2 < 0∨100 < x.2∨(0 < a.length∧∃ y,J0 l.vs (Qm ((a.length:Int) - 1))=some y∧x.1≤y.1)))∨(0 < l.c∧l.c≤x.2))→Option.bind (cond (decide (0 < l.c)) (some (decide (l.c≤x.2))) (some false)) (fun (b2_:Bool)=>(cond b2_ (some (.done (.inr false))) (some (.next (Qm ((a.length:Int)+1)))):Option (LO Int (Unit⊕Bool))))=some (.next (β:=Unit⊕Bool) (Qm ((a.length:Int)+1)))):=by
   intro hno
   by_cases c7:0 < l.c
   ·rw [C9 c7]
    by_cases c8:l.c≤x.2
    ·rw [C9 c8];exact ⟨fun _=>rfl,fun h=>(h (.inr ⟨c7,c8⟩)).elim⟩
    ·rw [C8 c8]
     refine ⟨fun h=>?_,fun _=>rfl⟩
     rcases h with (h | h | h | h | h) | ⟨-,h⟩
     ·exact (c1 h).elim
     ·exact (c2 h).elim
     ·exact (c3 h).elim
     ·exact (c4 h).elim
     ·exact (hno h).elim
     ·exact (c8 h).elim
   ·rw [C8 c7]
    refine ⟨fun h=>?_,fun _=>rfl⟩
    rcases h with (h | h | h | h | h) | ⟨h,-⟩
    ·exact (c1 h).elim
    ·exact (c2 h).elim
    ·exact (c3 h).elim
    ·exact (c4 h).elim
    ·exact (hno h).elim
    ·exact (c7 h).elim
  by_cases c5:0 < a.length
  ·rw [C9 (show 0 < (a.length:Int) by omega),C6]
   obtain ⟨y,hy⟩:=hprev c5
   rw [hy,C1]
   rw [hy] at hlast
   by_cases c6:x.1≤y.1
   ·rw [C9 c6];exact ⟨fun _=>rfl,fun h=>(h (.inl (.inr (.inr (.inr (.inr ⟨c5,y,rfl,c6⟩)))))).elim⟩
   ·rw [C8 c6]
    exact hlast fun ⟨_,z,hz,h⟩=>by cases hz;exact c6 h
  ·rw [C8 (show ¬ 0 < (a.length:Int) by omega)]
   exact hlast fun h=>c5 h.1) (by unfold Dc;rw [Jn];rfl)
 obtain ⟨r,h1,h2⟩:=hloop
 unfold Qjb
 rw [h1]
 by_cases c1:l.c < 0
 ·rw [C9 c1];exact ⟨false,rfl,⟨fun h=>(Cn h).elim,fun h=>by have:=h.1;omega⟩⟩
 rw [C8 c1,Ce]
 by_cases c2:100 < l.c
 ·rw [C9 c2];exact ⟨false,rfl,⟨fun h=>(Cn h).elim,fun h=>by have:=h.2.1;omega⟩⟩
 rw [C8 c2,C1,Ce]
 rcases h2 with ⟨rfl,h3⟩ | ⟨rfl,a,x,b,e,h3⟩
 ·refine ⟨true,rfl,fun _=>⟨by omega,by omega,fun h4 y hy h5=>?_,fun a x b e h4=>h3 a x b e (.inl h4)⟩,fun _=>rfl⟩
  obtain ⟨a,b,e⟩:=List.append_of_mem hy
  exact h3 a y b e (.inr ⟨h4,h5⟩)
 ·refine ⟨false,rfl,fun h=>(Cn h).elim,fun h4=>?_⟩
  rcases h3 with h3 | ⟨h3,h5⟩
  ·exact (h4.2.2.2 a x b e h3).elim
  ·exact (h4.2.2.1 h3 x (by rw [e];simp) h5).elim
theorem lv_same (l:Lvl) (h:l.vs.length≤900000000):∃ b,Q5e l=some b∧Qjb l=some b∧(b=true→Q5f l):=by
 obtain ⟨b,h1,h2⟩:=Q8t l h
 obtain ⟨c,h3,h4⟩:=m118_eq l h
 have:b=c:=Bool.eq_iff_iff.2 (h2.trans h4.symm)
 exact ⟨b,h1,by rw [this];exact h3,h2.1⟩
end
noncomputable section
open Go.RowKit Go.Shelf
theorem Qm2 {α σ1 τ1 β1 σ2 τ2 β2:Type} {step1:τ1→Option (LO τ1 β1)} {step2:τ2→Option (LO τ2 β2)} (l:List α) (mk1:Int→σ1→τ1) (mk2:Int→σ2→τ2) (I:List α→σ1→σ2→Prop) (Q:β1→β2→Prop) (hlen:l.length≤900000000)
  (hin:∀ (a:List α) (x:α) (b:List α) (s1:σ1) (s2:σ2),l=a++x::b→I a s1 s2 →
   (∃ r1 r2,step1 (mk1 (a.length:Int) s1)=some (.done r1)∧step2 (mk2 (a.length:Int) s2)=some (.done r2)∧Q r1 r2) ∨
   ∃ s1' s2',step1 (mk1 (a.length:Int) s1)=some (.next (mk1 (Qm ((a.length:Int)+1)) s1'))∧step2 (mk2 (a.length:Int) s2)=some (.next (mk2 (Qm ((a.length:Int)+1)) s2'))∧I (a++[x]) s1' s2')
  (hout:∀ s1 s2,I l s1 s2→∃ r1 r2,step1 (mk1 (l.length:Int) s1)=some (.done r1)∧step2 (mk2 (l.length:Int) s2)=some (.done r2)∧Q r1 r2) (s1:σ1) (s2:σ2) (h0:I [] s1 s2) :
  ∃ r1 r2,Q9 step1 Qd (mk1 0 s1)=some r1∧Q9 step2 Qd (mk2 0 s2)=some r2∧Q r1 r2:=by
 have key:∀ (b a:List α) (s1:σ1) (s2:σ2) (n:Nat),l=a++b→b.length < n→I a s1 s2→∃ r1 r2,Q9 step1 n (mk1 (a.length:Int) s1)=some r1∧Q9 step2 n (mk2 (a.length:Int) s2)=some r2∧Q r1 r2:=by
  intro b
  induction b with
  | nil =>
   intro a s1 s2 n hl hn hI
   rw [Cy] at hl
   subst hl
   obtain ⟨r1,r2,h1,h2,h3⟩:=hout s1 s2 hI
   cases n with
   | zero=>omega
   | succ n=>exact ⟨r1,r2,by simp only [Q9,h1],by simp only [Q9,h2],h3⟩
  | cons x b ih =>
   intro a s1 s2 n hl hn hI
   cases n with
   | zero=>omega
   | succ n =>
    rcases hin a x b s1 s2 hl hI with ⟨r1,r2,h1,h2,h3⟩ | ⟨s1',s2',h1,h2,h3⟩
    ·exact ⟨r1,r2,by simp only [Q9,h1],by simp only [Q9,h2],h3⟩
    ·have hal:a.length≤900000000:=by rw [hl,C7] at hlen;omega
     rw [Gl (by omega)] at h1 h2
     obtain ⟨r1,r2,h4,h5,h6⟩:=ih (a++[x]) s1' s2' n (by rw [hl,CB];rfl) (by simp only [C2] at hn;omega) h3
     rw [C7] at h4 h5
     exact ⟨r1,r2,by simp only [Q9,h1];exact h4,by simp only [Q9,h2];exact h5,h6⟩
 exact key l [] s1 s2 Qd rfl (by unfold Qd;omega) h0
theorem Uq {α β1 β2:Type} {step1:Int→Option (LO Int β1)} {step2:Int→Option (LO Int β2)} (l:List α) (z1:β1) (z2:β2) (g1:Int→β1) (Qqm:Int→β2) (hlen:l.length≤900000000)
  (hin:∀ (a:List α) (x:α) (b:List α),l=a++x::b→∃ e:Int,(e=0→step1 (a.length:Int)=some (.next (Qm ((a.length:Int)+1)))∧step2 (a.length:Int)=some (.next (Qm ((a.length:Int)+1))))∧(e ≠ 0→step1 (a.length:Int)=some (.done (g1 e))∧step2 (a.length:Int)=some (.done (Qqm e))))
  (hout1:step1 (l.length:Int)=some (.done z1)) (hout2:step2 (l.length:Int)=some (.done z2)) :
  ∃ e:Int,(e=0→Q9 step1 Qd 0=some z1∧Q9 step2 Qd 0=some z2)∧(e ≠ 0→Q9 step1 Qd 0=some (g1 e)∧Q9 step2 Qd 0=some (Qqm e)):=by
 obtain ⟨r1,r2,h1,h2,e,h3,h4⟩:=Qm2 (step1:=step1) (step2:=step2) l (fun i (_:Unit)=>i) (fun i (_:Unit)=>i) (fun _ _ _=>True) (fun r1 r2=>∃ e:Int,(e=0→r1=z1∧r2=z2)∧(e ≠ 0→r1=g1 e∧r2=Qqm e)) hlen
  (fun a x b _ _ hl _=>by
   obtain ⟨e,h1,h2⟩:=hin a x b hl
   by_cases he:e=0
   ·exact .inr ⟨(),(),(h1 he).1,(h1 he).2,trivial⟩
   ·exact .inl ⟨_,_,(h2 he).1,(h2 he).2,e,fun h=>(he h).elim,fun _=>⟨rfl,rfl⟩⟩)
  (fun _ _ _=>⟨z1,z2,hout1,hout2,0,fun _=>⟨rfl,rfl⟩,fun h=>(h rfl).elim⟩) () () trivial
 refine ⟨e,fun he=>?_,fun he=>?_⟩
 ·rw [h1,h2,(h3 he).1,(h3 he).2];exact ⟨rfl,rfl⟩
 ·rw [h1,h2,(h4 he).1,(h4 he).2];exact ⟨rfl,rfl⟩
theorem Xo {α:Type} {l a b:List α} {x:α} (e:l=a++x::b):decide ((a.length:Int) < (l.length:Int))=true∧J0 l (a.length:Int)=some x:=by
 rw [e];exact ⟨ZI a x b,Yq a x b⟩
def Qgl (ix nm ln A N L K:Bool):Option Bool :=
 Option.bind (cond ix (cond nm (cond ln (some K) (cond L (some K) (some false))) (cond N (cond ln (some K) (cond L (some K) (some false))) (some false)))
  (cond A (cond nm (cond ln (some K) (cond L (some K) (some false))) (cond N (cond ln (some K) (cond L (some K) (some false))) (some false))) (some false))) (fun b=>some b)
theorem Qbs (ix nm ln A N L K:Bool):Qgl ix nm ln A N L K=some ((ix||A)&&(nm||N)&&(ln||L)&&K):=by
 cases ix <;> cases nm <;> cases ln <;> cases A <;> cases N <;> cases L <;> cases K <;> rfl
def Qm5 (k0 k12 Qqd k2 A N L0 L1 K:Bool):Option Bool :=
 cond (!K) (some false) (Option.bind (cond (!A) (cond (!k0) (some (!k12)) (some false)) (some false)) (fun v3=>cond v3 (some false) (Option.bind (cond (!N) (some (!Qqd)) (some false)) (fun b0_=>cond b0_ (some false) (cond k2 (some L1) (Option.bind (cond L0 (some true) (some Qqd)) (fun b1_=>some b1_)))))))
theorem formV_eq (k0 k12 Qqd k2 A N L0 L1 K:Bool):Qm5 k0 k12 Qqd k2 A N L0 L1 K=some (((k0||k12)||A)&&(Qqd||N)&&(cond k2 L1 (L0||Qqd))&&K):=by
 cases k0 <;> cases k12 <;> cases Qqd <;> cases k2 <;> cases A <;> cases N <;> cases L0 <;> cases L1 <;> cases K <;> rfl
theorem Qgk (t:Tm):∃ b,WU t=some b∧Qhi t=some b∧(b=true→0≤t.kind∧t.kind < 13∧(t.kind ≠ 3→(t.levels.length:Int)≤1)):=by
 by_cases h1:t.kind < 0
 ·exact ⟨false,by unfold WU;rw [C9 h1];rfl,by unfold Qhi;rw [C9 h1];rfl,fun h=>by cases h⟩
 by_cases h2:13≤t.kind
 ·exact ⟨false,by unfold WU;rw [C8 h1,C9 h2];rfl,by unfold Qhi;rw [C8 h1,C9 h2];rfl,fun h=>by cases h⟩
 have hk:t.kind=0∨t.kind=1∨t.kind=2∨t.kind=3∨t.kind=4∨t.kind=5∨t.kind=6∨t.kind=7∨t.kind=8∨t.kind=9∨t.kind=10∨t.kind=11∨t.kind=12:=by omega
 have fin:∀ (ix nm ln:Bool) (lv kd:Int) (k0 k12 Qqd k2:Bool),WU t=Qgl ix nm ln (t.index==0) (t.name==[]) ((t.levels.length:Int)==lv) ((t.kids.length:Int)==kd) →
   Qhi t=Qm5 k0 k12 Qqd k2 (t.index==0) (t.name==[]) ((t.levels.length:Int)==0) ((t.levels.length:Int)==1) ((t.kids.length:Int)==kd) →
   ix=(k0||k12)→nm=Qqd→(ln||(t.levels.length:Int)==lv)=(cond k2 ((t.levels.length:Int)==1) ((t.levels.length:Int)==0||Qqd))→(Qqd=false→ln=false∧lv≤1)→(t.kind ≠ 3→Qqd=false) →
   ∃ b,WU t=some b∧Qhi t=some b∧(b=true→0≤t.kind∧t.kind < 13∧(t.kind ≠ 3→(t.levels.length:Int)≤1)):=by
  intro ix nm ln lv kd k0 k12 Qqd k2 e1 e2 e3 e4 e5 e6 e7
  rw [Qbs] at e1
  rw [formV_eq,← e5,← e3,← e4] at e2
  refine ⟨_,e1,e2,fun h=>⟨by omega,by omega,fun h3=>?_⟩⟩
  obtain ⟨h4,h5⟩:=e6 (e7 h3)
  rw [h4,Bool.false_or,CD,CD] at h
  have h6:=eq_of_beq h.1.2
  omega
 obtain ⟨k,i,n,ls,ks⟩:=t
 dsimp only [Tm.kind,Tm.index,Tm.name,Tm.levels,Tm.kids] at *
 rcases hk with hk | hk | hk | hk | hk | hk | hk | hk | hk | hk | hk | hk | hk <;> subst hk
 ·exact fin true false false 0 0 true false false false rfl rfl rfl rfl (by cases ((ls.length:Int)==0) <;> rfl) (fun _=>⟨rfl,by omega⟩) (fun _=>rfl)
 ·exact fin false false false 0 0 false false false false rfl rfl rfl rfl (by cases ((ls.length:Int)==0) <;> rfl) (fun _=>⟨rfl,by omega⟩) (fun _=>rfl)
 ·exact fin false false false 1 0 false false false true rfl rfl rfl rfl rfl (fun _=>⟨rfl,by omega⟩) (fun _=>rfl)
 ·exact fin false true true (-1) 0 false false true false rfl rfl rfl rfl (by cases ((ls.length:Int)==0) <;> rfl) (fun h=>by cases h) (fun h=>(h rfl).elim)
 ·exact fin false false false 0 2 false false false false rfl rfl rfl rfl (by cases ((ls.length:Int)==0) <;> rfl) (fun _=>⟨rfl,by omega⟩) (fun _=>rfl)
 ·exact fin false false false 0 2 false false false false rfl rfl rfl rfl (by cases ((ls.length:Int)==0) <;> rfl) (fun _=>⟨rfl,by omega⟩) (fun _=>rfl)
 ·exact fin false false false 0 2 false false false false rfl rfl rfl rfl (by cases ((ls.length:Int)==0) <;> rfl) (fun _=>⟨rfl,by omega⟩) (fun _=>rfl)
 ·exact fin false false false 0 2 false false false false rfl rfl rfl rfl (by cases ((ls.length:Int)==0) <;> rfl) (fun _=>⟨rfl,by omega⟩) (fun _=>rfl)
 ·exact fin false false false 0 3 false false false false rfl rfl rfl rfl (by cases ((ls.length:Int)==0) <;> rfl) (fun _=>⟨rfl,by omega⟩) (fun _=>rfl)
 ·exact fin false false false 0 1 false false false false rfl rfl rfl rfl (by cases ((ls.length:Int)==0) <;> rfl) (fun _=>⟨rfl,by omega⟩) (fun _=>rfl)
 ·exact fin false false false 0 1 false false false false rfl rfl rfl rfl (by cases ((ls.length:Int)==0) <;> rfl) (fun _=>⟨rfl,by omega⟩) (fun _=>rfl)
 ·exact fin false false false 0 3 false false false false rfl rfl rfl rfl (by cases ((ls.length:Int)==0) <;> rfl) (fun _=>⟨rfl,by omega⟩) (fun _=>rfl)
 ·exact fin true false false 0 0 false true false false rfl rfl rfl rfl (by cases ((ls.length:Int)==0) <;> rfl) (fun _=>⟨rfl,by omega⟩) (fun _=>rfl)
def Ys (V P:Int):Scp:=⟨max V 0,max P 0,1000000,1000000⟩
theorem Qfz (V P:Int) (x:Lvl) (h:x.vs.length≤900000000):∃ e,Q04 (Ys V P) x=some e∧Qjc x P 1000000=some e:=by
 obtain ⟨b,h1,h2,-⟩:=lv_same x h
 unfold Q04 Qjc
 rw [h1,h2]
 cases b with
 | false=>exact ⟨3,rfl,rfl⟩
 | true =>
  show ∃ e,Option.bind (Q9 (Xg x (Ys V P)) Qd 0) _=_∧Option.bind (Q9 (Df x P) Qd 0) _=_
  obtain ⟨e,h3,h4⟩:=Uq (β1:=Unit⊕Int) (β2:=Unit⊕Int) (step1:=Xg x (Ys V P)) (step2:=Df x P) x.vs (.inl ()) (.inl ()) .inr .inr h (fun a y b e=>by
   obtain ⟨q1,q2⟩:=Xo e
   unfold Xg Df
   rw [q1,q2]
   show ∃ e:Int,(_→cond (decide (max P 0≤y.1)) _ _=_∧Option.bind (cond (decide (0≤y.1)) (some (decide (P≤y.1))) (some false)) _=_)∧(_→cond (decide (max P 0≤y.1)) _ _=_∧Option.bind (cond (decide (0≤y.1)) (some (decide (P≤y.1))) (some false)) _=_)
   by_cases c:max P 0≤y.1
   ·rw [C9 c,C9 (show 0≤y.1 by omega),C9 (show P≤y.1 by omega)]
    exact ⟨15,fun h=>by omega,fun _=>⟨rfl,rfl⟩⟩
   ·rw [C8 c]
    refine ⟨0,fun _=>⟨Z,?_⟩,fun h=>(h Z).elim⟩
    by_cases c2:0≤y.1
    ·rw [C9 c2,C8 (show ¬ P≤y.1 by omega)];rfl
    ·rw [C8 c2];rfl)
   (by unfold Xg;rw [Jn];rfl) (by unfold Df;rw [Jn];rfl)
  by_cases he:e=0
  ·obtain ⟨e1,e2⟩:=h3 he
   rw [e1,e2]
   show ∃ e,Option.bind (Q9 (Xf x (Ys V P)) Qd 0) _=_∧Option.bind (Q9 (De x 1000000) Qd 0) _=_
   obtain ⟨e',h5,h6⟩:=Uq (β1:=Unit⊕Int) (β2:=Unit⊕Int) (step1:=Xf x (Ys V P)) (step2:=De x 1000000) x.vs (.inl ()) (.inl ()) .inr .inr h (fun a y b e=>by
    obtain ⟨q1,q2⟩:=Xo e
    unfold Xf De
    rw [q1,q2]
    show ∃ e:Int,(_→Option.bind (cond (decide (y.1 < 0)) (some (decide (1000000≤(Qm ((-1) - y.1))))) (some false)) _=_∧Option.bind (cond (decide (y.1 < 0)) (some (decide (1000000≤(Qm ((-1) - y.1))))) (some false)) _=_)∧(_→Option.bind (cond (decide (y.1 < 0)) (some (decide (1000000≤(Qm ((-1) - y.1))))) (some false)) _=_∧Option.bind (cond (decide (y.1 < 0)) (some (decide (1000000≤(Qm ((-1) - y.1))))) (some false)) _=_)
    cases decide (y.1 < 0) with
    | false=>exact ⟨0,fun _=>⟨rfl,rfl⟩,fun h=>(h rfl).elim⟩
    | true =>
     cases decide (1000000≤(Qm ((-1) - y.1))) with
     | false=>exact ⟨0,fun _=>⟨rfl,rfl⟩,fun h=>(h rfl).elim⟩
     | true=>exact ⟨23,fun h=>by omega,fun _=>⟨rfl,rfl⟩⟩)
    (by unfold Xf;rw [Jn];rfl) (by unfold De;rw [Jn];rfl)
   by_cases he':e'=0
   ·obtain ⟨e1,e2⟩:=h5 he'
    rw [e1,e2];exact ⟨0,rfl,rfl⟩
   ·obtain ⟨e1,e2⟩:=h6 he'
    rw [e1,e2];exact ⟨e',rfl,rfl⟩
  ·obtain ⟨e1,e2⟩:=h4 he
   rw [e1,e2];exact ⟨e,rfl,rfl⟩
theorem Xj (t:Tm):(t.levels.map Q3n).sum < t.size:=by rw [t.size_eq];omega
theorem Q8y (l:Lvl):l.vs.length < Q3n l:=by
 have:=Dk (fun _:Qrf=>1) (fun _=>Ck 1) l.vs
 unfold Q3n;omega
theorem Qcd {e:Int} (h:e ≠ 0):(e != 0)=true:=SN.2 h
theorem Qe6 {α:Type} {e:Int} (he:e ≠ 0) (x:Int→Option α) (y:Option α):Option.bind (some e) (fun v=>cond (v != 0) (x v) y)=x e:=by
 rw [C1,Qcd he];rfl
def Q6u (rc:Tm×Int×Int×Int×Int×Int→Option Int) (t:Tm) (dep V P:Int):Option Int:=Option.bind (Q9 (KM t rc dep V P 1000000 1000000) Qd 0) (Sum.elim (fun (b1_:Unit)=>some 0) (fun o=>some o))
theorem node_tail (t:Tm) (dep V P:Int) (h:t.size≤900000000):∃ e,Option.bind (Q9 (Yu t (Ys V P)) Qd 0) (Sum.elim (fun (o7:Unit)=>ZC t (Ys V P) dep) (fun o=>some o))=some e ∧
  ∀ rc,(Option.bind (Q9 (Un t P 1000000) Qd 0) (Sum.elim (fun (b0_:Unit)=>Option.bind (cond (t.kind==0) (cond (decide (t.index < 0)) (some true) (some (decide (max V 0≤(Qm (t.index - dep)))))) (some false)) (fun (b1_:Bool)=>Uo b1_ t 1000000 rc dep (max V 0) P 1000000)) (fun o=>some o)))=if e=0 then Q6u rc t dep (max V 0) P else some e:=by
 have hl:=Xj t
 have hl2:=Dk Q3n (fun l=>by unfold Q3n;omega) t.levels
 obtain ⟨e,h3,h4⟩:=Uq (β1:=Unit⊕Int) (β2:=Unit⊕Int) (step1:=Yu t (Ys V P)) (step2:=Un t P 1000000) t.levels (.inl ()) (.inl ()) .inr .inr (by omega) (fun a y b e=>by
  obtain ⟨q1,q2⟩:=Xo e
  have hy:y.vs.length≤900000000:=by
   have:=Q8y y
   have:=UR Q3n (show y∈t.levels from by rw [e];simp)
   omega
  obtain ⟨e,h1,h2⟩:=Qfz V P y hy
  unfold Yu Un
  rw [q1,q2]
  show ∃ e:Int,(_→Option.bind (Q04 (Ys V P) y) _=_∧Option.bind (Qjc y P 1000000) _=_)∧(_→Option.bind (Q04 (Ys V P) y) _=_∧Option.bind (Qjc y P 1000000) _=_)
  rw [h1,h2]
  refine ⟨e,fun he=>?_,fun he=>?_⟩
  ·subst he;exact ⟨rfl,rfl⟩
  ·exact ⟨Qe6 he _ _,Qe6 he _ _⟩)
  (by unfold Yu;rw [Jn];rfl) (by unfold Un;rw [Jn];rfl)
 by_cases he:e=0
 ·obtain ⟨e1,e2⟩:=h3 he
  rw [e1,e2]
  show ∃ e,ZC t (Ys V P) dep=some e∧∀ rc,Option.bind (cond (t.kind==0) (cond (decide (t.index < 0)) (some true) (some (decide (max V 0≤(Qm (t.index - dep)))))) (some false)) (fun (b1_:Bool)=>Uo b1_ t 1000000 rc dep (max V 0) P 1000000)=if e=0 then Q6u rc t dep (max V 0) P else some e
  unfold ZC
  show ∃ e,Option.bind (cond (t.kind==0) (cond (decide (t.index < 0)) (some true) (some (decide (max V 0≤(Qm (t.index - dep)))))) (some false)) _=some e∧_
  obtain ⟨v,hv⟩:∃ v,cond (t.kind==0) (cond (decide (t.index < 0)) (some true) (some (decide (max V 0≤(Qm (t.index - dep)))))) (some false)=some v:=by
   cases (t.kind==0) <;> cases decide (t.index < 0) <;> exact ⟨_,rfl⟩
  rw [hv]
  ·cases v with
   | true=>exact ⟨24,rfl,fun rc=>rfl⟩
   | false =>
    show ∃ e,Option.bind (cond (t.kind==12) (cond (decide (t.index < 0)) (some true) (some (decide ((1000000:Int)≤t.index)))) (some false)) _=some e∧∀ rc,Uo false t 1000000 rc dep (max V 0) P 1000000=_
    unfold Uo
    simp only [Ce]
    cases t.kind==12 with
    | false=>exact ⟨0,rfl,fun rc=>rfl⟩
    | true =>
     cases decide (t.index < 0) with
     | true=>exact ⟨23,rfl,fun rc=>rfl⟩
     | false =>
      cases decide ((1000000:Int)≤t.index) with
      | true=>exact ⟨23,rfl,fun rc=>rfl⟩
      | false=>exact ⟨0,rfl,fun rc=>rfl⟩
 ·obtain ⟨e1,e2⟩:=h4 he
  rw [e1,e2]
  exact ⟨e,rfl,fun rc=>by rw [C5 he];rfl⟩
theorem Qfg (t:Tm) (dep V P:Int) (h:t.size≤900000000):∃ e,Qhq (Ys V P) t dep=some e∧(∀ rc,Qj3 rc t dep (max V 0) P 1000000 1000000=if e=0 then Q6u rc t dep (max V 0) P else some e)∧(e=0→0≤t.kind∧t.kind < 13):=by
 obtain ⟨b,h1,h2,h3⟩:=Qgk t
 unfold Qhq Qj3
 rw [h1,h2]
 cases b with
 | false=>exact ⟨3,rfl,fun rc=>rfl,fun h=>by omega⟩
 | true =>
  obtain ⟨k1,k2,Qqd⟩:=h3 rfl
  obtain ⟨e,h4,h5⟩:=node_tail t dep V P h
  have hn:t.name.length≤900000000:=by have:=t.size_eq;omega
  show ∃ e,cond (t.kind==3) (Option.bind (Q05 t.name) _) _=some e∧(∀ rc,Option.bind (cond (t.kind==3) (Option.bind (Qoz t.name) _) _) _=_)∧_
  rw [Q8v _ hn,m98_eq _ hn,ZL]
  by_cases hk:t.kind=3
  ·rw [C9 hk]
   cases YZ t.name with
   | false=>exact ⟨29,rfl,fun rc=>rfl,fun h=>by omega⟩
   | true =>
    show ∃ e,cond (decide (8 < (t.levels.length:Int))) (some 6) (Option.bind (Q9 (Yu t (Ys V P)) Qd 0) (Sum.elim (fun (o7:Unit)=>ZC t (Ys V P) dep) (fun o=>some o)))=some e∧(∀ rc,cond (decide (8 < (t.levels.length:Int))) (some 6) (Option.bind (Q9 (Un t P 1000000) Qd 0) (Sum.elim (fun (b0_:Unit)=>Option.bind (cond (t.kind==0) (cond (decide (t.index < 0)) (some true) (some (decide (max V 0≤(Qm (t.index - dep)))))) (some false)) (fun (b1_:Bool)=>Uo b1_ t 1000000 rc dep (max V 0) P 1000000)) (fun o=>some o)))=_)∧_
    cases decide (8 < (t.levels.length:Int)) with
    | true=>exact ⟨6,rfl,fun rc=>rfl,fun h=>by omega⟩
    | false=>exact ⟨e,h4,h5,fun _=>⟨k1,k2⟩⟩
  ·rw [C8 hk]
   show ∃ e,Option.bind (Q9 (Yu t (Ys V P)) Qd 0) (Sum.elim (fun (o7:Unit)=>ZC t (Ys V P) dep) (fun o=>some o))=some e∧(∀ rc,cond (decide (8 < (t.levels.length:Int))) (some 6) (Option.bind (Q9 (Un t P 1000000) Qd 0) (Sum.elim (fun (b0_:Unit)=>Option.bind (cond (t.kind==0) (cond (decide (t.index < 0)) (some true) (some (decide (max V 0≤(Qm (t.index - dep)))))) (some false)) (fun (b1_:Bool)=>Uo b1_ t 1000000 rc dep (max V 0) P 1000000)) (fun o=>some o)))=_)∧_
   rw [C8 (show ¬ 8 < (t.levels.length:Int) by have:=Qqd hk;omega)]
   exact ⟨e,h4,h5,fun _=>⟨k1,k2⟩⟩
end
noncomputable section
open Go.RowKit Go.Shelf
def Tm.num:Tm→Nat
 | .mk _ _ _ _ ks=>1+(ks.attach.map fun k=>Tm.num k.1).sum
termination_by t=>SizeOf.sizeOf t
decreasing_by
 have:=Ph k.2
 simp only [Tm.mk.sizeOf_spec];omega
theorem Tm.num_eq (t:Tm):t.num=1+(t.kids.map Tm.num).sum:=by
 cases t
 rw [Tm.num,Sw];rfl
theorem Q81 {α:Type} (f g:α→Nat):∀ l:List α,(∀ x∈l,f x≤g x)→(l.map f).sum≤(l.map g).sum
 | [],_=>Ck _
 | x::l,h=>by
  rw [CF,Pk,CF,Pk]
  have h1:=h x (Ci ..)
  have h2:=Q81 f g l fun y hy=>h y (Ch _ hy)
  omega
theorem Tm.num_le (t:Tm):t.num≤t.size:=by
 induction t using Qkt with
 | h t ih =>
  rw [t.num_eq,t.size_eq]
  have:=Q81 Tm.num Tm.size t.kids ih
  omega
theorem Q8g {t:Tm} {a b:List Tm} {x:Tm} (e:t.kids=a++x::b):(a.map Tm.num).sum+x.size < t.size∧(a.map Tm.num).sum+x.num < t.num:=by
 have h1:=t.size_eq
 have h2:=t.num_eq
 rw [e,sum_split] at h1 h2
 have h3:=Q81 Tm.num Tm.size a fun x _=>x.num_le
 constructor <;> omega
theorem Qb8:∀ (n:Nat) (t:Tm),t.size≤n→t.size≤900000000→Jv Qj2 n t=some (t.num:Int)
 | 0,t,h,_=>by rw [t.size_eq] at h;omega
 | n+1,t,h,h2=>by
  show Qms (Jv Qj2 n) t=_
  unfold Qms
  have hl:=GJ t
  have hn:=t.num_le
  obtain ⟨r,e1,e2⟩:=JN (step:=Q3i t (Jv Qj2 n)) t.kids (fun i (s:Nat)=>((s:Int),i)) (fun a s=>s=1+(a.map Tm.num).sum) (fun r=>r=(t.num:Int)) (by omega)
   (fun a x b s e hI=>by
    have hx:=JQ (t:=t) (k:=x) (by rw [e];simp)
    have hr:=Qb8 n x (by omega) (by omega)
    have h3:=Q8g e
    obtain ⟨q1,q2⟩:=Xo e
    refine .inr ⟨s+x.num,?_,?_⟩
    ·unfold Q3i
     dsimp only
     rw [q1,q2]
     simp only [C6,C1]
     rw [hr]
     simp only [C1]
     rw [Y4 (n:=(s:Int)+(x.num:Int)) (by omega) (by omega)]
     rfl
    ·rw [hI,Cr,List.sum_append];simp;omega)
   (fun s hI=>⟨(s:Int),by unfold Q3i;dsimp only;rw [Jn];rfl,by rw [hI,t.num_eq]⟩) 1 rfl
  have e3:Q9 (Q3i t (Jv Qj2 n)) Qd (1,0)=some r:=e1
  rw [e3,e2];rfl
theorem m60_eq:Qp1=m67:=rfl
theorem Qh5 (k:Int) (h0:0≤k) (h1:k < 13):∃ v,J0 ([(-1),(-1),(-1),(-1),(-1),1,1,1,(-1),(-1),(-1),2,(-1)]:List Int) k=some v∧∀ j:Nat,Q8u k (j:Int)=some (if (j:Int)=v then 1 else 0):=by
 have hk:k=0∨k=1∨k=2∨k=3∨k=4∨k=5∨k=6∨k=7∨k=8∨k=9∨k=10∨k=11∨k=12:=by omega
 have no:∀ (c:Bool→Option Int) (j:Nat),Q8u k (j:Int)=some 0→Q8u k (j:Int)=some (if (j:Int) = -1 then 1 else 0):=fun _ j h=>by rw [h,C5 (by omega)]
 rcases hk with hk | hk | hk | hk | hk | hk | hk | hk | hk | hk | hk | hk | hk <;> subst hk
 case inr.inr.inr.inr.inr.inl=>exact ⟨1,rfl,fun j=>by
  unfold Q8u;rw [ZL (j:Int) 1,ZL (j:Int) 2]
  by_cases h:(j:Int)=1
  ·rw [C9 h,Cd h];rfl
  ·rw [C8 h,C5 h]
   cases decide ((j:Int)=2) <;> rfl⟩
 case inr.inr.inr.inr.inr.inr.inl=>exact ⟨1,rfl,fun j=>by
  unfold Q8u;rw [ZL (j:Int) 1,ZL (j:Int) 2]
  by_cases h:(j:Int)=1
  ·rw [C9 h,Cd h];rfl
  ·rw [C8 h,C5 h]
   cases decide ((j:Int)=2) <;> rfl⟩
 case inr.inr.inr.inr.inr.inr.inr.inl=>exact ⟨1,rfl,fun j=>by
  unfold Q8u;rw [ZL (j:Int) 1,ZL (j:Int) 2]
  by_cases h:(j:Int)=1
  ·rw [C9 h,Cd h];rfl
  ·rw [C8 h,C5 h]
   cases decide ((j:Int)=2) <;> rfl⟩
 case inr.inr.inr.inr.inr.inr.inr.inr.inr.inr.inr.inl=>exact ⟨2,rfl,fun j=>by
  unfold Q8u;rw [ZL (j:Int) 1,ZL (j:Int) 2]
  by_cases h:(j:Int)=2
  ·rw [C9 h,Cd h,C8 (show ¬ (j:Int)=1 by omega)];rfl
  ·rw [C8 h,C5 h]
   cases decide ((j:Int)=1) <;> rfl⟩
 all_goals exact ⟨-1,rfl,fun j=>no (fun _=>none) j (by
  unfold Q8u;rw [ZL (j:Int) 1,ZL (j:Int) 2]
  cases decide ((j:Int)=1) <;> cases decide ((j:Int)=2) <;> rfl)⟩
theorem Q25 (V P:Int) (root:Tm):∀ (n:Nat) (t:Tm) (dep cnt:Nat),t.size≤n→dep+t.size≤900000000→cnt+t.size≤900000000 →
  ∃ e:Int,Jv Q3j n (t,(dep:Int),max V 0,P,1000000,1000000)=some e∧(e=0→Jv Yp n (t,(dep:Int),root,0,Ys V P,(cnt:Int),root)=some (.inr (true,((cnt+t.num:Nat):Int)))) ∧
   (e ≠ 0→∃ c,Jv Yp n (t,(dep:Int),root,0,Ys V P,(cnt:Int),root)=some (.inl (e,c)))
 | 0,t,_,_,h,_,_=>by rw [t.size_eq] at h;omega
 | n+1,t,dep,cnt,h,hd,hc=>by
  show ∃ e:Int,Qj3 (Jv Q3j n) t (dep:Int) (max V 0) P 1000000 1000000=some e∧(e=0→Gc (Jv Yp n) t (dep:Int) root 0 (Ys V P) (cnt:Int) root=_)∧(e ≠ 0→∃ c,Gc (Jv Yp n) t (dep:Int) root 0 (Ys V P) (cnt:Int) root=some (.inl (e,c)))
  obtain ⟨e,h1,h2,h3⟩:=Qfg t (dep:Int) V P (by omega)
  have hl:=GJ t
  have hnum:=t.num_le
  rw [h2]
  unfold Gc
  rw [h1]
  by_cases he:e=0
  ·subst he
   obtain ⟨k0,k1⟩:=h3 rfl
   obtain ⟨v,hv,hj⟩:=Qh5 t.kind k0 k1
   rw [Cd rfl]
   rw [C9 k0,C9 k1]
   show ∃ e:Int,Q6u (Jv Q3j n) t (dep:Int) (max V 0) P=some e∧(e=0→ZG true t (dep:Int) (Jv Yp n) root 0 (Ys V P) root (cnt:Int)=_)∧(e ≠ 0→∃ c,ZG true t (dep:Int) (Jv Yp n) root 0 (Ys V P) root (cnt:Int)=some (.inl (e,c)))
   have hg:Q7 (cond (decide (0≤t.kind)) (Nat.blt t.kind.toNat 13) false) (some v)=some v:=by
    rw [C9 k0,C6,show Nat.blt t.kind.toNat 13=true from Cb (by omega)];rfl
   unfold ZG Q6u
   rw [hv]
   simp only [C6,C1]
   rw [hg,C1,Gl (by omega)]
   obtain ⟨r1,r2,e1,e2,e3⟩:=Qm2 (β1:=Unit⊕Int) (β2:=Int⊕((Int×Int)⊕(Bool×Int))) (step1:=KM t (Jv Q3j n) (dep:Int) (max V 0) P 1000000 1000000) (step2:=Yf t v (dep:Int) (Jv Yp n) root 0 (Ys V P) root) t.kids (fun i (_:Unit)=>i) (fun i (c:Nat)=>(i,(c:Int)))
    (fun a _ c=>c=cnt+1+(a.map Tm.num).sum) (fun r1 r2=>(r1=.inl ()∧r2=.inl ((cnt+t.num:Nat):Int))∨∃ e c,e ≠ 0∧r1=.inr e∧r2=.inr (.inl (e,c))) (by omega)
    (fun a x b _ c e hI=>by
     obtain ⟨q1,q2⟩:=Xo e
     have hx:=Q8g e
     have hxs:=JQ (t:=t) (k:=x) (by rw [e];simp)
     unfold KM Yf
     dsimp only
     rw [q1,q2]
     simp only [C6,C1]
     rw [hj a.length,ZL]
     obtain ⟨d',hd1,hd2,hd3⟩:∃ d':Nat,Qm ((dep:Int)+(if (a.length:Int)=v then 1 else 0))=(d':Int)∧(cond (decide ((a.length:Int)=v)) (some (Qm ((dep:Int)+1))) (some (dep:Int)))=some (d':Int)∧d'≤dep+1:=by
      by_cases hh:(a.length:Int)=v
      ·rw [Cd hh,C9 hh,Gl (by omega)];exact ⟨dep+1,rfl,rfl,Ck _⟩
      ·rw [C5 hh,C8 hh,Y4 (by omega) (by omega)];exact ⟨dep,by omega,rfl,by omega⟩
     rw [hd2]
     simp only [C1]
     rw [hd1]
     obtain ⟨e',w1,w2,w3⟩:=Q25 V P root n x d' c (by omega) (by omega) (by omega)
     unfold GF
     rw [w1]
     simp only [C1]
     by_cases he':e'=0
     ·rw [w2 he']
      subst he'
      refine .inr ⟨(),c+x.num,Z,Z,?_⟩
      rw [hI,Cr,List.sum_append];simp;omega
     ·obtain ⟨c',w4⟩:=w3 he'
      rw [w4,Qcd he']
      exact .inl ⟨_,_,Z,Z,.inr ⟨e',c',he',Z,Z⟩⟩)
    (fun _ c hI=>⟨_,_,by unfold KM;rw [Jn];rfl,by unfold Yf;dsimp only;rw [Jn];rfl,.inl ⟨rfl,by rw [hI,t.num_eq];congr 2;omega⟩⟩) () (cnt+1) (by simp)
   have e1':Q9 (KM t (Jv Q3j n) (dep:Int) (max V 0) P 1000000 1000000) Qd 0=some r1:=e1
   have e2':Q9 (Yf t v (dep:Int) (Jv Yp n) root 0 (Ys V P) root) Qd (0,((cnt+1:Nat):Int))=some r2:=e2
   rw [e1',e2']
   rcases e3 with ⟨rfl,rfl⟩ | ⟨e',c',he',rfl,rfl⟩
   ·exact ⟨0,rfl,fun _=>rfl,fun h=>(h rfl).elim⟩
   ·exact ⟨e',rfl,fun h=>(he' h).elim,fun _=>⟨c',rfl⟩⟩
  ·rw [C5 he]
   refine ⟨e,Z,fun h=>(he h).elim,fun _=>⟨(cnt:Int),?_⟩⟩
   simp only [C1,Qcd he,C6];rfl
theorem m27_eq (t:Tm) (V P:Int) (h:t.size≤900000000):∃ e,Qo6 t V P 1000000 1000000=some e∧Qlb t V P 1000000 1000000=some e:=by
 obtain ⟨e,h1,h2,h3⟩:=Q25 V P t Qd t 0 0 (by unfold Qd;omega) (by omega) (by omega)
 obtain ⟨d,h4⟩:=Q4j Qd t (by unfold Qd;omega) h
 have h5:Qpl t=some (t.num:Int):=Qb8 Qd t (by unfold Qd;omega) h
 have h6:m67 t=some d:=h4
 have h1':Qpb t 0 (max V 0) P 1000000 1000000=some e:=h1
 have h7:∀ r,Jv Yp Qd (t,((0:Nat):Int),t,0,Ys V P,((0:Nat):Int),t)=some r→Q8x t 0 t 0 (⟨(max V 0),(max P 0),(max 1000000 0),(max 1000000 0)⟩:Scp) 0 t=some r:=fun r h=>h
 unfold Qo6 Qlb
 rw [h1',m60_eq,h5,h6]
 by_cases he:e=0
 ·have h8:=h7 _ (h2 he)
  rw [h8]
  subst he
  show ∃ e,cond (decide (4096 < (t.num:Int))) (some 5) (cond (decide (200 < d)) (some 7) (some 0))=some e∧cond (decide (4096 < ((0+t.num:Nat):Int))) (some 5) (cond (decide (200 < d)) (some 7) (some 0))=some e
  rw [P7]
  cases decide (4096 < (t.num:Int)) with
  | true=>exact ⟨5,rfl,rfl⟩
  | false=>cases decide (200 < d) <;> exact ⟨_,rfl,rfl⟩
 ·obtain ⟨c,h9⟩:=h3 he
  rw [h7 _ h9]
  simp only [C1,Qcd he,C6]
  exact ⟨e,Z,Z⟩
end
noncomputable section
open Go.RowKit
set_option maxRecDepth 100000
def m119s (rc:Int→Option ((List UInt8))) (a0:Int):Option ((List UInt8)) :=
 cond ((decide (a0 < 10))) (some (List.map Byt.u8 ([(Byt.mk (IntKind.wrap .u8 (48+(IntKind.wrap .u8 a0))))]:List Byt))) (Option.bind (rc (Qm (Int.tdiv a0 10))) fun (x1:(List UInt8))=>Q7 (!(10==0)) (Q7 (Nat.ble (x1.length+(List.map Byt.u8 ([(Byt.mk (IntKind.wrap .u8 (48+(IntKind.wrap .u8 (Int.tmod a0 10)))))]:List Byt)).length) 1000000000) (some (x1++(List.map Byt.u8 ([(Byt.mk (IntKind.wrap .u8 (48+(IntKind.wrap .u8 (Int.tmod a0 10)))))]:List Byt))))))
def m119r:Int→Option ((List UInt8)):=Jv (fun rc v=>m119s rc v) Qd
def Qmu (a0:Int):Option ((List UInt8)):=m119r a0
def Qob (a0:List UInt8) (a1:Int) (a2:Int):Option ((List UInt8)) :=
 Option.bind (Qmu a1) fun (x1:(List UInt8))=>Q7 (Nat.ble (a0.length+x1.length) 1000000000) (Option.bind (cond ((decide (0 < a2))) (Option.bind (Qmu a2) fun (x4:(List UInt8))=>Q7 (Nat.ble (([32,43,32]:List UInt8).length+x4.length) 1000000000) (Q7 (Nat.ble ((a0++x1).length+(([32,43,32]:List UInt8)++x4).length) 1000000000) (some ((a0++x1)++(([32,43,32]:List UInt8)++x4))))) (some (a0++x1))) fun (v3:(List UInt8))=>some v3)
def Qpj (a0:Lvl):Option ((List UInt8)×Int) :=
 Option.bind (Qjb a0) fun (x1:Bool)=>cond ((!x1)) (some (([]:List UInt8),3)) (Option.bind (cond ((decide (0 < a0.c))) (some true) (some ((a0.vs.length:Int)==0))) fun (v2:Bool)=>Option.bind (cond v2 (Option.bind (Qmu a0.c) fun (x5:(List UInt8))=>Q7 (Nat.ble (([]:List ((List UInt8))).length+([x5]:List ((List UInt8))).length) 1000000000) (some (([]:List ((List UInt8)))++([x5]:List ((List UInt8)))))) (some ([]:List ((List UInt8))))) fun (v4:(List ((List UInt8))))=>Option.bind (Q9 (σ:=(List ((List UInt8)))×Int) (β:=(List ((List UInt8)))) (fun s14=>cond ((decide (s14.2 < (a0.vs.length:Int)))) (Option.bind (J0 a0.vs s14.2) fun (x16:Qrf)=>cond ((decide (0≤x16.1))) (Option.bind (J0 a0.vs s14.2) fun (x17:Qrf)=>Option.bind (J0 a0.vs s14.2) fun (x18:Qrf)=>Option.bind (Qob ([117]:List UInt8) x17.1 x18.2) fun (x19:(List UInt8))=>Q7 (Nat.ble (s14.1.length+([x19]:List ((List UInt8))).length) 1000000000) (some (.next ((s14.1++([x19]:List ((List UInt8)))),(Qm (s14.2+1)))))) (some (.next (s14.1,(Qm (s14.2+1)))))) (some (.done s14.1))) Qd (v4,0)) fun (v15:(List ((List UInt8))))=>Option.bind (Q9 (σ:=(List ((List UInt8)))×Int) (β:=(List ((List UInt8)))) (fun s28=>cond ((decide (0≤s28.2))) (Option.bind (J0 a0.vs s28.2) fun (x30:Qrf)=>cond ((decide (x30.1 < 0))) (Option.bind (J0 a0.vs s28.2) fun (x31:Qrf)=>Option.bind (J0 a0.vs s28.2) fun (x32:Qrf)=>Option.bind (Qob ([63]:List UInt8) (Qm ((-1) - x31.1)) x32.2) fun (x33:(List UInt8))=>Q7 (Nat.ble (s28.1.length+([x33]:List ((List UInt8))).length) 1000000000) (some (.next ((s28.1++([x33]:List ((List UInt8)))),(Qm (s28.2 - 1)))))) (some (.next (s28.1,(Qm (s28.2 - 1)))))) (some (.done s28.1))) Qd (v15,(Qm ((a0.vs.length:Int) - 1)))) fun (v29:(List ((List UInt8))))=>cond (((v29.length:Int)==1)) (Option.bind (J0 v29 0) fun (x34:(List UInt8))=>some (x34,0)) (Option.bind (Q9 (σ:=(List UInt8)×Int) (β:=(List UInt8)) (fun s39=>cond ((decide (s39.2 < (v29.length:Int)))) (Option.bind (cond ((decide (0 < s39.2))) (Q7 (Nat.ble (s39.1.length+([44,32]:List UInt8).length) 1000000000) (some (s39.1++([44,32]:List UInt8)))) (some s39.1)) fun (v41:(List UInt8))=>Option.bind (J0 v29 s39.2) fun (x42:(List UInt8))=>Q7 (Nat.ble (v41.length+x42.length) 1000000000) (some (.next ((v41++x42),(Qm (s39.2+1)))))) (some (.done s39.1))) Qd (([109,97,120,40]:List UInt8),0)) fun (v40:(List UInt8))=>Q7 (Nat.ble (v40.length+([41]:List UInt8).length) 1000000000) (some ((v40++([41]:List UInt8)),0))))
def m68s (rc:Int→Option ((List UInt8))) (a0:Int):Option ((List UInt8)) :=
 cond ((decide (a0 < 10))) (Q7 (cond (decide (0≤a0)) (cond (Nat.ble a0.toNat (Qm (a0+1)).toNat) (Q22 (Qm (a0+1)) ([48,49,50,51,52,53,54,55,56,57]:List UInt8).length) false) false) (some (List.drop a0.toNat (List.take (Qm (a0+1)).toNat ([48,49,50,51,52,53,54,55,56,57]:List UInt8))))) (Option.bind (rc (Qm (Int.tdiv a0 10))) fun (x1:(List UInt8))=>Q7 (!(10==0)) (Option.bind (rc (Int.tmod a0 10)) fun (x2:(List UInt8))=>Q7 (Nat.ble (x1.length+x2.length) 1000000000) (some (x1++x2))))
def m68r:Int→Option ((List UInt8)):=Jv (fun rc v=>m68s rc v) Qd
def Qpk (a0:Int):Option ((List UInt8)):=m68r a0
def m70 (a0:Int):Option ((List UInt8)) :=
 Option.bind (cond ((decide (a0 < 4))) (some true) (some (decide (11 < a0)))) fun (v1:Bool)=>cond v1 (some ([]:List UInt8)) (Option.bind (J0 ([([97,112,112]:List UInt8),([108,97,109]:List UInt8),([112,105]:List UInt8),([115,105,103,109,97]:List UInt8),([112,97,105,114]:List UInt8),([102,115,116]:List UInt8),([115,110,100]:List UInt8),([108,101,116]:List UInt8)]:List ((List UInt8))) (Qm (a0 - 4))) fun (x2:(List UInt8))=>some x2)
def m32s (rc:Tm→Option ((List UInt8))) (a0:Tm):Option ((List UInt8)) :=
 cond ((a0.kind==0)) (Option.bind (Qpk a0.index) fun (x1:(List UInt8))=>Q7 (Nat.ble (([35]:List UInt8).length+x1.length) 1000000000) (some (([35]:List UInt8)++x1))) (cond ((a0.kind==12)) (Option.bind (Qpk a0.index) fun (x2:(List UInt8))=>Q7 (Nat.ble (([63]:List UInt8).length+x2.length) 1000000000) (some (([63]:List UInt8)++x2))) (cond ((a0.kind==1)) (some ([112,114,111,112]:List UInt8)) (cond ((a0.kind==2)) (Option.bind (J0 a0.levels 0) fun (x3:Lvl)=>Option.bind (Qpj x3) fun (x4:(List UInt8)×Int)=>Q7 (Nat.ble (([40,115,111,114,116,32,91]:List UInt8).length+x4.1.length) 1000000000) (Q7 (Nat.ble ((([40,115,111,114,116,32,91]:List UInt8)++x4.1).length+([93,41]:List UInt8).length) 1000000000) (some ((([40,115,111,114,116,32,91]:List UInt8)++x4.1)++([93,41]:List UInt8))))) (cond ((a0.kind==3)) (Option.bind (cond (((a0.levels.length:Int)==0)) (some (!(a0.name==([112,114,111,112]:List UInt8)))) (some false)) fun (v5:Bool)=>cond v5 (some a0.name) (Q7 (Nat.ble (([40,99,111,110,115,116,32]:List UInt8).length+a0.name.length) 1000000000) (Option.bind (Q9 (σ:=(List UInt8)×Int) (β:=(List UInt8)) (fun s10=>cond ((decide (s10.2 < (a0.levels.length:Int)))) (Option.bind (J0 a0.levels s10.2) fun (x12:Lvl)=>Option.bind (Qpj x12) fun (x13:(List UInt8)×Int)=>Q7 (Nat.ble (([32,91]:List UInt8).length+x13.1.length) 1000000000) (Q7 (Nat.ble ((([32,91]:List UInt8)++x13.1).length+([93]:List UInt8).length) 1000000000) (Q7 (Nat.ble (s10.1.length+((([32,91]:List UInt8)++x13.1)++([93]:List UInt8)).length) 1000000000) (some (.next ((s10.1++((([32,91]:List UInt8)++x13.1)++([93]:List UInt8))),(Qm (s10.2+1)))))))) (some (.done s10.1))) Qd ((([40,99,111,110,115,116,32]:List UInt8)++a0.name),0)) fun (v11:(List UInt8))=>Q7 (Nat.ble (v11.length+([41]:List UInt8).length) 1000000000) (some (v11++([41]:List UInt8)))))) (Option.bind (m70 a0.kind) fun (x14:(List UInt8))=>Q7 (Nat.ble (([40]:List UInt8).length+x14.length) 1000000000) (Option.bind (Q9 (σ:=(List UInt8)×Int) (β:=(List UInt8)) (fun s19=>cond ((decide (s19.2 < (a0.kids.length:Int)))) (Option.bind (J0 a0.kids s19.2) fun (x21:Tm)=>Option.bind (rc x21) fun (x22:(List UInt8))=>Q7 (Nat.ble (([32]:List UInt8).length+x22.length) 1000000000) (Q7 (Nat.ble (s19.1.length+(([32]:List UInt8)++x22).length) 1000000000) (some (.next ((s19.1++(([32]:List UInt8)++x22)),(Qm (s19.2+1))))))) (some (.done s19.1))) Qd ((([40]:List UInt8)++x14),0)) fun (v20:(List UInt8))=>Q7 (Nat.ble (v20.length+([41]:List UInt8).length) 1000000000) (some (v20++([41]:List UInt8)))))))))
def m32r:Tm→Option ((List UInt8)):=Jv (fun rc v=>m32s rc v) Qd
def m32 (a0:Tm):Option ((List UInt8)):=m32r a0
def m14 (a0:Tm):Option ((List UInt8)×Int) :=
 Option.bind (Qo6 a0 1000000 1000000 1000000 1000000) fun (x1:Int)=>cond ((x1 != 0)) (some (([]:List UInt8),x1)) (Option.bind (m32 a0) fun (x2:(List UInt8))=>cond ((decide (65536 < (x2.length:Int)))) (some (([]:List UInt8),5)) (some (x2,0)))
end
noncomputable section
open Go.RowKit Go.Shelf
theorem Kx {σ β:Type} {step:σ→Option (LO σ β)} (I:σ→Prop) (μ:σ→Nat) (spec:σ→β)
  (h:∀ s,I s→(step s=some (.done (spec s)))∨(∃ s',step s=some (.next s')∧I s'∧μ s' < μ s∧spec s'=spec s)):∀ (n:Nat) (s:σ),I s→μ s < n→Q9 step n s=some (spec s)
 | 0,_,_,h0=>absurd h0 (Ss _)
 | n+1,s,hs,hn=>by
  rcases h s hs with h1 | ⟨s',h1,h2,h3,h4⟩
  ·simp only [Q9,h1]
  ·simp only [Q9,h1]
   rw [Kx I μ spec h n s' h2 (by omega),h4]
theorem Q2h {α:Type} {l:List α} {i:Int} {x:α} (h0:0≤i) (hx:l[i.toNat]?=some x):J0 l i=some x:=by
 obtain ⟨k,rfl⟩:=Sh h0
 simpa [J0] using hx
theorem Qa6 {k n:Nat} (h:k < n) (hn:n≤1000000000):Qm ((k:Int)+1)=((k+1:Nat):Int):=by rw [Y4 (by omega) (by omega)];rfl
theorem w64_neg {n:Int} (h:-65536≤n∧n≤7):Qm (-1 - n) = -1 - n:=Y4 (by omega) (by omega)
def Qoy (v:Qrf):Prop:=-65536≤v.1∧v.1≤7∧0≤v.2∧v.2≤100
theorem Kr {l:Lvl} (h:Q5f l) {x:Qrf} (hx:x∈l.vs):Qoy x:=by
 obtain ⟨a,b,e⟩:=List.append_of_mem hx
 have:=h.2.2.2 a x b e
 unfold Q3p at this
 simp only [not_or,Int.not_lt] at this
 exact ⟨this.1,this.2.1,this.2.2.1,this.2.2.2.1⟩
theorem Qkj {l:Lvl} (h:Q5f l) (hn:l.vs.length≤900000000):∀ (k:Nat) (x:Qrf),l.vs[k]?=some x→-65536+(k:Int)≤x.1
 | 0,x,hx=>by have:=(Kr h (Cs hx)).1;omega
 | k+1,x,hx=>by
  obtain ⟨hk,e⟩:=Cg.1 hx
  obtain ⟨y,hy⟩:∃ y,l.vs[k]?=some y:=⟨_,Cp (by omega)⟩
  have ih:=Qkj h hn k y hy
  have e1:l.vs=l.vs.take (k+1)++x::l.vs.drop (k+2):=by
   conv=>lhs;rw [← Sm (k+1) l.vs,PE hk,e]
  have h1:=h.2.2.2 _ _ _ e1
  unfold Q3p at h1
  simp only [not_or] at h1
  have hl:(l.vs.take (k+1)).length=k+1:=by rw [CR];omega
  rw [hl] at h1
  have h2:=h1.2.2.2.2
  by_cases hc:x.1≤y.1
  ·refine (h2 ⟨by omega,y,?_,hc⟩).elim
   rw [Y4 (by omega) (by omega),show ((k+1:Nat):Int) - 1=(k:Int) by omega]
   exact hy
  ·omega
theorem asc_len {l:Lvl} (h:Q5f l) (hn:l.vs.length≤900000000):l.vs.length≤65544:=by
 rcases SA l.vs.length with h0 | h0
 ·omega
 ·obtain ⟨x,hx⟩:∃ x,l.vs[l.vs.length - 1]?=some x:=⟨_,Cp (by omega)⟩
  have h1:=Qkj h hn _ x hx
  have h2:=(Kr h (Cs hx)).2.1
  omega
abbrev Q24 (n:Nat):Qrl:=Lib.decDigits n
theorem Qk7 {n:Nat} (h:n < 10):Q24 n=[UInt8.ofNat (48+n)]:=by unfold Q24 Lib.decDigits;rw [dif_pos h]
theorem dec_ge {n:Nat} (h:¬ n < 10):Q24 n=Q24 (n / 10)++[UInt8.ofNat (48+n % 10)]:=by
 show Lib.decDigits n=_
 rw [Lib.decDigits,dif_neg h]
theorem Q9l:∀ (k n:Nat),n < 10 ^ (k+1)→(Q24 n).length≤k+1
 | 0,n,h=>by rw [Qk7 (by omega)];exact Ck _
 | k+1,n,h=>by
  by_cases h1:n < 10
  ·rw [Qk7 h1];exact Nat.succ_le_succ (Co _)
  ·rw [dec_ge h1,C7]
   have:=Q9l k (n / 10) (by rw [Nat.pow_succ] at h;omega)
   simp;omega
def Qf6 (p:Int):Qrl:=if 0 < p then [32,43,32]++Q24 p.toNat else []
def Qct (c:UInt8) (n:Nat) (p:Int):Qrl:=c::(Q24 n++Qf6 p)
def Q59 (x:Qrf):Qrl:=if 0≤x.1 then Qct 117 x.1.toNat x.2 else Qct 63 (-1 - x.1).toNat x.2
def Q33:List Qrl→Qrl
 | []=>[]
 | [x]=>x
 | x::y::r=>x++([44,32]++Q33 (y::r))
theorem Qw {α:Type} {b:Bool} {x:Option α} (h:b=true):Q7 b x=x:=by unfold Q7;rw [h];rfl
theorem Qgc {a:Int} (h0:0≤a):Lib.itoa a=Q24 a.toNat:=by unfold Lib.itoa;rw [C5 (by omega)]
theorem Kz {a:Int} (h1:a < 1000000):(Q24 a.toNat).length≤6:=Q9l 5 _ (by omega)
theorem Qdc {a:Int} (h0:0≤a) (h1:a < 1000000):Qj4 a=some (Q24 a.toNat):=by
 unfold Qj4
 rw [Qw (by rw [C9 (by omega),C9 (by omega)];rfl),Qgc h0]
theorem Qfo {c:UInt8} {a p:Int} (h0:0≤a) (h1:a < 1000000) (p0:0≤p) (p1:p≤100):Qdj [c] a p=some (Qct c a.toNat p):=by
 have la:=Kz h1
 have lp:=Kz (a:=p) (by omega)
 unfold Qdj Qct Qf6
 rw [Qdc h0 h1,C1]
 rw [Qw (Cb (by simp only [C2,Cc];omega))]
 by_cases hp:0 < p
 ·rw [C9 hp,C6,Cd hp,Qdc p0 (by omega),C1]
  rw [Qw (Cb (by simp only [C2,Cc];omega)),Qw (Cb (by simp only [C7,C2,Cc];omega))]
  simp
 ·rw [C8 hp,Ce,C5 hp]
  simp
theorem varX_pos {x:Qrf} (h:0≤x.1):Q59 x=Qct 117 x.1.toNat x.2:=by unfold Q59;rw [Cd h]
theorem varX_neg {x:Qrf} (h:x.1 < 0):Q59 x=Qct 63 (-1 - x.1).toNat x.2:=by unfold Q59;rw [C5 (by omega)]
abbrev Q89 (vs:List Qrf):List Qrl:=(vs.filter fun x=>decide (0≤x.1)).map Q59
abbrev Q8j (vs:List Qrf):List Qrl:=(vs.filter fun x=>decide (x.1 < 0)).map Q59
theorem posV_cons (x:Qrf) (vs:List Qrf):Q89 (x::vs)=(if 0≤x.1 then [Q59 x] else [])++Q89 vs:=by
 unfold Q89
 rw [CE]
 by_cases h:0≤x.1
 ·rw [Cd (C9 h),Cd h];rfl
 ·rw [C5 (by simpa using h),C5 h];rfl
theorem negV_cons (x:Qrf) (vs:List Qrf):Q8j (x::vs)=(if x.1 < 0 then [Q59 x] else [])++Q8j vs:=by
 unfold Q8j
 rw [CE]
 by_cases h:x.1 < 0
 ·rw [Cd (C9 h),Cd h];rfl
 ·rw [C5 (by simpa using h),C5 h];rfl
theorem Q9k {α:Type} {l:List α} {k:Nat} {x:α} (h:l[k]?=some x):l.drop k=x::l.drop (k+1):=by
 obtain ⟨hk,e⟩:=Cg.1 h
 rw [PE hk,e]
theorem take_at {α:Type} {l:List α} {k:Nat} {x:α} (h:l[k]?=some x):(l.take (k+1)).reverse=x::(l.take k).reverse:=by
 obtain ⟨hk,e⟩:=Cg.1 h
 rw [SF,h,List.reverse_append]
 rfl
def Qow (a0:Lvl):(Int×(List ((List UInt8))))→Option (LO (Int×(List ((List UInt8)))) ((List ((List UInt8))))):=(fun s12=>cond ((decide (s12.1 < (a0.vs.length:Int)))) (Option.bind (J0 a0.vs s12.1) fun (x14:Qrf)=>cond ((decide (0≤x14.1))) (Option.bind (Qdj ([117]:List UInt8) x14.1 x14.2) fun (x15:(List UInt8))=>Q7 (Nat.ble (s12.2.length+([x15]:List ((List UInt8))).length) 1000000000) (some (.next ((Qm (s12.1+1)),(s12.2++([x15]:List ((List UInt8)))))))) (some (.next ((Qm (s12.1+1)),s12.2)))) (some (.done s12.2)))
def Qov (a0:Lvl):(Int×(List ((List UInt8))))→Option (LO (Int×(List ((List UInt8)))) ((List ((List UInt8))))):=(fun s31=>cond ((decide (0≤s31.1))) (Option.bind (Option.bind (J0 a0.vs s31.1) fun (x36:Qrf)=>cond ((decide (x36.1 < 0))) (Option.bind (Qdj ([63]:List UInt8) (Qm ((-1) - x36.1)) x36.2) fun (x37:(List UInt8))=>Q7 (Nat.ble (s31.2.length+([x37]:List ((List UInt8))).length) 1000000000) (some (s31.2++([x37]:List ((List UInt8)))))) (some s31.2)) fun (v35:(List ((List UInt8))))=>some (.next ((Qm (s31.1 - 1)),v35))) (some (.done s31.2)))
section
variable {l:Lvl} (hv:Q5f l) (hl:l.vs.length≤65544)
include hv hl
theorem text_l0 (k:Nat) (acc:List Qrl) (hk:k≤l.vs.length) (ha:acc.length≤20+k):Q9 (Qow l) Qd ((k:Int),acc)=some (acc++Q89 (l.vs.drop k)):=by
 refine (Kx (step:=Qow l) (fun s=>∃ j:Nat,s.1=(j:Int)∧j≤l.vs.length∧s.2.length≤20+j) (fun s=>l.vs.length - s.1.toNat) (fun s=>s.2++Q89 (l.vs.drop s.1.toNat)) ?_ Qd ((k:Int),acc) ⟨k,rfl,hk,ha⟩ ?_).trans (by rw [CN])
 ·rintro ⟨i,ac⟩ ⟨j,rfl,hj,hb⟩
  dsimp only at hb ⊢
  rw [CN]
  by_cases hlt:j < l.vs.length
  ·refine .inr ?_
   obtain ⟨x,hx⟩:∃ x,l.vs[j]?=some x:=⟨_,Cp hlt⟩
   have ok:=Kr hv (Cs hx)
   obtain ⟨o1,o2,o3,o4⟩:=ok
   unfold Qow
   rw [C9 (by omega:(j:Int) < l.vs.length),C6,Q2h (PT _) (by simpa using hx),C1,Qa6 hlt (by omega),Q9k hx,posV_cons]
   by_cases h0:0≤x.1
   ·rw [C9 h0,C6,Qfo h0 (by omega) o3 o4,C1,Qw (Cb (by simp only [C2,Cc];omega)),Cd h0,varX_pos h0]
    exact ⟨_,rfl,⟨j+1,rfl,hlt,by simp only [C7,C2,Cc];omega⟩,by simp only [CN];omega,by simp only [CN];simp⟩
   ·rw [C8 h0,Ce,C5 h0]
    exact ⟨_,rfl,⟨j+1,rfl,hlt,by dsimp only;omega⟩,by simp only [CN];omega,by simp only [CN];simp⟩
  ·refine .inl ?_
   unfold Qow
   rw [C8 (by omega),Ce,Sl (by omega)]
   simp
 ·simp only [CN];unfold Qd;omega
theorem text_l1 (acc:List Qrl) (ha:acc.length≤100000):Q9 (Qov l) Qd ((l.vs.length:Int) - 1,acc)=some (acc++Q8j l.vs.reverse):=by
 refine (Kx (step:=Qov l) (fun s=>∃ j:Nat,s.1=(j:Int) - 1∧j≤l.vs.length∧s.2.length+j≤200000) (fun s=>(s.1+1).toNat) (fun s=>s.2++Q8j (l.vs.take (s.1+1).toNat).reverse) ?_ Qd ((l.vs.length:Int) - 1,acc) ⟨l.vs.length,rfl,Ck _,by dsimp only;omega⟩ ?_).trans (by
  rw [show ((l.vs.length:Int) - 1+1).toNat=l.vs.length by omega,List.take_length])
 ·rintro ⟨i,ac⟩ ⟨j,rfl,hj,hb⟩
  dsimp only at hb ⊢
  rw [show ((j:Int) - 1+1).toNat=j by omega]
  cases j with
  | zero =>
   refine .inl ?_
   unfold Qov
   rw [C8 (by dsimp only;omega),Ce]
   simp
  | succ k =>
   refine .inr ?_
   rw [show ((k+1:Nat):Int) - 1=(k:Int) by omega]
   obtain ⟨x,hx⟩:∃ x,l.vs[k]?=some x:=⟨_,Cp (by omega)⟩
   have ok:=Kr hv (Cs hx)
   obtain ⟨o1,o2,o3,o4⟩:=ok
   unfold Qov
   dsimp only
   rw [C9 (by omega:(0:Int)≤(k:Int)),C6,Q2h (PT _) (by simpa using hx),C1,Y4 (n:=(k:Int) - 1) (by omega) (by omega),take_at hx,negV_cons]
   by_cases h0:x.1 < 0
   ·rw [C9 h0,C6,w64_neg ⟨o1,o2⟩,Qfo (by omega) (by omega) o3 o4,C1,Qw (Cb (by simp only [C2,Cc];omega)),C1,Cd h0,varX_neg h0]
    exact ⟨_,rfl,⟨k,rfl,by omega,by simp only [C7,C2,Cc];omega⟩,by dsimp only;omega,by
     dsimp only;rw [show ((k:Int) - 1+1).toNat=k by omega];simp⟩
   ·rw [C8 h0,Ce,C1,C5 h0]
    exact ⟨_,rfl,⟨k,rfl,by omega,by dsimp only;omega⟩,by dsimp only;omega,by
     dsimp only;rw [show ((k:Int) - 1+1).toNat=k by omega];simp⟩
 ·dsimp only;unfold Qd;omega
end
def Qbv (r:List Qrl):Qrl:=(r.map ([44,32]++·)).flatten
theorem DT (x:Qrl):∀ r:List Qrl,Q33 (x::r)=x++Qbv r
 | []=>by simp [Q33,Qbv]
 | y::r=>by
  have:=DT y r
  simp only [Q33] at this ⊢
  rw [this]
  simp [Qbv]
theorem sepT_join (r:List Qrl):Lib.join r [44,32]=Q33 r:=by
 cases r with
 | nil=>rfl
 | cons x r=>rw [DT,Lib.join_cons];rfl
theorem Q71:∀ (r:List Qrl),(∀ x∈r,x.length≤16)→(Qbv r).length≤18 * r.length
 | [],h=>Co _
 | x::r,h=>by
  have:=Q71 r fun y hy=>h y (Ch _ hy)
  have hx:=h x Ci
  unfold Qbv at this ⊢
  simp only [CF,PJ,C7,C2,Cc] at this ⊢
  omega
theorem Qeu (r:List Qrl) (h:∀ x∈r,x.length≤16):(Q33 r).length≤18 * r.length:=by
 cases r with
 | nil=>exact Co _
 | cons x r =>
  rw [DT,C7]
  have:=Q71 r fun y hy=>h y (Ch _ hy)
  have:=h x Ci
  simp only [C2];omega
def Yo (l:Lvl):List Qrl:=(if 0 < l.c∨l.vs=[] then [Q24 l.c.toNat] else [])++Q89 l.vs++Q8j l.vs.reverse
theorem Qel {x:Qrf} (h:Qoy x):(Q59 x).length≤16:=by
 obtain ⟨h1,h2,h3,h4⟩:=h
 have hp:(Qf6 x.2).length≤9:=by
  unfold Qf6
  split
  ·have:=Kz (a:=x.2) (by omega)
   simp only [C7,C2,Cc];omega
  ·exact Co _
 unfold Q59 Qct
 split
 ·have:=Kz (a:=x.1) (by omega)
  simp only [C2,C7];omega
 ·have:=Kz (a:=-1 - x.1) (by omega)
  simp only [C2,C7];omega
theorem Qau {l:Lvl} (h:Q5f l):∀ x∈Yo l,x.length≤16:=by
 intro x hx
 unfold Yo Q89 Q8j at hx
 rcases CQ.1 hx with hx | hx
 ·rcases CQ.1 hx with hx | hx
  ·split at hx
   ·rw [CG.1 hx]
    have:=Kz (a:=l.c) (by have:=h.2.1;omega)
    omega
   ·cases hx
  ·obtain ⟨y,hy,rfl⟩:=Cw.1 hx
   exact Qel (Kr h (PI.1 hy).1)
 ·obtain ⟨y,hy,rfl⟩:=Cw.1 hx
  exact Qel (Kr h (List.mem_reverse.1 (PI.1 hy).1))
theorem Q60 (l:Lvl):(Yo l).length≤2 * l.vs.length+1:=by
 unfold Yo Q89 Q8j
 have h1:=S0 (fun x:Qrf=>decide (0≤x.1)) l.vs
 have h2:=S0 (fun x:Qrf=>decide (x.1 < 0)) l.vs.reverse
 rw [Pq] at h2
 simp only [C7,Cm]
 split <;> simp only [C2,Cc] <;> omega
def Qeo (l:Lvl):Qrl:=if (Yo l).length=1 then Q33 (Yo l) else [109,97,120,40]++Q33 (Yo l)++[41]
theorem Q11 (l:Lvl):Qeo l=(if (Yo l).length=1 then Q33 (Yo l) else [109,97,120,40]++Q33 (Yo l)++[41]):=rfl
theorem Q5p {l:Lvl} (h:Q5f l):(Qeo l).length≤36 * l.vs.length+23:=by
 rw [Q11]
 have h1:=Qeu _ (Qau h)
 have h2:=Q60 l
 split
 ·omega
 ·simp only [C7,C2,Cc];omega
theorem first_parts (l:Lvl):(cond (decide (0 < l.c)) (some true) (some ((l.vs.length:Int)==0)))=some (decide (0 < l.c∨l.vs=[])):=by
 by_cases h0:0 < l.c
 ·rw [C9 h0,C6,C9 (.inl h0)]
 ·rw [C8 h0,Ce]
  cases hl:l.vs with
  | nil=>simp
  | cons x r=>simp [h0];omega
theorem one_get {o:List Qrl} (h:o.length=1):J0 o 0=some (Q33 o):=by
 match o,h with
 | [x],_=>rfl
theorem Jp {α β:Type} {x:Option α} {k:α→Option β} (a:α) (h:x=some a) {r:Option β} (h2:k a=r):Option.bind x k=r:=by rw [h];exact h2
theorem m114_eq {l:Lvl} (hv:Q5f l) (hn:l.vs.length≤900000000):Qld l=some (Qeo l,0):=by
 have hl:=asc_len hv hn
 obtain ⟨b,hb1,hb2⟩:=Q8t l hn
 have hb:b=true:=hb2.2 hv
 subst hb
 have hc:0≤l.c∧l.c≤100:=⟨hv.1,hv.2.1⟩
 unfold Qld
 rw [hb1]
 refine Jp _ (first_parts l) ?_
 have l0:(if 0 < l.c∨l.vs=[] then [Q24 l.c.toNat] else []).length≤1:=by split <;> simp
 refine Jp (if 0 < l.c∨l.vs=[] then [Q24 l.c.toNat] else []) ?_ ?_
 ·by_cases h:0 < l.c∨l.vs=[]
  ·rw [C9 h,C6,Cd h,Qdc hc.1 (by omega)];rfl
  ·rw [C8 h,Ce,C5 h]
 refine Jp _ (text_l0 hv hl 0 _ (Co _) (by omega)) ?_
 rw [PB]
 have l1:=S0 (fun x:Qrf=>decide (0≤x.1)) l.vs
 rw [Y4 (by omega) (by omega)]
 refine Jp _ (text_l1 hv hl _ (by rw [C7,Cm];omega)) ?_
 have ep:(if 0 < l.c∨l.vs=[] then [Q24 l.c.toNat] else [])++Q89 l.vs++Q8j l.vs.reverse=Yo l:=rfl
 rw [ep]
 have h16:=Qau hv
 have hn:=Q60 l
 have hs:=Qeu _ h16
 rw [Q11]
 by_cases h1:(Yo l).length=1
 ·rw [Cd h1,show (((Yo l).length:Int)==1)=true by rw [h1];rfl,C6,one_get h1,C1]
 ·rw [C5 h1,show (((Yo l).length:Int)==1)=false by rw [CJ];omega,Ce]
  unfold Qo9
  rw [sepT_join,Qw (by rw [Cb (by omega),Cb (by omega)];rfl),C1,Qw (Cb (by simp only [C2,Cc];omega)),Qw (Cb (by simp only [C7,C2,Cc];omega))]
end
noncomputable section
open Go.RowKit Go.Shelf
abbrev Qra (α:Type):=(α×Nat)⊕Nat
def J7 {α β:Type} (r:Qra α) (f:α→Nat→Qra β):Qra β:=match r with
 | .inl (v,m)=>f v m
 | .inr m=>.inr m
def ix {α:Type}:Qra α→Nat
 | .inl (_,m)=>m
 | .inr m=>m+1
structure PG {α:Type} (p:(Nat→Qrl)→Nat→Qra α):Prop where
 mono:∀ X k,k < ix (p X k)
 rng:∀ X N k,(∀ j,X j ≠ []→j+1 < N)→k < N→(∀ v m,p X k=.inl (v,m)→m < N)∧∀ m,p X k=.inr m→m < N
 dep:∀ X X' k,(∀ j,j < ix (p X k)→X j=X' j)→p X' k=p X k
theorem Qm4 {α β:Type} {r:Qra α} {f:α→Nat→Qra β} (h:∀ v m,r=.inl (v,m)→m < ix (f v m)):ix r≤ix (J7 r f):=by
 rcases r with ⟨v,m⟩ | m
 ·exact Nat.le_of_lt (h v m rfl)
 ·exact Ck _
theorem PG.bind {α β:Type} {p:(Nat→Qrl)→Nat→Qra α} {f:α→(Nat→Qrl)→Nat→Qra β} (hp:PG p) (hf:∀ v,PG (f v)):PG (fun X k=>J7 (p X k) fun v m=>f v X m) where
 mono X k:=by
  have h:=hp.mono X k
  have:=Qm4 (r:=p X k) (f:=fun v m=>f v X m) fun v m _=>(hf v).mono X m
  exact Cj h this
 rng X N k hX hk:=by
  have h:=hp.rng X N k hX hk
  show (∀ v m,J7 (p X k) _=_→_)∧∀ m,J7 (p X k) _=_→_
  cases hr:p X k with
  | inl r =>
   obtain ⟨v,m⟩:=r
   exact (hf v).rng X N m hX (h.1 v m hr)
  | inr m=>exact ⟨fun v m e=>(by cases e),fun m' e=>(by cases e;exact h.2 m hr)⟩
 dep X X' k hX:=by
  have h1:ix (p X k)≤ix (J7 (p X k) fun v m=>f v X m):=Qm4 fun v m _=>(hf v).mono X m
  have h2:=hp.dep X X' k fun j hj=>hX j (Cj hj h1)
  show J7 (p X' k) _=J7 (p X k) _
  rw [h2]
  cases hr:p X k with
  | inl r =>
   obtain ⟨v,m⟩:=r
   refine (hf v).dep X X' m fun j hj=>hX j ?_
   show j < ix (J7 (p X k) fun v m=>f v X m)
   rw [hr];exact hj
  | inr m=>rfl
theorem PG.map {α β:Type} {p:(Nat→Qrl)→Nat→Qra α} (hp:PG p) (g:α→β):PG (fun X k=>J7 (p X k) fun v m=>.inl (g v,m)) where
 mono X k:=by
  have h:=hp.mono X k
  show k < ix (J7 (p X k) _)
  cases hr:p X k with
  | inl r=>rw [hr] at h;exact h
  | inr m=>rw [hr] at h;exact h
 rng X N k hX hk:=by
  have h:=hp.rng X N k hX hk
  show (∀ v m,J7 (p X k) _=_→_)∧∀ m,J7 (p X k) _=_→_
  cases hr:p X k with
  | inl r =>
   obtain ⟨v,m⟩:=r
   exact ⟨fun v' m' e=>(by cases e;exact h.1 v m hr),fun m' e=>(by cases e)⟩
  | inr m=>exact ⟨fun v m e=>(by cases e),fun m' e=>(by cases e;exact h.2 m hr)⟩
 dep X X' k hX:=by
  have h1:ix (p X k)=ix (J7 (p X k) fun v m=>(.inl (g v,m):Qra β)):=by
   cases p X k with
   | inl r=>rfl
   | inr m=>rfl
  have h2:=hp.dep X X' k fun j hj=>hX j (h1▸hj)
  show J7 (p X' k) _=J7 (p X k) _
  rw [h2]
def G3 {α:Type} (c:Qrl→Option α) (s:Qrl) (k:Nat):Qra α:=match c s with
 | some v=>.inl (v,k+1)
 | none=>.inr k
theorem Kq {α:Type} {c:Qrl→Option α} {s:Qrl} {k:Nat} {v:α} (h:c s=some v):G3 c s k=.inl (v,k+1):=by unfold G3;rw [h]
theorem GD {α:Type} {c:Qrl→Option α} {s:Qrl} {k:Nat} (h:c s=none):G3 c s k=.inr k:=by unfold G3;rw [h]
theorem PG.one {α:Type} (c:Qrl→Option α) (hc:c []=none):PG (fun X k=>G3 c (X k) k) where
 mono X k:=by
  show k < ix (G3 c (X k) k)
  cases h:c (X k) with
  | some v=>rw [Kq h];exact Ct k
  | none=>rw [GD h];exact Ct k
 rng X N k hX hk:=by
  show (∀ v m,G3 c (X k) k=_→_)∧∀ m,G3 c (X k) k=_→_
  cases hr:c (X k) with
  | some v=>rw [Kq hr];exact ⟨fun v m e=>(by cases e;exact hX k fun e=>(by rw [e,hc] at hr;cases hr)),fun m e=>(by cases e)⟩
  | none=>rw [GD hr];exact ⟨fun v m e=>(by cases e),fun m e=>(by cases e;exact hk)⟩
 dep X X' k hX:=by
  have:X k=X' k:=hX k (by
   show k < ix (G3 c (X k) k)
   cases h:c (X k) with
   | some v=>rw [Kq h];exact Ct k
   | none=>rw [GD h];exact Ct k)
  show G3 c (X' k) k=G3 c (X k) k
  rw [this]
theorem PG.look {α:Type} (c:Qrl→Bool) {p q:(Nat→Qrl)→Nat→Qra α} (hp:PG p) (hq:PG q):PG (fun X k=>if c (X k)=true then p X k else q X k) where
 mono X k:=by
  show k < ix (if c (X k)=true then p X k else q X k)
  split
  ·exact hp.mono X k
  ·exact hq.mono X k
 rng X N k hX hk:=by
  show (∀ v m,(if c (X k)=true then p X k else q X k)=_→_)∧∀ m,(if c (X k)=true then p X k else q X k)=_→_
  split
  ·exact hp.rng X N k hX hk
  ·exact hq.rng X N k hX hk
 dep X X' k hX:=by
  have hX':∀ j,j < ix (if c (X k)=true then p X k else q X k)→X j=X' j:=hX
  show (if c (X' k)=true then p X' k else q X' k)=(if c (X k)=true then p X k else q X k)
  by_cases h:c (X k)=true
  ·rw [Cd h] at hX'
   rw [← hX' k (hp.mono X k),Cd h,Cd h]
   exact hp.dep X X' k hX'
  ·rw [C5 h] at hX'
   rw [← hX' k (hq.mono X k),C5 h,C5 h]
   exact hq.dep X X' k hX'
theorem PG.step {α:Type} (c:Qrl→Bool) (hc:c []=false) {p q:(Nat→Qrl)→Nat→Qra α} (hp:PG p) (hq:PG q):PG (fun X k=>if c (X k)=true then p X (k+1) else q X k) where
 mono X k:=by
  show k < ix (if c (X k)=true then p X (k+1) else q X k)
  split
  ·exact SO (Ct k) (hp.mono X (k+1))
  ·exact hq.mono X k
 rng X N k hX hk:=by
  show (∀ v m,(if c (X k)=true then p X (k+1) else q X k)=_→_)∧∀ m,(if c (X k)=true then p X (k+1) else q X k)=_→_
  split
  ·rename_i h
   exact hp.rng X N (k+1) hX (hX k fun e=>(by rw [e,hc] at h;cases h))
  ·exact hq.rng X N k hX hk
 dep X X' k hX:=by
  have hX':∀ j,j < ix (if c (X k)=true then p X (k+1) else q X k)→X j=X' j:=hX
  show (if c (X' k)=true then p X' (k+1) else q X' k)=(if c (X k)=true then p X (k+1) else q X k)
  by_cases h:c (X k)=true
  ·rw [Cd h] at hX'
   rw [← hX' k (SO (Ct k) (hp.mono X (k+1))),Cd h,Cd h]
   exact hp.dep X X' (k+1) hX'
  ·rw [C5 h] at hX'
   rw [← hX' k (hq.mono X k),C5 h,C5 h]
   exact hq.dep X X' k hX'
theorem PG.refuse {α:Type}:PG (α:=α) (fun _ k=>.inr k) where
 mono X k:=Ct k
 rng X N k hX hk:=⟨fun v m e=>(by cases e),fun m e=>(by cases e;exact hk)⟩
 dep X X' k hX:=rfl
variable (lv:Qrl→Lvl×Int)
def Qh1 (w s:Qrl):Option Unit:=if s=w then some () else none
def XU (w:Qrl) (X:Nat→Qrl) (k:Nat):Qra Unit:=G3 (Qh1 w) (X k) k
def Q7f (s:Qrl):Option Qrl:=if YZ s=true then some s else none
def pName (X:Nat→Qrl) (k:Nat):Qra Qrl:=G3 Q7f (X k) k
def KK (s:Qrl):Int×Bool:=(Q21 s).getD (0,false)
def Dh (s:Qrl):Qrl:=(s.take (s.length - 1)).drop 1
def Qkc (s:Qrl):Option Lvl:=if Lib.hasPrefix s [91]=true then (if (lv (Dh s)).2=0 then some (lv (Dh s)).1 else none) else none
def Q1y (X:Nat→Qrl) (k:Nat):Qra Lvl:=G3 (Qkc lv) (X k) k
def Qcc (s:Qrl):Option Tm:=match s with
 | []=>none
 | c::r=>if s=[112,114,111,112] then some (Tm.mk 1 0 [] [] []) else if c=35 then some (Tm.mk 0 (KK r).1 [] [] []) else if c=63 then some (Tm.mk 12 (KK r).1 [] [] []) else if YZ s=true then some (Tm.mk 3 0 s [] []) else none
def pAtom (X:Nat→Qrl) (k:Nat):Qra Tm:=G3 Qcc (X k) k
def ZY:Nat→(Nat→Qrl)→Nat→Qra (List Lvl)
 | 0,_,k=>.inr k
 | f+1,X,k=>if (X k==[41])=true then .inl ([],k+1) else J7 (Q1y lv X k) fun l m=>J7 (ZY f X m) fun ls m'=>.inl (l::ls,m')
def U1 (rc:(Nat→Qrl)→Nat→Qra Tm):Nat→(Nat→Qrl)→Nat→Qra (List Tm)
 | 0,X,k=>J7 (XU [41] X k) fun _ m=>.inl ([],m)
 | c+1,X,k=>J7 (rc X k) fun t m=>J7 (U1 rc c X m) fun ts m'=>.inl (t::ts,m')
def wordsW:List Qrl:=[[97,112,112],[108,97,109],[112,105],[115,105,103,109,97],[112,97,105,114],[102,115,116],[115,110,100],[108,101,116]]
def KN (h:Qrl):Int×Int→Option (LO (Int×Int) Int):=(fun s40=>cond ((decide (s40.1 < 8))) (Option.bind (J0 ([([97,112,112]:List UInt8),([108,97,109]:List UInt8),([112,105]:List UInt8),([115,105,103,109,97]:List UInt8),([112,97,105,114]:List UInt8),([102,115,116]:List UInt8),([115,110,100]:List UInt8),([108,101,116]:List UInt8)]:List (List UInt8)) s40.1) fun (x42:List UInt8)=>Option.bind (cond ((x42==h)) (some (Qm (4+s40.1))) (some s40.2)) fun (v43:Int)=>some (.next ((Qm (s40.1+1)),v43))) (some (.done s40.2)))
def Jx (h:Qrl):Int:=(Q9 (KN h) Qd (0,0)).getD 0
def Da (k:Int):Nat:=if k=8∨k=11 then 3 else if k=9∨k=10 then 1 else 2
def Qfb (X:Nat→Qrl) (k:Nat):Qra Tm:=J7 (Q1y lv X k) fun l m=>J7 (XU [41] X m) fun _ m'=>.inl (Tm.mk 2 0 [] [l] [],m')
def Q8c (X:Nat→Qrl) (k:Nat):Qra Tm:=J7 (pName X k) fun nm m=>J7 (ZY lv 1000000 X m) fun ls m'=>.inl (Tm.mk 3 0 nm ls [],m')
def Q62 (rc:(Nat→Qrl)→Nat→Qra Tm) (kd:Int) (X:Nat→Qrl) (k:Nat):Qra Tm:=J7 (U1 rc (Da kd) X k) fun ts m=>.inl (Tm.mk kd 0 [] [] ts,m)
def Q3b (rc:(Nat→Qrl)→Nat→Qra Tm) (X:Nat→Qrl) (k:Nat):Qra Tm :=
 if (X k==[115,111,114,116])=true then Qfb lv X (k+1) else if (X k==[99,111,110,115,116])=true then Q8c lv X (k+1) else
  if Jx (X k)=0 then .inr k else Q62 rc (Jx (X k)) X (k+1)
def Qq6:Nat→(Nat→Qrl)→Nat→Qra Tm
 | 0,_,k=>.inr k
 | n+1,X,k=>if (X k==[40])=true then Q3b lv (Qq6 n) X (k+1) else pAtom X k
theorem Qbn:Jx []=0:=by kernel_rfl
theorem Qb0 {w:Qrl} (hw:w ≠ []):PG (XU w):=PG.one (Qh1 w) (C5 fun h=>hw h.symm)
theorem name_nil:YZ []=false:=by kernel_rfl
theorem pName_ok:PG pName:=PG.one Q7f (C5 (by rw [name_nil];intro h;cases h))
theorem D4:PG (Q1y lv):=PG.one (Qkc lv) (C5 (by decide))
theorem pAtom_ok:PG pAtom:=PG.one Qcc rfl
theorem pClose_ok {α:Type} (v:α):PG (fun X k=>(if (X k==[41])=true then (.inl (v,k+1):Qra α) else .inr k)):=by
 have h:=PG.one (α:=α) (fun s=>if s=[41] then some v else none) (C5 (by decide))
 have e:(fun (X:Nat→Qrl) k=>(if (X k==[41])=true then (.inl (v,k+1):Qra α) else .inr k))=fun X k=>G3 (fun s=>if s=[41] then some v else none) (X k) k:=by
  funext X k
  by_cases h:X k=[41]
  ·rw [Cd (CV.2 h),Kq (Cd h)]
  ·rw [C5 (fun e=>h (CV.1 e)),GD (C5 h)]
 rw [e];exact h
theorem Qb2:∀ f,PG (ZY lv f)
 | 0=>PG.refuse
 | f+1=>by
  have h1:PG (fun X k=>J7 (Q1y lv X k) fun l m=>J7 (ZY lv f X m) fun ls m'=>.inl (l::ls,m')) :=
   (D4 lv).bind (f:=fun l X m=>J7 (ZY lv f X m) fun ls m'=>.inl (l::ls,m')) fun l=>(Qb2 f).map (l::·)
  have h2:=PG.look (fun s=>s==[41]) (pClose_ok ([]:List Lvl)) h1
  have e:ZY lv (f+1)=fun X k=>if (X k==[41])=true then (if (X k==[41])=true then (.inl ([],k+1):Qra (List Lvl)) else .inr k) else J7 (Q1y lv X k) fun l m=>J7 (ZY lv f X m) fun ls m'=>.inl (l::ls,m'):=by
   funext X k
   show (if (X k==[41])=true then _ else _)=_
   by_cases h:(X k==[41])=true
   ·rw [Cd h,Cd h,Cd h]
   ·rw [C5 h,C5 h]
  rw [e];exact h2
theorem Qb3 {rc:(Nat→Qrl)→Nat→Qra Tm} (h:PG rc):∀ c,PG (U1 rc c)
 | 0=>(Qb0 (by decide)).map fun _=>[]
 | c+1=>h.bind (f:=fun t X m=>J7 (U1 rc c X m) fun ts m'=>.inl (t::ts,m')) fun t=>(Qb3 h c).map (t::·)
theorem pSort_ok:PG (Qfb lv):=(D4 lv).bind (f:=fun l X m=>J7 (XU [41] X m) fun _ m'=>.inl (Tm.mk 2 0 [] [l] [],m')) fun l=>(Qb0 (by decide)).map fun _=>Tm.mk 2 0 [] [l] []
theorem pConst_ok:PG (Q8c lv):=pName_ok.bind (f:=fun nm X m=>J7 (ZY lv 1000000 X m) fun ls m'=>.inl (Tm.mk 3 0 nm ls [],m')) fun nm=>(Qb2 lv 1000000).map fun ls=>Tm.mk 3 0 nm ls []
theorem pForm_ok {rc:(Nat→Qrl)→Nat→Qra Tm} (h:PG rc) (kd:Int):PG (Q62 rc kd):=(Qb3 h (Da kd)).map fun ts=>Tm.mk kd 0 [] [] ts
theorem PG.next {α:Type} (c:Qrl→Bool) (hc:c []=false) {p:Qrl→(Nat→Qrl)→Nat→Qra α} (hp:∀ s,PG (p s)):PG (fun X k=>if c (X k)=true then p (X k) X (k+1) else .inr k) where
 mono X k:=by
  show k < ix (if c (X k)=true then p (X k) X (k+1) else .inr k)
  split
  ·exact SO (Ct k) ((hp _).mono X (k+1))
  ·exact Ct k
 rng X N k hX hk:=by
  show (∀ v m,(if c (X k)=true then p (X k) X (k+1) else .inr k)=_→_)∧∀ m,(if c (X k)=true then p (X k) X (k+1) else .inr k)=_→_
  split
  ·rename_i h
   exact (hp _).rng X N (k+1) hX (hX k fun e=>(by rw [e,hc] at h;cases h))
  ·exact ⟨fun v m e=>(by cases e),fun m e=>(by cases e;exact hk)⟩
 dep X X' k hX:=by
  have hX':∀ j,j < ix (if c (X k)=true then p (X k) X (k+1) else .inr k)→X j=X' j:=hX
  have e:X k=X' k:=hX' k (by
   split
   ·exact SO (Ct k) ((hp _).mono X (k+1))
   ·exact Ct k)
  show (if c (X' k)=true then p (X' k) X' (k+1) else .inr k)=(if c (X k)=true then p (X k) X (k+1) else .inr k)
  rw [← e]
  by_cases h:c (X k)=true
  ·rw [Cd h] at hX'
   rw [Cd h,Cd h]
   exact (hp _).dep X X' (k+1) hX'
  ·rw [C5 h,C5 h]
theorem pHead_form (rc:(Nat→Qrl)→Nat→Qra Tm):Q3b lv rc=fun X k=>if (X k==[115,111,114,116])=true then Qfb lv X (k+1) else if (X k==[99,111,110,115,116])=true then Q8c lv X (k+1) else
   if (Jx (X k) != 0)=true then Q62 rc (Jx (X k)) X (k+1) else .inr k:=by
 funext X k
 unfold Q3b
 have:(if Jx (X k)=0 then (.inr k:Qra Tm) else Q62 rc (Jx (X k)) X (k+1))=if (Jx (X k) != 0)=true then Q62 rc (Jx (X k)) X (k+1) else .inr k:=by
  by_cases h:Jx (X k)=0
  ·rw [Cd h,C5 (by rw [h];decide)]
  ·rw [C5 h,Cd (by simpa using h)]
 rw [this]
theorem pHead_ok {rc:(Nat→Qrl)→Nat→Qra Tm} (h:PG rc):PG (Q3b lv rc):=by
 have h1:=PG.next (fun s=>Jx s != 0) (by rw [Qbn];rfl) (p:=fun s=>Q62 rc (Jx s)) fun s=>pForm_ok h _
 have h2:=PG.step (fun s=>s==[99,111,110,115,116]) rfl (pConst_ok lv) h1
 have h3:=PG.step (fun s=>s==[115,111,114,116]) rfl (pSort_ok lv) h2
 rw [pHead_form];exact h3
theorem Qb1:∀ n,PG (Qq6 lv n)
 | 0=>PG.refuse
 | n+1=>PG.step (fun s=>s==[40]) rfl (pHead_ok lv (Qb1 n)) pAtom_ok
end
noncomputable section
open Go.RowKit Go.Shelf
theorem U7:∀ (s:Qrl) (acc:Nat),(∀ b∈s,48≤b.toNat∧b.toNat≤57)→∃ n,Lib.decFrom acc s=some n
 | [],acc,_=>⟨_,rfl⟩
 | b::s,acc,h=>by
  have hd:Lib.digitVal b=some (b.toNat - 48):=by unfold Lib.digitVal;rw [Cd (h b Ci)]
  obtain ⟨n,hn⟩:=U7 s (acc * 10+(b.toNat - 48)) fun c hc=>h c (Ch _ hc)
  exact ⟨n,by unfold Lib.decFrom;rw [hd];exact hn⟩
theorem atoi_some {s:Qrl} (h:s ≠ []) (hd:∀ b∈s,48≤b.toNat∧b.toNat≤57):∃ n,Lib.atoi s=some n:=by
 cases s with
 | nil=>exact absurd rfl h
 | cons b s =>
  have hb:=hd b Ci
  have h1:(b==45)=false:=by
   cases hc:(b==45) with
   | false=>rfl
   | true=>have:=eq_of_beq hc;subst this;exact absurd hb.1 (by decide)
  have h2:(b==43)=false:=by
   cases hc:(b==43) with
   | false=>rfl
   | true=>have:=eq_of_beq hc;subst this;exact absurd hb.1 (by decide)
  obtain ⟨n,hn⟩:=U7 (b::s) 0 hd
  refine ⟨(n:Int),?_⟩
  unfold Lib.atoi
  dsimp only
  rw [h1,h2,C5 Cn,C5 Cn]
  unfold Lib.decNat
  rw [show (b::s).isEmpty=false from rfl,C5 Cn,hn]
  rfl
theorem Dt {p:UInt8→Bool} {s:Qrl} (h:s.dropWhile p=[]):∀ b∈s,p b=true:=by
 have e:=Cz (p:=p) (l:=s)
 rw [h,Cy] at e
 intro b hb
 rw [← e] at hb
 exact Cf.1 (SD (p:=p) (l:=s)) b hb
abbrev digits:Qrl:=[48,49,50,51,52,53,54,55,56,57]
theorem digits_mem {b:UInt8} (h:digits.contains b=true):48≤b.toNat∧b.toNat≤57:=by
 have:b∈digits:=by simpa using h
 simp only [digits,Cq,List.not_mem_nil,or_false] at this
 rcases this with rfl | rfl | rfl | rfl | rfl | rfl | rfl | rfl | rfl | rfl <;> decide
theorem trim_nil {s:Qrl} (h:Lib.trimS s digits=[]):∀ b∈s,48≤b.toNat∧b.toNat≤57:=by
 intro b hb
 unfold Lib.trimS Lib.trimLeftS Lib.trimRightS at h
 have h1:=Dt h
 by_cases hc:digits.contains b=true
 ·exact digits_mem hc
 ·exfalso
  cases hr:s.reverse.dropWhile (digits.contains ·) with
  | nil=>exact hc (Dt hr b (List.mem_reverse.2 hb))
  | cons c r =>
   have h2:digits.contains c=false:=by
    have:=List.head?_dropWhile_not (digits.contains ·) s.reverse
    rw [hr] at this
    simpa using this
   have h4:=h1 c (List.mem_reverse.2 (by rw [hr];exact Ci))
   rw [h2] at h4;cases h4
theorem Q03 (s:Qrl) (h:s.length≤100000):Q21 s=some (KK s):=by
 have key:∃ r,Q21 s=some r:=by
  unfold Q21
  cases h6:decide (6 < (s.length:Int)) with
  | true=>exact ⟨_,rfl⟩
  | false =>
   cases h0:(s==([]:List UInt8)) with
   | true=>exact ⟨_,rfl⟩
   | false =>
    have hm:Qlc s digits=some (Lib.trimS s digits):=by
     unfold Qlc
     refine Qw ?_
     rw [Cb (by omega)];rfl
    rw [show Qlc s ([48,49,50,51,52,53,54,55,56,57]:List UInt8)=some (Lib.trimS s digits) from hm]
    rw [Ce,Ce,C1]
    cases ht:(!(Lib.trimS s digits==([]:List UInt8))) with
    | true=>exact ⟨_,rfl⟩
    | false =>
     have ht':Lib.trimS s digits=[]:=by simpa using ht
     have hne:s ≠ []:=by intro e;rw [e] at h0;cases h0
     obtain ⟨n,hn⟩:=atoi_some hne (trim_nil ht')
     have hg:(cond (Nat.ble s.length 18) (Lib.atoi s).isSome false)=true:=by
      have:¬ 6 < (s.length:Int):=Sf h6
      rw [Cb (by omega),hn];rfl
     rw [Ce,hg]
     cases h1:decide (1 < (s.length:Int)) with
     | false=>exact ⟨_,rfl⟩
     | true =>
      rw [C6]
      obtain ⟨c,r,rfl⟩:=S7 hne
      rw [show J0 (c::r) 0=some c from rfl,C1,C1]
      cases ((c.toNat:Int)==48) <;> exact ⟨_,rfl⟩
 obtain ⟨r,hr⟩:=key
 unfold KK
 rw [hr];rfl
def J9 (L:List Tkn) (k:Nat):Qrl:=(L[k]?.map Tkn.text).getD []
def Q9q (L:List Tkn) (k:Nat):Int:=(L[k]?.map Tkn.at_).getD 0
structure GL (L:List Tkn):Prop where
 len:L.length≤100000
 last:∀ j,J9 L j ≠ []→j+1 < L.length
 short:∀ j,(J9 L j).length≤65536
 br:∀ j,Lib.hasPrefix (J9 L j) [91]=true→2≤(J9 L j).length
def Qqs {α:Type} (L:List Tkn):Qra α→(Rdr×α)⊕((Int×Int)×Rdr)
 | .inl (v,m)=>.inl (⟨L,(m:Int)⟩,v)
 | .inr m=>.inr ((4,Q9q L m),⟨L,(m:Int)⟩)
variable {L:List Tkn} {k:Nat} {lv:Qrl→Lvl×Int}
theorem Qki (hk:k < L.length):∃ x,L[k]?=some x∧J9 L k=x.text∧Q9q L k=x.at_ :=
 ⟨L[k],Cp hk,by unfold J9;rw [Cp hk];rfl,by unfold Q9q;rw [Cp hk];rfl⟩
theorem Um (hk:k < L.length):Qj1 ⟨L,(k:Int)⟩=some (.inl (⟨L,(k:Int)⟩,J9 L k)):=by
 obtain ⟨x,h1,h2,-⟩:=Qki hk
 unfold Qj1
 rw [show J0 L (k:Int)=some x from h1,h2];rfl
theorem WK {α β:Type} (a:α):Zw (some (.inl a:α⊕β))=some a:=rfl
theorem Qda (hk:k < L.length) (w:Qrl):Qnd ⟨L,(k:Int)⟩ w=some (.inl (⟨L,(k:Int)⟩,(J9 L k==w))):=by
 unfold Qnd;rw [Um hk];rfl
theorem Qft (hk:k < L.length):Qhg ⟨L,(k:Int)⟩=some (.inr ((4,Q9q L k),⟨L,(k:Int)⟩)):=by
 obtain ⟨x,h1,-,h2⟩:=Qki hk
 unfold Qhg
 rw [show J0 L (k:Int)=some x from h1,h2];rfl
theorem Q6c:Qbd ⟨L,(k:Int)⟩ true=some (.inl (⟨L,(k:Int)⟩,())):=rfl
theorem Q3h (hk:k < L.length):Qbd ⟨L,(k:Int)⟩ false=some (.inr ((4,Q9q L k),⟨L,(k:Int)⟩)):=by
 unfold Qbd
 rw [Qft hk];rfl
theorem Ql0 (h:GL L) (hk:k < L.length):Qm ((k:Int)+1)=((k+1:Nat):Int):=Gl (by have:=h.len;omega)
theorem Qd9 (h:GL L) (hk:k < L.length) (w:Qrl):Qiy ⟨L,(k:Int)⟩ w=some (Qqs L (XU w (J9 L) k)):=by
 unfold Qiy XU G3 Qh1
 rw [Um hk]
 show Option.bind (Qbd ⟨L,(k:Int)⟩ (J9 L k==w)) _=_
 by_cases hw:J9 L k=w
 ·rw [Cd hw,CV.2 hw,Q6c]
  show some (Sum.inl (Rdr.mk L (Qm ((k:Int)+1)),()))=_
  rw [Ql0 h hk];rfl
 ·rw [C5 hw,show (J9 L k==w)=false from CJ.2 hw,Q3h hk];rfl
theorem Qiz (h:GL L) (hk:k < L.length):Qmp ⟨L,(k:Int)⟩=some (Qqs L (pName (J9 L) k)):=by
 unfold Qmp pName G3 Q7f
 rw [Um hk]
 show Option.bind (Q05 (J9 L k)) _=_
 rw [Q8v _ (by have:=h.short k;omega)]
 show Option.bind (Qbd ⟨L,(k:Int)⟩ (YZ (J9 L k))) _=_
 cases hn:YZ (J9 L k) with
 | true =>
  rw [Q6c,Cd rfl]
  show some (Sum.inl (Rdr.mk L (Qm ((k:Int)+1)),J9 L k))=_
  rw [Ql0 h hk];rfl
 | false=>rw [Q3h hk,C5 Cn];rfl
theorem Qj0 (hl:∀ s:Qrl,s.length≤65536→Db s=some (lv s)) (h:GL L) (hk:k < L.length):Qmq ⟨L,(k:Int)⟩=some (Qqs L (Q1y lv (J9 L) k)):=by
 unfold Qmq Q1y G3 Qkc
 rw [Um hk,WK,C1]
 dsimp only
 rw [show Qoa (J9 L k) ([91]:List UInt8)=some (Lib.hasPrefix (J9 L k) [91]) from rfl,C1]
 cases hp:Lib.hasPrefix (J9 L k) [91] with
 | false=>rw [Q3h hk,C5 Cn];rfl
 | true =>
  have h1:=h.br k hp
  have h2:=h.short k
  have hw:Qm (((J9 L k).length:Int) - 1)=(((J9 L k).length - 1:Nat):Int):=by rw [Y4 (by omega) (by omega)];omega
  rw [Q6c,Cd rfl]
  show Q7 (cond (decide (0≤(1:Int))) (cond (Nat.ble (1:Int).toNat (Qm (((J9 L k).length:Int) - 1)).toNat) (Q22 (Qm (((J9 L k).length:Int) - 1)) (J9 L k).length) false) false) _=_
  rw [hw]
  have hg:(cond (decide (0≤(1:Int))) (cond (Nat.ble (1:Int).toNat (((J9 L k).length - 1:Nat):Int).toNat) (Q22 (((J9 L k).length - 1:Nat):Int) (J9 L k).length) false) false)=true:=by
   rw [show decide (0≤(1:Int))=true from rfl,C6,Cb (by show 1≤_;omega),C6]
   unfold Q22
   rw [C9 (by omega),C6]
   exact Cb (by omega)
  rw [Qw hg]
  have hs:Db (List.drop (1:Int).toNat (List.take (((J9 L k).length - 1:Nat):Int).toNat (J9 L k)))=some (lv (Dh (J9 L k))):=hl _ (by
   rw [Cu,CR];omega)
  rw [hs]
  show Option.bind (Qbd ⟨L,(k:Int)⟩ ((lv (Dh (J9 L k))).2==0)) _=_
  by_cases h0:(lv (Dh (J9 L k))).2=0
  ·rw [Cd h0,CV.2 h0,Q6c]
   show some (Sum.inl (Rdr.mk L (Qm ((k:Int)+1)),(lv (Dh (J9 L k))).1))=_
   rw [Ql0 h hk];rfl
  ·rw [C5 h0,show ((lv (Dh (J9 L k))).2==0)=false from CJ.2 h0,Q3h hk];rfl
theorem m73_eq (h:GL L) (hk:k < L.length):Qo2 ⟨L,(k:Int)⟩=some (Qqs L (pAtom (J9 L) k)):=by
 unfold Qo2 pAtom G3
 rw [Um hk,WK,C1]
 dsimp only
 have hsh:=h.short k
 have h76:=Qiz h hk
 unfold pName G3 Q7f at h76
 generalize hX:J9 L k=s at hsh h76 ⊢
 cases s with
 | nil =>
  show Option.bind (Option.bind (Qhg ⟨L,(k:Int)⟩) _) _=_
  rw [Qft hk];rfl
 | cons c r =>
  by_cases hp:c::r=[112,114,111,112]
  ·obtain ⟨rfl,rfl⟩:=Pj hp
   show some (Sum.inl (Rdr.mk L (Qm ((k:Int)+1)),Tm.mk 1 0 [] [] []))=_
   rw [Ql0 h hk];rfl
  ·have e1:((c::r)==([]:List UInt8))=false:=rfl
   have e2:((c::r)==([112,114,111,112]:List UInt8))=false:=CJ.2 hp
   have e3:J0 (c::r) 0=some c:=rfl
   have hbr:Q22 (1:Int) (c::r).length=true:=by
    show Nat.ble 1 (c::r).length=true
    exact Cb (by simp)
   have h125:Q21 (List.drop (1:Int).toNat (c::r))=some (KK r):=Q03 r (by have:(c::r).length=r.length+1:=rfl;omega)
   have c35:((c.toNat:Int)==35)=decide (c=35):=by
    rw [ZL]
    by_cases e:c=35
    ·subst e;rfl
    ·rw [C8 e,C8]
     intro h';exact e (Su.1 (by show c.toNat=35;omega))
   have c63:((c.toNat:Int)==63)=decide (c=63):=by
    rw [ZL]
    by_cases e:c=63
    ·subst e;rfl
    ·rw [C8 e,C8]
     intro h';exact e (Su.1 (by show c.toNat=63;omega))
   simp only [e1,e2,e3,Ce,C1,c35,c63,hbr,h125]
   unfold Qcc
   dsimp only
   rw [C5 hp]
   by_cases h35:c=35
   ·subst h35
    rw [Cd rfl]
    show some (Sum.inl (Rdr.mk L (Qm ((k:Int)+1)),Tm.mk 0 (KK r).1 [] [] []))=_
    rw [Ql0 h hk];rfl
   ·rw [C5 h35,C8 h35,Ce]
    by_cases h63:c=63
    ·subst h63
     rw [Cd rfl]
     show some (Sum.inl (Rdr.mk L (Qm ((k:Int)+1)),Tm.mk 12 (KK r).1 [] [] []))=_
     rw [Ql0 h hk];rfl
    ·rw [C5 h63,C8 h63]
     show Option.bind (Qmp ⟨L,(k:Int)⟩) _=_
     rw [h76]
     by_cases hn:YZ (c::r)=true
     ·rw [Cd hn,Cd hn];rfl
     ·rw [C5 hn,C5 hn];rfl
theorem kind_some (s:Qrl):Q9 (KN s) Qd (0,0)=some (Jx s):=by
 have key:∃ r,Q9 (KN s) Qd (0,0)=some r:=by
  obtain ⟨r,h,-⟩:=JN (step:=KN s) wordsW (fun i (x:Int)=>(i,x)) (fun _ _=>True) (fun _=>True) (by decide)
   (fun a x b st e _=>by
    have hl:a.length < 8:=by have:=congrArg List.length e;rw [C7,C2,show wordsW.length=8 from rfl] at this;omega
    refine .inr ⟨cond (x==s) (Qm (4+(a.length:Int))) st,?_,trivial⟩
    unfold KN
    dsimp only
    rw [C9 (by omega),C6]
    have:J0 wordsW (a.length:Int)=some x:=by rw [e];exact Yq a x b
    rw [show J0 ([([97,112,112]:List UInt8),([108,97,109]:List UInt8),([112,105]:List UInt8),([115,105,103,109,97]:List UInt8),([112,97,105,114]:List UInt8),([102,115,116]:List UInt8),([115,110,100]:List UInt8),([108,101,116]:List UInt8)]:List (List UInt8)) (a.length:Int)=some x from this,C1]
    cases (x==s) <;> rfl)
   (fun st _=>⟨st,by unfold KN;dsimp only;rw [show (wordsW.length:Int)=8 from rfl];rfl,trivial⟩) 0 trivial
  exact ⟨r,h⟩
 obtain ⟨r,hr⟩:=key
 unfold Jx
 rw [hr];rfl
end
noncomputable section
open Go.RowKit Go.Shelf
theorem m78_eq (a:Int):Qo1 a=some (Da a:Int):=by
 unfold Qo1 Da
 rw [ZL,ZL,ZL,ZL]
 by_cases h8:a=8
 ·subst h8;rfl
 ·by_cases h11:a=11
  ·subst h11;rfl
  ·rw [C8 h8,C8 h11,C5 (by omega)]
   by_cases h9:a=9
   ·subst h9;rfl
   ·by_cases h10:a=10
    ·subst h10;rfl
    ·rw [C8 h9,C8 h10,C5 (by omega)];rfl
abbrev Qlh:=(Rdr×Tm)⊕((Int×Int)×Rdr)
def Q4p:(List Tkn)×Int×(List Lvl)→Option (LO ((List Tkn)×Int×(List Lvl)) (((List Tkn)×Int×(List Lvl))⊕Qlh)):=(fun s25=>Option.bind (Zw (Qnd (Rdr.mk s25.1 s25.2.1) ([41]:List UInt8))) fun (r27:Rdr×Bool)=>cond ((!r27.2)) (Option.bind (Qmq r27.1) (Sum.elim (fun (r29:Rdr×Lvl)=>Q7 (Nat.ble (s25.2.2.length+([r29.2]:List Lvl).length) 1000000000) (some (.next (r29.1.l,r29.1.n,(s25.2.2++([r29.2]:List Lvl)))))) (fun (e30:(Int×Int)×Rdr)=>some (.done (.inr (.inr ((e30.1.1,e30.1.2),e30.2))))))) (some (.done (.inl (r27.1.l,r27.1.n,s25.2.2)))))
def cEnd (nm:Qrl):((List Tkn)×Int×(List Lvl))⊕Qlh→Option Qlh:=(Sum.elim (fun (v26:(List Tkn)×Int×(List Lvl))=>Option.bind (Qiy (Rdr.mk v26.1 v26.2.1) ([41]:List UInt8)) (Sum.elim (fun (r31:Rdr×Unit)=>some (.inl (r31.1,(Tm.mk 3 0 nm v26.2.2 ([]))))) (fun (e32:(Int×Int)×Rdr)=>some (.inr ((e32.1.1,e32.1.2),e32.2))))) (fun (o33:(Rdr×Tm)⊕((Int×Int)×Rdr))=>some o33))
def Q1e (rc:Rdr×Unit→Option Qlh) (x46:Int):Int×(List Tkn)×Int×(List Tm)→Option (LO (Int×(List Tkn)×Int×(List Tm)) (((List Tkn)×Int×(List Tm))⊕Qlh)):=(fun s53=>cond ((decide (s53.1 < x46))) (Option.bind (rc ((Rdr.mk s53.2.1 s53.2.2.1),())) (Sum.elim (fun (r55:Rdr×Tm)=>Q7 (Nat.ble (s53.2.2.2.length+([r55.2]:List Tm).length) 1000000000) (some (.next ((Qm (s53.1+1)),r55.1.l,r55.1.n,(s53.2.2.2++([r55.2]:List Tm)))))) (fun (e56:(Int×Int)×Rdr)=>some (.done (.inr (.inr ((e56.1.1,e56.1.2),e56.2))))))) (some (.done (.inl (s53.2.1,s53.2.2.1,s53.2.2.2)))))
def Qod (v41:Int):((List Tkn)×Int×(List Tm))⊕Qlh→Option Qlh:=(Sum.elim (fun (v54:(List Tkn)×Int×(List Tm))=>Option.bind (Qiy (Rdr.mk v54.1 v54.2.1) ([41]:List UInt8)) (Sum.elim (fun (r57:Rdr×Unit)=>some (.inl (r57.1,(Tm.mk v41 0 ([]:List UInt8) ([]) v54.2.2)))) (fun (e58:(Int×Int)×Rdr)=>some (.inr ((e58.1.1,e58.1.2),e58.2))))) (fun (o59:(Rdr×Tm)⊕((Int×Int)×Rdr))=>some o59))
theorem Qbf {σ β:Type} {step:σ→Option (LO σ β)} {n:Nat} {s s':σ} (h:step s=some (.next s')):Q9 step (n+1) s=Q9 step n s':=by simp only [Q9,h]
theorem Di {σ β:Type} {step:σ→Option (LO σ β)} {n:Nat} {s:σ} {r:β} (h:step s=some (.done r)):Q9 step (n+1) s=some r:=by simp only [Q9,h]
section
variable {L:List Tkn} {lv:Qrl→Lvl×Int}
theorem Q1d (hl:∀ s:Qrl,s.length≤65536→Db s=some (lv s)) (h:GL L) (nm:Qrl):∀ (f n k:Nat) (acc:List Lvl),L.length≤f+k→L.length≤n+k→k < L.length→acc.length≤k →
  Option.bind (Q9 Q4p n (L,(k:Int),acc)) (cEnd nm)=some (Qqs L (J7 (ZY lv f (J9 L) k) fun ls m=>.inl (Tm.mk 3 0 nm (acc++ls) [],m)))
 | 0,_,k,acc,h1,_,hk,_=>by omega
 | _+1,0,k,acc,_,h2,hk,_=>by omega
 | f+1,n+1,k,acc,h1,h2,hk,ha=>by
  unfold ZY
  have hlen:=h.len
  cases h41:(J9 L k==[41]) with
  | true =>
   have hst:Q4p (L,(k:Int),acc)=some (.done (.inl (L,(k:Int),acc))):=by
    unfold Q4p
    dsimp only
    rw [Qda hk,WK,C1,h41];rfl
   rw [Di hst,C1,Cd rfl]
   show Option.bind (Qiy ⟨L,(k:Int)⟩ [41]) _=_
   rw [Qd9 h hk]
   unfold XU
   rw [Kq (Cd (CV.1 h41))]
   show _=some (Qqs L (.inl (Tm.mk 3 0 nm (acc++[]) [],k+1)))
   rw [Cy];rfl
  | false =>
   rw [C5 Cn]
   have hst:Q4p (L,(k:Int),acc)=Option.bind (some (Qqs L (Q1y lv (J9 L) k))) (Sum.elim (fun (r29:Rdr×Lvl)=>Q7 (Nat.ble (acc.length+([r29.2]:List Lvl).length) 1000000000) (some (.next (r29.1.l,r29.1.n,(acc++([r29.2]:List Lvl)))))) (fun (e30:(Int×Int)×Rdr)=>some (.done (.inr (.inr ((e30.1.1,e30.1.2),e30.2)))))):=by
    unfold Q4p
    dsimp only
    rw [Qda hk,WK,C1,h41,show (!(((⟨L,(k:Int)⟩:Rdr),false):Rdr×Bool).2)=true from rfl,C6,Qj0 hl h hk]
   cases hr:Q1y lv (J9 L) k with
   | inr m =>
    rw [hr] at hst
    have hst':Q4p (L,(k:Int),acc)=some (.done (.inr (.inr ((4,Q9q L m),⟨L,(m:Int)⟩)))):=hst
    rw [Di hst'];rfl
   | inl r =>
    obtain ⟨l,m⟩:=r
    have hm:=((D4 lv).rng (J9 L) L.length k h.last hk).1 l m hr
    have hm2:=(D4 lv).mono (J9 L) k
    rw [hr] at hm2 hst
    have hm3:k < m:=hm2
    have hst':Q4p (L,(k:Int),acc)=Q7 (Nat.ble (acc.length+1) 1000000000) (some (.next (L,(m:Int),acc++[l]))):=hst
    rw [Wg (by omega)] at hst'
    rw [Qbf hst']
    show _=some (Qqs L (J7 (J7 (ZY lv f (J9 L) m) fun ls m'=>.inl (l::ls,m')) fun ls m=>.inl (Tm.mk 3 0 nm (acc++ls) [],m)))
    rw [Q1d hl h nm f n m (acc++[l]) (by omega) (by omega) hm (by rw [C7];simp only [C2,Cc];omega)]
    cases ZY lv f (J9 L) m with
    | inl r =>
     obtain ⟨ls,m'⟩:=r
     show some (Qqs L (.inl (Tm.mk 3 0 nm ((acc++[l])++ls) [],m')))=some (Qqs L (.inl (Tm.mk 3 0 nm (acc++l::ls) [],m')))
     rw [CB];rfl
    | inr m=>rfl
theorem Q6t (h:GL L) {rc:Rdr×Unit→Option Qlh} {rcS:(Nat→Qrl)→Nat→Qra Tm} (hS:PG rcS) (k0:Nat) (hrc:∀ m,k0≤m→m < L.length→rc (⟨L,(m:Int)⟩,())=some (Qqs L (rcS (J9 L) m))) (kd:Int) (x:Nat) (hx:x≤3):∀ (c n i k:Nat) (acc:List Tm),i+c=x→c < n→k0≤k→k < L.length→acc.length≤k →
  Option.bind (Q9 (Q1e rc (x:Int)) n ((i:Int),L,(k:Int),acc)) (Qod kd)=some (Qqs L (J7 (U1 rcS c (J9 L) k) fun ts m=>.inl (Tm.mk kd 0 [] [] (acc++ts),m)))
 | _,0,i,k,acc,_,hn,_,_,_=>by omega
 | 0,n+1,i,k,acc,hi,_,hk0,hk,ha=>by
  have hst:Q1e rc (x:Int) ((i:Int),L,(k:Int),acc)=some (.done (.inl (L,(k:Int),acc))):=by
   unfold Q1e
   dsimp only
   rw [C8 (by omega),Ce]
  rw [Di hst,C1]
  show Option.bind (Qiy ⟨L,(k:Int)⟩ [41]) _=_
  rw [Qd9 h hk]
  unfold U1
  cases XU [41] (J9 L) k with
  | inl r =>
   obtain ⟨v,m⟩:=r
   show _=some (Qqs L (.inl (Tm.mk kd 0 [] [] (acc++[]),m)))
   rw [Cy];rfl
  | inr m=>rfl
 | c+1,n+1,i,k,acc,hi,hn,hk0,hk,ha=>by
  have hlen:=h.len
  have hst:Q1e rc (x:Int) ((i:Int),L,(k:Int),acc)=Option.bind (some (Qqs L (rcS (J9 L) k))) (Sum.elim (fun (r55:Rdr×Tm)=>Q7 (Nat.ble (acc.length+([r55.2]:List Tm).length) 1000000000) (some (.next ((Qm ((i:Int)+1)),r55.1.l,r55.1.n,(acc++([r55.2]:List Tm)))))) (fun (e56:(Int×Int)×Rdr)=>some (.done (.inr (.inr ((e56.1.1,e56.1.2),e56.2)))))):=by
   unfold Q1e
   dsimp only
   rw [C9 (by omega),C6,hrc k hk0 hk]
  unfold U1
  cases hr:rcS (J9 L) k with
  | inr m =>
   rw [hr] at hst
   have hst':Q1e rc (x:Int) ((i:Int),L,(k:Int),acc)=some (.done (.inr (.inr ((4,Q9q L m),⟨L,(m:Int)⟩)))):=hst
   rw [Di hst'];rfl
  | inl r =>
   obtain ⟨t,m⟩:=r
   have hm:=(hS.rng (J9 L) L.length k h.last hk).1 t m hr
   have hm2:=hS.mono (J9 L) k
   rw [hr] at hm2 hst
   have hm3:k < m:=hm2
   have hst':Q1e rc (x:Int) ((i:Int),L,(k:Int),acc)=Q7 (Nat.ble (acc.length+1) 1000000000) (some (.next ((Qm ((i:Int)+1)),L,(m:Int),acc++[t]))):=hst
   rw [Wg (by omega),Gl (by omega)] at hst'
   rw [Qbf hst']
   show _=some (Qqs L (J7 (J7 (U1 rcS c (J9 L) m) fun ts m'=>.inl (t::ts,m')) fun ts m=>.inl (Tm.mk kd 0 [] [] (acc++ts),m)))
   rw [Q6t h hS k0 hrc kd x hx c n (i+1) m (acc++[t]) (by omega) (by omega) (by omega) hm (by rw [C7];simp only [C2,Cc];omega)]
   cases U1 rcS c (J9 L) m with
   | inl r =>
    obtain ⟨ts,m'⟩:=r
    show some (Qqs L (.inl (Tm.mk kd 0 [] [] ((acc++[t])++ts),m')))=some (Qqs L (.inl (Tm.mk kd 0 [] [] (acc++t::ts),m')))
    rw [CB];rfl
   | inr m=>rfl
theorem DZ {s w:Qrl} (h:(s==w)=true) (hw:w ≠ []):s ≠ []:=fun e=>by
 rw [e] at h
 exact hw (CV.1 h).symm
theorem m36s_eq (hl:∀ s:Qrl,s.length≤65536→Db s=some (lv s)) (h:GL L) {rc:Rdr×Unit→Option Qlh} {rcS:(Nat→Qrl)→Nat→Qra Tm} (hS:PG rcS) {k:Nat} (hk:k < L.length)
  (hrc:∀ m,k < m→m < L.length→rc (⟨L,(m:Int)⟩,())=some (Qqs L (rcS (J9 L) m))) :
  Qj6 rc ⟨L,(k:Int)⟩=some (Qqs L (if (J9 L k==[40])=true then Q3b lv rcS (J9 L) (k+1) else pAtom (J9 L) k)):=by
 have hlen:=h.len
 unfold Qj6
 rw [Qda hk]
 show cond (!(J9 L k==[40])) _ _=_
 cases h40:(J9 L k==[40]) with
 | false =>
  rw [C5 Cn]
  show Option.bind (Qo2 ⟨L,(k:Int)⟩) _=_
  rw [m73_eq h hk]
  cases pAtom (J9 L) k with
  | inl r=>rfl
  | inr m=>rfl
 | true =>
  have hk1:k+1 < L.length:=h.last k (DZ h40 (by decide))
  rw [Cd rfl]
  show Option.bind (Zw (Qj1 (Rdr.mk L (Qm ((k:Int)+1))))) _=_
  rw [Ql0 h hk,Um hk1]
  unfold Q3b
  show cond (J9 L (k+1)==[115,111,114,116]) _ _=_
  cases hs:(J9 L (k+1)==[115,111,114,116]) with
  | true =>
   have hk2:k+1+1 < L.length:=h.last (k+1) (DZ hs (by decide))
   rw [Cd rfl,C6]
   show Option.bind (Qmq (Rdr.mk L (Qm (((k+1:Nat):Int)+1)))) _=_
   rw [Ql0 h hk1,Qj0 hl h hk2]
   unfold Qfb
   cases hr:Q1y lv (J9 L) (k+1+1) with
   | inr m=>rfl
   | inl r =>
    obtain ⟨l,m⟩:=r
    have hm:=((D4 lv).rng (J9 L) L.length _ h.last hk2).1 l m hr
    show Option.bind (Qiy ⟨L,(m:Int)⟩ [41]) _=some (Qqs L (J7 (XU [41] (J9 L) m) _))
    rw [Qd9 h hm]
    cases XU [41] (J9 L) m with
    | inl r=>rfl
    | inr m=>rfl
  | false =>
   rw [C5 Cn,Ce]
   show cond (J9 L (k+1)==[99,111,110,115,116]) _ _=_
   cases hc:(J9 L (k+1)==[99,111,110,115,116]) with
   | true =>
    have hk2:k+1+1 < L.length:=h.last (k+1) (DZ hc (by decide))
    rw [Cd rfl,C6]
    show Option.bind (Qmp (Rdr.mk L (Qm (((k+1:Nat):Int)+1)))) _=_
    rw [Ql0 h hk1,Qiz h hk2]
    unfold Q8c
    cases hr:pName (J9 L) (k+1+1) with
    | inr m=>rfl
    | inl r =>
     obtain ⟨nm,m⟩:=r
     have hm:=(pName_ok.rng (J9 L) L.length _ h.last hk2).1 nm m hr
     have key:=Q1d hl h nm 1000000 Qd m [] (by omega) (by unfold Qd;omega) hm (Co _)
     exact key
   | false =>
    rw [C5 Cn,Ce]
    show Option.bind (Q9 (KN (J9 L (k+1))) Qd (0,0)) _=_
    rw [kind_some,C1]
    show Option.bind (Qbd ⟨L,((k+1:Nat):Int)⟩ (Jx (J9 L (k+1)) != 0)) _=_
    by_cases h0:Jx (J9 L (k+1))=0
    ·rw [Cd h0,h0,show ((0:Int) != 0)=false from rfl,Q3h hk1];rfl
    ·have hk2:k+1+1 < L.length:=h.last (k+1) fun e=>h0 (by rw [e];exact Qbn)
     rw [C5 h0,show (Jx (J9 L (k+1)) != 0)=true from by simpa using h0,Q6c]
     show Option.bind (Qo1 (Jx (J9 L (k+1)))) _=_
     rw [m78_eq,C1]
     show Option.bind (Q9 (Q1e rc (Da (Jx (J9 L (k+1))):Int)) Qd (0,L,Qm (((k+1:Nat):Int)+1),[])) (Qod (Jx (J9 L (k+1))))=_
     rw [Ql0 h hk1]
     have hn3:Da (Jx (J9 L (k+1)))≤3:=by unfold Da;split <;> (try split) <;> omega
     have key:=Q6t h hS (k+1+1) (fun m h1 h2=>hrc m (by omega) h2) (Jx (J9 L (k+1))) (Da (Jx (J9 L (k+1)))) hn3 (Da (Jx (J9 L (k+1)))) Qd 0 (k+1+1) [] (by omega) (by unfold Qd;omega) (Ck _) hk2 (Co _)
     exact key
theorem Qac (hl:∀ s:Qrl,s.length≤65536→Db s=some (lv s)) (h:GL L):∀ (n k:Nat),L.length≤n+k→k < L.length→Jv (fun rc v=>Qj6 rc v.1) n (⟨L,(k:Int)⟩,())=some (Qqs L (Qq6 lv n (J9 L) k))
 | 0,k,h1,hk=>by omega
 | n+1,k,h1,hk=>m36s_eq hl h (Qb1 lv n) hk fun m hkm hm=>Qac hl h n m (by omega) hm
theorem m36_eq (hl:∀ s:Qrl,s.length≤65536→Db s=some (lv s)) (h:GL L) (h0:0 < L.length):Qp2 ⟨L,0⟩=some (Qqs L (Qq6 lv Qd (J9 L) 0)) :=
 Qac hl h Qd 0 (by have:=h.len;unfold Qd;omega) h0
theorem m37_eq {k:Nat} (hk:k < L.length) (s:Qrl):Qo5 ⟨L,(k:Int)⟩ s=some (if J9 L k=[]∧Q9q L k=(s.length:Int) then .inl (⟨L,(k:Int)⟩,()) else .inr ((4,Q9q L k),⟨L,(k:Int)⟩)):=by
 obtain ⟨x,h1,h2,h3⟩:=Qki hk
 unfold Qo5
 rw [Um hk]
 show Option.bind (cond (J9 L k==([]:List UInt8)) _ _) _=_
 by_cases h0:J9 L k=[]
 ·rw [CV.2 h0,C6]
  show Option.bind (Option.bind (J0 L (k:Int)) _) _=_
  rw [show J0 L (k:Int)=some x from h1,C1]
  show Option.bind (Option.bind (Qbd ⟨L,(k:Int)⟩ (x.at_==(s.length:Int))) _) _=_
  rw [← h3]
  by_cases ha:Q9q L k=(s.length:Int)
  ·rw [Cd ⟨h0,ha⟩,CV.2 ha,Q6c];rfl
  ·rw [C5 (fun e=>ha e.2),show (Q9q L k==(s.length:Int))=false from CJ.2 ha,Q3h hk];rfl
 ·rw [show (J9 L k==([]:List UInt8))=false from CJ.2 h0,Ce,C5 (fun e=>h0 e.1)]
  show Option.bind (Option.bind (Qbd ⟨L,(k:Int)⟩ false) _) _=_
  rw [Q3h hk];rfl
end
end
noncomputable section
open Go.RowKit Go.Shelf
theorem Gz {p:UInt8→Bool} (s:Qrl):(s.takeWhile p).length≤s.length:=by
 have:=congrArg List.length (Cz (p:=p) (l:=s))
 rw [C7] at this;omega
theorem Q2u {p:UInt8→Bool} (s:Qrl):s.drop (s.takeWhile p).length=s.dropWhile p:=by
 conv=>lhs;rw [← Cz (p:=p) (l:=s)]
 have h:((s.takeWhile p++s.dropWhile p).takeWhile p).length=(s.takeWhile p).length:=by rw [Cz]
 rw [h,List.drop_left']
 rfl
theorem Q3q (s:Qrl) (p:UInt8→Bool) {step:Int→Option (LO Int Int)} (hlen:s.length≤900000000)
  (h1:∀ (k:Nat) b,s[k]?=some b→step (k:Int)=some (cond (p b) (.next (Qm ((k:Int)+1))) (.done (k:Int)))) (h2:step (s.length:Int)=some (.done (s.length:Int))) :
  ∀ k:Nat,k≤s.length→Q9 step Qd (k:Int)=some ((k+((s.drop k).takeWhile p).length:Nat):Int):=by
 intro k hk
 have key:=Kx (step:=step) (fun i=>0≤i∧i.toNat≤s.length) (fun i=>s.length - i.toNat) (fun i=>((i.toNat+((s.drop i.toNat).takeWhile p).length:Nat):Int)) (fun i hi=>by
  obtain ⟨n,rfl⟩:=Sh hi.1
  have hi2:n≤s.length:=hi.2
  rcases P1 n s.length with hlt | hge
  ·have hb:s[n]?=some s[n]:=Cp hlt
   have e:=h1 n _ hb
   have hd:s.drop n=s[n]::s.drop (n+1):=PE hlt
   cases hp:p s[n] with
   | true =>
    rw [hp,C6,Gl (by omega)] at e
    refine .inr ⟨((n+1:Nat):Int),e,⟨by omega,by show n+1≤_;omega⟩,by show s.length - (n+1) < s.length - n;omega,?_⟩
    show ((n+1+((s.drop (n+1)).takeWhile p).length:Nat):Int)=((n+((s.drop n).takeWhile p).length:Nat):Int)
    rw [hd,P8,Cd hp,C2];omega
   | false =>
    rw [hp,Ce] at e
    refine .inl ?_
    rw [e]
    show some (LO.done (n:Int))=some (LO.done ((n+((s.drop n).takeWhile p).length:Nat):Int))
    rw [hd,P8,C5 (by rw [hp];exact Cn)];rfl
  ·have:n=s.length:=by omega
   subst this
   refine .inl ?_
   rw [h2]
   show some (LO.done (s.length:Int))=some (LO.done ((s.length+((s.drop s.length).takeWhile p).length:Nat):Int))
   rw [List.drop_length];rfl) Qd (k:Int) ⟨by omega,hk⟩ (by show s.length - k < Qd;unfold Qd;omega)
 exact key
def Qhk (c:Int):Bool:=(decide (97≤c)&&decide (c≤122))||(decide (65≤c)&&decide (c≤90))||(decide (48≤c)&&decide (c≤57))||(c==95)||(c==39)||(c==46)
def inW (b:UInt8):Bool:=Qhk (b.toNat:Int)
theorem Qfm (c:Int):Qj9 c=some (Qhk c):=by
 unfold Qj9 Qhk
 cases decide (97≤c) <;> cases decide (c≤122) <;> cases decide (65≤c) <;> cases decide (c≤90) <;> cases decide (48≤c) <;> cases decide (c≤57) <;> cases (c==95) <;> cases (c==39) <;> rfl
theorem Qfn (s:Qrl) (hs:s.length≤900000000) {k:Nat} (hk:k≤s.length):Qja s (k:Int)=some ((k+((s.drop k).takeWhile inW).length:Nat):Int):=by
 unfold Qja
 rw [Q3q s inW hs (fun j b hb=>?_) ?_ k hk]
 ·rfl
 ·rw [Jn];rfl
 ·rw [C9 (by have:=(Cg.1 hb).1;omega),C6,show J0 s (j:Int)=some b from hb,C1,Qfm]
  show cond (Qhk (b.toNat:Int)) _ _=some (cond (Qhk (b.toNat:Int)) _ _)
  cases Qhk (b.toNat:Int) <;> rfl
def QA:Qrl→Nat
 | []=>0
 | c::r=>if c=40∨c=41 then 1 else
   if c=91 then (if ((c::r).takeWhile (· != 93)).length < (c::r).length then ((c::r).takeWhile (· != 93)).length+1 else 0) else
    if c=35∨c=63 then (if (KK (r.takeWhile inW)).2=true then 1+(r.takeWhile inW).length else 0) else
     if inW c=true then (if (KK ((c::r).takeWhile inW)).2=true∨c.toNat < 48∨57 < c.toNat then ((c::r).takeWhile inW).length else 0) else 0
theorem Yt (c:UInt8) (r:Qrl):QA (c::r)=if c=40∨c=41 then 1 else
   if c=91 then (if ((c::r).takeWhile (· != 93)).length < (c::r).length then ((c::r).takeWhile (· != 93)).length+1 else 0) else
    if c=35∨c=63 then (if (KK (r.takeWhile inW)).2=true then 1+(r.takeWhile inW).length else 0) else
     if inW c=true then (if (KK ((c::r).takeWhile inW)).2=true∨c.toNat < 48∨57 < c.toNat then ((c::r).takeWhile inW).length else 0) else 0:=rfl
theorem Zb (s:Qrl):QA s≤s.length:=by
 cases s with
 | nil=>exact Ck _
 | cons c r =>
  have h1:=Gz (p:=inW) r
  have h2:=Gz (p:=inW) (c::r)
  rw [Yt]
  rw [C2] at *
  split
  ·omega
  ·split
   ·split <;> omega
   ·split
    ·split <;> omega
    ·split
     ·split <;> omega
     ·omega
theorem Dm (c:UInt8):∀ s:Qrl,Lib.indexByte s c=if (s.takeWhile (· != c)).length < s.length then ((s.takeWhile (· != c)).length:Int) else -1
 | []=>rfl
 | b::s=>by
  unfold Lib.indexByte
  cases h:(b==c) with
  | true =>
   have h':(b != c)=false:=by unfold bne;rw [h];rfl
   have e1:(b::s).takeWhile (· != c)=[]:=by rw [P8,C5 (by rw [h'];exact Cn)]
   rw [Cd rfl,e1,Cd (by simp)];rfl
  | false =>
   have h':(b != c)=true:=by unfold bne;rw [h];rfl
   have e1:(b::s).takeWhile (· != c)=b::s.takeWhile (· != c):=by rw [P8,Cd h']
   rw [C5 Cn,e1,Dm c s,C2,C2]
   by_cases hl:(s.takeWhile (· != c)).length < s.length
   ·rw [Cd hl,C5 (by simp),Cd (by omega)];omega
   ·rw [C5 hl,Cd (by rfl),C5 (by omega)]
theorem nat_u8 (b:UInt8):((b.toNat:Int).toNat).toUInt8=b:=by simp
theorem Qa8 (c:UInt8) (n:UInt8):((c.toNat:Int)==(n.toNat:Int))=decide (c=n):=by
 rw [ZL]
 by_cases e:c=n
 ·subst e;simp
 ·rw [C8 e,C8]
  intro h';exact e (Su.1 (by omega))
theorem Qp4 (a b:Bool):(cond a (some true) (some b))=some (a||b):=by cases a <;> rfl
theorem UT {a b n:Nat} (h1:a≤b) (h2:b≤n):(cond (decide (0≤(a:Int))) (cond (Nat.ble (a:Int).toNat (b:Int).toNat) (Q22 (b:Int) n) false) false)=true:=by
 rw [C9 (by omega),C6,Cb (by show a≤b;exact h1),C6]
 unfold Q22
 rw [C9 (by omega),C6]
 exact Cb h2
theorem Q2y (s:Qrl) {a b:Nat} (h:a≤b):List.drop (a:Int).toNat (List.take (b:Int).toNat s)=(s.drop a).take (b - a):=by
 show List.drop a (List.take b s)=_
 rw [List.drop_take]
theorem Zz {p:UInt8→Bool} (s:Qrl):s.take (s.takeWhile p).length=s.takeWhile p:=by
 conv=>lhs;rw [← Cz (p:=p) (l:=s)]
 have h:((s.takeWhile p++s.dropWhile p).takeWhile p).length=(s.takeWhile p).length:=by rw [Cz]
 rw [h,List.take_left']
 rfl
theorem m123_eq (s:Qrl) (hs:s.length≤65536) {k:Nat} (hk:k < s.length):Qhh s (k:Int)=some ((k+QA (s.drop k):Nat):Int):=by
 obtain ⟨c,hc⟩:∃ c,s[k]?=some c:=⟨_,Cp hk⟩
 have hd:s.drop k=c::s.drop (k+1):=Q9k hc
 have hnx:Qm ((k:Int)+1)=((k+1:Nat):Int):=Gl (by omega)
 unfold Qhh
 rw [show J0 s (k:Int)=some c from hc,C1,Qp4,C1,hd,hnx,Yt]
 rw [show ((c.toNat:Int)==40)=decide (c=40) from Qa8 c 40,show ((c.toNat:Int)==41)=decide (c=41) from Qa8 c 41,
  show ((c.toNat:Int)==91)=decide (c=91) from Qa8 c 91,show ((c.toNat:Int)==35)=decide (c=35) from Qa8 c 35,show ((c.toNat:Int)==63)=decide (c=63) from Qa8 c 63]
 by_cases hp:c=40∨c=41
 ·rw [Cd hp,show (decide (c=40)||decide (c=41))=true by rcases hp with rfl | rfl <;> rfl];rfl
 ·have e1:decide (c=40)=false:=C8 fun e=>hp (.inl e)
  have e2:decide (c=41)=false:=C8 fun e=>hp (.inr e)
  rw [C5 hp,e1,e2,Sp,Ce]
  by_cases hb:c=91
  ·rw [Cd hb,C9 hb,C6]
   have hin:Q22 (k:Int) s.length=true:=by unfold Q22;rw [C9 (by omega),C6];exact Cb (by show k≤_;omega)
   rw [Qw hin]
   have h122:Qdl (List.drop (k:Int).toNat s) 93=some (Lib.indexByte (c::s.drop (k+1)) 93):=by rw [← hd];rfl
   rw [h122,C1,Dm]
   have hlen:(c::s.drop (k+1)).length=s.length - k:=by rw [← hd,Cu]
   by_cases hl:((c::s.drop (k+1)).takeWhile (· != 93)).length < (c::s.drop (k+1)).length
   ·rw [Cd hl,Cd hl]
    generalize ((c::s.drop (k+1)).takeWhile (· != 93)).length=n at hl
    rw [C9 (by omega),C6]
    rw [Y4 (n:=(k:Int)+(n:Int)) (by omega) (by omega),Y4 (by omega) (by omega)]
    show some ((k:Int)+(n:Int)+1)=_
    congr 1
   ·rw [C5 hl,C5 hl];rfl
  ·rw [C5 hb,C8 hb,Ce,Qp4,C1]
   by_cases hh:c=35∨c=63
   ·rw [Cd hh,show (decide (c=35)||decide (c=63))=true by rcases hh with rfl | rfl <;> rfl,C6]
    rw [Qfn s (by omega) (k:=k+1) (by omega),C1]
    have hw:=Gz (p:=inW) (s.drop (k+1))
    rw [Cu] at hw
    rw [Qw (UT (by omega) (by omega)),Q2y s (by omega),PR,Zz]
    rw [Q03 _ (by have:=Gz (p:=inW) (s.drop (k+1));rw [Cu] at this;omega),C1]
    cases (KK ((s.drop (k+1)).takeWhile inW)).2 with
    | true =>
     rw [C6,Cd rfl]
     show some ((k+1+((s.drop (k+1)).takeWhile inW).length:Nat):Int)=_
     rw [Pw]
    | false=>rw [Ce,C5 Cn];rfl
   ·have e3:decide (c=35)=false:=C8 fun e=>hh (.inl e)
    have e4:decide (c=63)=false:=C8 fun e=>hh (.inr e)
    rw [C5 hh,e3,e4,Sp,Ce,Qfm,C1]
    show Option.bind (Option.bind (Option.bind (cond (inW c) _ _) _) _) _=_
    cases hi:inW c with
    | false=>rw [C5 Cn];rfl
    | true =>
     rw [Cd rfl,C6,Qfn s (by omega) (by omega),C1,hd]
     have hw:=Gz (p:=inW) (c::s.drop (k+1))
     rw [← hd] at hw ⊢
     rw [Cu] at hw
     rw [Qw (UT (by omega) (by omega)),Q2y s (by omega),PR,Zz]
     rw [Q03 _ (by have:=Gz (p:=inW) (s.drop k);rw [Cu] at this;omega),C1]
     have e5:decide ((c.toNat:Int) < 48)=decide (c.toNat < 48):=decide_eq_decide.2 (by omega)
     have e6:decide (57 < (c.toNat:Int))=decide (57 < c.toNat):=decide_eq_decide.2 (by omega)
     rw [Qp4,e5,e6,Qp4,C1]
     by_cases hz:(KK ((s.drop k).takeWhile inW)).2=true∨c.toNat < 48∨57 < c.toNat
     ·rw [Cd hz,show ((KK ((s.drop k).takeWhile inW)).2||(decide (c.toNat < 48)||decide (57 < c.toNat)))=true by simpa using hz];rfl
     ·rw [C5 hz,show ((KK ((s.drop k).takeWhile inW)).2||(decide (c.toNat < 48)||decide (57 < c.toNat)))=false by simpa using hz];rfl
def isSp (b:UInt8):Bool:=([32,9,13,10]:List UInt8).contains b
def Z7:Nat→Qrl→Nat→List Tkn
 | 0,_,_=>[]
 | n+1,r,k=>if QA (r.dropWhile isSp)=0 then [⟨[],((k+(r.takeWhile isSp).length:Nat):Int)⟩] else
   ⟨(r.dropWhile isSp).take (QA (r.dropWhile isSp)),((k+(r.takeWhile isSp).length:Nat):Int)⟩::Z7 n ((r.dropWhile isSp).drop (QA (r.dropWhile isSp))) (k+(r.takeWhile isSp).length+QA (r.dropWhile isSp))
def Y6 (s:Qrl):List Tkn:=Z7 (s.length+1) s 0
theorem sp_at (b:UInt8):decide (0≤Lib.indexByte ([32,9,13,10]:List UInt8) b)=isSp b:=by
 by_cases h1:b=32
 ·subst h1;rfl
 ·by_cases h2:b=9
  ·subst h2;rfl
  ·by_cases h3:b=13
   ·subst h3;rfl
   ·by_cases h4:b=10
    ·subst h4;rfl
    ·have e1:Lib.indexByte ([32,9,13,10]:List UInt8) b = -1:=by simp [Lib.indexByte,Ne.symm h1,Ne.symm h2,Ne.symm h3,Ne.symm h4]
     have e2:isSp b=false:=by unfold isSp;simp [h1,h2,h3,h4]
     rw [e1,e2];rfl
def Q2v (a0:Qrl):Int×(List Tkn)→Option (LO (Int×(List Tkn)) (Unit⊕(List Tkn))):=(fun s42=>Option.bind (Q9 (σ:=Int) (β:=Int) (fun s54=>Option.bind (cond ((decide (s54 < (a0.length:Int)))) (Option.bind (J0 a0 s54) fun (x59:UInt8)=>Option.bind (Qdl ([32,9,13,10]:List UInt8) (x59.toNat:Int)) fun (x60:Int)=>some (decide (0≤x60))) (some false)) fun (v58:Bool)=>cond v58 (some (.next (Qm (s54+1)))) (some (.done s54))) Qd s42.1) fun (v55:Int)=>Option.bind (cond ((decide (v55 < (a0.length:Int)))) (Option.bind (Qhh a0 v55) fun (x63:Int)=>some x63) (some v55)) fun (v62:Int)=>Q7 (cond (decide (0≤v55)) (cond (Nat.ble v55.toNat v62.toNat) (Q22 v62 a0.length) false) false) (Q7 (Nat.ble (s42.2.length+([(Tkn.mk (List.drop v55.toNat (List.take v62.toNat a0)) v55)]:List Tkn).length) 1000000000) (cond ((v62==v55)) (some (.done (.inr (s42.2++([(Tkn.mk (List.drop v55.toNat (List.take v62.toNat a0)) v55)]:List Tkn))))) (some (.next (v62,(s42.2++([(Tkn.mk (List.drop v55.toNat (List.take v62.toNat a0)) v55)]:List Tkn))))))))
theorem sp_loop (s:Qrl) (hs:s.length≤900000000) {k:Nat} (hk:k≤s.length):Q9 (σ:=Int) (β:=Int) (fun s54=>Option.bind (cond ((decide (s54 < (s.length:Int)))) (Option.bind (J0 s s54) fun (x59:UInt8)=>Option.bind (Qdl ([32,9,13,10]:List UInt8) (x59.toNat:Int)) fun (x60:Int)=>some (decide (0≤x60))) (some false)) fun (v58:Bool)=>cond v58 (some (.next (Qm (s54+1)))) (some (.done s54))) Qd (k:Int)=some ((k+((s.drop k).takeWhile isSp).length:Nat):Int):=by
 refine Q3q s isSp hs (fun j b hb=>?_) ?_ k hk
 ·rw [C9 (by have:=(Cg.1 hb).1;omega),C6,show J0 s (j:Int)=some b from hb,C1]
  rw [show Qdl ([32,9,13,10]:List UInt8) (b.toNat:Int)=some (Lib.indexByte ([32,9,13,10]:List UInt8) b) by unfold Qdl;rw [nat_u8],C1,sp_at,C1]
  cases isSp b <;> rfl
 ·rw [Jn];rfl
theorem YE {p:UInt8→Bool} (s:Qrl):(s.takeWhile p).length+(s.dropWhile p).length=s.length:=by
 rw [← C7,Cz]
theorem Qab (s:Qrl) (hs:s.length≤65536):∀ (n k:Nat) (acc:List Tkn),k≤s.length→s.length < n+k→acc.length≤k→Q9 (Q2v s) n ((k:Int),acc)=some (.inr (acc++Z7 n (s.drop k) k))
 | 0,k,acc,h1,h2,h3=>by omega
 | n+1,k,acc,h1,h2,h3=>by
  have hdl:=YE (p:=isSp) (s.drop k)
  rw [Cu] at hdl
  have hsp:s.drop (k+((s.drop k).takeWhile isSp).length)=(s.drop k).dropWhile isSp:=by rw [← Q2u,List.drop_drop]
  have hsc:=Zb ((s.drop k).dropWhile isSp)
  have hsl:=sp_loop s (by omega) h1
  have hlx:Z7 (n+1) (s.drop k) k=if QA ((s.drop k).dropWhile isSp)=0 then [⟨[],((k+((s.drop k).takeWhile isSp).length:Nat):Int)⟩] else
   ⟨((s.drop k).dropWhile isSp).take (QA ((s.drop k).dropWhile isSp)),((k+((s.drop k).takeWhile isSp).length:Nat):Int)⟩::Z7 n (((s.drop k).dropWhile isSp).drop (QA ((s.drop k).dropWhile isSp))) (k+((s.drop k).takeWhile isSp).length+QA ((s.drop k).dropWhile isSp)):=rfl
  rw [hlx]
  rw [← hsp] at hdl hsc ⊢
  generalize ((s.drop k).takeWhile isSp).length=t at *
  rw [Cu] at hdl hsc
  have hto:(cond ((decide (((k+t:Nat):Int) < (s.length:Int)))) (Option.bind (Qhh s ((k+t:Nat):Int)) fun (x63:Int)=>some x63) (some ((k+t:Nat):Int)))=some ((k+t+QA (s.drop (k+t)):Nat):Int):=by
   by_cases hlt:k+t < s.length
   ·rw [C9 (by omega),C6,m123_eq s hs hlt];rfl
   ·rw [C8 (by omega),Ce,Sl (by omega)];rfl
  have hst:Q2v s ((k:Int),acc)=cond (((k+t+QA (s.drop (k+t)):Nat):Int)==((k+t:Nat):Int)) (some (.done (.inr (acc++[⟨(s.drop (k+t)).take (QA (s.drop (k+t))),((k+t:Nat):Int)⟩])))) (some (.next (((k+t+QA (s.drop (k+t)):Nat):Int),acc++[⟨(s.drop (k+t)).take (QA (s.drop (k+t))),((k+t:Nat):Int)⟩]))):=by
   unfold Q2v
   dsimp only
   rw [hsl,C1,hto,C1,Qw (UT (by omega) (by omega)),Wg (by simp only [C2,Cc];omega),Q2y s (by omega),PR]
  simp only [Q9]
  rw [hst]
  by_cases h0:QA (s.drop (k+t))=0
  ·rw [Cd h0,h0,PV,CV.2 rfl,C6];rfl
  ·rw [C5 h0,show ((((k+t+QA (s.drop (k+t)):Nat):Int)==((k+t:Nat):Int))=false) from CJ.2 (by omega),Ce]
   show Q9 (Q2v s) n (((k+t+QA (s.drop (k+t)):Nat):Int),acc++[_])=_
   rw [Qab s hs n (k+t+QA (s.drop (k+t))) _ (by omega) (by omega) (by rw [C7];simp only [C2,Cc];omega),CB,List.drop_drop]
   rfl
theorem Q96:∀ (n:Nat) (r:Qrl) (k:Nat),(Z7 n r k).length≤n
 | 0,_,_=>Ck _
 | n+1,r,k=>by
  unfold Z7
  split
  ·show 1≤n+1;omega
  ·rw [C2];have:=Q96 n ((r.dropWhile isSp).drop (QA (r.dropWhile isSp))) (k+(r.takeWhile isSp).length+QA (r.dropWhile isSp));omega
theorem Dj (n:Nat) (r:Qrl) (k:Nat):0 < (Z7 (n+1) r k).length:=by
 unfold Z7
 split
 ·exact Nat.zero_lt_one
 ·exact Pn _
theorem UN (x:Tkn) (l:List Tkn):J9 (x::l) 0=x.text:=rfl
theorem ZV (x:Tkn) (l:List Tkn) (j:Nat):J9 (x::l) (j+1)=J9 l j:=rfl
theorem Q29 (j:Nat):J9 [] j=[]:=by unfold J9;simp
theorem scan_br {r:Qrl} (h:QA r ≠ 0) (hb:Lib.hasPrefix (r.take (QA r)) [91]=true):2≤QA r∧QA r≤r.length:=by
 refine ⟨?_,Zb r⟩
 cases r with
 | nil=>exact absurd rfl h
 | cons c r =>
  have hc:c=91:=by
   obtain ⟨n,hn⟩:=Nat.exists_eq_succ_of_ne_zero h
   rw [hn,PO] at hb
   unfold Lib.hasPrefix at hb
   simp only [List.isPrefixOf,Bool.and_true] at hb
   exact (CV.1 hb).symm
  subst hc
  rw [Yt,C5 (by decide),Cd rfl] at h ⊢
  split
  ·rw [P8,Cd (by decide),C2];omega
  ·rename_i h';rw [C5 h'] at h;exact absurd rfl h
theorem Q95:∀ (n:Nat) (r:Qrl) (k:Nat),r.length < n→r.length≤65536→(∀ j,J9 (Z7 n r k) j ≠ []→j+1 < (Z7 n r k).length)∧(∀ j,(J9 (Z7 n r k) j).length≤65536)∧∀ j,Lib.hasPrefix (J9 (Z7 n r k) j) [91]=true→2≤(J9 (Z7 n r k) j).length
 | 0,r,k,h,_=>by omega
 | n+1,r,k,h,h6=>by
  have hdl:=YE (p:=isSp) r
  have hsc:=Zb (r.dropWhile isSp)
  unfold Z7
  split
  ·refine ⟨fun j hj=>?_,fun j=>?_,fun j hj=>?_⟩
   ·cases j with
    | zero=>exact absurd rfl hj
    | succ j=>rw [ZV,Q29] at hj;exact absurd rfl hj
   ·cases j with
    | zero=>exact Co _
    | succ j=>rw [ZV,Q29];exact Co _
   ·cases j with
    | zero=>rw [UN] at hj;cases hj
    | succ j=>rw [ZV,Q29] at hj;cases hj
  ·rename_i h0
   obtain ⟨i1,i2,i3⟩:=Q95 n ((r.dropWhile isSp).drop (QA (r.dropWhile isSp))) (k+(r.takeWhile isSp).length+QA (r.dropWhile isSp)) (by rw [Cu];omega) (by rw [Cu];omega)
   refine ⟨fun j hj=>?_,fun j=>?_,fun j hj=>?_⟩
   ·cases j with
    | zero =>
     rw [C2]
     have:0 < (Z7 n ((r.dropWhile isSp).drop (QA (r.dropWhile isSp))) (k+(r.takeWhile isSp).length+QA (r.dropWhile isSp))).length:=by
      cases n with
      | zero=>omega
      | succ n=>exact Dj n _ _
     omega
    | succ j=>rw [ZV] at hj;rw [C2];have:=i1 j hj;omega
   ·cases j with
    | zero=>rw [UN];show (List.take _ _).length≤_;rw [CR];omega
    | succ j=>rw [ZV];exact i2 j
   ·cases j with
    | zero =>
     rw [UN] at hj ⊢
     have:=scan_br h0 hj
     show 2≤(List.take _ _).length
     rw [CR];omega
    | succ j=>rw [ZV] at hj ⊢;exact i3 j hj
theorem Q7z (s:Qrl) (h:s.length≤65536):GL (Y6 s) where
 len:=by have:=Q96 (s.length+1) s 0;unfold Y6;omega
 last:=(Q95 (s.length+1) s 0 (by omega) h).1
 short:=(Q95 (s.length+1) s 0 (by omega) h).2.1
 br:=(Q95 (s.length+1) s 0 (by omega) h).2.2
def zT:Tm:=Tm.mk 0 0 [] [] []
inductive RdE where
 | ok (t:Tm)
 | bad (i:Int)
def XR (lv:Qrl→Lvl×Int) (s:Qrl):RdE:=match Qq6 lv Qd (J9 (Y6 s)) 0 with
 | .inl (t,m)=>if J9 (Y6 s) m=[]∧Q9q (Y6 s) m=(s.length:Int) then .ok t else .bad (Q9q (Y6 s) m)
 | .inr m=>.bad (Q9q (Y6 s) m)
theorem m15_eq {lv:Qrl→Lvl×Int} (hl:∀ s:Qrl,s.length≤65536→Db s=some (lv s)) (s:Qrl) (h:s.length≤65536):Qfl s=match XR lv s with
  | .ok t=>Option.bind (Qhr t) fun (x69:(List UInt8)×Int)=>cond ((x69.2 != 0)) (some (zT,0,x69.2)) (some (t,0,0))
  | .bad i=>some (zT,i,4):=by
 have hG:=Q7z s h
 have h0:0 < (Y6 s).length:=Dj _ _ _
 have ht:Q9 (Q2v s) Qd ((0:Int),[])=some (.inr (Y6 s)):=by
  have key:∀ n,s.length+1≤n→Q9 (Q2v s) n ((0:Int),[])=some (.inr (Z7 n s 0)):=fun n hn=>Qab s h n 0 [] (Co _) (by omega) (Co _)
  have e:∀ (n:Nat) (r:Qrl) (k:Nat),r.length < n→Z7 (n+1) r k=Z7 n r k:=by
   intro n
   induction n with
   | zero=>intro r k hr;omega
   | succ n ih =>
    intro r k hr
    have hdl:=YE (p:=isSp) r
    have hsc:=Zb (r.dropWhile isSp)
    show (if QA (r.dropWhile isSp)=0 then _ else _::Z7 (n+1) _ _)=(if QA (r.dropWhile isSp)=0 then _ else _::Z7 n _ _)
    by_cases hz:QA (r.dropWhile isSp)=0
    ·rw [Cd hz,Cd hz]
    ·rw [C5 hz,C5 hz,ih _ _ (by rw [Cu];omega)]
  have e2:∀ d,Z7 (s.length+1+d) s 0=Y6 s:=by
   intro d
   induction d with
   | zero=>rfl
   | succ d ih=>rw [← Pw,e _ _ _ (by omega),ih]
  rw [key Qd (by unfold Qd;omega)]
  obtain ⟨d,hd⟩:∃ d,Qd=s.length+1+d:=⟨Qd - (s.length+1),by unfold Qd;omega⟩
  rw [hd,e2]
 unfold Qfl
 rw [C8 (by omega),Ce]
 show Option.bind (Option.bind (Q9 (Q2v s) Qd ((0:Int),[])) _) _=_
 rw [ht]
 show Option.bind (Qp2 ⟨Y6 s,0⟩) _=_
 rw [m36_eq hl hG h0]
 unfold XR
 cases hr:Qq6 lv Qd (J9 (Y6 s)) 0 with
 | inr m=>rfl
 | inl r =>
  obtain ⟨t,m⟩:=r
  have hm:=((Qb1 lv Qd).rng (J9 (Y6 s)) (Y6 s).length 0 hG.last h0).1 t m hr
  show Option.bind (Qo5 ⟨Y6 s,(m:Int)⟩ s) _=_
  rw [m37_eq hm]
  by_cases he:J9 (Y6 s) m=[]∧Q9q (Y6 s) m=(s.length:Int)
  ·rw [Cd he];dsimp only;rw [Cd he];rfl
  ·rw [C5 he];dsimp only;rw [C5 he];rfl
end
noncomputable section
open Go.RowKit Go.Shelf
theorem DO {p:UInt8→Bool}:∀ (w:Qrl) (x:UInt8) (t:Qrl),(∀ b∈w,p b=true)→p x=false→(w++x::t).takeWhile p=w
 | [],x,t,_,hx=>by rw [CU,P8,C5 (by rw [hx];exact Cn)]
 | b::w,x,t,hw,hx=>by rw [P2,P8,Cd (hw b Ci),DO w x t (fun c hc=>hw c (Ch _ hc)) hx]
theorem Q5q {p:UInt8→Bool} (s:Qrl):∀ b∈s.takeWhile p,p b=true:=fun b hb=>Cf.1 (SD (p:=p) (l:=s)) b hb
theorem Q07 (n:Nat) (r:Qrl) (k:Nat):Z7 (n+1) r k=if QA (r.dropWhile isSp)=0 then [⟨[],((k+(r.takeWhile isSp).length:Nat):Int)⟩] else
   ⟨(r.dropWhile isSp).take (QA (r.dropWhile isSp)),((k+(r.takeWhile isSp).length:Nat):Int)⟩::Z7 n ((r.dropWhile isSp).drop (QA (r.dropWhile isSp))) (k+(r.takeWhile isSp).length+QA (r.dropWhile isSp)):=rfl
theorem Qax {c:UInt8} (hc:c=40∨c=41) (r:Qrl):QA (c::r)=1:=by rw [Yt,Cd hc]
def QL (sp:Qrl):Bool→Qrl→Qrl
 | _,[]=>[]
 | b,c::r=>c::((if (!((c==91)||(b&&c != 93))&&(c==40||c==41||c==32))=true then sp else [])++QL sp ((c==91)||(b&&c != 93)) r)
def Q98:Nat→Qrl→List Qrl×Bool
 | 0,_=>([],false)
 | n+1,r=>if QA (r.dropWhile isSp)=0 then ([[]],(r.dropWhile isSp).isEmpty) else
   ((r.dropWhile isSp).take (QA (r.dropWhile isSp))::(Q98 n ((r.dropWhile isSp).drop (QA (r.dropWhile isSp)))).1,(Q98 n ((r.dropWhile isSp).drop (QA (r.dropWhile isSp)))).2)
theorem Q08 (n:Nat) (r:Qrl):Q98 (n+1) r=if QA (r.dropWhile isSp)=0 then ([[]],(r.dropWhile isSp).isEmpty) else
   ((r.dropWhile isSp).take (QA (r.dropWhile isSp))::(Q98 n ((r.dropWhile isSp).drop (QA (r.dropWhile isSp)))).1,(Q98 n ((r.dropWhile isSp).drop (QA (r.dropWhile isSp)))).2):=rfl
theorem Q97:∀ (n:Nat) (r:Qrl) (k:Nat),r.length < n→(Z7 n r k).map Tkn.text=(Q98 n r).1∧((Z7 n r k).getLast?.map Tkn.at_=some ((k+r.length:Nat):Int)↔(Q98 n r).2=true)
 | 0,r,k,h=>by omega
 | n+1,r,k,h=>by
  have hdl:=YE (p:=isSp) r
  have hsc:=Zb (r.dropWhile isSp)
  rw [Q07,Q08]
  by_cases h0:QA (r.dropWhile isSp)=0
  ·rw [Cd h0,Cd h0]
   refine ⟨Z,?_⟩
   show some ((k+(r.takeWhile isSp).length:Nat):Int)=some ((k+r.length:Nat):Int)↔_
   constructor
   ·intro e
    have e2:=Int.ofNat.inj (Cv e)
    rw [Pc]
    exact CC (by omega)
   ·intro e
    rw [Pc] at e
    rw [e] at hdl
    simp only [Cc] at hdl
    rw [show (r.takeWhile isSp).length=r.length by omega]
  ·rw [C5 h0,C5 h0]
   obtain ⟨h1,h2⟩:=Q97 n ((r.dropWhile isSp).drop (QA (r.dropWhile isSp))) (k+(r.takeWhile isSp).length+QA (r.dropWhile isSp)) (by rw [Cu];omega)
   refine ⟨by rw [CF,h1],?_⟩
   rw [Cu,show k+(r.takeWhile isSp).length+QA (r.dropWhile isSp)+((r.dropWhile isSp).length - QA (r.dropWhile isSp))=k+r.length by omega] at h2
   rw [← h2]
   have hp:Z7 n ((r.dropWhile isSp).drop (QA (r.dropWhile isSp))) (k+(r.takeWhile isSp).length+QA (r.dropWhile isSp)) ≠ []:=by
    cases n with
    | zero=>omega
    | succ n=>exact List.ne_nil_of_length_pos (Dj _ _ _)
   obtain ⟨a,b,hab⟩:=S7 hp
   rw [hab,List.getLast?_cons_cons]
theorem X2 (sp:Qrl) (b:Bool) (c:UInt8) (r:Qrl):QL sp b (c::r)=c::((if (!((c==91)||(b&&c != 93))&&(c==40||c==41||c==32))=true then sp else [])++QL sp ((c==91)||(b&&c != 93)) r):=rfl
theorem Qei {sp:Qrl} (hsp:∀ b∈sp,isSp b=true):∀ r:Qrl,(QL sp false r).dropWhile isSp=QL sp false (r.dropWhile isSp)
 | []=>rfl
 | c::r=>by
  by_cases hc:isSp c=true
  ·have h91:(c==91)=false:=by
    cases h:(c==91) with
    | false=>rfl
    | true=>rw [CV.1 h] at hc;cases hc
   have key:∀ w:Qrl,(∀ b∈w,isSp b=true)→(w++QL sp false r).dropWhile isSp=(QL sp false r).dropWhile isSp:=by
    intro w
    induction w with
    | nil=>intro _;rfl
    | cons x w ih=>intro hw;rw [P2,PP,Cd (hw x Ci)];exact ih fun b hb=>hw b (Ch _ hb)
   rw [X2,h91,Bool.false_and,Sp,PP,Cd hc,PP,Cd hc]
   refine Eq.trans (key _ ?_) (Qei hsp r)
   split
   ·exact hsp
   ·intro b hb;cases hb
  ·have e:∀ r':Qrl,(c::r').dropWhile isSp=c::r':=fun r'=>by rw [PP,C5 hc]
   rw [e,X2,e]
theorem Q5l {sp:Qrl}:∀ (w t:Qrl),(∀ b∈w,inW b=true)→QL sp false (w++t)=w++QL sp false t
 | [],t,_=>rfl
 | c::w,t,hw=>by
  have hc:=hw c Ci
  have n1:(c==91)=false:=CJ.2 fun e=>by rw [e] at hc;exact absurd hc (by decide)
  have n2:(c==40)=false:=CJ.2 fun e=>by rw [e] at hc;exact absurd hc (by decide)
  have n3:(c==41)=false:=CJ.2 fun e=>by rw [e] at hc;exact absurd hc (by decide)
  have n4:(c==32)=false:=CJ.2 fun e=>by rw [e] at hc;exact absurd hc (by decide)
  rw [P2,P2]
  rw [X2,n1,n2,n3,n4]
  rw [show (!(false||(false&&c != 93))&&(false||false||false))=false by simp,C5 Cn,CU,Bool.false_and,Sp,Q5l w t fun b hb=>hw b (Ch _ hb)]
theorem Q7x {sp:Qrl}:∀ (w t:Qrl),(∀ b∈w,(b != 93)=true)→QL sp true (w++t)=w++QL sp true t
 | [],t,_=>rfl
 | c::w,t,hw=>by
  have hc:=hw c Ci
  rw [P2,P2]
  rw [X2,hc,Bool.true_and,Bool.or_true,C5 (by simp),CU,Q7x w t fun b hb=>hw b (Ch _ hb)]
theorem wide_close {sp:Qrl} (t:Qrl):QL sp true (93::t)=93::QL sp false t:=rfl
theorem wide_head {sp:Qrl} (b:Bool) (c:UInt8) (r:Qrl):∃ r',QL sp b (c::r)=c::r':=⟨_,rfl⟩
theorem wide_scan {sp:Qrl} (hsp:∀ b∈sp,isSp b=true) (r:Qrl):QA (QL sp false r)=QA r∧(QA r ≠ 0→(QL sp false r).take (QA r)=r.take (QA r)∧∃ pre:Qrl,(∀ b∈pre,isSp b=true)∧(QL sp false r).drop (QA r)=pre++QL sp false (r.drop (QA r))):=by
 have tw:∀ r:Qrl,(QL sp false r).takeWhile inW=r.takeWhile inW∧(QL sp false r).drop (r.takeWhile inW).length=QL sp false (r.drop (r.takeWhile inW).length):=by
  intro r
  have e:=Cz (p:=inW) (l:=r)
  have hw:=Q5q (p:=inW) r
  have e2:QL sp false r=r.takeWhile inW++QL sp false (r.dropWhile inW):=by conv=>lhs;rw [← e,Q5l _ _ hw]
  refine ⟨?_,?_⟩
  ·rw [e2]
   cases hd:r.dropWhile inW with
   | nil =>
    show (r.takeWhile inW++[]).takeWhile inW=_
    rw [Cy]
    have:r=r.takeWhile inW:=by conv=>lhs;rw [← e,hd,Cy]
    rw [← this,← this]
   | cons x t =>
    obtain ⟨r',hr'⟩:=wide_head (sp:=sp) false x t
    rw [hr']
    refine DO _ x r' hw ?_
    have h2:=List.head_dropWhile_not (p:=inW) (l:=r) (by rw [hd];exact List.cons_ne_nil _ _)
    simpa [hd] using h2
  ·rw [e2,List.drop_left',Q2u];rfl
 cases r with
 | nil=>exact ⟨rfl,fun h=>absurd rfl h⟩
 | cons c r =>
  by_cases hp:c=40∨c=41
  ·have e:QL sp false (c::r)=c::(sp++QL sp false r):=by rcases hp with rfl | rfl <;> rfl
   rw [e,Qax hp,Qax hp]
   exact ⟨Z,fun _=>⟨Z,sp,hsp,Z⟩⟩
  ·by_cases hb:c=91
   ·subst hb
    have e:QL sp false (91::r)=91::QL sp true r:=rfl
    have hdl:=YE (p:=(· != 93)) r
    have ew:=Cz (p:=(· != 93)) (l:=r)
    have hw:=Q5q (p:=(· != 93)) r
    have z:∀ r:Qrl,QA (91::r)=if ((91::r).takeWhile (· != 93)).length < (91::r).length then ((91::r).takeWhile (· != 93)).length+1 else 0:=fun r=>by rw [Yt,C5 (by decide),Cd rfl]
    have zt:∀ r:Qrl,(91::r).takeWhile (· != 93)=91::r.takeWhile (· != 93):=fun r=>by rw [P8,Cd (by decide)]
    rw [e,z,z,zt,zt]
    simp only [C2]
    cases hd:r.dropWhile (· != 93) with
    | nil =>
     have er:r=r.takeWhile (· != 93):=by conv=>lhs;rw [← ew,hd,Cy]
     have ewd:QL sp true r=r:=by
      have:=Q7x (sp:=sp) r [] (by rw [er];exact hw)
      rw [Cy] at this
      rw [this];exact Cy r
     rw [ewd,← er]
     refine ⟨Z,fun h=>?_⟩
     rw [C5 (by omega)] at h;exact absurd rfl h
    | cons x t =>
     have hx:x=93:=by
      have h2:=List.head_dropWhile_not (p:=(· != 93)) (l:=r) (by rw [hd];exact List.cons_ne_nil _ _)
      simpa [hd] using h2
     subst hx
     have er:r=r.takeWhile (· != 93)++93::t:=by conv=>lhs;rw [← ew,hd]
     have ewd:QL sp true r=r.takeWhile (· != 93)++93::QL sp false t:=by conv=>lhs;rw [er,Q7x _ _ hw,wide_close]
     generalize r.takeWhile (· != 93)=w at *
     have et:(w++93::QL sp false t).takeWhile (· != 93)=w:=DO w 93 _ hw (by decide)
     rw [ewd,et,er]
     rw [Cd (by rw [C7,C2];omega),Cd (by rw [C7,C2];omega)]
     refine ⟨rfl,fun _=>⟨?_,[],(fun b hb=>by cases hb),?_⟩⟩
     ·rw [PO,PO,List.take_append,List.take_append,Pm (by omega),show w.length+1 - w.length=1 by omega];rfl
     ·rw [Sc,Sc,So,So,Sl (by omega),show w.length+1 - w.length=1 by omega];rfl
   ·have e:∃ q:Qrl,QL sp false (c::r)=c::(q++QL sp false r)∧(c ≠ 32→q=[]):=by
     refine ⟨_,by
      conv=>lhs;unfold QL
      rw [show (c==91)=false from CJ.2 hb,Bool.false_and,Sp],fun h32=>?_⟩
     rw [show (c==40)=false from CJ.2 fun e=>hp (.inl e),show (c==41)=false from CJ.2 fun e=>hp (.inr e),show (c==32)=false from CJ.2 h32]
     rfl
    obtain ⟨q,e,hq⟩:=e
    by_cases hh:c=35∨c=63
    ·have hq0:q=[]:=hq (by rcases hh with rfl | rfl <;> decide)
     subst hq0
     rw [CU] at e
     have z:∀ r:Qrl,QA (c::r)=if (KK (r.takeWhile inW)).2=true then 1+(r.takeWhile inW).length else 0:=fun r=>by rw [Yt,C5 hp,C5 hb,Cd hh]
     rw [e,z,z,(tw r).1]
     refine ⟨Z,fun h0=>?_⟩
     by_cases hn:(KK (r.takeWhile inW)).2=true
     ·rw [Cd hn,Nat.add_comm]
      refine ⟨?_,[],(fun b hb=>by cases hb),?_⟩
      ·rw [PO,PO,Zz,← (tw r).1,Zz]
      ·rw [Sc,Sc,(tw r).2];rfl
     ·rw [C5 hn] at h0;exact absurd rfl h0
    ·by_cases hi:inW c=true
     ·have hc32:c ≠ 32:=fun e=>by rw [e] at hi;exact absurd hi (by decide)
      have hq0:=hq hc32
      subst hq0
      obtain ⟨t1,t2⟩:=tw (c::r)
      have z:∀ r:Qrl,QA (c::r)=if (KK ((c::r).takeWhile inW)).2=true∨c.toNat < 48∨57 < c.toNat then ((c::r).takeWhile inW).length else 0:=fun r=>by rw [Yt,C5 hp,C5 hb,C5 hh,Cd hi]
      rw [CU] at e
      rw [e] at t1 t2 ⊢
      rw [z,z,t1]
      refine ⟨Z,fun h0=>?_⟩
      by_cases hn:(KK ((c::r).takeWhile inW)).2=true∨c.toNat < 48∨57 < c.toNat
      ·rw [Cd hn]
       refine ⟨?_,[],(fun b hb=>by cases hb),?_⟩
       ·rw [Zz,← t1,Zz]
       ·rw [t2];rfl
      ·rw [C5 hn] at h0;exact absurd rfl h0
     ·have z:∀ r:Qrl,QA (c::r)=0:=fun r=>by rw [Yt,C5 hp,C5 hb,C5 hh,C5 hi]
      rw [e,z,z]
      exact ⟨Z,fun h=>absurd Z h⟩
theorem sp_pre {pre s:Qrl} (h:∀ b∈pre,isSp b=true):(pre++s).dropWhile isSp=s.dropWhile isSp:=by
 induction pre with
 | nil=>rfl
 | cons x w ih=>rw [P2,PP,Cd (h x Ci)];exact ih fun b hb=>h b (Ch _ hb)
theorem Qbj {sp:Qrl} (hsp:∀ b∈sp,isSp b=true):∀ (n n':Nat) (pre r:Qrl),(∀ b∈pre,isSp b=true)→r.length < n→(pre++QL sp false r).length < n'→Q98 n' (pre++QL sp false r)=Q98 n r
 | 0,_,_,r,_,h,_=>by omega
 | _+1,0,_,r,_,_,h=>by omega
 | n+1,n'+1,pre,r,hpre,h,h'=>by
  have hdl:=YE (p:=isSp) r
  have hsc:=Zb (r.dropWhile isSp)
  obtain ⟨w1,w2⟩:=wide_scan hsp (r.dropWhile isSp)
  have hd:(pre++QL sp false r).dropWhile isSp=QL sp false (r.dropWhile isSp):=by rw [sp_pre hpre,Qei hsp]
  have hdl':=YE (p:=isSp) (pre++QL sp false r)
  rw [Q08,Q08,hd,w1]
  rw [hd] at hdl'
  have hsw:=Zb (QL sp false (r.dropWhile isSp))
  rw [w1] at hsw
  by_cases h0:QA (r.dropWhile isSp)=0
  ·rw [Cd h0,Cd h0]
   cases r.dropWhile isSp with
   | nil=>rfl
   | cons c t=>rfl
  ·rw [C5 h0,C5 h0]
   obtain ⟨w3,q,hq,w4⟩:=w2 h0
   have hl4:=congrArg List.length w4
   rw [Cu] at hl4
   rw [w3,w4,Qbj hsp n n' q _ hq (by rw [Cu];omega) (by omega)]
theorem XA:∀ (n:Nat) (r:Qrl) (k:Nat),r.length < n→∀ j,j+1 < (Z7 n r k).length→J9 (Z7 n r k) j ≠ []
 | 0,r,k,h=>by omega
 | n+1,r,k,h=>by
  have hdl:=YE (p:=isSp) r
  have hsc:=Zb (r.dropWhile isSp)
  intro j hj
  rw [Q07] at hj ⊢
  by_cases h0:QA (r.dropWhile isSp)=0
  ·rw [Cd h0] at hj;simp at hj
  ·rw [C5 h0] at hj ⊢
   cases j with
   | zero =>
    rw [UN]
    intro e
    have:=congrArg List.length e
    rw [CR,Nat.min_eq_left hsc] at this
    exact h0 this
   | succ j =>
    rw [ZV]
    rw [C2] at hj
    exact XA n _ _ (by rw [Cu];omega) j (by omega)
theorem toks_wide {sp s:Qrl} (hsp:∀ b∈sp,isSp b=true):(Y6 (QL sp false s)).map Tkn.text=(Y6 s).map Tkn.text∧((Y6 (QL sp false s)).getLast?.map Tkn.at_=some ((QL sp false s).length:Int)↔(Y6 s).getLast?.map Tkn.at_=some (s.length:Int)):=by
 obtain ⟨a1,a2⟩:=Q97 (s.length+1) s 0 (by omega)
 obtain ⟨b1,b2⟩:=Q97 ((QL sp false s).length+1) (QL sp false s) 0 (by omega)
 have e:=Qbj hsp (s.length+1) ((QL sp false s).length+1) [] s (fun b hb=>by cases hb) (by omega) (by rw [CU];omega)
 rw [CU] at e
 rw [P7] at a2 b2
 unfold Y6
 rw [a1,b1,e]
 exact ⟨rfl,by rw [b2,e,a2]⟩
theorem read_wide {lv:Qrl→Lvl×Int} {sp s:Qrl} (hsp:∀ b∈sp,isSp b=true) (h1:s.length≤65536) (h2:(QL sp false s).length≤65536):(∃ t,XR lv s=.ok t∧XR lv (QL sp false s)=.ok t)∨(∃ i j,XR lv s=.bad i∧XR lv (QL sp false s)=.bad j):=by
 obtain ⟨w1,w2⟩:=toks_wide (s:=s) hsp
 have hX:J9 (Y6 (QL sp false s))=J9 (Y6 s):=by
  funext j
  unfold J9
  rw [← Cl,← Cl,w1]
 have hL:(Y6 (QL sp false s)).length=(Y6 s).length:=by have:=congrArg List.length w1;rwa [Cm,Cm] at this
 have hG:=Q7z s h1
 have hr:=(Qb1 lv Qd).rng (J9 (Y6 s)) (Y6 s).length 0 hG.last (Dj _ _ _)
 unfold XR
 rw [hX]
 cases hT:Qq6 lv Qd (J9 (Y6 s)) 0 with
 | inr m=>exact .inr ⟨_,_,rfl,rfl⟩
 | inl x =>
  obtain ⟨t,m⟩:=x
  rw [hT] at hr
  have hm:=hr.1 t m rfl
  dsimp only
  by_cases hz:J9 (Y6 s) m=[]
  ·have hml:m+1=(Y6 s).length:=by
    have:=XA (s.length+1) s 0 (by omega) m
    rcases P1 (m+1) (Y6 s).length with h | h
    ·exact absurd hz (this h)
    ·omega
   have gl:∀ L:List Tkn,m+1=L.length→Q9q L m=(L.getLast?.map Tkn.at_).getD 0:=fun L hL=>by
    unfold Q9q
    rw [List.getLast?_eq_getElem?,← hL];rfl
   have gs:∀ L:List Tkn,m+1=L.length→∀ z:Int,(Q9q L m=z↔L.getLast?.map Tkn.at_=some z):=fun L hL z=>by
    rw [gl L hL]
    rw [List.getLast?_eq_getElem?,← hL]
    have:∃ x,L[m+1 - 1]?=some x:=⟨_,Cp (by omega)⟩
    obtain ⟨x,hx⟩:=this
    rw [hx]
    simp
   have e:=(gs _ (hml.trans hL.symm) ((QL sp false s).length:Int)).trans (w2.trans (gs _ hml (s.length:Int)).symm)
   by_cases ha:Q9q (Y6 s) m=(s.length:Int)
   ·exact .inl ⟨t,Cd ⟨hz,ha⟩,Cd ⟨hz,e.2 ha⟩⟩
   ·exact .inr ⟨_,_,C5 (fun h=>ha h.2),C5 (fun h=>ha (e.1 h.2))⟩
  ·exact .inr ⟨_,_,C5 (fun h=>hz h.1),C5 (fun h=>hz h.1)⟩
end
noncomputable section
open Go.RowKit Go.Shelf
def arity (k:Int):Nat:=if k=4∨k=5∨k=6∨k=7 then 2 else if k=8∨k=11 then 3 else if k=9∨k=10 then 1 else 0
structure NodeP (t:Tm):Prop where
 k:0≤t.kind∧t.kind < 13
 ix:t.kind ≠ 0→t.kind ≠ 12→t.index=0
 ix0:0≤t.index
 ix1:t.index < 1000000000
 me:t.kind=12→t.index < 1000000
 nm:t.kind ≠ 3→t.name=[]
 nk:t.kind=3→YZ t.name=true
 l2:t.kind=2→t.levels.length=1
 l0:t.kind ≠ 2→t.kind ≠ 3→t.levels=[]
 l3:t.levels.length≤8
 kd:t.kids.length=arity t.kind
 lv:∀ l∈t.levels,Q5f l
inductive OkT:Tm→Prop
 | mk {t:Tm} (h:NodeP t) (hk:∀ k∈t.kids,OkT k):OkT t
theorem OkT.node {t:Tm} (h:OkT t):NodeP t:=by cases h;assumption
theorem OkT.kid {t k:Tm} (h:OkT t) (hk:k∈t.kids):OkT k:=by cases h with | mk _ h=>exact h k hk
structure FormP (t:Tm):Prop where
 k:0≤t.kind∧t.kind < 13
 ix:t.kind ≠ 0→t.kind ≠ 12→t.index=0
 nm:t.kind ≠ 3→t.name=[]
 l2:t.kind=2→t.levels.length=1
 l0:t.kind ≠ 2→t.kind ≠ 3→t.levels=[]
 kd:t.kids.length=arity t.kind
theorem fits_ok (t:Tm) (h:WU t=some true):FormP t:=by
 by_cases h1:t.kind < 0
 ·exfalso;unfold WU at h;rw [C9 h1] at h;cases h
 by_cases h2:13≤t.kind
 ·exfalso;unfold WU at h;rw [C8 h1,C9 h2] at h;cases h
 have hk:t.kind=0∨t.kind=1∨t.kind=2∨t.kind=3∨t.kind=4∨t.kind=5∨t.kind=6∨t.kind=7∨t.kind=8∨t.kind=9∨t.kind=10∨t.kind=11∨t.kind=12:=by omega
 have fin:∀ (ix nm ln:Bool) (lv kd:Int),WU t=Qgl ix nm ln (t.index==0) (t.name==[]) ((t.levels.length:Int)==lv) ((t.kids.length:Int)==kd) →
   (ix=false→t.index=0)∧(nm=false→t.name=[])∧(ln=false→(t.levels.length:Int)=lv)∧(t.kids.length:Int)=kd:=by
  intro ix nm ln lv kd e
  rw [h,Qbs] at e
  have e:=(Cv e).symm
  simp only [CD,Py,CV] at e
  obtain ⟨⟨⟨e1,e2⟩,e3⟩,e4⟩:=e
  exact ⟨fun h=>by rcases e1 with e | e;rw [h] at e;cases e;exact e,fun h=>by rcases e2 with e | e;rw [h] at e;cases e;exact e,fun h=>by rcases e3 with e | e;rw [h] at e;cases e;exact e,e4⟩
 obtain ⟨k,i,n,ls,ks⟩:=t
 dsimp only [Tm.kind,Tm.index,Tm.name,Tm.levels,Tm.kids] at *
 have mk:∀ {ix nm ln:Bool} {lv kd:Int},WU (Tm.mk k i n ls ks)=Qgl ix nm ln (i==0) (n==[]) ((ls.length:Int)==lv) ((ks.length:Int)==kd)→(k ≠ 0→k ≠ 12→ix=false)→(k ≠ 3→nm=false)→(k=2→ln=false∧lv=1)→(k ≠ 2→k ≠ 3→ln=false∧lv=0)→kd=(arity k:Nat)→FormP (Tm.mk k i n ls ks):=by
  intro ix nm ln lv kd e h3 h4 h5 h6 h7
  obtain ⟨f1,f2,f3,f4⟩:=fin ix nm ln lv kd e
  refine ⟨⟨by show 0≤k;omega,by show k < 13;omega⟩,fun a b=>f1 (h3 a b),fun a=>f2 (h4 a),fun a=>?_,fun a b=>?_,?_⟩
  ·obtain ⟨g1,Qqm⟩:=h5 a
   have:=f3 g1
   show ls.length=1;omega
  ·obtain ⟨g1,Qqm⟩:=h6 a b
   have:=f3 g1
   show ls=[]
   exact CC (by omega)
  ·show ks.length=arity k;omega
 rcases hk with hk | hk | hk | hk | hk | hk | hk | hk | hk | hk | hk | hk | hk <;> subst hk
 ·exact mk (ix:=true) (nm:=false) (ln:=false) (lv:=0) (kd:=0) rfl (fun a=>(a rfl).elim) (fun _=>rfl) (fun a=>by omega) (fun _ _=>⟨rfl,rfl⟩) rfl
 ·exact mk (ix:=false) (nm:=false) (ln:=false) (lv:=0) (kd:=0) rfl (fun _ _=>rfl) (fun _=>rfl) (fun a=>by omega) (fun _ _=>⟨rfl,rfl⟩) rfl
 ·exact mk (ix:=false) (nm:=false) (ln:=false) (lv:=1) (kd:=0) rfl (fun _ _=>rfl) (fun _=>rfl) (fun _=>⟨rfl,rfl⟩) (fun a=>(a rfl).elim) rfl
 ·exact mk (ix:=false) (nm:=true) (ln:=true) (lv:=-1) (kd:=0) rfl (fun _ _=>rfl) (fun a=>(a rfl).elim) (fun a=>by omega) (fun _ a=>(a rfl).elim) rfl
 ·exact mk (ix:=false) (nm:=false) (ln:=false) (lv:=0) (kd:=2) rfl (fun _ _=>rfl) (fun _=>rfl) (fun a=>by omega) (fun _ _=>⟨rfl,rfl⟩) rfl
 ·exact mk (ix:=false) (nm:=false) (ln:=false) (lv:=0) (kd:=2) rfl (fun _ _=>rfl) (fun _=>rfl) (fun a=>by omega) (fun _ _=>⟨rfl,rfl⟩) rfl
 ·exact mk (ix:=false) (nm:=false) (ln:=false) (lv:=0) (kd:=2) rfl (fun _ _=>rfl) (fun _=>rfl) (fun a=>by omega) (fun _ _=>⟨rfl,rfl⟩) rfl
 ·exact mk (ix:=false) (nm:=false) (ln:=false) (lv:=0) (kd:=2) rfl (fun _ _=>rfl) (fun _=>rfl) (fun a=>by omega) (fun _ _=>⟨rfl,rfl⟩) rfl
 ·exact mk (ix:=false) (nm:=false) (ln:=false) (lv:=0) (kd:=3) rfl (fun _ _=>rfl) (fun _=>rfl) (fun a=>by omega) (fun _ _=>⟨rfl,rfl⟩) rfl
 ·exact mk (ix:=false) (nm:=false) (ln:=false) (lv:=0) (kd:=1) rfl (fun _ _=>rfl) (fun _=>rfl) (fun a=>by omega) (fun _ _=>⟨rfl,rfl⟩) rfl
 ·exact mk (ix:=false) (nm:=false) (ln:=false) (lv:=0) (kd:=1) rfl (fun _ _=>rfl) (fun _=>rfl) (fun a=>by omega) (fun _ _=>⟨rfl,rfl⟩) rfl
 ·exact mk (ix:=false) (nm:=false) (ln:=false) (lv:=0) (kd:=3) rfl (fun _ _=>rfl) (fun _=>rfl) (fun a=>by omega) (fun _ _=>⟨rfl,rfl⟩) rfl
 ·exact mk (ix:=true) (nm:=false) (ln:=false) (lv:=0) (kd:=0) rfl (fun _ a=>(a rfl).elim) (fun _=>rfl) (fun a=>by omega) (fun _ _=>⟨rfl,rfl⟩) rfl
theorem lv_ok {V P:Int} {x:Lvl} (h:x.vs.length≤900000000) (h0:Q04 (Ys V P) x=some 0):Q5f x:=by
 obtain ⟨b,hb1,hb2⟩:=Q8t x h
 unfold Q04 at h0
 rw [hb1] at h0
 cases b with
 | false=>cases h0
 | true=>exact hb2.1 rfl
theorem lvs_ok (t:Tm) (V P:Int) (h:t.size≤900000000):∃ r,Q9 (Yu t (Ys V P)) Qd 0=some r∧((r=.inl ()∧∀ l∈t.levels,Q5f l)∨∃ e:Int,e ≠ 0∧r=.inr e):=by
 have hl:=Xj t
 have hl2:=Dk Q3n (fun l=>by unfold Q3n;omega) t.levels
 refine JN (step:=Yu t (Ys V P)) t.levels (fun i (_:Unit)=>i) (fun a _=>∀ l∈a,Q5f l) (fun r=>(r=.inl ()∧∀ l∈t.levels,Q5f l)∨∃ e:Int,e ≠ 0∧r=.inr e) (by omega)
  (fun a y b _ e hI=>?_) (fun _ hI=>⟨.inl (),by unfold Yu;rw [Jn];rfl,.inl ⟨rfl,hI⟩⟩) () (fun x hx=>by cases hx)
 obtain ⟨q1,q2⟩:=Xo e
 have hy:y.vs.length≤900000000:=by
  have:=Q8y y
  have:=UR Q3n (show y∈t.levels from by rw [e];simp)
  omega
 obtain ⟨c,h1,-⟩:=Qfz V P y hy
 by_cases hc:c=0
 ·subst hc
  refine .inr ⟨(),?_,fun z hz=>?_⟩
  ·unfold Yu
   rw [q1,q2]
   show Option.bind (Q04 (Ys V P) y) _=_
   rw [h1];rfl
  ·rcases CQ.1 hz with hz | hz
   ·exact hI z hz
   ·rw [CG.1 hz];exact lv_ok hy h1
 ·refine .inl ⟨.inr c,?_,.inr ⟨c,hc,rfl⟩⟩
  unfold Yu
  rw [q1,q2]
  show Option.bind (Q04 (Ys V P) y) _=_
  rw [h1]
  exact Qe6 hc _ _
theorem node_ok (t:Tm) (dep:Nat) (P:Int) (h:t.size≤900000000) (hd:dep≤900000000) (h0:Qhq (Ys 1000000 P) t (dep:Int)=some 0):NodeP t:=by
 obtain ⟨b,hb,-⟩:=Qgk t
 have hi:=ir_in (n:=t.index) (by have:=t.size_eq;omega)
 have hn:t.name.length≤900000000:=by have:=t.size_eq;omega
 unfold Qhq at h0
 rw [hb] at h0
 cases b with
 | false=>cases h0
 | true =>
  have f:=fits_ok t hb
  obtain ⟨r,hr1,hr2⟩:=lvs_ok t 1000000 P h
  have tail:Option.bind (Q9 (Yu t (Ys 1000000 P)) Qd 0) (Sum.elim (fun (o7:Unit)=>ZC t (Ys 1000000 P) (dep:Int)) (fun o=>some o))=some 0→(∀ l∈t.levels,Q5f l)∧0≤t.index∧t.index < 1000000000∧(t.kind=12→t.index < 1000000):=by
   intro h1
   rw [hr1] at h1
   rcases hr2 with ⟨rfl,hv⟩ | ⟨e,he,rfl⟩
   ·have h1:ZC t (Ys 1000000 P) (dep:Int)=some 0:=h1
    refine ⟨hv,?_⟩
    unfold ZC at h1
    rw [ZL t.kind 0,ZL t.kind 12] at h1
    by_cases k0:t.kind=0
    ·rw [C9 k0,C8 (show ¬ t.kind=12 by omega)] at h1
     by_cases c1:t.index < 0
     ·rw [C9 c1] at h1;cases h1
     ·rw [C8 c1] at h1
      by_cases c2:max 1000000 0≤Qm (t.index - (dep:Int))
      ·rw [show decide ((Ys 1000000 P).vars≤Qm (t.index - (dep:Int)))=true from C9 c2] at h1;cases h1
      ·rw [Y4 (by omega) (by omega)] at c2
       exact ⟨by omega,by omega,fun a=>by omega⟩
    ·rw [C8 k0] at h1
     by_cases k1:t.kind=12
     ·rw [C9 k1] at h1
      by_cases c1:t.index < 0
      ·rw [C9 c1] at h1;cases h1
      ·rw [C8 c1] at h1
       by_cases c2:1000000≤t.index
       ·rw [show decide ((Ys 1000000 P).metas≤t.index)=true from C9 c2] at h1;cases h1
       ·exact ⟨by omega,by omega,fun a=>by omega⟩
     ·have:=f.ix k0 k1
      exact ⟨by omega,by omega,fun a=>by omega⟩
   ·cases h1;exact (he rfl).elim
  have fin:(t.kind=3→YZ t.name=true∧t.levels.length≤8)→(∀ l∈t.levels,Q5f l)∧0≤t.index∧t.index < 1000000000∧(t.kind=12→t.index < 1000000)→NodeP t:=fun h1 h2=>by
   refine ⟨f.k,f.ix,h2.2.1,h2.2.2.1,h2.2.2.2,f.nm,fun a=>(h1 a).1,f.l2,f.l0,?_,f.kd,h2.1⟩
   by_cases a:t.kind=3
   ·exact (h1 a).2
   ·by_cases a2:t.kind=2
    ·have:=f.l2 a2;omega
    ·rw [f.l0 a2 a];exact Co _
  simp only [C1,PN,Ce] at h0
  rw [ZL] at h0
  by_cases Qqd:t.kind=3
  ·rw [C9 Qqd,C6,Q8v _ hn,C1] at h0
   cases hN:YZ t.name with
   | false=>rw [hN] at h0;cases h0
   | true =>
    rw [hN] at h0
    by_cases h8:8 < (t.levels.length:Int)
    ·rw [C9 h8] at h0;cases h0
    ·rw [C8 h8] at h0
     exact fin (fun _=>⟨hN,by omega⟩) (tail h0)
  ·rw [C8 Qqd] at h0
   exact fin (fun a=>(Qqd a).elim) (tail h0)
theorem Qej (P:Int):∀ (n:Nat) (t:Tm) (dep:Nat),t.size≤n→dep+t.size≤900000000→Jv Q3j n (t,(dep:Int),max 1000000 0,P,1000000,1000000)=some 0→OkT t
 | 0,t,_,h,_,_=>by rw [t.size_eq] at h;omega
 | n+1,t,dep,h,hd,h0=>by
  have h0:Qj3 (Jv Q3j n) t (dep:Int) (max 1000000 0) P 1000000 1000000=some 0:=h0
  obtain ⟨e,h1,h2,h3⟩:=Qfg t (dep:Int) 1000000 P (by omega)
  rw [h2] at h0
  by_cases he:e=0
  ·subst he
   rw [Cd rfl] at h0
   have hN:=node_ok t dep P (by omega) (by omega) h1
   obtain ⟨k0,k1⟩:=hN.k
   obtain ⟨v,hv,hj⟩:=Qh5 t.kind k0 k1
   have hl:=GJ t
   have key:∃ r,Q9 (KM t (Jv Q3j n) (dep:Int) (max 1000000 0) P 1000000 1000000) Qd 0=some r∧((r=.inl ()∧∀ k∈t.kids,OkT k)∨∃ e:Int,e ≠ 0∧r=.inr e):=by
    refine JN (step:=KM t (Jv Q3j n) (dep:Int) (max 1000000 0) P 1000000 1000000) t.kids (fun i (_:Unit)=>i) (fun a _=>∀ k∈a,OkT k) (fun r=>(r=.inl ()∧∀ k∈t.kids,OkT k)∨∃ e:Int,e ≠ 0∧r=.inr e) (by omega)
     (fun a x b _ e hI=>?_) (fun _ hI=>⟨.inl (),by unfold KM;rw [Jn];rfl,.inl ⟨rfl,hI⟩⟩) () (fun x hx=>by cases hx)
    obtain ⟨q1,q2⟩:=Xo e
    have hxs:=JQ (t:=t) (k:=x) (by rw [e];simp)
    have hx:=Q8g e
    obtain ⟨d',hd1,hd3⟩:∃ d':Nat,Qm ((dep:Int)+(if (a.length:Int)=v then 1 else 0))=(d':Int)∧d'≤dep+1:=by
     by_cases hh:(a.length:Int)=v
     ·rw [Cd hh,Gl (by omega)];exact ⟨dep+1,rfl,Ck _⟩
     ·rw [C5 hh,Y4 (by omega) (by omega)];exact ⟨dep,by omega,by omega⟩
    obtain ⟨e',w1,-,-⟩:=Q25 1000000 P t n x d' 0 (by omega) (by omega) (by omega)
    have st:KM t (Jv Q3j n) (dep:Int) (max 1000000 0) P 1000000 1000000 (a.length:Int)=cond (e' != 0) (some (.done (.inr e'))) (some (.next (Qm ((a.length:Int)+1)))):=by
     unfold KM
     rw [q1,q2]
     simp only [C6,C1]
     rw [hj a.length]
     simp only [C1]
     rw [hd1,w1];rfl
    by_cases he:e'=0
    ·subst he
     refine .inr ⟨(),st,fun z hz=>?_⟩
     rcases CQ.1 hz with hz | hz
     ·exact hI z hz
     ·rw [CG.1 hz];exact Qej P n x d' (by omega) (by omega) w1
    ·refine .inl ⟨_,by rw [st,Qcd he];rfl,.inr ⟨e',he,rfl⟩⟩
   obtain ⟨r,hr1,hr2⟩:=key
   unfold Q6u at h0
   rw [hr1] at h0
   rcases hr2 with ⟨rfl,hk⟩ | ⟨e,he,rfl⟩
   ·exact .mk hN hk
   ·cases h0;exact (he rfl).elim
  ·rw [C5 he] at h0;cases h0;exact (he rfl).elim
theorem check_ok (t:Tm) (h:t.size≤900000000) (h0:Qo6 t 1000000 1000000 1000000 1000000=some 0):OkT t:=by
 obtain ⟨e,h1,-,-⟩:=Q25 1000000 1000000 t Qd t 0 0 (by unfold Qd;omega) (by omega) (by omega)
 have h2:Qpb t 0 (max 1000000 0) 1000000 1000000 1000000=some e:=h1
 unfold Qo6 at h0
 rw [h2,C1] at h0
 by_cases he:e=0
 ·subst he
  exact Qej 1000000 Qd t 0 (by unfold Qd;omega) (by omega) h1
 ·rw [Qcd he] at h0;cases h0;exact (he rfl).elim
end
noncomputable section
open Go.RowKit Go.Shelf
abbrev YA (s:Qrl):List Byt:=List.map (fun b:UInt8=>(⟨b.toNat⟩:Byt)) s
def Qcs:List Qrl:=[[97,112,112],[108,97,109],[112,105],[115,105,103,109,97],[112,97,105,114],[102,115,116],[115,110,100],[108,101,116]]
def Gx (k:Int):Qrl:=(Qcs[(k - 4).toNat]?).getD []
def Qhp (l:Lvl):Qrl:=[91]++Qeo l++[93]
def Q3o (ls:List Lvl):Qrl:=(ls.map fun l=>[32]++Qhp l).flatten
def Ym:Tm→Qrl
 | .mk k i n ls ks=>if k=0 then [35]++Q24 i.toNat else if k=12 then [63]++Q24 i.toNat else if k=1 then [112,114,111,112] else
  if k=2 then [40,115,111,114,116,32]++(ls.map Qhp).headD []++[41] else
  if k=3 then (if ls=[]∧n ≠ [112,114,111,112] then n else [40,99,111,110,115,116,32]++n++Q3o ls++[41]) else
  [40]++Gx k++(ks.attach.map fun k=>[32]++Ym k.1).flatten++[41]
termination_by t=>SizeOf.sizeOf t
decreasing_by
 have:=Ph k.2
 simp only [Tm.mk.sizeOf_spec];omega
def XB (ks:List Tm):Qrl:=(ks.map fun k=>[32]++Ym k).flatten
theorem KG (k i:Int) (n:Qrl) (ls:List Lvl) (ks:List Tm):Ym (.mk k i n ls ks)=if k=0 then [35]++Q24 i.toNat else if k=12 then [63]++Q24 i.toNat else if k=1 then [112,114,111,112] else
  if k=2 then [40,115,111,114,116,32]++(ls.map Qhp).headD []++[41] else
  if k=3 then (if ls=[]∧n ≠ [112,114,111,112] then n else [40,99,111,110,115,116,32]++n++Q3o ls++[41]) else
  [40]++Gx k++XB ks++[41]:=by
 rw [Ym]
 have:(ks.attach.map fun k=>[32]++Ym k.1).flatten=XB ks:=by
  unfold XB
  rw [Sw (f:=fun k=>[32]++Ym k)]
 rw [this]
theorem Wm {i:Int} (h0:0≤i) (h:i < 1000000000):(Q24 i.toNat).length≤9:=Q9l 8 _ (by omega)
theorem DL {k:Int} (h:4≤k) (h2:k < 12):(Gx k).length≤5∧Qcs[(k - 4).toNat]?=some (Gx k):=by
 have:k=4∨k=5∨k=6∨k=7∨k=8∨k=9∨k=10∨k=11:=by omega
 rcases this with rfl | rfl | rfl | rfl | rfl | rfl | rfl | rfl <;> exact ⟨by decide,rfl⟩
theorem Qh3 {l:Lvl} (h:Q5f l):(Qhp l).length+1≤36 * Q3n l:=by
 have h1:=Q5p h
 have h2:Q3n l=1+l.vs.length:=by unfold Q3n;rw [List.map_const',List.sum_replicate_nat];omega
 unfold Qhp
 simp only [C7,C2,Cc]
 omega
theorem Qdu {α:Type} (f:α→Qrl) (g:α→Nat):∀ l:List α,(∀ x∈l,(f x).length≤g x)→(l.map f).flatten.length≤(l.map g).sum
 | [],h=>Ck _
 | x::l,h=>by
  simp only [CF,PJ,C7,Pk]
  have h1:=h x Ci
  have h2:=Qdu f g l fun y hy=>h y (Ch _ hy)
  omega
theorem Q80 {α:Type} (c:Nat) (g:α→Nat):∀ l:List α,(l.map fun x=>c * g x).sum=c * (l.map g).sum
 | []=>rfl
 | x::l=>by simp only [CF,Pk,Q80 c g l,Nat.mul_add]
theorem lvsT_len {ls:List Lvl} (h:∀ l∈ls,Q5f l):(Q3o ls).length≤36 * (ls.map Q3n).sum:=by
 rw [← Q80]
 refine Qdu _ _ ls fun l hl=>?_
 have:=Qh3 (h l hl)
 simp only [C7,C2,Cc];omega
theorem textT_len (t:Tm):OkT t→(Ym t).length+1≤60 * t.size:=by
 induction t using Qkt with
 | h t ih =>
  intro h
  have hN:=h.node
  have hk:(XB t.kids).length≤60 * (t.kids.map Tm.size).sum:=by
   rw [← Q80]
   refine Qdu _ _ _ fun k hk=>?_
   have:=ih k hk (h.kid hk)
   simp only [C7,C2,Cc];omega
  have hv:=lvsT_len hN.lv
  have hs:=t.size_eq
  have hd:=Wm hN.ix0 hN.ix1
  obtain ⟨k,i,n,ls,ks⟩:=t
  obtain ⟨⟨c1,c2⟩,-,-,-,-,-,-,l2,-,-,-,lv⟩:=hN
  dsimp only [Tm.kind,Tm.index,Tm.name,Tm.levels,Tm.kids] at *
  rw [KG]
  split
  ·simp only [C7,C2,Cc];omega
  split
  ·simp only [C7,C2,Cc];omega
  split
  ·simp only [C2,Cc];omega
  split
  ·rename_i h2
   have:=l2 h2
   match ls,this with
   | [l],_ =>
    have:=Qh3 (lv l (by simp))
    simp only [CF,List.map_nil,List.headD_cons,C7,C2,Cc,Pk,List.sum_nil] at *
    omega
  split
  ·split
   ·omega
   ·simp only [C7,C2,Cc];omega
  ·have:=(DL (k:=k) (by omega) (by omega)).1
   simp only [C7,C2,Cc];omega
theorem Qfi {a:Int} (h0:0≤a) (h1:a < 1000000000):Qj4 a=some (Q24 a.toNat):=by
 unfold Qj4
 rw [Qw (by rw [C9 (by omega),C9 (by omega)];rfl),Qgc h0]
theorem Qdb {l:Lvl} (h:Q5f l) (hn:l.vs.length≤2000000):Qm1 l=some (Qhp l):=by
 have h1:=Q5p h
 unfold Qm1 Qhp
 rw [m114_eq h (by omega),C1]
 rw [Qw (Cb (by simp only [C2,Cc];omega)),Qw (Cb (by simp only [C7,C2,Cc];omega))]
theorem app_loop {α β:Type} {step:Int×List β→Option (LO (Int×List β) (List β))} (l:List α) (g:α→List β) (b0:List β) (hlen:l.length≤900000000)
  (hin:∀ (a:List α) (x:α) (b:List α) (s:List β),l=a++x::b→s=b0++(a.map g).flatten→step ((a.length:Int),s)=some (.next (Qm ((a.length:Int)+1),s++g x)))
  (hout:∀ s,step ((l.length:Int),s)=some (.done s)):Q9 step Qd (0,b0)=some (b0++(l.map g).flatten):=by
 obtain ⟨r,h1,h2⟩:=JN (step:=step) l (fun i (s:List β)=>(i,s)) (fun a s=>s=b0++(a.map g).flatten) (fun r=>r=b0++(l.map g).flatten) hlen
  (fun a x b s e hI=>.inr ⟨s++g x,hin a x b s e hI,by rw [hI,Cr,List.flatten_append];simp⟩) (fun s hI=>⟨s,hout s,hI⟩) b0 (by simp)
 exact h1.trans (by rw [h2])
theorem Gh (a b:Qrl):YA (a++b)=YA a++YA b:=Cr
theorem Qh2 (a:Qrl):(YA a).length=a.length:=Cm ..
theorem Q47 {α:Type} (f:α→Qrl):∀ l:List α,(l.map fun x=>YA (f x)).flatten=YA (l.map f).flatten
 | []=>rfl
 | x::l=>by simp only [CF,PJ,Q47 f l,Gh]
theorem pre_len {α:Type} (f:α→Qrl) {l a b:List α} {x:α} (e:l=a++x::b):(a.map f).flatten.length+(f x).length≤(l.map f).flatten.length:=by
 rw [e];simp
end
noncomputable section
open Go.RowKit Go.Shelf
def Qot  (a1:Tm):(Int×(List Byt))→Option (LO (Int×(List Byt)) ((List Byt))):=(fun s909=>cond ((decide (s909.1 < (a1.levels.length:Int)))) (Option.bind (J0 a1.levels s909.1) fun (x911:Lvl)=>Option.bind (Qm1 x911) fun (x912:(List UInt8))=>Q7 (Nat.ble (([32]:List UInt8).length+x912.length) 1000000000) (Q7 (Nat.ble (s909.2.length+(([32]:List UInt8)++x912).length) 1000000000) (some (.next ((Qm (s909.1+1)),(s909.2++(List.map (fun b:UInt8=>(⟨b.toNat⟩:Byt)) (([32]:List UInt8)++x912)))))))) (some (.done s909.2)))
def Qos (rc:(List Byt)×Tm→Option (((List Byt)×Unit)⊕(Unit×(List Byt)))) (a1:Tm):(Int×(List Byt))→Option (LO (Int×(List Byt)) ((List Byt))):=(fun s923=>cond ((decide (s923.1 < (a1.kids.length:Int)))) (Option.bind (J0 a1.kids s923.1) fun (x925:Tm)=>Q7 (Nat.ble (s923.2.length+([32]:List UInt8).length) 1000000000) (Option.bind (Zw (rc ((s923.2++(List.map (fun b:UInt8=>(⟨b.toNat⟩:Byt)) ([32]:List UInt8))),x925))) fun (r926:(List Byt)×Unit)=>some (.next ((Qm (s923.1+1)),r926.1)))) (some (.done s923.2)))
theorem Q7n {α:Type} {step:Int×List Byt→Option (LO (Int×List Byt) (List Byt))} (l:List α) (f:α→Qrl) (b0:List Byt) (hlen:l.length≤900000000) (hb:b0.length+(l.map f).flatten.length≤900000000)
  (hin:∀ (a:List α) (x:α) (b:List α) (s:List Byt),l=a++x::b→s.length+(f x).length≤900000000→step ((a.length:Int),s)=some (.next (Qm ((a.length:Int)+1),s++YA (f x))))
  (hout:∀ s,step ((l.length:Int),s)=some (.done s)):Q9 step Qd (0,b0)=some (b0++YA (l.map f).flatten):=by
 rw [← Q47]
 refine app_loop l (fun x=>YA (f x)) b0 hlen (fun a x b s e hs=>hin a x b s e ?_) hout
 have:=pre_len f e
 rw [hs,Q47,C7,Qh2]
 omega
theorem Dg {t:Tm} (h:t.size≤2000000) {l:Lvl} (hl:l∈t.levels):l.vs.length≤2000000:=by
 have h1:=Xj t
 have h2:=Q8y l
 have h3:=UR Q3n hl
 omega
theorem Q6o {t:Tm}:t.levels.length≤t.size:=by
 have h1:=Xj t
 have h2:=Dk Q3n (fun l=>by unfold Q3n;omega) t.levels
 omega
theorem Qhy (t:Tm) (hv:∀ l∈t.levels,Q5f l) (hs:t.size≤2000000) (b0:List Byt) (hb:b0.length+(Q3o t.levels).length≤900000000):Q9 (Qot t) Qd (0,b0)=some (b0++YA (Q3o t.levels)):=by
 refine Q7n (step:=Qot t) t.levels (fun l=>[32]++Qhp l) b0 (by have:=Q6o (t:=t);omega) hb (fun a x b s e hx=>?_) (fun s=>by unfold Qot;dsimp only;rw [Jn];rfl)
 obtain ⟨q1,q2⟩:=Xo e
 have hm:x∈t.levels:=by rw [e];simp
 simp only [C7,C2,Cc] at hx
 unfold Qot
 dsimp only
 rw [q1,q2,C6,C1,Qdb (hv x hm) (Dg hs hm),C1,Qw (Cb (by simp only [C2,Cc];omega)),Qw (Cb (by simp only [C7,C2,Cc];omega))]
theorem Qhx (rc:(List Byt)×Tm→Option (((List Byt)×Unit)⊕(Unit×(List Byt)))) (t:Tm) (hs:t.size≤2000000) (b0:List Byt) (hb:b0.length+(XB t.kids).length≤900000000)
  (hr:∀ k∈t.kids,∀ b:List Byt,b.length+(Ym k).length≤900000000→rc (b,k)=some (.inl (b++YA (Ym k),()))):Q9 (Qos rc t) Qd (0,b0)=some (b0++YA (XB t.kids)):=by
 refine Q7n (step:=Qos rc t) t.kids (fun k=>[32]++Ym k) b0 (by have:=GJ t;omega) hb (fun a x b s e hx=>?_) (fun s=>by unfold Qos;dsimp only;rw [Jn];rfl)
 obtain ⟨q1,q2⟩:=Xo e
 have hm:x∈t.kids:=by rw [e];simp
 simp only [C7,C2,Cc] at hx
 unfold Qos
 dsimp only
 rw [q1,q2,C6,C1,Qw (Cb (by simp only [C2,Cc];omega)),hr x hm _ (by simp only [C7,C2,Cc,Cm];omega)]
 show some _=some _
 rw [Gh,CB]
theorem Qa4 {k:Int} (h:4≤k) (h2:k < 12):J0 Qcs (Qm (k - 4))=some (Gx k):=by
 rw [Y4 (by omega) (by omega)]
 have h1:=(DL h h2).2
 obtain ⟨n,hn⟩:=Sh (show 0≤k - 4 by omega)
 rw [hn] at h1 ⊢
 exact h1
theorem YF {a b:Int} (h:a ≠ b):(a==b)=false:=by rw [ZL,C8 h]
theorem Q4s {a b:Int} (h:a=b):(a==b)=true:=by rw [ZL,C9 h]
theorem Q63 {t:Tm} (h:t.levels.length=1):∃ l,t.levels=[l]:=by
 match hl:t.levels,h with
 | [l],_=>exact ⟨l,rfl⟩
theorem bsne (a b:Qrl):(!(a==b))=decide (a ≠ b):=by rw [Qoq];by_cases h:a=b <;> simp [h]
theorem Qlp {t:Tm} (h:t.kind=0):Ym t=[35]++Q24 t.index.toNat:=by obtain ⟨k,i,n,ls,ks⟩:=t;rw [KG];exact Cd h
theorem Qi6 {t:Tm} (h:t.kind=12):Ym t=[63]++Q24 t.index.toNat:=by obtain ⟨k,i,n,ls,ks⟩:=t;have h:k=12:=h;rw [KG,C5 (by omega),Cd h];rfl
theorem Qlo {t:Tm} (h:t.kind=1):Ym t=[112,114,111,112]:=by obtain ⟨k,i,n,ls,ks⟩:=t;have h:k=1:=h;rw [KG,C5 (by omega),C5 (by omega),Cd h]
theorem Qln {t:Tm} {l:Lvl} (h:t.kind=2) (hl:t.levels=[l]):Ym t=[40,115,111,114,116,32]++Qhp l++[41]:=by
 obtain ⟨k,i,n,ls,ks⟩:=t
 have h:k=2:=h
 have hl:ls=[l]:=hl
 rw [KG,C5 (by omega),C5 (by omega),C5 (by omega),Cd h,hl];rfl
theorem Qlm {t:Tm} (h:t.kind=3):Ym t=if t.levels=[]∧t.name ≠ [112,114,111,112] then t.name else [40,99,111,110,115,116,32]++t.name++Q3o t.levels++[41]:=by
 obtain ⟨k,i,n,ls,ks⟩:=t
 have h:k=3:=h
 rw [KG,C5 (by omega),C5 (by omega),C5 (by omega),C5 (by omega),Cd h];rfl
theorem Qll {t:Tm} (h:4≤t.kind) (h2:t.kind ≠ 12):Ym t=[40]++Gx t.kind++XB t.kids++[41]:=by
 obtain ⟨k,i,n,ls,ks⟩:=t
 have h:4≤k:=h
 have h2:k ≠ 12:=h2
 rw [KG,C5 (by omega),C5 (by omega),C5 (by omega),C5 (by omega),C5 (by omega)];rfl
theorem Uk (t:Tm):(cond (((t.levels.length:Int)==0)) (some (!(t.name==([112,114,111,112]:List UInt8)))) (some false))=some (decide (t.levels=[]∧t.name ≠ [112,114,111,112])):=by
 rw [ZL,bsne]
 by_cases h:t.levels=[]
 ·rw [h];simp
 ·have:t.levels.length ≠ 0:=fun h2=>h (CC h2)
  rw [C8 (p:=(t.levels.length:Int)=0) (by omega),C8 (p:=t.levels=[]∧t.name ≠ [112,114,111,112]) (fun h2=>h h2.1)];rfl
theorem Qor (b:List Byt) (x y z:Qrl):b++YA x++YA y++YA z=b++YA (x++y++z):=by rw [Gh,Gh];simp
theorem Q5k:∀ (n:Nat) (t:Tm) (b:List Byt),t.size≤n→t.size≤2000000→OkT t→b.length+(Ym t).length≤900000000→Jv (fun rc v=>Qdd rc v.1 v.2) n (b,t)=some (.inl (b++YA (Ym t),()))
 | 0,t,b,h,_,_,_=>by rw [t.size_eq] at h;omega
 | n+1,t,b,h,h2,ht,hb=>by
  show Qdd (Jv (fun rc v=>Qdd rc v.1 v.2) n) b t=_
  have hN:=ht.node
  obtain ⟨k0,k1⟩:=hN.k
  unfold Qdd
  by_cases e0:t.kind=0
  ·rw [Qlp e0] at hb ⊢
   refine Jp (.inl (b++YA ([35]++Q24 t.index.toNat))) ?_ Z
   rw [Q4s e0,C6,Qfi hN.ix0 hN.ix1,C1]
   have:=Wm hN.ix0 hN.ix1
   simp only [C7,C2,Cc] at hb
   rw [Qw (Cb (by simp only [C2,Cc];omega)),Qw (Cb (by simp only [C7,C2,Cc];omega))]
  by_cases e12:t.kind=12
  ·rw [Qi6 e12] at hb ⊢
   refine Jp (.inl (b++YA ([63]++Q24 t.index.toNat))) ?_ Z
   rw [YF e0,Ce]
   refine Jp (.inl (b++YA ([63]++Q24 t.index.toNat))) ?_ Z
   rw [Q4s e12,C6,Qfi hN.ix0 hN.ix1,C1]
   have:=Wm hN.ix0 hN.ix1
   simp only [C7,C2,Cc] at hb
   rw [Qw (Cb (by simp only [C2,Cc];omega)),Qw (Cb (by simp only [C7,C2,Cc];omega))]
  by_cases e1:t.kind=1
  ·rw [Qlo e1] at hb ⊢
   refine Jp (.inl (b++YA [112,114,111,112])) ?_ Z
   rw [YF e0,Ce]
   refine Jp (.inl (b++YA [112,114,111,112])) ?_ Z
   rw [YF e12,Ce]
   refine Jp (.inl (b++YA [112,114,111,112])) ?_ Z
   rw [Q4s e1,C6,Qw (Cb (by omega))]
  by_cases e2:t.kind=2
  ·obtain ⟨l,hl⟩:=Q63 (hN.l2 e2)
   have hv:=hN.lv l (by rw [hl];simp)
   rw [Qln e2 hl] at hb ⊢
   refine Jp (.inl (b++YA ([40,115,111,114,116,32]++Qhp l++[41]))) ?_ Z
   rw [YF e0,Ce]
   refine Jp (.inl (b++YA ([40,115,111,114,116,32]++Qhp l++[41]))) ?_ Z
   rw [YF e12,Ce]
   refine Jp (.inl (b++YA ([40,115,111,114,116,32]++Qhp l++[41]))) ?_ Z
   rw [YF e1,Ce]
   refine Jp (.inl (b++YA ([40,115,111,114,116,32]++Qhp l++[41]))) ?_ Z
   simp only [C7,C2,Cc] at hb
   rw [Q4s e2,C6,hl,show J0 [l] 0=some l from rfl,C1,Qdb hv (Dg h2 (by rw [hl];simp)),C1,Qw (Cb (by simp only [C2,Cc];omega)),Qw (Cb (by simp only [C7,C2,Cc];omega)),Qw (Cb (by simp only [C7,C2,Cc];omega))]
  by_cases e3:t.kind=3
  ·rw [Qlm e3] at hb ⊢
   by_cases hc:t.levels=[]∧t.name ≠ [112,114,111,112]
   ·rw [Cd hc] at hb ⊢
    refine Jp (.inr (.inl (b++YA t.name,()))) ?_ Z
    rw [YF e0,Ce]
    refine Jp (.inr (.inl (b++YA t.name,()))) ?_ Z
    rw [YF e12,Ce]
    refine Jp (.inr (.inl (b++YA t.name,()))) ?_ Z
    rw [YF e1,Ce]
    refine Jp (.inr (.inl (b++YA t.name,()))) ?_ Z
    rw [YF e2,Ce]
    refine Jp (.inr (.inl (b++YA t.name,()))) ?_ Z
    rw [Q4s e3,C6,Uk,C1,C9 hc,C6,Qw (Cb (by omega))]
   ·rw [C5 hc] at hb ⊢
    rw [← Qor]
    simp only [C7,C2,Cc] at hb
    have hL:=Qhy t hN.lv h2 (b++YA ([40,99,111,110,115,116,32]++t.name)) (by simp only [C7,C2,Cc,Cm];omega)
    refine Jp (.inl (b++YA ([40,99,111,110,115,116,32]++t.name)++YA (Q3o t.levels)++YA [41])) ?_ Z
    rw [YF e0,Ce]
    refine Jp (.inl (b++YA ([40,99,111,110,115,116,32]++t.name)++YA (Q3o t.levels)++YA [41])) ?_ Z
    rw [YF e12,Ce]
    refine Jp (.inl (b++YA ([40,99,111,110,115,116,32]++t.name)++YA (Q3o t.levels)++YA [41])) ?_ Z
    rw [YF e1,Ce]
    refine Jp (.inl (b++YA ([40,99,111,110,115,116,32]++t.name)++YA (Q3o t.levels)++YA [41])) ?_ Z
    rw [YF e2,Ce]
    refine Jp (.inl (b++YA ([40,99,111,110,115,116,32]++t.name)++YA (Q3o t.levels)++YA [41])) ?_ Z
    rw [Q4s e3,C6,Uk,C1,C8 hc,Ce,Qw (Cb (by simp only [C2,Cc];omega)),Qw (Cb (by simp only [C7,C2,Cc];omega))]
    refine Jp _ hL ?_
    rw [Qw (Cb (by simp only [C7,C2,Cc,Cm];omega))]
  ·rw [Qll (by omega) e12] at hb ⊢
   rw [← Qor]
   simp only [C7,C2,Cc] at hb
   have hw:=DL (k:=t.kind) (by omega) (by omega)
   have hL:=Qhx (Jv (fun rc v=>Qdd rc v.1 v.2) n) t h2 (b++YA ([40]++Gx t.kind)) (by simp only [C7,C2,Cc,Cm];omega) (fun k hk b' hb'=>Q5k n k b' (by have:=JQ hk;omega) (by have:=JQ hk;omega) (ht.kid hk) hb')
   refine Jp (.inl (b++YA ([40]++Gx t.kind)++YA (XB t.kids)++YA [41])) ?_ Z
   rw [YF e0,Ce]
   refine Jp (.inl (b++YA ([40]++Gx t.kind)++YA (XB t.kids)++YA [41])) ?_ Z
   rw [YF e12,Ce]
   refine Jp (.inl (b++YA ([40]++Gx t.kind)++YA (XB t.kids)++YA [41])) ?_ Z
   rw [YF e1,Ce]
   refine Jp (.inl (b++YA ([40]++Gx t.kind)++YA (XB t.kids)++YA [41])) ?_ Z
   rw [YF e2,Ce]
   refine Jp (.inl (b++YA ([40]++Gx t.kind)++YA (XB t.kids)++YA [41])) ?_ Z
   rw [YF e3,Ce]
   refine Jp _ (Qa4 (by omega) (by omega)) ?_
   rw [Qw (Cb (by simp only [C2,Cc];omega)),Qw (Cb (by simp only [C7,C2,Cc];omega))]
   refine Jp _ hL ?_
   rw [Qw (Cb (by simp only [C7,C2,Cc,Cm];omega))]
theorem m28_eq {t:Tm} {b:List Byt} (h:t.size≤2000000) (ht:OkT t) (hb:b.length+(Ym t).length≤900000000):Qpc b t=some (.inl (b++YA (Ym t),())) :=
 Q5k Qd t b (by unfold Qd;omega) h ht hb
theorem cap {b:Nat} (h:b≤900000000):Nat.ble b 1000000000=true:=Cb (by omega)
def X8 (e:Int) (t:Tm):Qrl×Int:=if e=0 then (if 65536 < (Ym t).length then ([],5) else (Ym t,0)) else ([],e)
theorem u8_bts (s:Qrl):List.map Byt.u8 (YA s)=s:=by
 unfold YA
 rw [CI]
 conv=>rhs;rw [← List.map_id s]
 refine Cx fun b _=>?_
 show Byt.u8 ⟨(b.toNat:Int)⟩=b
 unfold Byt.u8
 simp
theorem all_bts (s:Qrl):List.all (YA s) (fun x:Byt=>cond (decide (0≤x.n)) (decide (x.n < 256)) false)=true:=by
 rw [Cf]
 intro x hx
 obtain ⟨b,_,rfl⟩:=Cw.1 hx
 have:=b.toNat_lt
 show cond (decide (0≤(b.toNat:Int))) (decide ((b.toNat:Int) < 256)) false=true
 rw [C9 (by omega),C9 (by omega)];rfl
theorem UC (v:List Byt) (s:Qrl) (hv:v=YA s) (hs:s ≠ []):Option.bind (some (v.length:Int)) (fun n=>cond (decide (65536 < n)) (some (([]:List UInt8),(5:Int))) (Q7 (cond (List.all v (fun x:Byt=>cond (decide (0≤x.n)) (decide (x.n < 256)) false)) (!(List.isEmpty v)) false) (some ((List.map Byt.u8 v),0))))=some (if 65536 < s.length then ([],5) else (s,0)):=by
 subst hv
 rw [C1,Qh2]
 by_cases hl:65536 < s.length
 ·rw [Cd hl,C9 (by omega)];rfl
 ·rw [C5 hl,C8 (by omega),Ce,Qw (by
   rw [all_bts,C6]
   cases s with
   | nil=>exact (hs rfl).elim
   | cons x s=>rfl),u8_bts]
theorem name_ne {s:Qrl} (h:YZ s=true):s ≠ []:=by
 rintro rfl
 revert h
 decide
end
noncomputable section
open Go.RowKit
set_option maxRecDepth 100000
def m26s (rc:Tm×Int→Option (Int)) (a0:Tm) (a1:Int):Option (Int) :=
 Option.bind (Q9 (σ:=Int×Int) (β:=Int) (fun s5=>Option.bind (cond ((decide (s5.2 < (a0.levels.length:Int)))) (some (decide (0≤s5.1))) (some false)) fun (v7:Bool)=>cond v7 (Option.bind (J0 a0.levels s5.2) fun (x8:Lvl)=>some (.next ((Qm (s5.1 - (x8.vs.length:Int))),(Qm (s5.2+1))))) (some (.done s5.1))) Qd ((Qm ((Qm (a1 - 1)) - (a0.levels.length:Int))),0)) fun (v6:Int)=>Option.bind (Q9 (σ:=Int×Int) (β:=Int) (fun s15=>Option.bind (cond ((decide (s15.2 < (a0.kids.length:Int)))) (some (decide (0≤s15.1))) (some false)) fun (v17:Bool)=>cond v17 (Option.bind (J0 a0.kids s15.2) fun (x18:Tm)=>Option.bind (rc (x18,s15.1)) fun (x19:Int)=>some (.next (x19,(Qm (s15.2+1))))) (some (.done s15.1))) Qd (v6,0)) fun (v16:Int)=>cond ((decide (100 < (a0.name.length:Int)))) (some (-1)) (some v16)
def m26r:Tm×Int→Option (Int):=Jv (fun rc v=>m26s rc v.1 v.2) Qd
def m26 (a0:Tm) (a1:Int):Option (Int):=m26r (a0,a1)
def Qpm (a0:Tm) (a1:Int):Option (Bool) :=
 Option.bind (m26 a0 a1) fun (x1:Int)=>some (decide (0≤x1))
theorem en_12:Qc Tryz.prog 12:=enters_of Tryz.func12 (by kernel_rfl) rfl
def Qfu:Option (Bool) :=
 Option.bind (Qfl ([40,32,108,97,109,10,112,114,111,112,32,35,48,32,41]:List UInt8)) fun (x1:Tm×Int×Int)=>Option.bind (Qhr x1.1) fun (x2:(List UInt8)×Int)=>Option.bind (Qfl ([40,97,112,112,32,102,41]:List UInt8)) fun (x3:Tm×Int×Int)=>Option.bind (Qfl ([35,48,49]:List UInt8)) fun (x4:Tm×Int×Int)=>Option.bind (cond ((x1.2.2==0)) (cond ((x2.2==0)) (cond ((x2.1==([40,108,97,109,32,112,114,111,112,32,35,48,41]:List UInt8))) (cond ((x3.2.1==6)) (cond ((x3.2.2==4)) (cond ((x4.2.1==0)) (some (x4.2.2==4)) (some false)) (some false)) (some false)) (some false)) (some false)) (some false)) fun (v5:Bool)=>some v5
def k12:KF UV:=⟨[],[.bool],fun v=>Qfu⟩
def H12:Hints UV:=⟨[(5,⟨[([.reg 0],.bool)],[],false⟩)],[]⟩
theorem k12_ok:Yb DV W0 Tryz.prog 12 k12:=YL (C:=Qrk) rfl QC Ql (QB (tb:=[(13,k13),(15,k15)]) Ql ⟨Qdo,Qjm,trivial⟩) JH Tryz.func12 en_12 H12 k12 rfl (fun v=>by kernel_rfl)
def m3 (a0:Tm):Option (Bool) :=
 Option.bind (Qpm a0 200) fun (x1:Bool)=>cond ((!x1)) (Option.bind (Qfu) fun (x2:Bool)=>some x2) (Option.bind (Qhr a0) fun (x3:(List UInt8)×Int)=>Option.bind (m14 a0) fun (x4:(List UInt8)×Int)=>Option.bind (Option.bind (Qfu) fun (x7:Bool)=>cond x7 (cond ((x3.1==x4.1)) (some (x3.2==x4.2)) (some false)) (some false)) fun (v6:Bool)=>some v6)
def Qqd:KF UV:=⟨[.stc .t25],[.bool],fun v=>m3 v⟩
def H3:Hints UV:=⟨[(6,⟨[([.reg 2],.bool)],[],false⟩)],[]⟩
end
noncomputable section
open Go.RowKit Go.Shelf
theorem m13_ok1 {t:Tm} (h:t.size≤2000000) (ht:OkT t) (he:Qlb t 1000000 1000000 1000000 1000000=some 0):Qhr t=some (if 65536 < (Ym t).length then ([],5) else (Ym t,0)):=by
 have hN:=ht.node
 obtain ⟨k0,k1⟩:=hN.k
 have hb:=textT_len t ht
 unfold Qhr
 rw [he,C1,show ((0:Int) != 0)=false from rfl,Ce]
 by_cases e0:t.kind=0
 ·rw [Qlp e0]
  have:=Wm hN.ix0 hN.ix1
  rw [Q4s e0,C6,Qfi hN.ix0 hN.ix1,C1]
  rw [Qw (Cb (by simp only [C2,Cc];omega)),Qw (Cb (by simp only [C7,C2,Cc];omega))]
  exact UC _ _ rfl (by simp)
 by_cases e12:t.kind=12
 ·rw [Qi6 e12]
  have:=Wm hN.ix0 hN.ix1
  rw [YF e0,Ce,Q4s e12,C6,Qfi hN.ix0 hN.ix1,C1]
  rw [Qw (Cb (by simp only [C2,Cc];omega)),Qw (Cb (by simp only [C7,C2,Cc];omega))]
  exact UC _ _ rfl (by simp)
 by_cases e1:t.kind=1
 ·rw [Qlo e1,YF e0,Ce,YF e12,Ce,Q4s e1,C6,Qw (Cb (by decide))]
  exact UC _ _ rfl (by simp)
 by_cases e2:t.kind=2
 ·obtain ⟨l,hl⟩:=Q63 (hN.l2 e2)
  have hm:l∈t.levels:=by rw [hl];simp
  have hv:=hN.lv l hm
  rw [Qln e2 hl] at hb ⊢
  simp only [C7,C2,Cc] at hb
  rw [YF e0,Ce,YF e12,Ce,YF e1,Ce,Q4s e2,C6,hl,show J0 [l] 0=some l from rfl,C1,Qdb hv (Dg h hm),C1,Qw (Cb (by simp only [C2,Cc];omega)),Qw (Cb (by simp only [C7,C2,Cc];omega)),Qw (Cb (by simp only [C7,C2,Cc];omega))]
  exact UC _ _ rfl (by simp)
 by_cases e3:t.kind=3
 ·rw [Qlm e3] at hb ⊢
  rw [YF e0,Ce,YF e12,Ce,YF e1,Ce,YF e2,Ce,Q4s e3,C6,Uk,C1]
  by_cases hc:t.levels=[]∧t.name ≠ [112,114,111,112]
  ·rw [Cd hc] at hb ⊢
   rw [C9 hc,C6,Qw (Cb (by omega))]
   exact UC _ _ Z (name_ne (hN.nk e3))
  ·rw [C5 hc] at hb ⊢
   simp only [C7,C2,Cc] at hb
   rw [C8 hc,Ce,Qw (Cb (by simp only [C2,Cc];omega)),Qw (Cb (by simp only [C7,C2,Cc];omega))]
   refine Jp _ (Qhy t hN.lv h (YA ([40,99,111,110,115,116,32]++t.name)) (by simp only [C7,C2,Cc,Cm];omega)) ?_
   rw [Qw (Cb (by simp only [C7,C2,Cc,Cm];omega))]
   exact UC _ _ (by rw [← Gh,← Gh]) (by simp)
 ·rw [Qll (by omega) e12] at hb ⊢
  simp only [C7,C2,Cc] at hb
  rw [YF e0,Ce,YF e12,Ce,YF e1,Ce,YF e2,Ce,YF e3,Ce]
  refine Jp _ (Qa4 (by omega) (by omega)) ?_
  rw [Qw (Cb (by simp only [C2,Cc];omega)),Qw (Cb (by simp only [C7,C2,Cc];omega))]
  refine Jp _ (Qhx Qo7 t h (YA ([40]++Gx t.kind)) (by simp only [C7,C2,Cc,Cm];omega) (fun k hk b' hb'=>m28_eq (by have:=JQ hk;omega) (ht.kid hk) hb')) ?_
  rw [Qw (Cb (by simp only [C7,C2,Cc,Cm];omega))]
  exact UC _ _ (by rw [← Gh,← Gh]) (by simp)
theorem awake_true:Qfu=some true:=by kernel_rfl
end
noncomputable section
open Go.RowKit Go.Shelf
def G6 {α:Type} (P:α→Prop) (x:Option α):Prop:=∀ a,x=some a→P a
theorem QQ {α β:Type} {P:β→Prop} {x:Option α} {k:α→Option β} (h:∀ a,x=some a→G6 P (k a)):G6 P (Option.bind x k):=by
 cases x with
 | none=>intro a e;cases e
 | some a=>exact h a rfl
theorem Qr {α:Type} {P:α→Prop} {a:α} (h:P a):G6 P (some a):=fun b e=>by cases e;exact h
theorem Jh {α:Type} {P:α→Prop} {b:Bool} {x y:Option α} (h1:G6 P x) (h2:G6 P y):G6 P (cond b x y):=by cases b;exact h2;exact h1
theorem Wr {σ β:Type} {step:σ→Option (LO σ β)} {Q:β→Prop} (h:∀ s,G6 (fun o=>∀ r,o=.done r→Q r) (step s)):∀ (n:Nat) (s:σ),G6 Q (Q9 step n s)
 | 0,s=>fun a e=>by cases e
 | n+1,s=>by
  intro a e
  simp only [Q9] at e
  cases hs:step s with
  | none=>rw [hs] at e;cases e
  | some o =>
   rw [hs] at e
   cases o with
   | next s'=>exact Wr h n s' a e
   | done r=>cases e;exact h s _ hs _ rfl
abbrev Qre (o:Unit⊕Int):Prop:=∀ e,o=.inr e→e ≠ 4
theorem m111_n4 (a0:Scp) (a1:Lvl):G6 (· ≠ 4) (Q04 a0 a1):=by
 have l0:G6 Qre (Q9 (Xg a1 a0) Qd 0):=Wr (fun s=>by
  unfold Xg
  refine Jh (QQ fun x _=>Jh (Qr fun r e=>?_) (Qr fun r e=>by cases e)) (Qr fun r e=>?_)
  ·cases e;intro e h;cases h;decide
  ·cases e;intro e h;cases h) Qd 0
 have l1:G6 Qre (Q9 (Xf a1 a0) Qd 0):=Wr (fun s=>by
  unfold Xf
  refine Jh (QQ fun x _=>QQ fun v _=>Jh (Qr fun r e=>?_) (Qr fun r e=>by cases e)) (Qr fun r e=>?_)
  ·cases e;intro e h;cases h;decide
  ·cases e;intro e h;cases h) Qd 0
 unfold Q04
 refine QQ fun x _=>Jh (Qr (by decide)) (QQ fun o ho=>?_)
 cases o with
 | inr e=>exact Qr (l0 _ ho e rfl)
 | inl u =>
  refine QQ fun o ho=>?_
  cases o with
  | inr e=>exact Qr (l1 _ ho e rfl)
  | inl u=>exact Qr (by decide)
theorem m59_n4 (a0:Scp) (a1:Tm) (a2:Int):G6 (· ≠ 4) (Qhq a0 a1 a2):=by
 have l0:G6 Qre (Q9 (Yu a1 a0) Qd 0):=Wr (fun s=>by
  unfold Yu
  refine Jh (QQ fun x _=>QQ fun e he=>Jh (Qr fun r h=>?_) (Qr fun r h=>by cases h)) (Qr fun r h=>?_)
  ·cases h;intro e' h';cases h';exact m111_n4 _ _ _ he
  ·cases h;intro e h;cases h) Qd 0
 have k1:G6 (· ≠ 4) (ZC a1 a0 a2):=by
  unfold ZC
  exact QQ fun b _=>Jh (Qr (by decide)) (QQ fun b _=>Jh (Qr (by decide)) (Qr (by decide)))
 have tl:G6 (· ≠ 4) (Option.bind (Q9 (Yu a1 a0) Qd 0) (Sum.elim (fun (o7:Unit)=>ZC a1 a0 a2) (fun o=>some o))):=QQ fun o ho=>by
  cases o with
  | inr e=>exact Qr (l0 _ ho e rfl)
  | inl u=>exact k1
 unfold Qhq
 exact QQ fun x _=>Jh (Qr (by decide)) (Jh (QQ fun x _=>Jh (Qr (by decide)) (Jh (Qr (by decide)) tl)) tl)
abbrev Qrd (o:(Int×Int)⊕(Bool×Int)):Prop:=∀ p,o=.inl p→p.1 ≠ 4
theorem Qfw:∀ (n:Nat) (u:Tm×Int×Tm×Int×Scp×Int×Tm),G6 Qrd (Jv Yp n u)
 | 0,u=>fun a e=>by cases e
 | n+1,u=>by
  have ih:=Qfw n
  show G6 Qrd (Gc (Jv Yp n) u.1 u.2.1 u.2.2.1 u.2.2.2.1 u.2.2.2.2.1 u.2.2.2.2.2.1 u.2.2.2.2.2.2)
  generalize Jv Yp n=rc at ih
  unfold Gc
  refine QQ fun o ho=>?_
  cases o with
  | inr e =>
   refine Qr fun p hp=>?_
   cases hp
   have:G6 (fun o:Unit⊕Int=>Qre o) (Option.bind (Qhq u.2.2.2.2.1 u.1 u.2.1) fun (x6:Int)=>cond (x6 != 0) (some (.inr x6)) (some (.inl ()))) :=
    QQ fun x hx=>Jh (Qr fun e h=>by cases h;exact m59_n4 _ _ _ _ hx) (Qr fun e h=>by cases h)
   exact this _ ho e Z
  | inl y =>
   refine QQ fun v _=>?_
   unfold ZG
   refine QQ fun b _=>QQ fun o ho=>?_
   have l1:G6 (fun o:Int⊕((Int×Int)⊕(Bool×Int))=>∀ x,o=.inr x→Qrd x) (Q9 (Yf u.1 b u.2.1 rc u.2.2.1 u.2.2.2.1 u.2.2.2.2.1 u.2.2.2.2.2.2) Qd (0,Qm (u.2.2.2.2.2.1+1))):=Wr (fun s=>by
    unfold Yf
    refine Jh (QQ fun x _=>QQ fun v _=>?_) (Qr fun r h=>by cases h;intro x h;cases h)
    unfold GF
    refine QQ fun o ho=>?_
    cases o with
    | inl p=>exact Qr fun r h=>(by cases h;intro x hx;cases hx;intro q hq;cases hq;exact ih _ _ ho p rfl)
    | inr p=>exact Jh (Qr fun r h=>(by cases h;intro x hx;cases hx;intro q hq;cases hq)) (Qr fun r h=>by cases h)) Qd _
   cases o with
   | inl b=>exact Qr fun p hp=>by cases hp
   | inr x=>exact Qr (l1 _ ho x rfl)
theorem m27_n4 (t:Tm) (a b c d:Int):G6 (· ≠ 4) (Qlb t a b c d):=by
 unfold Qlb
 refine QQ fun y _=>QQ fun o ho=>?_
 cases o with
 | inl n=>exact Jh (Qr (by decide)) (QQ fun x _=>Jh (Qr (by decide)) (Qr (by decide)))
 | inr p =>
  refine Qr ?_
  have:G6 (fun o:Int⊕(Int×Int)=>∀ p,o=.inr p→p.1 ≠ 4) (Option.bind (some ()) (fun (y7:Unit)=>Option.bind (Q8x t 0 t 0 (⟨(max a 0),(max b 0),(max c 0),(max d 0)⟩:Scp) 0 t) (Sum.elim (fun (x10:Int×Int)=>some (.inr (x10.1,x10.2))) (fun (x11:Bool×Int)=>some (.inl x11.2))))) :=
   QQ fun y _=>QQ fun o ho=>by
    cases o with
    | inl q=>exact Qr fun p hp=>(by cases hp;exact Qfw _ _ _ ho q rfl)
    | inr q=>exact Qr fun p hp=>by cases hp
  exact this _ ho p Z
def Qpr (X:Nat→Qrl):Nat→Nat
 | 0=>0
 | m+1=>Qpr X m+((X m).length+3)
theorem Q7w (x:Tkn) (l:List Tkn):∀ m,Qpr (J9 (x::l)) (m+1)=(x.text.length+3)+Qpr (J9 l) m
 | 0=>by show 0+_=_+0;rw [P7];rfl
 | m+1=>by
  show Qpr (J9 (x::l)) (m+1)+((J9 (x::l) (m+1)).length+3)=_+(Qpr (J9 l) m+((J9 l m).length+3))
  rw [Q7w x l m,ZV,Pw]
theorem Qcr:∀ m,Qpr (J9 []) m=3 * m
 | 0=>rfl
 | m+1=>by
  show Qpr (J9 []) m+((J9 [] m).length+3)=_
  rw [Qcr m,Q29];simp only [Cc];omega
theorem Qhv:∀ (n:Nat) (r:Qrl) (k m:Nat),Qpr (J9 (Z7 n r k)) m≤r.length+3 * m
 | _,r,k,0=>Co _
 | 0,r,k,m+1=>by show Qpr (J9 []) (m+1)≤_;rw [Qcr];omega
 | n+1,r,k,m+1=>by
  have hdl:=YE (p:=isSp) r
  have hsc:=Zb (r.dropWhile isSp)
  rw [Q07]
  split
  ·rw [Q7w,Qcr];simp only [Cc];omega
  ·rw [Q7w]
   have ih:=Qhv n ((r.dropWhile isSp).drop (QA (r.dropWhile isSp))) (k+(r.takeWhile isSp).length+QA (r.dropWhile isSp)) m
   rw [Cu] at ih
   show (List.take _ _).length+3+_≤_
   rw [CR];omega
section
variable {lv:Qrl→Lvl×Int} {X:Nat→Qrl}
theorem Qff (s:Qrl):Qqg (KK s).1=0:=by
 have key:G6 (fun r:Int×Bool=>Qqg r.1=0) (Q21 s):=by
  unfold Q21
  refine QQ fun v _=>Jh (Qr Z) ?_
  cases hg:(cond (Nat.ble s.length 18) (Lib.atoi s).isSome false) with
  | false=>intro a e;cases e
  | true =>
   rw [Qw rfl,C1]
   refine Qr ?_
   cases hb:Nat.ble s.length 18 with
   | false=>rw [hb] at hg;cases hg
   | true =>
    cases ha:Lib.atoi s with
    | none=>rw [hb,ha] at hg;cases hg
    | some n =>
     have:=Lib.atoi_bound ha (C3 hb)
     show Qqg n=0
     unfold Qqg
     rw [Cd (by omega)]
 unfold KK
 cases h:Q21 s with
 | none=>rfl
 | some r=>exact key r h
theorem Q8d {α:Type} {c:Qrl→Option α} {k m:Nat} {v:α} (h:G3 c (X k) k=.inl (v,m)):m=k+1∧c (X k)=some v:=by
 cases hc:c (X k) with
 | none=>rw [GD hc] at h;cases h
 | some u=>rw [Kq hc] at h;cases h;exact ⟨rfl,rfl⟩
theorem Qeq {w:Qrl} {k m:Nat} {v:Unit} (h:XU w X k=.inl (v,m)):m=k+1:=(Q8d (c:=Qh1 w) h).1
theorem Qjd (hlv:∀ s:Qrl,s.length≤65536→(lv s).1.vs.length≤s.length) (hX:∀ j,(X j).length≤65536) {k m:Nat} {l:Lvl} (h:Q1y lv X k=.inl (l,m)):m=k+1∧Q3n l≤(X k).length+1:=by
 obtain ⟨h1,h2⟩:=Q8d (c:=Qkc lv) h
 refine ⟨h1,?_⟩
 unfold Qkc at h2
 split at h2
 ·split at h2
  ·cases h2
   have h3:=hX k
   have h4:=hlv (Dh (X k)) (by unfold Dh;rw [Cu,CR];omega)
   have h5:(Dh (X k)).length≤(X k).length:=by unfold Dh;rw [Cu,CR];omega
   unfold Q3n
   rw [show ((lv (Dh (X k))).1.vs.map fun _=>1).sum=(lv (Dh (X k))).1.vs.length by induction (lv (Dh (X k))).1.vs with | nil=>rfl | cons a l ih=>rw [CF,Pk,ih,C2];omega]
   omega
  ·cases h2
 ·cases h2
theorem Qfy (hlv:∀ s:Qrl,s.length≤65536→(lv s).1.vs.length≤s.length) (hX:∀ j,(X j).length≤65536):∀ (f k m:Nat) (ls:List Lvl),ZY lv f X k=.inl (ls,m)→Qpr X k+(ls.map Q3n).sum+1≤Qpr X m
 | 0,k,m,ls,h=>by cases h
 | f+1,k,m,ls,h=>by
  unfold ZY at h
  split at h
  ·cases h
   show Qpr X k+0+1≤Qpr X k+_
   omega
  ·cases hp:Q1y lv X k with
   | inr j=>rw [hp] at h;cases h
   | inl x =>
    obtain ⟨l,j⟩:=x
    rw [hp] at h
    obtain ⟨h1,h2⟩:=Qjd hlv hX hp
    subst h1
    cases hq:ZY lv f X (k+1) with
    | inr j=>exact absurd (show (.inr j:Qra (List Lvl))=.inl (ls,m) from by rw [← h];show _=J7 (ZY lv f X (k+1)) _;rw [hq];rfl) (by intro e;cases e)
    | inl x =>
     obtain ⟨ls',j⟩:=x
     have e:(.inl (l::ls',j):Qra (List Lvl))=.inl (ls,m):=by rw [← h];show _=J7 (ZY lv f X (k+1)) _;rw [hq];rfl
     cases e
     have ih:=Qfy hlv hX f (k+1) _ ls' hq
     rw [CF,Pk]
     have:Qpr X (k+1)=Qpr X k+((X k).length+3):=rfl
     omega
theorem Z3 {α β:Type} {r:Qra α} {f:α→Nat→Qra β} {b:β} {m:Nat} (h:J7 r f=.inl (b,m)):∃ a j,r=.inl (a,j)∧f a j=.inl (b,m):=by
 cases r with
 | inr j=>cases h
 | inl x=>exact ⟨x.1,x.2,rfl,h⟩
theorem Qg4 {rc:(Nat→Qrl)→Nat→Qra Tm} (hrc:∀ k m t,rc X k=.inl (t,m)→Qpr X k+t.size≤Qpr X m):∀ (c k m:Nat) (ts:List Tm),U1 rc c X k=.inl (ts,m)→Qpr X k+(ts.map Tm.size).sum+1≤Qpr X m
 | 0,k,m,ts,h=>by
  obtain ⟨v,j,h1,h2⟩:=Z3 h
  have:=Qeq h1
  subst this
  cases h2
  show Qpr X k+0+1≤Qpr X k+_
  omega
 | c+1,k,m,ts,h=>by
  obtain ⟨t,j,h1,h2⟩:=Z3 h
  obtain ⟨ts',j',h3,h4⟩:=Z3 h2
  cases h4
  have i1:=hrc k j t h1
  have i2:=Qg4 hrc c j m ts' h3
  rw [CF,Pk];omega
theorem atom_wt {k m:Nat} {t:Tm} (h:pAtom X k=.inl (t,m)):m=k+1∧t.size≤(X k).length+1:=by
 obtain ⟨h1,h2⟩:=Q8d (c:=Qcc) h
 refine ⟨h1,?_⟩
 have z:∀ (a:Int) (n:Qrl),(Tm.mk a 0 n [] []).size=1+n.length:=fun a n=>by
  rw [Tm.size_eq]
  show 1+Qqg 0+n.length+0+0=_
  rw [show Qqg 0=0 from rfl];omega
 unfold Qcc at h2
 split at h2
 ·cases h2
 ·rename_i c r hX
  split at h2
  ·cases h2;rw [z];simp only [Cc];omega
  ·split at h2
   ·cases h2
    rw [Tm.size_eq]
    show 1+Qqg (KK r).1+0+0+0≤_
    rw [Qff];omega
   ·split at h2
    ·cases h2
     rw [Tm.size_eq]
     show 1+Qqg (KK r).1+0+0+0≤_
     rw [Qff];omega
    ·split at h2
     ·cases h2;rw [z,hX];omega
     ·cases h2
theorem Qep (hlv:∀ s:Qrl,s.length≤65536→(lv s).1.vs.length≤s.length) (hX:∀ j,(X j).length≤65536):∀ (n k m:Nat) (t:Tm),Qq6 lv n X k=.inl (t,m)→Qpr X k+t.size≤Qpr X m
 | 0,k,m,t,h=>by cases h
 | n+1,k,m,t,h=>by
  have w1:∀ k,Qpr X (k+1)=Qpr X k+((X k).length+3):=fun _=>rfl
  unfold Qq6 at h
  split at h
  ·unfold Q3b at h
   split at h
   ·obtain ⟨l,j,h1,h2⟩:=Z3 h
    obtain ⟨v,j',h3,h4⟩:=Z3 h2
    cases h4
    obtain ⟨e1,e2⟩:=Qjd hlv hX h1
    have e3:=Qeq h3
    subst e1 e3
    rw [Tm.size_eq]
    show Qpr X k+(1+Qqg 0+0+(Q3n l+0)+0)≤_
    rw [show Qqg 0=0 from rfl]
    have:=w1 k;have:=w1 (k+1);have:=w1 (k+1+1);have:=w1 (k+1+1+1)
    omega
   ·split at h
    ·obtain ⟨nm,j,h1,h2⟩:=Z3 h
     obtain ⟨ls,j',h3,h4⟩:=Z3 h2
     cases h4
     obtain ⟨e1,e2⟩:=Q8d (c:=Q7f) h1
     subst e1
     have e3:nm=X (k+1+1):=by
      unfold Q7f at e2
      split at e2
      ·cases e2;rfl
      ·cases e2
     have i:=Qfy hlv hX 1000000 _ _ ls h3
     rw [Tm.size_eq]
     show Qpr X k+(1+Qqg 0+nm.length+(ls.map Q3n).sum+0)≤_
     rw [show Qqg 0=0 from rfl,e3]
     have:=w1 k;have:=w1 (k+1);have:=w1 (k+1+1)
     omega
    ·split at h
     ·cases h
     ·obtain ⟨ts,j,h1,h2⟩:=Z3 h
      cases h2
      have i:=Qg4 (fun k m t=>Qep hlv hX n k m t) _ _ _ ts h1
      rw [Tm.size_eq]
      show Qpr X k+(1+Qqg 0+0+0+(ts.map Tm.size).sum)≤_
      rw [show Qqg 0=0 from rfl]
      have:=w1 k;have:=w1 (k+1)
      omega
  ·obtain ⟨e1,e2⟩:=atom_wt h
   subst e1
   have:=w1 k
   omega
theorem Q5w (hlv:∀ s:Qrl,s.length≤65536→(lv s).1.vs.length≤s.length) {s:Qrl} (hs:s.length≤65536) {t:Tm} (h:XR lv s=.ok t):t.size≤2000000:=by
 have hG:=Q7z s hs
 unfold XR at h
 cases hT:Qq6 lv Qd (J9 (Y6 s)) 0 with
 | inr m=>rw [hT] at h;cases h
 | inl x =>
  obtain ⟨u,m⟩:=x
  rw [hT] at h
  dsimp only at h
  split at h
  ·cases h
   have h1:=Qep hlv hG.short Qd 0 m t hT
   have h2:=Qhv (s.length+1) s 0 m
   have h3:=((Qb1 lv Qd).rng (J9 (Y6 s)) (Y6 s).length 0 hG.last (Dj _ _ _)).1 t m hT
   have h4:=Q96 (s.length+1) s 0
   have h5:Qpr (J9 (Y6 s)) m≤s.length+3 * m:=h2
   have h6:Qpr (J9 (Y6 s)) 0=0:=rfl
   have h7:(Y6 s).length≤s.length+1:=h4
   omega
  ·cases h
end
def Ui (lv:Qrl→Lvl×Int) (s:Qrl):Option (Tm×Int×Int):=match XR lv s with
 | .ok t=>Option.bind (Qhr t) fun (x69:(List UInt8)×Int)=>cond ((x69.2 != 0)) (some (zT,0,x69.2)) (some (t,0,0))
 | .bad i=>some (zT,i,4)
theorem m13_ok {t:Tm} (hz:t.size≤2000000):∃ e,e ≠ 4∧Qhr t=some (X8 e t):=by
 obtain ⟨e,h1,h2⟩:=m27_eq t 1000000 1000000 (by omega)
 refine ⟨e,m27_n4 _ _ _ _ _ _ h2,?_⟩
 by_cases h0:e=0
 ·subst h0
  unfold X8
  rw [Cd rfl]
  exact m13_ok1 hz (check_ok t (by omega) h1) h2
 ·unfold Qhr X8
  rw [h2,C1,Qcd h0,C5 h0];rfl
theorem Qaw {lv:Qrl→Lvl×Int} (hlv:∀ s:Qrl,s.length≤65536→(lv s).1.vs.length≤s.length) {s:Qrl} (hs:s.length≤65536) {t:Tm} (h:XR lv s=.ok t):∃ e,e ≠ 4∧Qhr t=some (X8 e t)∧Ui lv s=some (if (X8 e t).2=0 then (t,0,0) else (zT,0,(X8 e t).2)):=by
 obtain ⟨e,h0,h1⟩:=m13_ok (Q5w hlv hs h)
 refine ⟨e,h0,h1,?_⟩
 unfold Ui
 rw [h]
 dsimp only
 rw [h1,C1]
 by_cases h0:(X8 e t).2=0
 ·rw [Cd h0,h0];rfl
 ·rw [C5 h0,Qcd h0];rfl
end
end Go.Proofs.YtjcfppnjamjjhaaGreatDoor
