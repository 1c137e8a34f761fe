/- Part 5 of the proof: rules, mirrors and plain laws. -/
import Derived.Test.YtjcfppnjamjjhaaGreatDoorK44
set_option maxHeartbeats 2000000
set_option maxRecDepth 100000
set_option linter.unusedSimpArgs false
set_option linter.unusedVariables false
set_option linter.unusedSectionVars false
namespace Go.Proofs.YtjcfppnjamjjhaaGreatDoor
open Go.Proofs.Tryz
noncomputable section
section
open Go.RowKit
set_option maxRecDepth 100000
theorem J4i:Qd prog 145:=enters_of func145 (by kernel_rfl) rfl
def Qt2(a0:Int):Option (Bool):=Option.bind (cond ((decide (97<=a0))) (cond ((decide (a0<=122))) (some true) (cond ((decide (65<=a0))) (cond ((decide (a0<=90))) (some true) (cond ((decide (48<=a0))) (cond ((decide (a0<=57))) (some true) (cond ((a0==95)) (some true) (cond ((a0==39)) (some true) (some (a0==46))))) (cond ((a0==95)) (some true) (cond ((a0==39)) (some true) (some (a0==46)))))) (cond ((decide (48<=a0))) (cond ((decide (a0<=57))) (some true) (cond ((a0==95)) (some true) (cond ((a0==39)) (some true) (some (a0==46))))) (cond ((a0==95)) (some true) (cond ((a0==39)) (some true) (some (a0==46))))))) (cond ((decide (65<=a0))) (cond ((decide (a0<=90))) (some true) (cond ((decide (48<=a0))) (cond ((decide (a0<=57))) (some true) (cond ((a0==95)) (some true) (cond ((a0==39)) (some true) (some (a0==46))))) (cond ((a0==95)) (some true) (cond ((a0==39)) (some true) (some (a0==46)))))) (cond ((decide (48<=a0))) (cond ((decide (a0<=57))) (some true) (cond ((a0==95)) (some true) (cond ((a0==39)) (some true) (some (a0==46))))) (cond ((a0==95)) (some true) (cond ((a0==39)) (some true) (some (a0==46))))))) λ(v1:Bool)=>some v1
def k145:KF UV:=⟨[.int .u8],[.bool],λv=>Qt2 v⟩
def Jc8:Hints UV:=⟨[(1,⟨[([.reg 2],.bool)],[],false⟩)],[]⟩
theorem Qmf:Jv DV W0 prog 145 k145:=JD (C:=CV) rfl Qu Qg (Qt (tb:=[]) Qg trivial) J2 func145 J4i Jc8 k145 rfl (λv=>by kernel_rfl)
theorem J4j:Qd prog 144:=enters_of func144 (by kernel_rfl) rfl
def Qt3(a0:List UInt8)(a1:Int):Option (Int):=Option.bind (Qc (σ:=Int) (β:=Int) (λs11=>Option.bind (cond ((decide (s11<(a0.length:Int)))) (Option.bind (QP a0 s11) λ(x16:UInt8)=>Option.bind (Qt2 (x16.toNat:Int)) λ(x17:Bool)=>some x17) (some false)) λ(v15:Bool)=>cond v15 (some (.next (Qr (s11+1)))) (some (.done s11))) Qf a1) λ(v12:Int)=>some v12
def k144:KF UV:=⟨[.str,.int .i64],[.int .i64],λv=>Qt3 v.1 v.2⟩
def Jc9:Hints UV:=⟨[(1,⟨[([.reg 1],.int .i64)],[([.reg 1],.int .i64)],false⟩),(2,⟨[([.reg 14],.bool)],[],false⟩)],[]⟩
theorem Qyl:Jv DV W0 prog 144 k144:=JD (C:=CV) rfl Qu Qg (Qt (tb:=[(145,k145)]) Qg ⟨Qmf,trivial⟩) J2 func144 J4j Jc9 k144 rfl (λv=>by kernel_rfl)
theorem J4v:Qd prog 125:=enters_of func125 (by kernel_rfl) rfl
def Q1n(a0:List UInt8):Option (Int×Bool):=Option.bind (cond ((decide (6<(a0.length:Int)))) (some true) (cond ((a0==([]:List UInt8))) (some true) (Option.bind (Qid a0 ([48,49,50,51,52,53,54,55,56,57]:List UInt8)) λ(x4:(List UInt8))=>cond ((!(x4==([]:List UInt8)))) (some true) (cond ((decide (1<(a0.length:Int)))) (Option.bind (QP a0 0) λ(x5:UInt8)=>some ((x5.toNat:Int)==48)) (some false))))) λ(v3:Bool)=>cond v3 (some (0,false)) (Option.bind (Qa (cond (Nat.ble a0.length 18) (Lib.atoi a0).isSome false) (some ((Lib.atoi a0).getD 0))) λ(x6:Int)=>some (x6,true))
def k125:KF UV:=⟨[.str],[.int .i64,.bool],λv=>Q1n v⟩
def Jce:Hints UV:=⟨[(1,⟨[([.reg 27],.bool)],[],false⟩)],[(5,[])]⟩
theorem Qmk:Jv DV W0 prog 125 k125:=JD (C:=CV) rfl Qu Qg (J2v (Qt (tb:=[(146,k146)]) Qg ⟨Qyk,trivial⟩) J5q) J2 func125 J4v Jce k125 rfl (λv=>by kernel_rfl)
theorem J4x:Qd prog 123:=enters_of func123 (by kernel_rfl) rfl
def Qoy(a0:List UInt8)(a1:Int):Option (Int):=Option.bind (QP a0 a1) λ(x1:UInt8)=>Option.bind (cond (((x1.toNat:Int)==40)) (some true) (some ((x1.toNat:Int)==41))) λ(v2:Bool)=>cond v2 (some (Qr (a1+1))) (Option.bind (α:=Unit⊕Int) (cond (((x1.toNat:Int)==91)) (Qa (WE a1 a0.length) (Option.bind (Qih (List.drop a1.toNat a0) 93) λ(x30:Int)=>cond ((decide (0<=x30))) (some (.inr (Qr ((Qr (a1+x30))+1)))) (some (.inl ())))) (Option.bind (cond (((x1.toNat:Int)==35)) (some true) (some ((x1.toNat:Int)==63))) λ(v31:Bool)=>Option.bind (α:=Unit⊕Int) (cond v31 (Option.bind (Qt3 a0 (Qr (a1+1))) λ(x44:Int)=>Qa (cond (decide (0<=(Qr (a1+1)))) (cond (Nat.ble (Qr (a1+1)).toNat x44.toNat) (WE x44 a0.length) false) false) (Option.bind (Q1n (List.drop (Qr (a1+1)).toNat (List.take x44.toNat a0))) λ(x45:Int×Bool)=>cond x45.2 (some (.inr x44)) (some (.inl ())))) (Option.bind (Qt2 (x1.toNat:Int)) λ(x46:Bool)=>Option.bind (α:=Unit⊕Int) (cond x46 (Option.bind (Qt3 a0 a1) λ(x51:Int)=>Qa (cond (decide (0<=a1)) (cond (Nat.ble a1.toNat x51.toNat) (WE x51 a0.length) false) false) (Option.bind (Q1n (List.drop a1.toNat (List.take x51.toNat a0))) λ(x52:Int×Bool)=>Option.bind (cond x52.2 (some true) (cond ((decide ((x1.toNat:Int)<48))) (some true) (some (decide (57<(x1.toNat:Int)))))) λ(v53:Bool)=>cond v53 (some (.inr x51)) (some (.inl ())))) (some (.inl ()))) (Sum.elim (λ(v50:Unit)=>some (.inl ())) (λ(o54:Int)=>some (.inr o54))))) (Sum.elim (λ(v43:Unit)=>some (.inl ())) (λ(o55:Int)=>some (.inr o55))))) (Sum.elim (λ(v29:Unit)=>some a1) (λ(o56:Int)=>some o56)))
def k123:KF UV:=⟨[.str,.int .i64],[.int .i64],λv=>Qoy v.1 v.2⟩
def Jcg:Hints UV:=⟨[(3,⟨[([.reg 16],.bool)],[],false⟩),(7,⟨[],[],true⟩),(12,⟨[([.reg 38],.bool)],[],false⟩),(13,⟨[],[],true⟩),(20,⟨[],[],true⟩),(23,⟨[([.reg 82],.bool)],[],false⟩)],[]⟩
theorem Qmm:Jv DV W0 prog 123 k123:=JD (C:=CV) rfl Qu Qg (Qt (tb:=[(122,k122),(125,k125),(144,k144),(145,k145)]) Qg ⟨Qcb,Qmk,Qyl,Qmf,trivial⟩) J2 func123 J4x Jcg k123 rfl (λv=>by kernel_rfl)
theorem J8s:Qd prog 78:=enters_of func78 (by kernel_rfl) rfl
def J7i(a0:Int):Option (Int):=Option.bind (cond ((a0==8)) (some (a0==8)) (some (a0==11))) λ(v1:Bool)=>cond v1 (some 3) (Option.bind (cond ((a0==9)) (some (a0==9)) (some (a0==10))) λ(v2:Bool)=>cond v2 (some 1) (some 2))
def k78:KF UV:=⟨[.int .i64],[.int .i64],λv=>J7i v⟩
def Jdc:Hints UV:=⟨[(4,⟨[([.reg 4],.bool)],[],false⟩),(9,⟨[([.reg 7],.bool)],[],false⟩)],[]⟩
theorem Qth:Jv DV W0 prog 78 k78:=JD (C:=CV) rfl Qu Qg (Qt (tb:=[]) Qg trivial) J2 func78 J8s Jdc k78 rfl (λv=>by kernel_rfl)
theorem J8w:Qd prog 74:=enters_of func74 (by kernel_rfl) rfl
def Qsk(b:Rdr):Option ((Rdr×((List UInt8)))⊕(Unit×Rdr)):=Option.bind (QP b.l b.n) λ(x1:Tkn)=>some (.inl (b,x1.text))
def k74:PF UV:=⟨.stc 127 .t127,[],[.str],.p0 127,λb v=>Qsk b⟩
def Jdg:Hints UV:=⟨[],[(1,[])]⟩
theorem Du:ZM DV W0 prog 74 k74:=YV (C:=CV) rfl Qu Qg (Qt (tb:=[]) Qg trivial) J2 func74 J8w Jdg k74 rfl rfl (λb v=>by kernel_rfl)
theorem J8y:Qd prog 72:=enters_of func72 (by kernel_rfl) rfl
def J6j(b:Rdr)(a1:List UInt8):Option ((Rdr×Bool)⊕(Unit×Rdr)):=Option.bind (QH (Qsk b)) λ(r1:Rdr×((List UInt8)))=>some (.inl (r1.1,(r1.2==a1)))
def k72:PF UV:=⟨.stc 127 .t127,[.str],[.bool],.p0 127,λb v=>J6j b v⟩
def Jdi:Hints UV:=⟨[],[]⟩
theorem J36:ZM DV W0 prog 72 k72:=YV (C:=CV) rfl Qu Qg (Qt (tb:=[]) Qg trivial) (JR (tb:=[(74,k74)]) Qg ⟨Du,trivial⟩) func72 J8y Jdi k72 rfl rfl (λb v=>by kernel_rfl)
theorem J4w:Qd prog 124:=enters_of func124 (by kernel_rfl) rfl
def Qox(b:Rdr):Option ((Rdr×Unit)⊕((Int×Int)×Rdr)):=Option.bind (QP b.l b.n) λ(x1:Tkn)=>some (.inr ((4,x1.at_),b))
def k124:PF UV:=⟨.stc 127 .t127,[],[],.p2 69,λb v=>Qox b⟩
def Jcf:Hints UV:=⟨[],[(0,[13])]⟩
theorem Qml:ZM DV W0 prog 124 k124:=YV (C:=CV) rfl Qu Qg (Qt (tb:=[]) Qg trivial) J2 func124 J4w Jcf k124 rfl rfl (λb v=>by kernel_rfl)
theorem J8t:Qd prog 77:=enters_of func77 (by kernel_rfl) rfl
def Qew(b:Rdr)(a1:Bool):Option ((Rdr×Unit)⊕((Int×Int)×Rdr)):=Option.bind (α:=((List Tkn)×Int)⊕((Rdr×Unit)⊕((Int×Int)×Rdr))) (cond ((!a1)) (Option.bind (Qox b) (Sum.elim (λ(r4:Rdr×Unit)=>some (.inl (r4.1.l,r4.1.n))) (λ(e5:(Int×Int)×Rdr)=>some (.inr (.inr ((e5.1.1,e5.1.2),e5.2)))))) (some (.inl (b.l,b.n)))) (Sum.elim (λ(v3:(List Tkn)×Int)=>some (.inl ((Rdr.mk v3.1 v3.2),()))) (λ(o6:(Rdr×Unit)⊕((Int×Int)×Rdr))=>some o6))
def k77:PF UV:=⟨.stc 127 .t127,[.bool],[],.p2 69,λb v=>Qew b v⟩
def Jdd:Hints UV:=⟨[(1,⟨[([.at 0 0],.sl .t132),([.at 0 1],.int .i64)],[],true⟩)],[]⟩
theorem Q69:ZM DV W0 prog 77 k77:=YV (C:=CV) rfl Qu Qg (Qt (tb:=[]) Qg trivial) (KZ (tb:=[(124,k124)]) Qg ⟨Qml,trivial⟩) func77 J8t Jdd k77 rfl rfl (λb v=>by kernel_rfl)
theorem J8r:Qd prog 79:=enters_of func79 (by kernel_rfl) rfl
def Qsh(b:Rdr)(a1:List UInt8):Option ((Rdr×Unit)⊕((Int×Int)×Rdr)):=Option.bind (QH (Qsk b)) λ(r1:Rdr×((List UInt8)))=>Option.bind (Qew r1.1 (r1.2==a1)) (Sum.elim (λ(r3:Rdr×Unit)=>some (.inl ((Rdr.mk r3.1.l (Qr (r3.1.n+1))),()))) (λ(e4:(Int×Int)×Rdr)=>some (.inr ((e4.1.1,e4.1.2),e4.2))))
def k79:PF UV:=⟨.stc 127 .t127,[.str],[],.p2 69,λb v=>Qsh b v⟩
def Jdb:Hints UV:=⟨[],[]⟩
theorem J33:ZM DV W0 prog 79 k79:=YV (C:=CV) rfl Qu Qg (Qt (tb:=[]) Qg trivial) (X9 (JR (tb:=[(74,k74)]) Qg ⟨Du,trivial⟩) (KZ (tb:=[(77,k77)]) Qg ⟨Q69,trivial⟩)) func79 J8r Jdb k79 rfl rfl (λb v=>by kernel_rfl)
theorem J8u:Qd prog 76:=enters_of func76 (by kernel_rfl) rfl
def J1q(b:Rdr):Option ((Rdr×((List UInt8)))⊕((Int×Int)×Rdr)):=Option.bind (QH (Qsk b)) λ(r1:Rdr×((List UInt8)))=>Option.bind (Q1p r1.2) λ(x3:Bool)=>Option.bind (Qew r1.1 x3) (Sum.elim (λ(r4:Rdr×Unit)=>some (.inl ((Rdr.mk r4.1.l (Qr (r4.1.n+1))),r1.2))) (λ(e5:(Int×Int)×Rdr)=>some (.inr ((e5.1.1,e5.1.2),e5.2))))
def k76:PF UV:=⟨.stc 127 .t127,[],[.str],.p2 69,λb v=>J1q b⟩
def Jde:Hints UV:=⟨[],[]⟩
theorem Qti:ZM DV W0 prog 76 k76:=YV (C:=CV) rfl Qu Qg (Qt (tb:=[(110,k110)]) Qg ⟨Qyt,trivial⟩) (X9 (JR (tb:=[(74,k74)]) Qg ⟨Du,trivial⟩) (KZ (tb:=[(77,k77)]) Qg ⟨Q69,trivial⟩)) func76 J8u Jde k76 rfl rfl (λb v=>by kernel_rfl)
theorem J8v:Qd prog 75:=enters_of func75 (by kernel_rfl) rfl
def J1r(b:Rdr):Option ((Rdr×Lvl)⊕((Int×Int)×Rdr)):=Option.bind (QH (Qsk b)) λ(r1:Rdr×((List UInt8)))=>Option.bind (J7r r1.2 ([91]:List UInt8)) λ(x3:Bool)=>Option.bind (Qew r1.1 x3) (Sum.elim (λ(r4:Rdr×Unit)=>Qa (cond (decide (0<=(1:Int))) (cond (Nat.ble (1:Int).toNat (Qr ((r1.2.length:Int)-1)).toNat) (WE (Qr ((r1.2.length:Int)-1)) r1.2.length) false) false) (Option.bind (Q0a (List.drop (1:Int).toNat (List.take (Qr ((r1.2.length:Int)-1)).toNat r1.2))) λ(x6:Lvl×Int)=>Option.bind (Qew r4.1 (x6.2==0)) (Sum.elim (λ(r7:Rdr×Unit)=>some (.inl ((Rdr.mk r7.1.l (Qr (r7.1.n+1))),x6.1))) (λ(e8:(Int×Int)×Rdr)=>some (.inr ((e8.1.1,e8.1.2),e8.2)))))) (λ(e5:(Int×Int)×Rdr)=>some (.inr ((e5.1.1,e5.1.2),e5.2))))
def k75:PF UV:=⟨.stc 127 .t127,[],[.stc .t82],.p2 69,λb v=>J1r b⟩
def Jdf:Hints UV:=⟨[],[]⟩
theorem J34:ZM DV W0 prog 75 k75:=YV (C:=CV) rfl Qu Qg (Qt (tb:=[(126,k126),(127,k127)]) Qg ⟨Qyp,Qyo,trivial⟩) (X9 (JR (tb:=[(74,k74)]) Qg ⟨Du,trivial⟩) (KZ (tb:=[(77,k77)]) Qg ⟨Q69,trivial⟩)) func75 J8v Jdf k75 rfl rfl (λb v=>by kernel_rfl)
theorem J8x:Qd prog 73:=enters_of func73 (by kernel_rfl) rfl
def J7j(b:Rdr):Option ((Rdr×Tm)⊕((Int×Int)×Rdr)):=Option.bind (QH (Qsk b)) λ(r1:Rdr×((List UInt8)))=>Option.bind (α:=((List Tkn)×Int)⊕((Rdr×Tm)⊕((Int×Int)×Rdr))) (cond ((r1.2==([]:List UInt8))) (Option.bind (Qox r1.1) (Sum.elim (λ(r13:Rdr×Unit)=>some (.inl (r13.1.l,r13.1.n))) (λ(e14:(Int×Int)×Rdr)=>some (.inr (.inr ((e14.1.1,e14.1.2),e14.2)))))) (cond ((r1.2==([112,114,111,112]:List UInt8))) (some (.inr (.inl ((Rdr.mk r1.1.l (Qr (r1.1.n+1))),(Tm.mk 1 0 ([]:List UInt8) ([]) ([])))))) (Option.bind (Option.bind (QP r1.2 0) λ(x18:UInt8)=>cond (((x18.toNat:Int)==35)) (some true) (Option.bind (QP r1.2 0) λ(x19:UInt8)=>some ((x19.toNat:Int)==63))) λ(v17:Bool)=>cond v17 (Qa (WE (1:Int) r1.2.length) (Option.bind (Q1n (List.drop (1:Int).toNat r1.2)) λ(x20:Int×Bool)=>Option.bind (QP r1.2 0) λ(x21:UInt8)=>cond (((x21.toNat:Int)==63)) (some (.inr (.inl ((Rdr.mk r1.1.l (Qr (r1.1.n+1))),(Tm.mk 12 x20.1 ([]:List UInt8) ([]) ([])))))) (some (.inr (.inl ((Rdr.mk r1.1.l (Qr (r1.1.n+1))),(Tm.mk 0 x20.1 ([]:List UInt8) ([]) ([])))))))) (some (.inl (r1.1.l,r1.1.n)))))) (Sum.elim (λ(v12:(List Tkn)×Int)=>Option.bind (J1q (Rdr.mk v12.1 v12.2)) (Sum.elim (λ(r23:Rdr×((List UInt8)))=>some (.inl (r23.1,(Tm.mk 3 0 r23.2 ([]) ([]))))) (λ(e24:(Int×Int)×Rdr)=>some (.inr ((e24.1.1,e24.1.2),e24.2))))) (λ(o22:(Rdr×Tm)⊕((Int×Int)×Rdr))=>some o22))
def k73:PF UV:=⟨.stc 127 .t127,[],[.stc .t25],.p2 69,λb v=>J7j b⟩
def Jdh:Hints UV:=⟨[(4,⟨[([.at 0 0],.sl .t132),([.at 0 1],.int .i64)],[],true⟩),(10,⟨[([.reg 24],.bool)],[],false⟩)],[]⟩
theorem J35:ZM DV W0 prog 73 k73:=YV (C:=CV) rfl Qu Qg (Qt (tb:=[(125,k125)]) Qg ⟨Qmk,trivial⟩) (X9 (JR (tb:=[(74,k74)]) Qg ⟨Du,trivial⟩) (KZ (tb:=[(76,k76),(124,k124)]) Qg ⟨Qti,Qml,trivial⟩)) func73 J8x Jdh k73 rfl rfl (λb v=>by kernel_rfl)
theorem J9f:Qd prog 36:=enters_of func36 (by kernel_rfl) rfl
theorem Qub:Qd prog 64:=enters_of func64 (by kernel_rfl) rfl
def J65:IH UV:=⟨f64,⟨[],[]⟩,.st⟩
def Qsv(rc:Rdr×Unit->Option ((Rdr×Tm)⊕((Int×Int)×Rdr)))(b:Rdr):Option ((Rdr×Tm)⊕((Int×Int)×Rdr)):=Option.bind (QH (J6j b ([40]:List UInt8))) λ(r1:Rdr×Bool)=>cond ((!r1.2)) (Option.bind (J7j r1.1) (Sum.elim (λ(r3:Rdr×Tm)=>some (.inl (r3.1,r3.2))) (λ(e4:(Int×Int)×Rdr)=>some (.inr ((e4.1.1,e4.1.2),e4.2))))) (Option.bind (QH (Qsk (Rdr.mk r1.1.l (Qr (r1.1.n+1))))) λ(r5:Rdr×((List UInt8)))=>cond ((r5.2==([115,111,114,116]:List UInt8))) (Option.bind (J1r (Rdr.mk r5.1.l (Qr (r5.1.n+1)))) (Sum.elim (λ(r7:Rdr×Lvl)=>Option.bind (Qsh r7.1 ([41]:List UInt8)) (Sum.elim (λ(r9:Rdr×Unit)=>some (.inl (r9.1,(Tm.mk 2 0 ([]:List UInt8) ([r7.2]:List Lvl) ([]))))) (λ(e10:(Int×Int)×Rdr)=>some (.inr ((e10.1.1,e10.1.2),e10.2))))) (λ(e8:(Int×Int)×Rdr)=>some (.inr ((e8.1.1,e8.1.2),e8.2))))) (cond ((r5.2==([99,111,110,115,116]:List UInt8))) (Option.bind (J1q (Rdr.mk r5.1.l (Qr (r5.1.n+1)))) (Sum.elim (λ(r11:Rdr×((List UInt8)))=>Option.bind (Qc (σ:=(List Tkn)×Int×(List Lvl)) (β:=((List Tkn)×Int×(List Lvl))⊕((Rdr×Tm)⊕((Int×Int)×Rdr))) (λs25=>Option.bind (QH (J6j (Rdr.mk s25.1 s25.2.1) ([41]:List UInt8))) λ(r27:Rdr×Bool)=>cond ((!r27.2)) (Option.bind (J1r r27.1) (Sum.elim (λ(r29:Rdr×Lvl)=>Qa (Nat.ble (s25.2.2.length+([r29.2]:List Lvl).length) 1000000000) (some (.next (r29.1.l,r29.1.n,(s25.2.2++([r29.2]:List Lvl)))))) (λ(e30:(Int×Int)×Rdr)=>some (.done (.inr (.inr ((e30.1.1,e30.1.2),e30.2))))))) (some (.done (.inl (r27.1.l,r27.1.n,s25.2.2))))) Qf (r11.1.l,r11.1.n,([]:List Lvl))) (Sum.elim (λ(v26:(List Tkn)×Int×(List Lvl))=>Option.bind (Qsh (Rdr.mk v26.1 v26.2.1) ([41]:List UInt8)) (Sum.elim (λ(r31:Rdr×Unit)=>some (.inl (r31.1,(Tm.mk 3 0 r11.2 v26.2.2 ([]))))) (λ(e32:(Int×Int)×Rdr)=>some (.inr ((e32.1.1,e32.1.2),e32.2))))) (λ(o33:(Rdr×Tm)⊕((Int×Int)×Rdr))=>some o33))) (λ(e12:(Int×Int)×Rdr)=>some (.inr ((e12.1.1,e12.1.2),e12.2))))) (Option.bind (Qc (σ:=Int×Int) (β:=Int) (λs40=>cond ((decide (s40.1<8))) (Option.bind (QP ([([97,112,112]:List UInt8),([108,97,109]:List UInt8),([112,105]:List UInt8),([115,105,103,109,97]:List UInt8),([112,97,105,114]:List UInt8),([102,115,116]:List UInt8),([115,110,100]:List UInt8),([108,101,116]:List UInt8)]:List (List UInt8)) s40.1) λ(x42:List UInt8)=>Option.bind (cond ((x42==r5.2)) (some (Qr (4+s40.1))) (some s40.2)) λ(v43:Int)=>some (.next ((Qr (s40.1+1)),v43))) (some (.done s40.2))) Qf (0,0)) λ(v41:Int)=>Option.bind (Qew r5.1 (v41 != 0)) (Sum.elim (λ(r44:Rdr×Unit)=>Option.bind (J7i v41) λ(x46:Int)=>Option.bind (Qc (σ:=Int×(List Tkn)×Int×(List Tm)) (β:=((List Tkn)×Int×(List Tm))⊕((Rdr×Tm)⊕((Int×Int)×Rdr))) (λs53=>cond ((decide (s53.1<x46))) (Option.bind (rc ((Rdr.mk s53.2.1 s53.2.2.1),())) (Sum.elim (λ(r55:Rdr×Tm)=>Qa (Nat.ble (s53.2.2.2.length+([r55.2]:List Tm).length) 1000000000) (some (.next ((Qr (s53.1+1)),r55.1.l,r55.1.n,(s53.2.2.2++([r55.2]:List Tm)))))) (λ(e56:(Int×Int)×Rdr)=>some (.done (.inr (.inr ((e56.1.1,e56.1.2),e56.2))))))) (some (.done (.inl (s53.2.1,s53.2.2.1,s53.2.2.2))))) Qf (0,r44.1.l,(Qr (r44.1.n+1)),([]:List Tm))) (Sum.elim (λ(v54:(List Tkn)×Int×(List Tm))=>Option.bind (Qsh (Rdr.mk v54.1 v54.2.1) ([41]:List UInt8)) (Sum.elim (λ(r57:Rdr×Unit)=>some (.inl (r57.1,(Tm.mk v41 0 ([]:List UInt8) ([]) v54.2.2)))) (λ(e58:(Int×Int)×Rdr)=>some (.inr ((e58.1.1,e58.1.2),e58.2))))) (λ(o59:(Rdr×Tm)⊕((Int×Int)×Rdr))=>some o59))) (λ(e45:(Int×Int)×Rdr)=>some (.inr ((e45.1.1,e45.1.2),e45.2)))))))
def Jb7:Rdr×Unit->Option ((Rdr×Tm)⊕((Int×Int)×Rdr)):=Jm (λrc v=>Qsv rc v.1) Qf
def Jar(b:Rdr):Option ((Rdr×Tm)⊕((Int×Int)×Rdr)):=Jb7 (b,())
def k36:PF UV:=⟨.stc 127 .t127,[],[.stc .t25],.p2 69,λb v=>Jar b⟩
def Jdr:Hints UV:=⟨[(17,⟨[([.at 0 0],.sl .t132),([.at 0 1],.int .i64),([.at 3 3],.app 82 .t82)],[([.at 0 0],.sl .t132),([.at 0 1],.int .i64),([.at 3 3],.app 82 .t82)],true⟩),(23,⟨[([.reg 24],.int .i64),([.at 3 0],.int .i64)],[([.at 3 0],.int .i64)],false⟩),(29,⟨[([.at 3 0],.int .i64)],[],false⟩),(35,⟨[([.reg 50],.int .i64),([.at 0 0],.sl .t132),([.at 0 1],.int .i64),([.at 3 4],.app 25 .t25)],[([.at 0 0],.sl .t132),([.at 0 1],.int .i64),([.at 3 4],.app 25 .t25)],true⟩)],[(21,[3,4,5,7]),(39,[3,4,5,7])]⟩
theorem Qy9(rc:Rdr×Unit->Option ((Rdr×Tm)⊕((Int×Int)×Rdr)))(H:∀(u:Rdr×Unit)(r:(Rdr×Tm)⊕((Int×Int)×Rdr)),rc u=some r->CallO W0 prog 36 (.one (.ptr 0 0)::QG DV k36.args u.2) ((Q73 k36.bx u.1).er DV) (Qo1 DV k36.bx k36.res k36.pk r)):ZM DV W0 prog 36 ⟨k36.bx,k36.args,k36.res,k36.pk,λb v=>Qsv rc b⟩:=YV (C:=CV) rfl Qu Qg (Qt (tb:=[(78,k78)]) Qg ⟨Qth,trivial⟩) (Wm (C:=CV) rfl Qu Qg (Qt (tb:=[(78,k78)]) Qg ⟨Qth,trivial⟩) (X9 (JR (tb:=[(72,k72),(74,k74)]) Qg ⟨J36,Du,trivial⟩) (KZ (tb:=[(36,(⟨k36.bx,k36.args,k36.res,k36.pk,λb v=>rc (b,v)⟩:PF UV)),(73,k73),(75,k75),(76,k76),(77,k77),(79,k79)]) Qg ⟨⟨⟨rfl,rfl⟩,λb v y h=>H (b,v) y h⟩,J35,J34,Qti,Q69,J33,trivial⟩)) (I:=[(64,J65)]) ⟨⟨func64,Qub⟩,trivial⟩ 8) func36 J9f Jdr _ rfl rfl (λb v=>by kernel_rfl)
theorem J3d:ZM DV W0 prog 36 k36:=⟨⟨rfl,rfl⟩,λb v r h=>Yt (C:=λ(u:Rdr×Unit)(r:(Rdr×Tm)⊕((Int×Int)×Rdr))=>CallO W0 prog 36 (.one (.ptr 0 0)::QG DV k36.args u.2) ((Q73 k36.bx u.1).er DV) (Qo1 DV k36.bx k36.res k36.pk r)) (λrc H u r h=>(Qy9 rc H).2 u.1 u.2 r h) Qf (b,v) r h⟩
theorem J9e:Qd prog 37:=enters_of func37 (by kernel_rfl) rfl
def J7l(b:Rdr)(a1:List UInt8):Option ((Rdr×Unit)⊕((Int×Int)×Rdr)):=Option.bind (α:=((List Tkn)×Int)⊕((Rdr×Unit)⊕((Int×Int)×Rdr))) (Option.bind (QH (Qsk b)) λ(r9:Rdr×((List UInt8)))=>cond ((r9.2==([]:List UInt8))) (Option.bind (QP r9.1.l r9.1.n) λ(x11:Tkn)=>Option.bind (Qew r9.1 (x11.at_==(a1.length:Int))) (Sum.elim (λ(r12:Rdr×Unit)=>some (.inl (r12.1.l,r12.1.n))) (λ(e13:(Int×Int)×Rdr)=>some (.inr (.inr ((e13.1.1,e13.1.2),e13.2)))))) (Option.bind (Qew r9.1 false) (Sum.elim (λ(r14:Rdr×Unit)=>some (.inl (r14.1.l,r14.1.n))) (λ(e15:(Int×Int)×Rdr)=>some (.inr (.inr ((e15.1.1,e15.1.2),e15.2))))))) (Sum.elim (λ(v8:(List Tkn)×Int)=>some (.inl ((Rdr.mk v8.1 v8.2),()))) (λ(o16:(Rdr×Unit)⊕((Int×Int)×Rdr))=>some o16))
def k37:PF UV:=⟨.stc 127 .t127,[.str],[],.p2 69,λb v=>J7l b v⟩
def Jdq:Hints UV:=⟨[(0,⟨[([.at 0 0],.sl .t132),([.at 0 1],.int .i64)],[],true⟩)],[(0,[2,20])]⟩
theorem J3c:ZM DV W0 prog 37 k37:=YV (C:=CV) rfl Qu Qg (Qt (tb:=[]) Qg trivial) (X9 (JR (tb:=[(74,k74)]) Qg ⟨Du,trivial⟩) (KZ (tb:=[(77,k77)]) Qg ⟨Q69,trivial⟩)) func37 J9e Jdq k37 rfl rfl (λb v=>by kernel_rfl)
theorem J4m:Qd prog 139:=enters_of func139 (by kernel_rfl) rfl
def Qie(a0:List UInt8)(a1:Int)(a2:Int):Option ((List UInt8)):=Option.bind (Qsq a1) λ(x1:(List UInt8))=>Qa (Nat.ble (a0.length+x1.length) 1000000000) (Option.bind (cond ((decide (0<a2))) (Option.bind (Qsq a2) λ(x4:(List UInt8))=>Qa (Nat.ble (([32,43,32]:List UInt8).length+x4.length) 1000000000) (Qa (Nat.ble ((a0++x1).length+(([32,43,32]:List UInt8)++x4).length) 1000000000) (some ((a0++x1)++(([32,43,32]:List UInt8)++x4))))) (some (a0++x1))) λ(v3:(List UInt8))=>some v3)
def k139:KF UV:=⟨[.str,.int .i64,.int .i64],[.str],λv=>Qie v.1 v.2.1 v.2.2⟩
def Jca:Hints UV:=⟨[(3,⟨[([.reg 7],.str)],[],false⟩)],[]⟩
theorem Qmh:Jv DV W0 prog 139 k139:=JD (C:=CV) rfl Qu Qg (Qt (tb:=[(62,k62)]) Qg ⟨Dv,trivial⟩) J2 func139 J4m Jca k139 rfl (λv=>by kernel_rfl)
theorem J56:Qd prog 114:=enters_of func114 (by kernel_rfl) rfl
theorem J4l:Qd prog 140:=enters_of func140 (by kernel_rfl) rfl
theorem J46:Qd prog 163:=enters_of func163 (by kernel_rfl) rfl
def Qvl:IH UV:=⟨f140,⟨[],[]⟩,.st⟩
def Qvk:IH UV:=⟨f163,⟨[(1,⟨[([.reg 3],.int .i64),([.fat 0 4 0],.app 9 .t9)],[([.fat 0 4 0],.app 9 .t9)],false⟩),(4,⟨[([.fat 0 4 0],.app 9 .t9)],[],false⟩)],[]⟩,.st⟩
def Qxv(a0:Lvl):Option ((List UInt8)×Int):=Option.bind (Q84 a0) λ(x1:Bool)=>cond ((!x1)) (some (([]:List UInt8),3)) (Option.bind (cond ((decide (0<a0.c))) (some true) (some ((a0.vs.length:Int)==0))) λ(v2:Bool)=>Option.bind (cond v2 (Option.bind (Qsq a0.c) λ(x5:(List UInt8))=>Qa (Nat.ble (([]:List ((List UInt8))).length+([x5]:List ((List UInt8))).length) 1000000000) (some (([]:List ((List UInt8)))++([x5]:List ((List UInt8)))))) (some ([]:List ((List UInt8))))) λ(v4:(List ((List UInt8))))=>Option.bind (Qc (σ:=Int×(List ((List UInt8)))) (β:=(List ((List UInt8)))) (λs12=>cond ((decide (s12.1<(a0.vs.length:Int)))) (Option.bind (QP a0.vs s12.1) λ(x14:LV)=>cond ((decide (0<=x14.1))) (Option.bind (Qie ([117]:List UInt8) x14.1 x14.2) λ(x15:(List UInt8))=>Qa (Nat.ble (s12.2.length+([x15]:List ((List UInt8))).length) 1000000000) (some (.next ((Qr (s12.1+1)),(s12.2++([x15]:List ((List UInt8)))))))) (some (.next ((Qr (s12.1+1)),s12.2)))) (some (.done s12.2))) Qf (0,v4)) λ(v13:(List ((List UInt8))))=>Option.bind (Qc (σ:=Int×(List ((List UInt8)))) (β:=(List ((List UInt8)))) (λs31=>cond ((decide (0<=s31.1))) (Option.bind (Option.bind (QP a0.vs s31.1) λ(x36:LV)=>cond ((decide (x36.1<0))) (Option.bind (Qie ([63]:List UInt8) (Qr ((-1)-x36.1)) x36.2) λ(x37:(List UInt8))=>Qa (Nat.ble (s31.2.length+([x37]:List ((List UInt8))).length) 1000000000) (some (s31.2++([x37]:List ((List UInt8)))))) (some s31.2)) λ(v35:(List ((List UInt8))))=>some (.next ((Qr (s31.1-1)),v35))) (some (.done s31.2))) Qf ((Qr ((a0.vs.length:Int)-1)),v13)) λ(v32:(List ((List UInt8))))=>cond (((v32.length:Int)==1)) (Option.bind (QP v32 0) λ(x38:(List UInt8))=>some (x38,0)) (Option.bind (J7q v32 ([44,32]:List UInt8)) λ(x39:(List UInt8))=>Qa (Nat.ble (([109,97,120,40]:List UInt8).length+x39.length) 1000000000) (Qa (Nat.ble ((([109,97,120,40]:List UInt8)++x39).length+([41]:List UInt8).length) 1000000000) (some (((([109,97,120,40]:List UInt8)++x39)++([41]:List UInt8)),0)))))
def k114:KF UV:=⟨[.stc .t82],[.str,.int .i64],λv=>Qxv v⟩
def Jcj:Hints UV:=⟨[(5,⟨[([.reg 20],.bool)],[],false⟩),(6,⟨[([.at 4 0],.app 9 .t9)],[],false⟩),(9,⟨[([.reg 30],.int .i64),([.at 4 0],.app 9 .t9)],[([.at 4 0],.app 9 .t9)],false⟩)],[(7,[4,5,6]),(16,[6,7,8]),(24,[7,8,9])]⟩
theorem Qys:Jv DV W0 prog 114 k114:=JD (C:=CV) rfl Qu Qg (Qt (tb:=[(62,k62),(136,k136),(139,k139),(141,k141)]) Qg ⟨Dv,Qmi,Qmh,Qmg,trivial⟩) (Wm (C:=CV) rfl Qu Qg (Qt (tb:=[(62,k62),(136,k136),(139,k139),(141,k141)]) Qg ⟨Dv,Qmi,Qmh,Qmg,trivial⟩) J2 (I:=[(140,Qvl),(163,Qvk)]) ⟨⟨func140,J4l⟩,⟨func163,J46⟩,trivial⟩ 8) func114 J56 Jcj k114 rfl (λv=>by kernel_rfl)
theorem J96:Qd prog 63:=enters_of func63 (by kernel_rfl) rfl
def J0d(a0:Lvl):Option ((List UInt8)):=Option.bind (Qxv a0) λ(x1:(List UInt8)×Int)=>Qa (Nat.ble (([91]:List UInt8).length+x1.1.length) 1000000000) (Qa (Nat.ble ((([91]:List UInt8)++x1.1).length+([93]:List UInt8).length) 1000000000) (some ((([91]:List UInt8)++x1.1)++([93]:List UInt8))))
def k63:KF UV:=⟨[.stc .t82],[.str],λv=>J0d v⟩
def Jdm:Hints UV:=⟨[],[]⟩
theorem Qca:Jv DV W0 prog 63 k63:=JD (C:=CV) rfl Qu Qg (Qt (tb:=[(114,k114)]) Qg ⟨Qys,trivial⟩) J2 func63 J96 Jdm k63 rfl (λv=>by kernel_rfl)
theorem J0j:Qd prog 28:=enters_of func28 (by kernel_rfl) rfl
theorem J0i:Qd prog 61:=enters_of func61 (by kernel_rfl) rfl
def J68:IH UV:=⟨f61,⟨[],[]⟩,.st⟩
def J66:IH UV:=⟨f64,⟨[],[]⟩,.st⟩
def Qi3(rc:(List Byt)×Tm->Option (((List Byt)×Unit)⊕(Unit×(List Byt))))(b:List Byt)(a1:Tm):Option (((List Byt)×Unit)⊕(Unit×(List Byt))):=Option.bind (α:=((List Byt))⊕(((List Byt)×Unit)⊕(Unit×(List Byt)))) (cond ((a1.kind==0)) (Option.bind (Qsq a1.index) λ(x467:(List UInt8))=>Qa (Nat.ble (([35]:List UInt8).length+x467.length) 1000000000) (Qa (Nat.ble (b.length+(([35]:List UInt8)++x467).length) 1000000000) (some (.inl (b++(List.map (λb:UInt8=>(⟨b.toNat⟩:Byt)) (([35]:List UInt8)++x467))))))) (Option.bind (α:=((List Byt))⊕(((List Byt)×Unit)⊕(Unit×(List Byt)))) (cond ((a1.kind==12)) (Option.bind (Qsq a1.index) λ(x700:(List UInt8))=>Qa (Nat.ble (([63]:List UInt8).length+x700.length) 1000000000) (Qa (Nat.ble (b.length+(([63]:List UInt8)++x700).length) 1000000000) (some (.inl (b++(List.map (λb:UInt8=>(⟨b.toNat⟩:Byt)) (([63]:List UInt8)++x700))))))) (Option.bind (α:=((List Byt))⊕(((List Byt)×Unit)⊕(Unit×(List Byt)))) (cond ((a1.kind==1)) (Qa (Nat.ble (b.length+([112,114,111,112]:List UInt8).length) 1000000000) (some (.inl (b++(List.map (λb:UInt8=>(⟨b.toNat⟩:Byt)) ([112,114,111,112]:List UInt8)))))) (Option.bind (α:=((List Byt))⊕(((List Byt)×Unit)⊕(Unit×(List Byt)))) (cond ((a1.kind==2)) (Option.bind (QP a1.levels 0) λ(x873:Lvl)=>Option.bind (J0d x873) λ(x874:(List UInt8))=>Qa (Nat.ble (([40,115,111,114,116,32]:List UInt8).length+x874.length) 1000000000) (Qa (Nat.ble ((([40,115,111,114,116,32]:List UInt8)++x874).length+([41]:List UInt8).length) 1000000000) (Qa (Nat.ble (b.length+((([40,115,111,114,116,32]:List UInt8)++x874)++([41]:List UInt8)).length) 1000000000) (some (.inl (b++(List.map (λb:UInt8=>(⟨b.toNat⟩:Byt)) ((([40,115,111,114,116,32]:List UInt8)++x874)++([41]:List UInt8))))))))) (Option.bind (α:=((List Byt))⊕(((List Byt)×Unit)⊕(Unit×(List Byt)))) (cond ((a1.kind==3)) (Option.bind (cond (((a1.levels.length:Int)==0)) (some (!(a1.name==([112,114,111,112]:List UInt8)))) (some false)) λ(v902:Bool)=>cond v902 (Qa (Nat.ble (b.length+a1.name.length) 1000000000) (some (.inr (.inl ((b++(List.map (λb:UInt8=>(⟨b.toNat⟩:Byt)) a1.name)),()))))) (Qa (Nat.ble (([40,99,111,110,115,116,32]:List UInt8).length+a1.name.length) 1000000000) (Qa (Nat.ble (b.length+(([40,99,111,110,115,116,32]:List UInt8)++a1.name).length) 1000000000) (Option.bind (Qc (σ:=Int×(List Byt)) (β:=(List Byt)) (λs909=>cond ((decide (s909.1<(a1.levels.length:Int)))) (Option.bind (QP a1.levels s909.1) λ(x911:Lvl)=>Option.bind (J0d x911) λ(x912:(List UInt8))=>Qa (Nat.ble (([32]:List UInt8).length+x912.length) 1000000000) (Qa (Nat.ble (s909.2.length+(([32]:List UInt8)++x912).length) 1000000000) (some (.next ((Qr (s909.1+1)),(s909.2++(List.map (λb:UInt8=>(⟨b.toNat⟩:Byt)) (([32]:List UInt8)++x912)))))))) (some (.done s909.2))) Qf (0,(b++(List.map (λb:UInt8=>(⟨b.toNat⟩:Byt)) (([40,99,111,110,115,116,32]:List UInt8)++a1.name))))) λ(v910:(List Byt))=>Qa (Nat.ble (v910.length+([41]:List UInt8).length) 1000000000) (some (.inl (v910++(List.map (λb:UInt8=>(⟨b.toNat⟩:Byt)) ([41]:List UInt8))))))))) (Option.bind (QP ([([97,112,112]:List UInt8),([108,97,109]:List UInt8),([112,105]:List UInt8),([115,105,103,109,97]:List UInt8),([112,97,105,114]:List UInt8),([102,115,116]:List UInt8),([115,110,100]:List UInt8),([108,101,116]:List UInt8)]:List (List UInt8)) (Qr (a1.kind-4))) λ(x913:List UInt8)=>Qa (Nat.ble (([40]:List UInt8).length+x913.length) 1000000000) (Qa (Nat.ble (b.length+(([40]:List UInt8)++x913).length) 1000000000) (Option.bind (Qc (σ:=Int×(List Byt)) (β:=(List Byt)) (λs923=>cond ((decide (s923.1<(a1.kids.length:Int)))) (Option.bind (QP a1.kids s923.1) λ(x925:Tm)=>Qa (Nat.ble (s923.2.length+([32]:List UInt8).length) 1000000000) (Option.bind (QH (rc ((s923.2++(List.map (λb:UInt8=>(⟨b.toNat⟩:Byt)) ([32]:List UInt8))),x925))) λ(r926:(List Byt)×Unit)=>some (.next ((Qr (s923.1+1)),r926.1)))) (some (.done s923.2))) Qf (0,(b++(List.map (λb:UInt8=>(⟨b.toNat⟩:Byt)) (([40]:List UInt8)++x913))))) λ(v924:(List Byt))=>Qa (Nat.ble (v924.length+([41]:List UInt8).length) 1000000000) (some (.inl (v924++(List.map (λb:UInt8=>(⟨b.toNat⟩:Byt)) ([41]:List UInt8))))))))) (Sum.elim (λ(v901:(List Byt))=>some (.inl v901)) (λ(o928:((List Byt)×Unit)⊕(Unit×(List Byt)))=>some (.inr o928))))) (Sum.elim (λ(v872:(List Byt))=>some (.inl v872)) (λ(o929:((List Byt)×Unit)⊕(Unit×(List Byt)))=>some (.inr o929))))) (Sum.elim (λ(v815:(List Byt))=>some (.inl v815)) (λ(o930:((List Byt)×Unit)⊕(Unit×(List Byt)))=>some (.inr o930))))) (Sum.elim (λ(v699:(List Byt))=>some (.inl v699)) (λ(o931:((List Byt)×Unit)⊕(Unit×(List Byt)))=>some (.inr o931))))) (Sum.elim (λ(v466:(List Byt))=>some (.inl (v466,()))) (λ(o932:((List Byt)×Unit)⊕(Unit×(List Byt)))=>some o932))
def J7m:(List Byt)×Tm->Option (((List Byt)×Unit)⊕(Unit×(List Byt))):=Jm (λrc v=>Qi3 rc v.1 v.2) Qf
def Jba(b:List Byt)(a1:Tm):Option (((List Byt)×Unit)⊕(Unit×(List Byt))):=J7m (b,a1)
def k28:PF UV:=⟨.bld 62 5 .t5,[.stc .t25],[],.p0 62,λb v=>Jba b v⟩
def Jdt:Hints UV:=⟨[(4,⟨[([.at 0 1],.app 5 .t5)],[],true⟩),(7,⟨[([.at 0 1],.app 5 .t5)],[],true⟩),(10,⟨[([.at 0 1],.app 5 .t5)],[],true⟩),(13,⟨[([.at 0 1],.app 5 .t5)],[],true⟩),(16,⟨[([.at 0 1],.app 5 .t5)],[],true⟩),(17,⟨[([.reg 74],.bool)],[],false⟩),(22,⟨[([.reg 87],.int .i64),([.at 0 1],.app 5 .t5)],[([.at 0 1],.app 5 .t5)],false⟩),(32,⟨[([.reg 21],.int .i64),([.at 0 1],.app 5 .t5)],[([.at 0 1],.app 5 .t5)],false⟩)],[(30,[1,7])]⟩
theorem Qyb(rc:(List Byt)×Tm->Option (((List Byt)×Unit)⊕(Unit×(List Byt))))(H:∀(u:(List Byt)×Tm)(r:((List Byt)×Unit)⊕(Unit×(List Byt))),rc u=some r->CallO W0 prog 28 (.one (.ptr 0 0)::QG DV k28.args u.2) ((Q73 k28.bx u.1).er DV) (Qo1 DV k28.bx k28.res k28.pk r)):ZM DV W0 prog 28 ⟨k28.bx,k28.args,k28.res,k28.pk,λb v=>Qi3 rc b v⟩:=YV (C:=CV) rfl Qu Qg (Qt (tb:=[(62,k62),(63,k63)]) Qg ⟨Dv,Qca,trivial⟩) (Wm (C:=CV) rfl Qu Qg (Qt (tb:=[(62,k62),(63,k63)]) Qg ⟨Dv,Qca,trivial⟩) (X9 J0n (JR (tb:=[(28,(⟨k28.bx,k28.args,k28.res,k28.pk,λb v=>rc (b,v)⟩:PF UV))]) Qg ⟨⟨⟨rfl,rfl⟩,λb v y h=>H (b,v) y h⟩,trivial⟩)) (I:=[(61,J68),(64,J66)]) ⟨⟨func61,J0i⟩,⟨func64,Qub⟩,trivial⟩ 8) func28 J0j Jdt _ rfl rfl (λb v=>by kernel_rfl)
theorem J3g:ZM DV W0 prog 28 k28:=⟨⟨rfl,rfl⟩,λb v r h=>Yt (C:=λ(u:(List Byt)×Tm)(r:((List Byt)×Unit)⊕(Unit×(List Byt)))=>CallO W0 prog 28 (.one (.ptr 0 0)::QG DV k28.args u.2) ((Q73 k28.bx u.1).er DV) (Qo1 DV k28.bx k28.res k28.pk r)) (λrc H u r h=>(Qyb rc H).2 u.1 u.2 r h) Qf (b,v) r h⟩
theorem J9s:Qd prog 13:=enters_of func13 (by kernel_rfl) rfl
theorem J9m:Qd prog 29:=enters_of func29 (by kernel_rfl) rfl
def J6e:IH UV:=⟨f28,⟨[(17,⟨[([.reg 74],.bool)],[],false⟩),(22,⟨[([.reg 87],.int .i64),([.at 0 1],.app 5 .t5)],[([.at 0 1],.app 5 .t5)],false⟩),(32,⟨[([.reg 21],.int .i64),([.at 0 1],.app 5 .t5)],[([.at 0 1],.app 5 .t5)],false⟩)],[(30,[1,7])]⟩,.st⟩
def J6d:IH UV:=⟨f29,⟨[],[]⟩,.lab [([.reg 2],.int .i64)]⟩
def J69:IH UV:=⟨f61,⟨[],[]⟩,.st⟩
def J67:IH UV:=⟨f64,⟨[],[]⟩,.st⟩
def Qlw(a0:Tm):Option ((List UInt8)×Int):=Option.bind (Qxa a0 1000000 1000000 1000000 1000000) λ(x1:Int)=>cond ((x1 != 0)) (some (([]:List UInt8),x1)) (cond ((a0.kind==0)) (Option.bind (Qsq a0.index) λ(x2:(List UInt8))=>Qa (Nat.ble (([35]:List UInt8).length+x2.length) 1000000000) (Qa (Nat.ble (([35]:List UInt8)++x2).length 1000000000) (Option.bind (some ((List.map (λb:UInt8=>(⟨b.toNat⟩:Byt)) (([35]:List UInt8)++x2)).length:Int)) λ(v3:Int)=>cond ((decide (65536<v3))) (some (([]:List UInt8),5)) (Qa (cond (List.all (List.map (λb:UInt8=>(⟨b.toNat⟩:Byt)) (([35]:List UInt8)++x2)) (λx:Byt=>cond (decide (0<=x.n)) (decide (x.n<256)) false)) (!(List.isEmpty (List.map (λb:UInt8=>(⟨b.toNat⟩:Byt)) (([35]:List UInt8)++x2)))) false) (some ((List.map Byt.u8 (List.map (λb:UInt8=>(⟨b.toNat⟩:Byt)) (([35]:List UInt8)++x2))),0)))))) (cond ((a0.kind==12)) (Option.bind (Qsq a0.index) λ(x4:(List UInt8))=>Qa (Nat.ble (([63]:List UInt8).length+x4.length) 1000000000) (Qa (Nat.ble (([63]:List UInt8)++x4).length 1000000000) (Option.bind (some ((List.map (λb:UInt8=>(⟨b.toNat⟩:Byt)) (([63]:List UInt8)++x4)).length:Int)) λ(v5:Int)=>cond ((decide (65536<v5))) (some (([]:List UInt8),5)) (Qa (cond (List.all (List.map (λb:UInt8=>(⟨b.toNat⟩:Byt)) (([63]:List UInt8)++x4)) (λx:Byt=>cond (decide (0<=x.n)) (decide (x.n<256)) false)) (!(List.isEmpty (List.map (λb:UInt8=>(⟨b.toNat⟩:Byt)) (([63]:List UInt8)++x4)))) false) (some ((List.map Byt.u8 (List.map (λb:UInt8=>(⟨b.toNat⟩:Byt)) (([63]:List UInt8)++x4))),0)))))) (cond ((a0.kind==1)) (Qa (Nat.ble ([112,114,111,112]:List UInt8).length 1000000000) (Option.bind (some ((List.map (λb:UInt8=>(⟨b.toNat⟩:Byt)) ([112,114,111,112]:List UInt8)).length:Int)) λ(v6:Int)=>cond ((decide (65536<v6))) (some (([]:List UInt8),5)) (Qa (cond (List.all (List.map (λb:UInt8=>(⟨b.toNat⟩:Byt)) ([112,114,111,112]:List UInt8)) (λx:Byt=>cond (decide (0<=x.n)) (decide (x.n<256)) false)) (!(List.isEmpty (List.map (λb:UInt8=>(⟨b.toNat⟩:Byt)) ([112,114,111,112]:List UInt8)))) false) (some ((List.map Byt.u8 (List.map (λb:UInt8=>(⟨b.toNat⟩:Byt)) ([112,114,111,112]:List UInt8))),0))))) (cond ((a0.kind==2)) (Option.bind (QP a0.levels 0) λ(x7:Lvl)=>Option.bind (J0d x7) λ(x8:(List UInt8))=>Qa (Nat.ble (([40,115,111,114,116,32]:List UInt8).length+x8.length) 1000000000) (Qa (Nat.ble ((([40,115,111,114,116,32]:List UInt8)++x8).length+([41]:List UInt8).length) 1000000000) (Qa (Nat.ble ((([40,115,111,114,116,32]:List UInt8)++x8)++([41]:List UInt8)).length 1000000000) (Option.bind (some ((List.map (λb:UInt8=>(⟨b.toNat⟩:Byt)) ((([40,115,111,114,116,32]:List UInt8)++x8)++([41]:List UInt8))).length:Int)) λ(v9:Int)=>cond ((decide (65536<v9))) (some (([]:List UInt8),5)) (Qa (cond (List.all (List.map (λb:UInt8=>(⟨b.toNat⟩:Byt)) ((([40,115,111,114,116,32]:List UInt8)++x8)++([41]:List UInt8))) (λx:Byt=>cond (decide (0<=x.n)) (decide (x.n<256)) false)) (!(List.isEmpty (List.map (λb:UInt8=>(⟨b.toNat⟩:Byt)) ((([40,115,111,114,116,32]:List UInt8)++x8)++([41]:List UInt8))))) false) (some ((List.map Byt.u8 (List.map (λb:UInt8=>(⟨b.toNat⟩:Byt)) ((([40,115,111,114,116,32]:List UInt8)++x8)++([41]:List UInt8)))),0))))))) (cond ((a0.kind==3)) (Option.bind (cond (((a0.levels.length:Int)==0)) (some (!(a0.name==([112,114,111,112]:List UInt8)))) (some false)) λ(v10:Bool)=>cond v10 (Qa (Nat.ble a0.name.length 1000000000) (Option.bind (some ((List.map (λb:UInt8=>(⟨b.toNat⟩:Byt)) a0.name).length:Int)) λ(v11:Int)=>cond ((decide (65536<v11))) (some (([]:List UInt8),5)) (Qa (cond (List.all (List.map (λb:UInt8=>(⟨b.toNat⟩:Byt)) a0.name) (λx:Byt=>cond (decide (0<=x.n)) (decide (x.n<256)) false)) (!(List.isEmpty (List.map (λb:UInt8=>(⟨b.toNat⟩:Byt)) a0.name))) false) (some ((List.map Byt.u8 (List.map (λb:UInt8=>(⟨b.toNat⟩:Byt)) a0.name)),0))))) (Qa (Nat.ble (([40,99,111,110,115,116,32]:List UInt8).length+a0.name.length) 1000000000) (Qa (Nat.ble (([40,99,111,110,115,116,32]:List UInt8)++a0.name).length 1000000000) (Option.bind (Qc (σ:=Int×(List Byt)) (β:=(List Byt)) (λs18=>cond ((decide (s18.1<(a0.levels.length:Int)))) (Option.bind (QP a0.levels s18.1) λ(x20:Lvl)=>Option.bind (J0d x20) λ(x21:(List UInt8))=>Qa (Nat.ble (([32]:List UInt8).length+x21.length) 1000000000) (Qa (Nat.ble (s18.2.length+(([32]:List UInt8)++x21).length) 1000000000) (some (.next ((Qr (s18.1+1)),(s18.2++(List.map (λb:UInt8=>(⟨b.toNat⟩:Byt)) (([32]:List UInt8)++x21)))))))) (some (.done s18.2))) Qf (0,(List.map (λb:UInt8=>(⟨b.toNat⟩:Byt)) (([40,99,111,110,115,116,32]:List UInt8)++a0.name)))) λ(v19:(List Byt))=>Qa (Nat.ble (v19.length+([41]:List UInt8).length) 1000000000) (Option.bind (some ((v19++(List.map (λb:UInt8=>(⟨b.toNat⟩:Byt)) ([41]:List UInt8))).length:Int)) λ(v22:Int)=>cond ((decide (65536<v22))) (some (([]:List UInt8),5)) (Qa (cond (List.all (v19++(List.map (λb:UInt8=>(⟨b.toNat⟩:Byt)) ([41]:List UInt8))) (λx:Byt=>cond (decide (0<=x.n)) (decide (x.n<256)) false)) (!(List.isEmpty (v19++(List.map (λb:UInt8=>(⟨b.toNat⟩:Byt)) ([41]:List UInt8))))) false) (some ((List.map Byt.u8 (v19++(List.map (λb:UInt8=>(⟨b.toNat⟩:Byt)) ([41]:List UInt8)))),0)))))))) (Option.bind (QP ([([97,112,112]:List UInt8),([108,97,109]:List UInt8),([112,105]:List UInt8),([115,105,103,109,97]:List UInt8),([112,97,105,114]:List UInt8),([102,115,116]:List UInt8),([115,110,100]:List UInt8),([108,101,116]:List UInt8)]:List (List UInt8)) (Qr (a0.kind-4))) λ(x23:List UInt8)=>Qa (Nat.ble (([40]:List UInt8).length+x23.length) 1000000000) (Qa (Nat.ble (([40]:List UInt8)++x23).length 1000000000) (Option.bind (Qc (σ:=Int×(List Byt)) (β:=(List Byt)) (λs33=>cond ((decide (s33.1<(a0.kids.length:Int)))) (Option.bind (QP a0.kids s33.1) λ(x35:Tm)=>Qa (Nat.ble (s33.2.length+([32]:List UInt8).length) 1000000000) (Option.bind (QH (Jba (s33.2++(List.map (λb:UInt8=>(⟨b.toNat⟩:Byt)) ([32]:List UInt8))) x35)) λ(r36:(List Byt)×Unit)=>some (.next ((Qr (s33.1+1)),r36.1)))) (some (.done s33.2))) Qf (0,(List.map (λb:UInt8=>(⟨b.toNat⟩:Byt)) (([40]:List UInt8)++x23)))) λ(v34:(List Byt))=>Qa (Nat.ble (v34.length+([41]:List UInt8).length) 1000000000) (Option.bind (some ((v34++(List.map (λb:UInt8=>(⟨b.toNat⟩:Byt)) ([41]:List UInt8))).length:Int)) λ(v38:Int)=>cond ((decide (65536<v38))) (some (([]:List UInt8),5)) (Qa (cond (List.all (v34++(List.map (λb:UInt8=>(⟨b.toNat⟩:Byt)) ([41]:List UInt8))) (λx:Byt=>cond (decide (0<=x.n)) (decide (x.n<256)) false)) (!(List.isEmpty (v34++(List.map (λb:UInt8=>(⟨b.toNat⟩:Byt)) ([41]:List UInt8))))) false) (some ((List.map Byt.u8 (v34++(List.map (λb:UInt8=>(⟨b.toNat⟩:Byt)) ([41]:List UInt8)))),0))))))))))))
def k13:KF UV:=⟨[.stc .t25],[.str,.int .i64],λv=>Qlw v⟩
def Jdy:Hints UV:=⟨[],[]⟩
theorem Qiw:Jv DV W0 prog 13 k13:=JD (C:=CV) rfl Qu Qg (Qt (tb:=[(27,k27),(62,k62),(63,k63)]) Qg ⟨Qtk,Dv,Qca,trivial⟩) (Wm (C:=CV) rfl Qu Qg (Qt (tb:=[(27,k27),(62,k62),(63,k63)]) Qg ⟨Qtk,Dv,Qca,trivial⟩) (X9 J0n (X9 J71 (JR (tb:=[(28,k28)]) Qg ⟨J3g,trivial⟩))) (I:=[(28,J6e),(29,J6d),(61,J69),(64,J67)]) ⟨⟨func28,J0j⟩,⟨func29,J9m⟩,⟨func61,J0i⟩,⟨func64,Qub⟩,trivial⟩ 8) func13 J9s Jdy k13 rfl (λv=>by kernel_rfl)
theorem J9q:Qd prog 15:=enters_of func15 (by kernel_rfl) rfl
theorem J9i:Qd prog 33:=enters_of func33 (by kernel_rfl) rfl
theorem J9h:Qd prog 34:=enters_of func34 (by kernel_rfl) rfl
theorem J9g:Qd prog 35:=enters_of func35 (by kernel_rfl) rfl
theorem J8z:Qd prog 71:=enters_of func71 (by kernel_rfl) rfl
theorem J4z:Qd prog 121:=enters_of func121 (by kernel_rfl) rfl
def J6c:IH UV:=⟨Tryz.f33,⟨[],[(4,[5,6,7])]⟩,.st⟩
def J6b:IH UV:=⟨Tryz.f34,⟨[],[]⟩,.st⟩
def J6a:IH UV:=⟨Tryz.f35,⟨[],[(6,[6,7,10])]⟩,.st⟩
def J64:IH UV:=⟨f71,⟨[],[]⟩,.st⟩
def Qzv:IH UV:=⟨f121,⟨[(1,⟨[([.reg 3],.int .i64),([.fat 0 6 0],.app 132 .t132)],[],true⟩),(3,⟨[([.reg 3],.int .i64)],[([.reg 3],.int .i64)],false⟩),(4,⟨[([.reg 15],.bool)],[],false⟩),(10,⟨[([.reg 4],.int .i64)],[],false⟩)],[]⟩,.lab [([.fat 0 6 0],.app 132 .t132)]⟩
def Qdc(a0:List UInt8):Option (Tm×Int×Int):=cond ((decide (65536<(a0.length:Int)))) (some ((Tm.mk 0 0 ([]:List UInt8) ([]) ([])),0,5)) (Option.bind (Option.bind (Qc (σ:=Int×(List Tkn)) (β:=Unit⊕((List Tkn))) (λs42=>Option.bind (Qc (σ:=Int) (β:=Int) (λs54=>Option.bind (cond ((decide (s54<(a0.length:Int)))) (Option.bind (QP a0 s54) λ(x59:UInt8)=>Option.bind (Qih ([32,9,13,10]:List UInt8) (x59.toNat:Int)) λ(x60:Int)=>some (decide (0<=x60))) (some false)) λ(v58:Bool)=>cond v58 (some (.next (Qr (s54+1)))) (some (.done s54))) Qf s42.1) λ(v55:Int)=>Option.bind (cond ((decide (v55<(a0.length:Int)))) (Option.bind (Qoy a0 v55) λ(x63:Int)=>some x63) (some v55)) λ(v62:Int)=>Qa (cond (decide (0<=v55)) (cond (Nat.ble v55.toNat v62.toNat) (WE v62 a0.length) false) false) (Qa (Nat.ble (s42.2.length+([(Tkn.mk (List.drop v55.toNat (List.take v62.toNat a0)) v55)]:List Tkn).length) 1000000000) (cond ((v62==v55)) (some (.done (.inr (s42.2++([(Tkn.mk (List.drop v55.toNat (List.take v62.toNat a0)) v55)]:List Tkn))))) (some (.next (v62,(s42.2++([(Tkn.mk (List.drop v55.toNat (List.take v62.toNat a0)) v55)]:List Tkn)))))))) Qf (0,([]:List Tkn))) (Sum.elim (λ(v43:Unit)=>some ([]:List Tkn)) (λ(o64:(List Tkn))=>some o64))) λ(v1:(List Tkn))=>Option.bind (Jar (Rdr.mk v1 0)) (Sum.elim (λ(r65:Rdr×Tm)=>Option.bind (J7l r65.1 a0) (Sum.elim (λ(r67:Rdr×Unit)=>Option.bind (Qlw r65.2) λ(x69:(List UInt8)×Int)=>cond ((x69.2 != 0)) (some ((Tm.mk 0 0 ([]:List UInt8) ([]) ([])),0,x69.2)) (some (r65.2,0,0))) (λ(e68:(Int×Int)×Rdr)=>some ((Tm.mk 0 0 ([]:List UInt8) ([]) ([])),e68.1.2,e68.1.1)))) (λ(e66:(Int×Int)×Rdr)=>some ((Tm.mk 0 0 ([]:List UInt8) ([]) ([])),e66.1.2,e66.1.1))))
def k15:KF UV:=⟨[.str],[.stc .t25,.int .i64,.int .i64],λv=>Qdc v⟩
def Jdw:Hints UV:=⟨[],[]⟩
theorem Qtl:Jv DV W0 prog 15 k15:=JD (C:=CV) rfl Qu Qg (Qt (tb:=[(13,k13),(122,k122),(123,k123)]) Qg ⟨Qiw,Qcb,Qmm,trivial⟩) (Wm (C:=CV) rfl Qu Qg (Qt (tb:=[(13,k13),(122,k122),(123,k123)]) Qg ⟨Qiw,Qcb,Qmm,trivial⟩) (KZ (tb:=[(36,k36),(37,k37)]) Qg ⟨J3d,J3c,trivial⟩) (I:=[(33,J6c),(34,J6b),(35,J6a),(71,J64),(121,Qzv)]) ⟨⟨func33,J9i⟩,⟨func34,J9h⟩,⟨func35,J9g⟩,⟨func71,J8z⟩,⟨func121,J4z⟩,trivial⟩ 8) func15 J9q Jdw k15 rfl (λv=>by kernel_rfl)
end
section
open Go.RowKit
set_option maxRecDepth 100000
theorem J51:Qd prog 119:=enters_of func119 (by kernel_rfl) rfl
def Qey(rc:Int->Option ((List UInt8)))(a0:Int):Option ((List UInt8)):=cond ((decide (a0<10))) (some (List.map Byt.u8 ([(Byt.mk (IntKind.wrap .u8 (48+(IntKind.wrap .u8 a0))))]:List Byt))) (Option.bind (rc (Qr (Int.tdiv a0 10))) λ(x1:(List UInt8))=>Qa (!(10==0)) (Qa (Nat.ble (x1.length+(List.map Byt.u8 ([(Byt.mk (IntKind.wrap .u8 (48+(IntKind.wrap .u8 (Int.tmod a0 10)))))]:List Byt)).length) 1000000000) (some (x1++(List.map Byt.u8 ([(Byt.mk (IntKind.wrap .u8 (48+(IntKind.wrap .u8 (Int.tmod a0 10)))))]:List Byt))))))
def J7s:Int->Option ((List UInt8)):=Jm (λrc v=>Qey rc v) Qf
def Qoz(a0:Int):Option ((List UInt8)):=J7s a0
def k119:KF UV:=⟨[.int .i64],[.str],λv=>Qoz v⟩
def Jci:Hints UV:=⟨[],[(4,[7])]⟩
theorem Qtm(rc:tup k119.args->Option (tup k119.res))(H:∀u r,rc u=some r->FunW W0 prog 119 (QG DV k119.args u) (Qj (QG DV k119.res r))):Jv DV W0 prog 119 ⟨k119.args,k119.res,λv=>Qey rc v⟩:=JD (C:=CV) rfl Qu Qg (Qt (tb:=[(119,(⟨k119.args,k119.res,rc⟩:KF UV))]) Qg ⟨⟨rfl,H⟩,trivial⟩) J2 func119 J51 Jci _ rfl (λv=>by kernel_rfl)
theorem Qmn:Jv DV W0 prog 119 k119:=⟨rfl,λv r h=>Yt (C:=λu r=>FunW W0 prog 119 (QG DV k119.args u) (Qj (QG DV k119.res r))) (λrc H u r h=>(Qtm rc H).2 u r h) Qf v r h⟩
theorem J50:Qd prog 120:=enters_of func120 (by kernel_rfl) rfl
def Qii(a0:List UInt8)(a1:Int)(a2:Int):Option ((List UInt8)):=Option.bind (Qoz a1) λ(x1:(List UInt8))=>Qa (Nat.ble (a0.length+x1.length) 1000000000) (Option.bind (cond ((decide (0<a2))) (Option.bind (Qoz a2) λ(x4:(List UInt8))=>Qa (Nat.ble (([32,43,32]:List UInt8).length+x4.length) 1000000000) (Qa (Nat.ble ((a0++x1).length+(([32,43,32]:List UInt8)++x4).length) 1000000000) (some ((a0++x1)++(([32,43,32]:List UInt8)++x4))))) (some (a0++x1))) λ(v3:(List UInt8))=>some v3)
def k120:KF UV:=⟨[.str,.int .i64,.int .i64],[.str],λv=>Qii v.1 v.2.1 v.2.2⟩
def Jch:Hints UV:=⟨[(3,⟨[([.reg 7],.str)],[],false⟩)],[]⟩
theorem Qyq:Jv DV W0 prog 120 k120:=JD (C:=CV) rfl Qu Qg (Qt (tb:=[(119,k119)]) Qg ⟨Qmn,trivial⟩) J2 func120 J50 Jch k120 rfl (λv=>by kernel_rfl)
theorem J91:Qd prog 69:=enters_of func69 (by kernel_rfl) rfl
def J6k(a0:Lvl):Option ((List UInt8)×Int):=Option.bind (Qf0 a0) λ(x1:Bool)=>cond ((!x1)) (some (([]:List UInt8),3)) (Option.bind (cond ((decide (0<a0.c))) (some true) (some ((a0.vs.length:Int)==0))) λ(v2:Bool)=>Option.bind (cond v2 (Option.bind (Qoz a0.c) λ(x5:(List UInt8))=>Qa (Nat.ble (([]:List ((List UInt8))).length+([x5]:List ((List UInt8))).length) 1000000000) (some (([]:List ((List UInt8)))++([x5]:List ((List UInt8)))))) (some ([]:List ((List UInt8))))) λ(v4:(List ((List UInt8))))=>Option.bind (Qc (σ:=(List ((List UInt8)))×Int) (β:=(List ((List UInt8)))) (λs14=>cond ((decide (s14.2<(a0.vs.length:Int)))) (Option.bind (QP a0.vs s14.2) λ(x16:LV)=>cond ((decide (0<=x16.1))) (Option.bind (QP a0.vs s14.2) λ(x17:LV)=>Option.bind (QP a0.vs s14.2) λ(x18:LV)=>Option.bind (Qii ([117]:List UInt8) x17.1 x18.2) λ(x19:(List UInt8))=>Qa (Nat.ble (s14.1.length+([x19]:List ((List UInt8))).length) 1000000000) (some (.next ((s14.1++([x19]:List ((List UInt8)))),(Qr (s14.2+1)))))) (some (.next (s14.1,(Qr (s14.2+1)))))) (some (.done s14.1))) Qf (v4,0)) λ(v15:(List ((List UInt8))))=>Option.bind (Qc (σ:=(List ((List UInt8)))×Int) (β:=(List ((List UInt8)))) (λs28=>cond ((decide (0<=s28.2))) (Option.bind (QP a0.vs s28.2) λ(x30:LV)=>cond ((decide (x30.1<0))) (Option.bind (QP a0.vs s28.2) λ(x31:LV)=>Option.bind (QP a0.vs s28.2) λ(x32:LV)=>Option.bind (Qii ([63]:List UInt8) (Qr ((-1)-x31.1)) x32.2) λ(x33:(List UInt8))=>Qa (Nat.ble (s28.1.length+([x33]:List ((List UInt8))).length) 1000000000) (some (.next ((s28.1++([x33]:List ((List UInt8)))),(Qr (s28.2-1)))))) (some (.next (s28.1,(Qr (s28.2-1)))))) (some (.done s28.1))) Qf (v15,(Qr ((a0.vs.length:Int)-1)))) λ(v29:(List ((List UInt8))))=>cond (((v29.length:Int)==1)) (Option.bind (QP v29 0) λ(x34:(List UInt8))=>some (x34,0)) (Option.bind (Qc (σ:=(List UInt8)×Int) (β:=(List UInt8)) (λs39=>cond ((decide (s39.2<(v29.length:Int)))) (Option.bind (cond ((decide (0<s39.2))) (Qa (Nat.ble (s39.1.length+([44,32]:List UInt8).length) 1000000000) (some (s39.1++([44,32]:List UInt8)))) (some s39.1)) λ(v41:(List UInt8))=>Option.bind (QP v29 s39.2) λ(x42:(List UInt8))=>Qa (Nat.ble (v41.length+x42.length) 1000000000) (some (.next ((v41++x42),(Qr (s39.2+1)))))) (some (.done s39.1))) Qf (([109,97,120,40]:List UInt8),0)) λ(v40:(List UInt8))=>Qa (Nat.ble (v40.length+([41]:List UInt8).length) 1000000000) (some ((v40++([41]:List UInt8)),0))))
def k69:KF UV:=⟨[.stc .t82],[.str,.int .i64],λv=>J6k v⟩
def Jdk:Hints UV:=⟨[(5,⟨[([.reg 20],.bool)],[],false⟩),(6,⟨[([.reg 4],.app 9 .t9)],[],false⟩),(9,⟨[([.reg 4],.app 9 .t9),([.reg 5],.int .i64)],[([.reg 4],.app 9 .t9)],false⟩),(18,⟨[([.reg 4],.app 9 .t9),([.reg 6],.int .i64)],[([.reg 4],.app 9 .t9)],false⟩),(31,⟨[([.reg 7],.str),([.reg 8],.int .i64)],[([.reg 7],.str)],false⟩),(36,⟨[([.reg 7],.str)],[],false⟩)],[(15,[14,15]),(24,[15,16])]⟩
theorem J37:Jv DV W0 prog 69 k69:=JD (C:=CV) rfl Qu Qg (Qt (tb:=[(118,k118),(119,k119),(120,k120)]) Qg ⟨Qyr,Qmn,Qyq,trivial⟩) J2 func69 J91 Jdk k69 rfl (λv=>by kernel_rfl)
theorem J92:Qd prog 68:=enters_of func68 (by kernel_rfl) rfl
def Qoa(rc:Int->Option ((List UInt8)))(a0:Int):Option ((List UInt8)):=cond ((decide (a0<10))) (Qa (cond (decide (0<=a0)) (cond (Nat.ble a0.toNat (Qr (a0+1)).toNat) (WE (Qr (a0+1)) ([48,49,50,51,52,53,54,55,56,57]:List UInt8).length) false) false) (some (List.drop a0.toNat (List.take (Qr (a0+1)).toNat ([48,49,50,51,52,53,54,55,56,57]:List UInt8))))) (Option.bind (rc (Qr (Int.tdiv a0 10))) λ(x1:(List UInt8))=>Qa (!(10==0)) (Option.bind (rc (Int.tmod a0 10)) λ(x2:(List UInt8))=>Qa (Nat.ble (x1.length+x2.length) 1000000000) (some (x1++x2))))
def Jb3:Int->Option ((List UInt8)):=Jm (λrc v=>Qoa rc v) Qf
def Jal(a0:Int):Option ((List UInt8)):=Jb3 a0
def k68:KF UV:=⟨[.int .i64],[.str],λv=>Jal v⟩
def Jdl:Hints UV:=⟨[],[]⟩
theorem Qy7(rc:tup k68.args->Option (tup k68.res))(H:∀u r,rc u=some r->FunW W0 prog 68 (QG DV k68.args u) (Qj (QG DV k68.res r))):Jv DV W0 prog 68 ⟨k68.args,k68.res,λv=>Qoa rc v⟩:=JD (C:=CV) rfl Qu Qg (Qt (tb:=[(68,(⟨k68.args,k68.res,rc⟩:KF UV))]) Qg ⟨⟨rfl,H⟩,trivial⟩) J2 func68 J92 Jdl _ rfl (λv=>by kernel_rfl)
theorem J38:Jv DV W0 prog 68 k68:=⟨rfl,λv r h=>Yt (C:=λu r=>FunW W0 prog 68 (QG DV k68.args u) (Qj (QG DV k68.res r))) (λrc H u r h=>(Qy7 rc H).2 u r h) Qf v r h⟩
theorem J90:Qd prog 70:=enters_of func70 (by kernel_rfl) rfl
def J1v(a0:Int):Option ((List UInt8)):=Option.bind (cond ((decide (a0<4))) (some true) (some (decide (11<a0)))) λ(v1:Bool)=>cond v1 (some ([]:List UInt8)) (Option.bind (QP ([([97,112,112]:List UInt8),([108,97,109]:List UInt8),([112,105]:List UInt8),([115,105,103,109,97]:List UInt8),([112,97,105,114]:List UInt8),([102,115,116]:List UInt8),([115,110,100]:List UInt8),([108,101,116]:List UInt8)]:List ((List UInt8))) (Qr (a0-4))) λ(x2:(List UInt8))=>some x2)
def k70:KF UV:=⟨[.int .i64],[.str],λv=>J1v v⟩
def Jdj:Hints UV:=⟨[(2,⟨[([.reg 10],.bool)],[],false⟩)],[]⟩
theorem Qtj:Jv DV W0 prog 70 k70:=JD (C:=CV) rfl Qu Qg (Qt (tb:=[]) Qg trivial) J2 func70 J90 Jdj k70 rfl (λv=>by kernel_rfl)
theorem J9j:Qd prog 32:=enters_of func32 (by kernel_rfl) rfl
def Qi2(rc:Tm->Option ((List UInt8)))(a0:Tm):Option ((List UInt8)):=cond ((a0.kind==0)) (Option.bind (Jal a0.index) λ(x1:(List UInt8))=>Qa (Nat.ble (([35]:List UInt8).length+x1.length) 1000000000) (some (([35]:List UInt8)++x1))) (cond ((a0.kind==12)) (Option.bind (Jal a0.index) λ(x2:(List UInt8))=>Qa (Nat.ble (([63]:List UInt8).length+x2.length) 1000000000) (some (([63]:List UInt8)++x2))) (cond ((a0.kind==1)) (some ([112,114,111,112]:List UInt8)) (cond ((a0.kind==2)) (Option.bind (QP a0.levels 0) λ(x3:Lvl)=>Option.bind (J6k x3) λ(x4:(List UInt8)×Int)=>Qa (Nat.ble (([40,115,111,114,116,32,91]:List UInt8).length+x4.1.length) 1000000000) (Qa (Nat.ble ((([40,115,111,114,116,32,91]:List UInt8)++x4.1).length+([93,41]:List UInt8).length) 1000000000) (some ((([40,115,111,114,116,32,91]:List UInt8)++x4.1)++([93,41]:List UInt8))))) (cond ((a0.kind==3)) (Option.bind (cond (((a0.levels.length:Int)==0)) (some (!(a0.name==([112,114,111,112]:List UInt8)))) (some false)) λ(v5:Bool)=>cond v5 (some a0.name) (Qa (Nat.ble (([40,99,111,110,115,116,32]:List UInt8).length+a0.name.length) 1000000000) (Option.bind (Qc (σ:=(List UInt8)×Int) (β:=(List UInt8)) (λs10=>cond ((decide (s10.2<(a0.levels.length:Int)))) (Option.bind (QP a0.levels s10.2) λ(x12:Lvl)=>Option.bind (J6k x12) λ(x13:(List UInt8)×Int)=>Qa (Nat.ble (([32,91]:List UInt8).length+x13.1.length) 1000000000) (Qa (Nat.ble ((([32,91]:List UInt8)++x13.1).length+([93]:List UInt8).length) 1000000000) (Qa (Nat.ble (s10.1.length+((([32,91]:List UInt8)++x13.1)++([93]:List UInt8)).length) 1000000000) (some (.next ((s10.1++((([32,91]:List UInt8)++x13.1)++([93]:List UInt8))),(Qr (s10.2+1)))))))) (some (.done s10.1))) Qf ((([40,99,111,110,115,116,32]:List UInt8)++a0.name),0)) λ(v11:(List UInt8))=>Qa (Nat.ble (v11.length+([41]:List UInt8).length) 1000000000) (some (v11++([41]:List UInt8)))))) (Option.bind (J1v a0.kind) λ(x14:(List UInt8))=>Qa (Nat.ble (([40]:List UInt8).length+x14.length) 1000000000) (Option.bind (Qc (σ:=(List UInt8)×Int) (β:=(List UInt8)) (λs19=>cond ((decide (s19.2<(a0.kids.length:Int)))) (Option.bind (QP a0.kids s19.2) λ(x21:Tm)=>Option.bind (rc x21) λ(x22:(List UInt8))=>Qa (Nat.ble (([32]:List UInt8).length+x22.length) 1000000000) (Qa (Nat.ble (s19.1.length+(([32]:List UInt8)++x22).length) 1000000000) (some (.next ((s19.1++(([32]:List UInt8)++x22)),(Qr (s19.2+1))))))) (some (.done s19.1))) Qf ((([40]:List UInt8)++x14),0)) λ(v20:(List UInt8))=>Qa (Nat.ble (v20.length+([41]:List UInt8).length) 1000000000) (some (v20++([41]:List UInt8)))))))))
def Jb8:Tm->Option ((List UInt8)):=Jm (λrc v=>Qi2 rc v) Qf
def Jb9(a0:Tm):Option ((List UInt8)):=Jb8 a0
def k32:KF UV:=⟨[.stc .t25],[.str],λv=>Jb9 v⟩
def Jds:Hints UV:=⟨[(18,⟨[([.reg 50],.bool)],[],false⟩),(23,⟨[([.reg 5],.str),([.reg 6],.int .i64)],[([.reg 5],.str)],false⟩),(33,⟨[([.reg 9],.str),([.reg 10],.int .i64)],[([.reg 9],.str)],false⟩)],[]⟩
theorem Qya(rc:tup k32.args->Option (tup k32.res))(H:∀u r,rc u=some r->FunW W0 prog 32 (QG DV k32.args u) (Qj (QG DV k32.res r))):Jv DV W0 prog 32 ⟨k32.args,k32.res,λv=>Qi2 rc v⟩:=JD (C:=CV) rfl Qu Qg (Qt (tb:=[(32,(⟨k32.args,k32.res,rc⟩:KF UV)),(68,k68),(69,k69),(70,k70)]) Qg ⟨⟨rfl,H⟩,J38,J37,Qtj,trivial⟩) J2 func32 J9j Jds _ rfl (λv=>by kernel_rfl)
theorem J3e:Jv DV W0 prog 32 k32:=⟨rfl,λv r h=>Yt (C:=λu r=>FunW W0 prog 32 (QG DV k32.args u) (Qj (QG DV k32.res r))) (λrc H u r h=>(Qya rc H).2 u r h) Qf v r h⟩
theorem J9r:Qd prog 14:=enters_of func14 (by kernel_rfl) rfl
def J2l(a0:Tm):Option ((List UInt8)×Int):=Option.bind (Qx8 a0 1000000 1000000 1000000 1000000) λ(x1:Int)=>cond ((x1 != 0)) (some (([]:List UInt8),x1)) (Option.bind (Jb9 a0) λ(x2:(List UInt8))=>cond ((decide (65536<(x2.length:Int)))) (some (([]:List UInt8),5)) (some (x2,0)))
def k14:KF UV:=⟨[.stc .t25],[.str,.int .i64],λv=>J2l v⟩
def Jdx:Hints UV:=⟨[],[]⟩
theorem J3j:Jv DV W0 prog 14 k14:=JD (C:=CV) rfl Qu Qg (Qt (tb:=[(31,k31),(32,k32)]) Qg ⟨J3f,J3e,trivial⟩) J2 func14 J9r Jdx k14 rfl (λv=>by kernel_rfl)
end
section
open Go.RowKit Go.Shelf
theorem JY{σ β:Type}{step:σ->Option (LO σ β)}(I:σ->Prop)(μ:σ->Nat)(spec:σ->β)(h:∀s,I s->(step s=some (.done (spec s)))\/(∃s',step s=some (.next s')/\I s'/\μ s'<μ s/\spec s'=spec s)):∀(n:Nat)(s:σ),I s->μ s<n->Qc step n s=some (spec s)|0,_,_,h0=>absurd h0 (Ss _)|n+1,s,hs,hn=>by rcases h s hs with h1|⟨s',h1,h2,h3,h4⟩;simp only[Qc,h1];simp only[Qc,h1];rw[JY I μ spec h n s' h2 (by omega),h4]
theorem GV{α:Type}{l:List α}{i:Int}{x:α}(h0:0<=i)(hx:l[i.toNat]?=some x):QP l i=some x:=by obtain⟨k,rfl⟩:=PI h0;simpa[QP]using hx
theorem DP{k n:Nat}(h:k<n)(hn:n<=1000000000):Qr ((k:Int)+1)=((k+1:Nat):Int):=by rw[Jh (by omega) (by omega)];rfl
theorem Qki{n:Int}(h:-65536<=n/\n<=7):Qr (-1-n) = -1-n:=Jh (by omega) (by omega)
def Jai(v:LV):Prop:=-65536<=v.1/\v.1<=7/\0<=v.2/\v.2<=100
theorem ZF{l:Lvl}(h:Q62 l){x:LV}(hx:x∈l.vs):Jai x:=by obtain⟨a,b,e⟩:=List.append_of_mem hx;have:=h.2.2.2 a x b e;unfold Q63 at this;simp only[not_or,Int.not_lt]at this;exact⟨this.1,this.2.1,this.2.2.1,this.2.2.2.1⟩
theorem Qv1{l:Lvl}(h:Q62 l)(hn:l.vs.length<=900000000):∀(k:Nat)(x:LV),l.vs[k]?=some x->-65536+(k:Int)<=x.1|0,x,hx=>by have:=(ZF h (Cr hx)).1;omega|k+1,x,hx=>by obtain⟨hk,e⟩:=Ce.1 hx;obtain⟨y,hy⟩:∃y,l.vs[k]?=some y:=⟨_,Cm (by omega)⟩;have ih:=Qv1 h hn k y hy;(have e1:l.vs=l.vs.take (k+1)++x::l.vs.drop (k+2):=by conv=>lhs;rw[<-So (k+1) l.vs,Pa hk,e]);have h1:=h.2.2.2 _ _ _ e1;unfold Q63 at h1;simp only[not_or]at h1;(have hl:(l.vs.take (k+1)).length=k+1:=by rw[CH];omega);rw[hl]at h1;have h2:=h1.2.2.2.2;by_cases hc:x.1<=y.1;refine(h2 ⟨by omega,y,?_,hc⟩).elim;rw[Jh (by omega) (by omega),show((k+1:Nat):Int)-1=(k:Int) by omega];exact hy;omega
theorem Qnh{l:Lvl}(h:Q62 l)(hn:l.vs.length<=900000000):l.vs.length<=65544:=by rcases Sz l.vs.length with h0|h0;omega;obtain⟨x,hx⟩:∃x,l.vs[l.vs.length-1]?=some x:=⟨_,Cm (by omega)⟩;have h1:=Qv1 h hn _ x hx;have h2:=(ZF h (Cr hx)).2.1;omega
abbrev Wo(n:Nat):Bs:=Lib.decDigits n
theorem Q6y{n:Nat}(h:n<10):Wo n=[UInt8.ofNat (48+n)]:=by unfold Wo Lib.decDigits;rw[dif_pos h]
theorem Qje{n:Nat}(h:¬n<10):Wo n=Wo (n / 10)++[UInt8.ofNat (48+n%10)]:=by show Lib.decDigits n=_;rw[Lib.decDigits,dif_neg h]
theorem Qz5{k:Nat}(h:k<10):(UInt8.ofNat (48+k)).toNat=48+k:=by rw[UInt8.toNat_ofNat'];omega
theorem UI:∀(k n:Nat),n<10 ^ (k+1)->(Wo n).length<=k+1|0,n,h=>by rw[Q6y (by omega)];exact Cl _|k+1,n,h=>by by_cases h1:n<10;rw[Q6y h1];exact Nat.succ_le_succ (Cd _);rw[Qje h1,C8];have:=UI k (n / 10) (by rw[Nat.pow_succ]at h;omega);simp;omega
def Qeb(p:Int):Bs:=if 0<p then[32,43,32]++Wo p.toNat else[]
def Qas(c:UInt8)(n:Nat)(p:Int):Bs:=c::(Wo n++Qeb p)
def Q7x(x:LV):Bs:=if 0<=x.1 then Qas 117 x.1.toNat x.2 else Qas 63 (-1-x.1).toNat x.2
def Q00:List Bs->Bs|[]=>[]|[x]=>x|x::y::r=>x++([44,32]++Q00 (y::r))
theorem Qv{α:Type}{b:Bool}{x:Option α}(h:b=true):Qa b x=x:=by unfold Qa;rw[h];rfl
theorem Qnc{k:Int}{n:Nat}(h0:IntKind.wrap .u8 k=(n:Int))(hn:n<10):([(⟨(IntKind.wrap .u8 (48+(IntKind.wrap .u8 k)))⟩:Byt)]).map Byt.u8=[UInt8.ofNat (48+n)]:=by
 rw[h0];have:IntKind.wrap .u8 (48+(n:Int))=((48+n:Nat):Int):=by(have:n=0\/n=1\/n=2\/n=3\/n=4\/n=5\/n=6\/n=7\/n=8\/n=9:=by omega);rcases this with rfl|rfl|rfl|rfl|rfl|rfl|rfl|rfl|rfl|rfl <;> rfl
 rw[this];rfl
theorem Qdg{n:Nat}(hn:n<10):IntKind.wrap .u8 (n:Int)=(n:Int):=by
 have:n=0\/n=1\/n=2\/n=3\/n=4\/n=5\/n=6\/n=7\/n=8\/n=9:=by omega
 rcases this with rfl|rfl|rfl|rfl|rfl|rfl|rfl|rfl|rfl|rfl <;> rfl
def Qt5(rc:Int->Option (List UInt8))(u:Int):Option (List UInt8):=Qey rc u
theorem Qez:∀(f n:Nat),n<10 ^ f->n<1000000->Jm Qt5 f (n:Int)=some (Wo n)\/(f=0)|0,n,h,hn=>.inr rfl|f+1,n,h,hn=>by refine .inl ?_;show Qey (Jm Qt5 f) (n:Int)=_;unfold Qey;by_cases h1:n<10;rw[C4 (by omega:(n:Int)<10),C5,Qnc (Qdg h1) h1,Q6y h1];rw[C3 (by omega:¬(n:Int)<10),C6];have ed:Int.tdiv (n:Int) 10=((n / 10:Nat):Int):=rfl;have em:Int.tmod (n:Int) 10=((n%10:Nat):Int):=rfl;rw[ed,em,Jh (by omega) (by omega)];(have hr:Jm Qt5 f ((n / 10:Nat):Int)=some (Wo (n / 10)):=by rcases Qez f (n / 10) (by rw[Nat.pow_succ]at h;omega) (by omega)with h2|h2;exact h2;subst h2;omega);rw[hr,C0,Qnc (Qdg (by omega:n%10<10)) (by omega)];rw[Qv (C7 (by have:=UI 5 (n / 10) (by omega);simp only[C1,Cb];omega)),<-Qje h1];exact Qv Z
theorem Qbt{a:Int}(h0:0<=a)(h1:a<1000000):Qoz a=some (Wo a.toNat):=by
 obtain⟨n,rfl⟩:=PI h0;have hn:n<1000000:=by omega
 rw[Cu];unfold Qoz;rcases Qez Qf n (Ci (by omega:n<10 ^ 6) (Nat.pow_le_pow_right (by omega) (by unfold Qf;omega))) hn with h2|h2;exact h2;unfold Qf at h2;omega
theorem Qmo{a:Int}(h0:0<=a):Lib.itoa a=Wo a.toNat:=by unfold Lib.itoa;rw[Ca (by omega)]
theorem ZI{a:Int}(h1:a<1000000):(Wo a.toNat).length<=6:=UI 5 _ (by omega)
theorem Qi1{a:Int}(h0:0<=a)(h1:a<1000000):Qsq a=some (Wo a.toNat):=by unfold Qsq;rw[Qv (by rw[C4 (by omega),C4 (by omega)];rfl),Qmo h0]
theorem Qlt{c:UInt8}{a p:Int}(h0:0<=a)(h1:a<1000000)(p0:0<=p)(p1:p<=100):Qie [c] a p=some (Qas c a.toNat p):=by have la:=ZI h1;have lp:=ZI (a:=p) (by omega);unfold Qie Qas Qeb;rw[Qi1 h0 h1,C0];rw[Qv (C7 (by simp only[C1,Cb];omega))];by_cases hp:0<p;rw[C4 hp,C5,Cf hp,Qi1 p0 (by omega),C0];rw[Qv (C7 (by simp only[C1,Cb];omega)),Qv (C7 (by simp only[C8,C1,Cb];omega))];simp;rw[C3 hp,C6,Ca hp];simp
theorem Qm2{c:UInt8}{a p:Int}(h0:0<=a)(h1:a<1000000)(p0:0<=p)(p1:p<=100):Qii [c] a p=some (Qas c a.toNat p):=by have la:=ZI h1;have lp:=ZI (a:=p) (by omega);unfold Qii Qas Qeb;rw[Qbt h0 h1,C0];rw[Qv (C7 (by simp only[C1,Cb];omega))];by_cases hp:0<p;rw[C4 hp,C5,Cf hp,Qbt p0 (by omega),C0];rw[Qv (C7 (by simp only[C1,Cb];omega)),Qv (C7 (by simp only[C8,C1,Cb];omega))];simp;rw[C3 hp,C6,Ca hp];simp
theorem Qdj{x:LV}(h:0<=x.1):Q7x x=Qas 117 x.1.toNat x.2:=by unfold Q7x;rw[Cf h]
theorem Qdk{x:LV}(h:x.1<0):Q7x x=Qas 63 (-1-x.1).toNat x.2:=by unfold Q7x;rw[Ca (by omega)]
abbrev Q3v(vs:List LV):List Bs:=(vs.filter λx=>decide (0<=x.1)).map Q7x
abbrev Q3x(vs:List LV):List Bs:=(vs.filter λx=>decide (x.1<0)).map Q7x
theorem Q8u(x:LV)(vs:List LV):Q3v (x::vs)=(if 0<=x.1 then[Q7x x]else[])++Q3v vs:=by unfold Q3v;rw[CE];by_cases h:0<=x.1;rw[Cf (C4 h),Cf h];rfl;rw[Ca (by simpa using h),Ca h];rfl
theorem Q92(x:LV)(vs:List LV):Q3x (x::vs)=(if x.1<0 then[Q7x x]else[])++Q3x vs:=by unfold Q3x;rw[CE];by_cases h:x.1<0;rw[Cf (C4 h),Cf h];rfl;rw[Ca (by simpa using h),Ca h];rfl
theorem Q6w{α:Type}{l:List α}{k:Nat}{x:α}(h:l[k]?=some x):l.drop k=x::l.drop (k+1):=by obtain⟨hk,e⟩:=Ce.1 h;rw[Pa hk,e]
theorem Qkp{α:Type}{l:List α}{k:Nat}{x:α}(h:l[k]?=some x):(l.take (k+1)).reverse=x::(l.take k).reverse:=by obtain⟨hk,e⟩:=Ce.1 h;rw[Sc,h,List.reverse_append];rfl
def Jab(a0:Lvl):(Int×(List ((List UInt8))))->Option (LO (Int×(List ((List UInt8)))) ((List ((List UInt8))))):=(λs12=>cond ((decide (s12.1<(a0.vs.length:Int)))) (Option.bind (QP a0.vs s12.1) λ(x14:LV)=>cond ((decide (0<=x14.1))) (Option.bind (Qie ([117]:List UInt8) x14.1 x14.2) λ(x15:(List UInt8))=>Qa (Nat.ble (s12.2.length+([x15]:List ((List UInt8))).length) 1000000000) (some (.next ((Qr (s12.1+1)),(s12.2++([x15]:List ((List UInt8)))))))) (some (.next ((Qr (s12.1+1)),s12.2)))) (some (.done s12.2)))
def Jaa(a0:Lvl):(Int×(List ((List UInt8))))->Option (LO (Int×(List ((List UInt8)))) ((List ((List UInt8))))):=(λs31=>cond ((decide (0<=s31.1))) (Option.bind (Option.bind (QP a0.vs s31.1) λ(x36:LV)=>cond ((decide (x36.1<0))) (Option.bind (Qie ([63]:List UInt8) (Qr ((-1)-x36.1)) x36.2) λ(x37:(List UInt8))=>Qa (Nat.ble (s31.2.length+([x37]:List ((List UInt8))).length) 1000000000) (some (s31.2++([x37]:List ((List UInt8)))))) (some s31.2)) λ(v35:(List ((List UInt8))))=>some (.next ((Qr (s31.1-1)),v35))) (some (.done s31.2)))
def Jaf(a0:Lvl):((List ((List UInt8)))×Int)->Option (LO ((List ((List UInt8)))×Int) ((List ((List UInt8))))):=(λs14=>cond ((decide (s14.2<(a0.vs.length:Int)))) (Option.bind (QP a0.vs s14.2) λ(x16:LV)=>cond ((decide (0<=x16.1))) (Option.bind (QP a0.vs s14.2) λ(x17:LV)=>Option.bind (QP a0.vs s14.2) λ(x18:LV)=>Option.bind (Qii ([117]:List UInt8) x17.1 x18.2) λ(x19:(List UInt8))=>Qa (Nat.ble (s14.1.length+([x19]:List ((List UInt8))).length) 1000000000) (some (.next ((s14.1++([x19]:List ((List UInt8)))),(Qr (s14.2+1)))))) (some (.next (s14.1,(Qr (s14.2+1)))))) (some (.done s14.1)))
def Jae(a0:Lvl):((List ((List UInt8)))×Int)->Option (LO ((List ((List UInt8)))×Int) ((List ((List UInt8))))):=(λs28=>cond ((decide (0<=s28.2))) (Option.bind (QP a0.vs s28.2) λ(x30:LV)=>cond ((decide (x30.1<0))) (Option.bind (QP a0.vs s28.2) λ(x31:LV)=>Option.bind (QP a0.vs s28.2) λ(x32:LV)=>Option.bind (Qii ([63]:List UInt8) (Qr ((-1)-x31.1)) x32.2) λ(x33:(List UInt8))=>Qa (Nat.ble (s28.1.length+([x33]:List ((List UInt8))).length) 1000000000) (some (.next ((s28.1++([x33]:List ((List UInt8)))),(Qr (s28.2-1)))))) (some (.next (s28.1,(Qr (s28.2-1)))))) (some (.done s28.1)))
def Jad(o:List Bs):((List UInt8)×Int)->Option (LO ((List UInt8)×Int) ((List UInt8))):=(λs39=>cond ((decide (s39.2<(o.length:Int)))) (Option.bind (cond ((decide (0<s39.2))) (Qa (Nat.ble (s39.1.length+([44,32]:List UInt8).length) 1000000000) (some (s39.1++([44,32]:List UInt8)))) (some s39.1)) λ(v41:(List UInt8))=>Option.bind (QP o s39.2) λ(x42:(List UInt8))=>Qa (Nat.ble (v41.length+x42.length) 1000000000) (some (.next ((v41++x42),(Qr (s39.2+1)))))) (some (.done s39.1)))
section
variable{l:Lvl}(hv:Q62 l)(hl:l.vs.length<=65544)
include hv hl
theorem Qvx(k:Nat)(acc:List Bs)(hk:k<=l.vs.length)(ha:acc.length<=20+k):Qc (Jab l) Qf ((k:Int),acc)=some (acc++Q3v (l.vs.drop k)):=by refine(JY (step:=Jab l) (λs=>∃j:Nat,s.1=(j:Int)/\j<=l.vs.length/\s.2.length<=20+j) (λs=>l.vs.length-s.1.toNat) (λs=>s.2++Q3v (l.vs.drop s.1.toNat)) ?_ Qf ((k:Int),acc) ⟨k,rfl,hk,ha⟩ ?_).trans (by rw[Cu]);rintro⟨i,ac⟩ ⟨j,rfl,hj,hb⟩;dsimp only at hb⊢;rw[Cu];by_cases hlt:j<l.vs.length;refine .inr ?_;obtain⟨x,hx⟩:∃x,l.vs[j]?=some x:=⟨_,Cm hlt⟩;have ok:=ZF hv (Cr hx);obtain⟨o1,o2,o3,o4⟩:=ok;unfold Jab;rw[C4 (by omega:(j:Int)<l.vs.length),C5,GV (Pi _) (by simpa using hx),C0,DP hlt (by omega),Q6w hx,Q8u];by_cases h0:0<=x.1;rw[C4 h0,C5,Qlt h0 (by omega) o3 o4,C0,Qv (C7 (by simp only[C1,Cb];omega)),Cf h0,Qdj h0];exact⟨_,rfl,⟨j+1,rfl,hlt,by simp only[C8,C1,Cb];omega⟩,by simp only[Cu];omega,by simp only[Cu];simp⟩;rw[C3 h0,C6,Ca h0];exact⟨_,rfl,⟨j+1,rfl,hlt,by dsimp only;omega⟩,by simp only[Cu];omega,by simp only[Cu];simp⟩;refine .inl ?_;unfold Jab;rw[C3 (by omega),C6,P1 (by omega)];simp;simp only[Cu];unfold Qf;omega
theorem J16(k:Nat)(acc:List Bs)(hk:k<=l.vs.length)(ha:acc.length<=20+k):Qc (Jaf l) Qf (acc,(k:Int))=some (acc++Q3v (l.vs.drop k)):=by refine(JY (step:=Jaf l) (λs=>∃j:Nat,s.2=(j:Int)/\j<=l.vs.length/\s.1.length<=20+j) (λs=>l.vs.length-s.2.toNat) (λs=>s.1++Q3v (l.vs.drop s.2.toNat)) ?_ Qf (acc,(k:Int)) ⟨k,rfl,hk,ha⟩ ?_).trans (by rw[Cu]);rintro⟨ac,i⟩ ⟨j,rfl,hj,hb⟩;dsimp only at hb⊢;rw[Cu];by_cases hlt:j<l.vs.length;refine .inr ?_;obtain⟨x,hx⟩:∃x,l.vs[j]?=some x:=⟨_,Cm hlt⟩;have ok:=ZF hv (Cr hx);obtain⟨o1,o2,o3,o4⟩:=ok;unfold Jaf;rw[C4 (by omega:(j:Int)<l.vs.length),C5];dsimp only;rw[GV (Pi _) (by simpa using hx),C0,DP hlt (by omega),Q6w hx,Q8u];by_cases h0:0<=x.1;rw[C4 h0,C5,C0,C0,Qm2 h0 (by omega) o3 o4,C0,Qv (C7 (by simp only[C1,Cb];omega)),Cf h0,Qdj h0];exact⟨_,rfl,⟨j+1,rfl,hlt,by simp only[C8,C1,Cb];omega⟩,by simp only[Cu];omega,by simp only[Cu];simp⟩;rw[C3 h0,C6,Ca h0];exact⟨_,rfl,⟨j+1,rfl,hlt,by dsimp only;omega⟩,by simp only[Cu];omega,by simp only[Cu];simp⟩;refine .inl ?_;unfold Jaf;rw[C3 (by omega),C6,P1 (by omega)];simp;simp only[Cu];unfold Qf;omega
theorem Qvw(acc:List Bs)(ha:acc.length<=100000):Qc (Jaa l) Qf ((l.vs.length:Int)-1,acc)=some (acc++Q3x l.vs.reverse):=by
 refine(JY (step:=Jaa l) (λs=>∃j:Nat,s.1=(j:Int)-1/\j<=l.vs.length/\s.2.length+j<=200000) (λs=>(s.1+1).toNat) (λs=>s.2++Q3x (l.vs.take (s.1+1).toNat).reverse) ?_ Qf ((l.vs.length:Int)-1,acc) ⟨l.vs.length,rfl,Cl _,by dsimp only;omega⟩ ?_).trans (by rw[show((l.vs.length:Int)-1+1).toNat=l.vs.length by omega,List.take_length]);rintro⟨i,ac⟩ ⟨j,rfl,hj,hb⟩;dsimp only at hb⊢;rw[show((j:Int)-1+1).toNat=j by omega];cases j with|zero=>refine .inl ?_;unfold Jaa;rw[C3 (by dsimp only;omega),C6];simp|succ k=>refine .inr ?_;rw[show((k+1:Nat):Int)-1=(k:Int) by omega];obtain⟨x,hx⟩:∃x,l.vs[k]?=some x:=⟨_,Cm (by omega)⟩;have ok:=ZF hv (Cr hx);obtain⟨o1,o2,o3,o4⟩:=ok;unfold Jaa;dsimp only;rw[C4 (by omega:(0:Int)<=(k:Int)),C5,GV (Pi _) (by simpa using hx),C0,Jh (n:=(k:Int)-1) (by omega) (by omega),Qkp hx,Q92];by_cases h0:x.1<0;rw[C4 h0,C5,Qki ⟨o1,o2⟩,Qlt (by omega) (by omega) o3 o4,C0,Qv (C7 (by simp only[C1,Cb];omega)),C0,Cf h0,Qdk h0];exact⟨_,rfl,⟨k,rfl,by omega,by simp only[C8,C1,Cb];omega⟩,by dsimp only;omega,by dsimp only;rw[show((k:Int)-1+1).toNat=k by omega];simp⟩;rw[C3 h0,C6,C0,Ca h0];exact⟨_,rfl,⟨k,rfl,by omega,by dsimp only;omega⟩,by dsimp only;omega,by dsimp only;rw[show((k:Int)-1+1).toNat=k by omega];simp⟩
 dsimp only;unfold Qf;omega
theorem J15(acc:List Bs)(ha:acc.length<=100000):Qc (Jae l) Qf (acc,(l.vs.length:Int)-1)=some (acc++Q3x l.vs.reverse):=by
 refine(JY (step:=Jae l) (λs=>∃j:Nat,s.2=(j:Int)-1/\j<=l.vs.length/\s.1.length+j<=200000) (λs=>(s.2+1).toNat) (λs=>s.1++Q3x (l.vs.take (s.2+1).toNat).reverse) ?_ Qf (acc,(l.vs.length:Int)-1) ⟨l.vs.length,rfl,Cl _,by dsimp only;omega⟩ ?_).trans (by rw[show((l.vs.length:Int)-1+1).toNat=l.vs.length by omega,List.take_length]);rintro⟨ac,i⟩ ⟨j,rfl,hj,hb⟩;dsimp only at hb⊢;rw[show((j:Int)-1+1).toNat=j by omega];cases j with|zero=>refine .inl ?_;unfold Jae;rw[C3 (by dsimp only;omega),C6];simp|succ k=>refine .inr ?_;rw[show((k+1:Nat):Int)-1=(k:Int) by omega];obtain⟨x,hx⟩:∃x,l.vs[k]?=some x:=⟨_,Cm (by omega)⟩;have ok:=ZF hv (Cr hx);obtain⟨o1,o2,o3,o4⟩:=ok;unfold Jae;dsimp only;rw[C4 (by omega:(0:Int)<=(k:Int)),C5,GV (Pi _) (by simpa using hx),C0,Jh (n:=(k:Int)-1) (by omega) (by omega),Qkp hx,Q92];by_cases h0:x.1<0;rw[C4 h0,C5,C0,C0,Qki ⟨o1,o2⟩,Qm2 (by omega) (by omega) o3 o4,C0,Qv (C7 (by simp only[C1,Cb];omega)),Cf h0,Qdk h0];exact⟨_,rfl,⟨k,rfl,by omega,by simp only[C8,C1,Cb];omega⟩,by dsimp only;omega,by dsimp only;rw[show((k:Int)-1+1).toNat=k by omega];simp⟩;rw[C3 h0,C6,Ca h0];exact⟨_,rfl,⟨k,rfl,by omega,by dsimp only;omega⟩,by dsimp only;omega,by dsimp only;rw[show((k:Int)-1+1).toNat=k by omega];simp⟩
 dsimp only;unfold Qf;omega
end
def Q3d(r:List Bs):Bs:=(r.map ([44,32]++·)).flatten
theorem Uv(x:Bs):∀r:List Bs,Q00 (x::r)=x++Q3d r|[]=>by simp[Q00,Q3d]|y::r=>by have:=Uv y r;simp only[Q00]at this⊢;rw[this];simp[Q3d]
theorem Qny(r:List Bs):Lib.join r [44,32]=Q00 r:=by cases r with|nil=>rfl|cons x r=>rw[Uv,Lib.join_cons];rfl
theorem Q9w:∀(r:List Bs),(∀x∈r,x.length<=16)->(Q3d r).length<=18*r.length|[],h=>Cd _|x::r,h=>by have:=Q9w r λy hy=>h y (Ck _ hy);have hx:=h x Cj;unfold Q3d at this⊢;simp only[CJ,PV,C8,C1,Cb]at this⊢;omega
theorem Qb0(r:List Bs)(h:∀x∈r,x.length<=16):(Q00 r).length<=18*r.length:=by cases r with|nil=>exact Cd _|cons x r=>rw[Uv,C8];have:=Q9w r λy hy=>h y (Ck _ hy);have:=h x Cj;simp only[C1];omega
theorem J14{o:List Bs}(ho:o.length<=200000)(hx16:∀x∈o,x.length<=16)(s:Bs)(hs:s.length<=4):Qc (Jad o) Qf (s,0)=some (s++Q00 o):=by
 refine(JY (step:=Jad o) (λt=>∃j:Nat,t.2=(j:Int)/\j<=o.length/\t.1.length<=4+18*j) (λt=>o.length-t.2.toNat) (λt=>t.1++(if t.2=0 then Q00 o else Q3d (o.drop t.2.toNat))) ?_ Qf (s,0) ⟨0,rfl,Cd _,by dsimp only;omega⟩ ?_).trans (by rw[Cf rfl]);rintro⟨ac,i⟩ ⟨j,rfl,hj,hb⟩;dsimp only at hb⊢;rw[Cu];by_cases hlt:j<o.length;refine .inr ?_;obtain⟨x,hx⟩:∃x,o[j]?=some x:=⟨_,Cm hlt⟩;have hl:=hx16 x (Cr hx);unfold Jad;dsimp only;rw[C4 (by omega:(j:Int)<o.length),C5,DP hlt (by omega)];by_cases h0:j=0;subst h0;rw[C3 (by omega),C6,C0,GV (Pi _) (by simpa using hx),C0,Qv (C7 (by omega))];refine⟨_,rfl,⟨1,rfl,hlt,by simp only[C8];omega⟩,by simp only[Cu];omega,?_⟩;dsimp only;rw[Ca (by omega:¬((0+1:Nat):Int)=0),Cf (by rfl:((0:Nat):Int)=0),Cu];have:o=x::o.drop 1:=by have:=Q6w hx;simpa using this
 conv=>rhs;rw[this,Uv]
 simp;rw[C4 (by omega:(0:Int)<j),C5,Qv (C7 (by simp only[C1,Cb];omega)),C0,GV (Pi _) (by simpa using hx),C0,Qv (C7 (by simp only[C8,C1,Cb];omega))];refine⟨_,rfl,⟨j+1,rfl,hlt,by simp only[C8,C1,Cb];omega⟩,by simp only[Cu];omega,?_⟩;dsimp only;rw[Ca (by omega),Ca (by omega),Cu,Q6w hx];simp[Q3d];refine .inl ?_;unfold Jad;dsimp only;rw[C3 (by omega),C6];by_cases h0:(j:Int)=0;have e:o=[]:=Cz (by omega);rw[Cf h0,e];simp[Q00];rw[Ca h0,P1 (by omega)];simp[Q3d];dsimp only;unfold Qf;simp only[Int.toNat_zero];omega
def Y7(l:Lvl):List Bs:=(if 0<l.c\/l.vs=[]then[Wo l.c.toNat]else[])++Q3v l.vs++Q3x l.vs.reverse
theorem Qkj{x:LV}(h:Jai x):(Q7x x).length<=16:=by
 obtain⟨h1,h2,h3,h4⟩:=h;have hp:(Qeb x.2).length<=9:=by unfold Qeb;split;have:=ZI (a:=x.2) (by omega);simp only[C8,C1,Cb];omega;exact Cd _
 unfold Q7x Qas;split;have:=ZI (a:=x.1) (by omega);simp only[C1,C8];omega;have:=ZI (a:=-1-x.1) (by omega);simp only[C1,C8];omega
theorem Q5o{l:Lvl}(h:Q62 l):∀x∈Y7 l,x.length<=16:=by intro x hx;unfold Y7 Q3v Q3x at hx;rcases CR.1 hx with hx|hx;rcases CR.1 hx with hx|hx;split at hx;rw[CI.1 hx];have:=ZI (a:=l.c) (by have:=h.2.1;omega);omega;cases hx;obtain⟨y,hy,rfl⟩:=Cx.1 hx;exact Qkj (ZF h (PT.1 hy).1);obtain⟨y,hy,rfl⟩:=Cx.1 hx;exact Qkj (ZF h (List.mem_reverse.1 (PT.1 hy).1))
theorem Q1a(l:Lvl):(Y7 l).length<=2*l.vs.length+1:=by unfold Y7 Q3v Q3x;have h1:=PQ (λx:LV=>decide (0<=x.1)) l.vs;have h2:=PQ (λx:LV=>decide (x.1<0)) l.vs.reverse;rw[Px]at h2;simp only[C8,Co];split <;> simp only[C1,Cb] <;> omega
def Qdp(l:Lvl):Bs:=if(Y7 l).length=1 then Q00 (Y7 l)else[109,97,120,40]++Q00 (Y7 l)++[41]
theorem WJ(l:Lvl):Qdp l=(if(Y7 l).length=1 then Q00 (Y7 l)else[109,97,120,40]++Q00 (Y7 l)++[41]):=rfl
theorem Us{l:Lvl}(h:Q62 l):(Qdp l).length<=36*l.vs.length+23:=by rw[WJ];have h1:=Qb0 _ (Q5o h);have h2:=Q1a l;split;omega;simp only[C8,C1,Cb];omega
theorem Q3e(l:Lvl):(cond (decide (0<l.c)) (some true) (some ((l.vs.length:Int)==0)))=some (decide (0<l.c\/l.vs=[])):=by by_cases h0:0<l.c;rw[C4 h0,C5,C4 (.inl h0)];rw[C3 h0,C6];cases hl:l.vs with|nil=>simp|cons x r=>simp[h0];omega
theorem Qld{o:List Bs}(h:o.length=1):QP o 0=some (Q00 o):=by match o,h with|[x],_=>rfl
theorem Jq{α β:Type}{x:Option α}{k:α->Option β}(a:α)(h:x=some a){r:Option β}(h2:k a=r):Option.bind x k=r:=by rw[h];exact h2
theorem Qxu{l:Lvl}(hv:Q62 l)(hn:l.vs.length<=900000000):Qxv l=some (Qdp l,0):=by
 have hl:=Qnh hv hn;obtain⟨b,hb1,hb2⟩:=Qbr l hn;have hb:b=true:=hb2.2 hv;subst hb;have hc:0<=l.c/\l.c<=100:=⟨hv.1,hv.2.1⟩;unfold Qxv;rw[hb1];refine Jq _ (Q3e l) ?_;have l0:(if 0<l.c\/l.vs=[]then[Wo l.c.toNat]else[]).length<=1:=by split <;> simp
 refine Jq (if 0<l.c\/l.vs=[]then[Wo l.c.toNat]else[]) ?_ ?_;by_cases h:0<l.c\/l.vs=[];rw[C4 h,C5,Cf h,Qi1 hc.1 (by omega)];rfl;rw[C3 h,C6,Ca h];refine Jq _ (Qvx hv hl 0 _ (Cd _) (by omega)) ?_;rw[Pp];have l1:=PQ (λx:LV=>decide (0<=x.1)) l.vs;rw[Jh (by omega) (by omega)];refine Jq _ (Qvw hv hl _ (by rw[C8,Co];omega)) ?_;have ep:(if 0<l.c\/l.vs=[]then[Wo l.c.toNat]else[])++Q3v l.vs++Q3x l.vs.reverse=Y7 l:=rfl;rw[ep];have h16:=Q5o hv;have hn:=Q1a l;have hs:=Qb0 _ h16;rw[WJ];by_cases h1:(Y7 l).length=1;rw[Cf h1,show(((Y7 l).length:Int)==1)=true by rw[h1];rfl,C5,Qld h1,C0];rw[Ca h1,show(((Y7 l).length:Int)==1)=false by rw[Pm];omega,C6];unfold J7q;rw[Qny,Qv (by rw[C7 (by omega),C7 (by omega)];rfl),C0,Qv (C7 (by simp only[C1,Cb];omega)),Qv (C7 (by simp only[C8,C1,Cb];omega))]
theorem Qsl{l:Lvl}(hv:Q62 l)(hn:l.vs.length<=900000000):J6k l=some (Qdp l,0):=by
 have hl:=Qnh hv hn;obtain⟨b,hb1,hb2⟩:=Qm4 l hn;have hb:b=true:=hb2.2 hv;subst hb;have hc:0<=l.c/\l.c<=100:=⟨hv.1,hv.2.1⟩;unfold J6k;rw[hb1];refine Jq _ (Q3e l) ?_;have l0:(if 0<l.c\/l.vs=[]then[Wo l.c.toNat]else[]).length<=1:=by split <;> simp
 refine Jq (if 0<l.c\/l.vs=[]then[Wo l.c.toNat]else[]) ?_ ?_;by_cases h:0<l.c\/l.vs=[];rw[C4 h,C5,Cf h,Qbt hc.1 (by omega)];rfl;rw[C3 h,C6,Ca h];refine Jq _ (J16 hv hl 0 _ (Cd _) (by omega)) ?_;rw[Pp];have l1:=PQ (λx:LV=>decide (0<=x.1)) l.vs;rw[Jh (by omega) (by omega)];refine Jq _ (J15 hv hl _ (by rw[C8,Co];omega)) ?_;have ep:(if 0<l.c\/l.vs=[]then[Wo l.c.toNat]else[])++Q3v l.vs++Q3x l.vs.reverse=Y7 l:=rfl;rw[ep];have h16:=Q5o hv;have hn:=Q1a l;have hs:=Qb0 _ h16;rw[WJ];by_cases h1:(Y7 l).length=1;rw[Cf h1,show(((Y7 l).length:Int)==1)=true by rw[h1];rfl,C5,Qld h1,C0];rw[Ca h1,show(((Y7 l).length:Int)==1)=false by rw[Pm];omega,C6];refine Jq _ (J14 (by omega) h16 _ (by simp)) ?_;rw[Qv (C7 (by simp only[C8,C1,Cb];omega))]
end
section
open Go.RowKit Go.Shelf
theorem Qjc{α σ:Type}{f:σ->α->σ}{l:List α}{k:Nat}{x:α}{s:σ}(h:l[k]?=some x):(l.drop k).foldl f s=(l.drop (k+1)).foldl f (f s x):=by
 have:l.drop k=x::l.drop (k+1):=by obtain⟨hk,rfl⟩:=Ce.1 h;exact Pa hk
 rw[this];rfl
theorem Q9v{α σ:Type}{step:Int×σ->Option (LO (Int×σ) σ)}{l:List α}(f:σ->α->σ)(P:Nat->σ->Prop)(hlen:l.length<=900000)(hin:∀(k:Nat)(x:α)(s:σ),l[k]?=some x->P k s->step ((k:Int),s)=some (.next (Qr ((k:Int)+1),f s x))/\P (k+1) (f s x))(hout:∀s,P l.length s->step ((l.length:Int),s)=some (.done s))(s0:σ)(h0:P 0 s0):Qc step Qf (0,s0)=some (l.foldl f s0)/\P l.length (l.foldl f s0):=by
 have key:=JY (step:=step) (λs=>∃k:Nat,s.1=(k:Int)/\k<=l.length/\P k s.2) (λs=>l.length-s.1.toNat) (λs=>(l.drop s.1.toNat).foldl f s.2) (λs hs=>by obtain⟨i,s⟩:=s;obtain⟨k,rfl,hk,hp⟩:=hs;dsimp only at hp⊢;rcases P2 k l.length with hlt|hge;obtain⟨x,hx⟩:∃x,l[k]?=some x:=⟨_,Cm hlt⟩;obtain⟨h1,h2⟩:=hin k x s hx hp;right;rw[DP hlt (by omega)]at h1;refine⟨_,h1,⟨k+1,Z,hlt,h2⟩,?_,?_⟩;simp only[Cu];omega;simp only[Cu];exact(Qjc hx).symm;left;(obtain rfl:k=l.length:=by omega);rw[hout s hp];simp) Qf (0,s0) ⟨0,rfl,Cd _,h0⟩ (by show l.length-0<Qf;unfold Qf;omega);refine⟨by simpa using key,?_⟩;have hind:∀(k:Nat),k<=l.length->P k ((l.take k).foldl f s0):=by intro k;induction k with|zero=>intro _;exact h0|succ k ih=>intro hk;have hx:l[k]?=some l[k]:=Cm (by omega);have:=(hin k _ _ hx (ih (by omega))).2;rw[Sc,hx,List.foldl_append];exact this
 have:=hind l.length (Cl _);rwa [List.take_length]at this
structure ImInv(n:Nat)(M:QL):Prop where
 len:M.1.length<=n
 keys:(M.1.map λe=>e.1).Nodup
 born:(M.1.map λe=>e.2.2).Nodup
 old:∀e∈M.1,e.2.2<M.2
 rng:∀e∈M.1,-9223372036854775808<=e.1/\e.1<=9223372036854775807
theorem ImInv.nil:ImInv 0 imNil:=⟨Cl _,Sl,Sl,(λe h=>by cases h),(λe h=>by cases h)⟩
def mx:Option Int->Int->Option Int|none,p=>some p|some o,p=>some (max o p)
def Qzb:Option Int->Option Int->Option Int|a,none=>a|a,some p=>mx a p
def GG(vs:List LV)(k:Int):Option Int:=(vs.find? λx=>k==x.1).map λx=>x.2
abbrev Asc(l:List LV):Prop:=l.Pairwise (λa b=>a.1<b.1)
theorem Q6f(k:Int):GG [] k=none:=rfl
theorem ZY(x:LV)(l:List LV):GG (x::l) x.1=some x.2:=by simp[GG]
theorem YN{x:LV}{l:List LV}{k:Int}(h:k≠x.1):GG (x::l) k=GG l k:=by
 have:(k==x.1)=false:=by simpa using h
 simp[GG,Su,this]
theorem Q24{l:List LV}{k:Int}(h:∀y∈l,y.1≠k):GG l k=none:=by induction l with|nil=>rfl|cons x l ih=>rw[YN (λe=>h x Cj e.symm)];exact ih λy hy=>h y (Ck _ hy)
theorem Zp{l:List LV}(h:Asc l){k p:Int}:GG l k=some p↔(k,p)∈l:=by induction l with|nil=>simp[GG]|cons x l ih=>obtain⟨h1,h2⟩:=CM.1 h;by_cases hk:k=x.1;subst hk;rw[ZY];constructor;intro e;cases e;exact Cj;intro hm;rcases Cs.1 hm with e|hm;rw[<-e];have:=h1 _ hm;simp at this;rw[YN hk,ih h2];constructor;exact λhm=>Ck _ hm;intro hm;rcases Cs.1 hm with e|hm;exact absurd (by rw[<-e]) hk;exact hm
theorem Qmv{x:LV}{l:List LV}{k:Int}(h:Asc (x::l))(hk:k<x.1):GG (x::l) k=none:=by refine Q24 λy hy e=>?_;rcases Cs.1 hy with rfl|hy;omega;have:=(CM.1 h).1 y hy;omega
theorem Ug(a:Option Int):Qzb none a=a:=by cases a <;> rfl
theorem KH(a:Option Int):Qzb a none=a:=by cases a <;> rfl
theorem Kn:∀(a b:List LV),Asc a->Asc b->∀k,GG (QS a b) k=Qzb (GG a k) (GG b k)|[],b,_,_,k=>by rw[Yk,Q6f,Ug]|x::a,[],_,_,k=>by rw[YD,Q6f,KH]|x::a,y::b,ha,hb,k=>by obtain⟨a1,a2⟩:=CM.1 ha;obtain⟨b1,b2⟩:=CM.1 hb;rw[QS];split;rename_i hxy;by_cases hk:k=x.1;subst hk;rw[ZY,ZY,Qmv hb hxy,KH];rw[YN hk,YN hk];exact Kn a (y::b) a2 hb k;split;rename_i hyx;by_cases hk:k=y.1;subst hk;rw[ZY,ZY,Qmv ha hyx,Ug];rw[YN hk,YN (x:=y) hk];exact Kn (x::a) b ha b2 k;rename_i h1 h2;(have e:x.1=y.1:=by omega);by_cases hk:k=x.1;subst hk;rw[ZY (x.1,max x.2 y.2),ZY,e,ZY];rfl;(have hk2:k≠y.1:=by rw[<-e];exact hk);rw[YN (x:=(x.1,max x.2 y.2)) hk,YN hk,YN hk2];exact Kn a b a2 b2 k
termination_by a b=>a.length+b.length
theorem Q55{c m:Int}{vs:List LV}:JZ c vs<=m↔c<=m/\∀x∈vs,x.2<=m:=by unfold JZ;induction vs generalizing c with|nil=>simp|cons y l ih=>rw[PS,ih];constructor;rintro⟨h1,h2⟩;refine⟨by omega,λx hx=>?_⟩;rcases Cs.1 hx with rfl|hx;omega;exact h2 x hx;rintro⟨h1,h2⟩;exact⟨by have:=h2 y Cj;omega,λx hx=>h2 x (Ck _ hx)⟩
theorem Q65{c:Int}{vs:List LV}{x:LV}(h:x∈vs):x.2<=JZ c vs:=(Q55.1 (Int.le_refl _)).2 x h
theorem Qqt(c:Int)(vs:List LV):c<=JZ c vs:=(Q55.1 (Int.le_refl _)).1
theorem Qqu{vs:List LV}(hne:vs≠[])(h0:∀x∈vs,0<=x.2):∃x∈vs,JZ 0 vs=x.2:=by
 have key:∀(l:List LV)(c:Int),JZ c l=c\/∃x∈l,JZ c l=x.2:=by intro l;induction l with|nil=>intro c;exact .inl rfl|cons y l ih=>intro c;have e:JZ c (y::l)=JZ (max c y.2) l:=rfl;rw[e];rcases ih (max c y.2)with h|⟨x,hx,h⟩;rw[h];rcases Int.le_total c y.2 with h1|h1;right;exact⟨y,Cj,by omega⟩;left;omega;right;exact⟨x,Ck _ hx,h⟩
 rcases key vs 0 with h|h;obtain⟨x,r,rfl⟩:=PP hne;have h1:=h0 x Cj;have h2:=Q65 (c:=0) (vs:=x::r) Cj;exact⟨x,Cj,by omega⟩;exact h
def Q2r(C:Int)(vs:List LV):Int:=if vs≠[]/\C<=JZ 0 vs then 0 else C
theorem Qcc(A B:Lvl):ZW A B=⟨Q2r (max A.c B.c) (QS A.vs B.vs),QS A.vs B.vs⟩:=by unfold ZW Q2r;split <;> rfl
theorem Qh4{C b:Int}{vs m:List LV}(hC:0<=C)(hb:0<=b)(hm:vs≠[]->m≠[])(ht:JZ 0 vs<=JZ 0 m):Q2r (max (Q2r C vs) b) m=Q2r (max C b) m:=by unfold Q2r;have h0:=Qqt 0 m;by_cases h1:vs≠[]/\C<=JZ 0 vs;rw[Cf h1];have hm':=hm h1.1;by_cases h2:b<=JZ 0 m;rw[Cf ⟨hm',by omega⟩,Cf ⟨hm',by omega⟩];rw[Ca (λh=>h2 (by omega)),Ca (λh=>h2 (by omega))];omega;rw[Ca h1]
theorem Qkl{C:Int}{vs:List LV}(hC:0<=C)(h0:∀x∈vs,0<=x.2):ZO ⟨C,vs⟩=⟨Q2r C vs,vs⟩:=by unfold ZO Q2r Q71;by_cases h1:vs≠[]/\C<=JZ 0 vs;rw[Cf h1];obtain⟨x,hx,he⟩:=Qqu h1.1 h0;rw[Cf];exact CU.2 ⟨x,hx,by simp;omega⟩;rw[Ca h1,Ca];intro h2;obtain⟨x,hx,he⟩:=CU.1 h2;have hx':x∈vs:=hx;have:=Q65 (c:=0) hx';simp at he;exact h1 ⟨(by intro h;rw[h]at hx';cases hx'),by omega⟩
theorem Q3b{l:List LV}(h:Asc l){x:LV}(hx:x∈l):GG l x.1=some x.2:=(Zp h).2 hx
theorem Qht{a b:List LV}(ha:WF a)(hb:WF b){x:LV}(hx:x∈a):∃y∈QS a b,y.1=x.1/\x.2<=y.2:=by have h1:=Kn a b ha.1 hb.1 x.1;rw[Q3b ha.1 hx]at h1;have hm:=(Kw a b ha hb).1;cases h2:GG b x.1 with|none=>rw[h2]at h1;exact⟨(x.1,x.2),(Zp hm).1 h1,rfl,Int.le_refl _⟩|some p=>rw[h2]at h1;exact⟨(x.1,max x.2 p),(Zp hm).1 h1,rfl,by dsimp only;omega⟩
theorem Q93{a b:List LV}(ha:WF a)(hb:WF b){y:LV}(hy:y∈QS a b):y∈a\/y∈b:=by have hm:=(Kw a b ha hb).1;have h1:=Kn a b ha.1 hb.1 y.1;rw[Q3b hm hy]at h1;cases h2:GG a y.1 with|none=>rw[h2,Ug]at h1;exact .inr ((Zp hb.1).1 h1.symm)|some p=>cases h3:GG b y.1 with|none=>rw[h2,h3,KH]at h1;have:=(Zp ha.1).1 h2;cases h1;exact .inl this|some q=>rw[h2,h3]at h1;have h4:=(Zp ha.1).1 h2;have h5:=(Zp hb.1).1 h3;have h6:y.2=max p q:=Cw h1;rcases Int.le_total p q with h7|h7;right;rw[show max p q=q by omega]at h6;rwa [<-h6]at h5;left;rw[show max p q=p by omega]at h6;rwa [<-h6]at h4
theorem Qhs{a b:List LV}(h:a≠[]):QS a b≠[]:=by
 cases a with
 |nil=>exact absurd rfl h
 |cons x a=>cases b with
  |nil=>rw[YD];exact h
  |cons y b=>
   rw[QS]
   repeat' split
   all_goals exact List.cons_ne_nil _ _
theorem Qh7{a m:List LV}(h:∀x∈a,∃y∈m,x.2<=y.2):JZ 0 a<=JZ 0 m:=by refine Q55.2 ⟨Qqt 0 m,λx hx=>?_⟩;obtain⟨y,hy,h1⟩:=h x hx;have:=Q65 (c:=0) hy;omega
def Qda(M:QL)(x:LV):QL:=cond (cond (!(Q0g M x.1)) true (decide (Zg M x.1<x.2))) (U9 M x.1 x.2) M
def Qvi(M:QL):Prop:=∃n,ImInv n M
structure RMap(M:QL)(vs:List LV):Prop where
 good:Qvi M
 wf:WF vs
 eq:∀k,KT M k=GG vs k
theorem RMap.nil:RMap imNil []:=⟨⟨0,ImInv.nil⟩,Q14,λk=>rfl⟩
def Qf5(k:Int)(l:List (Int×Int×Nat)):Option Int:=(l.find? λe=>k==e.1).map λe=>e.2.1
theorem Dy(k:Int):∀(l:List (Int×Int×Nat))(i:Nat),(YT k l i).map (·.2)=Qf5 k l|[],i=>rfl|e::l,i=>by simp only[YT,Qf5,Su];cases h:k==e.1 with|true=>rfl|false=>simp only[C6];exact Dy k l (i+1)
theorem Q23(M:QL)(k:Int):KT M k=Qf5 k M.1:=Dy k M.1 0
theorem Qiq(k:Int)(l r:List (Int×Int×Nat)):Qf5 k (l++r)=(Qf5 k l).or (Qf5 k r):=by simp only[Qf5,List.find?_append];cases l.find? λe=>k==e.1 <;> rfl
theorem Dq{k v:Int}{k':Int}:∀{l:List (Int×Int×Nat)}{i j:Nat}{u:Int},YT k l i=some (j,u)->i<=j/\j-i<l.length/\Qf5 k' (l.modify (j-i) λe=>(k,v,e.2.2))=if k'=k then some v else Qf5 k' l|[],i,j,u,h=>by cases h|e::l,i,j,u,h=>by simp only[YT]at h;cases hk:k==e.1 with|true=>rw[hk]at h;cases h;(have hke:k=e.1:=by simpa using hk);refine⟨Cl _,by simp,?_⟩;rw[PD,List.modify_zero_cons];simp only[Qf5,Su];by_cases hkk:k'=k;subst hkk;simp;(have h1:(k'==k)=false:=by simpa using hkk);(have h2:(k'==e.1)=false:=by rw[<-hke];exact h1);rw[h1,h2,Ca hkk]|false=>rw[hk]at h;simp only[C6]at h;obtain⟨h1,h2,h3⟩:=Dq (v:=v) (k':=k') h;refine⟨by omega,by simp only[C1];omega,?_⟩;rw[show j-i=(j-(i+1))+1 by omega,List.modify_succ_cons];simp only[Qf5,Su]at h3⊢;cases hk':k'==e.1 with|true=>(have:k'≠k:=by intro e1;subst e1;rw[hk]at hk';cases hk');rw[Ca this]|false=>exact h3
theorem Q9s(M:QL)(k v k':Int):KT (U9 M k v) k'=if k'=k then some v else KT M k':=by rw[Q23,Q23];unfold U9;cases h:YT k M.1 0 with|some p=>(obtain⟨j,u⟩:=p;have:=(Dq (v:=v) (k':=k') h).2.2;simpa using this)|none=>(have h0:Qf5 k M.1=none:=by rw[<-Dy k M.1 0,h];rfl);dsimp only;rw[Qiq];by_cases hkk:k'=k;subst hkk;rw[h0];simp[Qf5];rw[Ca hkk];(have:Qf5 k' [(k,v,M.2)]=none:=by(have h1:(k'==k)=false:=by simpa using hkk);simp[Qf5,h1]);rw[this];cases Qf5 k' M.1 <;> rfl
theorem Dl{α β:Type}(g:α->β)(f:α->α):∀(l:List α)(j:Nat),(∀x,l[j]?=some x->g (f x)=g x)->(l.modify j f).map g=l.map g|[],j,_=>by cases j <;> rfl|x::l,0,h=>by rw[List.modify_zero_cons,CJ,CJ,h x rfl]|x::l,j+1,h=>by rw[List.modify_succ_cons,CJ,CJ,Dl g f l j (λy hy=>h y (by simpa using hy))]
theorem Q6d{k:Int}:∀{l:List (Int×Int×Nat)}{i j:Nat}{u:Int},YT k l i=some (j,u)->∃e,l[j-i]?=some e/\e.1=k|[],i,j,u,h=>by cases h|e::l,i,j,u,h=>by simp only[YT]at h;cases hk:k==e.1 with|true=>rw[hk]at h;cases h;exact⟨e,by simp,(by simpa using hk:k=e.1).symm⟩|false=>rw[hk]at h;simp only[C6]at h;obtain⟨e',h1,h2⟩:=Q6d h;have:=(Dq (v:=0) (k':=0) h).1;exact⟨e',by rw[show j-i=(j-(i+1))+1 by omega,List.getElem?_cons_succ];exact h1,h2⟩
theorem Q3a{k:Int}:∀{l:List (Int×Int×Nat)}{i:Nat},YT k l i=none->∀e∈l,e.1≠k|[],i,_,e,he=>by cases he|x::l,i,h,e,he=>by simp only[YT]at h;cases hk:k==x.1 with|true=>rw[hk]at h;cases h|false=>rw[hk]at h;rcases Cs.1 he with rfl|he;intro e1;rw[e1]at hk;simp at hk;exact Q3a h e he
theorem ImInv.set{n:Nat}{M:QL}(h:ImInv n M){k:Int}(v:Int)(hk:-9223372036854775808<=k/\k<=9223372036854775807):ImInv (n+1) (U9 M k v):=by unfold U9;cases hf:YT k M.1 0 with|some p=>(obtain⟨j,u⟩:=p;obtain⟨e0,h1,h2⟩:=Q6d hf;rw[Sx]at h1;have m1:(M.1.modify j λe=>(k,v,e.2.2)).map (λe=>e.1)=M.1.map λe=>e.1:=Dl _ _ _ _ (λx hx=>by rw[h1]at hx;cases hx;exact h2.symm);have m2:(M.1.modify j λe=>(k,v,e.2.2)).map (λe=>e.2.2)=M.1.map λe=>e.2.2:=Dl _ _ _ _ (λx hx=>rfl);refine⟨by rw[List.length_modify];exact SF h.len,by dsimp only;rw[m1];exact h.keys,by dsimp only;rw[m2];exact h.born,λe he=>?_,λe he=>?_⟩;(have:e.2.2∈M.1.map λe=>e.2.2:=by rw[<-m2];exact List.mem_map_of_mem he);obtain⟨e',h3,h4⟩:=Cx.1 this;dsimp only at h4⊢;rw[<-h4];exact h.old e' h3;(have:e.1∈M.1.map λe=>e.1:=by rw[<-m1];exact List.mem_map_of_mem he);obtain⟨e',h3,h4⟩:=Cx.1 this;rw[<-h4];exact h.rng e' h3)|none=>have hn:=Q3a hf;refine⟨by simp only[C8,List.length_singleton];have:=h.len;omega,?_,?_,λe he=>?_,λe he=>?_⟩;rw[Ct,SD];refine⟨h.keys,by simp,λa ha b hb=>?_⟩;obtain⟨e,h3,rfl⟩:=Cx.1 ha;simp at hb;subst hb;exact hn e h3;rw[Ct,SD];refine⟨h.born,by simp,λa ha b hb=>?_⟩;obtain⟨e,h3,rfl⟩:=Cx.1 ha;simp at hb;subst hb;exact Nat.ne_of_lt (h.old e h3);rcases CR.1 he with he|he;exact Nat.lt_succ_of_lt (h.old e he);simp at he;subst he;exact Cv _;rcases CR.1 he with he|he;exact h.rng e he;simp at he;subst he;exact hk
theorem Q1h{α:Type}[BEq α][LawfulBEq α]:∀{l:List α},l.Nodup->Dk l=true|[],_=>rfl|x::l,h=>by obtain⟨h1,h2⟩:=CX.1 h;simp only[Dk];cases h3:l.any λy=>x==y with|true=>(obtain⟨y,h4,h5⟩:=CU.1 h3;rw[show x=y by simpa using h5]at h1;exact absurd h4 h1)|false=>exact Q1h h2
theorem ImInv.ok{n:Nat}{M:QL}(h:ImInv n M)(hn:n<=1000000):Q86 M=true:=by
 unfold Q86;rw[C7 (Cg h.len hn),Q1h h.keys,Q1h h.born];have:(M.1.all λe=>cond (Nat.ble (e.2.2+1) M.2) (cond (decide (-9223372036854775808<=e.1)) (decide (e.1<=9223372036854775807)) false) false)=true:=by refine Ch.2 λe he=>?_;rw[C7 (h.old e he),C4 (h.rng e he).1,C4 (h.rng e he).2];rfl
 rw[this];rfl
theorem Q5v{M:QL}{k:Int}:k∈Y1 M↔(KT M k).isSome:=by rw[Q23];unfold Y1 Qf5;rw[(Kf _).mem_iff,Option.isSome_map,List.find?_isSome];constructor;intro h;obtain⟨e,h1,h2⟩:=Cx.1 h;exact⟨e,h1,by simp[h2]⟩;rintro⟨e,h1,h2⟩;exact Cx.2 ⟨e,h1,(by simpa using h2:k=e.1).symm⟩
theorem Q6c{n:Nat}{M:QL}(h:ImInv n M):(Y1 M).Pairwise (· < ·):=by have h1:(Y1 M).Nodup:=(Kf _).nodup_iff.2 h.keys;have h2:=XU (M.1.map λe=>e.1);exact(h2.and h1).imp λ⟨a,b⟩=>Int.lt_iff_le_and_ne.2 ⟨a,b⟩
theorem Asc.nodup{l:List LV}(h:Asc l):l.Nodup:=h.imp λhab e=>by rw[e]at hab;omega
theorem Qzh{a b:List LV}(ha:Asc a)(hb:Asc b)(h:∀k,GG a k=GG b k):a=b:=by
 have hp:a.Perm b:=(List.perm_ext_iff_of_nodup ha.nodup hb.nodup).2 λx=>by obtain⟨k,p⟩:=x;rw[<-Zp ha,<-Zp hb,h]
 exact List.Perm.eq_of_pairwise (le:=λx y:LV=>x.1<y.1) (λx y _ _ h1 h2=>by omega) ha hb hp
theorem J12(M:QL)(x:LV)(k:Int):KT (Qda M x) k=if k=x.1 then mx (KT M k) x.2 else KT M k:=by unfold Qda Q0g Zg;cases h:KT M x.1 with|none=>simp only[CT,CY,C5];rw[Q9s];by_cases hk:k=x.1;subst hk;rw[Cf rfl,Cf rfl,h];rfl;rw[Ca hk,Ca hk]|some o=>simp only[P5,Pf,C6,PA];by_cases ho:o<x.2;rw[C4 ho,C5,Q9s];by_cases hk:k=x.1;subst hk;rw[Cf rfl,Cf rfl,h];(have:max o x.2=x.2:=by omega);simp only[mx,this];rw[Ca hk,Ca hk];rw[C3 ho,C6];by_cases hk:k=x.1;subst hk;rw[Cf rfl,h];(have:max o x.2=o:=by omega);simp only[mx,this];rw[Ca hk]
theorem Qw4{M:QL}(h:Qvi M){x:LV}(hx:-65536<=x.1/\x.1<=7):Qvi (Qda M x):=by unfold Qda;obtain⟨n,hn⟩:=h;cases cond (!(Q0g M x.1)) true (decide (Zg M x.1<x.2))with|true=>exact⟨_,hn.set x.2 ⟨by omega,by omega⟩⟩|false=>exact⟨n,hn⟩
theorem Qkt:∀(l:List LV)(M:QL),Asc l->∀k,KT (l.foldl Qda M) k=Qzb (KT M k) (GG l k)|[],M,_,k=>by rw[Q6f,KH];rfl|x::l,M,h,k=>by obtain⟨h1,h2⟩:=CM.1 h;rw[PS,Qkt l _ h2,J12];by_cases hk:k=x.1;subst hk;(have:GG l x.1=none:=Q24 λy hy e=>by have:=h1 y hy;omega);rw[Cf rfl,this,ZY,KH];rfl;rw[Ca hk,YN hk]
theorem Q01:∀(l:List LV)(M:QL),Qvi M->(∀x∈l,-65536<=x.1/\x.1<=7)->Qvi (l.foldl Qda M)|[],_,h,_=>h|x::l,M,h,hl=>Q01 l _ (Qw4 h (hl x Cj)) λy hy=>hl y (Ck _ hy)
theorem RMap.merge{M:QL}{vs l:List LV}(h:RMap M vs)(hl:WF l):RMap (l.foldl Qda M) (QS vs l):=⟨Q01 l M h.good hl.2,Kw _ _ h.wf hl,λk=>by rw[Qkt l M hl.1,h.eq,Kn vs l h.wf.1 hl.1]⟩
theorem RMap.ok{M:QL}{vs:List LV}(h:RMap M vs):Q86 M=true/\(Y1 M).map (λk=>(k,Zg M k))=vs:=by
 obtain⟨n,hn⟩:=h.good;have h1:(Y1 M).map (λk=>(k,Zg M k))=vs:=by refine Qzh ?_ h.wf.1 λk=>?_;unfold Asc;rw[SH];exact Q6c hn;(have ha:Asc ((Y1 M).map λk=>(k,Zg M k)):=by unfold Asc;rw[SH];exact Q6c hn);rw[<-h.eq k];cases hg:KT M k with|none=>(refine Q24 λy hy e=>?_;obtain⟨k',hk',rfl⟩:=Cx.1 hy;have:=Q5v.1 hk';dsimp only at e;subst e;rw[hg]at this;cases this)|some p=>have hk:k∈Y1 M:=Q5v.2 (by rw[hg];rfl);refine(Zp ha).2 (Cx.2 ⟨k,hk,?_⟩);unfold Zg;rw[hg];rfl
 refine⟨ImInv.ok (n:=M.1.length) {hn with len:=Cl _} ?_,h1⟩;have h2:vs.length=M.1.length:=by rw[<-h1,Co];exact(Kf _).length_eq.trans (Co _)
 have:=h.wf.len;omega
theorem D7{a b:Nat}(h:a<=b):Nat.ble a b=true:=C7 h
theorem GX{α:Type}{b:Bool}{x:Option α}(h:b=true):Qa b x=x:=by rw[h];rfl
theorem Qr6(M:QL)(k p:Int):(Option.bind (cond (!(Q0g M k)) (some true) (some (decide ((Zg M k)<p)))) (λ(v19:Bool)=>cond v19 (some (U9 M k p)) (some M)))=some (Qda M (k,p)):=by unfold Qda;cases Q0g M k with|false=>rfl|true=>simp only[Pf,C6,C0];cases decide (Zg M k<p) <;> rfl
theorem Q6h{α β:Type}(f:α->β):∀(l:List α)(out:List β),l.foldl (λo x=>o++[f x]) out=out++l.map f|[],out=>by simp|x::l,out=>by rw[PS,Q6h f l];simp
structure GoodL(A:Lvl):Prop where
 wf:WF A.vs
 c:0<=A.c
 v:∀x∈A.vs,0<=x.2
theorem Qvt(A:Lvl):(ZO A).vs=A.vs:=by unfold ZO;split <;> rfl
theorem Qj4{A B:Lvl}(ha:GoodL A)(hb:GoodL B):GoodL ⟨max A.c B.c,QS A.vs B.vs⟩:=⟨Kw _ _ ha.wf hb.wf,by have:=ha.c;show 0<=max A.c B.c;omega,λx hx=>(Q93 ha.wf hb.wf hx).elim (ha.v x) (hb.v x)⟩
theorem g2{a b:Nat}(h1:a<=100000)(h2:b<=100000):cond (Nat.ble a 100000) (Nat.ble b 100000) false=true:=by rw[D7 h1,D7 h2];rfl
def Q0e(b:UInt8):Bool:=decide (48<=b.toNat)&&decide (b.toNat<=57)
def Z1(s:Bs):Bs:=s.takeWhile Q0e
def G4(ds:Bs):Nat:=ds.foldl (λa b=>10*a+(b.toNat-48)) 0
def Qpo(ds:Bs):Bool:=decide (ds.length=0)||decide (6<ds.length)||(decide (1<ds.length)&&(ds.head?==some 48))
def WC(s:Bs):Option (Nat×Bs):=if Qpo (Z1 s)then none else some (G4 (Z1 s),s.drop (Z1 s).length)
def sp(s:Bs):Bs:=s.dropWhile (·==32)
def GK(c:UInt8):Bs->Option Bs|b::r=>if b=c then some r else none|[]=>none
def XS(i n:Int):Lvl×Int:=if i < -65536\/7<i\/n<0 then(⟨0,[]⟩,2)else if 100<n then(⟨0,[]⟩,15)else(⟨0,[(i,n)]⟩,0)
def Qhn(n:Int):Lvl×Int:=if n<0 then(⟨0,[]⟩,2)else if 100<n then(⟨0,[]⟩,15)else(⟨n,[]⟩,0)
def Qmu(neg:Bool)(t:Bs):Option ((Lvl×Int)×Bs):=match WC t with|none=>none|some (n,r)=>match GK 43 (sp r)with|none=>some (XS (if neg then -1-(n:Int)else n) 0,sp r)|some r2=>match WC (sp r2)with|none=>none|some (p,r3)=>some (XS (if neg then -1-(n:Int)else n) p,r3)
def Zf(t:Bs):Option ((Lvl×Int)×Bs):=match GK 117 t with|some t'=>Qmu false t'|none=>match GK 63 t with|some t'=>Qmu true t'|none=>match WC t with|none=>none|some (n,r)=>some (Qhn n,r)
def KS:Nat->Bs->Option (List (Lvl×Int)×Bs)|0,_=>none|n+1,t=>match Zf (sp t)with|none=>none|some (x,r)=>match GK 44 (sp r)with|none=>some ([x],sp r)|some r2=>match KS n r2 with|none=>none|some (xs,r3)=>some (x::xs,r3)
def Q5r(s:Bs):Option (List (Lvl×Int)):=
 if Lib.hasPrefix (sp s) [109,97,120]then match GK 40 (sp ((sp s).drop 3))with|none=>none|some t=>match KS (s.length+1) t with|none=>none|some (xs,r)=>match GK 41 r with|none=>none|some r2=>if sp r2=[]then some xs else none
 else match Zf (sp s)with|none=>none|some (x,r)=>if sp r=[]then some [x]else none
def ZA(e:Int)(xs:List (Lvl×Int)):Int:=xs.foldl (λe x=>if e=0 then x.2 else e) e
def Xd(o:Lvl)(xs:List (Lvl×Int)):Lvl:=xs.foldl (λo x=>ZW o x.1) o
def YP(s:Bs):Lvl×Int:=match Q5r s with|none=>(⟨0,[]⟩,4)|some []=>(⟨0,[]⟩,4)|some (x::xs)=>if ZA 0 (x::xs)=0 then(Xd x.1 xs,0)else(⟨0,[]⟩,ZA 0 (x::xs))
theorem Qau{p:UInt8->Bool}:∀(s:Bs)(k:Nat),k<(s.takeWhile p).length->∃b,s[k]?=some b/\p b=true|[],k,h=>by simp at h|b::s,k,h=>by rw[P6]at h;split at h;rename_i hb;(cases k with|zero=>exact⟨b,rfl,hb⟩|succ k=>exact Qau s k (by simpa using h));simp at h
theorem Qav{p:UInt8->Bool}:∀(s:Bs)(b:UInt8),s[(s.takeWhile p).length]?=some b->p b=false|[],b,h=>by simp at h|c::s,b,h=>by rw[P6]at h;split at h;rename_i hc;exact Qav s b (by simpa using h);rename_i hc;simp at h;subst h;simpa using hc
theorem Q4c{p:UInt8->Bool}(s:Bs):s.take (s.takeWhile p).length=s.takeWhile p:=by
 conv=>lhs;rw[<-CK (p:=p) (l:=s)]
 have h:((s.takeWhile p++s.dropWhile p).takeWhile p).length=(s.takeWhile p).length:=by rw[CK]
 rw[h,List.take_left'];rfl
theorem Q54{p:UInt8->Bool}(s:Bs):(s.takeWhile p).length<=s.length:=by have:=congrArg List.length (CK (p:=p) (l:=s));rw[C8]at this;omega
theorem Yr(s:Bs):(sp s).length<=s.length:=by have:=congrArg List.length (CK (p:=λb:UInt8=>b==32) (l:=s));rw[C8]at this;unfold sp;omega
theorem Yg{c:UInt8}{t r:Bs}(h:GK c t=some r):t=c::r:=by cases t with|nil=>cases h|cons b t=>unfold GK at h;dsimp only at h;split at h;rename_i hb;have:=Cw h;subst this hb;rfl;cases h
theorem Kr(c:UInt8)(t:Bs):Lib.hasPrefix t [c]=(GK c t).isSome/\Lib.trimPrefix t [c]=(GK c t).getD t:=by unfold Lib.trimPrefix Lib.hasPrefix;cases t with|nil=>exact⟨rfl,rfl⟩|cons b t=>unfold GK;dsimp only;by_cases h:b=c;subst h;rw[Cf rfl];simp[List.isPrefixOf];rw[Ca h];(have:(c==b)=false:=by simpa using λe=>h e.symm);simp[List.isPrefixOf,this]
theorem Q09{t r:Bs}{v:Nat}(h:WC t=some (v,r)):r.length<t.length/\r=t.drop (Z1 t).length/\v=G4 (Z1 t)/\Qpo (Z1 t)=false:=by
 unfold WC at h;split at h;cases h;rename_i hb;cases h;refine⟨?_,rfl,rfl,by simpa using hb⟩;have h1:(Z1 t).length≠0:=λh0=>by simp[Qpo,h0]at hb
 have h2:(Z1 t).length<=t.length:=Q54 t;rw[Cq];omega
theorem Qtv{neg:Bool}{t r:Bs}{x:Lvl×Int}(h:Qmu neg t=some (x,r)):r.length<t.length:=by unfold Qmu at h;split at h;cases h;rename_i n r1 h1;have l1:=(Q09 h1).1;have l2:=Yr r1;split at h;cases h;omega;rename_i r2 h2;have l3:=congrArg List.length (Yg h2);rw[C1]at l3;have l4:=Yr r2;split at h;cases h;rename_i p r3 h3;have l5:=(Q09 h3).1;cases h;omega
theorem Xm{t r:Bs}{x:Lvl×Int}(h:Zf t=some (x,r)):r.length<t.length:=by unfold Zf at h;split at h;rename_i t' h1;have l1:=congrArg List.length (Yg h1);rw[C1]at l1;have:=Qtv h;omega;split at h;rename_i t' h1;have l1:=congrArg List.length (Yg h1);rw[C1]at l1;have:=Qtv h;omega;split at h;cases h;rename_i n r1 h1;cases h;exact(Q09 h1).1
theorem Qft:∀(ds:Bs)(acc:Nat),(∀b∈ds,Q0e b=true)->Lib.decFrom acc ds=some (ds.foldl (λa b=>10*a+(b.toNat-48)) acc)|[],acc,_=>rfl|b::ds,acc,h=>by have hb:=h b Cj;simp only[Q0e,CD,CZ]at hb;(have hd:Lib.digitVal b=some (b.toNat-48):=by unfold Lib.digitVal;rw[Cf hb]);unfold Lib.decFrom;rw[hd];dsimp only;rw[Qft ds _ (λc hc=>h c (Ck _ hc)),PS,SJ acc 10]
theorem Q0m{s:Bs}:∀b∈Z1 s,Q0e b=true:=λb hb=>by have:=List.all_takeWhile (p:=Q0e) (l:=s);exact Ch.1 this b hb
theorem Qg4{s:Bs}(h:Z1 s≠[]):Lib.atoi (Z1 s)=some ((G4 (Z1 s):Nat):Int):=by have hd:=Q0m (s:=s);generalize Z1 s=ds at h hd;cases ds with|nil=>exact absurd rfl h|cons b ds=>have hb:=hd b Cj;simp only[Q0e,CD,CZ]at hb;unfold Lib.atoi;dsimp only;(have h1:(b==45)=false:=by cases hc:(b==45)with|false=>rfl|true=>have:=eq_of_beq hc;subst this;exact absurd hb.1 (by decide));(have h2:(b==43)=false:=by cases hc:(b==43)with|false=>rfl|true=>have:=eq_of_beq hc;subst this;exact absurd hb.1 (by decide));rw[h1,h2,Ca Cp,Ca Cp];unfold Lib.decNat;rw[show(b::ds).isEmpty=false from rfl,Ca Cp,Qft _ 0 hd];rfl
theorem Q6e{s:Bs}{k:Nat}{b:UInt8}(h:s[k]?=some b):QP s (k:Int)=some b:=h
theorem Q4o(b:UInt8):Q0e b=(decide (48<=(b.toNat:Int))&&decide ((b.toNat:Int)<=57)):=by unfold Q0e;congr 1 <;> (apply Bool.eq_iff_iff.2;simp only[CZ];omega)
theorem Q4g:∀(ds:Bs)(acc:Nat),(∀b∈ds,Q0e b=true)->ds.foldl (λa b=>10*a+(b.toNat-48)) acc+1<=(acc+1)*10 ^ ds.length|[],acc,_=>by simp|b::ds,acc,h=>by have hb:=h b Cj;simp only[Q0e,CD,CZ]at hb;rw[PS];refine Cg (Q4g ds _ (λc hc=>h c (Ck _ hc))) ?_;rw[C1,Nat.pow_succ,SJ _ 10,<-Nat.mul_assoc];refine Pq _ ?_;omega
theorem Qo4{t r:Bs}{v:Nat}(h:WC t=some (v,r)):v<1000000:=by
 obtain⟨-,-,h2,h3⟩:=Q09 h;have h4:=Q4g (Z1 t) 0 Q0m;have h5:(Z1 t).length<=6:=by simp[Qpo]at h3;omega
 have h6:10 ^ (Z1 t).length<=10 ^ 6:=Nat.pow_le_pow_right (by decide) h5;have h7:(10:Nat) ^ 6=1000000:=by decide
 unfold G4 at h2;omega
theorem Qev{s:Bs}(hs:s.length<=100000):Qc (Xq s) Qf 0=some ((Z1 s).length:Int):=by
 refine JY (λi=>∃k:Nat,i=(k:Int)/\k<=(Z1 s).length) (λi=>(Z1 s).length-i.toNat) (λ_=>((Z1 s).length:Int)) ?_ Qf 0 ⟨0,Z,Cd _⟩ ?_;rintro i ⟨k,rfl,hk⟩;have hle:(Z1 s).length<=s.length:=Q54 s;unfold Xq;by_cases hlt:k<(Z1 s).length;obtain⟨b,hb,hd⟩:=Qau s k hlt;rw[Q4o]at hd;simp only[CD]at hd;right;refine⟨((k+1:Nat):Int),?_,⟨k+1,rfl,hlt⟩,by simp only[Cu];omega,rfl⟩;rw[C4 (by omega:(k:Int)<s.length),C5,Q6e hb];simp only[C0,hd.1,hd.2,C5];rw[Jh (by omega) (by omega)];rfl;have hk':k=(Z1 s).length:=by omega
 subst hk';left;cases hb:s[(Z1 s).length]? with|none=>have:=Pb.1 hb;rw[C3 (by omega:¬((Z1 s).length:Int)<s.length)];rfl|some b=>have hd:=Qav s b hb;have:=(Ce.1 hb).1;rw[C4 (by omega:((Z1 s).length:Int)<s.length),C5,Q6e hb];rw[Q4o]at hd;simp only[C0];cases h1:decide (48<=(b.toNat:Int))with|false=>rfl|true=>rw[h1,Bool.true_and]at hd;rw[hd];rfl
 have:(Z1 s).length<=s.length:=Q54 s;show(Z1 s).length-0<Qf;unfold Qf;omega
theorem Qbj{s:Bs}(hs:s.length<=100000)(bad:Bool)(e C:Int)(M:QL):∃x,Zj s bad e C M=some x/\match WC s with
  |some (v,r)=>x=((v:Int),r,bad)
  |none=>x.2.2=true:=by
 have hle:(Z1 s).length<=s.length:=Q54 s
 unfold Zj
 rw[Qev hs,C0]
 have g:(cond (decide (0<=((Z1 s).length:Int))) (Nat.ble ((Z1 s).length:Int).toNat s.length) false)=true:=by
  rw[C4 (by omega),C5];exact D7 (by simpa using hle)
 rw[GX g,GX g,Cu]
 have ht:s.take (Z1 s).length=Z1 s:=Q4c s
 rw[ht]
 unfold WC Qpo
 by_cases h0:(Z1 s).length=0
 ·rw[show(((Z1 s).length:Int)==0)=true by simpa using h0,C5]
  refine⟨_,Z,?_⟩
  rw[Cf (by simp[h0])]
 ·rw[show(((Z1 s).length:Int)==0)=false by simpa using h0,C6]
  by_cases h6:6<(Z1 s).length
  ·rw[C4 (by omega:(6:Int)<(Z1 s).length),C5]
   refine⟨_,Z,?_⟩
   rw[Cf (by simp[h6])]
  ·rw[C3 (by omega:¬(6:Int)<(Z1 s).length),C6]
   have hne:Z1 s≠[]:=λh=>h0 (by rw[h];rfl)
   have ha:=Qg4 hne
   obtain⟨b,ds,hds⟩:∃b ds,Z1 s=b::ds:=by
    cases h:Z1 s with
    |nil=>exact absurd h hne
    |cons b ds=>exact⟨b,ds,rfl⟩
   have g2:(cond (Nat.ble (Z1 s).length 18) (Lib.atoi (Z1 s)).isSome false)=true:=by rw[D7 (by omega),C5,ha];rfl
   have hi:QP (Z1 s) 0=some b:=by rw[hds];rfl
   have hh:(Z1 s).head?=some b:=by rw[hds];rfl
   by_cases h1:1<(Z1 s).length
   ·rw[C4 (by omega:(1:Int)<(Z1 s).length),C5,hi,hh]
    simp only[C0]
    by_cases hb:b=48
    ·subst hb
     refine⟨_,Z,?_⟩
     rw[Cf (by simp[h1])]
    ·have e1:((b.toNat:Int)==48)=false:=by
      have:b.toNat≠48:=λe=>hb (PU.1 e)
      simpa using λe:(b.toNat:Int)=48=>this (by omega)
     rw[e1,C6,GX g2]
     refine⟨_,Z,?_⟩
     rw[Ca (by simp[h0,h6,hb])]
     dsimp only
     unfold Q3j
     rw[ha];rfl
   ·rw[C3 (by omega:¬(1:Int)<(Z1 s).length),C6,C0,C6,GX g2]
    refine⟨_,Z,?_⟩
    rw[Ca (by simp[h0,h6,h1])]
    dsimp only
    unfold Q3j
    rw[ha];rfl
theorem Q5y(i n:Int):(Option.bind (cond (decide (i<(-65536))) (some true) (cond (decide (7<i)) (some true) (some (decide (n<0))))) (λ(v12:Bool)=>cond v12 (some (2,([]:List LV))) (cond (decide (100<n)) (some (15,([]:List LV))) (some (0,[(i,n)])))):Option (Int×List LV))=some ((XS i n).2,(XS i n).1.vs)/\(XS i n).1.c=0:=by unfold XS;by_cases h1:i < -65536;simp[h1];by_cases h2:7<i;simp[h1,h2];by_cases h3:n<0;simp[h1,h2,h3];by_cases h4:100<n;simp[h1,h2,h3,h4];simp[h1,h2,h3,h4]
theorem Qt0(n:Int):(cond (decide (n<0)) (some (2,0)) (cond (decide (100<n)) (some (15,0)) (some (0,n))):Option (Int×Int))=some ((Qhn n).2,(Qhn n).1.c)/\(Qhn n).1.vs=[]:=by unfold Qhn;by_cases h3:n<0;simp[h3];by_cases h4:100<n;simp[h3,h4];simp[h3,h4]
structure PartOK(x:Lvl×Int):Prop where
 c:0<=x.1.c/\x.1.c<=100
 v:∀y∈x.1.vs,Jai y
 wf:WF x.1.vs
 tr:ZO x.1=x.1
theorem XR(i n:Int):PartOK (XS i n):=by unfold XS;split;exact⟨⟨(by show(0:Int)<=0;omega),(by show(0:Int)<=100;omega)⟩,(λy hy=>by cases hy),Q14,rfl⟩;rename_i h;split;exact⟨⟨(by show(0:Int)<=0;omega),(by show(0:Int)<=100;omega)⟩,(λy hy=>by cases hy),Q14,rfl⟩;rename_i h2;refine⟨⟨(by show(0:Int)<=0;omega),(by show(0:Int)<=100;omega)⟩,(λy hy=>?_),J0u ⟨by omega,by omega⟩,?_⟩;simp at hy;subst hy;exact⟨by omega,by omega,by omega,by omega⟩;unfold ZO;split <;> rfl
theorem J0v(i n:Int):PartOK (⟨0,(XS i n).1.vs⟩,(XS i n).2):=by
 have h:=XR i n;have e:(XS i n).1=⟨0,(XS i n).1.vs⟩:=by have:=(Q5y i n).2;generalize (XS i n).1=L at this⊢;cases L;dsimp only at this⊢;rw[this]
 exact⟨⟨Int.le_refl _,(by show(0:Int)<=100;decide)⟩,h.v,h.wf,by show ZO ⟨0,(XS i n).1.vs⟩=_;rw[<-e];exact h.tr⟩
theorem Q1f(n:Int):PartOK (Qhn n):=by unfold Qhn;split;exact⟨⟨(by show(0:Int)<=0;omega),(by show(0:Int)<=100;omega)⟩,(λy hy=>by cases hy),Q14,rfl⟩;split;exact⟨⟨(by show(0:Int)<=0;omega),(by show(0:Int)<=100;omega)⟩,(λy hy=>by cases hy),Q14,rfl⟩;refine⟨⟨by show(0:Int)<=n;omega,by show n<=100;omega⟩,(λy hy=>by cases hy),Q14,rfl⟩
theorem Qmt{neg:Bool}{t r:Bs}{x:Lvl×Int}(h:Qmu neg t=some (x,r)):PartOK x:=by unfold Qmu at h;split at h;cases h;split at h;cases h;exact XR _ _;split at h;cases h;cases h;exact XR _ _
theorem Qb9{t r:Bs}{x:Lvl×Int}(h:Zf t=some (x,r)):PartOK x:=by unfold Zf at h;split at h;exact Qmt h;split at h;exact Qmt h;split at h;cases h;cases h;exact Q1f _
theorem J1t{L:Lvl}(hL:PartOK (L,0))(C:Int)(M:QL):W9 L 0 C M=some (L.vs.foldl Qda M):=by unfold W9;have hv:=hL.v;have key:=Q9v (step:=Gc L 0) (l:=L.vs) Qda (λ_ _=>True) (by have:=hL.wf.len;exact Cg this (by decide)) (λk y s hy _=>by have hk:=(Ce.1 hy).1;have hy':Jai y:=hv y (Cr hy);refine⟨?_,trivial⟩;unfold Gc;dsimp only;rw[C4 (by omega:(k:Int)<L.vs.length),C5,GV (Pi _) (by simpa using hy),C0];unfold Qbm;rw[Jh (n:=y.2+0) (by have:=hy'.2.2;omega) (by have:=hy'.2.2;omega),Int.add_zero,Qr6];rfl) (λs _=>by unfold Gc;dsimp only;rw[C3 (by omega),C6]) M trivial;rw[key.1];rfl
theorem W7(c:UInt8)(s:Bs)(bad:Bool)(e C:Int)(M:QL):YS [c] s bad e C M=some ((GK c s).getD s):=by unfold YS;obtain⟨h1,h2⟩:=Kr c s;rw[h1,h2];cases GK c s <;> rfl
theorem Qsr{t:Bs}(ht:t.length<=100000)(e C:Int)(M:QL):∃x,WZ t false e C M=some x/\match Zf t with
  |some (L,r)=>x=(r,false,(if e=0 then L.2 else e),max C L.1.c,L.1.vs.foldl Qda M)
  |none=>x.2.1=true:=by
 have fin:∀(L:Lvl×Int)(r:Bs)(bad:Bool),PartOK L->(Option.bind (cond (e==0) (some L.2) (some e)) λv4=>Option.bind (W9 L.1 0 C M) λx5=>some (r,bad,v4,max C (Qr (L.1.c+0)),x5))=some (r,bad,(if e=0 then L.2 else e),max C L.1.c,L.1.vs.foldl Qda M):=by
  intro L r bad hL
  rw[J1t (L:=L.1) ⟨hL.c,hL.v,hL.wf,hL.tr⟩]
  have hc:=hL.c
  rw[Int.add_zero,Jh (by omega) (by omega)]
  by_cases he:e=0
  ·rw[show(e==0)=true by simpa using he,Cf he];rfl
  ·rw[show(e==0)=false by simpa using he,Ca he];rfl
 have var:∀(t':Bs)(neg:Bool),t'.length<=100000->∃y:Int×Int×List LV×Bs×Bool×Int×List LV,(Option.bind (Zj t' false e C M) λx5=>Option.bind (cond neg (some (Qr (-1-x5.1))) (some x5.1)) λv6=>Option.bind (Yb x5.2.1 x5.2.2 e C M) λ_=>
   Option.bind (YS [43] (x5.2.1.dropWhile (·==32)) x5.2.2 e C M) λx8=>Option.bind (cond (Lib.hasPrefix (x5.2.1.dropWhile (·==32)) [43]) (Option.bind (Yb x8 x5.2.2 e C M) λ_=>Option.bind (Zj (x8.dropWhile (·==32)) x5.2.2 e C M) λx12=>some (x12.1,x12.2.1,x12.2.2)) (some (0,x8,x5.2.2))) λv9=>
   Option.bind (Option.bind (cond (decide (v6<(-65536))) (some true) (cond (decide (7<v6)) (some true) (some (decide (v9.1<0))))) (λ(v12:Bool)=>cond v12 (some (2,([]:List LV))) (cond (decide (100<v9.1)) (some (15,([]:List LV))) (some (0,[(v6,v9.1)]))))) (λ(y10:Int×(List LV))=>some (y10.1,0,y10.2,v9.2.1,v9.2.2,0,y10.2)))=some y/\match Qmu neg t' with
   |some (L,r)=>y=(L.2,L.1.c,L.1.vs,r,false,0,L.1.vs)
   |none=>y.2.2.2.2.1=true/\PartOK (⟨y.2.1,y.2.2.1⟩,y.1):=by
  intro t' neg ht'
  obtain⟨x5,h5,h5'⟩:=Qbj ht' false e C M
  rw[h5,C0]
  unfold Qmu
  have e6:∀z:Int,∃v6,(cond neg (some (Qr (-1-z))) (some z):Option Int)=some v6:=λz=>by cases neg <;> exact⟨_,rfl⟩
  cases hn:WC t' with
  |none=>
   rw[hn]at h5'
   have hb:x5.2.2=true:=h5'
   obtain⟨v6,hv6⟩:=e6 x5.1
   rw[hv6,C0]
   unfold Yb
   simp only[C0]
   rw[W7,C0,(Kr 43 _).1,hb]
   cases ht43:GK 43 (x5.2.1.dropWhile (·==32))with
   |none=>
    simp only[CT,C6,C0]
    rw[(Q5y _ _).1]
    exact⟨_,Z,Z,J0v _ _⟩
   |some r2=>
    simp only[P5,C5,C0,PA]
    have key:∃z,Zj (r2.dropWhile (·==32)) true e C M=some z/\z.2.2=true:=by
     by_cases hl:(r2.dropWhile (·==32)).length<=100000
     ·obtain⟨z,hz,hz'⟩:=Qbj hl true e C M
      refine⟨z,hz,?_⟩
      cases hq:WC (r2.dropWhile (·==32))with
      |none=>rw[hq]at hz';exact hz'
      |some q=>rw[hq]at hz';dsimp only at hz';rw[hz']
     ·exact(hl (by
       have a1:=Yr r2
       have a2:=congrArg List.length (Yg ht43)
       rw[C1]at a2
       have a3:=Yr x5.2.1
       have a4:x5.2.1.length<=t'.length:=by
        unfold Zj at h5
        rw[Qev ht',C0]at h5
        have g:(cond (decide (0<=((Z1 t').length:Int))) (Nat.ble ((Z1 t').length:Int).toNat t'.length) false)=true:=by
         rw[C4 (by omega),C5];exact D7 (by rw[Cu];exact Q54 t')
        rw[GX g,GX g]at h5
        obtain⟨v4,-,h5⟩:=Zt h5
        cases v4 with
        |true=>cases h5;simp
        |false=>
         simp only[C6]at h5
         obtain⟨-,h5⟩:=Gw h5
         cases h5;simp
       unfold sp at a1 a3
       omega)).elim
    obtain⟨z,hz,hz'⟩:=key
    rw[hz]
    simp only[C0]
    rw[(Q5y _ _).1]
    exact⟨_,Z,hz',J0v _ _⟩
  |some p=>
   obtain⟨n,r⟩:=p
   rw[hn]at h5'
   dsimp only at h5'⊢
   subst h5'
   have hr:=Q09 hn
   dsimp only
   have e7:(cond neg (some (Qr (-1-(n:Int)))) (some (n:Int)):Option Int)=some (if neg then -1-(n:Int)else n):=by
    cases neg with
    |false=>rfl
    |true=>
     have hbig:=Qo4 hn
     rw[Cf rfl,C5,Jh (by omega) (by omega)]
   rw[e7,C0]
   unfold Yb
   simp only[C0]
   rw[W7,C0,(Kr 43 _).1]
   show ∃y,_/\_
   cases ht43:GK 43 (r.dropWhile (·==32))with
   |none=>
    have ht43':GK 43 (sp r)=none:=ht43
    rw[ht43']
    simp only[CT,C6,C0,Option.getD_none]
    rw[(Q5y _ _).1]
    exact⟨_,rfl,by rw[(Q5y _ _).2];rfl⟩
   |some r2=>
    have ht43':GK 43 (sp r)=some r2:=ht43
    rw[ht43']
    simp only[P5,C5,C0,PA]
    have hl:(sp r2).length<=100000:=by
     have a1:=Yr r2
     have a2:=congrArg List.length (Yg ht43')
     rw[C1]at a2
     have a3:=Yr r
     omega
    obtain⟨z,hz,hz'⟩:=Qbj hl false e C M
    have hz2:Zj (r2.dropWhile (·==32)) false e C M=some z:=hz
    rw[hz2]
    simp only[C0]
    rw[(Q5y _ _).1]
    cases hq:WC (sp r2)with
    |none=>rw[hq]at hz';exact⟨_,rfl,hz',J0v _ _⟩
    |some q=>
     obtain⟨q1,q2⟩:=q
     rw[hq]at hz'
     dsimp only at hz'
     subst hz'
     exact⟨_,rfl,by dsimp only;rw[(Q5y _ _).2]⟩
 unfold WZ Zf
 rw[W7,C0,(Kr 117 t).1]
 cases h117:GK 117 t with
 |some t'=>
  have hl:t'.length<=100000:=by
   have a2:=congrArg List.length (Yg h117)
   rw[C1]at a2;omega
  obtain⟨y,hy,hy'⟩:=var t' false hl
  simp only[P5,C5,C0,PA,Pf]
  rw[hy,C0]
  cases hg:Qmu false t' with
  |none=>
   rw[hg]at hy'
   rw[show(⟨y.2.1,y.2.2.1⟩:Lvl)=(((⟨y.2.1,y.2.2.1⟩:Lvl),y.1):Lvl×Int).1 from rfl]
   have:=fin (⟨y.2.1,y.2.2.1⟩,y.1) y.2.2.2.1 y.2.2.2.2.1 hy'.2
   exact⟨_,this,hy'.1⟩
  |some q=>
   rw[hg]at hy'
   obtain⟨L,r⟩:=q
   dsimp only at hy'⊢
   subst hy'
   exact⟨_,fin L r false (Qmt hg),Z⟩
 |none=>
  simp only[CT,C6,Option.getD_none,CY]
  rw[W7,(Kr 63 t).1]
  cases h63:GK 63 t with
  |some t'=>
   have hl:t'.length<=100000:=by
    have a2:=congrArg List.length (Yg h63)
    rw[C1]at a2;omega
   obtain⟨y,hy,hy'⟩:=var t' true hl
   simp only[P5,C5,C0,PA]
   simp only[C5,C0]at hy
   rw[hy,C0]
   cases hg:Qmu true t' with
   |none=>
    rw[hg]at hy'
    have:=fin (⟨y.2.1,y.2.2.1⟩,y.1) y.2.2.2.1 y.2.2.2.2.1 hy'.2
    exact⟨_,this,hy'.1⟩
   |some q=>
    rw[hg]at hy'
    obtain⟨L,r⟩:=q
    dsimp only at hy'⊢
    subst hy'
    exact⟨_,fin L r false (Qmt hg),Z⟩
  |none=>
   simp only[CT,C6,C0,Option.getD_none]
   obtain⟨x5,h5,h5'⟩:=Qbj ht false e C M
   rw[h5]
   simp only[C0]
   rw[(Qt0 _).1]
   simp only[C0]
   have:=fin (Qhn x5.1) x5.2.1 x5.2.2 (Q1f _)
   have e9:Qhn x5.1=(⟨(Qhn x5.1).1.c,[]⟩,(Qhn x5.1).2):=by
    have h9:=(Qt0 x5.1).2
    generalize Qhn x5.1=o9 at h9⊢
    obtain⟨⟨c9,v9⟩,z9⟩:=o9
    have h9:v9=[]:=h9
    rw[h9]
   rw[e9]at this
   refine⟨_,this,?_⟩
   cases hn:WC t with
   |none=>rw[hn]at h5';exact h5'
   |some q=>rw[hn]at h5';dsimp only at h5'⊢;subst h5';dsimp only;rw[(Qt0 _).2]
def Qmy(M:QL)(xs:List (Lvl×Int)):QL:=xs.foldl (λM x=>x.1.vs.foldl Qda M) M
def Ua(C:Int)(xs:List (Lvl×Int)):Int:=xs.foldl (λC x=>max C x.1.c) C
theorem Q8s:∀(n:Nat)(t:Bs)(M:QL)(C e:Int)(fuel:Nat),t.length<n->t.length<=100000->n+2<=fuel->∃o,Qc Kt fuel (true,M,C,t,false,e)=some o/\match KS n t with
  |some (xs,r)=>o=(Qmy M xs,Ua C xs,r,false,ZA e xs)
  |none=>o.2.2.2.1=true
 |0,t,M,C,e,fuel,h,_,_=>by omega
 |n+1,t,M,C,e,fuel,h,hl,hf=>by
  obtain⟨f,rfl⟩:∃f,fuel=f+1:=⟨fuel-1,by omega⟩
  have a1:=Yr t
  obtain⟨x,hx,hx'⟩:=Qsr (t:=sp t) (by omega) e C M
  have hx2:WZ (t.dropWhile (·==32)) false e C M=some x:=hx
  have step:Kt (true,M,C,t,false,e)=some (.next ((GK 44 (sp x.1)).isSome,x.2.2.2.2,x.2.2.2.1,(GK 44 (sp x.1)).getD (sp x.1),x.2.1,x.2.2.1)):=by
   unfold Kt Yb
   simp only[C5,CY,C0]
   rw[hx2,C0]
   have e1:=W7 44 (x.1.dropWhile (·==32)) x.2.1 x.2.2.1 x.2.2.2.1 x.2.2.2.2
   rw[e1,C0,(Kr 44 _).1]
   rfl
  rw[Qc,step]
  dsimp only
  unfold KS
  have stop:∀(more:Bool)(M':QL)(C':Int)(r:Bs)(e':Int),Qc Kt f (more,M',C',r,true,e')=some (M',C',r,true,e'):=λmore M' C' r e'=>by
   obtain⟨f',rfl⟩:∃f',f=f'+1:=⟨f-1,by omega⟩
   rw[Qc]
   unfold Kt
   cases more <;> rfl
  cases hp:Zf (sp t)with
  |none=>
   rw[hp]at hx'
   have hb:x.2.1=true:=hx'
   rw[hb,stop]
   exact⟨_,Z,Z⟩
  |some q=>
   obtain⟨L,r⟩:=q
   rw[hp]at hx'
   dsimp only at hx'⊢
   subst hx'
   dsimp only
   have l1:=Xm hp
   have l2:=Yr r
   cases h44:GK 44 (sp r)with
   |none=>
    obtain⟨f',rfl⟩:∃f',f=f'+1:=⟨f-1,by omega⟩
    rw[Qc]
    refine⟨(L.1.vs.foldl Qda M,max C L.1.c,sp r,false,if e=0 then L.2 else e),?_,Z⟩
    unfold Kt
    rfl
   |some r2=>
    have l3:=congrArg List.length (Yg h44)
    rw[C1]at l3
    obtain⟨o,ho,ho'⟩:=Q8s n r2 (L.1.vs.foldl Qda M) (max C L.1.c) (if e=0 then L.2 else e) f (by omega) (by omega) (by omega)
    refine⟨o,ho,?_⟩
    dsimp only
    cases hr:KS n r2 with
    |none=>rw[hr]at ho';exact ho'
    |some q=>
     rw[hr]at ho'
     exact ho'
theorem Qdt:∀(xs:List (Lvl×Int))(M:QL)(C:Int)(vs:List LV),(∀x∈xs,PartOK x)->RMap M vs->GoodL ⟨C,vs⟩->C<=100->(∀y∈vs,y.2<=100) -> ∃vs',RMap (Qmy M xs) vs'/\GoodL ⟨Ua C xs,vs'⟩/\Ua C xs<=100/\(∀y∈vs',y.2<=100)/\Xd (ZO ⟨C,vs⟩) xs=ZO ⟨Ua C xs,vs'⟩|[],M,C,vs,_,h1,h2,h3,h4=>⟨vs,h1,h2,h3,h4,rfl⟩|x::xs,M,C,vs,hx,h1,h2,h3,h4=>by have p:=hx x Cj;have gx:GoodL x.1:=⟨p.wf,p.c.1,λy hy=>(p.v y hy).2.2.1⟩;have g:=Qj4 h2 gx;(have e:ZW (ZO ⟨C,vs⟩) x.1=ZO ⟨max C x.1.c,QS vs x.1.vs⟩:=by rw[Qcc,Qvt,Qkl h2.c h2.v,Qkl g.c g.v];(have hmono:JZ 0 vs<=JZ 0 (QS vs x.1.vs):=Qh7 λy hy=>by obtain⟨z,hz,-,h⟩:=Qht h2.wf p.wf hy;exact⟨z,hz,h⟩);rw[Qh4 h2.c p.c.1 Qhs hmono]);have:=Qdt xs (x.1.vs.foldl Qda M) (max C x.1.c) (QS vs x.1.vs) (λy hy=>hx y (Ck _ hy)) (h1.merge p.wf) g (by have:=p.c.2;omega) (λy hy=>(Q93 h2.wf p.wf hy).elim (h4 y) λh=>(p.v y h).2.2.2);obtain⟨vs',b1,b2,b3,b4,b5⟩:=this;refine⟨vs',b1,b2,b3,b4,?_⟩;show Xd (ZW (ZO ⟨C,vs⟩) x.1) xs=_;rw[e];exact b5
theorem Qvz{x:Lvl×Int}{xs:List (Lvl×Int)}(hx:∀y∈x::xs,PartOK y):∃vs',RMap (Qmy imNil (x::xs)) vs'/\GoodL ⟨Ua 0 (x::xs),vs'⟩/\Ua 0 (x::xs)<=100/\(∀y∈vs',y.2<=100)/\Xd x.1 xs=ZO ⟨Ua 0 (x::xs),vs'⟩:=by
 have p:=hx x Cj;have gx:GoodL x.1:=⟨p.wf,p.c.1,λy hy=>(p.v y hy).2.2.1⟩;have h:=Qdt xs (x.1.vs.foldl Qda imNil) x.1.c x.1.vs (λy hy=>hx y (Ck _ hy)) (by have:=RMap.nil.merge p.wf;rw[Yk]at this;exact this) gx p.c.2 (λy hy=>(p.v y hy).2.2.2);have e1:ZO ⟨x.1.c,x.1.vs⟩=x.1:=p.tr;rw[e1]at h;have e2:Ua 0 (x::xs)=Ua x.1.c xs:=by show Ua (max 0 x.1.c) xs=_;have:=p.c.1;rw[show max 0 x.1.c=x.1.c by omega]
 rw[e2];exact h
theorem Qoc(C:Int)(vs:List LV)(hlen:vs.length<=100000):∃o,Qc (Z4 vs C vs) Qf 0=some o/\(Q71 C vs=true↔∃i:Nat,o=.inr (i:Int))/\(Q71 C vs=false->o=.inl ()):=by
 have key:=Yv (step:=Z4 vs C vs) vs (λi (_:Unit)=>i) (λa _=>Q71 C a=false) (λo=>(Q71 C vs=true↔∃i:Nat,o=.inr (i:Int))/\(Q71 C vs=false->o=.inl ())) (by omega) (λa x b s e hI=>by
   have hs:Z4 vs C vs (a.length:Int)=cond (decide (C<=x.2)) (some (.done (.inr (a.length:Int)))) (some (.next (Qr ((a.length:Int)+1)))):=by
    unfold Z4 Q4i
    rw[e,Xb,Zx];rfl
   rw[hs]
   cases hd:decide (C<=x.2)with
   |true=>
    have hc:Q71 C vs=true:=by unfold Q71;rw[e];exact CU.2 ⟨x,by simp,hd⟩
    exact .inl ⟨_,rfl,⟨λ_=>⟨a.length,rfl⟩,λ_=>hc⟩,λh=>by rw[hc]at h;cases h⟩
   |false=>
    refine .inr ⟨(),Z,?_⟩
    unfold Q71 at hI⊢
    rw[List.any_append,hI]
    simp[hd])
  (λs hI=>by
   refine⟨.inl (),by unfold Z4;rw[Jp];rfl,?_,λ_=>rfl⟩
   rw[hI]
   constructor
   ·intro h;cases h
   ·rintro⟨i,h⟩;cases h) () rfl
 exact key
theorem Qxe{C:Int}{vs:List LV}(hlen:vs.length<=100000)(h3:C<=100)(h4:∀y∈vs,y.2<=100):Q1l C vs=some (0,(ZO ⟨C,vs⟩).c,(ZO ⟨C,vs⟩).vs):=by
 have l0:Qc (Kh vs) Qf 0=some (.inl ()):=by
  have key:=Yv (step:=Kh vs) vs (λi (_:Unit)=>i) (λ_ _=>True) (λo=>o=.inl ()) (by omega) (λa x b s e _=>by
    have hx:x.2<=100:=h4 x (by rw[e];simp)
    refine .inr ⟨(),?_,trivial⟩
    unfold Kh
    rw[e,Xb,Zx,C5,C0,C3 (by omega)];rfl)
   (λs _=>⟨_,by unfold Kh;rw[Jp];rfl,rfl⟩) () trivial
  obtain⟨o,h1,h2⟩:=key;rw[h1,h2]
 unfold Q1l;rw[l0];show(cond (decide (100<C)) _ _:Option (Int×Int×List LV))=_;rw[C3 (by omega),C6];obtain⟨o,h1,h2,h5⟩:=Qoc C vs hlen;unfold Q5z Q4j Q4h ZO;rw[h1];cases hc:Q71 C vs with|true=>(obtain⟨i,rfl⟩:=h2.1 hc;rw[Cf rfl];dsimp only[Option.bind_some,Sum.elim_inr];rw[C4 (by omega:(0:Int)<=(i:Int))];rfl)|false=>rw[h5 hc,Ca Cp];rfl
theorem J24{C:Int}{M:QL}{vs:List LV}(h:RMap M vs)(hg:GoodL ⟨C,vs⟩)(h3:C<=100)(h4:∀y∈vs,y.2<=100):WY C M=some (0,(ZO ⟨C,vs⟩).c,(ZO ⟨C,vs⟩).vs):=by
 have h2:=h.ok.2;have hlen:(Y1 M).length<=100000:=by have:=h.wf.len;rw[<-h2,Co]at this;exact this
 have key:=Q9v (step:=Gd M) (l:=Y1 M) (λout k=>out++[(k,Zg M k)]) (λk s=>s.length=k) (by omega) (λk y s hy hs=>by have hk:=(Ce.1 hy).1;refine⟨?_,by simp[hs]⟩;unfold Gd;dsimp only;rw[C4 (by omega:(k:Int)<(Y1 M).length),C5,GV (Pi _) (by simpa using hy),C0,GX (D7 (by simp;omega))]) (λs _=>by unfold Gd;dsimp only;rw[C3 (by omega),C6]) [] rfl;unfold WY Qbp;rw[C0,GX h.ok.1,key.1,Q6h,Pj,h2,C0,Qxe h.wf.len h3 h4];rfl
theorem Qkw:∀(n:Nat)(t:Bs)(xs:List (Lvl×Int))(r:Bs),KS n t=some (xs,r)->(∀x∈xs,PartOK x)/\xs≠[]/\r.length<=t.length|0,t,xs,r,h=>by cases h|n+1,t,xs,r,h=>by unfold KS at h;cases hp:Zf (sp t)with|none=>rw[hp]at h;cases h|some q=>obtain⟨x,r1⟩:=q;rw[hp]at h;dsimp only at h;have l1:=Xm hp;have l2:=Yr t;have l3:=Yr r1;cases h44:GK 44 (sp r1)with|none=>rw[h44]at h;cases h;exact⟨λy hy=>by simp at hy;subst hy;exact Qb9 hp,by simp,by omega⟩|some r2=>rw[h44]at h;dsimp only at h;have l4:=congrArg List.length (Yg h44);rw[C1]at l4;cases hr:KS n r2 with|none=>rw[hr]at h;cases h|some q=>obtain⟨xs',r3⟩:=q;rw[hr]at h;cases h;obtain⟨a1,-,a3⟩:=Qkw n r2 xs' r hr;refine⟨λy hy=>?_,by simp,by omega⟩;rcases Cs.1 hy with rfl|hy;exact Qb9 hp;exact a1 y hy
theorem J3t(t:Bs):(t==([]:Bs))=t.isEmpty:=by cases t <;> rfl
theorem Qea{x:Lvl×Int}{xs:List (Lvl×Int)}(hx:∀y∈x::xs,PartOK y)(r:Bs):(Option.bind (cond false (some true) (some (!((r.dropWhile (·==32))==([]:Bs))))) λv8=>cond v8 (some ((⟨0,[]⟩:Lvl),(4:Int))) (cond (ZA 0 (x::xs)!=0) (some ((⟨0,[]⟩:Lvl),ZA 0 (x::xs))) (Option.bind (WY (Ua 0 (x::xs)) (Qmy imNil (x::xs))) λx11=>some ((⟨x11.2.1,x11.2.2⟩:Lvl),x11.1)))) = some (if sp r=[]then(if ZA 0 (x::xs)=0 then(Xd x.1 xs,0)else(⟨0,[]⟩,ZA 0 (x::xs)))else(⟨0,[]⟩,4)):=by rw[C6,C0];have e0:(r.dropWhile (·==32))=sp r:=rfl;rw[e0,J3t];cases h:sp r with|cons a b=>rfl|nil=>rw[show(!(([]:Bs)).isEmpty)=false from rfl,C6,Cf rfl];by_cases he:ZA 0 (x::xs)=0;rw[Cf he,show(ZA 0 (x::xs)!=0)=false by simp[he],C6];obtain⟨vs,b1,b2,b3,b4,b5⟩:=Qvz hx;rw[J24 b1 b2 b3 b4,b5];rfl;rw[Ca he,show(ZA 0 (x::xs)!=0)=true by simp[he],C5]
theorem Qx4(p s:Bs)(bad:Bool)(e C:Int)(M:QL):YS p s bad e C M=some (Lib.trimPrefix s p):=by unfold YS Lib.trimPrefix;cases Lib.hasPrefix s p <;> rfl
theorem Qxp{s:Bs}(hs:s.length<=65536):Q0a s=some (YP s):=by unfold Q0a YP Q5r Yb;rw[C3 (by omega:¬(65536:Int)<s.length),C6];simp only[C0];rw[Qx4,C0];have e0:(s.dropWhile (·==32))=sp s:=rfl;rw[e0];have l0:=Yr s;cases hp:Lib.hasPrefix (sp s) [109,97,120]with|true=>(rw[Cf rfl,C5,W7,C0];(have e1:Lib.trimPrefix (sp s) [109,97,120]=(sp s).drop 3:=by unfold Lib.trimPrefix;rw[hp,Cf rfl];rfl);rw[e1];have e2:(((sp s).drop 3).dropWhile (·==32))=sp ((sp s).drop 3):=rfl;rw[e2,(Kr 40 _).1];have l1:=Yr ((sp s).drop 3);rw[Cq]at l1;cases h40:GK 40 (sp ((sp s).drop 3))with|none=>simp only[CT,CY];(have:Qc Kt Qf (true,imNil,0,(none:Option Bs).getD (sp ((sp s).drop 3)),true,0)=some (imNil,0,(none:Option Bs).getD (sp ((sp s).drop 3)),true,0):=by unfold Qf;rw[Qc];rfl);rw[this,C0];dsimp only;rw[W7,C0,(Kr 41 _).1];cases GK 41 ((none:Option Bs).getD (sp ((sp s).drop 3))) <;> rfl|some t=>have l2:=congrArg List.length (Yg h40);rw[C1]at l2;simp only[P5,Pf,PA];obtain⟨o,ho,ho'⟩:=Q8s (s.length+1) t imNil 0 0 Qf (by omega) (by omega) (by unfold Qf;omega);rw[ho,C0];cases hr:KS (s.length+1) t with|none=>rw[hr]at ho';have hb:o.2.2.2.1=true:=ho';rw[W7,C0,(Kr 41 _).1,hb];cases GK 41 o.2.2.1 <;> rfl|some q=>obtain⟨xs,r⟩:=q;rw[hr]at ho';dsimp only at ho'⊢;subst ho';dsimp only;rw[W7,C0,(Kr 41 _).1];obtain⟨a1,a2,a3⟩:=Qkw _ _ _ _ hr;cases h41:GK 41 r with|none=>rfl|some r2=>simp only[P5,Pf,C6,C0,PA];cases xs with|nil=>exact absurd rfl a2|cons x xs=>have:=Qea a1 r2;simp only[C6,C0]at this;rw[this];by_cases h:sp r2=[];rw[Cf h,Cf h];rw[Ca h,Ca h])|false=>rw[Ca Cp,C6];(have e1:Lib.trimPrefix (sp s) [109,97,120]=sp s:=by unfold Lib.trimPrefix;rw[hp,Ca Cp]);rw[e1];obtain⟨x,hx,hx'⟩:=Qsr (t:=sp s) (by omega) 0 0 imNil;rw[hx];simp only[C0];cases hq:Zf (sp s)with|none=>rw[hq]at hx';have hb:x.2.1=true:=hx';rw[hb];rfl|some q=>obtain⟨L,r⟩:=q;rw[hq]at hx';dsimp only at hx'⊢;subst hx';dsimp only;refine Eq.trans (Qea (x:=L) (xs:=[]) (λy hy=>by simp at hy;subst hy;exact Qb9 hq) r) ?_;by_cases h:sp r=[];rw[Cf h,Cf h];rw[Ca h,Ca h]
theorem Ux:∀(n:Nat)(a b:List LV),a.length+b.length<=n->(QS a b).length<=a.length+b.length|_,[],b,_=>by rw[Yk];simp|_,x::a,[],_=>by rw[YD];simp|0,x::a,y::b,h=>by simp at h|n+1,x::a,y::b,h=>by simp only[C1]at h;rw[QS];split;have:=Ux n a (y::b) (by simp only[C1];omega);simp only[C1]at this⊢;omega;split;have:=Ux n (x::a) b (by simp only[C1];omega);simp only[C1]at this⊢;omega;have:=Ux n a b (by omega);simp only[C1];omega
theorem Q9q:∀(xs:List (Lvl×Int))(o:Lvl),(∀x∈xs,x.1.vs.length<=1)->(Xd o xs).vs.length<=o.vs.length+xs.length|[],o,_=>Cl _|x::xs,o,h=>by have h1:=Q9q xs (ZW o x.1) λy hy=>h y (Ck _ hy);have h2:=Ux _ o.vs x.1.vs (Cl _);have h3:=h x Cj;rw[Qcc]at h1;show(Xd (ZW o x.1) xs).vs.length<=_;rw[Qcc];dsimp only at h1⊢;rw[C1];omega
theorem Qdl(i n:Int):(XS i n).1.vs.length<=1:=by unfold XS;split;exact Cd _;split;exact Cd _;exact Cl _
theorem Qtu{neg:Bool}{t r:Bs}{x:Lvl×Int}(h:Qmu neg t=some (x,r)):x.1.vs.length<=1:=by unfold Qmu at h;split at h;cases h;split at h;cases h;exact Qdl _ _;split at h;cases h;cases h;exact Qdl _ _
theorem Q1c{t r:Bs}{x:Lvl×Int}(h:Zf t=some (x,r)):x.1.vs.length<=1:=by unfold Zf at h;split at h;exact Qtu h;split at h;exact Qtu h;split at h;cases h;cases h;unfold Qhn;split;exact Cd _;split <;> exact Cd _
theorem Qe0:∀(n:Nat)(t:Bs)(xs:List (Lvl×Int))(r:Bs),KS n t=some (xs,r)->(∀x∈xs,x.1.vs.length<=1)/\xs.length<=t.length|0,t,xs,r,h=>by cases h|n+1,t,xs,r,h=>by unfold KS at h;cases hp:Zf (sp t)with|none=>rw[hp]at h;cases h|some q=>obtain⟨x,r1⟩:=q;rw[hp]at h;dsimp only at h;have l1:=Xm hp;have l2:=Yr t;have l3:=Yr r1;cases h44:GK 44 (sp r1)with|none=>rw[h44]at h;cases h;exact⟨λy hy=>by simp at hy;subst hy;exact Q1c hp,by simp only[C1,Cb];omega⟩|some r2=>rw[h44]at h;dsimp only at h;have l4:=congrArg List.length (Yg h44);rw[C1]at l4;cases hr:KS n r2 with|none=>rw[hr]at h;cases h|some q=>obtain⟨xs',r3⟩:=q;rw[hr]at h;cases h;obtain⟨a1,a3⟩:=Qe0 n r2 xs' r hr;refine⟨λy hy=>?_,by rw[C1];omega⟩;rcases Cs.1 hy with rfl|hy;exact Q1c hp;exact a1 y hy
theorem Qre(s:Bs):(YP s).1.vs.length<=s.length:=by unfold YP;cases hp:Q5r s with|none=>exact Cd _|some l=>cases l with|nil=>exact Cd _|cons x xs=>dsimp only;split;(have hx:(∀y∈x::xs,y.1.vs.length<=1)/\(x::xs).length<=s.length:=by have l0:=Yr s;unfold Q5r at hp;split at hp;split at hp;cases hp;rename_i t h40;have l1:=congrArg List.length (Yg h40);have l2:=Yr ((sp s).drop 3);rw[Cq]at l2;rw[C1]at l1;split at hp;cases hp;rename_i hr;split at hp;cases hp;split at hp;cases hp;obtain⟨h1,h2⟩:=Qe0 _ _ _ _ hr;exact⟨h1,by omega⟩;cases hp;split at hp;cases hp;rename_i hq;split at hp;cases hp;have l1:=Xm hq;refine⟨λy hy=>?_,by simp only[C1,Cb];omega⟩;simp at hy;subst hy;exact Q1c hq;cases hp);have h1:=Q9q xs x.1 λy hy=>hx.1 y (Ck _ hy);have h2:=hx.1 x Cj;have h3:=hx.2;rw[C1]at h3;show(Xd x.1 xs).vs.length<=_;omega;exact Cd _
end
section
open Go.RowKit
set_option maxRecDepth 100000
theorem J47:Qd prog 157:=enters_of func157 (by kernel_rfl) rfl
def Qt1(a0:Lvl)(a1:Lvl):Option (Lvl):=Option.bind (Qc (σ:=Int×Int×Int×(List LV)) (β:=Int×(List LV)) (λs58=>Option.bind (cond ((decide (s58.1<(a0.vs.length:Int)))) (some true) (some (decide (s58.2.1<(a1.vs.length:Int))))) λ(v60:Bool)=>cond v60 (cond ((s58.2.1==(a1.vs.length:Int))) (Option.bind (QP a0.vs s58.1) λ(x61:LV)=>Qa (Nat.ble (s58.2.2.2.length+([x61]:List LV).length) 1000000000) (some (.next ((Qr (s58.1+1)),s58.2.1,(max s58.2.2.1 x61.2),(s58.2.2.2++([x61]:List LV)))))) (cond ((decide (s58.1<(a0.vs.length:Int)))) (Option.bind (QP a0.vs s58.1) λ(x62:LV)=>Option.bind (QP a1.vs s58.2.1) λ(x63:LV)=>cond ((decide (x62.1<x63.1))) (Option.bind (QP a0.vs s58.1) λ(x64:LV)=>Qa (Nat.ble (s58.2.2.2.length+([x64]:List LV).length) 1000000000) (some (.next ((Qr (s58.1+1)),s58.2.1,(max s58.2.2.1 x64.2),(s58.2.2.2++([x64]:List LV)))))) (cond ((s58.1==(a0.vs.length:Int))) (Option.bind (QP a1.vs s58.2.1) λ(x65:LV)=>Qa (Nat.ble (s58.2.2.2.length+([x65]:List LV).length) 1000000000) (some (.next (s58.1,(Qr (s58.2.1+1)),(max s58.2.2.1 x65.2),(s58.2.2.2++([x65]:List LV)))))) (Option.bind (QP a1.vs s58.2.1) λ(x66:LV)=>Option.bind (QP a0.vs s58.1) λ(x67:LV)=>cond ((decide (x66.1<x67.1))) (Option.bind (QP a1.vs s58.2.1) λ(x68:LV)=>Qa (Nat.ble (s58.2.2.2.length+([x68]:List LV).length) 1000000000) (some (.next (s58.1,(Qr (s58.2.1+1)),(max s58.2.2.1 x68.2),(s58.2.2.2++([x68]:List LV)))))) (Option.bind (QP a0.vs s58.1) λ(x69:LV)=>Option.bind (QP a0.vs s58.1) λ(x70:LV)=>Option.bind (QP a1.vs s58.2.1) λ(x71:LV)=>Qa (Nat.ble (s58.2.2.2.length+([((x69.1,(max x70.2 x71.2)):LV)]:List LV).length) 1000000000) (some (.next ((Qr (s58.1+1)),(Qr (s58.2.1+1)),(max s58.2.2.1 (max x70.2 x71.2)),(s58.2.2.2++([((x69.1,(max x70.2 x71.2)):LV)]:List LV))))))))) (cond ((s58.1==(a0.vs.length:Int))) (Option.bind (QP a1.vs s58.2.1) λ(x72:LV)=>Qa (Nat.ble (s58.2.2.2.length+([x72]:List LV).length) 1000000000) (some (.next (s58.1,(Qr (s58.2.1+1)),(max s58.2.2.1 x72.2),(s58.2.2.2++([x72]:List LV)))))) (Option.bind (QP a1.vs s58.2.1) λ(x73:LV)=>Option.bind (QP a0.vs s58.1) λ(x74:LV)=>cond ((decide (x73.1<x74.1))) (Option.bind (QP a1.vs s58.2.1) λ(x75:LV)=>Qa (Nat.ble (s58.2.2.2.length+([x75]:List LV).length) 1000000000) (some (.next (s58.1,(Qr (s58.2.1+1)),(max s58.2.2.1 x75.2),(s58.2.2.2++([x75]:List LV)))))) (Option.bind (QP a0.vs s58.1) λ(x76:LV)=>Option.bind (QP a0.vs s58.1) λ(x77:LV)=>Option.bind (QP a1.vs s58.2.1) λ(x78:LV)=>Qa (Nat.ble (s58.2.2.2.length+([((x76.1,(max x77.2 x78.2)):LV)]:List LV).length) 1000000000) (some (.next ((Qr (s58.1+1)),(Qr (s58.2.1+1)),(max s58.2.2.1 (max x77.2 x78.2)),(s58.2.2.2++([((x76.1,(max x77.2 x78.2)):LV)]:List LV)))))))))) (some (.done (s58.2.2.1,s58.2.2.2)))) Qf (0,0,0,([]:List LV))) λ(v59:Int×(List LV))=>Option.bind (cond ((decide (0<(v59.2.length:Int)))) (some (decide ((max a0.c a1.c)<=v59.1))) (some false)) λ(v79:Bool)=>Option.bind (cond v79 (some 0) (some (max a0.c a1.c))) λ(v80:Int)=>some (Lvl.mk v80 v59.2)
def k157:KF UV:=⟨[.stc .t82,.stc .t82],[.stc .t82],λv=>Qt1 v.1 v.2⟩
def Jc4:Hints UV:=⟨[(4,⟨[([.reg 6],.int .i64),([.reg 7],.int .i64),([.reg 8],.int .i64),([.at 5 1],.app 142 .t142)],[([.reg 8],.int .i64),([.at 5 1],.app 142 .t142)],false⟩),(5,⟨[([.reg 27],.bool)],[],false⟩),(23,⟨[([.reg 135],.bool)],[],false⟩),(24,⟨[([.at 5 0],.int .i64)],[],false⟩)],[(10,[]),(14,[]),(18,[20])]⟩
theorem Qyi:Jv DV W0 prog 157 k157:=JD (C:=CV) rfl Qu Qg (Qt (tb:=[]) Qg trivial) J2 func157 J47 Jc4 k157 rfl (λv=>by kernel_rfl)
theorem J3u:Qd prog 210:=enters_of func210 (by kernel_rfl) rfl
def J7n(a0:Int):Option (Lvl):=some (Lvl.mk a0 ([]))
def k210:KF UV:=⟨[.int .i64],[.stc .t82],λv=>J7n v⟩
def Jbz:Hints UV:=⟨[],[]⟩
theorem Qyc:Jv DV W0 prog 210 k210:=JD (C:=CV) rfl Qu Qg (Qt (tb:=[]) Qg trivial) J2 func210 J3u Jbz k210 rfl (λv=>by kernel_rfl)
theorem J3y:Qd prog 185:=enters_of func185 (by kernel_rfl) rfl
def Qxd(a0:Int):Option (Lvl×Int):=cond ((decide (a0<0))) (some ((Lvl.mk 0 ([])),2)) (cond ((decide (100<a0))) (some ((Lvl.mk 0 ([])),15)) (Option.bind (J7n a0) λ(x1:Lvl)=>some (x1,0)))
def k185:KF UV:=⟨[.int .i64],[.stc .t82,.int .i64],λv=>Qxd v⟩
def Jc2:Hints UV:=⟨[],[]⟩
theorem Qyf:Jv DV W0 prog 185 k185:=JD (C:=CV) rfl Qu Qg (Qt (tb:=[(210,k210)]) Qg ⟨Qyc,trivial⟩) J2 func185 J3y Jc2 k185 rfl (λv=>by kernel_rfl)
theorem J3w:Qd prog 187:=enters_of func187 (by kernel_rfl) rfl
def Qsy(a0:Int)(a1:Int):Option (Lvl×Int):=Option.bind (cond ((decide (a0<(-65536)))) (some true) (cond ((decide (8<=a0))) (some true) (some (decide (a1<0))))) λ(v1:Bool)=>cond v1 (some ((Lvl.mk 0 ([])),2)) (cond ((decide (100<a1))) (some ((Lvl.mk 0 ([])),15)) (some ((Lvl.mk 0 ([((a0,a1):LV)]:List LV)),0)))
def k187:KF UV:=⟨[.int .i64,.int .i64],[.stc .t82,.int .i64],λv=>Qsy v.1 v.2⟩
def Jc0:Hints UV:=⟨[(1,⟨[([.reg 15],.bool)],[],false⟩)],[]⟩
theorem Qyd:Jv DV W0 prog 187 k187:=JD (C:=CV) rfl Qu Qg (Qt (tb:=[]) Qg trivial) J2 func187 J3w Jc0 k187 rfl (λv=>by kernel_rfl)
theorem J4a:Qd prog 154:=enters_of func154 (by kernel_rfl) rfl
def UQ(b:LRd):Option ((LRd×Unit)⊕(Unit×LRd)):=Option.bind (Qc (σ:=Int) (β:=Int) (λs10=>Option.bind (cond ((decide (s10<(b.s.length:Int)))) (Option.bind (QP b.s s10) λ(x14:UInt8)=>some ((),(),(),s10,(),(),(),b.s,(b.s.length:Int),(decide (s10<(b.s.length:Int))),true,((x14.toNat:Int)==32))) (some ((),(),(),s10,(),(),(),b.s,(b.s.length:Int),(decide (s10<(b.s.length:Int))),false,false))) λ(v13:Unit×Unit×Unit×Int×Unit×Unit×Unit×(List UInt8)×Int×Bool×Bool×Bool)=>cond v13.2.2.2.2.2.2.2.2.2.2.2 (some (.next (Qr (s10+1)))) (some (.done s10))) Qf b.at_) λ(v11:Int)=>some (.inl ((LRd.mk b.s v11 b.bad b.e),()))
def k154:PF UV:=⟨.stc 192 .t192,[],[],.p0 192,λb v=>UQ b⟩
def Jc7:Hints UV:=⟨[(0,⟨[([.at 0 1],.int .i64)],[([.at 0 1],.int .i64)],false⟩),(1,⟨[([.reg 2],.ptr 0 0),([.reg 3],.ptr 0 0),([.reg 4],.ptr 0 1),([.reg 5],.int .i64),([.reg 6],.ptr 0 0),([.reg 7],.ptr 0 0),([.reg 8],.ptr 0 0),([.reg 9],.str),([.reg 10],.int .i64),([.reg 11],.bool),([.reg 12],.bool),([.reg 23],.bool)],[],false⟩)],[(1,[])]⟩
theorem Qme:ZM DV W0 prog 154 k154:=YV (C:=CV) rfl Qu Qg (Qt (tb:=[]) Qg trivial) J2 func154 J4a Jc7 k154 rfl rfl (λb v=>by kernel_rfl)
theorem J49:Qd prog 155:=enters_of func155 (by kernel_rfl) rfl
def Q60(b:LRd)(a1:Int):Option ((LRd×Bool)⊕(Unit×LRd)):=Option.bind (cond ((decide (b.at_<(b.s.length:Int)))) (Option.bind (QP b.s b.at_) λ(x3:UInt8)=>some ((x3.toNat:Int)==a1)) (some false)) λ(v2:Bool)=>cond v2 (some (.inl ((LRd.mk b.s (Qr (b.at_+1)) b.bad b.e),true))) (some (.inl (b,false)))
def k155:PF UV:=⟨.stc 192 .t192,[.int .u8],[.bool],.p0 192,λb v=>Q60 b v⟩
def Jc6:Hints UV:=⟨[(1,⟨[([.reg 27],.bool)],[],false⟩)],[(1,[])]⟩
theorem Qmd:ZM DV W0 prog 155 k155:=YV (C:=CV) rfl Qu Qg (Qt (tb:=[]) Qg trivial) J2 func155 J49 Jc6 k155 rfl rfl (λb v=>by kernel_rfl)
theorem J3z:Qd prog 184:=enters_of func184 (by kernel_rfl) rfl
def Qex(b:LRd):Option ((LRd×Int)⊕(Unit×LRd)):=Option.bind (Qc (σ:=Int×Int) (β:=Int×Int) (λs19=>Option.bind (cond ((decide (s19.2<(b.s.length:Int)))) (Option.bind (QP b.s s19.2) λ(x24:UInt8)=>cond ((decide (48<=(x24.toNat:Int)))) (Option.bind (QP b.s s19.2) λ(x25:UInt8)=>cond ((decide ((x25.toNat:Int)<=57))) (some ((),(),(),s19.2,(),(),(),b.s,(b.s.length:Int),(decide (s19.2<(b.s.length:Int))),true,(decide (48<=(x24.toNat:Int))),true,(decide ((x25.toNat:Int)<=57)),true,(decide ((Qr (s19.2-b.at_))<=6)))) (some ((),(),(),s19.2,(),(),(),b.s,(b.s.length:Int),(decide (s19.2<(b.s.length:Int))),true,(decide (48<=(x24.toNat:Int))),true,(decide ((x25.toNat:Int)<=57)),false,false))) (some ((),(),(),s19.2,(),(),(),b.s,(b.s.length:Int),(decide (s19.2<(b.s.length:Int))),true,(decide (48<=(x24.toNat:Int))),false,false,false,false))) (some ((),(),(),s19.2,(),(),(),b.s,(b.s.length:Int),(decide (s19.2<(b.s.length:Int))),false,false,false,false,false,false))) λ(v23:Unit×Unit×Unit×Int×Unit×Unit×Unit×(List UInt8)×Int×Bool×Bool×Bool×Bool×Bool×Bool×Bool)=>cond v23.2.2.2.2.2.2.2.2.2.2.2.2.2.2.2 (Option.bind (QP b.s s19.2) λ(x26:UInt8)=>some (.next ((Qr ((Qr (10*s19.1))+(IntKind.wrap .i64 (IntKind.wrap .u8 ((x26.toNat:Int)-48))))),(Qr (s19.2+1))))) (some (.done (s19.1,s19.2)))) Qf (0,b.at_)) λ(v20:Int×Int)=>Option.bind (cond ((v20.2==b.at_)) (some true) (cond ((decide (6<(Qr (v20.2-b.at_))))) (some true) (Option.bind (QP b.s b.at_) λ(x29:UInt8)=>cond (((x29.toNat:Int)==48)) (some (decide (1<(Qr (v20.2-b.at_))))) (some false)))) λ(v28:Bool)=>Option.bind (cond v28 (some true) (some b.bad)) λ(v30:Bool)=>some (.inl ((LRd.mk b.s v20.2 v30 b.e),v20.1))
def k184:PF UV:=⟨.stc 192 .t192,[],[.int .i64],.p0 192,λb v=>Qex b⟩
def Jc3:Hints UV:=⟨[(3,⟨[([.reg 4],.int .i64),([.at 0 1],.int .i64)],[([.reg 4],.int .i64),([.at 0 1],.int .i64)],false⟩),(4,⟨[([.reg 9],.ptr 0 0),([.reg 10],.ptr 0 0),([.reg 11],.ptr 0 1),([.reg 12],.int .i64),([.reg 13],.ptr 0 0),([.reg 14],.ptr 0 0),([.reg 15],.ptr 0 0),([.reg 16],.str),([.reg 17],.int .i64),([.reg 18],.bool),([.reg 19],.bool),([.reg 30],.bool),([.reg 31],.bool),([.reg 42],.bool),([.reg 43],.bool),([.reg 51],.bool)],[],false⟩),(9,⟨[([.reg 105],.bool)],[],false⟩),(10,⟨[([.at 0 2],.bool)],[],false⟩)],[(4,[]),(7,[])]⟩
theorem Qyg:ZM DV W0 prog 184 k184:=YV (C:=CV) rfl Qu Qg (Qt (tb:=[]) Qg trivial) J2 func184 J3z Jc3 k184 rfl rfl (λb v=>by kernel_rfl)
theorem J3x:Qd prog 186:=enters_of func186 (by kernel_rfl) rfl
def Qoe(b:LRd)(a1:Lvl)(a2:Int):Option ((LRd×Lvl)⊕(Unit×LRd)):=Option.bind (cond ((b.e==0)) (some (!b.bad)) (some false)) λ(v1:Bool)=>Option.bind (cond v1 (some a2) (some b.e)) λ(v2:Int)=>some (.inl ((LRd.mk b.s b.at_ b.bad v2),a1))
def k186:PF UV:=⟨.stc 192 .t192,[.stc .t82,.int .i64],[.stc .t82],.p0 192,λb v=>Qoe b v.1 v.2⟩
def Jc1:Hints UV:=⟨[(1,⟨[([.reg 18],.bool)],[],false⟩),(2,⟨[([.at 0 3],.int .i64)],[],false⟩)],[]⟩
theorem Qye:ZM DV W0 prog 186 k186:=YV (C:=CV) rfl Qu Qg (Qt (tb:=[]) Qg trivial) J2 func186 J3x Jc1 k186 rfl rfl (λb v=>by kernel_rfl)
theorem J48:Qd prog 156:=enters_of func156 (by kernel_rfl) rfl
def Qic(b:LRd):Option ((LRd×Lvl)⊕(Unit×LRd)):=Option.bind (QH (UQ b)) λ(r1:LRd×Unit)=>Option.bind (QH (Q60 r1.1 63)) λ(r3:LRd×Bool)=>Option.bind (cond ((!r3.2)) (Option.bind (QH (Q60 r3.1 117)) λ(r8:LRd×Bool)=>some ((!r8.2),r8.1.s,r8.1.at_,r8.1.bad,r8.1.e)) (some (false,r3.1.s,r3.1.at_,r3.1.bad,r3.1.e))) λ(v7:Bool×(List UInt8)×Int×Bool×Int)=>cond v7.1 (Option.bind (QH (Qex (LRd.mk v7.2.1 v7.2.2.1 v7.2.2.2.1 v7.2.2.2.2))) λ(r10:LRd×Int)=>Option.bind (QH (UQ r10.1)) λ(r12:LRd×Unit)=>Option.bind (Qxd r10.2) λ(x14:Lvl×Int)=>Option.bind (QH (Qoe r12.1 x14.1 x14.2)) λ(r15:LRd×Lvl)=>some (.inl (r15.1,r15.2))) (Option.bind (QH (Qex (LRd.mk v7.2.1 v7.2.2.1 v7.2.2.2.1 v7.2.2.2.2))) λ(r17:LRd×Int)=>Option.bind (QH (UQ r17.1)) λ(r19:LRd×Unit)=>Option.bind (QH (Q60 r19.1 43)) λ(r21:LRd×Bool)=>Option.bind (cond r21.2 (Option.bind (QH (UQ r21.1)) λ(r30:LRd×Unit)=>Option.bind (QH (Qex r30.1)) λ(r32:LRd×Int)=>Option.bind (QH (UQ r32.1)) λ(r34:LRd×Unit)=>some (r32.2,r34.1.s,r34.1.at_,r34.1.bad,r34.1.e)) (some (0,r21.1.s,r21.1.at_,r21.1.bad,r21.1.e))) λ(v29:Int×(List UInt8)×Int×Bool×Int)=>Option.bind (cond r3.2 (some (Qr ((-1)-r17.2))) (some r17.2)) λ(v36:Int)=>Option.bind (Qsy v36 v29.1) λ(x37:Lvl×Int)=>Option.bind (QH (Qoe (LRd.mk v29.2.1 v29.2.2.1 v29.2.2.2.1 v29.2.2.2.2) x37.1 x37.2)) λ(r38:LRd×Lvl)=>some (.inl (r38.1,r38.2)))
def k156:PF UV:=⟨.stc 192 .t192,[],[.stc .t82],.p0 192,λb v=>Qic b⟩
def Jc5:Hints UV:=⟨[(3,⟨[([.reg 21],.bool),([.at 0 0],.str),([.at 0 1],.int .i64),([.at 0 2],.bool),([.at 0 3],.int .i64)],[],false⟩),(13,⟨[([.reg 8],.int .i64),([.at 0 0],.str),([.at 0 1],.int .i64),([.at 0 2],.bool),([.at 0 3],.int .i64)],[],false⟩),(18,⟨[([.reg 7],.int .i64)],[],false⟩)],[]⟩
theorem Qyj:ZM DV W0 prog 156 k156:=YV (C:=CV) rfl Qu Qg (Qt (tb:=[(185,k185),(187,k187)]) Qg ⟨Qyf,Qyd,trivial⟩) (JR (tb:=[(154,k154),(155,k155),(184,k184),(186,k186)]) Qg ⟨Qme,Qmd,Qyg,Qye,trivial⟩) func156 J48 Jc5 k156 rfl rfl (λb v=>by kernel_rfl)
theorem J4q:Qd prog 130:=enters_of func130 (by kernel_rfl) rfl
def Qxl(a0:List UInt8):Option (Lvl×Int):=cond ((decide (65536<(a0.length:Int)))) (some ((Lvl.mk 0 ([])),5)) (Option.bind (QH (UQ (LRd.mk a0 0 false 0))) λ(r1:LRd×Unit)=>Option.bind (cond ((decide ((Qr (r1.1.at_+3))<=(a0.length:Int)))) (Qa (cond (decide (0<=r1.1.at_)) (cond (Nat.ble r1.1.at_.toNat (Qr (r1.1.at_+3)).toNat) (WE (Qr (r1.1.at_+3)) a0.length) false) false) (some ((List.drop r1.1.at_.toNat (List.take (Qr (r1.1.at_+3)).toNat a0))==([109,97,120]:List UInt8)))) (some false)) λ(v3:Bool)=>Option.bind (cond v3 (Option.bind (QH (UQ (LRd.mk r1.1.s (Qr (r1.1.at_+3)) r1.1.bad r1.1.e))) λ(r54:LRd×Unit)=>Option.bind (QH (Q60 r54.1 40)) λ(r56:LRd×Bool)=>Option.bind (QH (Qic (LRd.mk r56.1.s r56.1.at_ (!r56.2) r56.1.e))) λ(r58:LRd×Lvl)=>Option.bind (Qc (σ:=(List UInt8)×Int×Bool×Int×Int×(List LV)) (β:=(List UInt8)×Int×Bool×Int×Int×(List LV)) (λs84=>Option.bind (cond ((!s84.2.2.1)) (Option.bind (QH (Q60 (LRd.mk s84.1 s84.2.1 s84.2.2.1 s84.2.2.2.1) 44)) λ(r89:LRd×Bool)=>some (r89.2,r89.1.s,r89.1.at_,r89.1.bad,r89.1.e)) (some (false,s84.1,s84.2.1,s84.2.2.1,s84.2.2.2.1))) λ(v88:Bool×(List UInt8)×Int×Bool×Int)=>cond v88.1 (Option.bind (QH (Qic (LRd.mk v88.2.1 v88.2.2.1 v88.2.2.2.1 v88.2.2.2.2))) λ(r91:LRd×Lvl)=>Option.bind (Qt1 (Lvl.mk s84.2.2.2.2.1 s84.2.2.2.2.2) r91.2) λ(x93:Lvl)=>some (.next (r91.1.s,r91.1.at_,r91.1.bad,r91.1.e,x93.c,x93.vs))) (some (.done (v88.2.1,v88.2.2.1,v88.2.2.2.1,v88.2.2.2.2,s84.2.2.2.2.1,s84.2.2.2.2.2)))) Qf (r58.1.s,r58.1.at_,r58.1.bad,r58.1.e,r58.2.c,r58.2.vs)) λ(v85:(List UInt8)×Int×Bool×Int×Int×(List LV))=>Option.bind (cond v85.2.2.1 (some (v85.1,v85.2.1,true,v85.2.2.2.1)) (Option.bind (QH (Q60 (LRd.mk v85.1 v85.2.1 v85.2.2.1 v85.2.2.2.1) 41)) λ(r97:LRd×Bool)=>some (r97.1.s,r97.1.at_,(!r97.2),r97.1.e))) λ(v96:(List UInt8)×Int×Bool×Int)=>Option.bind (QH (UQ (LRd.mk v96.1 v96.2.1 v96.2.2.1 v96.2.2.2))) λ(r99:LRd×Unit)=>some (r99.1.s,r99.1.at_,r99.1.bad,r99.1.e,v85.2.2.2.2.1,v85.2.2.2.2.2)) (Option.bind (QH (Qic r1.1)) λ(r101:LRd×Lvl)=>some (r101.1.s,r101.1.at_,r101.1.bad,r101.1.e,r101.2.c,r101.2.vs))) λ(v53:(List UInt8)×Int×Bool×Int×Int×(List LV))=>Option.bind (cond v53.2.2.1 (some true) (some (decide (v53.2.1<(a0.length:Int))))) λ(v103:Bool)=>cond v103 (some ((Lvl.mk 0 ([])),4)) (cond ((v53.2.2.2.1 != 0)) (some ((Lvl.mk 0 ([])),v53.2.2.2.1)) (some ((Lvl.mk v53.2.2.2.2.1 v53.2.2.2.2.2),0))))
def k130:KF UV:=⟨[.str],[.stc .t82,.int .i64],λv=>Qxl v⟩
def Jcb:Hints UV:=⟨[(7,⟨[([.reg 37],.bool)],[],false⟩),(8,⟨[([.at 4 0],.str),([.at 4 1],.int .i64),([.at 4 2],.bool),([.at 4 3],.int .i64),([.at 5 0],.int .i64),([.at 5 1],.sl .t142)],[],false⟩),(13,⟨[([.at 4 0],.str),([.at 4 1],.int .i64),([.at 4 2],.bool),([.at 4 3],.int .i64),([.at 5 0],.int .i64),([.at 5 1],.sl .t142)],[([.at 4 0],.str),([.at 4 1],.int .i64),([.at 4 2],.bool),([.at 4 3],.int .i64),([.at 5 0],.int .i64),([.at 5 1],.sl .t142)],false⟩),(14,⟨[([.reg 63],.bool),([.at 4 0],.str),([.at 4 1],.int .i64),([.at 4 2],.bool),([.at 4 3],.int .i64)],[],false⟩),(18,⟨[([.at 4 0],.str),([.at 4 1],.int .i64),([.at 4 2],.bool),([.at 4 3],.int .i64)],[],false⟩),(21,⟨[([.reg 96],.bool)],[],false⟩)],[(7,[]),(17,[2,4]),(26,[5])]⟩
theorem Qym:Jv DV W0 prog 130 k130:=JD (C:=CV) rfl Qu Qg (Qt (tb:=[(157,k157)]) Qg ⟨Qyi,trivial⟩) (JR (tb:=[(154,k154),(155,k155),(156,k156)]) Qg ⟨Qme,Qmd,Qyj,trivial⟩) func130 J4q Jcb k130 rfl (λv=>by kernel_rfl)
end
section
open Go.RowKit Go.Shelf
abbrev RS(α:Type):=(α×Nat)⊕Nat
def Jc{α β:Type}(r:RS α)(f:α->Nat->RS β):RS β:=match r with|.inl (v,m)=>f v m|.inr m=>.inr m
def ix{α:Type}:RS α->Nat|.inl (_,m)=>m|.inr m=>m+1
structure PG{α:Type}(p:(Nat->Bs)->Nat->RS α):Prop where
 mono:∀X k,k<ix (p X k)
 rng:∀X N k,(∀j,X j≠[]->j+1<N)->k<N->(∀v m,p X k=.inl (v,m)->m<N)/\∀m,p X k=.inr m->m<N
 dep:∀X X' k,(∀j,j<ix (p X k)->X j=X' j)->p X' k=p X k
theorem J0g{α β:Type}{r:RS α}{f:α->Nat->RS β}(h:∀v m,r=.inl (v,m)->m<ix (f v m)):ix r<=ix (Jc r f):=by rcases r with⟨v,m⟩|m;exact Nat.le_of_lt (h v m rfl);exact Cl _
theorem PG.bind{α β:Type}{p:(Nat->Bs)->Nat->RS α}{f:α->(Nat->Bs)->Nat->RS β}(hp:PG p)(hf:∀v,PG (f v)):PG (λX k=>Jc (p X k) λv m=>f v X m) where
 mono X k:=by
  have h:=hp.mono X k
  have:=J0g (r:=p X k) (f:=λv m=>f v X m) λv m _=>(hf v).mono X m
  exact Ci h this
 rng X N k hX hk:=by
  have h:=hp.rng X N k hX hk
  show(∀v m,Jc (p X k) _=_->_)/\∀m,Jc (p X k) _=_->_
  cases hr:p X k with
  |inl r=>
   obtain⟨v,m⟩:=r
   exact(hf v).rng X N m hX (h.1 v m hr)
  |inr m=>exact⟨λv m e=>(by cases e),λm' e=>(by cases e;exact h.2 m hr)⟩
 dep X X' k hX:=by
  have h1:ix (p X k)<=ix (Jc (p X k) λv m=>f v X m):=J0g λv m _=>(hf v).mono X m
  have h2:=hp.dep X X' k λj hj=>hX j (Ci hj h1)
  show Jc (p X' k) _=Jc (p X k) _
  rw[h2]
  cases hr:p X k with
  |inl r=>
   obtain⟨v,m⟩:=r
   refine(hf v).dep X X' m λj hj=>hX j ?_
   show j<ix (Jc (p X k) λv m=>f v X m)
   rw[hr];exact hj
  |inr m=>rfl
theorem PG.map{α β:Type}{p:(Nat->Bs)->Nat->RS α}(hp:PG p)(g:α->β):PG (λX k=>Jc (p X k) λv m=>.inl (g v,m)) where
 mono X k:=by
  have h:=hp.mono X k
  show k<ix (Jc (p X k) _)
  cases hr:p X k with
  |inl r=>rw[hr]at h;exact h
  |inr m=>rw[hr]at h;exact h
 rng X N k hX hk:=by
  have h:=hp.rng X N k hX hk
  show(∀v m,Jc (p X k) _=_->_)/\∀m,Jc (p X k) _=_->_
  cases hr:p X k with
  |inl r=>
   obtain⟨v,m⟩:=r
   exact⟨λv' m' e=>(by cases e;exact h.1 v m hr),λm' e=>(by cases e)⟩
  |inr m=>exact⟨λv m e=>(by cases e),λm' e=>(by cases e;exact h.2 m hr)⟩
 dep X X' k hX:=by
  have h1:ix (p X k)=ix (Jc (p X k) λv m=>(.inl (g v,m):RS β)):=by
   cases p X k with
   |inl r=>rfl
   |inr m=>rfl
  have h2:=hp.dep X X' k λj hj=>hX j (h1▸hj)
  show Jc (p X' k) _=Jc (p X k) _
  rw[h2]
def KM{α:Type}(c:Bs->Option α)(s:Bs)(k:Nat):RS α:=match c s with|some v=>.inl (v,k+1)|none=>.inr k
theorem JF{α:Type}{c:Bs->Option α}{s:Bs}{k:Nat}{v:α}(h:c s=some v):KM c s k=.inl (v,k+1):=by unfold KM;rw[h]
theorem YJ{α:Type}{c:Bs->Option α}{s:Bs}{k:Nat}(h:c s=none):KM c s k=.inr k:=by unfold KM;rw[h]
theorem PG.one{α:Type}(c:Bs->Option α)(hc:c []=none):PG (λX k=>KM c (X k) k) where
 mono X k:=by
  show k<ix (KM c (X k) k)
  cases h:c (X k)with
  |some v=>rw[JF h];exact Cv k
  |none=>rw[YJ h];exact Cv k
 rng X N k hX hk:=by
  show(∀v m,KM c (X k) k=_->_)/\∀m,KM c (X k) k=_->_
  cases hr:c (X k)with
  |some v=>rw[JF hr];exact⟨λv m e=>(by cases e;exact hX k λe=>(by rw[e,hc]at hr;cases hr)),λm e=>(by cases e)⟩
  |none=>rw[YJ hr];exact⟨λv m e=>(by cases e),λm e=>(by cases e;exact hk)⟩
 dep X X' k hX:=by
  have:X k=X' k:=hX k (by
   show k<ix (KM c (X k) k)
   cases h:c (X k)with
   |some v=>rw[JF h];exact Cv k
   |none=>rw[YJ h];exact Cv k)
  show KM c (X' k) k=KM c (X k) k
  rw[this]
theorem PG.look{α:Type}(c:Bs->Bool){p q:(Nat->Bs)->Nat->RS α}(hp:PG p)(hq:PG q):PG (λX k=>if c (X k)=true then p X k else q X k) where
 mono X k:=by
  show k<ix (if c (X k)=true then p X k else q X k)
  split
  ·exact hp.mono X k
  ·exact hq.mono X k
 rng X N k hX hk:=by
  show(∀v m,(if c (X k)=true then p X k else q X k)=_->_)/\∀m,(if c (X k)=true then p X k else q X k)=_->_
  split
  ·exact hp.rng X N k hX hk
  ·exact hq.rng X N k hX hk
 dep X X' k hX:=by
  have hX':∀j,j<ix (if c (X k)=true then p X k else q X k)->X j=X' j:=hX
  show(if c (X' k)=true then p X' k else q X' k)=(if c (X k)=true then p X k else q X k)
  by_cases h:c (X k)=true
  ·rw[Cf h]at hX'
   rw[<-hX' k (hp.mono X k),Cf h,Cf h]
   exact hp.dep X X' k hX'
  ·rw[Ca h]at hX'
   rw[<-hX' k (hq.mono X k),Ca h,Ca h]
   exact hq.dep X X' k hX'
theorem PG.step{α:Type}(c:Bs->Bool)(hc:c []=false){p q:(Nat->Bs)->Nat->RS α}(hp:PG p)(hq:PG q):PG (λX k=>if c (X k)=true then p X (k+1)else q X k) where
 mono X k:=by
  show k<ix (if c (X k)=true then p X (k+1)else q X k)
  split
  ·exact SL (Cv k) (hp.mono X (k+1))
  ·exact hq.mono X k
 rng X N k hX hk:=by
  show(∀v m,(if c (X k)=true then p X (k+1)else q X k)=_->_)/\∀m,(if c (X k)=true then p X (k+1)else q X k)=_->_
  split
  ·rename_i h
   exact hp.rng X N (k+1) hX (hX k λe=>(by rw[e,hc]at h;cases h))
  ·exact hq.rng X N k hX hk
 dep X X' k hX:=by
  have hX':∀j,j<ix (if c (X k)=true then p X (k+1)else q X k)->X j=X' j:=hX
  show(if c (X' k)=true then p X' (k+1)else q X' k)=(if c (X k)=true then p X (k+1)else q X k)
  by_cases h:c (X k)=true
  ·rw[Cf h]at hX'
   rw[<-hX' k (SL (Cv k) (hp.mono X (k+1))),Cf h,Cf h]
   exact hp.dep X X' (k+1) hX'
  ·rw[Ca h]at hX'
   rw[<-hX' k (hq.mono X k),Ca h,Ca h]
   exact hq.dep X X' k hX'
theorem PG.refuse{α:Type}:PG (α:=α) (λ_ k=>.inr k) where
 mono X k:=Cv k
 rng X N k hX hk:=⟨λv m e=>(by cases e),λm e=>(by cases e;exact hk)⟩
 dep X X' k hX:=rfl
variable(lv:Bs->Lvl×Int)
def Qnb(w s:Bs):Option Unit:=if s=w then some ()else none
def KB(w:Bs)(X:Nat->Bs)(k:Nat):RS Unit:=KM (Qnb w) (X k) k
def Q3i(s:Bs):Option Bs:=if YR s=true then some s else none
def pName(X:Nat->Bs)(k:Nat):RS Bs:=KM Q3i (X k) k
def G5(s:Bs):Int×Bool:=(Q1n s).getD (0,false)
def Xs(s:Bs):Bs:=(s.take (s.length-1)).drop 1
def Q77(s:Bs):Option Lvl:=if Lib.hasPrefix s [91]=true then(if(lv (Xs s)).2=0 then some (lv (Xs s)).1 else none)else none
def W1(X:Nat->Bs)(k:Nat):RS Lvl:=KM (Q77 lv) (X k) k
def Q0p(s:Bs):Option Tm:=match s with|[]=>none|c::r=>if s=[112,114,111,112]then some (Tm.mk 1 0 [] [] [])else if c=35 then some (Tm.mk 0 (G5 r).1 [] [] [])else if c=63 then some (Tm.mk 12 (G5 r).1 [] [] [])else if YR s=true then some (Tm.mk 3 0 s [] [])else none
def pAtom(X:Nat->Bs)(k:Nat):RS Tm:=KM Q0p (X k) k
def Yu:Nat->(Nat->Bs)->Nat->RS (List Lvl)|0,_,k=>.inr k|f+1,X,k=>if(X k==[41])=true then .inl ([],k+1)else Jc (W1 lv X k) λl m=>Jc (Yu f X m) λls m'=>.inl (l::ls,m')
def Gs(rc:(Nat->Bs)->Nat->RS Tm):Nat->(Nat->Bs)->Nat->RS (List Tm)|0,X,k=>Jc (KB [41] X k) λ_ m=>.inl ([],m)|c+1,X,k=>Jc (rc X k) λt m=>Jc (Gs rc c X m) λts m'=>.inl (t::ts,m')
def wordsW:List Bs:=[[97,112,112],[108,97,109],[112,105],[115,105,103,109,97],[112,97,105,114],[102,115,116],[115,110,100],[108,101,116]]
def Zo(h:Bs):Int×Int->Option (LO (Int×Int) Int):=(λs40=>cond ((decide (s40.1<8))) (Option.bind (QP ([([97,112,112]:List UInt8),([108,97,109]:List UInt8),([112,105]:List UInt8),([115,105,103,109,97]:List UInt8),([112,97,105,114]:List UInt8),([102,115,116]:List UInt8),([115,110,100]:List UInt8),([108,101,116]:List UInt8)]:List (List UInt8)) s40.1) λ(x42:List UInt8)=>Option.bind (cond ((x42==h)) (some (Qr (4+s40.1))) (some s40.2)) λ(v43:Int)=>some (.next ((Qr (s40.1+1)),v43))) (some (.done s40.2)))
def QZ(h:Bs):Int:=(Qc (Zo h) Qf (0,0)).getD 0
def ZT(k:Int):Nat:=if k=8\/k=11 then 3 else if k=9\/k=10 then 1 else 2
def Qei(X:Nat->Bs)(k:Nat):RS Tm:=Jc (W1 lv X k) λl m=>Jc (KB [41] X m) λ_ m'=>.inl (Tm.mk 2 0 [] [l] [],m')
def Q5t(X:Nat->Bs)(k:Nat):RS Tm:=Jc (pName X k) λnm m=>Jc (Yu lv 1000000 X m) λls m'=>.inl (Tm.mk 3 0 nm ls [],m')
def Q32(rc:(Nat->Bs)->Nat->RS Tm)(kd:Int)(X:Nat->Bs)(k:Nat):RS Tm:=Jc (Gs rc (ZT kd) X k) λts m=>.inl (Tm.mk kd 0 [] [] ts,m)
def Q05(rc:(Nat->Bs)->Nat->RS Tm)(X:Nat->Bs)(k:Nat):RS Tm:=if(X k==[115,111,114,116])=true then Qei lv X (k+1)else if(X k==[99,111,110,115,116])=true then Q5t lv X (k+1)else if QZ (X k)=0 then .inr k else Q32 rc (QZ (X k)) X (k+1)
def pT:Nat->(Nat->Bs)->Nat->RS Tm|0,_,k=>.inr k|n+1,X,k=>if(X k==[40])=true then Q05 lv (pT n) X (k+1)else pAtom X k
theorem Q0d:QZ []=0:=by kernel_rfl
theorem Qeg{w:Bs}(hw:w≠[]):PG (KB w):=PG.one (Qnb w) (Ca λh=>hw h.symm)
theorem Qes:YR []=false:=by kernel_rfl
theorem pName_ok:PG pName:=PG.one Q3i (Ca (by rw[Qes];intro h;cases h))
theorem Q04:PG (W1 lv):=PG.one (Q77 lv) (Ca (by decide))
theorem Qs7:PG pAtom:=PG.one Q0p rfl
theorem Qo3{α:Type}(v:α):PG (λX k=>(if(X k==[41])=true then(.inl (v,k+1):RS α)else .inr k)):=by
 have h:=PG.one (α:=α) (λs=>if s=[41]then some v else none) (Ca (by decide));have e:(λ(X:Nat->Bs) k=>(if(X k==[41])=true then(.inl (v,k+1):RS α)else .inr k))=λX k=>KM (λs=>if s=[41]then some v else none) (X k) k:=by funext X k;by_cases h:X k=[41];rw[Cf (P3.2 h),JF (Cf h)];rw[Ca (λe=>h (P3.1 e)),YJ (Ca h)]
 rw[e];exact h
theorem Qej:∀f,PG (Yu lv f)|0=>PG.refuse|f+1=>by have h1:PG (λX k=>Jc (W1 lv X k) λl m=>Jc (Yu lv f X m) λls m'=>.inl (l::ls,m')):=(Q04 lv).bind (f:=λl X m=>Jc (Yu lv f X m) λls m'=>.inl (l::ls,m')) λl=>(Qej f).map (l::·);have h2:=PG.look (λs=>s==[41]) (Qo3 ([]:List Lvl)) h1;(have e:Yu lv (f+1)=λX k=>if(X k==[41])=true then(if(X k==[41])=true then(.inl ([],k+1):RS (List Lvl))else .inr k)else Jc (W1 lv X k) λl m=>Jc (Yu lv f X m) λls m'=>.inl (l::ls,m'):=by funext X k;show(if(X k==[41])=true then _ else _)=_;by_cases h:(X k==[41])=true;rw[Cf h,Cf h,Cf h];rw[Ca h,Ca h]);rw[e];exact h2
theorem Qek{rc:(Nat->Bs)->Nat->RS Tm}(h:PG rc):∀c,PG (Gs rc c)|0=>(Qeg (by decide)).map λ_=>[]|c+1=>h.bind (f:=λt X m=>Jc (Gs rc c X m) λts m'=>.inl (t::ts,m')) λt=>(Qek h c).map (t::·)
theorem Qs4:PG (Qei lv):=(Q04 lv).bind (f:=λl X m=>Jc (KB [41] X m) λ_ m'=>.inl (Tm.mk 2 0 [] [l] [],m')) λl=>(Qeg (by decide)).map λ_=>Tm.mk 2 0 [] [l] []
theorem Qo2:PG (Q5t lv):=pName_ok.bind (f:=λnm X m=>Jc (Yu lv 1000000 X m) λls m'=>.inl (Tm.mk 3 0 nm ls [],m')) λnm=>(Qej lv 1000000).map λls=>Tm.mk 3 0 nm ls []
theorem Qs6{rc:(Nat->Bs)->Nat->RS Tm}(h:PG rc)(kd:Int):PG (Q32 rc kd):=(Qek h (ZT kd)).map λts=>Tm.mk kd 0 [] [] ts
theorem PG.next{α:Type}(c:Bs->Bool)(hc:c []=false){p:Bs->(Nat->Bs)->Nat->RS α}(hp:∀s,PG (p s)):PG (λX k=>if c (X k)=true then p (X k) X (k+1)else .inr k) where
 mono X k:=by
  show k<ix (if c (X k)=true then p (X k) X (k+1)else .inr k)
  split
  ·exact SL (Cv k) ((hp _).mono X (k+1))
  ·exact Cv k
 rng X N k hX hk:=by
  show(∀v m,(if c (X k)=true then p (X k) X (k+1)else .inr k)=_->_)/\∀m,(if c (X k)=true then p (X k) X (k+1)else .inr k)=_->_
  split
  ·rename_i h
   exact(hp _).rng X N (k+1) hX (hX k λe=>(by rw[e,hc]at h;cases h))
  ·exact⟨λv m e=>(by cases e),λm e=>(by cases e;exact hk)⟩
 dep X X' k hX:=by
  have hX':∀j,j<ix (if c (X k)=true then p (X k) X (k+1)else .inr k)->X j=X' j:=hX
  have e:X k=X' k:=hX' k (by
   split
   ·exact SL (Cv k) ((hp _).mono X (k+1))
   ·exact Cv k)
  show(if c (X' k)=true then p (X' k) X' (k+1)else .inr k)=(if c (X k)=true then p (X k) X (k+1)else .inr k)
  rw[<-e]
  by_cases h:c (X k)=true
  ·rw[Cf h]at hX'
   rw[Cf h,Cf h]
   exact(hp _).dep X X' (k+1) hX'
  ·rw[Ca h,Ca h]
theorem Qhm(rc:(Nat->Bs)->Nat->RS Tm):Q05 lv rc=λX k=>if(X k==[115,111,114,116])=true then Qei lv X (k+1)else if(X k==[99,111,110,115,116])=true then Q5t lv X (k+1)else if(QZ (X k)!=0)=true then Q32 rc (QZ (X k)) X (k+1)else .inr k:=by
 funext X k;unfold Q05;have:(if QZ (X k)=0 then(.inr k:RS Tm)else Q32 rc (QZ (X k)) X (k+1))=if(QZ (X k)!=0)=true then Q32 rc (QZ (X k)) X (k+1)else .inr k:=by by_cases h:QZ (X k)=0;rw[Cf h,Ca (by rw[h];decide)];rw[Ca h,Cf (by simpa using h)]
 rw[this]
theorem Qs5{rc:(Nat->Bs)->Nat->RS Tm}(h:PG rc):PG (Q05 lv rc):=by have h1:=PG.next (λs=>QZ s != 0) (by rw[Q0d];rfl) (p:=λs=>Q32 rc (QZ s)) λs=>Qs6 h _;have h2:=PG.step (λs=>s==[99,111,110,115,116]) rfl (Qo2 lv) h1;have h3:=PG.step (λs=>s==[115,111,114,116]) rfl (Qs4 lv) h2;rw[Qhm];exact h3
theorem Qeh:∀n,PG (pT lv n)|0=>PG.refuse|n+1=>PG.step (λs=>s==[40]) rfl (Qs5 lv (Qeh n)) Qs7
end
section
open Go.RowKit Go.Shelf
theorem D6:∀(s:Bs)(acc:Nat),(∀b∈s,48<=b.toNat/\b.toNat<=57)->∃n,Lib.decFrom acc s=some n|[],acc,_=>⟨_,rfl⟩|b::s,acc,h=>by(have hd:Lib.digitVal b=some (b.toNat-48):=by unfold Lib.digitVal;rw[Cf (h b Cj)]);obtain⟨n,hn⟩:=D6 s (acc*10+(b.toNat-48)) λc hc=>h c (Ck _ hc);exact⟨n,by unfold Lib.decFrom;rw[hd];exact hn⟩
theorem Qpp{s:Bs}(h:s≠[])(hd:∀b∈s,48<=b.toNat/\b.toNat<=57):∃n,Lib.atoi s=some n:=by cases s with|nil=>exact absurd rfl h|cons b s=>have hb:=hd b Cj;(have h1:(b==45)=false:=by cases hc:(b==45)with|false=>rfl|true=>have:=eq_of_beq hc;subst this;exact absurd hb.1 (by decide));(have h2:(b==43)=false:=by cases hc:(b==43)with|false=>rfl|true=>have:=eq_of_beq hc;subst this;exact absurd hb.1 (by decide));obtain⟨n,hn⟩:=D6 (b::s) 0 hd;refine⟨(n:Int),?_⟩;unfold Lib.atoi;dsimp only;rw[h1,h2,Ca Cp,Ca Cp];unfold Lib.decNat;rw[show(b::s).isEmpty=false from rfl,Ca Cp,hn];rfl
theorem Q0l{p:UInt8->Bool}{s:Bs}(h:s.dropWhile p=[]):∀b∈s,p b=true:=by have e:=CK (p:=p) (l:=s);rw[h,CC]at e;intro b hb;rw[<-e]at hb;exact Ch.1 (List.all_takeWhile (p:=p) (l:=s)) b hb
abbrev digits:Bs:=[48,49,50,51,52,53,54,55,56,57]
theorem Qjd{b:UInt8}(h:digits.contains b=true):48<=b.toNat/\b.toNat<=57:=by
 have:b∈digits:=by simpa using h
 simp only[digits,Cs,List.not_mem_nil,or_false]at this;rcases this with rfl|rfl|rfl|rfl|rfl|rfl|rfl|rfl|rfl|rfl <;> decide
theorem Qdn{s:Bs}(h:Lib.trimS s digits=[]):∀b∈s,48<=b.toNat/\b.toNat<=57:=by intro b hb;unfold Lib.trimS Lib.trimLeftS Lib.trimRightS at h;have h1:=Q0l h;by_cases hc:digits.contains b=true;exact Qjd hc;exfalso;cases hr:s.reverse.dropWhile (digits.contains ·)with|nil=>exact hc (Q0l hr b (List.mem_reverse.2 hb))|cons c r=>(have h2:digits.contains c=false:=by have:=List.head?_dropWhile_not (digits.contains ·) s.reverse;rw[hr]at this;simpa using this);have h4:=h1 c (List.mem_reverse.2 (by rw[hr];exact Cj));rw[h2]at h4;cases h4
theorem Uz(s:Bs)(h:s.length<=100000):Q1n s=some (G5 s):=by
 have key:∃r,Q1n s=some r:=by unfold Q1n;cases h6:decide (6<(s.length:Int))with|true=>exact⟨_,rfl⟩|false=>cases h0:(s==([]:List UInt8))with|true=>exact⟨_,rfl⟩|false=>(have hm:Qid s digits=some (Lib.trimS s digits):=by unfold Qid;refine Qv ?_;rw[C7 (by omega)];rfl);rw[show Qid s ([48,49,50,51,52,53,54,55,56,57]:List UInt8)=some (Lib.trimS s digits)from hm];rw[C6,C6,C0];cases ht:(!(Lib.trimS s digits==([]:List UInt8)))with|true=>exact⟨_,rfl⟩|false=>(have ht':Lib.trimS s digits=[]:=by simpa using ht);(have hne:s≠[]:=by intro e;rw[e]at h0;cases h0);obtain⟨n,hn⟩:=Qpp hne (Qdn ht');(have hg:(cond (Nat.ble s.length 18) (Lib.atoi s).isSome false)=true:=by have:¬6<(s.length:Int):=S4 h6;rw[C7 (by omega),hn];rfl);rw[C6,hg];cases h1:decide (1<(s.length:Int))with|false=>exact⟨_,rfl⟩|true=>rw[C5];obtain⟨c,r,rfl⟩:=PP hne;rw[show QP (c::r) 0=some c from rfl,C0,C0];cases((c.toNat:Int)==48) <;> exact⟨_,rfl⟩
 obtain⟨r,hr⟩:=key;unfold G5;rw[hr];rfl
def QJ(L:List Tkn)(k:Nat):Bs:=(L[k]?.map Tkn.text).getD []
def DJ(L:List Tkn)(k:Nat):Int:=(L[k]?.map Tkn.at_).getD 0
structure GL(L:List Tkn):Prop where
 len:L.length<=100000
 last:∀j,QJ L j≠[]->j+1<L.length
 short:∀j,(QJ L j).length<=65536
 br:∀j,Lib.hasPrefix (QJ L j) [91]=true->2<=(QJ L j).length
def cR{α:Type}(L:List Tkn):RS α->(Rdr×α)⊕((Int×Int)×Rdr)|.inl (v,m)=>.inl (⟨L,(m:Int)⟩,v)|.inr m=>.inr ((4,DJ L m),⟨L,(m:Int)⟩)
variable{L:List Tkn}{k:Nat}{lv:Bs->Lvl×Int}
theorem Qv0(hk:k<L.length):∃x,L[k]?=some x/\QJ L k=x.text/\DJ L k=x.at_:=⟨L[k],Cm hk,by unfold QJ;rw[Cm hk];rfl,by unfold DJ;rw[Cm hk];rfl⟩
theorem Dm(hk:k<L.length):Qsk ⟨L,(k:Int)⟩=some (.inl (⟨L,(k:Int)⟩,QJ L k)):=by obtain⟨x,h1,h2,-⟩:=Qv0 hk;unfold Qsk;rw[show QP L (k:Int)=some x from h1,h2];rfl
theorem Qw{α β:Type}(a:α):QH (some (.inl a:α⊕β))=some a:=rfl
theorem Qhx(hk:k<L.length)(w:Bs):J6j ⟨L,(k:Int)⟩ w=some (.inl (⟨L,(k:Int)⟩,(QJ L k==w))):=by unfold J6j;rw[Dm hk];rfl
theorem Qm1(hk:k<L.length):Qox ⟨L,(k:Int)⟩=some (.inr ((4,DJ L k),⟨L,(k:Int)⟩)):=by obtain⟨x,h1,-,h2⟩:=Qv0 hk;unfold Qox;rw[show QP L (k:Int)=some x from h1,h2];rfl
theorem Q96:Qew ⟨L,(k:Int)⟩ true=some (.inl (⟨L,(k:Int)⟩,())):=rfl
theorem Q5w(hk:k<L.length):Qew ⟨L,(k:Int)⟩ false=some (.inr ((4,DJ L k),⟨L,(k:Int)⟩)):=by unfold Qew;rw[Qm1 hk];rfl
theorem Qgr(h:GL L)(hk:k<L.length):Qr ((k:Int)+1)=((k+1:Nat):Int):=Zh (by have:=h.len;omega)
theorem Qhw(h:GL L)(hk:k<L.length)(w:Bs):Qsh ⟨L,(k:Int)⟩ w=some (cR L (KB w (QJ L) k)):=by unfold Qsh KB KM Qnb;rw[Dm hk];show Option.bind (Qew ⟨L,(k:Int)⟩ (QJ L k==w)) _=_;by_cases hw:QJ L k=w;rw[Cf hw,P3.2 hw,Q96];show some (Sum.inl (Rdr.mk L (Qr ((k:Int)+1)),()))=_;rw[Qgr h hk];rfl;rw[Ca hw,show(QJ L k==w)=false from Pm.2 hw,Q5w hk];rfl
theorem Qsi(h:GL L)(hk:k<L.length):J1q ⟨L,(k:Int)⟩=some (cR L (pName (QJ L) k)):=by unfold J1q pName KM Q3i;rw[Dm hk];show Option.bind (Q1p (QJ L k)) _=_;rw[Qbu _ (by have:=h.short k;omega)];show Option.bind (Qew ⟨L,(k:Int)⟩ (YR (QJ L k))) _=_;cases hn:YR (QJ L k)with|true=>rw[Q96,Cf rfl];show some (Sum.inl (Rdr.mk L (Qr ((k:Int)+1)),QJ L k))=_;rw[Qgr h hk];rfl|false=>rw[Q5w hk,Ca Cp];rfl
theorem Qsj(hl:∀s:Bs,s.length<=65536->Q0a s=some (lv s))(h:GL L)(hk:k<L.length):J1r ⟨L,(k:Int)⟩=some (cR L (W1 lv (QJ L) k)):=by unfold J1r W1 KM Q77;rw[Dm hk,Qw,C0];dsimp only;rw[show J7r (QJ L k) ([91]:List UInt8)=some (Lib.hasPrefix (QJ L k) [91])from rfl,C0];cases hp:Lib.hasPrefix (QJ L k) [91]with|false=>rw[Q5w hk,Ca Cp];rfl|true=>have h1:=h.br k hp;have h2:=h.short k;(have hw:Qr (((QJ L k).length:Int)-1)=(((QJ L k).length-1:Nat):Int):=by rw[Jh (by omega) (by omega)];omega);rw[Q96,Cf rfl];show Qa (cond (decide (0<=(1:Int))) (cond (Nat.ble (1:Int).toNat (Qr (((QJ L k).length:Int)-1)).toNat) (WE (Qr (((QJ L k).length:Int)-1)) (QJ L k).length) false) false) _=_;rw[hw];(have hg:(cond (decide (0<=(1:Int))) (cond (Nat.ble (1:Int).toNat (((QJ L k).length-1:Nat):Int).toNat) (WE (((QJ L k).length-1:Nat):Int) (QJ L k).length) false) false)=true:=by rw[show decide (0<=(1:Int))=true from rfl,C5,C7 (by show 1<=_;omega),C5];unfold WE;rw[C4 (by omega),C5];exact C7 (by omega));rw[Qv hg];have hs:Q0a (List.drop (1:Int).toNat (List.take (((QJ L k).length-1:Nat):Int).toNat (QJ L k)))=some (lv (Xs (QJ L k))):=hl _ (by rw[Cq,CH];omega);rw[hs];show Option.bind (Qew ⟨L,(k:Int)⟩ ((lv (Xs (QJ L k))).2==0)) _=_;by_cases h0:(lv (Xs (QJ L k))).2=0;rw[Cf h0,P3.2 h0,Q96];show some (Sum.inl (Rdr.mk L (Qr ((k:Int)+1)),(lv (Xs (QJ L k))).1))=_;rw[Qgr h hk];rfl;rw[Ca h0,show((lv (Xs (QJ L k))).2==0)=false from Pm.2 h0,Q5w hk];rfl
theorem J1s(h:GL L)(hk:k<L.length):J7j ⟨L,(k:Int)⟩=some (cR L (pAtom (QJ L) k)):=by
 unfold J7j pAtom KM;rw[Dm hk,Qw,C0];dsimp only;have hsh:=h.short k;have h76:=Qsi h hk;unfold pName KM Q3i at h76;generalize hX:QJ L k=s at hsh h76⊢;cases s with
 |nil=>show Option.bind (Option.bind (Qox ⟨L,(k:Int)⟩) _) _=_;rw[Qm1 hk];rfl
 |cons c r=>
  by_cases hp:c::r=[112,114,111,112];obtain⟨rfl,rfl⟩:=PE hp;show some (Sum.inl (Rdr.mk L (Qr ((k:Int)+1)),Tm.mk 1 0 [] [] []))=_;rw[Qgr h hk];rfl;have e1:((c::r)==([]:List UInt8))=false:=rfl;have e2:((c::r)==([112,114,111,112]:List UInt8))=false:=Pm.2 hp;have e3:QP (c::r) 0=some c:=rfl;have hbr:WE (1:Int) (c::r).length=true:=by show Nat.ble 1 (c::r).length=true;exact C7 (by simp)
  have h125:Q1n (List.drop (1:Int).toNat (c::r))=some (G5 r):=Uz r (by have:(c::r).length=r.length+1:=rfl;omega);have c35:((c.toNat:Int)==35)=decide (c=35):=by rw[Z0];by_cases e:c=35;subst e;rfl;rw[C3 e,C3];intro h';exact e (PU.1 (by show c.toNat=35;omega))
  have c63:((c.toNat:Int)==63)=decide (c=63):=by rw[Z0];by_cases e:c=63;subst e;rfl;rw[C3 e,C3];intro h';exact e (PU.1 (by show c.toNat=63;omega))
  simp only[e1,e2,e3,C6,C0,c35,c63,hbr,h125];unfold Q0p;dsimp only;rw[Ca hp];by_cases h35:c=35;subst h35;rw[Cf rfl];show some (Sum.inl (Rdr.mk L (Qr ((k:Int)+1)),Tm.mk 0 (G5 r).1 [] [] []))=_;rw[Qgr h hk];rfl;rw[Ca h35,C3 h35,C6];by_cases h63:c=63;subst h63;rw[Cf rfl];show some (Sum.inl (Rdr.mk L (Qr ((k:Int)+1)),Tm.mk 12 (G5 r).1 [] [] []))=_;rw[Qgr h hk];rfl;rw[Ca h63,C3 h63];show Option.bind (J1q ⟨L,(k:Int)⟩) _=_;rw[h76];by_cases hn:YR (c::r)=true;rw[Cf hn,Cf hn];rfl;rw[Ca hn,Ca hn];rfl
theorem Qp6(s:Bs):Qc (Zo s) Qf (0,0)=some (QZ s):=by
 have key:∃r,Qc (Zo s) Qf (0,0)=some r:=by
  obtain⟨r,h,-⟩:=Yv (step:=Zo s) wordsW (λi (x:Int)=>(i,x)) (λ_ _=>True) (λ_=>True) (by decide) (λa x b st e _=>by
    have hl:a.length<8:=by have:=congrArg List.length e;rw[C8,C1,show wordsW.length=8 from rfl]at this;omega
    refine .inr ⟨cond (x==s) (Qr (4+(a.length:Int))) st,?_,trivial⟩
    unfold Zo
    dsimp only
    rw[C4 (by omega),C5]
    have:QP wordsW (a.length:Int)=some x:=by rw[e];exact Zx a x b
    rw[show QP ([([97,112,112]:List UInt8),([108,97,109]:List UInt8),([112,105]:List UInt8),([115,105,103,109,97]:List UInt8),([112,97,105,114]:List UInt8),([102,115,116]:List UInt8),([115,110,100]:List UInt8),([108,101,116]:List UInt8)]:List (List UInt8)) (a.length:Int)=some x from this,C0]
    cases(x==s) <;> rfl)
   (λst _=>⟨st,by unfold Zo;dsimp only;rw[show(wordsW.length:Int)=8 from rfl];rfl,trivial⟩) 0 trivial
  exact⟨r,h⟩
 obtain⟨r,hr⟩:=key;unfold QZ;rw[hr];rfl
end
section
open Go.RowKit Go.Shelf
theorem J1p(a:Int):J7i a=some (ZT a:Int):=by unfold J7i ZT;rw[Z0,Z0,Z0,Z0];by_cases h8:a=8;subst h8;rfl;by_cases h11:a=11;subst h11;rfl;rw[C3 h8,C3 h11,Ca (by omega)];by_cases h9:a=9;subst h9;rfl;by_cases h10:a=10;subst h10;rfl;rw[C3 h9,C3 h10,Ca (by omega)];rfl
abbrev Qzn:=(Rdr×Tm)⊕((Int×Int)×Rdr)
def Q76:(List Tkn)×Int×(List Lvl)->Option (LO ((List Tkn)×Int×(List Lvl)) (((List Tkn)×Int×(List Lvl))⊕Qzn)):=(λs25=>Option.bind (QH (J6j (Rdr.mk s25.1 s25.2.1) ([41]:List UInt8))) λ(r27:Rdr×Bool)=>cond ((!r27.2)) (Option.bind (J1r r27.1) (Sum.elim (λ(r29:Rdr×Lvl)=>Qa (Nat.ble (s25.2.2.length+([r29.2]:List Lvl).length) 1000000000) (some (.next (r29.1.l,r29.1.n,(s25.2.2++([r29.2]:List Lvl)))))) (λ(e30:(Int×Int)×Rdr)=>some (.done (.inr (.inr ((e30.1.1,e30.1.2),e30.2))))))) (some (.done (.inl (r27.1.l,r27.1.n,s25.2.2)))))
def Jbt(nm:Bs):((List Tkn)×Int×(List Lvl))⊕Qzn->Option Qzn:=(Sum.elim (λ(v26:(List Tkn)×Int×(List Lvl))=>Option.bind (Qsh (Rdr.mk v26.1 v26.2.1) ([41]:List UInt8)) (Sum.elim (λ(r31:Rdr×Unit)=>some (.inl (r31.1,(Tm.mk 3 0 nm v26.2.2 ([]))))) (λ(e32:(Int×Int)×Rdr)=>some (.inr ((e32.1.1,e32.1.2),e32.2))))) (λ(o33:(Rdr×Tm)⊕((Int×Int)×Rdr))=>some o33))
def Q37(rc:Rdr×Unit->Option Qzn)(x46:Int):Int×(List Tkn)×Int×(List Tm)->Option (LO (Int×(List Tkn)×Int×(List Tm)) (((List Tkn)×Int×(List Tm))⊕Qzn)):=(λs53=>cond ((decide (s53.1<x46))) (Option.bind (rc ((Rdr.mk s53.2.1 s53.2.2.1),())) (Sum.elim (λ(r55:Rdr×Tm)=>Qa (Nat.ble (s53.2.2.2.length+([r55.2]:List Tm).length) 1000000000) (some (.next ((Qr (s53.1+1)),r55.1.l,r55.1.n,(s53.2.2.2++([r55.2]:List Tm)))))) (λ(e56:(Int×Int)×Rdr)=>some (.done (.inr (.inr ((e56.1.1,e56.1.2),e56.2))))))) (some (.done (.inl (s53.2.1,s53.2.2.1,s53.2.2.2)))))
def J7y(v41:Int):((List Tkn)×Int×(List Tm))⊕Qzn->Option Qzn:=(Sum.elim (λ(v54:(List Tkn)×Int×(List Tm))=>Option.bind (Qsh (Rdr.mk v54.1 v54.2.1) ([41]:List UInt8)) (Sum.elim (λ(r57:Rdr×Unit)=>some (.inl (r57.1,(Tm.mk v41 0 ([]:List UInt8) ([]) v54.2.2)))) (λ(e58:(Int×Int)×Rdr)=>some (.inr ((e58.1.1,e58.1.2),e58.2))))) (λ(o59:(Rdr×Tm)⊕((Int×Int)×Rdr))=>some o59))
theorem Qf3{σ β:Type}{step:σ->Option (LO σ β)}{n:Nat}{s s':σ}(h:step s=some (.next s')):Qc step (n+1) s=Qc step n s':=by simp only[Qc,h]
theorem Q0b{σ β:Type}{step:σ->Option (LO σ β)}{n:Nat}{s:σ}{r:β}(h:step s=some (.done r)):Qc step (n+1) s=some r:=by simp only[Qc,h]
section
variable{L:List Tkn}{lv:Bs->Lvl×Int}
theorem Q36(hl:∀s:Bs,s.length<=65536->Q0a s=some (lv s))(h:GL L)(nm:Bs):∀(f n k:Nat)(acc:List Lvl),L.length<=f+k->L.length<=n+k->k<L.length->acc.length<=k -> Option.bind (Qc Q76 n (L,(k:Int),acc)) (Jbt nm)=some (cR L (Jc (Yu lv f (QJ L) k) λls m=>.inl (Tm.mk 3 0 nm (acc++ls) [],m)))|0,_,k,acc,h1,_,hk,_=>by omega|_+1,0,k,acc,_,h2,hk,_=>by omega|f+1,n+1,k,acc,h1,h2,hk,ha=>by unfold Yu;have hlen:=h.len;cases h41:(QJ L k==[41])with|true=>(have hst:Q76 (L,(k:Int),acc)=some (.done (.inl (L,(k:Int),acc))):=by unfold Q76;dsimp only;rw[Qhx hk,Qw,C0,h41];rfl);rw[Q0b hst,C0,Cf rfl];show Option.bind (Qsh ⟨L,(k:Int)⟩ [41]) _=_;rw[Qhw h hk];unfold KB;rw[JF (Cf (P3.1 h41))];show _=some (cR L (.inl (Tm.mk 3 0 nm (acc++[]) [],k+1)));rw[CC];rfl|false=>rw[Ca Cp];(have hst:Q76 (L,(k:Int),acc)=Option.bind (some (cR L (W1 lv (QJ L) k))) (Sum.elim (λ(r29:Rdr×Lvl)=>Qa (Nat.ble (acc.length+([r29.2]:List Lvl).length) 1000000000) (some (.next (r29.1.l,r29.1.n,(acc++([r29.2]:List Lvl)))))) (λ(e30:(Int×Int)×Rdr)=>some (.done (.inr (.inr ((e30.1.1,e30.1.2),e30.2)))))):=by unfold Q76;dsimp only;rw[Qhx hk,Qw,C0,h41,show(!(((⟨L,(k:Int)⟩:Rdr),false):Rdr×Bool).2)=true from rfl,C5,Qsj hl h hk]);cases hr:W1 lv (QJ L) k with|inr m=>rw[hr]at hst;have hst':Q76 (L,(k:Int),acc)=some (.done (.inr (.inr ((4,DJ L m),⟨L,(m:Int)⟩)))):=hst;rw[Q0b hst'];rfl|inl r=>obtain⟨l,m⟩:=r;have hm:=((Q04 lv).rng (QJ L) L.length k h.last hk).1 l m hr;have hm2:=(Q04 lv).mono (QJ L) k;rw[hr]at hm2 hst;have hm3:k<m:=hm2;have hst':Q76 (L,(k:Int),acc)=Qa (Nat.ble (acc.length+1) 1000000000) (some (.next (L,(m:Int),acc++[l]))):=hst;rw[Xx (by omega)]at hst';rw[Qf3 hst'];show _=some (cR L (Jc (Jc (Yu lv f (QJ L) m) λls m'=>.inl (l::ls,m')) λls m=>.inl (Tm.mk 3 0 nm (acc++ls) [],m)));rw[Q36 hl h nm f n m (acc++[l]) (by omega) (by omega) hm (by rw[C8];simp only[C1,Cb];omega)];cases Yu lv f (QJ L) m with|inl r=>(obtain⟨ls,m'⟩:=r;show some (cR L (.inl (Tm.mk 3 0 nm ((acc++[l])++ls) [],m')))=some (cR L (.inl (Tm.mk 3 0 nm (acc++l::ls) [],m')));rw[CB];rfl)|inr m=>rfl
theorem Q9o(h:GL L){rc:Rdr×Unit->Option Qzn}{rcS:(Nat->Bs)->Nat->RS Tm}(hS:PG rcS)(k0:Nat)(hrc:∀m,k0<=m->m<L.length->rc (⟨L,(m:Int)⟩,())=some (cR L (rcS (QJ L) m)))(kd:Int)(x:Nat)(hx:x<=3):∀(c n i k:Nat)(acc:List Tm),i+c=x->c<n->k0<=k->k<L.length->acc.length<=k -> Option.bind (Qc (Q37 rc (x:Int)) n ((i:Int),L,(k:Int),acc)) (J7y kd)=some (cR L (Jc (Gs rcS c (QJ L) k) λts m=>.inl (Tm.mk kd 0 [] [] (acc++ts),m)))|_,0,i,k,acc,_,hn,_,_,_=>by omega|0,n+1,i,k,acc,hi,_,hk0,hk,ha=>(by(have hst:Q37 rc (x:Int) ((i:Int),L,(k:Int),acc)=some (.done (.inl (L,(k:Int),acc))):=by unfold Q37;dsimp only;rw[C3 (by omega),C6]);rw[Q0b hst,C0];show Option.bind (Qsh ⟨L,(k:Int)⟩ [41]) _=_;rw[Qhw h hk];unfold Gs;cases KB [41] (QJ L) k with|inl r=>(obtain⟨v,m⟩:=r;show _=some (cR L (.inl (Tm.mk kd 0 [] [] (acc++[]),m)));rw[CC];rfl)|inr m=>rfl)|c+1,n+1,i,k,acc,hi,hn,hk0,hk,ha=>by have hlen:=h.len;(have hst:Q37 rc (x:Int) ((i:Int),L,(k:Int),acc)=Option.bind (some (cR L (rcS (QJ L) k))) (Sum.elim (λ(r55:Rdr×Tm)=>Qa (Nat.ble (acc.length+([r55.2]:List Tm).length) 1000000000) (some (.next ((Qr ((i:Int)+1)),r55.1.l,r55.1.n,(acc++([r55.2]:List Tm)))))) (λ(e56:(Int×Int)×Rdr)=>some (.done (.inr (.inr ((e56.1.1,e56.1.2),e56.2)))))):=by unfold Q37;dsimp only;rw[C4 (by omega),C5,hrc k hk0 hk]);unfold Gs;cases hr:rcS (QJ L) k with|inr m=>rw[hr]at hst;have hst':Q37 rc (x:Int) ((i:Int),L,(k:Int),acc)=some (.done (.inr (.inr ((4,DJ L m),⟨L,(m:Int)⟩)))):=hst;rw[Q0b hst'];rfl|inl r=>obtain⟨t,m⟩:=r;have hm:=(hS.rng (QJ L) L.length k h.last hk).1 t m hr;have hm2:=hS.mono (QJ L) k;rw[hr]at hm2 hst;have hm3:k<m:=hm2;have hst':Q37 rc (x:Int) ((i:Int),L,(k:Int),acc)=Qa (Nat.ble (acc.length+1) 1000000000) (some (.next ((Qr ((i:Int)+1)),L,(m:Int),acc++[t]))):=hst;rw[Xx (by omega),Zh (by omega)]at hst';rw[Qf3 hst'];show _=some (cR L (Jc (Jc (Gs rcS c (QJ L) m) λts m'=>.inl (t::ts,m')) λts m=>.inl (Tm.mk kd 0 [] [] (acc++ts),m)));rw[Q9o h hS k0 hrc kd x hx c n (i+1) m (acc++[t]) (by omega) (by omega) (by omega) hm (by rw[C8];simp only[C1,Cb];omega)];cases Gs rcS c (QJ L) m with|inl r=>(obtain⟨ts,m'⟩:=r;show some (cR L (.inl (Tm.mk kd 0 [] [] ((acc++[t])++ts),m')))=some (cR L (.inl (Tm.mk kd 0 [] [] (acc++t::ts),m')));rw[CB];rfl)|inr m=>rfl
theorem Q1i{s w:Bs}(h:(s==w)=true)(hw:w≠[]):s≠[]:=λe=>by rw[e]at h;exact hw (P3.1 h).symm
theorem Qx7(hl:∀s:Bs,s.length<=65536->Q0a s=some (lv s))(h:GL L){rc:Rdr×Unit->Option Qzn}{rcS:(Nat->Bs)->Nat->RS Tm}(hS:PG rcS){k:Nat}(hk:k<L.length)(hrc:∀m,k<m->m<L.length->rc (⟨L,(m:Int)⟩,())=some (cR L (rcS (QJ L) m))):Qsv rc ⟨L,(k:Int)⟩=some (cR L (if(QJ L k==[40])=true then Q05 lv rcS (QJ L) (k+1)else pAtom (QJ L) k)):=by have hlen:=h.len;unfold Qsv;rw[Qhx hk];show cond (!(QJ L k==[40])) _ _=_;cases h40:(QJ L k==[40])with|false=>(rw[Ca Cp];show Option.bind (J7j ⟨L,(k:Int)⟩) _=_;rw[J1s h hk];cases pAtom (QJ L) k with|inl r=>rfl|inr m=>rfl)|true=>have hk1:k+1<L.length:=h.last k (Q1i h40 (by decide));rw[Cf rfl];show Option.bind (QH (Qsk (Rdr.mk L (Qr ((k:Int)+1))))) _=_;rw[Qgr h hk,Dm hk1];unfold Q05;show cond (QJ L (k+1)==[115,111,114,116]) _ _=_;cases hs:(QJ L (k+1)==[115,111,114,116])with|true=>(have hk2:k+1+1<L.length:=h.last (k+1) (Q1i hs (by decide));rw[Cf rfl,C5];show Option.bind (J1r (Rdr.mk L (Qr (((k+1:Nat):Int)+1)))) _=_;rw[Qgr h hk1,Qsj hl h hk2];unfold Qei;cases hr:W1 lv (QJ L) (k+1+1)with|inr m=>rfl|inl r=>obtain⟨l,m⟩:=r;have hm:=((Q04 lv).rng (QJ L) L.length _ h.last hk2).1 l m hr;show Option.bind (Qsh ⟨L,(m:Int)⟩ [41]) _=some (cR L (Jc (KB [41] (QJ L) m) _));rw[Qhw h hm];cases KB [41] (QJ L) m with|inl r=>rfl|inr m=>rfl)|false=>rw[Ca Cp,C6];show cond (QJ L (k+1)==[99,111,110,115,116]) _ _=_;cases hc:(QJ L (k+1)==[99,111,110,115,116])with|true=>(have hk2:k+1+1<L.length:=h.last (k+1) (Q1i hc (by decide));rw[Cf rfl,C5];show Option.bind (J1q (Rdr.mk L (Qr (((k+1:Nat):Int)+1)))) _=_;rw[Qgr h hk1,Qsi h hk2];unfold Q5t;cases hr:pName (QJ L) (k+1+1)with|inr m=>rfl|inl r=>obtain⟨nm,m⟩:=r;have hm:=(pName_ok.rng (QJ L) L.length _ h.last hk2).1 nm m hr;have key:=Q36 hl h nm 1000000 Qf m [] (by omega) (by unfold Qf;omega) hm (Cd _);exact key)|false=>rw[Ca Cp,C6];show Option.bind (Qc (Zo (QJ L (k+1))) Qf (0,0)) _=_;rw[Qp6,C0];show Option.bind (Qew ⟨L,((k+1:Nat):Int)⟩ (QZ (QJ L (k+1))!=0)) _=_;by_cases h0:QZ (QJ L (k+1))=0;rw[Cf h0,h0,show((0:Int)!=0)=false from rfl,Q5w hk1];rfl;have hk2:k+1+1<L.length:=h.last (k+1) λe=>h0 (by rw[e];exact Q0d);rw[Ca h0,show(QZ (QJ L (k+1))!=0)=true from by simpa using h0,Q96];show Option.bind (J7i (QZ (QJ L (k+1)))) _=_;rw[J1p,C0];show Option.bind (Qc (Q37 rc (ZT (QZ (QJ L (k+1))):Int)) Qf (0,L,Qr (((k+1:Nat):Int)+1),[])) (J7y (QZ (QJ L (k+1))))=_;rw[Qgr h hk1];(have hn3:ZT (QZ (QJ L (k+1)))<=3:=by unfold ZT;split <;> (try split) <;> omega);have key:=Q9o h hS (k+1+1) (λm h1 h2=>hrc m (by omega) h2) (QZ (QJ L (k+1))) (ZT (QZ (QJ L (k+1)))) hn3 (ZT (QZ (QJ L (k+1)))) Qf 0 (k+1+1) [] (by omega) (by unfold Qf;omega) (Cl _) hk2 (Cd _);exact key
theorem Qdr(hl:∀s:Bs,s.length<=65536->Q0a s=some (lv s))(h:GL L):∀(n k:Nat),L.length<=n+k->k<L.length->Jm (λrc v=>Qsv rc v.1) n (⟨L,(k:Int)⟩,())=some (cR L (pT lv n (QJ L) k))|0,k,h1,hk=>by omega|n+1,k,h1,hk=>Qx7 hl h (Qeh lv n) hk λm hkm hm=>Qdr hl h n m (by omega) hm
theorem J26(hl:∀s:Bs,s.length<=65536->Q0a s=some (lv s))(h:GL L)(h0:0<L.length):Jar ⟨L,0⟩=some (cR L (pT lv Qf (QJ L) 0)):=Qdr hl h Qf 0 (by have:=h.len;unfold Qf;omega) h0
theorem J25{k:Nat}(hk:k<L.length)(s:Bs):J7l ⟨L,(k:Int)⟩ s=some (if QJ L k=[]/\DJ L k=(s.length:Int)then .inl (⟨L,(k:Int)⟩,())else .inr ((4,DJ L k),⟨L,(k:Int)⟩)):=by obtain⟨x,h1,h2,h3⟩:=Qv0 hk;unfold J7l;rw[Dm hk];show Option.bind (cond (QJ L k==([]:List UInt8)) _ _) _=_;by_cases h0:QJ L k=[];rw[P3.2 h0,C5];show Option.bind (Option.bind (QP L (k:Int)) _) _=_;rw[show QP L (k:Int)=some x from h1,C0];show Option.bind (Option.bind (Qew ⟨L,(k:Int)⟩ (x.at_==(s.length:Int))) _) _=_;rw[<-h3];by_cases ha:DJ L k=(s.length:Int);rw[Cf ⟨h0,ha⟩,P3.2 ha,Q96];rfl;rw[Ca (λe=>ha e.2),show(DJ L k==(s.length:Int))=false from Pm.2 ha,Q5w hk];rfl;rw[show(QJ L k==([]:List UInt8))=false from Pm.2 h0,C6,Ca (λe=>h0 e.1)];show Option.bind (Option.bind (Qew ⟨L,(k:Int)⟩ false) _) _=_;rw[Q5w hk];rfl
end
end
section
open Go.RowKit Go.Shelf
theorem Zm{p:UInt8->Bool}(s:Bs):(s.takeWhile p).length<=s.length:=by have:=congrArg List.length (CK (p:=p) (l:=s));rw[C8]at this;omega
theorem Dc{p:UInt8->Bool}(s:Bs):s.drop (s.takeWhile p).length=s.dropWhile p:=by
 conv=>lhs;rw[<-CK (p:=p) (l:=s)]
 have h:((s.takeWhile p++s.dropWhile p).takeWhile p).length=(s.takeWhile p).length:=by rw[CK]
 rw[h,List.drop_left'];rfl
theorem Km(s:Bs)(p:UInt8->Bool){step:Int->Option (LO Int Int)}(hlen:s.length<=900000000)(h1:∀(k:Nat) b,s[k]?=some b->step (k:Int)=some (cond (p b) (.next (Qr ((k:Int)+1))) (.done (k:Int))))(h2:step (s.length:Int)=some (.done (s.length:Int))):∀k:Nat,k<=s.length->Qc step Qf (k:Int)=some ((k+((s.drop k).takeWhile p).length:Nat):Int):=by intro k hk;have key:=JY (step:=step) (λi=>0<=i/\i.toNat<=s.length) (λi=>s.length-i.toNat) (λi=>((i.toNat+((s.drop i.toNat).takeWhile p).length:Nat):Int)) (λi hi=>by obtain⟨n,rfl⟩:=PI hi.1;have hi2:n<=s.length:=hi.2;rcases P2 n s.length with hlt|hge;have hb:s[n]?=some s[n]:=Cm hlt;have e:=h1 n _ hb;have hd:s.drop n=s[n]::s.drop (n+1):=Pa hlt;(cases hp:p s[n]with|true=>rw[hp,C5,Zh (by omega)]at e;refine .inr ⟨((n+1:Nat):Int),e,⟨by omega,by show n+1<=_;omega⟩,by show s.length-(n+1)<s.length-n;omega,?_⟩;show((n+1+((s.drop (n+1)).takeWhile p).length:Nat):Int)=((n+((s.drop n).takeWhile p).length:Nat):Int);rw[hd,P6,Cf hp,C1];omega|false=>rw[hp,C6]at e;refine .inl ?_;rw[e];show some (LO.done (n:Int))=some (LO.done ((n+((s.drop n).takeWhile p).length:Nat):Int));rw[hd,P6,Ca (by rw[hp];exact Cp)];rfl);(have:n=s.length:=by omega);subst this;refine .inl ?_;rw[h2];show some (LO.done (s.length:Int))=some (LO.done ((s.length+((s.drop s.length).takeWhile p).length:Nat):Int));rw[List.drop_length];rfl) Qf (k:Int) ⟨by omega,hk⟩ (by show s.length-k<Qf;unfold Qf;omega);exact key
def Qfe(c:Int):Bool:=(decide (97<=c)&&decide (c<=122))||(decide (65<=c)&&decide (c<=90))||(decide (48<=c)&&decide (c<=57))||(c==95)||(c==39)||(c==46)
def inW(b:UInt8):Bool:=Qfe (b.toNat:Int)
theorem Qlq(c:Int):Qt2 c=some (Qfe c):=by unfold Qt2 Qfe;cases decide (97<=c) <;> cases decide (c<=122) <;> cases decide (65<=c) <;> cases decide (c<=90) <;> cases decide (48<=c) <;> cases decide (c<=57) <;> cases(c==95) <;> cases(c==39) <;> rfl
theorem Qlr(s:Bs)(hs:s.length<=900000000){k:Nat}(hk:k<=s.length):Qt3 s (k:Int)=some ((k+((s.drop k).takeWhile inW).length:Nat):Int):=by unfold Qt3;rw[Km s inW hs (λj b hb=>?_) ?_ k hk];rfl;rw[Jp];rfl;rw[C4 (by have:=(Ce.1 hb).1;omega),C5,show QP s (j:Int)=some b from hb,C0,Qlq];show cond (Qfe (b.toNat:Int)) _ _=some (cond (Qfe (b.toNat:Int)) _ _);cases Qfe (b.toNat:Int) <;> rfl
def J7:Bs->Nat
 |[]=>0
 |c::r=>if c=40\/c=41 then 1 else
   if c=91 then(if((c::r).takeWhile (· != 93)).length<(c::r).length then((c::r).takeWhile (· != 93)).length+1 else 0)else
    if c=35\/c=63 then(if(G5 (r.takeWhile inW)).2=true then 1+(r.takeWhile inW).length else 0)else
     if inW c=true then(if(G5 ((c::r).takeWhile inW)).2=true\/c.toNat<48\/57<c.toNat then((c::r).takeWhile inW).length else 0)else 0
theorem XX(c:UInt8)(r:Bs):J7 (c::r)=if c=40\/c=41 then 1 else if c=91 then(if((c::r).takeWhile (· != 93)).length<(c::r).length then((c::r).takeWhile (· != 93)).length+1 else 0)else if c=35\/c=63 then(if(G5 (r.takeWhile inW)).2=true then 1+(r.takeWhile inW).length else 0)else if inW c=true then(if(G5 ((c::r).takeWhile inW)).2=true\/c.toNat<48\/57<c.toNat then((c::r).takeWhile inW).length else 0)else 0:=rfl
theorem Ky(s:Bs):J7 s<=s.length:=by cases s with|nil=>exact Cl _|cons c r=>have h1:=Zm (p:=inW) r;have h2:=Zm (p:=inW) (c::r);rw[XX];rw[C1]at *;split;omega;split;split <;> omega;split;split <;> omega;split;split <;> omega;omega
theorem Q0f(c:UInt8):∀s:Bs,Lib.indexByte s c=if(s.takeWhile (· != c)).length<s.length then((s.takeWhile (· != c)).length:Int)else -1|[]=>rfl|b::s=>by unfold Lib.indexByte;cases h:(b==c)with|true=>(have h':(b != c)=false:=by unfold bne;rw[h];rfl);(have e1:(b::s).takeWhile (· != c)=[]:=by rw[P6,Ca (by rw[h'];exact Cp)]);rw[Cf rfl,e1,Cf (by simp)];rfl|false=>(have h':(b != c)=true:=by unfold bne;rw[h];rfl);(have e1:(b::s).takeWhile (· != c)=b::s.takeWhile (· != c):=by rw[P6,Cf h']);rw[Ca Cp,e1,Q0f c s,C1,C1];by_cases hl:(s.takeWhile (· != c)).length<s.length;rw[Cf hl,Ca (by simp),Cf (by omega)];omega;rw[Ca hl,Cf (by rfl),Ca (by omega)]
theorem J1j(b:UInt8):((b.toNat:Int).toNat).toUInt8=b:=by simp
theorem KO(c:UInt8)(n:UInt8):((c.toNat:Int)==(n.toNat:Int))=decide (c=n):=by rw[Z0];by_cases e:c=n;subst e;simp;rw[C3 e,C3];intro h';exact e (PU.1 (by omega))
theorem J6m(a b:Bool):(cond a (some true) (some b))=some (a||b):=by cases a <;> rfl
theorem Gn{a b n:Nat}(h1:a<=b)(h2:b<=n):(cond (decide (0<=(a:Int))) (cond (Nat.ble (a:Int).toNat (b:Int).toNat) (WE (b:Int) n) false) false)=true:=by rw[C4 (by omega),C5,C7 (by show a<=b;exact h1),C5];unfold WE;rw[C4 (by omega),C5];exact C7 h2
theorem Gp(s:Bs){a b:Nat}(h:a<=b):List.drop (a:Int).toNat (List.take (b:Int).toNat s)=(s.drop a).take (b-a):=by show List.drop a (List.take b s)=_;rw[List.drop_take]
theorem XT{p:UInt8->Bool}(s:Bs):s.take (s.takeWhile p).length=s.takeWhile p:=by
 conv=>lhs;rw[<-CK (p:=p) (l:=s)]
 have h:((s.takeWhile p++s.dropWhile p).takeWhile p).length=(s.takeWhile p).length:=by rw[CK]
 rw[h,List.take_left'];rfl
theorem Qxq(s:Bs)(hs:s.length<=65536){k:Nat}(hk:k<s.length):Qoy s (k:Int)=some ((k+J7 (s.drop k):Nat):Int):=by
 obtain⟨c,hc⟩:∃c,s[k]?=some c:=⟨_,Cm hk⟩;have hd:s.drop k=c::s.drop (k+1):=Q6w hc;have hnx:Qr ((k:Int)+1)=((k+1:Nat):Int):=Zh (by omega);unfold Qoy;rw[show QP s (k:Int)=some c from hc,C0,J6m,C0,hd,hnx,XX];rw[show((c.toNat:Int)==40)=decide (c=40)from KO c 40,show((c.toNat:Int)==41)=decide (c=41)from KO c 41,
  show((c.toNat:Int)==91)=decide (c=91)from KO c 91,show((c.toNat:Int)==35)=decide (c=35)from KO c 35,show((c.toNat:Int)==63)=decide (c=63)from KO c 63]
 by_cases hp:c=40\/c=41;rw[Cf hp,show(decide (c=40)||decide (c=41))=true by rcases hp with rfl|rfl <;> rfl];rfl;have e1:decide (c=40)=false:=C3 λe=>hp (.inl e);have e2:decide (c=41)=false:=C3 λe=>hp (.inr e);rw[Ca hp,e1,e2,Bool.or_false,C6];by_cases hb:c=91;rw[Cf hb,C4 hb,C5];have hin:WE (k:Int) s.length=true:=by unfold WE;rw[C4 (by omega),C5];exact C7 (by show k<=_;omega)
 rw[Qv hin];have h122:Qih (List.drop (k:Int).toNat s) 93=some (Lib.indexByte (c::s.drop (k+1)) 93):=by rw[<-hd];rfl
 rw[h122,C0,Q0f];have hlen:(c::s.drop (k+1)).length=s.length-k:=by rw[<-hd,Cq]
 by_cases hl:((c::s.drop (k+1)).takeWhile (· != 93)).length<(c::s.drop (k+1)).length;rw[Cf hl,Cf hl];generalize ((c::s.drop (k+1)).takeWhile (· != 93)).length=n at hl;rw[C4 (by omega),C5];rw[Jh (n:=(k:Int)+(n:Int)) (by omega) (by omega),Jh (by omega) (by omega)];show some ((k:Int)+(n:Int)+1)=_;congr 1;rw[Ca hl,Ca hl];rfl;rw[Ca hb,C3 hb,C6,J6m,C0];by_cases hh:c=35\/c=63;rw[Cf hh,show(decide (c=35)||decide (c=63))=true by rcases hh with rfl|rfl <;> rfl,C5];rw[Qlr s (by omega) (k:=k+1) (by omega),C0];have hw:=Zm (p:=inW) (s.drop (k+1));rw[Cq]at hw;rw[Qv (Gn (by omega) (by omega)),Gp s (by omega),S2,XT];rw[Uz _ (by have:=Zm (p:=inW) (s.drop (k+1));rw[Cq]at this;omega),C0];cases(G5 ((s.drop (k+1)).takeWhile inW)).2 with|true=>rw[C5,Cf rfl];show some ((k+1+((s.drop (k+1)).takeWhile inW).length:Nat):Int)=_;rw[PB]|false=>rw[C6,Ca Cp];rfl
 have e3:decide (c=35)=false:=C3 λe=>hh (.inl e);have e4:decide (c=63)=false:=C3 λe=>hh (.inr e);rw[Ca hh,e3,e4,Bool.or_false,C6,Qlq,C0];show Option.bind (Option.bind (Option.bind (cond (inW c) _ _) _) _) _=_;cases hi:inW c with|false=>rw[Ca Cp];rfl|true=>rw[Cf rfl,C5,Qlr s (by omega) (by omega),C0,hd];have hw:=Zm (p:=inW) (c::s.drop (k+1));rw[<-hd]at hw⊢;rw[Cq]at hw;rw[Qv (Gn (by omega) (by omega)),Gp s (by omega),S2,XT];rw[Uz _ (by have:=Zm (p:=inW) (s.drop k);rw[Cq]at this;omega),C0];have e5:decide ((c.toNat:Int)<48)=decide (c.toNat<48):=decide_eq_decide.2 (by omega);have e6:decide (57<(c.toNat:Int))=decide (57<c.toNat):=decide_eq_decide.2 (by omega);rw[J6m,e5,e6,J6m,C0];by_cases hz:(G5 ((s.drop k).takeWhile inW)).2=true\/c.toNat<48\/57<c.toNat;rw[Cf hz,show((G5 ((s.drop k).takeWhile inW)).2||(decide (c.toNat<48)||decide (57<c.toNat)))=true by simpa using hz];rfl;rw[Ca hz,show((G5 ((s.drop k).takeWhile inW)).2||(decide (c.toNat<48)||decide (57<c.toNat)))=false by simpa using hz];rfl
def isSp(b:UInt8):Bool:=([32,9,13,10]:List UInt8).contains b
def Ka:Nat->Bs->Nat->List Tkn
 |0,_,_=>[]
 |n+1,r,k=>if J7 (r.dropWhile isSp)=0 then[⟨[],((k+(r.takeWhile isSp).length:Nat):Int)⟩]else
   ⟨(r.dropWhile isSp).take (J7 (r.dropWhile isSp)),((k+(r.takeWhile isSp).length:Nat):Int)⟩::Ka n ((r.dropWhile isSp).drop (J7 (r.dropWhile isSp))) (k+(r.takeWhile isSp).length+J7 (r.dropWhile isSp))
def QA(s:Bs):List Tkn:=Ka (s.length+1) s 0
theorem J72(b:UInt8):decide (0<=Lib.indexByte ([32,9,13,10]:List UInt8) b)=isSp b:=by
 by_cases h1:b=32;subst h1;rfl;by_cases h2:b=9;subst h2;rfl;by_cases h3:b=13;subst h3;rfl;by_cases h4:b=10;subst h4;rfl;have e1:Lib.indexByte ([32,9,13,10]:List UInt8) b = -1:=by simp[Lib.indexByte,Ne.symm h1,Ne.symm h2,Ne.symm h3,Ne.symm h4]
 have e2:isSp b=false:=by unfold isSp;simp[h1,h2,h3,h4]
 rw[e1,e2];rfl
def Q57(a0:Bs):Int×(List Tkn)->Option (LO (Int×(List Tkn)) (Unit⊕(List Tkn))):=(λs42=>Option.bind (Qc (σ:=Int) (β:=Int) (λs54=>Option.bind (cond ((decide (s54<(a0.length:Int)))) (Option.bind (QP a0 s54) λ(x59:UInt8)=>Option.bind (Qih ([32,9,13,10]:List UInt8) (x59.toNat:Int)) λ(x60:Int)=>some (decide (0<=x60))) (some false)) λ(v58:Bool)=>cond v58 (some (.next (Qr (s54+1)))) (some (.done s54))) Qf s42.1) λ(v55:Int)=>Option.bind (cond ((decide (v55<(a0.length:Int)))) (Option.bind (Qoy a0 v55) λ(x63:Int)=>some x63) (some v55)) λ(v62:Int)=>Qa (cond (decide (0<=v55)) (cond (Nat.ble v55.toNat v62.toNat) (WE v62 a0.length) false) false) (Qa (Nat.ble (s42.2.length+([(Tkn.mk (List.drop v55.toNat (List.take v62.toNat a0)) v55)]:List Tkn).length) 1000000000) (cond ((v62==v55)) (some (.done (.inr (s42.2++([(Tkn.mk (List.drop v55.toNat (List.take v62.toNat a0)) v55)]:List Tkn))))) (some (.next (v62,(s42.2++([(Tkn.mk (List.drop v55.toNat (List.take v62.toNat a0)) v55)]:List Tkn))))))))
theorem Qw1(s:Bs)(hs:s.length<=900000000){k:Nat}(hk:k<=s.length):Qc (σ:=Int) (β:=Int) (λs54=>Option.bind (cond ((decide (s54<(s.length:Int)))) (Option.bind (QP s s54) λ(x59:UInt8)=>Option.bind (Qih ([32,9,13,10]:List UInt8) (x59.toNat:Int)) λ(x60:Int)=>some (decide (0<=x60))) (some false)) λ(v58:Bool)=>cond v58 (some (.next (Qr (s54+1)))) (some (.done s54))) Qf (k:Int)=some ((k+((s.drop k).takeWhile isSp).length:Nat):Int):=by refine Km s isSp hs (λj b hb=>?_) ?_ k hk;rw[C4 (by have:=(Ce.1 hb).1;omega),C5,show QP s (j:Int)=some b from hb,C0];rw[show Qih ([32,9,13,10]:List UInt8) (b.toNat:Int)=some (Lib.indexByte ([32,9,13,10]:List UInt8) b) by unfold Qih;rw[J1j],C0,J72,C0];cases isSp b <;> rfl;rw[Jp];rfl
theorem UH{p:UInt8->Bool}(s:Bs):(s.takeWhile p).length+(s.dropWhile p).length=s.length:=by rw[<-C8,CK]
theorem Qdo(s:Bs)(hs:s.length<=65536):∀(n k:Nat)(acc:List Tkn),k<=s.length->s.length<n+k->acc.length<=k->Qc (Q57 s) n ((k:Int),acc)=some (.inr (acc++Ka n (s.drop k) k))
 |0,k,acc,h1,h2,h3=>by omega
 |n+1,k,acc,h1,h2,h3=>by
  have hdl:=UH (p:=isSp) (s.drop k);rw[Cq]at hdl;have hsp:s.drop (k+((s.drop k).takeWhile isSp).length)=(s.drop k).dropWhile isSp:=by rw[<-Dc,List.drop_drop]
  have hsc:=Ky ((s.drop k).dropWhile isSp);have hsl:=Qw1 s (by omega) h1;have hlx:Ka (n+1) (s.drop k) k=if J7 ((s.drop k).dropWhile isSp)=0 then[⟨[],((k+((s.drop k).takeWhile isSp).length:Nat):Int)⟩]else⟨((s.drop k).dropWhile isSp).take (J7 ((s.drop k).dropWhile isSp)),((k+((s.drop k).takeWhile isSp).length:Nat):Int)⟩::Ka n (((s.drop k).dropWhile isSp).drop (J7 ((s.drop k).dropWhile isSp))) (k+((s.drop k).takeWhile isSp).length+J7 ((s.drop k).dropWhile isSp)):=rfl
  rw[hlx];rw[<-hsp]at hdl hsc⊢;generalize ((s.drop k).takeWhile isSp).length=t at *;rw[Cq]at hdl hsc;have hto:(cond ((decide (((k+t:Nat):Int)<(s.length:Int)))) (Option.bind (Qoy s ((k+t:Nat):Int)) λ(x63:Int)=>some x63) (some ((k+t:Nat):Int)))=some ((k+t+J7 (s.drop (k+t)):Nat):Int):=by by_cases hlt:k+t<s.length;rw[C4 (by omega),C5,Qxq s hs hlt];rfl;rw[C3 (by omega),C6,P1 (by omega)];rfl
  have hst:Q57 s ((k:Int),acc)=cond (((k+t+J7 (s.drop (k+t)):Nat):Int)==((k+t:Nat):Int)) (some (.done (.inr (acc++[⟨(s.drop (k+t)).take (J7 (s.drop (k+t))),((k+t:Nat):Int)⟩])))) (some (.next (((k+t+J7 (s.drop (k+t)):Nat):Int),acc++[⟨(s.drop (k+t)).take (J7 (s.drop (k+t))),((k+t:Nat):Int)⟩]))):=by unfold Q57;dsimp only;rw[hsl,C0,hto,C0,Qv (Gn (by omega) (by omega)),Xx (by simp only[C1,Cb];omega),Gp s (by omega),S2]
  simp only[Qc];rw[hst];by_cases h0:J7 (s.drop (k+t))=0;rw[Cf h0,h0,Pk,P3.2 rfl,C5];rfl;rw[Ca h0,show((((k+t+J7 (s.drop (k+t)):Nat):Int)==((k+t:Nat):Int))=false)from Pm.2 (by omega),C6];show Qc (Q57 s) n (((k+t+J7 (s.drop (k+t)):Nat):Int),acc++[_])=_;rw[Qdo s hs n (k+t+J7 (s.drop (k+t))) _ (by omega) (by omega) (by rw[C8];simp only[C1,Cb];omega),CB,List.drop_drop];rfl
theorem Qc6:∀(n:Nat)(r:Bs)(k:Nat),(Ka n r k).length<=n|0,_,_=>Cl _|n+1,r,k=>by unfold Ka;split;show 1<=n+1;omega;rw[C1];have:=Qc6 n ((r.dropWhile isSp).drop (J7 (r.dropWhile isSp))) (k+(r.takeWhile isSp).length+J7 (r.dropWhile isSp));omega
theorem Qc4(n:Nat)(r:Bs)(k:Nat):0<(Ka (n+1) r k).length:=by unfold Ka;split;exact Nat.zero_lt_one;exact Pu _
theorem Q53(x:Tkn)(l:List Tkn):QJ (x::l) 0=x.text:=rfl
theorem Gl(x:Tkn)(l:List Tkn)(j:Nat):QJ (x::l) (j+1)=QJ l j:=rfl
theorem Q4b(j:Nat):QJ [] j=[]:=by unfold QJ;simp
theorem Qw3{r:Bs}(h:J7 r≠0)(hb:Lib.hasPrefix (r.take (J7 r)) [91]=true):2<=J7 r/\J7 r<=r.length:=by refine⟨?_,Ky r⟩;cases r with|nil=>exact absurd rfl h|cons c r=>(have hc:c=91:=by obtain⟨n,hn⟩:=Nat.exists_eq_succ_of_ne_zero h;rw[hn,List.take_succ_cons]at hb;unfold Lib.hasPrefix at hb;simp only[List.isPrefixOf,Bool.and_true]at hb;exact(P3.1 hb).symm);subst hc;rw[XX,Ca (by decide),Cf rfl]at h⊢;split;rw[P6,Cf (by decide),C1];omega;rename_i h';rw[Ca h']at h;exact absurd rfl h
theorem Qc5:∀(n:Nat)(r:Bs)(k:Nat),r.length<n->r.length<=65536->(∀j,QJ (Ka n r k) j≠[]->j+1<(Ka n r k).length)/\(∀j,(QJ (Ka n r k) j).length<=65536)/\∀j,Lib.hasPrefix (QJ (Ka n r k) j) [91]=true->2<=(QJ (Ka n r k) j).length
 |0,r,k,h,_=>by omega
 |n+1,r,k,h,h6=>by
  have hdl:=UH (p:=isSp) r;have hsc:=Ky (r.dropWhile isSp);unfold Ka;split;refine⟨λj hj=>?_,λj=>?_,λj hj=>?_⟩;cases j with|zero=>exact absurd rfl hj|succ j=>rw[Gl,Q4b]at hj;exact absurd rfl hj
  cases j with|zero=>exact Cd _|succ j=>rw[Gl,Q4b];exact Cd _
  cases j with|zero=>rw[Q53]at hj;cases hj|succ j=>rw[Gl,Q4b]at hj;cases hj
  rename_i h0;obtain⟨i1,i2,i3⟩:=Qc5 n ((r.dropWhile isSp).drop (J7 (r.dropWhile isSp))) (k+(r.takeWhile isSp).length+J7 (r.dropWhile isSp)) (by rw[Cq];omega) (by rw[Cq];omega);refine⟨λj hj=>?_,λj=>?_,λj hj=>?_⟩;cases j with|zero=>rw[C1];(have:0<(Ka n ((r.dropWhile isSp).drop (J7 (r.dropWhile isSp))) (k+(r.takeWhile isSp).length+J7 (r.dropWhile isSp))).length:=by cases n with|zero=>omega|succ n=>exact Qc4 n _ _);omega|succ j=>rw[Gl]at hj;rw[C1];have:=i1 j hj;omega
  cases j with|zero=>rw[Q53];show(List.take _ _).length<=_;rw[CH];omega|succ j=>rw[Gl];exact i2 j
  cases j with|zero=>rw[Q53]at hj⊢;have:=Qw3 h0 hj;show 2<=(List.take _ _).length;rw[CH];omega|succ j=>rw[Gl]at hj⊢;exact i3 j hj
theorem GJ(s:Bs)(h:s.length<=65536):GL (QA s) where
 len:=by have:=Qc6 (s.length+1) s 0;unfold QA;omega
 last:=(Qc5 (s.length+1) s 0 (by omega) h).1
 short:=(Qc5 (s.length+1) s 0 (by omega) h).2.1
 br:=(Qc5 (s.length+1) s 0 (by omega) h).2.2
def zT:Tm:=Tm.mk 0 0 [] [] []
inductive RdE where
 |ok (t:Tm)
 |bad (i:Int)
def Wx(lv:Bs->Lvl×Int)(s:Bs):RdE:=match pT lv Qf (QJ (QA s)) 0 with|.inl (t,m)=>if QJ (QA s) m=[]/\DJ (QA s) m=(s.length:Int)then .ok t else .bad (DJ (QA s) m)|.inr m=>.bad (DJ (QA s) m)
theorem J2i{lv:Bs->Lvl×Int}(hl:∀s:Bs,s.length<=65536->Q0a s=some (lv s))(s:Bs)(h:s.length<=65536):Qdc s=match Wx lv s with
  |.ok t=>Option.bind (Qlw t) λ(x69:(List UInt8)×Int)=>cond ((x69.2 != 0)) (some (zT,0,x69.2)) (some (t,0,0))
  |.bad i=>some (zT,i,4):=by
 have hG:=GJ s h
 have h0:0<(QA s).length:=Qc4 _ _ _
 have ht:Qc (Q57 s) Qf ((0:Int),[])=some (.inr (QA s)):=by
  have key:∀n,s.length+1<=n->Qc (Q57 s) n ((0:Int),[])=some (.inr (Ka n s 0)):=λn hn=>Qdo s h n 0 [] (Cd _) (by omega) (Cd _)
  have e:∀(n:Nat)(r:Bs)(k:Nat),r.length<n->Ka (n+1) r k=Ka n r k:=by
   intro n
   induction n with
   |zero=>intro r k hr;omega
   |succ n ih=>
    intro r k hr
    have hdl:=UH (p:=isSp) r
    have hsc:=Ky (r.dropWhile isSp)
    show(if J7 (r.dropWhile isSp)=0 then _ else _::Ka (n+1) _ _)=(if J7 (r.dropWhile isSp)=0 then _ else _::Ka n _ _)
    by_cases hz:J7 (r.dropWhile isSp)=0
    ·rw[Cf hz,Cf hz]
    ·rw[Ca hz,Ca hz,ih _ _ (by rw[Cq];omega)]
  have e2:∀d,Ka (s.length+1+d) s 0=QA s:=by
   intro d
   induction d with
   |zero=>rfl
   |succ d ih=>rw[<-PB,e _ _ _ (by omega),ih]
  rw[key Qf (by unfold Qf;omega)]
  obtain⟨d,hd⟩:∃d,Qf=s.length+1+d:=⟨Qf-(s.length+1),by unfold Qf;omega⟩
  rw[hd,e2]
 unfold Qdc
 rw[C3 (by omega),C6]
 show Option.bind (Option.bind (Qc (Q57 s) Qf ((0:Int),[])) _) _=_
 rw[ht]
 show Option.bind (Jar ⟨QA s,0⟩) _=_
 rw[J26 hl hG h0]
 unfold Wx
 cases hr:pT lv Qf (QJ (QA s)) 0 with
 |inr m=>rfl
 |inl r=>
  obtain⟨t,m⟩:=r
  have hm:=((Qeh lv Qf).rng (QJ (QA s)) (QA s).length 0 hG.last h0).1 t m hr
  show Option.bind (J7l ⟨QA s,(m:Int)⟩ s) _=_
  rw[J25 hm]
  by_cases he:QJ (QA s) m=[]/\DJ (QA s) m=(s.length:Int)
  ·rw[Cf he];dsimp only;rw[Cf he];rfl
  ·rw[Ca he];dsimp only;rw[Ca he];rfl
end
section
open Go.RowKit Go.Shelf
theorem Yd{σ β γ:Type}{step:σ->Option (LO σ β)}{k:β->Option γ}{n:Nat}{s0:σ}{v:β}{r:Option γ}(h:Qc step n s0=some v)(hk:k v=r):Option.bind (Qc step n s0) k=r:=by rw[h];exact hk
theorem Wp{σ β γ:Type}{step:σ->Option (LO σ β)}{k:β->Option γ}{n:Nat}{s0:σ}{v:β}{P:Option γ->Prop}(h:Qc step n s0=some v)(hk:P (k v)):P (Option.bind (Qc step n s0) k):=by rw[h];exact hk
theorem DH{σ β γ δ:Type}{step:σ->Option (LO σ β)}{k:β->Option γ}{k2:γ->Option δ}{n:Nat}{s0:σ}{v:β}{r:Option δ}(h:Qc step n s0=some v)(hk:Option.bind (k v) k2=r):Option.bind (Option.bind (Qc step n s0) k) k2=r:=by rw[h];exact hk
theorem Qxg{A B:Lvl}(ha:A.vs.length<=100000)(hb:B.vs.length<=100000):Qt1 A B=some (ZW A B):=by
 unfold Qt1;generalize hM:QS A.vs B.vs=M;refine Yd (JY (λs=>∃i j:Nat,∃out:List LV,s=((i:Int),(j:Int),JZ 0 out,out)/\i<=A.vs.length/\j<=B.vs.length/\out.length<=i+j/\out++QS (A.vs.drop i) (B.vs.drop j)=M) (λs=>A.vs.length+B.vs.length-(s.1.toNat+s.2.1.toNat)) (λ_=>(JZ 0 M,M)) ?_ Qf _ ⟨0,0,[],Z,Cd _,Cd _,Cl _,hM⟩ ?_) ?_;rintro _ ⟨i,j,out,rfl,hi,hj,ho,hm⟩;dsimp only;have Qgr:∀(i' j':Nat)(z:LV),i'<=A.vs.length->j'<=B.vs.length->i+j+1<=i'+j'->out++(z::QS (A.vs.drop i') (B.vs.drop j'))=M -> ((∀q:Option (LO (Int×Int×Int×List LV) (Int×List LV)),q=Qa (Nat.ble (out.length+([z]:List LV).length) 1000000000) (some (.next ((i':Int),(j':Int),max (JZ 0 out) z.2,out++[z])))->(q=some (.done (JZ 0 M,M)))\/∃s':Int×Int×Int×List LV,q=some (.next s')/\(∃i j:Nat,∃out:List LV,s'=((i:Int),(j:Int),JZ 0 out,out)/\i<=A.vs.length/\j<=B.vs.length/\out.length<=i+j/\out++QS (A.vs.drop i) (B.vs.drop j)=M)/\A.vs.length+B.vs.length-(s'.1.toNat+s'.2.1.toNat)<A.vs.length+B.vs.length-(i+j)/\True)):=by intro i' j' z h1 h2 h3 h4 q hq;rw[Xx (by show out.length+1<=_;omega)]at hq;refine .inr ⟨_,hq,⟨i',j',out++[z],by rw[Qh6],h1,h2,by rw[C8];show out.length+1<=_;omega,by rw[<-h4];simp⟩,?_,trivial⟩;show A.vs.length+B.vs.length-(i'+j')<_;omega
 have w1:∀k:Nat,k<=100000->Qr ((k:Int)+1)=((k+1:Nat):Int):=λk hk=>Zh (by omega);have ltA:decide ((i:Int)<(A.vs.length:Int))=decide (i<A.vs.length):=by rw[decide_eq_decide];omega
 have ltB:decide ((j:Int)<(B.vs.length:Int))=decide (j<B.vs.length):=by rw[decide_eq_decide];omega
 have eqA:((i:Int)==(A.vs.length:Int))=decide (i=A.vs.length):=by rw[Z0,decide_eq_decide];omega
 have eqB:((j:Int)==(B.vs.length:Int))=decide (j=B.vs.length):=by rw[Z0,decide_eq_decide];omega
 rw[ltA,ltB,eqA,eqB,w1 i (by omega),w1 j (by omega)];by_cases h1:i<A.vs.length;have hx:A.vs[i]?=some A.vs[i]:=Cm h1;generalize A.vs[i]=x at hx;rw[C4 h1,show QP A.vs (i:Int)=some x from hx];simp only[C5,C0];by_cases h2:j<B.vs.length;have hy:B.vs[j]?=some B.vs[j]:=Cm h2;generalize B.vs[j]=y at hy;rw[C3 (by omega:¬j=B.vs.length),C3 (by omega:¬i=A.vs.length),show QP B.vs (j:Int)=some y from hy];simp only[C6,C0];by_cases h3:x.1<y.1;rw[C4 h3,C5];exact Qgr (i+1) j x (by omega) hj (by omega) (by rw[<-Qsb hx hy h3];exact hm) _ rfl;rw[C3 h3,C6];by_cases h4:y.1<x.1;rw[C4 h4,C5];exact Qgr i (j+1) y hi (by omega) (by omega) (by rw[<-Qsc hx hy h4];exact hm) _ rfl;rw[C3 h4,C6];exact Qgr (i+1) (j+1) (x.1,max x.2 y.2) (by omega) (by omega) (by omega) (by rw[<-Qsd hx hy (by omega)];exact hm) _ rfl;rw[C4 (by omega:j=B.vs.length),C5];exact Qgr (i+1) j x (by omega) hj (by omega) (by rw[<-Qwu hx (by omega)];exact hm) _ rfl;rw[C3 h1];simp only[C6,C0];by_cases h2:j<B.vs.length;have hy:B.vs[j]?=some B.vs[j]:=Cm h2;generalize B.vs[j]=y at hy;rw[C4 h2,C3 (by omega:¬j=B.vs.length),C4 (by omega:i=A.vs.length),show QP B.vs (j:Int)=some y from hy];simp only[C6,C5,C0];exact Qgr i (j+1) y hi (by omega) (by omega) (by rw[<-Qwt (by omega) hy];exact hm) _ rfl;rw[C3 h2,C6];rw[Qo7 (by omega) (by omega),CC]at hm;subst hm;exact .inl Z;show A.vs.length+B.vs.length-(0+0)<Qf;unfold Qf;omega;dsimp only;by_cases h0:0<M.length;rw[C4 (by omega),C5,C0];by_cases h1:max A.c B.c<=JZ 0 M;rw[C4 h1,Qp9 hM.symm h0 h1];rfl;rw[C3 h1,Qfb hM.symm (.inr (by omega))];rfl;rw[C3 (by omega),Qfb hM.symm (.inl (by omega))];rfl
theorem Qfp{s:Bs}{k j:Nat}:(s.drop k)[j]?=s[k+j]?:=by rw[CS]
theorem Zw{s:Bs}(hs:s.length<=100000){k:Nat}(hk:k<=s.length)(bad:Bool)(e:Int):∃k':Nat,UQ ⟨s,(k:Int),bad,e⟩=some (.inl (⟨s,(k':Int),bad,e⟩,()))/\k'<=s.length/\s.drop k'=sp (s.drop k):=by have hle:((s.drop k).takeWhile (·==(32:UInt8))).length<=(s.drop k).length:=Zm _;rw[Cq]at hle;refine⟨k+((s.drop k).takeWhile (·==(32:UInt8))).length,?_,by omega,?_⟩;unfold UQ;refine Yd (Km s (·==32) (by omega) (λj b hb=>?_) ?_ k hk) rfl;have hj:=(Ce.1 hb).1;dsimp only;have h32:((b.toNat:Int)==32)=(b==32):=KO b 32;rw[C4 (by omega:(j:Int)<(s.length:Int)),show QP s (j:Int)=some b from hb];simp only[C5,C0];rw[h32];cases(b==32) <;> rfl;dsimp only;rw[Jp];rfl;rw[<-List.drop_drop,Dc];rfl
theorem Wa{s:Bs}(hs:s.length<=100000){k:Nat}(hk:k<=s.length)(c:UInt8){ci:Int}(hc:ci=(c.toNat:Int))(bad:Bool)(e:Int):Q60 ⟨s,(k:Int),bad,e⟩ ci=some (.inl (⟨s,((k+(cond (GK c (s.drop k)).isSome 1 0):Nat):Int),bad,e⟩,(GK c (s.drop k)).isSome))/\∀r,GK c (s.drop k)=some r->k+1<=s.length/\s.drop (k+1)=r:=by
 subst hc;constructor;unfold Q60;dsimp only;cases hb:s[k]? with|none=>have:=Pb.1 hb;rw[C3 (by omega),P1 this];rfl|some b=>have hlt:=(Ce.1 hb).1;rw[C4 (by omega),C5,show QP s (k:Int)=some b from hb];(have hd:s.drop k=b::s.drop (k+1):=by rw[Pa hlt];congr 1;exact(Ce.1 hb).2);rw[hd];unfold GK;dsimp only;simp only[C0];by_cases h:b=c;subst h;rw[Cf rfl,show((b.toNat:Int)==(b.toNat:Int))=true from beq_self_eq_true _];simp only[C5];rw[Jh (by omega) (by omega)];rfl;(have:((b.toNat:Int)==(c.toNat:Int))=false:=by have:b.toNat≠c.toNat:=λe=>h (PU.1 e);simpa using λe:(b.toNat:Int)=c.toNat=>this (by omega));rw[Ca h,this];rfl
 intro r hr;have h1:=Yg hr;have h2:=congrArg List.length h1;rw[Cq,C1]at h2;refine⟨by omega,?_⟩;rw[<-List.drop_drop,h1];rfl
theorem Q8x(ds:Bs)(b:UInt8):G4 (ds++[b])=10*G4 ds+(b.toNat-48):=by unfold G4;rw[List.foldl_append];rfl
def J60(s:Bs)(k:Nat)(bad:Bool)(e:Int)(q:Option ((LRd×Int)⊕(Unit×LRd))):Prop:=∃(n:Nat)(k':Nat)(bad':Bool),q=some (.inl (⟨s,(k':Int),bad',e⟩,(n:Int)))/\k'<=s.length/\n<100000000/\(bad=true->bad'=true)/\match WC (s.drop k)with|some (v,r)=>n=v/\bad'=bad/\s.drop k'=r|none=>bad'=true
theorem Qbo{s:Bs}(hs:s.length<=100000){k:Nat}(hk:k<=s.length)(bad:Bool)(e:Int):J60 s k bad e (Qex ⟨s,(k:Int),bad,e⟩):=by
 have hle:(Z1 (s.drop k)).length<=(s.drop k).length:=Q54 _;rw[Cq]at hle;generalize hd:Z1 (s.drop k)=d at hle;have hdd:∀b∈d,Q0e b=true:=by rw[<-hd];exact Q0m
 have hget:∀j,j<d.length->∃b,s[k+j]?=some b/\Q0e b=true/\d[j]?=some b:=λj hj=>by obtain⟨b,hb,hp⟩:=Qau (p:=Q0e) (s.drop k) j (by show j<(Z1 (s.drop k)).length;rw[hd];exact hj);refine⟨b,by rw[<-Qfp];exact hb,hp,?_⟩;have ht:=Q4c (p:=Q0e) (s.drop k);(have:d=(s.drop k).take d.length:=by rw[<-hd];exact ht.symm);(have h9:((s.drop k).take d.length)[j]?=some b:=by rw[Pe,Cf hj];exact hb);exact(congrArg (λl:Bs=>l[j]?) this).trans h9
 have hend:∀b,s[k+d.length]?=some b->Q0e b=false:=λb hb=>by have:=Qav (p:=Q0e) (s.drop k) b;rw[Qfp]at this;exact this (by show s[k+(Z1 (s.drop k)).length]?=_;rw[hd];exact hb)
 have small:∀j,j<=7->G4 (d.take j)<10000000:=λj hj=>by have:=Q4g (d.take j) 0 (λb hb=>hdd b (List.mem_of_mem_take hb));(have h2:(d.take j).length<=7:=by rw[CH];omega);have h3:10 ^ (d.take j).length<=10 ^ 7:=Nat.pow_le_pow_right (by decide) h2;(have h7:(10:Nat) ^ 7=10000000:=by decide);unfold G4;omega
 unfold Qex;dsimp only;refine Wp (P:=J60 s k bad e) (JY (λp=>∃j:Nat,p=((G4 (d.take j):Int),((k+j:Nat):Int))/\j<=min d.length 7) (λp=>s.length-p.2.toNat) (λ_=>((G4 (d.take (min d.length 7)):Int),((k+min d.length 7:Nat):Int))) ?_ Qf _ ⟨0,rfl,Cd _⟩ (by simp only[Cu];unfold Qf;omega)) ?_;rintro p ⟨j,rfl,hj⟩;dsimp only;by_cases hlt:j<d.length;obtain⟨b,hb,hp,hdj⟩:=hget j hlt;have hl:=(Ce.1 hb).1;have hp':=hp;rw[Q4o]at hp;simp only[CD]at hp;rw[C4 (by omega:((k+j:Nat):Int)<s.length),C5,Q6e hb];simp only[C0,hp.1,hp.2,C5];rw[Jh (n:=((k+j:Nat):Int)-k) (by omega) (by omega)];by_cases h6:j<=6;rw[C4 (by omega),C5];right;have hs1:=small j (by omega);have hb1:48<=b.toNat/\b.toNat<=57:=by simpa[Q0e]using hp'
 refine⟨((G4 (d.take (j+1)):Int),((k+(j+1):Nat):Int)),?_,⟨j+1,rfl,by omega⟩,by simp only[Cu];omega,trivial⟩;rw[Sc,hdj];show _=some (LO.next (((G4 (d.take j++[b]):Nat):Int),_));rw[Q8x,Jh (n:=10*(G4 (d.take j):Int)) (by omega) (by omega),IntWalk.u8_in _ (by omega),IntWalk.i64_in ((b.toNat:Int)-48) (by omega),Jh (n:=10*(G4 (d.take j):Int)+((b.toNat:Int)-48)) (by omega) (by omega),Jh (n:=((k+j:Nat):Int)+1) (by omega) (by omega)];congr 3;omega;rw[C3 (by omega),C6];left;have:j=min d.length 7:=by omega
 rw[<-this];have hj':j=d.length:=by omega
 subst hj';left;rw[show min d.length 7=d.length by omega];cases hb:s[k+d.length]? with|none=>have:=Pb.1 hb;rw[C3 (by omega)];rfl|some b=>have hn:=hend b hb;have:=(Ce.1 hb).1;rw[C4 (by omega),C5,Q6e hb];rw[Q4o]at hn;simp only[C0];cases h1:decide (48<=(b.toNat:Int))with|false=>rfl|true=>rw[h1,Bool.true_and]at hn;rw[hn];rfl
 dsimp only;unfold J60;rw[Jh (n:=((k+min d.length 7:Nat):Int)-k) (by omega) (by omega)];have hsm:=small (min d.length 7) (by omega);unfold WC Qpo;rw[hd];by_cases h0:d.length=0;rw[show(((k+min d.length 7:Nat):Int)==(k:Int))=true by simp;omega,C5,C0,C5];refine⟨_,_,_,rfl,by omega,by omega,λ_=>rfl,?_⟩;rw[Cf (by simp[h0])];rw[show(((k+min d.length 7:Nat):Int)==(k:Int))=false by simp;omega,C6];by_cases h6:6<d.length;rw[C4 (by omega),C5,C0,C5];refine⟨_,_,_,rfl,by omega,by omega,λ_=>rfl,?_⟩;rw[Cf (by simp[h6])];rw[C3 (by omega),C6];obtain⟨b,hb,hp,hdj⟩:=hget 0 (by omega);have hh:d.head?=some b:=by rw[<-hdj];cases d <;> rfl
 have hmin:min d.length 7=d.length:=by omega
 have hsm2:G4 d<10000000:=by rw[hmin,List.take_length]at hsm;exact hsm
 rw[Pk]at hb;rw[Q6e hb,hmin,List.take_length,hh];simp only[C0];by_cases hb48:b=48;subst hb48;rw[show(((48:UInt8).toNat:Int)==48)=true from rfl,C5,C0];by_cases h1:1<d.length;rw[C4 (by omega),C5];refine⟨_,_,_,rfl,by omega,by omega,λ_=>rfl,?_⟩;rw[Cf (by simp[h1])];rw[C3 (by omega),C6];refine⟨_,_,_,rfl,by omega,by omega,λh=>h,?_⟩;rw[Ca (by simp[h0,h6,h1])];exact⟨rfl,rfl,by rw[List.drop_drop]⟩;have e1:((b.toNat:Int)==48)=false:=by have:b.toNat≠48:=λe=>hb48 (PU.1 e);simpa using λe:(b.toNat:Int)=48=>this (by omega)
 rw[e1,C6,C0,C6];refine⟨_,_,_,rfl,by omega,by omega,λh=>h,?_⟩;rw[Ca (by simp[h0,h6,hb48])];exact⟨rfl,rfl,by rw[List.drop_drop]⟩
theorem Qbn(L:Lvl)(e':Int)(s:Bs)(k:Int)(bad:Bool)(e:Int):Qoe ⟨s,k,bad,e⟩ L e'=some (.inl (⟨s,k,bad,if e=0/\bad=false then e' else e⟩,L)):=by unfold Qoe;by_cases he:e=0;subst he;cases bad <;> rfl;dsimp only;rw[show(e==0)=false by simpa using he,Ca (λh=>he h.1)];rfl
theorem Qxc(n:Int):Qxd n=some (Qhn n):=by unfold Qxd Qhn;by_cases h1:n<0;rw[C4 h1,Cf h1];rfl;rw[C3 h1,Ca h1];by_cases h2:100<n;rw[C4 h2,Cf h2];rfl;rw[C3 h2,Ca h2];rfl
theorem Qlp(i n:Int):Qsy i n=some (XS i n):=by unfold Qsy XS;by_cases h1:i < -65536;rw[C4 h1,Cf (.inl h1)];rfl;rw[C3 h1];by_cases h2:7<i;rw[C4 (by omega:8<=i),Cf (.inr (.inl h2))];rfl;rw[C3 (by omega:¬8<=i)];by_cases h3:n<0;rw[C4 h3,Cf (.inr (.inr h3))];rfl;rw[C3 h3,Ca (by omega)];by_cases h4:100<n;rw[C4 h4,Cf h4];rfl;rw[C3 h4,Ca h4];rfl
theorem Qzy(s:Bs):sp (sp s)=sp s:=by unfold sp;induction s with|nil=>rfl|cons b s ih=>rw[PZ];split;exact ih;rename_i h;rw[PZ,Ca h]
def J0r(s:Bs)(k:Nat)(bad:Bool)(e:Int)(p:Option ((Lvl×Int)×Bs))(q:Option ((LRd×Lvl)⊕(Unit×LRd))):Prop:=∃(L:Lvl)(k':Nat)(bad':Bool)(e':Int),q=some (.inl (⟨s,(k':Int),bad',e'⟩,L))/\k'<=s.length/\PartOK (L,0)/\(bad=true->bad'=true)/\(bad=false->match p with
 |some (x,r)=>L=x.1/\bad'=false/\e'=(if e=0 then x.2 else e)/\s.drop k'=sp r
 |none=>bad'=true)
theorem Qkk(i p:Int):PartOK ((XS i p).1,0):=⟨(XR i p).c,(XR i p).v,(XR i p).wf,(XR i p).tr⟩
theorem Q4k{s:Bs}(hs:s.length<=100000){k:Nat}(hk:k<=s.length)(bad:Bool)(e:Int):J0r s k bad e (Zf (sp (s.drop k))) (Qic ⟨s,(k:Int),bad,e⟩):=by
 have var:∀(k3:Nat)(neg:Bool),k3<=s.length->J0r s k bad e (Qmu neg (s.drop k3)) (Option.bind (QH (Qex (LRd.mk s k3 bad e))) λ(r17:LRd×Int)=>Option.bind (QH (UQ r17.1)) λ(r19:LRd×Unit)=>Option.bind (QH (Q60 r19.1 43)) λ(r21:LRd×Bool)=>Option.bind (cond r21.2 (Option.bind (QH (UQ r21.1)) λ(r30:LRd×Unit)=>Option.bind (QH (Qex r30.1)) λ(r32:LRd×Int)=>Option.bind (QH (UQ r32.1)) λ(r34:LRd×Unit)=>some (r32.2,r34.1.s,r34.1.at_,r34.1.bad,r34.1.e)) (some (0,r21.1.s,r21.1.at_,r21.1.bad,r21.1.e))) λ(v29:Int×(List UInt8)×Int×Bool×Int)=>Option.bind (cond neg (some (Qr ((-1)-r17.2))) (some r17.2)) λ(v36:Int)=>Option.bind (Qsy v36 v29.1) λ(x37:Lvl×Int)=>Option.bind (QH (Qoe (LRd.mk v29.2.1 v29.2.2.1 v29.2.2.2.1 v29.2.2.2.2) x37.1 x37.2)) λ(r38:LRd×Lvl)=>some (.inl (r38.1,r38.2))):=by intro k3 neg hk3;obtain⟨n,k4,b4,h4,hk4,hn4,hb4,hm4⟩:=Qbo hs hk3 bad e;obtain⟨k5,h5,hk5,hd5⟩:=Zw hs hk4 b4 e;obtain⟨h6,hr6⟩:=Wa hs hk5 43 (ci:=43) rfl b4 e;rw[h4,Qw,C0];dsimp only;rw[h5,Qw,C0];dsimp only;rw[h6,Qw,C0];(have e7:(cond neg (some (Qr (-1-(n:Int)))) (some (n:Int)):Option Int)=some (if neg then -1-(n:Int)else n):=by cases neg with|false=>rfl|true=>rw[Cf rfl,C5,Jh (by omega) (by omega)]);unfold Qmu;cases h43:GK 43 (s.drop k5)with|none=>(simp only[CT,C6,C0,Pk];rw[e7,C0,Qlp,C0,Qbn,Qw,C0];refine⟨_,k5,b4,_,Z,hk5,Qkk _ _,hb4,λhf=>?_⟩;subst hf;cases hq:WC (s.drop k3)with|none=>rw[hq]at hm4;exact hm4|some q=>obtain⟨v,r⟩:=q;rw[hq]at hm4;obtain⟨m1,m2,m3⟩:=hm4;subst m1 m2;dsimp only;rw[hd5,m3]at h43;rw[h43];dsimp only;refine⟨rfl,rfl,?_,by rw[hd5,m3,Qzy]⟩;by_cases he:e=0;rw[Cf ⟨he,rfl⟩,Cf he];rw[Ca (λh=>he h.1),Ca he])|some r2=>obtain⟨hk6,hd6⟩:=hr6 r2 h43;simp only[P5,C5];obtain⟨k7,h7,hk7,hd7⟩:=Zw hs hk6 b4 e;obtain⟨p,k8,b8,h8,hk8,hn8,hb8,hm8⟩:=Qbo hs hk7 b4 e;obtain⟨k9,h9,hk9,hd9⟩:=Zw hs hk8 b8 e;rw[h7,Qw,C0];dsimp only;rw[h8,Qw,C0];dsimp only;rw[h9,Qw];simp only[C0];rw[e7,C0,Qlp,C0,Qbn,Qw,C0];refine⟨_,k9,b8,_,Z,hk9,Qkk _ _,λh=>hb8 (hb4 h),λhf=>?_⟩;subst hf;cases hq:WC (s.drop k3)with|none=>rw[hq]at hm4;exact hb8 hm4|some q=>obtain⟨v,r⟩:=q;rw[hq]at hm4;obtain⟨m1,m2,m3⟩:=hm4;subst m1 m2;dsimp only;rw[hd5,m3]at h43;rw[h43];dsimp only;rw[hd7,hd6]at hm8;cases hq8:WC (sp r2)with|none=>rw[hq8]at hm8;exact hm8|some q8=>obtain⟨v8,r8⟩:=q8;rw[hq8]at hm8;obtain⟨m4,m5,m6⟩:=hm8;subst m4 m5;dsimp only;refine⟨rfl,rfl,?_,by rw[hd9,m6]⟩;by_cases he:e=0;rw[Cf ⟨he,rfl⟩,Cf he];rw[Ca (λh=>he h.1),Ca he]
 obtain⟨k1,h1,hk1,hd1⟩:=Zw hs hk bad e;obtain⟨h2,hr2⟩:=Wa hs hk1 63 (ci:=63) rfl bad e;unfold Qic;rw[h1,Qw,C0];dsimp only;rw[h2,Qw,C0];rw[<-hd1];unfold Zf;cases h63:GK 63 (s.drop k1)with|some t'=>(obtain⟨hk2,hd2⟩:=hr2 t' h63;(have h117:GK 117 (s.drop k1)=none:=by rw[Yg h63];rfl);simp only[P5,Pf,C6,C0,C5,h117];have a:=var (k1+1) true hk2;rw[hd2]at a;simp only[C5]at a;exact a)|none=>obtain⟨h3,hr3⟩:=Wa hs hk1 117 (ci:=117) rfl bad e;simp only[CT,CY,C5,C6,Pk];rw[h3,Qw,C0];cases h117:GK 117 (s.drop k1)with|some t'=>(obtain⟨hk2,hd2⟩:=hr3 t' h117;simp only[P5,Pf,C6,C0,C5];have a:=var (k1+1) false hk2;rw[hd2]at a;simp only[C6]at a;exact a)|none=>simp only[CT,CY,C5,C6,Pk,C0];obtain⟨n,k4,b4,h4,hk4,hn4,hb4,hm4⟩:=Qbo hs hk1 bad e;obtain⟨k5,h5,hk5,hd5⟩:=Zw hs hk4 b4 e;rw[h4,Qw,C0];dsimp only;rw[h5,Qw,C0,Qxc,C0,Qbn,Qw,C0];refine⟨_,k5,b4,_,Z,hk5,⟨(Q1f _).c,(Q1f _).v,(Q1f _).wf,(Q1f _).tr⟩,hb4,λhf=>?_⟩;subst hf;cases hq:WC (s.drop k1)with|none=>rw[hq]at hm4;exact hm4|some q=>obtain⟨v,r⟩:=q;rw[hq]at hm4;obtain⟨m1,m2,m3⟩:=hm4;subst m1 m2;dsimp only;refine⟨rfl,rfl,?_,by rw[hd5,m3]⟩;by_cases he:e=0;rw[Cf ⟨he,rfl⟩,Cf he];rw[Ca (λh=>he h.1),Ca he]
def Q56(n:Nat)(t:Bs):Option (List (Lvl×Int)×Bs):=match GK 44 t with|none=>some ([],t)|some r2=>KS n r2
theorem Q8p(n:Nat)(t:Bs):KS (n+1) t=match Zf (sp t)with
  |none=>none
  |some (x,r)=>match Q56 n (sp r)with
   |none=>none
   |some (xs,r3)=>some (x::xs,r3):=by
 rw[KS]
 cases Zf (sp t)with
 |none=>rfl
 |some q=>
  obtain⟨x,r⟩:=q
  dsimp only
  unfold Q56
  cases GK 44 (sp r)with
  |none=>rfl
  |some r2=>rfl
theorem Qns(n:Nat)(t:Bs):Q56 (n+1) t=match GK 44 t with
  |none=>some ([],t)
  |some r2=>match Zf (sp r2)with
   |none=>none
   |some (x,r)=>match Q56 n (sp r)with
    |none=>none
    |some (xs,r3)=>some (x::xs,r3):=by
 show(match GK 44 t with
  |none=>some ([],t)
  |some r2=>KS (n+1) r2)=_
 cases GK 44 t with
 |none=>rfl
 |some r2=>exact Q8p n r2
def Q5n:(List UInt8)×Int×Bool×Int×Int×(List LV)->Option (LO ((List UInt8)×Int×Bool×Int×Int×(List LV)) ((List UInt8)×Int×Bool×Int×Int×(List LV))):=λs84=>Option.bind (cond ((!s84.2.2.1)) (Option.bind (QH (Q60 (LRd.mk s84.1 s84.2.1 s84.2.2.1 s84.2.2.2.1) 44)) λ(r89:LRd×Bool)=>some (r89.2,r89.1.s,r89.1.at_,r89.1.bad,r89.1.e)) (some (false,s84.1,s84.2.1,s84.2.2.1,s84.2.2.2.1))) λ(v88:Bool×(List UInt8)×Int×Bool×Int)=>cond v88.1 (Option.bind (QH (Qic (LRd.mk v88.2.1 v88.2.2.1 v88.2.2.2.1 v88.2.2.2.2))) λ(r91:LRd×Lvl)=>Option.bind (Qt1 (Lvl.mk s84.2.2.2.2.1 s84.2.2.2.2.2) r91.2) λ(x93:Lvl)=>some (.next (r91.1.s,r91.1.at_,r91.1.bad,r91.1.e,x93.c,x93.vs))) (some (.done (v88.2.1,v88.2.2.1,v88.2.2.2.1,v88.2.2.2.2,s84.2.2.2.2.1,s84.2.2.2.2.2)))
theorem J01(s:Bs)(k e c:Int)(vs:List LV)(n:Nat):Qc Q5n (n+1) (s,k,true,e,c,vs)=some (s,k,true,e,c,vs):=by rw[Qc];rfl
theorem Qrl(s:Bs)(k e c:Int)(vs:List LV):Qc Q5n Qf (s,k,true,e,c,vs)=some (s,k,true,e,c,vs):=by unfold Qf;exact J01 _ _ _ _ _ _
theorem Qrg{s:Bs}(hs:s.length<=100000):∀(n k:Nat)(e:Int)(L:Lvl)(fuel:Nat),k<=s.length->s.length-k<=n->n+3<=fuel->WF L.vs->∃(k':Nat)(b:Bool)(e':Int)(L':Lvl),k'<=s.length/\Qc Q5n fuel (s,(k:Int),false,e,L.c,L.vs)=some (s,(k':Int),b,e',L'.c,L'.vs)/\match Q56 (n+1) (s.drop k)with
  |some (xs,r)=>s.drop k'=r/\b=false/\e'=ZA e xs/\L'=Xd L xs
  |none=>b=true:=by
 intro n
 induction n with
 |zero=>
  intro k e L fuel hk hn hf hw
  have h0:s.drop k=[]:=P1 (by omega)
  obtain⟨f,rfl⟩:∃f,fuel=f+1:=⟨fuel-1,by omega⟩
  obtain⟨h1,-⟩:=Wa hs hk 44 (ci:=44) rfl false e
  rw[h0]at h1
  rw[Qc]
  unfold Q5n
  dsimp only
  rw[CY,C5,h1,Qw,C0]
  refine⟨k,false,e,L,hk,Z,?_⟩
  rw[h0]
  exact⟨Z,Z,Z,Z⟩
 |succ n ih=>
  intro k e L fuel hk hn hf hw
  obtain⟨f,rfl⟩:∃f,fuel=f+1:=⟨fuel-1,by omega⟩
  obtain⟨h1,hr1⟩:=Wa hs hk 44 (ci:=44) rfl false e
  rw[Qc,Qns]
  cases h44:GK 44 (s.drop k)with
  |none=>
   rw[h44]at h1
   unfold Q5n
   dsimp only
   rw[CY,C5,h1,Qw,C0]
   exact⟨k,false,e,L,hk,Z,Z,Z,Z,Z⟩
  |some r2=>
   obtain⟨hk2,hd2⟩:=hr1 r2 h44
   rw[h44]at h1
   obtain⟨L2,k',bad',e',a1,a2,a3,a4,a5⟩:=Q4k hs hk2 false e
   have st:Q5n (s,(k:Int),false,e,L.c,L.vs)=some (.next (s,(k':Int),bad',e',(ZW L L2).c,(ZW L L2).vs)):=by
    unfold Q5n
    dsimp only
    rw[CY,C5,h1,Qw,C0]
    dsimp only[Option.isSome_some,cond_true,Option.bind_some]
    rw[a1,Qw,C0]
    dsimp only
    rw[Qxg (A:=⟨L.c,L.vs⟩) hw.len a3.wf.len]
    rfl
   rw[st]
   dsimp only
   have a6:=a5 rfl
   rw[hd2]at a6
   cases hp:Zf (sp r2)with
   |none=>
    rw[hp]at a6
    have hb:bad'=true:=a6
    subst hb
    obtain⟨f',rfl⟩:∃f',f=f'+1:=⟨f-1,by omega⟩
    exact⟨k',true,e',ZW L L2,a2,J01 _ _ _ _ _ _,Z⟩
   |some q=>
    obtain⟨x,r⟩:=q
    rw[hp]at a6
    obtain⟨b1,b2,b3,b4⟩:=a6
    subst b1 b2 b3
    have l1:=Xm hp
    have l2:=Yr r2
    have l3:r2.length=s.length-(k+1):=by rw[<-hd2,Cq]
    have l4:(sp r).length<=r.length:=Yr r
    have l5:s.length-k'=(sp r).length:=by rw[<-b4,Cq]
    obtain⟨k3,b3,e3,L3,c1,c2,c3⟩:=ih k' (if e=0 then x.2 else e) (ZW L x.1) f a2 (by omega) (by omega) (Qvr hw a3.wf)
    refine⟨k3,b3,e3,L3,c1,c2,?_⟩
    rw[b4]at c3
    dsimp only
    cases ht:Q56 (n+1) (sp r)with
    |none=>rw[ht]at c3;exact c3
    |some q=>rw[ht]at c3;exact c3
theorem Ql6(t:Bs):Lib.hasPrefix t [109,97,120]=(t.take 3==([109,97,120]:Bs)):=by
 unfold Lib.hasPrefix;rcases t with _|⟨a,_|⟨b,_|⟨c,t⟩⟩⟩;rfl;show((109==a)&&List.isPrefixOf [97,120] [])=_;simp[List.isPrefixOf];show((109==a)&&((97==b)&&List.isPrefixOf [120] []))=_;simp[List.isPrefixOf];show((109==a)&&((97==b)&&((120==c)&&List.isPrefixOf [] t)))=([a,b,c]==[109,97,120]);rw[List.isPrefixOf];have e:∀x y:UInt8,(x==y)=(y==x):=λx y=>by rw[Bool.eq_iff_iff,P3,P3];exact⟨Eq.symm,Eq.symm⟩
 rw[e 109 a,e 97 b,e 120 c];show _=((a==109)&&((b==97)&&((c==120)&&([]==([]:Bs)))));rfl
theorem Qcj{s:Bs}{k:Nat}(hk:k<=s.length):decide ((k:Int)<s.length)=!(decide (s.drop k=[])):=by rw[Bool.eq_iff_iff,CZ,PW,decide_eq_false_iff_not,List.drop_eq_nil_iff];omega
theorem Ql0{s:Bs}(bad:Bool)(L:Lvl)(e:Int){k:Nat}(hk:k<=s.length):(Option.bind (cond bad (some true) (some (decide ((k:Int)<s.length)))) λv5=>cond v5 (some ((⟨0,[]⟩:Lvl),(4:Int))) (cond (e != 0) (some ((⟨0,[]⟩:Lvl),e)) (some ((⟨L.c,L.vs⟩:Lvl),(0:Int))))) = some (if bad=false/\s.drop k=[]then(if e=0 then(L,0)else(⟨0,[]⟩,e))else(⟨0,[]⟩,4)):=by rw[Qcj hk];cases bad with|true=>rfl|false=>by_cases h:s.drop k=[];rw[C4 h,Cf ⟨rfl,h⟩];by_cases he:e=0;subst he;rfl;rw[Ca he,show(e != 0)=true by simp[he]];rfl;rw[C3 h,Ca (λq=>h q.2)];rfl
theorem Qxk{s:Bs}(hs:s.length<=65536):Qxl s=some (YP s):=by
 have hs':s.length<=100000:=by omega
 unfold Qxl YP Q5r;rw[C3 (by omega:¬(65536:Int)<s.length),C6];obtain⟨k1,h1,hk1,hd1⟩:=Zw hs' (Cd _) false 0;rw[Pp]at hd1;have h1':UQ (LRd.mk s 0 false 0)=some (.inl (⟨s,(k1:Int),false,0⟩,())):=h1;rw[h1',Qw,C0];dsimp only;rw[Jh (n:=(k1:Int)+3) (by omega) (by omega)];have hmax:(cond (decide ((k1:Int)+3<=s.length)) (Qa (cond (decide (0<=(k1:Int))) (cond (Nat.ble (k1:Int).toNat ((k1:Int)+3).toNat) (WE ((k1:Int)+3) s.length) false) false) (some (((s.take ((k1:Int)+3).toNat).drop (k1:Int).toNat)==([109,97,120]:Bs)))) (some false))=some (Lib.hasPrefix (sp s) [109,97,120]):=by rw[Ql6,<-hd1];(have e3:((k1:Int)+3).toNat=k1+3:=by omega);by_cases h:(k1:Int)+3<=s.length;rw[C4 h,C5,C4 (by omega),e3,Cu,D7 (by omega),show WE ((k1:Int)+3) s.length=true by unfold WE;rw[C4 (by omega),e3];exact D7 (by omega)];show some _=some _;rw[List.drop_take];congr 2;rw[show k1+3-k1=3 by omega];rw[C3 h,C6];congr 1;symm;cases hq:((s.drop k1).take 3==([109,97,120]:Bs))with|false=>rfl|true=>have:=congrArg List.length (eq_of_beq hq);rw[CH,Cq]at this;simp at this;omega
 rw[hmax,C0];cases hp:Lib.hasPrefix (sp s) [109,97,120]with|true=>(rw[Cf rfl,C5];(have hlen:k1+3<=s.length:=by rw[Ql6,<-hd1]at hp;have:=congrArg List.length (eq_of_beq hp);rw[CH,Cq]at this;simp at this;omega);obtain⟨k2,h2,hk2,hd2⟩:=Zw hs' hlen false 0;rw[<-List.drop_drop,hd1]at hd2;have h2':UQ (LRd.mk s ((k1:Int)+3) false 0)=some (.inl (⟨s,(k2:Int),false,0⟩,())):=h2;rw[h2',Qw,C0];dsimp only;obtain⟨h3,hr3⟩:=Wa hs' hk2 40 (ci:=40) rfl false 0;rw[h3,Qw,C0,hd2];dsimp only;cases h40:GK 40 (sp ((sp s).drop 3))with|none=>(simp only[CT,C6,Pk,CY];obtain⟨L,k3,b3,e3,a1,a2,a3,a4,a5⟩:=Q4k hs' hk2 true 0;have hb:=a4 rfl;subst hb;rw[a1,Qw,C0];dsimp only;refine DH (Qrl _ _ _ _ _) ?_;dsimp only;rw[C5,C0];dsimp only;obtain⟨k4,h4,hk4,-⟩:=Zw hs' a2 true e3;rw[h4];rfl)|some t=>obtain⟨hk3,hd3⟩:=hr3 t (by rw[hd2];exact h40);simp only[P5,C5,Pf];obtain⟨L,k4,b4,e4,a1,a2,a3,a4,a5⟩:=Q4k hs' hk3 false 0;have a6:=a5 rfl;rw[hd3]at a6;rw[a1,Qw,C0];dsimp only;(have lt:t.length<=s.length:=by rw[<-hd3,Cq];omega);obtain⟨n,hn⟩:∃n,s.length=n+1:=⟨s.length-1,by omega⟩;rw[Q8p];cases hq:Zf (sp t)with|none=>(rw[hq]at a6;have hb:b4=true:=a6;subst hb;refine DH (Qrl _ _ _ _ _) ?_;dsimp only;rw[C5,C0];dsimp only;obtain⟨k5,h5,hk5,-⟩:=Zw hs' a2 true e4;rw[h5];rfl)|some q=>obtain⟨x,r⟩:=q;rw[hq]at a6;obtain⟨c1,c2,c3,c4⟩:=a6;subst c1 c2 c3;rw[Cf rfl];dsimp only;obtain⟨k5,b5,e5,L5,hk5,ho,ho'⟩:=Qrg hs' n k4 x.2 x.1 Qf a2 (by have l1:=Xm hq;have l2:=Yr t;have l3:=Yr r;(have l4:s.length-k4=(sp r).length:=by rw[<-c4,Cq]);(have l5:t.length=s.length-(k2+1):=by rw[<-hd3,Cq]);omega) (by unfold Qf;omega) a3.wf;refine DH ho ?_;rw[c4,<-hn]at ho';dsimp only;cases ht:Q56 s.length (sp r)with|none=>(rw[ht]at ho';have hb:b5=true:=ho';subst hb;rw[C5,C0];dsimp only;obtain⟨k6,h6,hk6,-⟩:=Zw hs' hk5 true e5;rw[h6];rfl)|some q=>obtain⟨xs,r3⟩:=q;rw[ht]at ho';obtain⟨hd5,hb,he5,hL5⟩:=ho';subst hb he5 hL5;dsimp only;obtain⟨h6,hr6⟩:=Wa hs' hk5 41 (ci:=41) rfl false (ZA x.2 xs);rw[C6,h6,Qw,hd5];cases h41:GK 41 r3 with|none=>(simp only[CT,C6,Pk,C0,CY];obtain⟨k6,h7,hk6,-⟩:=Zw hs' hk5 true (ZA x.2 xs);rw[h7];rfl)|some r4=>obtain⟨hk7,hd7⟩:=hr6 r4 (by rw[hd5];exact h41);simp only[P5,C5,C0,Pf];obtain⟨k8,h8,hk8,hd8⟩:=Zw hs' hk7 false (ZA x.2 xs);rw[h8,Qw,C0];refine Eq.trans (Ql0 false (Xd x.1 xs) (ZA x.2 xs) hk8) ?_;rw[hd8,hd7];by_cases hz:sp r4=[];rw[Cf ⟨rfl,hz⟩,Cf hz];rfl;rw[Ca (λh=>hz h.2),Ca hz])|false=>rw[Ca Cp,C6];obtain⟨L,k4,b4,e4,a1,a2,a3,a4,a5⟩:=Q4k hs' hk1 false 0;have a6:=a5 rfl;rw[hd1,Qzy]at a6;rw[a1];simp only[C0,Qw];cases hq:Zf (sp s)with|none=>rw[hq]at a6;have hb:b4=true:=a6;subst hb;rfl|some q=>obtain⟨x,r⟩:=q;rw[hq]at a6;obtain⟨c1,c2,c3,c4⟩:=a6;subst c1 c2;rw[Cf rfl]at c3;subst c3;dsimp only;refine Eq.trans (Ql0 false x.1 x.2 a2) ?_;rw[c4];by_cases hz:sp r=[];rw[Cf ⟨rfl,hz⟩,Cf hz];rfl;rw[Ca (λh=>hz h.2),Ca hz]
end
section
open Go.RowKit
set_option maxRecDepth 100000
def Jbb(rc:Tm×Int->Option (Int))(a0:Tm)(a1:Int):Option (Int):=Option.bind (Qc (σ:=Int×Int) (β:=Int) (λs5=>Option.bind (cond ((decide (s5.2<(a0.levels.length:Int)))) (some (decide (0<=s5.1))) (some false)) λ(v7:Bool)=>cond v7 (Option.bind (QP a0.levels s5.2) λ(x8:Lvl)=>some (.next ((Qr (s5.1-(x8.vs.length:Int))),(Qr (s5.2+1))))) (some (.done s5.1))) Qf ((Qr ((Qr (a1-1))-(a0.levels.length:Int))),0)) λ(v6:Int)=>Option.bind (Qc (σ:=Int×Int) (β:=Int) (λs15=>Option.bind (cond ((decide (s15.2<(a0.kids.length:Int)))) (some (decide (0<=s15.1))) (some false)) λ(v17:Bool)=>cond v17 (Option.bind (QP a0.kids s15.2) λ(x18:Tm)=>Option.bind (rc (x18,s15.1)) λ(x19:Int)=>some (.next (x19,(Qr (s15.2+1))))) (some (.done s15.1))) Qf (v6,0)) λ(v16:Int)=>cond ((decide (100<(a0.name.length:Int)))) (some (-1)) (some v16)
def Jbc:Tm×Int->Option (Int):=Jm (λrc v=>Jbb rc v.1 v.2) Qf
def Jcz(a0:Tm)(a1:Int):Option (Int):=Jbc (a0,a1)
def Jco(a0:Tm)(a1:Int):Option (Bool):=Option.bind (Jcz a0 a1) λ(x1:Int)=>some (decide (0<=x1))
theorem J9t:Qd prog 12:=enters_of func12 (by kernel_rfl) rfl
def Qgs:Option (Bool):=Option.bind (Qdc ([40,32,108,97,109,10,112,114,111,112,32,35,48,32,41]:List UInt8)) λ(x1:Tm×Int×Int)=>Option.bind (Qlw x1.1) λ(x2:(List UInt8)×Int)=>Option.bind (Qdc ([40,97,112,112,32,102,41]:List UInt8)) λ(x3:Tm×Int×Int)=>Option.bind (Qdc ([35,48,49]:List UInt8)) λ(x4:Tm×Int×Int)=>Option.bind (cond ((x1.2.2==0)) (cond ((x2.2==0)) (cond ((x2.1==([40,108,97,109,32,112,114,111,112,32,35,48,41]:List UInt8))) (cond ((x3.2.1==6)) (cond ((x3.2.2==4)) (cond ((x4.2.1==0)) (some (x4.2.2==4)) (some false)) (some false)) (some false)) (some false)) (some false)) (some false)) λ(v5:Bool)=>some v5
def k12:KF UV:=⟨[],[.bool],λv=>Qgs⟩
def Jdz:Hints UV:=⟨[(5,⟨[([.reg 0],.bool)],[],false⟩)],[]⟩
theorem J3k:Jv DV W0 prog 12 k12:=JD (C:=CV) rfl Qu Qg (Qt (tb:=[(13,k13),(15,k15)]) Qg ⟨Qiw,Qtl,trivial⟩) J2 func12 J9t Jdz k12 rfl (λv=>by kernel_rfl)
def m3(a0:Tm):Option (Bool):=Option.bind (Jco a0 200) λ(x1:Bool)=>cond ((!x1)) (Option.bind (Qgs) λ(x2:Bool)=>some x2) (Option.bind (Qlw a0) λ(x3:(List UInt8)×Int)=>Option.bind (J2l a0) λ(x4:(List UInt8)×Int)=>Option.bind (Option.bind (Qgs) λ(x7:Bool)=>cond x7 (cond ((x3.1==x4.1)) (some (x3.2==x4.2)) (some false)) (some false)) λ(v6:Bool)=>some v6)
def k3:KF UV:=⟨[.stc .t25],[.bool],λv=>m3 v⟩
def H3:Hints UV:=⟨[(6,⟨[([.reg 2],.bool)],[],false⟩)],[]⟩
end
section
open Go.RowKit
set_option maxRecDepth 100000
theorem J4s:Qd prog 128:=enters_of func128 (by kernel_rfl) rfl
def Qig(a0:Int):Option (Bool):=Option.bind (cond ((decide (97<=a0))) (cond ((decide (a0<=122))) (some true) (cond ((decide (65<=a0))) (cond ((decide (a0<=90))) (some true) (cond ((decide (48<=a0))) (cond ((decide (a0<=57))) (some true) (cond ((a0==95)) (some true) (cond ((a0==39)) (some true) (some (a0==46))))) (cond ((a0==95)) (some true) (cond ((a0==39)) (some true) (some (a0==46)))))) (cond ((decide (48<=a0))) (cond ((decide (a0<=57))) (some true) (cond ((a0==95)) (some true) (cond ((a0==39)) (some true) (some (a0==46))))) (cond ((a0==95)) (some true) (cond ((a0==39)) (some true) (some (a0==46))))))) (cond ((decide (65<=a0))) (cond ((decide (a0<=90))) (some true) (cond ((decide (48<=a0))) (cond ((decide (a0<=57))) (some true) (cond ((a0==95)) (some true) (cond ((a0==39)) (some true) (some (a0==46))))) (cond ((a0==95)) (some true) (cond ((a0==39)) (some true) (some (a0==46)))))) (cond ((decide (48<=a0))) (cond ((decide (a0<=57))) (some true) (cond ((a0==95)) (some true) (cond ((a0==39)) (some true) (some (a0==46))))) (cond ((a0==95)) (some true) (cond ((a0==39)) (some true) (some (a0==46))))))) λ(v1:Bool)=>some v1
def k128:KF UV:=⟨[.int .u8],[.bool],λv=>Qig v⟩
def Jcd:Hints UV:=⟨[(1,⟨[([.reg 2],.bool)],[],false⟩)],[]⟩
theorem Qyn:Jv DV W0 prog 128 k128:=JD (C:=CV) rfl Qu Qg (Qt (tb:=[]) Qg trivial) J2 func128 J4s Jcd k128 rfl (λv=>by kernel_rfl)
theorem J4r:Qd prog 129:=enters_of func129 (by kernel_rfl) rfl
def Qow(a0:List UInt8):Option (Int×Bool):=Option.bind (cond ((a0==([]:List UInt8))) (some true) (cond ((decide (6<(a0.length:Int)))) (some true) (cond ((decide (1<(a0.length:Int)))) (Option.bind (QP a0 0) λ(x3:UInt8)=>some ((x3.toNat:Int)==48)) (some false)))) λ(v2:Bool)=>cond v2 (some (0,false)) (Option.bind (Qc (σ:=Int×Int) (β:=Int⊕(Int×Bool)) (λs16=>cond ((decide (s16.2<(a0.length:Int)))) (Option.bind (Option.bind (QP a0 s16.2) λ(x21:UInt8)=>cond ((decide ((x21.toNat:Int)<48))) (some true) (Option.bind (QP a0 s16.2) λ(x22:UInt8)=>some (decide (57<(x22.toNat:Int))))) λ(v20:Bool)=>cond v20 (some (.done (.inr (0,false)))) (Option.bind (QP a0 s16.2) λ(x23:UInt8)=>some (.next ((Qr ((Qr (10*s16.1))+(IntKind.wrap .i64 (IntKind.wrap .u8 ((x23.toNat:Int)-48))))),(Qr (s16.2+1)))))) (some (.done (.inl s16.1)))) Qf (0,0)) (Sum.elim (λ(v17:Int)=>some (v17,true)) (λ(o24:Int×Bool)=>some o24)))
def k129:KF UV:=⟨[.str],[.int .i64,.bool],λv=>Qow v⟩
def Jcc:Hints UV:=⟨[(1,⟨[([.reg 22],.bool)],[],false⟩),(6,⟨[([.reg 4],.int .i64),([.reg 5],.int .i64)],[([.reg 4],.int .i64)],true⟩),(10,⟨[([.reg 38],.bool)],[],false⟩)],[]⟩
theorem Qmj:Jv DV W0 prog 129 k129:=JD (C:=CV) rfl Qu Qg (Qt (tb:=[]) Qg trivial) J2 func129 J4r Jcc k129 rfl (λv=>by kernel_rfl)
theorem J8q:Qd prog 80:=enters_of func80 (by kernel_rfl) rfl
def Qvo(b:RRd):Option ((RRd×Tkn)⊕(Unit×RRd)):=cond b.bad (some (.inl (b,(Tkn.mk ([]:List UInt8) b.at_)))) (Option.bind (Qc (σ:=Int) (β:=Int) (λs28=>Option.bind (cond ((decide (s28<(b.s.length:Int)))) (Option.bind (QP b.s s28) λ(x35:UInt8)=>cond (((x35.toNat:Int)==32)) (some ((),(),(),s28,(),(),(),b.s,(b.s.length:Int),(decide (s28<(b.s.length:Int))),true,true)) (Option.bind (QP b.s s28) λ(x36:UInt8)=>cond (((x36.toNat:Int)==9)) (some ((),(),(),s28,(),(),(),b.s,(b.s.length:Int),(decide (s28<(b.s.length:Int))),true,true)) (Option.bind (QP b.s s28) λ(x37:UInt8)=>cond (((x37.toNat:Int)==13)) (some ((),(),(),s28,(),(),(),b.s,(b.s.length:Int),(decide (s28<(b.s.length:Int))),true,true)) (Option.bind (QP b.s s28) λ(x38:UInt8)=>some ((),(),(),s28,(),(),(),b.s,(b.s.length:Int),(decide (s28<(b.s.length:Int))),true,((x38.toNat:Int)==10)))))) (some ((),(),(),s28,(),(),(),b.s,(b.s.length:Int),(decide (s28<(b.s.length:Int))),false,false))) λ(v34:Unit×Unit×Unit×Int×Unit×Unit×Unit×(List UInt8)×Int×Bool×Bool×Bool)=>cond v34.2.2.2.2.2.2.2.2.2.2.2 (some (.next (Qr (s28+1)))) (some (.done s28))) Qf b.at_) λ(v29:Int)=>cond ((v29==(b.s.length:Int))) (some (.inl ((RRd.mk b.s v29 b.bad),(Tkn.mk ([]:List UInt8) v29)))) (Option.bind (QP b.s v29) λ(x39:UInt8)=>Option.bind (cond (((x39.toNat:Int)==40)) (some true) (some ((x39.toNat:Int)==41))) λ(v40:Bool)=>Option.bind (α:=Int⊕((RRd×Tkn)⊕(Unit×RRd))) (cond v40 (some (.inl (Qr (v29+1)))) (Option.bind (α:=Int⊕((RRd×Tkn)⊕(Unit×RRd))) (cond (((x39.toNat:Int)==91)) (Option.bind (Qc (σ:=Int) (β:=Int) (λs321=>Option.bind (cond ((decide (s321<(b.s.length:Int)))) (Option.bind (QP b.s s321) λ(x325:UInt8)=>some ((x325.toNat:Int)!=93)) (some false)) λ(v324:Bool)=>cond v324 (some (.next (Qr (s321+1)))) (some (.done s321))) Qf (Qr (v29+1))) λ(v322:Int)=>cond ((v322==(b.s.length:Int))) (some (.inr (.inl ((RRd.mk b.s v29 true),(Tkn.mk ([]:List UInt8) v29))))) (some (.inl (Qr (v322+1))))) (Option.bind (cond (((x39.toNat:Int)==35)) (some true) (some ((x39.toNat:Int)==63))) λ(v326:Bool)=>Option.bind (α:=Int⊕((RRd×Tkn)⊕(Unit×RRd))) (cond v326 (Option.bind (Qc (σ:=Int) (β:=Int) (λs376=>Option.bind (cond ((decide (s376<(b.s.length:Int)))) (Option.bind (QP b.s s376) λ(x381:UInt8)=>Option.bind (Qig (x381.toNat:Int)) λ(x382:Bool)=>some x382) (some false)) λ(v380:Bool)=>cond v380 (some (.next (Qr (s376+1)))) (some (.done s376))) Qf (Qr (v29+1))) λ(v377:Int)=>Qa (cond (decide (0<=(Qr (v29+1)))) (cond (Nat.ble (Qr (v29+1)).toNat v377.toNat) (WE v377 b.s.length) false) false) (Option.bind (Qow (List.drop (Qr (v29+1)).toNat (List.take v377.toNat b.s))) λ(x383:Int×Bool)=>cond ((!x383.2)) (some (.inr (.inl ((RRd.mk b.s v29 true),(Tkn.mk ([]:List UInt8) v29))))) (some (.inl v377)))) (Option.bind (Qig (x39.toNat:Int)) λ(x384:Bool)=>cond x384 (Option.bind (Qc (σ:=Int) (β:=Int) (λs395=>Option.bind (cond ((decide (s395<(b.s.length:Int)))) (Option.bind (QP b.s s395) λ(x400:UInt8)=>Option.bind (Qig (x400.toNat:Int)) λ(x401:Bool)=>some x401) (some false)) λ(v399:Bool)=>cond v399 (some (.next (Qr (s395+1)))) (some (.done s395))) Qf (Qr (v29+1))) λ(v396:Int)=>Qa (cond (decide (0<=v29)) (cond (Nat.ble v29.toNat v396.toNat) (WE v396 b.s.length) false) false) (Option.bind (Qow (List.drop v29.toNat (List.take v396.toNat b.s))) λ(x402:Int×Bool)=>Option.bind (cond ((decide (48<=(x39.toNat:Int)))) (cond ((decide ((x39.toNat:Int)<=57))) (some (!x402.2)) (some false)) (some false)) λ(v403:Bool)=>cond v403 (some (.inr (.inl ((RRd.mk b.s v29 true),(Tkn.mk ([]:List UInt8) v29))))) (some (.inl v396)))) (some (.inr (.inl ((RRd.mk b.s v29 true),(Tkn.mk ([]:List UInt8) v29))))))) (Sum.elim (λ(v365:Int)=>some (.inl v365)) (λ(o404:(RRd×Tkn)⊕(Unit×RRd))=>some (.inr o404))))) (Sum.elim (λ(v314:Int)=>some (.inl v314)) (λ(o405:(RRd×Tkn)⊕(Unit×RRd))=>some (.inr o405))))) (Sum.elim (λ(v223:Int)=>Qa (cond (decide (0<=v29)) (cond (Nat.ble v29.toNat v223.toNat) (WE v223 b.s.length) false) false) (some (.inl ((RRd.mk b.s v29 b.bad),(Tkn.mk (List.drop v29.toNat (List.take v223.toNat b.s)) v29))))) (λ(o406:(RRd×Tkn)⊕(Unit×RRd))=>some o406))))
def k80:PF UV:=⟨.stc 77 .t77,[],[.stc .t137],.p0 77,λb v=>Qvo b⟩
def Jda:Hints UV:=⟨[(4,⟨[([.at 0 1],.int .i64)],[([.at 0 1],.int .i64)],false⟩),(5,⟨[([.reg 18],.ptr 0 0),([.reg 19],.ptr 0 0),([.reg 20],.ptr 0 1),([.reg 21],.int .i64),([.reg 22],.ptr 0 0),([.reg 23],.ptr 0 0),([.reg 24],.ptr 0 0),([.reg 25],.str),([.reg 26],.int .i64),([.reg 27],.bool),([.reg 28],.bool),([.reg 75],.bool)],[],false⟩),(15,⟨[([.reg 120],.bool)],[],false⟩),(16,⟨[([.reg 4],.int .i64)],[],true⟩),(18,⟨[([.reg 4],.int .i64)],[],true⟩),(19,⟨[([.reg 4],.int .i64)],[([.reg 4],.int .i64)],false⟩),(20,⟨[([.reg 145],.bool)],[],false⟩),(29,⟨[([.reg 165],.bool)],[],false⟩),(30,⟨[([.reg 4],.int .i64)],[],true⟩),(31,⟨[([.reg 4],.int .i64)],[([.reg 4],.int .i64)],false⟩),(32,⟨[([.reg 187],.bool)],[],false⟩),(43,⟨[([.reg 4],.int .i64)],[([.reg 4],.int .i64)],false⟩),(44,⟨[([.reg 233],.bool)],[],false⟩),(49,⟨[([.reg 259],.bool)],[],false⟩)],[(5,[]),(9,[]),(12,[]),(36,[]),(48,[]),(55,[15])]⟩
theorem Q1y:ZM DV W0 prog 80 k80:=YV (C:=CV) rfl Qu Qg (Qt (tb:=[(128,k128),(129,k129)]) Qg ⟨Qyn,Qmj,trivial⟩) J2 func80 J8q Jda k80 rfl rfl (λb v=>by kernel_rfl)
theorem J8o:Qd prog 82:=enters_of func82 (by kernel_rfl) rfl
def Qlk(b:RRd)(a1:List UInt8):Option ((RRd×Unit)⊕(Unit×RRd)):=Option.bind (QH (Qvo b)) λ(r1:RRd×Tkn)=>Option.bind (cond r1.1.bad (some true) (some (!(r1.2.text==a1)))) λ(v3:Bool)=>cond v3 (some (.inl ((RRd.mk r1.1.s r1.1.at_ true),()))) (some (.inl ((RRd.mk r1.1.s (Qr (r1.1.at_+(a1.length:Int))) r1.1.bad),())))
def k82:PF UV:=⟨.stc 77 .t77,[.str],[],.p0 77,λb v=>Qlk b v⟩
def Jd8:Hints UV:=⟨[(1,⟨[([.reg 16],.bool)],[],false⟩)],[]⟩
theorem J31:ZM DV W0 prog 82 k82:=YV (C:=CV) rfl Qu Qg (Qt (tb:=[]) Qg trivial) (JR (tb:=[(80,k80)]) Qg ⟨Q1y,trivial⟩) func82 J8o Jd8 k82 rfl rfl (λb v=>by kernel_rfl)
theorem J8l:Qd prog 85:=enters_of func85 (by kernel_rfl) rfl
def J0c(b:RRd)(a1:List UInt8):Option ((RRd×Bool)⊕(Unit×RRd)):=Option.bind (QH (Qvo b)) λ(r1:RRd×Tkn)=>Option.bind (cond ((!r1.1.bad)) (some (r1.2.text==a1)) (some false)) λ(v3:Bool)=>some (.inl (r1.1,v3))
def k85:PF UV:=⟨.stc 77 .t77,[.str],[.bool],.p0 77,λb v=>J0c b v⟩
def Jd5:Hints UV:=⟨[(2,⟨[([.reg 4],.bool)],[],false⟩)],[]⟩
theorem J2z:ZM DV W0 prog 85 k85:=YV (C:=CV) rfl Qu Qg (Qt (tb:=[]) Qg trivial) (JR (tb:=[(80,k80)]) Qg ⟨Q1y,trivial⟩) func85 J8l Jd5 k85 rfl rfl (λb v=>by kernel_rfl)
theorem J8m:Qd prog 84:=enters_of func84 (by kernel_rfl) rfl
def J7h(b:RRd):Option ((RRd×((List UInt8)))⊕(Unit×RRd)):=Option.bind (QH (Qvo b)) λ(r1:RRd×Tkn)=>Option.bind (cond r1.1.bad (some true) (Option.bind (J0b r1.2.text) λ(x5:Bool)=>some (!x5))) λ(v4:Bool)=>cond v4 (some (.inl ((RRd.mk r1.1.s r1.1.at_ true),([]:List UInt8)))) (some (.inl ((RRd.mk r1.1.s (Qr (r1.1.at_+(r1.2.text.length:Int))) r1.1.bad),r1.2.text)))
def k84:PF UV:=⟨.stc 77 .t77,[],[.str],.p0 77,λb v=>J7h b⟩
def Jd6:Hints UV:=⟨[(2,⟨[([.reg 15],.bool)],[],false⟩)],[(6,[10])]⟩
theorem Qtg:ZM DV W0 prog 84 k84:=YV (C:=CV) rfl Qu Qg (Qt (tb:=[(98,k98)]) Qg ⟨J2w,trivial⟩) (JR (tb:=[(80,k80)]) Qg ⟨Q1y,trivial⟩) func84 J8m Jd6 k84 rfl rfl (λb v=>by kernel_rfl)
theorem J8n:Qd prog 83:=enters_of func83 (by kernel_rfl) rfl
def J1o(b:RRd):Option ((RRd×Lvl)⊕(Unit×RRd)):=Option.bind (QH (Qvo b)) λ(r1:RRd×Tkn)=>Option.bind (cond r1.1.bad (some true) (cond ((decide ((r1.2.text.length:Int)<2))) (some true) (Option.bind (QP r1.2.text 0) λ(x5:UInt8)=>some ((x5.toNat:Int)!=91)))) λ(v4:Bool)=>cond v4 (some (.inl ((RRd.mk r1.1.s r1.1.at_ true),(Lvl.mk 0 ([]))))) (Qa (cond (decide (0<=(1:Int))) (cond (Nat.ble (1:Int).toNat (Qr ((r1.2.text.length:Int)-1)).toNat) (WE (Qr ((r1.2.text.length:Int)-1)) r1.2.text.length) false) false) (Option.bind (Qxl (List.drop (1:Int).toNat (List.take (Qr ((r1.2.text.length:Int)-1)).toNat r1.2.text))) λ(x6:Lvl×Int)=>cond ((x6.2 != 0)) (some (.inl ((RRd.mk r1.1.s r1.1.at_ true),(Lvl.mk 0 ([]))))) (some (.inl ((RRd.mk r1.1.s (Qr (r1.1.at_+(r1.2.text.length:Int))) r1.1.bad),x6.1)))))
def k83:PF UV:=⟨.stc 77 .t77,[],[.stc .t82],.p0 77,λb v=>J1o b⟩
def Jd7:Hints UV:=⟨[(2,⟨[([.reg 23],.bool)],[],false⟩)],[(11,[10])]⟩
theorem J30:ZM DV W0 prog 83 k83:=YV (C:=CV) rfl Qu Qg (Qt (tb:=[(130,k130)]) Qg ⟨Qym,trivial⟩) (JR (tb:=[(80,k80)]) Qg ⟨Q1y,trivial⟩) func83 J8n Jd7 k83 rfl rfl (λb v=>by kernel_rfl)
theorem J8p:Qd prog 81:=enters_of func81 (by kernel_rfl) rfl
def Jak(b:RRd)(a1:List UInt8):Option ((RRd×Tm)⊕(Unit×RRd)):=Qa (WE (1:Int) a1.length) (Option.bind (Qow (List.drop (1:Int).toNat a1)) λ(x1:Int×Bool)=>cond ((a1==([112,114,111,112]:List UInt8))) (some (.inl ((RRd.mk b.s (Qr (b.at_+(a1.length:Int))) b.bad),(Tm.mk 1 0 ([]:List UInt8) ([]) ([]))))) (Option.bind (QP a1 0) λ(x2:UInt8)=>cond (((x2.toNat:Int)==35)) (some (.inl ((RRd.mk b.s (Qr (b.at_+(a1.length:Int))) b.bad),(Tm.mk 0 x1.1 ([]:List UInt8) ([]) ([]))))) (Option.bind (QP a1 0) λ(x3:UInt8)=>cond (((x3.toNat:Int)==63)) (some (.inl ((RRd.mk b.s (Qr (b.at_+(a1.length:Int))) b.bad),(Tm.mk 12 x1.1 ([]:List UInt8) ([]) ([]))))) (Option.bind (QH (J7h b)) λ(r4:RRd×((List UInt8)))=>some (.inl (r4.1,(Tm.mk 3 0 r4.2 ([]) ([]))))))))
def k81:PF UV:=⟨.stc 77 .t77,[.str],[.stc .t25],.p0 77,λb v=>Jak b v⟩
def Jd9:Hints UV:=⟨[],[]⟩
theorem J32:ZM DV W0 prog 81 k81:=YV (C:=CV) rfl Qu Qg (Qt (tb:=[(129,k129)]) Qg ⟨Qmj,trivial⟩) (JR (tb:=[(84,k84)]) Qg ⟨Qtg,trivial⟩) func81 J8p Jd9 k81 rfl rfl (λb v=>by kernel_rfl)
theorem J8k:Qd prog 86:=enters_of func86 (by kernel_rfl) rfl
def J7g(a0:Int):Option (Int):=Option.bind (cond ((a0==8)) (some (a0==8)) (some (a0==11))) λ(v1:Bool)=>cond v1 (some 3) (Option.bind (cond ((a0==9)) (some (a0==9)) (some (a0==10))) λ(v2:Bool)=>cond v2 (some 1) (some 2))
def k86:KF UV:=⟨[.int .i64],[.int .i64],λv=>J7g v⟩
def Jd4:Hints UV:=⟨[(4,⟨[([.reg 4],.bool)],[],false⟩),(9,⟨[([.reg 7],.bool)],[],false⟩)],[]⟩
theorem J2y:Jv DV W0 prog 86 k86:=JD (C:=CV) rfl Qu Qg (Qt (tb:=[]) Qg trivial) J2 func86 J8k Jd4 k86 rfl (λv=>by kernel_rfl)
theorem J9d:Qd prog 38:=enters_of func38 (by kernel_rfl) rfl
def Qsu(rc:RRd×Unit->Option ((RRd×Tm)⊕(Unit×RRd)))(b:RRd):Option ((RRd×Tm)⊕(Unit×RRd)):=Option.bind (QH (Qvo b)) λ(r1:RRd×Tkn)=>Option.bind (cond r1.1.bad (some true) (some (r1.2.text==([]:List UInt8)))) λ(v3:Bool)=>cond v3 (some (.inl ((RRd.mk r1.1.s r1.1.at_ true),(Tm.mk 0 0 ([]:List UInt8) ([]) ([]))))) (cond ((!(r1.2.text==([40]:List UInt8)))) (Option.bind (QH (Jak r1.1 r1.2.text)) λ(r4:RRd×Tm)=>some (.inl (r4.1,r4.2))) (Option.bind (QH (Qlk r1.1 ([40]:List UInt8))) λ(r6:RRd×Unit)=>Option.bind (QH (Qvo r6.1)) λ(r8:RRd×Tkn)=>cond r8.1.bad (some (.inl (r8.1,(Tm.mk 0 0 ([]:List UInt8) ([]) ([]))))) (cond ((r8.2.text==([115,111,114,116]:List UInt8))) (Option.bind (QH (Qlk r8.1 r8.2.text)) λ(r10:RRd×Unit)=>Option.bind (QH (J1o r10.1)) λ(r12:RRd×Lvl)=>Option.bind (QH (Qlk r12.1 ([41]:List UInt8))) λ(r14:RRd×Unit)=>some (.inl (r14.1,(Tm.mk 2 0 ([]:List UInt8) ([r12.2]:List Lvl) ([]))))) (cond ((r8.2.text==([99,111,110,115,116]:List UInt8))) (Option.bind (QH (Qlk r8.1 r8.2.text)) λ(r16:RRd×Unit)=>Option.bind (QH (J7h r16.1)) λ(r18:RRd×((List UInt8)))=>Option.bind (Qc (σ:=(List UInt8)×Int×Bool×(List Lvl)) (β:=(List UInt8)×Int×Bool×(List Lvl)) (λs41=>Option.bind (cond ((!s41.2.2.1)) (Option.bind (QH (J0c (RRd.mk s41.1 s41.2.1 s41.2.2.1) ([41]:List UInt8))) λ(r46:RRd×Bool)=>cond ((!r46.2)) (some ((!r46.1.bad),r46.1.s,r46.1.at_,r46.1.bad)) (some (false,r46.1.s,r46.1.at_,r46.1.bad))) (some (false,s41.1,s41.2.1,s41.2.2.1))) λ(v45:Bool×(List UInt8)×Int×Bool)=>cond v45.1 (Option.bind (QH (J1o (RRd.mk v45.2.1 v45.2.2.1 v45.2.2.2))) λ(r48:RRd×Lvl)=>Qa (Nat.ble (s41.2.2.2.length+([r48.2]:List Lvl).length) 1000000000) (some (.next (r48.1.s,r48.1.at_,r48.1.bad,(s41.2.2.2++([r48.2]:List Lvl)))))) (some (.done (v45.2.1,v45.2.2.1,v45.2.2.2,s41.2.2.2)))) Qf (r18.1.s,r18.1.at_,r18.1.bad,([]:List Lvl))) λ(v42:(List UInt8)×Int×Bool×(List Lvl))=>Option.bind (QH (Qlk (RRd.mk v42.1 v42.2.1 v42.2.2.1) ([41]:List UInt8))) λ(r50:RRd×Unit)=>some (.inl (r50.1,(Tm.mk 3 0 r18.2 v42.2.2.2 ([]))))) (Option.bind (Qc (σ:=Int) (β:=Unit⊕((RRd×Tm)⊕(Unit×RRd))) (λs79=>cond ((decide (s79<=11))) (Option.bind (J1v s79) λ(x81:(List UInt8))=>cond ((!(r8.2.text==x81))) (some (.next (Qr (s79+1)))) (Option.bind (QH (Qlk r8.1 r8.2.text)) λ(r82:RRd×Unit)=>Option.bind (Qc (σ:=Int×(List UInt8)×Int×Bool×(List Tm)) (β:=(List UInt8)×Int×Bool×(List Tm)) (λs99=>Option.bind (Option.bind (J7g s79) λ(x103:Int)=>cond ((decide (s99.1<x103))) (some (!s99.2.2.2.1)) (some false)) λ(v102:Bool)=>cond v102 (Option.bind (QH (rc ((RRd.mk s99.2.1 s99.2.2.1 s99.2.2.2.1),()))) λ(r104:RRd×Tm)=>Qa (Nat.ble (s99.2.2.2.2.length+([r104.2]:List Tm).length) 1000000000) (some (.next ((Qr (s99.1+1)),r104.1.s,r104.1.at_,r104.1.bad,(s99.2.2.2.2++([r104.2]:List Tm)))))) (some (.done (s99.2.1,s99.2.2.1,s99.2.2.2.1,s99.2.2.2.2)))) Qf (0,r82.1.s,r82.1.at_,r82.1.bad,([]:List Tm))) λ(v100:(List UInt8)×Int×Bool×(List Tm))=>Option.bind (QH (Qlk (RRd.mk v100.1 v100.2.1 v100.2.2.1) ([41]:List UInt8))) λ(r106:RRd×Unit)=>some (.done (.inr (.inl (r106.1,(Tm.mk s79 0 ([]:List UInt8) ([]) v100.2.2.2))))))) (some (.done (.inl ())))) Qf 4) (Sum.elim (λ(v80:Unit)=>some (.inl ((RRd.mk r8.1.s r8.1.at_ true),(Tm.mk 0 0 ([]:List UInt8) ([]) ([]))))) (λ(o108:(RRd×Tm)⊕(Unit×RRd))=>some o108)))))))
def Jb6:RRd×Unit->Option ((RRd×Tm)⊕(Unit×RRd)):=Jm (λrc v=>Qsu rc v.1) Qf
def Jaq(b:RRd):Option ((RRd×Tm)⊕(Unit×RRd)):=Jb6 (b,())
def k38:PF UV:=⟨.stc 77 .t77,[],[.stc .t25],.p0 77,λb v=>Jaq b⟩
def Jdp:Hints UV:=⟨[(2,⟨[([.reg 20],.bool)],[],false⟩),(25,⟨[([.at 0 0],.str),([.at 0 1],.int .i64),([.at 0 2],.bool),([.at 6 3],.app 82 .t82)],[([.at 0 0],.str),([.at 0 1],.int .i64),([.at 0 2],.bool),([.at 6 3],.app 82 .t82)],false⟩),(26,⟨[([.reg 81],.bool),([.at 0 0],.str),([.at 0 1],.int .i64),([.at 0 2],.bool)],[],false⟩),(33,⟨[([.reg 7],.int .i64)],[],true⟩),(42,⟨[([.reg 9],.int .i64),([.at 0 0],.str),([.at 0 1],.int .i64),([.at 0 2],.bool),([.at 8 4],.app 25 .t25)],[([.at 0 0],.str),([.at 0 1],.int .i64),([.at 0 2],.bool),([.at 8 4],.app 25 .t25)],false⟩),(43,⟨[([.reg 115],.bool)],[],false⟩)],[(29,[3,4,5,7]),(46,[3,4,5,7])]⟩
theorem Qy8(rc:RRd×Unit->Option ((RRd×Tm)⊕(Unit×RRd)))(H:∀(u:RRd×Unit)(r:(RRd×Tm)⊕(Unit×RRd)),rc u=some r->CallO W0 prog 38 (.one (.ptr 0 0)::QG DV k38.args u.2) ((Q73 k38.bx u.1).er DV) (Qo1 DV k38.bx k38.res k38.pk r)):ZM DV W0 prog 38 ⟨k38.bx,k38.args,k38.res,k38.pk,λb v=>Qsu rc b⟩:=YV (C:=CV) rfl Qu Qg (Qt (tb:=[(70,k70),(86,k86)]) Qg ⟨Qtj,J2y,trivial⟩) (JR (tb:=[(38,(⟨k38.bx,k38.args,k38.res,k38.pk,λb v=>rc (b,v)⟩:PF UV)),(80,k80),(81,k81),(82,k82),(83,k83),(84,k84),(85,k85)]) Qg ⟨⟨⟨rfl,rfl⟩,λb v y h=>H (b,v) y h⟩,Q1y,J32,J31,J30,Qtg,J2z,trivial⟩) func38 J9d Jdp _ rfl rfl (λb v=>by kernel_rfl)
theorem J3b:ZM DV W0 prog 38 k38:=⟨⟨rfl,rfl⟩,λb v r h=>Yt (C:=λ(u:RRd×Unit)(r:(RRd×Tm)⊕(Unit×RRd))=>CallO W0 prog 38 (.one (.ptr 0 0)::QG DV k38.args u.2) ((Q73 k38.bx u.1).er DV) (Qo1 DV k38.bx k38.res k38.pk r)) (λrc H u r h=>(Qy8 rc H).2 u.1 u.2 r h) Qf (b,v) r h⟩
theorem J9c:Qd prog 39:=enters_of func39 (by kernel_rfl) rfl
def Jap(b:RRd):Option ((RRd×Unit)⊕(Unit×RRd)):=Option.bind (QH (Qvo b)) λ(r1:RRd×Tkn)=>Option.bind (cond ((!(r1.2.text==([]:List UInt8)))) (some true) (some r1.1.bad)) λ(v3:Bool)=>some (.inl ((RRd.mk r1.1.s r1.1.at_ v3),()))
def k39:PF UV:=⟨.stc 77 .t77,[],[],.p0 77,λb v=>Jap b⟩
def Jdo:Hints UV:=⟨[(2,⟨[([.at 0 2],.bool)],[],false⟩)],[]⟩
theorem J3a:ZM DV W0 prog 39 k39:=YV (C:=CV) rfl Qu Qg (Qt (tb:=[]) Qg trivial) (JR (tb:=[(80,k80)]) Qg ⟨Q1y,trivial⟩) func39 J9c Jdo k39 rfl rfl (λb v=>by kernel_rfl)
theorem J9p:Qd prog 16:=enters_of func16 (by kernel_rfl) rfl
def J7o(a0:List UInt8):Option (Tm×Int×Int):=cond ((decide (65536<(a0.length:Int)))) (some ((Tm.mk 0 0 ([]:List UInt8) ([]) ([])),0,5)) (Option.bind (QH (Jaq (RRd.mk a0 0 false))) λ(r1:RRd×Tm)=>Option.bind (QH (Jap r1.1)) λ(r3:RRd×Unit)=>cond r3.1.bad (some ((Tm.mk 0 0 ([]:List UInt8) ([]) ([])),r3.1.at_,4)) (Option.bind (J2l r1.2) λ(x5:(List UInt8)×Int)=>cond ((x5.2 != 0)) (some ((Tm.mk 0 0 ([]:List UInt8) ([]) ([])),0,x5.2)) (some (r1.2,0,0))))
def k16:KF UV:=⟨[.str],[.stc .t25,.int .i64,.int .i64],λv=>J7o v⟩
def Jdv:Hints UV:=⟨[],[(9,[5])]⟩
theorem J3i:Jv DV W0 prog 16 k16:=JD (C:=CV) rfl Qu Qg (Qt (tb:=[(14,k14)]) Qg ⟨J3j,trivial⟩) (JR (tb:=[(38,k38),(39,k39)]) Qg ⟨J3b,J3a,trivial⟩) func16 J9p Jdv k16 rfl (λv=>by kernel_rfl)
theorem J8j:Qd prog 87:=enters_of func87 (by kernel_rfl) rfl
def Jaj(a0:Lvl)(a1:Lvl):Option (Bool):=Option.bind (cond ((a0.c != a1.c)) (some true) (some ((a0.vs.length:Int)!=(a1.vs.length:Int)))) λ(v1:Bool)=>cond v1 (some false) (Option.bind (Qc (σ:=Int) (β:=Unit⊕Bool) (λs4=>cond ((decide (s4<(a0.vs.length:Int)))) (Option.bind (QP a0.vs s4) λ(x6:LV)=>Option.bind (QP a1.vs s4) λ(x7:LV)=>cond ((!((x6.1==x7.1)&&(x6.2==x7.2)))) (some (.done (.inr false))) (some (.next (Qr (s4+1))))) (some (.done (.inl ())))) Qf 0) (Sum.elim (λ(v5:Unit)=>some true) (λ(o8:Bool)=>some o8)))
def k87:KF UV:=⟨[.stc .t82,.stc .t82],[.bool],λv=>Jaj v.1 v.2⟩
def Jd3:Hints UV:=⟨[(1,⟨[([.reg 19],.bool)],[],false⟩),(5,⟨[([.reg 5],.int .i64)],[],true⟩)],[(9,[])]⟩
theorem J2x:Jv DV W0 prog 87 k87:=JD (C:=CV) rfl Qu Qg (Qt (tb:=[]) Qg trivial) J2 func87 J8j Jd3 k87 rfl (λv=>by kernel_rfl)
theorem J9b:Qd prog 40:=enters_of func40 (by kernel_rfl) rfl
def Jao(a0:List Lvl)(a1:List Lvl):Option (Bool):=cond (((a0.length:Int)!=(a1.length:Int))) (some false) (Option.bind (Qc (σ:=Int) (β:=Unit⊕Bool) (λs4=>cond ((decide (s4<(a0.length:Int)))) (Option.bind (QP a0 s4) λ(x6:Lvl)=>Option.bind (QP a1 s4) λ(x7:Lvl)=>Option.bind (Jaj x6 x7) λ(x8:Bool)=>cond ((!x8)) (some (.done (.inr false))) (some (.next (Qr (s4+1))))) (some (.done (.inl ())))) Qf 0) (Sum.elim (λ(v5:Unit)=>some true) (λ(o9:Bool)=>some o9)))
def k40:KF UV:=⟨[.sl .t82,.sl .t82],[.bool],λv=>Jao v.1 v.2⟩
def Jdn:Hints UV:=⟨[(5,⟨[([.reg 5],.int .i64)],[],true⟩)],[(9,[])]⟩
theorem J39:Jv DV W0 prog 40 k40:=JD (C:=CV) rfl Qu Qg (Qt (tb:=[(87,k87)]) Qg ⟨J2x,trivial⟩) J2 func40 J9b Jdn k40 rfl (λv=>by kernel_rfl)
theorem J9o:Qd prog 17:=enters_of func17 (by kernel_rfl) rfl
def Qib(rc:Tm×Tm->Option (Bool))(a0:Tm)(a1:Tm):Option (Bool):=Option.bind (cond ((a0.kind != a1.kind)) (some true) (cond ((a0.index != a1.index)) (some true) (cond ((!(a0.name==a1.name))) (some true) (Option.bind (Jao a0.levels a1.levels) λ(x3:Bool)=>cond ((!x3)) (some true) (some ((a0.kids.length:Int)!=(a1.kids.length:Int))))))) λ(v2:Bool)=>cond v2 (some false) (Option.bind (Qc (σ:=Int) (β:=Unit⊕Bool) (λs7=>cond ((decide (s7<(a0.kids.length:Int)))) (Option.bind (QP a0.kids s7) λ(x9:Tm)=>Option.bind (QP a1.kids s7) λ(x10:Tm)=>Option.bind (rc (x9,x10)) λ(x11:Bool)=>cond ((!x11)) (some (.done (.inr false))) (some (.next (Qr (s7+1))))) (some (.done (.inl ())))) Qf 0) (Sum.elim (λ(v8:Unit)=>some true) (λ(o12:Bool)=>some o12)))
def Jbf:Tm×Tm->Option (Bool):=Jm (λrc v=>Qib rc v.1 v.2) Qf
def m17(a0:Tm)(a1:Tm):Option (Bool):=Jbf (a0,a1)
def k17:KF UV:=⟨[.stc .t25,.stc .t25],[.bool],λv=>m17 v.1 v.2⟩
def Jdu:Hints UV:=⟨[(1,⟨[([.reg 41],.bool)],[],false⟩),(5,⟨[([.reg 5],.int .i64)],[],true⟩)],[(9,[])]⟩
theorem Qyh(rc:tup k17.args->Option (tup k17.res))(H:∀u r,rc u=some r->FunW W0 prog 17 (QG DV k17.args u) (Qj (QG DV k17.res r))):Jv DV W0 prog 17 ⟨k17.args,k17.res,λv=>Qib rc v.1 v.2⟩:=JD (C:=CV) rfl Qu Qg (Qt (tb:=[(17,(⟨k17.args,k17.res,rc⟩:KF UV)),(40,k40)]) Qg ⟨⟨rfl,H⟩,J39,trivial⟩) J2 func17 J9o Jdu _ rfl (λv=>by kernel_rfl)
theorem J3h:Jv DV W0 prog 17 k17:=⟨rfl,λv r h=>Yt (C:=λu r=>FunW W0 prog 17 (QG DV k17.args u) (Qj (QG DV k17.res r))) (λrc H u r h=>(Qyh rc H).2 u r h) Qf v r h⟩
theorem Jbq:Qd prog 4:=enters_of func4 (by kernel_rfl) rfl
def m4(a0:List UInt8):Option (Bool):=cond ((decide (1000<(a0.length:Int)))) (Option.bind (Qgs) λ(x1:Bool)=>some x1) (Option.bind (Qdc a0) λ(x2:Tm×Int×Int)=>Option.bind (J7o a0) λ(x3:Tm×Int×Int)=>Option.bind (Option.bind (Qgs) λ(x7:Bool)=>cond x7 (Option.bind (m17 x2.1 x3.1) λ(x8:Bool)=>cond x8 (cond ((x2.2.1==x3.2.1)) (some (x2.2.2==x3.2.2)) (some false)) (some false)) (some false)) λ(v6:Bool)=>some v6)
def k4:KF UV:=⟨[.str],[.bool],λv=>m4 v⟩
def H4:Hints UV:=⟨[(6,⟨[([.reg 2],.bool)],[],false⟩)],[]⟩
theorem J7z:Jv DV W0 prog 4 k4:=JD (C:=CV) rfl Qu Qg (Qt (tb:=[(12,k12),(15,k15),(16,k16),(17,k17)]) Qg ⟨J3k,Qtl,J3i,J3h,trivial⟩) J2 func4 Jbq H4 k4 rfl (λv=>by kernel_rfl)
end
section
open Go.RowKit Go.Shelf
theorem UC(n:Nat)(r:Bs)(k:Nat):Ka (n+1) r k=if J7 (r.dropWhile isSp)=0 then[⟨[],((k+(r.takeWhile isSp).length:Nat):Int)⟩]else⟨(r.dropWhile isSp).take (J7 (r.dropWhile isSp)),((k+(r.takeWhile isSp).length:Nat):Int)⟩::Ka n ((r.dropWhile isSp).drop (J7 (r.dropWhile isSp))) (k+(r.takeWhile isSp).length+J7 (r.dropWhile isSp)):=rfl
end
section
open Go.RowKit Go.Shelf
def arity(k:Int):Nat:=if k=4\/k=5\/k=6\/k=7 then 2 else if k=8\/k=11 then 3 else if k=9\/k=10 then 1 else 0
structure NodeP(t:Tm):Prop where
 k:0<=t.kind/\t.kind<13
 ix:t.kind≠0->t.kind≠12->t.index=0
 ix0:0<=t.index
 ix1:t.index<1000000000
 me:t.kind=12->t.index<1000000
 nm:t.kind≠3->t.name=[]
 nk:t.kind=3->YR t.name=true
 l2:t.kind=2->t.levels.length=1
 l0:t.kind≠2->t.kind≠3->t.levels=[]
 l3:t.levels.length<=8
 kd:t.kids.length=arity t.kind
 lv:∀l∈t.levels,Q62 l
inductive OkT:Tm->Prop
 |mk {t:Tm} (h:NodeP t) (hk:∀k∈t.kids,OkT k):OkT t
theorem OkT.node{t:Tm}(h:OkT t):NodeP t:=by cases h;assumption
theorem OkT.kid{t k:Tm}(h:OkT t)(hk:k∈t.kids):OkT k:=by cases h with|mk _ h=>exact h k hk
structure FormP(t:Tm):Prop where
 k:0<=t.kind/\t.kind<13
 ix:t.kind≠0->t.kind≠12->t.index=0
 nm:t.kind≠3->t.name=[]
 l2:t.kind=2->t.levels.length=1
 l0:t.kind≠2->t.kind≠3->t.levels=[]
 kd:t.kids.length=arity t.kind
theorem Qz1(t:Tm)(h:UR t=some true):FormP t:=by
 by_cases h1:t.kind<0;exfalso;unfold UR at h;rw[C4 h1]at h;cases h;by_cases h2:13<=t.kind;exfalso;unfold UR at h;rw[C3 h1,C4 h2]at h;cases h;have hk:t.kind=0\/t.kind=1\/t.kind=2\/t.kind=3\/t.kind=4\/t.kind=5\/t.kind=6\/t.kind=7\/t.kind=8\/t.kind=9\/t.kind=10\/t.kind=11\/t.kind=12:=by omega
 have fin:∀(ix nm ln:Bool)(lv kd:Int),UR t=Qmx ix nm ln (t.index==0) (t.name==[]) ((t.levels.length:Int)==lv) ((t.kids.length:Int)==kd) -> (ix=false->t.index=0)/\(nm=false->t.name=[])/\(ln=false->(t.levels.length:Int)=lv)/\(t.kids.length:Int)=kd:=by intro ix nm ln lv kd e;rw[h,Qfi]at e;have e:=(Cw e).symm;simp only[CD,PJ,P3]at e;obtain⟨⟨⟨e1,e2⟩,e3⟩,e4⟩:=e;exact⟨λh=>by rcases e1 with e|e;rw[h]at e;cases e;exact e,λh=>by rcases e2 with e|e;rw[h]at e;cases e;exact e,λh=>by rcases e3 with e|e;rw[h]at e;cases e;exact e,e4⟩
 obtain⟨k,i,n,ls,ks⟩:=t;dsimp only[Tm.kind,Tm.index,Tm.name,Tm.levels,Tm.kids]at *;have mk:∀{ix nm ln:Bool}{lv kd:Int},UR (Tm.mk k i n ls ks)=Qmx ix nm ln (i==0) (n==[]) ((ls.length:Int)==lv) ((ks.length:Int)==kd)->(k≠0->k≠12->ix=false)->(k≠3->nm=false)->(k=2->ln=false/\lv=1)->(k≠2->k≠3->ln=false/\lv=0)->kd=(arity k:Nat)->FormP (Tm.mk k i n ls ks):=by intro ix nm ln lv kd e h3 h4 h5 h6 h7;obtain⟨f1,f2,f3,f4⟩:=fin ix nm ln lv kd e;refine⟨⟨by show 0<=k;omega,by show k<13;omega⟩,λa b=>f1 (h3 a b),λa=>f2 (h4 a),λa=>?_,λa b=>?_,?_⟩;obtain⟨g1,g2⟩:=h5 a;have:=f3 g1;show ls.length=1;omega;obtain⟨g1,g2⟩:=h6 a b;have:=f3 g1;show ls=[];exact Cz (by omega);show ks.length=arity k;omega
 rcases hk with hk|hk|hk|hk|hk|hk|hk|hk|hk|hk|hk|hk|hk <;> subst hk;exact mk (ix:=true) (nm:=false) (ln:=false) (lv:=0) (kd:=0) rfl (λa=>(a rfl).elim) (λ_=>rfl) (λa=>by omega) (λ_ _=>⟨rfl,rfl⟩) rfl;exact mk (ix:=false) (nm:=false) (ln:=false) (lv:=0) (kd:=0) rfl (λ_ _=>rfl) (λ_=>rfl) (λa=>by omega) (λ_ _=>⟨rfl,rfl⟩) rfl;exact mk (ix:=false) (nm:=false) (ln:=false) (lv:=1) (kd:=0) rfl (λ_ _=>rfl) (λ_=>rfl) (λ_=>⟨rfl,rfl⟩) (λa=>(a rfl).elim) rfl;exact mk (ix:=false) (nm:=true) (ln:=true) (lv:=-1) (kd:=0) rfl (λ_ _=>rfl) (λa=>(a rfl).elim) (λa=>by omega) (λ_ a=>(a rfl).elim) rfl;exact mk (ix:=false) (nm:=false) (ln:=false) (lv:=0) (kd:=2) rfl (λ_ _=>rfl) (λ_=>rfl) (λa=>by omega) (λ_ _=>⟨rfl,rfl⟩) rfl;exact mk (ix:=false) (nm:=false) (ln:=false) (lv:=0) (kd:=2) rfl (λ_ _=>rfl) (λ_=>rfl) (λa=>by omega) (λ_ _=>⟨rfl,rfl⟩) rfl;exact mk (ix:=false) (nm:=false) (ln:=false) (lv:=0) (kd:=2) rfl (λ_ _=>rfl) (λ_=>rfl) (λa=>by omega) (λ_ _=>⟨rfl,rfl⟩) rfl;exact mk (ix:=false) (nm:=false) (ln:=false) (lv:=0) (kd:=2) rfl (λ_ _=>rfl) (λ_=>rfl) (λa=>by omega) (λ_ _=>⟨rfl,rfl⟩) rfl;exact mk (ix:=false) (nm:=false) (ln:=false) (lv:=0) (kd:=3) rfl (λ_ _=>rfl) (λ_=>rfl) (λa=>by omega) (λ_ _=>⟨rfl,rfl⟩) rfl;exact mk (ix:=false) (nm:=false) (ln:=false) (lv:=0) (kd:=1) rfl (λ_ _=>rfl) (λ_=>rfl) (λa=>by omega) (λ_ _=>⟨rfl,rfl⟩) rfl;exact mk (ix:=false) (nm:=false) (ln:=false) (lv:=0) (kd:=1) rfl (λ_ _=>rfl) (λ_=>rfl) (λa=>by omega) (λ_ _=>⟨rfl,rfl⟩) rfl;exact mk (ix:=false) (nm:=false) (ln:=false) (lv:=0) (kd:=3) rfl (λ_ _=>rfl) (λ_=>rfl) (λa=>by omega) (λ_ _=>⟨rfl,rfl⟩) rfl;exact mk (ix:=true) (nm:=false) (ln:=false) (lv:=0) (kd:=0) rfl (λ_ a=>(a rfl).elim) (λ_=>rfl) (λa=>by omega) (λ_ _=>⟨rfl,rfl⟩) rfl
theorem J7u{V P:Int}{x:Lvl}(h:x.vs.length<=900000000)(h0:Q1o (YZ V P) x=some 0):Q62 x:=by obtain⟨b,hb1,hb2⟩:=Qbr x h;unfold Q1o at h0;rw[hb1]at h0;cases b with|false=>cases h0|true=>exact hb2.1 rfl
theorem J2o(t:Tm)(V P:Int)(h:t.size<=900000000):∃r,Qc (Z2 t (YZ V P)) Qf 0=some r/\((r=.inl ()/\∀l∈t.levels,Q62 l)\/∃e:Int,e≠0/\r=.inr e):=by
 have hl:=Wi t;have hl2:=Wj Q11 (λl=>by unfold Q11;omega) t.levels;refine Yv (step:=Z2 t (YZ V P)) t.levels (λi (_:Unit)=>i) (λa _=>∀l∈a,Q62 l) (λr=>(r=.inl ()/\∀l∈t.levels,Q62 l)\/∃e:Int,e≠0/\r=.inr e) (by omega) (λa y b _ e hI=>?_) (λ_ hI=>⟨.inl (),by unfold Z2;rw[Jp];rfl,.inl ⟨rfl,hI⟩⟩) () (λx hx=>by cases hx);obtain⟨q1,q2⟩:=GD e;have hy:y.vs.length<=900000000:=by have:=Qbx y;have:=Ut Q11 (show y∈t.levels from by rw[e];simp);omega
 obtain⟨c,h1,-⟩:=Qm8 V P y hy;by_cases hc:c=0;subst hc;refine .inr ⟨(),?_,λz hz=>?_⟩;unfold Z2;rw[q1,q2];show Option.bind (Q1o (YZ V P) y) _=_;rw[h1];rfl;rcases CR.1 hz with hz|hz;exact hI z hz;rw[CI.1 hz];exact J7u hy h1;refine .inl ⟨.inr c,?_,.inr ⟨c,hc,rfl⟩⟩;unfold Z2;rw[q1,q2];show Option.bind (Q1o (YZ V P) y) _=_;rw[h1];exact Qjn hc _ _
theorem Qwo(t:Tm)(dep:Nat)(P:Int)(h:t.size<=900000000)(hd:dep<=900000000)(h0:Qqe (YZ 1000000 P) t (dep:Int)=some 0):NodeP t:=by
 obtain⟨b,hb,-⟩:=Qmw t;have hi:=J80 (n:=t.index) (by have:=t.size_eq;omega);have hn:t.name.length<=900000000:=by have:=t.size_eq;omega
 unfold Qqe at h0;rw[hb]at h0;cases b with
 |false=>cases h0
 |true=>
  have f:=Qz1 t hb;obtain⟨r,hr1,hr2⟩:=J2o t 1000000 P h;have tail:Option.bind (Qc (Z2 t (YZ 1000000 P)) Qf 0) (Sum.elim (λ(o7:Unit)=>Kg t (YZ 1000000 P) (dep:Int)) (λo=>some o))=some 0->(∀l∈t.levels,Q62 l)/\0<=t.index/\t.index<1000000000/\(t.kind=12->t.index<1000000):=by intro h1;rw[hr1]at h1;rcases hr2 with⟨rfl,hv⟩|⟨e,he,rfl⟩;have h1:Kg t (YZ 1000000 P) (dep:Int)=some 0:=h1;refine⟨hv,?_⟩;unfold Kg at h1;rw[Z0 t.kind 0,Z0 t.kind 12]at h1;by_cases k0:t.kind=0;rw[C4 k0,C3 (show ¬t.kind=12 by omega)]at h1;by_cases c1:t.index<0;rw[C4 c1]at h1;cases h1;rw[C3 c1]at h1;by_cases c2:max 1000000 0<=Qr (t.index-(dep:Int));rw[show decide ((YZ 1000000 P).vars<=Qr (t.index-(dep:Int)))=true from C4 c2]at h1;cases h1;rw[Jh (by omega) (by omega)]at c2;exact⟨by omega,by omega,λa=>by omega⟩;rw[C3 k0]at h1;by_cases k1:t.kind=12;rw[C4 k1]at h1;by_cases c1:t.index<0;rw[C4 c1]at h1;cases h1;rw[C3 c1]at h1;by_cases c2:1000000<=t.index;rw[show decide ((YZ 1000000 P).metas<=t.index)=true from C4 c2]at h1;cases h1;exact⟨by omega,by omega,λa=>by omega⟩;have:=f.ix k0 k1;exact⟨by omega,by omega,λa=>by omega⟩;cases h1;exact(he rfl).elim
  have fin:(t.kind=3->YR t.name=true/\t.levels.length<=8)->(∀l∈t.levels,Q62 l)/\0<=t.index/\t.index<1000000000/\(t.kind=12->t.index<1000000)->NodeP t:=λh1 h2=>by refine⟨f.k,f.ix,h2.2.1,h2.2.2.1,h2.2.2.2,f.nm,λa=>(h1 a).1,f.l2,f.l0,?_,f.kd,h2.1⟩;by_cases a:t.kind=3;exact(h1 a).2;by_cases a2:t.kind=2;have:=f.l2 a2;omega;rw[f.l0 a2 a];exact Cd _
  simp only[C0,Pf,C6]at h0;rw[Z0]at h0;by_cases k3:t.kind=3;rw[C4 k3,C5,Qbu _ hn,C0]at h0;cases hN:YR t.name with|false=>rw[hN]at h0;cases h0|true=>rw[hN]at h0;by_cases h8:8<(t.levels.length:Int);rw[C4 h8]at h0;cases h0;rw[C3 h8]at h0;exact fin (λ_=>⟨hN,by omega⟩) (tail h0)
  rw[C3 k3]at h0;exact fin (λa=>(k3 a).elim) (tail h0)
theorem Qkh(P:Int):∀(n:Nat)(t:Tm)(dep:Nat),t.size<=n->dep+t.size<=900000000->Jm Q3z n (t,(dep:Int),max 1000000 0,P,1000000,1000000)=some 0->OkT t|0,t,_,h,_,_=>by rw[t.size_eq]at h;omega|n+1,t,dep,h,hd,h0=>by have h0:Qhy (Jm Q3z n) t (dep:Int) (max 1000000 0) P 1000000 1000000=some 0:=h0;obtain⟨e,h1,h2,h3⟩:=Qlg t (dep:Int) 1000000 P (by omega);rw[h2]at h0;by_cases he:e=0;subst he;rw[Cf rfl]at h0;have hN:=Qwo t dep P (by omega) (by omega) h1;obtain⟨k0,k1⟩:=hN.k;obtain⟨v,hv,hj⟩:=Qng t.kind k0 k1;have hl:=Gu t;(have key:∃r,Qc (ZU t (Jm Q3z n) (dep:Int) (max 1000000 0) P 1000000 1000000) Qf 0=some r/\((r=.inl ()/\∀k∈t.kids,OkT k)\/∃e:Int,e≠0/\r=.inr e):=by refine Yv (step:=ZU t (Jm Q3z n) (dep:Int) (max 1000000 0) P 1000000 1000000) t.kids (λi (_:Unit)=>i) (λa _=>∀k∈a,OkT k) (λr=>(r=.inl ()/\∀k∈t.kids,OkT k)\/∃e:Int,e≠0/\r=.inr e) (by omega) (λa x b _ e hI=>?_) (λ_ hI=>⟨.inl (),by unfold ZU;rw[Jp];rfl,.inl ⟨rfl,hI⟩⟩) () (λx hx=>by cases hx);obtain⟨q1,q2⟩:=GD e;have hxs:=JL (t:=t) (k:=x) (by rw[e];simp);have hx:=Qbd e;(obtain⟨d',hd1,hd3⟩:∃d':Nat,Qr ((dep:Int)+(if(a.length:Int)=v then 1 else 0))=(d':Int)/\d'<=dep+1:=by by_cases hh:(a.length:Int)=v;rw[Cf hh,Zh (by omega)];exact⟨dep+1,rfl,Cl _⟩;rw[Ca hh,Jh (by omega) (by omega)];exact⟨dep,by omega,by omega⟩);obtain⟨e',w1,-,-⟩:=Q47 1000000 P t n x d' 0 (by omega) (by omega) (by omega);(have st:ZU t (Jm Q3z n) (dep:Int) (max 1000000 0) P 1000000 1000000 (a.length:Int)=cond (e' != 0) (some (.done (.inr e'))) (some (.next (Qr ((a.length:Int)+1)))):=by unfold ZU;rw[q1,q2];simp only[C5,C0];rw[hj a.length];simp only[C0];rw[hd1,w1];rfl);by_cases he:e'=0;subst he;refine .inr ⟨(),st,λz hz=>?_⟩;rcases CR.1 hz with hz|hz;exact hI z hz;rw[CI.1 hz];exact Qkh P n x d' (by omega) (by omega) w1;refine .inl ⟨_,by rw[st,Q89 he];rfl,.inr ⟨e',he,rfl⟩⟩);obtain⟨r,hr1,hr2⟩:=key;unfold Q9p at h0;rw[hr1]at h0;rcases hr2 with⟨rfl,hk⟩|⟨e,he,rfl⟩;exact .mk hN hk;cases h0;exact(he rfl).elim;rw[Ca he]at h0;cases h0;exact(he rfl).elim
theorem Q74(t:Tm)(h:t.size<=900000000)(h0:Qx8 t 1000000 1000000 1000000 1000000=some 0):OkT t:=by obtain⟨e,h1,-,-⟩:=Q47 1000000 1000000 t Qf t 0 0 (by unfold Qf;omega) (by omega) (by omega);have h2:Jam t 0 (max 1000000 0) 1000000 1000000 1000000=some e:=h1;unfold Qx8 at h0;rw[h2,C0]at h0;by_cases he:e=0;subst he;exact Qkh 1000000 Qf t 0 (by unfold Qf;omega) (by omega) h1;rw[Q89 he]at h0;cases h0;exact(he rfl).elim
end
section
open Go.RowKit Go.Shelf
abbrev Z8(s:Bs):List Byt:=List.map (λb:UInt8=>(⟨b.toNat⟩:Byt)) s
def Qgy:List Bs:=[[97,112,112],[108,97,109],[112,105],[115,105,103,109,97],[112,97,105,114],[102,115,116],[115,110,100],[108,101,116]]
def Gk(k:Int):Bs:=(Qgy[(k-4).toNat]?).getD []
def Qgt(l:Lvl):Bs:=[91]++Qdp l++[93]
def Q1r(ls:List Lvl):Bs:=(ls.map λl=>[32]++Qgt l).flatten
def Ya:Tm->Bs
 |.mk k i n ls ks=>if k=0 then[35]++Wo i.toNat else if k=12 then[63]++Wo i.toNat else if k=1 then[112,114,111,112]else
  if k=2 then[40,115,111,114,116,32]++(ls.map Qgt).headD []++[41]else
  if k=3 then(if ls=[]/\n≠[112,114,111,112]then n else[40,99,111,110,115,116,32]++n++Q1r ls++[41])else
  [40]++Gk k++(ks.attach.map λk=>[32]++Ya k.1).flatten++[41]
termination_by t=>SizeOf.sizeOf t
decreasing_by
 have:=Po k.2
 simp only[Tm.mk.sizeOf_spec];omega
def GU(ks:List Tm):Bs:=(ks.map λk=>[32]++Ya k).flatten
theorem Gm(k i:Int)(n:Bs)(ls:List Lvl)(ks:List Tm):Ya (.mk k i n ls ks)=if k=0 then[35]++Wo i.toNat else if k=12 then[63]++Wo i.toNat else if k=1 then[112,114,111,112]else if k=2 then[40,115,111,114,116,32]++(ls.map Qgt).headD []++[41]else if k=3 then(if ls=[]/\n≠[112,114,111,112]then n else[40,99,111,110,115,116,32]++n++Q1r ls++[41])else[40]++Gk k++GU ks++[41]:=by
 rw[Ya];have:(ks.attach.map λk=>[32]++Ya k.1).flatten=GU ks:=by unfold GU;rw[Sv (f:=λk=>[32]++Ya k)]
 rw[this]
theorem GC{i:Int}(h0:0<=i)(h:i<1000000000):(Wo i.toNat).length<=9:=UI 8 _ (by omega)
theorem Q12{k:Int}(h:4<=k)(h2:k<12):(Gk k).length<=5/\Qgy[(k-4).toNat]?=some (Gk k):=by
 have:k=4\/k=5\/k=6\/k=7\/k=8\/k=9\/k=10\/k=11:=by omega
 rcases this with rfl|rfl|rfl|rfl|rfl|rfl|rfl|rfl <;> exact⟨by decide,rfl⟩
theorem Qne{l:Lvl}(h:Q62 l):(Qgt l).length+1<=36*Q11 l:=by
 have h1:=Us h;have h2:Q11 l=1+l.vs.length:=by unfold Q11;rw[List.map_const',List.sum_replicate_nat];omega
 unfold Qgt;simp only[C8,C1,Cb];omega
theorem Qj5{α:Type}(f:α->Bs)(g:α->Nat):∀l:List α,(∀x∈l,(f x).length<=g x)->(l.map f).flatten.length<=(l.map g).sum|[],h=>Cl _|x::l,h=>by simp only[CJ,PV,C8,Ps];have h1:=h x Cj;have h2:=Qj5 f g l λy hy=>h y (Ck _ hy);omega
theorem Qaw{α:Type}(c:Nat)(g:α->Nat):∀l:List α,(l.map λx=>c*g x).sum=c*(l.map g).sum|[]=>rfl|x::l=>by simp only[CJ,Ps,Qaw c g l,Nat.mul_add]
theorem Qt6{ls:List Lvl}(h:∀l∈ls,Q62 l):(Q1r ls).length<=36*(ls.map Q11).sum:=by rw[<-Qaw];refine Qj5 _ _ ls λl hl=>?_;have:=Qne (h l hl);simp only[C8,C1,Cb];omega
theorem Q8k(t:Tm):OkT t->(Ya t).length+1<=60*t.size:=by induction t using Qvd with|h t ih=>intro h;have hN:=h.node;(have hk:(GU t.kids).length<=60*(t.kids.map Tm.size).sum:=by rw[<-Qaw];refine Qj5 _ _ _ λk hk=>?_;have:=ih k hk (h.kid hk);simp only[C8,C1,Cb];omega);have hv:=Qt6 hN.lv;have hs:=t.size_eq;have hd:=GC hN.ix0 hN.ix1;obtain⟨k,i,n,ls,ks⟩:=t;obtain⟨⟨c1,c2⟩,-,-,-,-,-,-,l2,-,-,-,lv⟩:=hN;dsimp only[Tm.kind,Tm.index,Tm.name,Tm.levels,Tm.kids]at *;rw[Gm];split;simp only[C8,C1,Cb];omega;split;simp only[C8,C1,Cb];omega;split;simp only[C1,Cb];omega;split;rename_i h2;have:=l2 h2;(match ls,this with|[l],_=>have:=Qne (lv l (by simp));simp only[CJ,List.map_nil,List.headD_cons,C8,C1,Cb,Ps,List.sum_nil]at *;omega);split;split;omega;simp only[C8,C1,Cb];omega;have:=(Q12 (k:=k) (by omega) (by omega)).1;simp only[C8,C1,Cb];omega
theorem Qln{a:Int}(h0:0<=a)(h1:a<1000000000):Qsq a=some (Wo a.toNat):=by unfold Qsq;rw[Qv (by rw[C4 (by omega),C4 (by omega)];rfl),Qmo h0]
def Qwx(rc:Int->Option Bs)(u:Int):Option Bs:=Qoa rc u
theorem Qlm(rc:Int->Option Bs){n:Nat}(h:n<10):Qoa rc (n:Int)=some (Wo n):=by
 have:n=0\/n=1\/n=2\/n=3\/n=4\/n=5\/n=6\/n=7\/n=8\/n=9:=by omega
 rcases this with rfl|rfl|rfl|rfl|rfl|rfl|rfl|rfl|rfl|rfl <;> (rw[Q6y (by omega)];rfl)
theorem Qll:∀(f n:Nat),n<10 ^ f->n<1000000000->Jm Qwx f (n:Int)=some (Wo n)\/(f=0)
 |0,n,h,hn=>.inr rfl
 |f+1,n,h,hn=>by
  refine .inl ?_;show Qoa (Jm Qwx f) (n:Int)=_;by_cases h1:n<10;exact Qlm _ h1;unfold Qoa;rw[C3 (by omega:¬(n:Int)<10),C6];have ed:Int.tdiv (n:Int) 10=((n / 10:Nat):Int):=rfl;have em:Int.tmod (n:Int) 10=((n%10:Nat):Int):=rfl;rw[ed,em,Jh (by omega) (by omega)];have hf:f≠0:=λhf=>by subst hf;omega
  have hr:Jm Qwx f ((n / 10:Nat):Int)=some (Wo (n / 10)):=by rcases Qll f (n / 10) (by rw[Nat.pow_succ]at h;omega) (by omega)with h2|h2;exact h2;exact(hf h2).elim
  have hm:Jm Qwx f ((n%10:Nat):Int)=some (Wo (n%10)):=by cases f with|zero=>exact(hf rfl).elim|succ f=>exact Qlm _ (by omega)
  have e10:Wo n=Wo (n / 10)++Wo (n%10):=by rw[Qje h1,Q6y (n:=n%10) (by omega)]
  rw[hr,C0];refine(Qv Z).trans ?_;rw[hm,C0,<-e10];refine Qv (C7 ?_);have h3:=UI 8 (n / 10) (by omega);have h4:=UI 8 (n%10) (by omega);omega
theorem Qsm{a:Int}(h0:0<=a)(h1:a<1000000000):Jal a=some (Wo a.toNat):=by obtain⟨n,rfl⟩:=PI h0;rw[Cu];rcases Qll Qf n (Ci (by omega:n<10 ^ 9) (Nat.pow_le_pow_right (by omega) (by unfold Qf;omega))) (by omega)with h2|h2;exact h2;unfold Qf at h2;omega
theorem Qi0{l:Lvl}(h:Q62 l)(hn:l.vs.length<=2000000):J0d l=some (Qgt l):=by have h1:=Us h;unfold J0d Qgt;rw[Qxu h (by omega),C0];rw[Qv (C7 (by simp only[C1,Cb];omega)),Qv (C7 (by simp only[C8,C1,Cb];omega))]
theorem Qv3{α β:Type}{step:Int×List β->Option (LO (Int×List β) (List β))}(l:List α)(g:α->List β)(b0:List β)(hlen:l.length<=900000000)(hin:∀(a:List α)(x:α)(b:List α)(s:List β),l=a++x::b->s=b0++(a.map g).flatten->step ((a.length:Int),s)=some (.next (Qr ((a.length:Int)+1),s++g x)))(hout:∀s,step ((l.length:Int),s)=some (.done s)):Qc step Qf (0,b0)=some (b0++(l.map g).flatten):=by obtain⟨r,h1,h2⟩:=Yv (step:=step) l (λi (s:List β)=>(i,s)) (λa s=>s=b0++(a.map g).flatten) (λr=>r=b0++(l.map g).flatten) hlen (λa x b s e hI=>.inr ⟨s++g x,hin a x b s e hI,by rw[hI,Ct,List.flatten_append];simp⟩) (λs hI=>⟨s,hout s,hI⟩) b0 (by simp);exact h1.trans (by rw[h2])
theorem Qpq{α β:Type}{step:List β×Int->Option (LO (List β×Int) (List β))}(l:List α)(g:α->List β)(b0:List β)(hlen:l.length<=900000000)(hin:∀(a:List α)(x:α)(b:List α)(s:List β),l=a++x::b->s=b0++(a.map g).flatten->step (s,(a.length:Int))=some (.next (s++g x,Qr ((a.length:Int)+1))))(hout:∀s,step (s,(l.length:Int))=some (.done s)):Qc step Qf (b0,0)=some (b0++(l.map g).flatten):=by obtain⟨r,h1,h2⟩:=Yv (step:=step) l (λi (s:List β)=>(s,i)) (λa s=>s=b0++(a.map g).flatten) (λr=>r=b0++(l.map g).flatten) hlen (λa x b s e hI=>.inr ⟨s++g x,hin a x b s e hI,by rw[hI,Ct,List.flatten_append];simp⟩) (λs hI=>⟨s,hout s,hI⟩) b0 (by simp);exact h1.trans (by rw[h2])
theorem X2(a b:Bs):Z8 (a++b)=Z8 a++Z8 b:=Ct
theorem Qnd(a:Bs):(Z8 a).length=a.length:=Co ..
theorem Q6k{α:Type}(f:α->Bs):∀l:List α,(l.map λx=>Z8 (f x)).flatten=Z8 (l.map f).flatten|[]=>rfl|x::l=>by simp only[CJ,PV,Q6k f l,X2]
theorem Ql7{α:Type}(f:α->Bs){l a b:List α}{x:α}(e:l=a++x::b):(a.map f).flatten.length+(f x).length<=(l.map f).flatten.length:=by rw[e];simp
end
section
open Go.RowKit Go.Shelf
structure PC{α:Type}(p:(Nat->Bs)->Nat->RS α):Prop where
 emp:∀X k,X k=[]->p X k=.inr k
 cut:∀X X' k v m c,p X k=.inl (v,m)->k<=c->c<m->(∀j,j<c->X j=X' j)->X' c=[]->p X' k=.inr c
inductive IxT:Tm->Prop
 |mk {t:Tm} (h:t.index<1000000) (hk:∀k∈t.kids,IxT k):IxT t
theorem Qqs{s:Bs}(h:∀b∈s,48<=b.toNat/\b.toNat<=57):Lib.trimS s digits=[]:=by
 have dm:∀b:UInt8,48<=b.toNat/\b.toNat<=57->digits.contains b=true:=by intro b hb;(have e:b=UInt8.ofNat (48+(b.toNat-48)):=by apply PU.1;rw[Qz5 (by omega)];omega);(have hk:b.toNat-48<10:=by omega);generalize b.toNat-48=k at e hk;subst e;match k,hk with|0,_=>rfl|1,_=>rfl|2,_=>rfl|3,_=>rfl|4,_=>rfl|5,_=>rfl|6,_=>rfl|7,_=>rfl|8,_=>rfl|9,_=>rfl
 have dw:∀s:Bs,(∀b∈s,48<=b.toNat/\b.toNat<=57)->s.dropWhile (digits.contains ·)=[]:=by intro s;induction s with|nil=>intro _;rfl|cons b s ih=>intro h;rw[PZ,Cf (dm b (h b Cj))];exact ih λc hc=>h c (Ck _ hc)
 unfold Lib.trimS Lib.trimRightS Lib.trimLeftS;rw[dw s.reverse λb hb=>h b (List.mem_reverse.1 hb)];rfl
end
end
end Go.Proofs.YtjcfppnjamjjhaaGreatDoor
