/- Part 4 of the proof: rules, mirrors and plain laws. -/
import Derived.Test.YtjcfppnjamjjhaaGreatDoorK43
import Derived.Shelf.SlIterI.Sorted
import Derived.Shelf.SlIterI.Collect
import Derived.Shelf.SortM.Plain
import Derived.Shelf.SortM.SortNone
import Derived.Shelf.Strings.Trim
import Derived.Shelf.Small.Wraps
import Derived.Ground.GgzProg
import Derived.Ground.SlgmProg
set_option maxHeartbeats 2000000
set_option maxRecDepth 100000
set_option linter.unusedSimpArgs false
set_option linter.unusedVariables false
set_option linter.unusedSectionVars false
namespace Go.Proofs.YtjcfppnjamjjhaaGreatDoor
open Go.Proofs.Tryz
noncomputable section
section
open Go.RowKit Go.Shelf
set_option maxRecDepth 100000
abbrev Va:List CA:=[dB true,dB false,dI 0,dI 0,dI (-1),dB false,dB false,dI 0,dI 0,dI (-1),dB false,dB false,dI 1,dI 0,dI (-1),dB false,dB true,dI (-1),dI 0,dI (-1),dB false,dB false,dI 0,dI 2,dI (-1),dB false,dB false,dI 0,dI 2,dI 1,dB false,dB false,dI 0,dI 2,dI 1,dB false,dB false,dI 0,dI 2,dI 1,dB false,dB false,dI 0,dI 3,dI (-1),dB false,dB false,dI 0,dI 1,dI (-1),dB false,dB false,dI 0,dI 1,dI (-1),dB false,dB false,dI 0,dI 3,dI 2,dB true,dB false,dI 0,dI 0,dI (-1)]
abbrev Vb:List (Nat×TV):=[(5,.v (.one (.ptr 3 0))),(10,.v (.one (.ptr 4 0))),(11,.v (.one (.ptr 5 0))),(12,.v (.one (.ptr 6 0))),(26,.v (.one (.fn 106 [(7,0)])))]
abbrev Vc:List (Nat×TV):=[(5,.v (.one (.ptr 0 0))),(10,.v (.one (.ptr 1 0))),(11,.v (.one (.ptr 2 0))),(12,.v (.one (.ptr 3 0))),(26,.v (.one (.fn 106 [(4,0)])))]
abbrev Vd:Nat×HB:=(9,.cells 26 [.fn 108 [(0,0),(8,0),(9,0)]])
abbrev Ve:Nat×HB:=(2,.obj (.deferred (some [])))
abbrev Vf:Nat×HB:=(5,.obj (.deferred (some [])))
abbrev Vh:Nat×HB:=(0,.cells 153 [.yld 1])
abbrev Vi:Nat×HB:=(7,.cells 153 [.yld 6])
abbrev Vk:Nat×HB:=(1,.cells 28 [dI 0])
abbrev Vl:Nat×HB:=(3,.cells 3 [dI 0])
theorem JT:J3 prog 25 0=some 0:=by kernel_rfl
theorem UD:J3 prog 25 1=some 1:=by kernel_rfl
theorem Q4q:J3 prog 25 2=some 2:=by kernel_rfl
theorem G7:J3 prog 25 3=some 3:=by kernel_rfl
theorem Yq:J3 prog 25 4=some 4:=by kernel_rfl
theorem GY:J3 prog 82 0=some 0:=by kernel_rfl
theorem YX:J3 prog 82 1=some 1:=by kernel_rfl
theorem ZZ:J3 prog 142 0=some 0:=by kernel_rfl
theorem Xy:J3 prog 142 1=some 1:=by kernel_rfl
theorem Qu2:J3 prog 155 0=some 0:=by kernel_rfl
theorem Qfk:J3 prog 155 1=some 1:=by kernel_rfl
theorem KD:J3 prog 155 2=some 2:=by kernel_rfl
theorem KC:J3 prog 155 3=some 3:=by kernel_rfl
theorem Qu1:J3 prog 155 4=some 4:=by kernel_rfl
theorem Ji:Jw prog 3=some (false,1):=by kernel_rfl
theorem Qg8:Jw prog 4=some (false,1):=by kernel_rfl
theorem DK:Jw prog 9=some (false,1):=by kernel_rfl
theorem Q0r:Jw prog 22=some (false,1):=by kernel_rfl
theorem KY:Jw prog 23=some (false,1):=by kernel_rfl
theorem KX:Jw prog 25=some (true,5):=by kernel_rfl
theorem Qv5:Jw prog 26=some (false,1):=by kernel_rfl
theorem XJ:Jw prog 28=some (false,1):=by kernel_rfl
theorem X3:Jw prog 80=some (false,1):=by kernel_rfl
theorem JQ:Jw prog 82=some (true,2):=by kernel_rfl
theorem Qv7:Jw prog 107=some (true,4):=by kernel_rfl
theorem DL:Jw prog 142=some (true,2):=by kernel_rfl
theorem J5v:Jw prog 153=some (false,1):=by kernel_rfl
theorem J5u:Jw prog 155=some (true,5):=by kernel_rfl
theorem Q7i:Jw prog 156=some (true,65):=by kernel_rfl
theorem DY:Ja prog 22=some (82,2):=by kernel_rfl
theorem Kx:Ja prog 23=some (25,5):=by kernel_rfl
theorem Kb:Ja prog 80=some (142,2):=by kernel_rfl
theorem Jct:YB prog 3=some [.int .i64 0]:=by kernel_rfl
theorem J6o:YB prog 25=some [.int .i64 0,.int .i64 0,.string ByteArray.empty,.slice none 0 0,.slice none 0 0]:=by kernel_rfl
theorem Jav:YB prog 26=some [.nilFunc]:=by kernel_rfl
theorem Jau:YB prog 28=some [.int .i64 0]:=by kernel_rfl
theorem Qgu:YB prog 82=some [.int .i64 0,.slice none 0 0]:=by kernel_rfl
theorem J6q:YB prog 107=some [.int .i64 0,.int .i64 0,.int .i64 0,.int .i64 0]:=by kernel_rfl
theorem Qde:YB prog 142=some [.int .i64 0,.int .i64 0]:=by kernel_rfl
theorem J6p:YB prog 155=some [.bool false,.bool false,.int .i64 0,.int .i64 0,.int .i64 0]:=by kernel_rfl
theorem Qqh:YB prog 156=some [.bool false,.bool false,.int .i64 0,.int .i64 0,.int .i64 0,.bool false,.bool false,.int .i64 0,.int .i64 0,.int .i64 0,.bool false,.bool false,.int .i64 0,.int .i64 0,.int .i64 0,.bool false,.bool false,.int .i64 0,.int .i64 0,.int .i64 0,.bool false,.bool false,.int .i64 0,.int .i64 0,.int .i64 0,.bool false,.bool false,.int .i64 0,.int .i64 0,.int .i64 0,.bool false,.bool false,.int .i64 0,.int .i64 0,.int .i64 0,.bool false,.bool false,.int .i64 0,.int .i64 0,.int .i64 0,.bool false,.bool false,.int .i64 0,.int .i64 0,.int .i64 0,.bool false,.bool false,.int .i64 0,.int .i64 0,.int .i64 0,.bool false,.bool false,.int .i64 0,.int .i64 0,.int .i64 0,.bool false,.bool false,.int .i64 0,.int .i64 0,.int .i64 0,.bool false,.bool false,.int .i64 0,.int .i64 0,.int .i64 0]:=by kernel_rfl
theorem J5p:YA prog 107 [(0,1),(1,1),(2,1),(3,1)] [.int .i64 0,.int .i64 0,.int .i64 0,.int .i64 0]:=⟨by kernel_rfl,by kernel_rfl⟩
theorem JJ:YA prog 155 [(0,1),(1,1),(2,1),(3,1),(4,1)] [.bool false,.bool false,.int .i64 0,.int .i64 0,.int .i64 0]:=⟨by kernel_rfl,by kernel_rfl⟩
theorem Qux:YA prog 156 [(0,5),(5,5),(10,5),(15,5),(20,5),(25,5),(30,5),(35,5),(40,5),(45,5),(50,5),(55,5),(60,5)] [.bool false,.bool false,.int .i64 0,.int .i64 0,.int .i64 0,.bool false,.bool false,.int .i64 0,.int .i64 0,.int .i64 0,.bool false,.bool false,.int .i64 0,.int .i64 0,.int .i64 0,.bool false,.bool false,.int .i64 0,.int .i64 0,.int .i64 0,.bool false,.bool false,.int .i64 0,.int .i64 0,.int .i64 0,.bool false,.bool false,.int .i64 0,.int .i64 0,.int .i64 0,.bool false,.bool false,.int .i64 0,.int .i64 0,.int .i64 0,.bool false,.bool false,.int .i64 0,.int .i64 0,.int .i64 0,.bool false,.bool false,.int .i64 0,.int .i64 0,.int .i64 0,.bool false,.bool false,.int .i64 0,.int .i64 0,.int .i64 0,.bool false,.bool false,.int .i64 0,.int .i64 0,.int .i64 0,.bool false,.bool false,.int .i64 0,.int .i64 0,.int .i64 0,.bool false,.bool false,.int .i64 0,.int .i64 0,.int .i64 0]:=⟨by kernel_rfl,by kernel_rfl⟩
theorem Qzi:Q52 prog 156=some (13,5):=by kernel_rfl
theorem Q80:JS prog 9=true:=by kernel_rfl
theorem J9n:Qd prog 27:=enters_of func27 (by kernel_rfl) rfl
theorem J9a:Qd prog 58:=enters_of func58 (by kernel_rfl) rfl
theorem J99:Qd prog 59:=enters_of func59 (by kernel_rfl) rfl
theorem J98:Qd prog 60:=enters_of func60 (by kernel_rfl) rfl
theorem J5c:Qd prog 106:=enters_of func106 (by kernel_rfl) rfl
theorem Qug:Qd prog 107:=enters_of func107 (by kernel_rfl) rfl
theorem J5b:Qd prog 108:=enters_of func108 (by kernel_rfl) rfl
theorem J5a:Qd prog 109:=enters_of func109 (by kernel_rfl) rfl
theorem J59:Qd prog 110:=enters_of func110 (by kernel_rfl) rfl
theorem J58:Qd prog 111:=enters_of func111 (by kernel_rfl) rfl
theorem J4o:Qd prog 135:=enters_of func135 (by kernel_rfl) rfl
theorem J4n:Qd prog 136:=enters_of func136 (by kernel_rfl) rfl
theorem Quf:Qd prog 158:=enters_of func158 (by kernel_rfl) rfl
theorem Que:Qd prog 188:=enters_of func188 (by kernel_rfl) rfl
theorem Qud:Qd prog 189:=enters_of func189 (by kernel_rfl) rfl
theorem Quc:Qd prog 211:=enters_of func211 (by kernel_rfl) rfl
theorem mixed:prog.follows .mixedOrders=true:=by kernel_rfl
theorem Qv2:Qh3 prog 156=some (13,5):=by kernel_rfl
def ZV:Code:=(cA (cA (cB (cA (cB (cB (cB (J0p f27))))))))
def Z3:Code:=(cB (cA (cB (cA (cB (cB (cB (J0p f27))))))))
def J2f(a0:LV)(a1:Lvl):Option Unit:=some ()
def Gb(a0:List LV)(a1:Lvl)(s1:Int):Option (LO Int (Unit⊕Int)):=
 cond (decide (s1<(a0.length:Int))) (Option.bind (QP a0 s1) λ(x3:LV)=>
 Option.bind (J2f x3 a1) λ(x4:Unit)=>
 cond (decide (a1.c<=x3.2)) (some (.done (.inr s1))) (some (.next (Qr (s1+1))))) (some (.done (.inl ())))
def Qsx(a0:List LV)(a1:Lvl):Option Int:=Option.bind (Qc (Gb a0 a1) Qf 0) (Sum.elim (λ(o1:Unit)=>some (-1)) (λo=>some o))
def Qia(a0:List LV)(a1:Lvl):Option Bool:=
 Option.bind (Qsx a0 a1) λ(x1:Int)=>
 some (decide (0<=x1))
def Wb(a0:Lvl)(s1:Int):Option (LO Int (Unit⊕Bool)):=
 cond (decide (s1<(a0.vs.length:Int))) (Option.bind (QP a0.vs s1) λ(x5:LV)=>
 Option.bind (cond (decide (x5.1<(-65536))) (some true) (cond (decide (7<x5.1)) (some true) (cond (decide (x5.2<0)) (some true) (cond (decide (100<x5.2)) (some true) (cond (decide (0<s1)) (Option.bind (QP a0.vs (Qr (s1-1))) λ(x12:LV)=>
 some (decide (x5.1<=x12.1))) (some false)))))) (λ(v6:Bool)=>cond v6 (some (.done (.inr false))) (some (.next (Qr (s1+1)))))) (some (.done (.inl ())))
def Q84(a0:Lvl):Option Bool:=
 Option.bind (cond (decide (a0.c<0)) (some true) (cond (decide (100<a0.c)) (some true) (cond (decide (0<a0.c)) (Option.bind (Option.bind (Qia a0.vs a0) λ(x7:Bool)=>
 some x7) (λ(y5:Bool)=>some y5)) (some false)))) (λ(v1:Bool)=>cond v1 (some false) (Option.bind (Qc (Wb a0) Qf 0) (Sum.elim (λ(o3:Unit)=>some true) (λo=>some o))))
def Qqd:IH UV:=⟨f188,⟨[],[]⟩,.lab [([.reg 4],.bool)]⟩
def Qqc:IH UV:=⟨f189,⟨[],[]⟩,.lab [([.reg 3],.bool)]⟩
def Qqb:IH UV:=⟨f211,⟨[(2,⟨[([.reg 8],.int .i64)],[],true⟩)],[]⟩,.lab [([.reg 4],.int .i64)]⟩
def J7p(a0:Lvl):Option (Bool):=Option.bind (Option.bind (Option.bind (Qc (σ:=Int) (β:=Unit⊕Int) (λs5=>cond ((decide (s5<(a0.vs.length:Int)))) (Option.bind (QP a0.vs s5) λ(x7:LV)=>Option.bind (some (decide (a0.c<=x7.2))) λ(v8:Bool)=>cond v8 (some (.done (.inr s5))) (some (.next (Qr (s5+1))))) (some (.done (.inl ())))) Qf 0) (Sum.elim (λ(v6:Unit)=>some (-1)) (λ(o9:Int)=>some o9))) λ(v2:Int)=>some (decide (0<=v2))) λ(v1:Bool)=>some v1
def q158:KF UV:=⟨[.stc .t82],[.bool],λv=>J7p v⟩
def Ja1:Hints UV:=⟨[],[]⟩
theorem Qwd:Jv DV .any prog 158 q158:=JD (C:=CV) rfl Qu Qg (Qt (tb:=[]) Qg trivial) (Wm (C:=CV) rfl Qu Qg (Qt (tb:=[]) Qg trivial) J2 (I:=[(188,Qqd),(189,Qqc),(211,Qqb)]) ⟨⟨func188,Que⟩,⟨func189,Qud⟩,⟨func211,Quc⟩,trivial⟩ 8) func158 Quf Ja1 q158 rfl (λv=>by kernel_rfl)
def J1l(a0:Lvl):Option (Bool):=Option.bind (cond ((decide (a0.c<0))) (some true) (cond ((decide (100<a0.c))) (some true) (cond ((decide (0<a0.c))) (Option.bind (J7p a0) λ(x3:Bool)=>some x3) (some false)))) λ(v2:Bool)=>cond v2 (some false) (Option.bind (Qc (σ:=Int) (β:=Unit⊕Bool) (λs6=>cond ((decide (s6<(a0.vs.length:Int)))) (Option.bind (QP a0.vs s6) λ(x8:LV)=>cond ((decide (x8.1<(-65536)))) (some (.done (.inr false))) (cond ((decide (7<x8.1))) (some (.done (.inr false))) (cond ((decide (x8.2<0))) (some (.done (.inr false))) (cond ((decide (100<x8.2))) (some (.done (.inr false))) (cond ((decide (0<s6))) (Option.bind (QP a0.vs (Qr (s6-1))) λ(x9:LV)=>cond ((decide (x8.1<=x9.1))) (some (.done (.inr false))) (some (.next (Qr (s6+1))))) (some (.next (Qr (s6+1))))))))) (some (.done (.inl ())))) Qf 0) (Sum.elim (λ(v7:Unit)=>some true) (λ(o10:Bool)=>some o10)))
def p136:KF UV:=⟨[.stc .t82],[.bool],λv=>J1l v⟩
def Ja2:Hints UV:=⟨[(1,⟨[([.reg 21],.bool)],[],false⟩),(5,⟨[([.reg 25],.int .i64)],[],true⟩)],[(10,[])]⟩
theorem Qwk:Jv DV .any prog 136 p136:=JD (C:=CV) rfl Qu Qg (Qt (tb:=[(158,q158)]) Qg ⟨Qwd,trivial⟩) J2 func136 J4n Ja2 p136 rfl (λv=>by kernel_rfl)
theorem Qwr(a0:Lvl):J1l a0=Q84 a0:=by
 have e:(λ(s6:Int)=>cond ((decide (s6<(a0.vs.length:Int)))) (Option.bind (QP a0.vs s6) λ(x8:LV)=>cond ((decide (x8.1<(-65536)))) (some (.done (.inr false))) (cond ((decide (7<x8.1))) (some (.done (.inr false))) (cond ((decide (x8.2<0))) (some (.done (.inr false))) (cond ((decide (100<x8.2))) (some (.done (.inr false))) (cond ((decide (0<s6))) (Option.bind (QP a0.vs (Qr (s6-1))) λ(x9:LV)=>cond ((decide (x8.1<=x9.1))) (some (.done (.inr false))) (some (.next (Qr (s6+1))))) (some (.next (Qr (s6+1))))))))) (some (.done (.inl ()))))=Wb a0:=by funext s;unfold Wb;cases(decide (s<(a0.vs.length:Int)))with|false=>rfl|true=>cases QP a0.vs s with|none=>rfl|some x=>simp only[C5,C0];generalize decide (x.1<(-65536))=b1;generalize decide (7<x.1)=b2;generalize decide (x.2<0)=b3;generalize decide (100<x.2)=b4;generalize decide (0<s)=b5;cases b1 with|true=>rfl|false=>cases b2 with|true=>rfl|false=>cases b3 with|true=>rfl|false=>cases b4 with|true=>rfl|false=>cases b5 with|false=>rfl|true=>cases QP a0.vs (Qr (s-1)) <;> rfl
 unfold J1l Q84;rw[e];rfl
def q136:KF UV:=⟨[.stc .t82],[.bool],λv=>Q84 v⟩
theorem Ql2:Jv DV .any prog 136 q136:=⟨rfl,λv r h=>Qwk.2 v r ((Qwr v).trans h)⟩
theorem Qxi(a0:Lvl)(r:Bool)(h0:Q84 a0=some r):Fun prog 136 [.agg (cE a0)] (Qj [.one (dB r)]):=FunW.any (Eq.mp (show FunW .any prog 136 (QG DV q136.args a0) (Qj (QG DV q136.res r))=_ from by kernel_rfl) (Ql2.2 a0 r h0))
def Qif(a0:Byt):Option Bool:=Option.bind (cond (decide (97<=a0.n)) (cond (decide (a0.n<=122)) (some true) (cond (decide (65<=a0.n)) (cond (decide (a0.n<=90)) (some true) (some (a0.n==95))) (some (a0.n==95)))) (cond (decide (65<=a0.n)) (cond (decide (a0.n<=90)) (some true) (some (a0.n==95))) (some (a0.n==95)))) (λ(v1:Bool)=>some v1)
def q135:KF UV:=⟨[.int .u8],[.bool],λv=>Qif ⟨v⟩⟩
def Ja3:Hints UV:=⟨[(1,⟨[([.reg 2],.bool)],[],false⟩)],[]⟩
theorem Qwe:Jv DV .any prog 135 q135:=JD (C:=CV) rfl Qu Qg (Qt (tb:=[]) Qg trivial) J2 func135 J4o Ja3 q135 rfl (λv=>by kernel_rfl)
def Wg(a0:Bs)(s1:Bool×Int):Option (LO (Bool×Int) (Bool⊕Bool)):=
 cond (decide (s1.2<(a0.length:Int))) (Option.bind (QP a0 s1.2) λ(x3:UInt8)=>
 Option.bind (Qif (⟨(x3.toNat:Int)⟩:Byt)) λ(x4:Bool)=>
 cond x4 (some (.next (false,(Qr (s1.2+1))))) (cond s1.1 (some (.done (.inr false))) (cond ((x3.toNat:Int)==46) (some (.next (true,(Qr (s1.2+1))))) (Option.bind (cond (decide ((x3.toNat:Int)<48)) (some true) (some (decide (57<(x3.toNat:Int))))) (λ(v8:Bool)=>cond v8 (cond ((x3.toNat:Int)!=39) (some (.done (.inr false))) (some (.next (s1.1,(Qr (s1.2+1)))))) (some (.next (s1.1,(Qr (s1.2+1)))))))))) (some (.done (.inl s1.1)))
def Q1p(a0:Bs):Option Bool:=Option.bind (Qc (Wg a0) Qf (true,0)) (Sum.elim (λ(o1:Bool)=>Option.bind (cond (!o1) (some (decide ((a0.length:Int)<=64))) (some false)) (λ(v2:Bool)=>some v2)) (λo=>some o))
def J1m(a0:List UInt8):Option (Bool):=Option.bind (Qc (σ:=Bool×Int) (β:=Bool⊕Bool) (λs41=>cond ((decide (s41.2<(a0.length:Int)))) (Option.bind (QP a0 s41.2) λ(x43:UInt8)=>Option.bind (Qif ⟨(x43.toNat:Int)⟩) λ(x44:Bool)=>Option.bind (α:=Bool⊕Bool) (cond x44 (some (.inl false)) (cond s41.1 (some (.inr false)) (Option.bind (α:=Bool⊕Bool) (cond (((x43.toNat:Int)==46)) (some (.inl true)) (Option.bind (cond ((decide ((x43.toNat:Int)<48))) (some true) (some (decide (57<(x43.toNat:Int))))) λ(v58:Bool)=>Option.bind (α:=Unit⊕Bool) (cond v58 (cond (((x43.toNat:Int)!=39)) (some (.inr false)) (some (.inl ()))) (some (.inl ()))) (Sum.elim (λ(v59:Unit)=>some (.inl s41.1)) (λ(o60:Bool)=>some (.inr o60))))) (Sum.elim (λ(v57:Bool)=>some (.inl v57)) (λ(o61:Bool)=>some (.inr o61)))))) (Sum.elim (λ(v53:Bool)=>some (.next (v53,(Qr (s41.2+1))))) (λ(o62:Bool)=>some (.done (.inr o62))))) (some (.done (.inl s41.1)))) Qf (true,0)) (Sum.elim (λ(v42:Bool)=>Option.bind (cond ((!v42)) (some (decide ((a0.length:Int)<=64))) (some false)) λ(v63:Bool)=>some v63) (λ(o64:Bool)=>some o64))
def p110:KF UV:=⟨[.str],[.bool],λv=>J1m v⟩
def Ja5:Hints UV:=⟨[(3,⟨[([.reg 3],.bool),([.reg 8],.int .i64)],[([.reg 3],.bool)],true⟩),(11,⟨[([.reg 3],.bool)],[],true⟩),(17,⟨[([.reg 3],.bool)],[],true⟩),(19,⟨[([.reg 22],.bool)],[],false⟩),(20,⟨[],[],true⟩),(25,⟨[([.reg 2],.bool)],[],false⟩)],[]⟩
theorem Qwl:Jv DV .any prog 110 p110:=JD (C:=CV) rfl Qu Qg (Qt (tb:=[(135,q135)]) Qg ⟨Qwe,trivial⟩) J2 func110 J59 Ja5 p110 rfl (λv=>by kernel_rfl)
theorem Qws(a0:List UInt8):J1m a0=Q1p a0:=by
 have e:(λ(s41:Bool×Int)=>cond ((decide (s41.2<(a0.length:Int)))) (Option.bind (QP a0 s41.2) λ(x43:UInt8)=>Option.bind (Qif ⟨(x43.toNat:Int)⟩) λ(x44:Bool)=>Option.bind (α:=Bool⊕Bool) (cond x44 (some (.inl false)) (cond s41.1 (some (.inr false)) (Option.bind (α:=Bool⊕Bool) (cond (((x43.toNat:Int)==46)) (some (.inl true)) (Option.bind (cond ((decide ((x43.toNat:Int)<48))) (some true) (some (decide (57<(x43.toNat:Int))))) λ(v58:Bool)=>Option.bind (α:=Unit⊕Bool) (cond v58 (cond (((x43.toNat:Int)!=39)) (some (.inr false)) (some (.inl ()))) (some (.inl ()))) (Sum.elim (λ(v59:Unit)=>some (.inl s41.1)) (λ(o60:Bool)=>some (.inr o60))))) (Sum.elim (λ(v57:Bool)=>some (.inl v57)) (λ(o61:Bool)=>some (.inr o61)))))) (Sum.elim (λ(v53:Bool)=>some (.next (v53,(Qr (s41.2+1))))) (λ(o62:Bool)=>some (.done (.inr o62))))) (some (.done (.inl s41.1))))=Wg a0:=by funext s;unfold Wg;cases(decide (s.2<(a0.length:Int)))with|false=>rfl|true=>cases QP a0 s.2 with|none=>rfl|some x=>simp only[C5,C0];cases Qif ⟨(x.toNat:Int)⟩with|none=>rfl|some b0=>simp only[C0];generalize ((x.toNat:Int)==46)=b2;generalize decide ((x.toNat:Int)<48)=b3;generalize decide (57<(x.toNat:Int))=b4;generalize ((x.toNat:Int)!=39)=b5;cases b0 with|true=>rfl|false=>cases s.1 with|true=>rfl|false=>cases b2 with|true=>rfl|false=>cases b3 <;> cases b4 <;> cases b5 <;> rfl
 unfold J1m Q1p;rw[e]
def q110:KF UV:=⟨[.str],[.bool],λv=>Q1p v⟩
theorem Ql3:Jv DV .any prog 110 q110:=⟨rfl,λv r h=>Qwl.2 v r ((Qws v).trans h)⟩
theorem Qxx(a0:Bs)(r:Bool)(h0:Q1p a0=some r):Fun prog 110 [.one (K8 a0)] (Qj [.one (dB r)]):=FunW.any (Eq.mp (show FunW .any prog 110 (QG DV q110.args a0) (Qj (QG DV q110.res r))=_ from by kernel_rfl) (Ql3.2 a0 r h0))
def J20(a0:Tm)(rc:Tm->Option Int)(s1:Int×Int):Option (LO (Int×Int) Int):=
 cond (decide (s1.2<(a0.kids.length:Int))) (Option.bind (QP a0.kids s1.2) λ(x3:Tm)=>
 Option.bind (rc x3) λ(x4:Int)=>
 some (.next ((max s1.1 x4),(Qr (s1.2+1))))) (some (.done s1.1))
def J7k(rc:Tm->Option Int)(a0:Tm):Option Int:=Option.bind (Qc (J20 a0 rc) Qf (0,0)) (λ(o1:Int)=>some (Qr (o1+1)))
def Jb5(rc:Tm->Option Int)(u:Tm):Option Int:=J7k rc u
def Jan(a0:Tm):Option Int:=Jm Jb5 Qf a0
def q60:KF UV:=⟨[.stc .t25],[.int .i64],λv=>Jan v⟩
def Jbx:Hints UV:=⟨[(3,⟨[([.reg 3],.int .i64),([.reg 9],.int .i64)],[([.reg 3],.int .i64)],false⟩)],[]⟩
theorem Qwc(rc:tup q60.args->Option (tup q60.res))(H:∀u r,rc u=some r->FunW .any prog 60 (QG DV q60.args u) (Qj (QG DV q60.res r))):Jv DV .any prog 60 ⟨q60.args,q60.res,λv=>J7k rc v⟩:=JD (C:=CV) rfl Qu Qg (Qt (tb:=[(60,(⟨q60.args,q60.res,rc⟩:KF UV))]) Qg ⟨⟨rfl,H⟩,trivial⟩) J2 func60 J98 Jbx _ rfl (λv=>by kernel_rfl)
theorem J1a:Jv DV .any prog 60 q60:=⟨rfl,λv r h=>Yt (C:=λu r=>FunW .any prog 60 (QG DV q60.args u) (Qj (QG DV q60.res r))) (λrc H u r h=>(Qwc rc H).2 u r h) Qf v r h⟩
theorem J1z(a0:Tm)(r:Int)(h0:Jan a0=some r):Fun prog 60 [.agg (cE a0)] (Qj [.one (dI r)]):=FunW.any (Eq.mp (show FunW .any prog 60 (QG DV q60.args a0) (Qj (QG DV q60.res r))=_ from by kernel_rfl) (J1a.2 a0 r h0))
def J2n:Option ((List Use)):=some ([(⟨true,false,0,0,(-1)⟩:Use),(⟨false,false,0,0,(-1)⟩:Use),(⟨false,false,1,0,(-1)⟩:Use),(⟨false,true,(-1),0,(-1)⟩:Use),(⟨false,false,0,2,(-1)⟩:Use),(⟨false,false,0,2,1⟩:Use),(⟨false,false,0,2,1⟩:Use),(⟨false,false,0,2,1⟩:Use),(⟨false,false,0,3,(-1)⟩:Use),(⟨false,false,0,1,(-1)⟩:Use),(⟨false,false,0,1,(-1)⟩:Use),(⟨false,false,0,3,2⟩:Use),(⟨true,false,0,0,(-1)⟩:Use)]:List Use)
theorem Qm6  (r:(List Use)) (h0:J2n =some r):Fun prog 107 [] (Qj [.agg (Q6l (r:List Use))]):=by
 unfold J2n at h0;refine Jb 9 15 func107 Z Qug Z (lb Z) (λS w=>?_);simp only[J4];refine Q3<|Q0<|Qm Z Z (lb Z) (J0 Qqh Z)<|Q2<|Q1<|Q3<|Q0<|rR Z Z Z (QX JJ Z Z Z Z)<|rR Z Z Z (Gi JJ Z Z Z)<|rR Z Z Z (QX JJ Z Z Z Z)<|rR Z Z Z (Qam JJ Z Z Z Z Z)<|rR Z Z Z (QX JJ Z Z Z Z)<|rR Z Z Z (QX JJ Z Z Z Z)<|rR Z Z Z (QX JJ Z Z Z Z) ?_
 refine rR Z Z Z (QX JJ Z Z Z Z)<|rR Z Z Z (QX JJ Z Z Z Z)<|rR Z Z Z (QX JJ Z Z Z Z)<|rR Z Z Z (QX JJ Z Z Z Z)<|rR Z Z Z (QX JJ Z Z Z Z)<|rR Z Z Z (QX JJ Z Z Z Z)<|rR Z Z Z (Q2k Qux Z (.cons Z (.cons Z (.cons Z (.cons Z (.cons Z (.cons Z (.cons Z (.cons Z (.cons Z (.cons Z (.cons Z (.cons Z (.cons Z .nil))))))))))))) Z)<|J1 Z Z (Xh Q7i Z Z Z Z Z Z)<|Q2<|Q1<|Qx ?_
 have e:=sI h0;subst e;exact QD (λ_ _ h=>h) Z (K6 Q7i Z Z Z Z .nil) (.cons (.agg (.cons (.d _) (.cons (.d _) (.cons (.d _) (.cons (.d _) (.cons (.d _) (.cons (.d _) (.cons (.d _) (.cons (.d _) (.cons (.d _) (.cons (.d _) (.cons (.d _) (.cons (.d _) (.cons (.d _) (.cons (.d _) (.cons (.d _) (.cons (.d _) (.cons (.d _) (.cons (.d _) (.cons (.d _) (.cons (.d _) (.cons (.d _) (.cons (.d _) (.cons (.d _) (.cons (.d _) (.cons (.d _) (.cons (.d _) (.cons (.d _) (.cons (.d _) (.cons (.d _) (.cons (.d _) (.cons (.d _) (.cons (.d _) (.cons (.d _) (.cons (.d _) (.cons (.d _) (.cons (.d _) (.cons (.d _) (.cons (.d _) (.cons (.d _) (.cons (.d _) (.cons (.d _) (.cons (.d _) (.cons (.d _) (.cons (.d _) (.cons (.d _) (.cons (.d _) (.cons (.d _) (.cons (.d _) (.cons (.d _) (.cons (.d _) (.cons (.d _) (.cons (.d _) (.cons (.d _) (.cons (.d _) (.cons (.d _) (.cons (.d _) (.cons (.d _) (.cons (.d _) (.cons (.d _) (.cons (.d _) (.cons (.d _) (.cons (.d _) (.cons (.d _) (.cons (.d _) (.cons (.d _) .nil)))))))))))))))))))))))))))))))))))))))))))))))))))))))))))))))))) .nil)
def Wf(a1:Lvl)(a0:Scp)(s1:Int):Option (LO Int (Unit⊕Int)):=
 cond (decide (s1<(a1.vs.length:Int))) (Option.bind (QP a1.vs s1) λ(x5:LV)=>
 cond (decide (a0.params<=x5.1)) (some (.done (.inr 15))) (some (.next (Qr (s1+1))))) (some (.done (.inl ())))
def We(a1:Lvl)(a0:Scp)(s1:Int):Option (LO Int (Unit⊕Int)):=
 cond (decide (s1<(a1.vs.length:Int))) (Option.bind (QP a1.vs s1) λ(x6:LV)=>
 Option.bind (cond (decide (x6.1<0)) (some (decide (a0.levels<=(Qr ((-1)-x6.1))))) (some false)) (λ(v7:Bool)=>cond v7 (some (.done (.inr 23))) (some (.next (Qr (s1+1)))))) (some (.done (.inl ())))
def Q1o(a0:Scp)(a1:Lvl):Option Int:=
 Option.bind (Q84 a1) λ(x1:Bool)=>
 cond (!x1) (some 3) (Option.bind (Qc (Wf a1 a0) Qf 0) (Sum.elim (λ(o3:Unit)=>Option.bind (Qc (We a1 a0) Qf 0) (Sum.elim (λ(o4:Unit)=>some 0) (λo=>some o))) (λo=>some o)))
def q111:KF UV:=⟨[.stc .t107,.stc .t82],[.int .i64],λv=>Q1o v.1 v.2⟩
def Ja4:Hints UV:=⟨[(5,⟨[([.reg 15],.int .i64)],[],true⟩),(15,⟨[([.reg 28],.int .i64)],[],true⟩),(20,⟨[([.reg 42],.bool)],[],false⟩)],[]⟩
theorem Qwf:Jv DV .any prog 111 q111:=JD (C:=CV) rfl Qu Qg (Qt (tb:=[(136,q136)]) Qg ⟨Ql2,trivial⟩) J2 func111 J58 Ja4 q111 rfl (λv=>by kernel_rfl)
def Qbv(p0_:Bool)(p1_:Tm):Option Bool:=
 cond p0_ (some false) (Option.bind (J2n ) λ(b0_:(List Use))=>
 Option.bind (QP b0_ p1_.kind) λ(b1_:Use)=>
 Qa (Nat.beq b0_.length 13)
 (Option.bind (cond b1_.index (cond b1_.name (cond (decide (b1_.levels<0)) (some ((p1_.kids.length:Int)==b1_.kids)) (cond ((p1_.levels.length:Int)==b1_.levels) (some ((p1_.kids.length:Int)==b1_.kids)) (some false))) (cond (p1_.name==([]:List UInt8)) (cond (decide (b1_.levels<0)) (some ((p1_.kids.length:Int)==b1_.kids)) (cond ((p1_.levels.length:Int)==b1_.levels) (some ((p1_.kids.length:Int)==b1_.kids)) (some false))) (some false))) (cond (p1_.index==0) (cond b1_.name (cond (decide (b1_.levels<0)) (some ((p1_.kids.length:Int)==b1_.kids)) (cond ((p1_.levels.length:Int)==b1_.levels) (some ((p1_.kids.length:Int)==b1_.kids)) (some false))) (cond (p1_.name==([]:List UInt8)) (cond (decide (b1_.levels<0)) (some ((p1_.kids.length:Int)==b1_.kids)) (cond ((p1_.levels.length:Int)==b1_.levels) (some ((p1_.kids.length:Int)==b1_.kids)) (some false))) (some false))) (some false))) (λ(b2_:Bool)=>some b2_)))
def UR(a0:Tm):Option Bool:=Option.bind (cond (decide (a0.kind<0)) (some true) (some (decide (13<=a0.kind)))) (λ(v1:Bool)=>Qbv v1 a0)
theorem Qxy(a0:Tm)(r:Bool)(h0:UR a0=some r):Fun prog 109 [.agg (cE a0)] (Qj [.one (dB r)]):=by
 unfold UR at h0;refine Jb 9 53 func109 Z J5a Z (lb Z) (λS w=>?_);simp only[J4];refine Q3<|Q0<|Qm Z Z (lb Z) (Ju Z)<|rA Z Z Z<|Q2<|Q1<|Q3<|Q3 ?_
 refine QN (λ(v1:Bool)=>⟨[(1,.v (.one (.ptr 0 0))),(11,.v (.one (dB v1)))],[(0,.cells 25 (cE a0))],[],1,53,[]⟩) (λ(v1:Bool)=>(Qbv v1 a0)=some r) ?_ ?_;refine Qn h0 (λw1_ h1 h0=>?_);refine Q0<|rR Z Z Z (Q4 JT Z)<|rR Z Z Z (Q6 Ji Z Z Z)<|rR Z Z Z (Q5 Z Z Z)<|rM Z Z Z ?_
 refine QB (d:=7) (c:=(decide (a0.kind<0))) Z (λc2=>?_) (λc2=>?_);replace h1:=Qk c2 h1;refine Q7 Z Z<|Q7 Z Z<|Q7 Z Z<|rR Z Z Z (Qe Z Z)<|Q2 ?_
 have e:=sI h1;subst e;exact Qb true (sL (Cd _) Z Z Z Z Z) h0;replace h1:=Ql c2 h1;refine rR Z Z Z (Q4 JT Z)<|rR Z Z Z (Q6 Ji Z Z Z)<|rR Z Z Z (Q5 Z Z Z)<|rR Z Z Z (Qh Z Z)<|Q2 ?_
 have e:=sI h1;subst e;exact Qb (decide (13<=a0.kind)) (sL (Cd _) Z Z Z Z Z) h0;intro v1 h0;unfold Qbv at h0;refine Q1 ?_;refine Qi (b:=v1) Z (λc3=>?_) (λc3=>?_);replace h0:=Qk c3 h0;refine Q3<|Q0<|rA Z Z Z<|Q2<|Q1<|Qx ?_
 have e:=sI h0;subst e;exact QD (λ_ _ h=>h) Z (Qy Z .nil) (.cons (.one (.d _)) .nil);replace h0:=Ql c3 h0;refine Qp<|Q1<|Q3 ?_
 refine Ye [4,5] [(0,1),(1,1),(2,1),(3,1)] mixed (by kernel_rfl) (by kernel_rfl) (by kernel_rfl) ?_;refine Qn h0 (λx4 hx4 h0=>?_);refine RunA.rd Z Z Z (QO (Qm6  x4 hx4) Z .nil) Z<|RunA.rd Z Z Z (Q9 (Q4 JT Z)) Z<|RunA.rd Z Z Z (Q9 (Q6 Ji Z Z Z)) Z ?_
 refine Qn h0 (λx5 hx5 h0=>?_);refine Dz h0 (λg6 h0=>?_);refine RunA.rd Z Z Z (Q9 (Q3o (α:=Use) (tbl:=x4) Qv2 Z Z g6 Z hx5)) Z<|RunA.eff Z Z Z (J0 J6p Z) Z<|RunA.eff Z Z Z (Zd (x5:Use) J5u Z Z Z Z Z) Z ?_
 refine RunA.nil ⟨?ex,_,_,Z,?_⟩;case ex=>exact⟨⟨_,rfl,_,_,rfl,rfl,rfl,.inl ⟨rfl,_,QO (Qm6  x4 hx4) rfl .nil,rfl⟩⟩,⟨_,rfl,_,_,rfl,rfl,rfl,.inl ⟨rfl,_,Q9 (Q4 JT rfl),rfl⟩⟩,⟨_,rfl,_,_,rfl,rfl,rfl,.inl ⟨rfl,_,Q9 (Q6 Ji rfl rfl rfl),rfl⟩⟩,⟨_,rfl,_,_,rfl,rfl,rfl,.inl ⟨rfl,_,Q9 (Q3o (α:=Use) (tbl:=x4) Qv2 rfl rfl g6 rfl hx5),rfl⟩⟩,trivial⟩
 refine X5 (st':=⟨[(1,.v (.one (.ptr 0 0))),(3,.v (.one (.ptr 1 0)))],[(0,.cells 25 (cE a0)),(1,.cells 155 (cE x5))],[],2,53,[]⟩) (sL (Cd _) Z Z Z Z Z)<|Q1<|Q3 ?_
 refine QN (λ(v7:Bool)=>⟨[(2,.v (.one (dB v7)))],[(0,.cells 25 (cE a0)),(1,.cells 155 (cE x5))],[],2,53,[]⟩) (λ(v7:Bool)=>(some v7)=some r) ?_ ?_;refine Qn h0 (λw1_ h1 h0=>?_);refine Q0<|rR Z Z Z (Q4 Qu2 Z)<|rR Z Z Z (Q6 Qg8 Z Z Z)<|rM Z Z Z ?_
 refine QB (d:=18) (c:=x5.index) Z (λc8=>?_) (λc8=>?_);replace h1:=Qk c8 h1;refine Q7 Z Z<|Q7 Z Z<|Q7 Z Z<|rR Z Z Z (Qe Z Z)<|rM Z Z Z<|rR Z Z Z (Q4 Qfk Z)<|rR Z Z Z (Q6 Qg8 Z Z Z)<|rM Z Z Z ?_
 refine QB (d:=26) (c:=x5.name) Z (λc9=>?_) (λc9=>?_);replace h1:=Qk c9 h1;refine Q7 Z Z<|Q7 Z Z<|Q7 Z Z<|rR Z Z Z (Qe Z Z)<|rR Z Z Z (Qe Z Z)<|rM Z Z Z<|rR Z Z Z (Q4 KD Z)<|rR Z Z Z (Q6 Ji Z Z Z)<|rR Z Z Z (Q5 Z Z Z)<|rM Z Z Z ?_
 refine QB (d:=36) (c:=(decide (x5.levels<0))) Z (λc10=>?_) (λc10=>?_);replace h1:=Qk c10 h1;refine Q7 Z Z<|Q7 Z Z<|Q7 Z Z<|Q7 Z Z<|Q7 Z Z<|Q7 Z Z<|rR Z Z Z (Qe Z Z)<|rR Z Z Z (Qe Z Z)<|rM Z Z Z<|rR Z Z Z (Q4 Yq Z)<|rR Z Z Z (Q6 KY Z Z Z)<|rR Z Z Z (Jg (α:=Tm) Kx Z (.d _))<|rR Z Z Z (Q4 KC Z)<|rR Z Z Z (Q6 Ji Z Z Z) ?_
 refine rR Z Z Z (Q5 Z Z Z)<|rR Z Z Z (Qe Z Z)<|rA Z Z Z<|Q2 ?_
 have e:=sI h1;subst e;exact Qb ((a0.kids.length:Int)==x5.kids) (sL (Cd _) Z Z Z Z Z) h0;replace h1:=Ql c10 h1;refine rR Z Z Z (Q4 G7 Z)<|rR Z Z Z (Q6 Q0r Z Z Z)<|rR Z Z Z (Jg (α:=Lvl) DY Z (.d _))<|rR Z Z Z (Q4 KD Z)<|rR Z Z Z (Q6 Ji Z Z Z)<|rR Z Z Z (Q5 Z Z Z)<|rR Z Z Z (Qh Z Z)<|rR Z Z Z (Qe Z Z)<|rM Z Z Z ?_
 refine QB (d:=45) (c:=((a0.levels.length:Int)==x5.levels)) Z (λc11=>?_) (λc11=>?_);replace h1:=Qk c11 h1;refine rR Z Z Z (Q4 Yq Z)<|rR Z Z Z (Q6 KY Z Z Z)<|rR Z Z Z (Jg (α:=Tm) Kx Z (.d _))<|rR Z Z Z (Q4 KC Z)<|rR Z Z Z (Q6 Ji Z Z Z)<|rR Z Z Z (Q5 Z Z Z)<|rR Z Z Z (Qe Z Z)<|rA Z Z Z<|Q2 ?_
 have e:=sI h1;subst e;exact Qb ((a0.kids.length:Int)==x5.kids) (sL (Cd _) Z Z Z Z Z) h0;replace h1:=Ql c11 h1;refine Q7 Z Z<|Q7 Z Z<|Q7 Z Z<|Q7 Z Z<|Q7 Z Z<|Q7 Z Z<|rR Z Z Z (Qh Z Z)<|rA Z Z Z<|Q2 ?_
 have e:=sI h1;subst e;exact Qb false (sL (Cd _) Z Z Z Z Z) h0;replace h1:=Ql c9 h1;refine rR Z Z Z (Q4 Q4q Z)<|rR Z Z Z (Q6 DK Z Z Z)<|rR Z Z Z (Qd5 Z Z)<|rR Z Z Z (Qh Z Z)<|rR Z Z Z (Qe Z Z)<|rM Z Z Z ?_
 refine QB (d:=32) (c:=(a0.name==([]:List UInt8))) Z (λc12=>?_) (λc12=>?_);replace h1:=Qk c12 h1;refine rR Z Z Z (Q4 KD Z)<|rR Z Z Z (Q6 Ji Z Z Z)<|rR Z Z Z (Q5 Z Z Z)<|rM Z Z Z ?_
 refine QB (d:=36) (c:=(decide (x5.levels<0))) Z (λc13=>?_) (λc13=>?_);replace h1:=Qk c13 h1;refine Q7 Z Z<|Q7 Z Z<|Q7 Z Z<|Q7 Z Z<|Q7 Z Z<|Q7 Z Z<|rR Z Z Z (Qe Z Z)<|rR Z Z Z (Qe Z Z)<|rM Z Z Z<|rR Z Z Z (Q4 Yq Z)<|rR Z Z Z (Q6 KY Z Z Z)<|rR Z Z Z (Jg (α:=Tm) Kx Z (.d _))<|rR Z Z Z (Q4 KC Z)<|rR Z Z Z (Q6 Ji Z Z Z) ?_
 refine rR Z Z Z (Q5 Z Z Z)<|rR Z Z Z (Qe Z Z)<|rA Z Z Z<|Q2 ?_
 have e:=sI h1;subst e;exact Qb ((a0.kids.length:Int)==x5.kids) (sL (Cd _) Z Z Z Z Z) h0;replace h1:=Ql c13 h1;refine rR Z Z Z (Q4 G7 Z)<|rR Z Z Z (Q6 Q0r Z Z Z)<|rR Z Z Z (Jg (α:=Lvl) DY Z (.d _))<|rR Z Z Z (Q4 KD Z)<|rR Z Z Z (Q6 Ji Z Z Z)<|rR Z Z Z (Q5 Z Z Z)<|rR Z Z Z (Qh Z Z)<|rR Z Z Z (Qe Z Z)<|rM Z Z Z ?_
 refine QB (d:=45) (c:=((a0.levels.length:Int)==x5.levels)) Z (λc14=>?_) (λc14=>?_);replace h1:=Qk c14 h1;refine rR Z Z Z (Q4 Yq Z)<|rR Z Z Z (Q6 KY Z Z Z)<|rR Z Z Z (Jg (α:=Tm) Kx Z (.d _))<|rR Z Z Z (Q4 KC Z)<|rR Z Z Z (Q6 Ji Z Z Z)<|rR Z Z Z (Q5 Z Z Z)<|rR Z Z Z (Qe Z Z)<|rA Z Z Z<|Q2 ?_
 have e:=sI h1;subst e;exact Qb ((a0.kids.length:Int)==x5.kids) (sL (Cd _) Z Z Z Z Z) h0;replace h1:=Ql c14 h1;refine Q7 Z Z<|Q7 Z Z<|Q7 Z Z<|Q7 Z Z<|Q7 Z Z<|Q7 Z Z<|rR Z Z Z (Qh Z Z)<|rA Z Z Z<|Q2 ?_
 have e:=sI h1;subst e;exact Qb false (sL (Cd _) Z Z Z Z Z) h0;replace h1:=Ql c12 h1;refine Q7 Z Z<|Q7 Z Z<|Q7 Z Z<|Q7 Z Z<|Q7 Z Z<|Q7 Z Z<|Q7 Z Z<|Q7 Z Z<|Q7 Z Z<|Q7 Z Z<|Q7 Z Z<|rR Z Z Z (Qh Z Z)<|rM Z Z Z<|Q7 Z Z ?_
 refine Q7 Z Z<|Q7 Z Z<|Q7 Z Z<|Q7 Z Z<|Q7 Z Z<|rR Z Z Z (Qh Z Z)<|rA Z Z Z<|Q2 ?_
 have e:=sI h1;subst e;exact Qb false (sL (Cd _) Z Z Z Z Z) h0;replace h1:=Ql c8 h1;refine rR Z Z Z (Q4 UD Z)<|rR Z Z Z (Q6 Ji Z Z Z)<|rR Z Z Z (Q5 Z Z Z)<|rR Z Z Z (Qh Z Z)<|rM Z Z Z ?_
 refine QB (d:=23) (c:=(a0.index==0)) Z (λc15=>?_) (λc15=>?_);replace h1:=Qk c15 h1;refine rR Z Z Z (Q4 Qfk Z)<|rR Z Z Z (Q6 Qg8 Z Z Z)<|rM Z Z Z ?_
 refine QB (d:=26) (c:=x5.name) Z (λc16=>?_) (λc16=>?_);replace h1:=Qk c16 h1;refine Q7 Z Z<|Q7 Z Z<|Q7 Z Z<|rR Z Z Z (Qe Z Z)<|rR Z Z Z (Qe Z Z)<|rM Z Z Z<|rR Z Z Z (Q4 KD Z)<|rR Z Z Z (Q6 Ji Z Z Z)<|rR Z Z Z (Q5 Z Z Z)<|rM Z Z Z ?_
 refine QB (d:=36) (c:=(decide (x5.levels<0))) Z (λc17=>?_) (λc17=>?_);replace h1:=Qk c17 h1;refine Q7 Z Z<|Q7 Z Z<|Q7 Z Z<|Q7 Z Z<|Q7 Z Z<|Q7 Z Z<|rR Z Z Z (Qe Z Z)<|rR Z Z Z (Qe Z Z)<|rM Z Z Z<|rR Z Z Z (Q4 Yq Z)<|rR Z Z Z (Q6 KY Z Z Z)<|rR Z Z Z (Jg (α:=Tm) Kx Z (.d _))<|rR Z Z Z (Q4 KC Z)<|rR Z Z Z (Q6 Ji Z Z Z) ?_
 refine rR Z Z Z (Q5 Z Z Z)<|rR Z Z Z (Qe Z Z)<|rA Z Z Z<|Q2 ?_
 have e:=sI h1;subst e;exact Qb ((a0.kids.length:Int)==x5.kids) (sL (Cd _) Z Z Z Z Z) h0;replace h1:=Ql c17 h1;refine rR Z Z Z (Q4 G7 Z)<|rR Z Z Z (Q6 Q0r Z Z Z)<|rR Z Z Z (Jg (α:=Lvl) DY Z (.d _))<|rR Z Z Z (Q4 KD Z)<|rR Z Z Z (Q6 Ji Z Z Z)<|rR Z Z Z (Q5 Z Z Z)<|rR Z Z Z (Qh Z Z)<|rR Z Z Z (Qe Z Z)<|rM Z Z Z ?_
 refine QB (d:=45) (c:=((a0.levels.length:Int)==x5.levels)) Z (λc18=>?_) (λc18=>?_);replace h1:=Qk c18 h1;refine rR Z Z Z (Q4 Yq Z)<|rR Z Z Z (Q6 KY Z Z Z)<|rR Z Z Z (Jg (α:=Tm) Kx Z (.d _))<|rR Z Z Z (Q4 KC Z)<|rR Z Z Z (Q6 Ji Z Z Z)<|rR Z Z Z (Q5 Z Z Z)<|rR Z Z Z (Qe Z Z)<|rA Z Z Z<|Q2 ?_
 have e:=sI h1;subst e;exact Qb ((a0.kids.length:Int)==x5.kids) (sL (Cd _) Z Z Z Z Z) h0;replace h1:=Ql c18 h1;refine Q7 Z Z<|Q7 Z Z<|Q7 Z Z<|Q7 Z Z<|Q7 Z Z<|Q7 Z Z<|rR Z Z Z (Qh Z Z)<|rA Z Z Z<|Q2 ?_
 have e:=sI h1;subst e;exact Qb false (sL (Cd _) Z Z Z Z Z) h0;replace h1:=Ql c16 h1;refine rR Z Z Z (Q4 Q4q Z)<|rR Z Z Z (Q6 DK Z Z Z)<|rR Z Z Z (Qd5 Z Z)<|rR Z Z Z (Qh Z Z)<|rR Z Z Z (Qe Z Z)<|rM Z Z Z ?_
 refine QB (d:=32) (c:=(a0.name==([]:List UInt8))) Z (λc19=>?_) (λc19=>?_);replace h1:=Qk c19 h1;refine rR Z Z Z (Q4 KD Z)<|rR Z Z Z (Q6 Ji Z Z Z)<|rR Z Z Z (Q5 Z Z Z)<|rM Z Z Z ?_
 refine QB (d:=36) (c:=(decide (x5.levels<0))) Z (λc20=>?_) (λc20=>?_);replace h1:=Qk c20 h1;refine Q7 Z Z<|Q7 Z Z<|Q7 Z Z<|Q7 Z Z<|Q7 Z Z<|Q7 Z Z<|rR Z Z Z (Qe Z Z)<|rR Z Z Z (Qe Z Z)<|rM Z Z Z<|rR Z Z Z (Q4 Yq Z)<|rR Z Z Z (Q6 KY Z Z Z)<|rR Z Z Z (Jg (α:=Tm) Kx Z (.d _))<|rR Z Z Z (Q4 KC Z)<|rR Z Z Z (Q6 Ji Z Z Z) ?_
 refine rR Z Z Z (Q5 Z Z Z)<|rR Z Z Z (Qe Z Z)<|rA Z Z Z<|Q2 ?_
 have e:=sI h1;subst e;exact Qb ((a0.kids.length:Int)==x5.kids) (sL (Cd _) Z Z Z Z Z) h0;replace h1:=Ql c20 h1;refine rR Z Z Z (Q4 G7 Z)<|rR Z Z Z (Q6 Q0r Z Z Z)<|rR Z Z Z (Jg (α:=Lvl) DY Z (.d _))<|rR Z Z Z (Q4 KD Z)<|rR Z Z Z (Q6 Ji Z Z Z)<|rR Z Z Z (Q5 Z Z Z)<|rR Z Z Z (Qh Z Z)<|rR Z Z Z (Qe Z Z)<|rM Z Z Z ?_
 refine QB (d:=45) (c:=((a0.levels.length:Int)==x5.levels)) Z (λc21=>?_) (λc21=>?_);replace h1:=Qk c21 h1;refine rR Z Z Z (Q4 Yq Z)<|rR Z Z Z (Q6 KY Z Z Z)<|rR Z Z Z (Jg (α:=Tm) Kx Z (.d _))<|rR Z Z Z (Q4 KC Z)<|rR Z Z Z (Q6 Ji Z Z Z)<|rR Z Z Z (Q5 Z Z Z)<|rR Z Z Z (Qe Z Z)<|rA Z Z Z<|Q2 ?_
 have e:=sI h1;subst e;exact Qb ((a0.kids.length:Int)==x5.kids) (sL (Cd _) Z Z Z Z Z) h0;replace h1:=Ql c21 h1;refine Q7 Z Z<|Q7 Z Z<|Q7 Z Z<|Q7 Z Z<|Q7 Z Z<|Q7 Z Z<|rR Z Z Z (Qh Z Z)<|rA Z Z Z<|Q2 ?_
 have e:=sI h1;subst e;exact Qb false (sL (Cd _) Z Z Z Z Z) h0;replace h1:=Ql c19 h1;refine Q7 Z Z<|Q7 Z Z<|Q7 Z Z<|Q7 Z Z<|Q7 Z Z<|Q7 Z Z<|Q7 Z Z<|Q7 Z Z<|Q7 Z Z<|Q7 Z Z<|Q7 Z Z<|rR Z Z Z (Qh Z Z)<|rM Z Z Z<|Q7 Z Z ?_
 refine Q7 Z Z<|Q7 Z Z<|Q7 Z Z<|Q7 Z Z<|Q7 Z Z<|rR Z Z Z (Qh Z Z)<|rA Z Z Z<|Q2 ?_
 have e:=sI h1;subst e;exact Qb false (sL (Cd _) Z Z Z Z Z) h0;replace h1:=Ql c15 h1;refine Q7 Z Z<|Q7 Z Z<|Q7 Z Z<|Q7 Z Z<|Q7 Z Z<|Q7 Z Z<|Q7 Z Z<|rR Z Z Z (Qh Z Z)<|rM Z Z Z<|Q7 Z Z<|Q7 Z Z<|Q7 Z Z<|Q7 Z Z<|Q7 Z Z ?_
 refine Q7 Z Z<|Q7 Z Z<|Q7 Z Z<|Q7 Z Z<|Q7 Z Z<|Q7 Z Z<|rR Z Z Z (Qh Z Z)<|rM Z Z Z<|Q7 Z Z<|Q7 Z Z<|Q7 Z Z<|Q7 Z Z<|Q7 Z Z<|Q7 Z Z ?_
 refine rR Z Z Z (Qh Z Z)<|rA Z Z Z<|Q2 ?_
 have e:=sI h1;subst e;exact Qb false (sL (Cd _) Z Z Z Z Z) h0;intro v7 h0;refine Q1<|Qx ?_
 have e:=sI h0;subst e;exact QD (λ_ _ h=>h) Z (Qy Z .nil) (.cons (.one (.d _)) .nil)
def q109:KF UV:=⟨[.stc .t25],[.bool],λv=>UR v⟩
theorem Qwg:Jv DV .any prog 109 q109:=⟨rfl,λv r h=>X7 (Eq.mp (show _=Fun prog 109 (QG DV q109.args v) (Qj (QG DV q109.res r))from by kernel_rfl) (Qxy v r h))⟩
def Z2(a1:Tm)(a0:Scp)(s1:Int):Option (LO Int (Unit⊕Int)):=
 cond (decide (s1<(a1.levels.length:Int))) (Option.bind (QP a1.levels s1) λ(x9:Lvl)=>
 Option.bind (Q1o a0 x9) λ(x10:Int)=>
 cond (x10 != 0) (some (.done (.inr x10))) (some (.next (Qr (s1+1))))) (some (.done (.inl ())))
def Kg(p0_:Tm)(p1_:Scp)(p2_:Int):Option Int:=Option.bind (cond (p0_.kind==0) (cond (decide (p0_.index<0)) (some true) (some (decide (p1_.vars<=(Qr (p0_.index-p2_)))))) (some false)) (λ(b0_:Bool)=>cond b0_ (some 24) (Option.bind (cond (p0_.kind==12) (cond (decide (p0_.index<0)) (some true) (some (decide (p1_.metas<=p0_.index)))) (some false)) (λ(b1_:Bool)=>cond b1_ (some 23) (some 0))))
def Qqe(a0:Scp)(a1:Tm)(a2:Int):Option Int:=
 Option.bind (UR a1) λ(x1:Bool)=>
 cond (!x1) (some 3) (cond (a1.kind==3) (Option.bind (Q1p a1.name) λ(x4:Bool)=>
 cond (!x4) (some 29) (cond (decide (8<(a1.levels.length:Int))) (some 6) (Option.bind (Qc (Z2 a1 a0) Qf 0) (Sum.elim (λ(o7:Unit)=>Kg a1 a0 a2) (λo=>some o))))) (Option.bind (Qc (Z2 a1 a0) Qf 0) (Sum.elim (λ(o21:Unit)=>Kg a1 a0 a2) (λo=>some o))))
def Jb1(a0:Scp)(a1:Tm)(a2:Int):Option (Int):=Option.bind (UR a1) λ(x1:Bool)=>cond ((!x1)) (some 3) (Option.bind (α:=Unit⊕Int) (cond ((a1.kind==3)) (Option.bind (Q1p a1.name) λ(x4:Bool)=>cond ((!x4)) (some (.inr 29)) (cond ((decide (8<(a1.levels.length:Int)))) (some (.inr 6)) (some (.inl ())))) (some (.inl ()))) (Sum.elim (λ(v3:Unit)=>Option.bind (Qc (σ:=Int) (β:=Unit⊕Int) (λs8=>cond ((decide (s8<(a1.levels.length:Int)))) (Option.bind (QP a1.levels s8) λ(x10:Lvl)=>Option.bind (Q1o a0 x10) λ(x11:Int)=>cond ((x11 != 0)) (some (.done (.inr x11))) (some (.next (Qr (s8+1))))) (some (.done (.inl ())))) Qf 0) (Sum.elim (λ(v9:Unit)=>Option.bind (cond ((a1.kind==0)) (cond ((decide (a1.index<0))) (some true) (some (decide (a0.vars<=(Qr (a1.index-a2)))))) (some false)) λ(v12:Bool)=>cond v12 (some 24) (Option.bind (cond ((a1.kind==12)) (cond ((decide (a1.index<0))) (some true) (some (decide (a0.metas<=a1.index)))) (some false)) λ(v13:Bool)=>cond v13 (some 23) (some 0))) (λ(o14:Int)=>some o14))) (λ(o5:Int)=>some o5)))
def p59:KF UV:=⟨[.stc .t107,.stc .t25,.int .i64],[.int .i64],λv=>Jb1 v.1 v.2.1 v.2.2⟩
def Jby:Hints UV:=⟨[(5,⟨[],[],true⟩),(13,⟨[([.reg 27],.int .i64)],[],true⟩),(24,⟨[([.reg 38],.bool)],[],false⟩),(27,⟨[([.reg 56],.bool)],[],false⟩)],[]⟩
theorem J1e:Jv DV .any prog 59 p59:=JD (C:=CV) rfl Qu Qg (Qt (tb:=[(109,q109),(110,q110),(111,q111)]) Qg ⟨Qwg,Ql3,Qwf,trivial⟩) J2 func59 J99 Jby p59 rfl (λv=>by kernel_rfl)
theorem J1k(a0:Scp)(a1:Tm)(a2:Int):Jb1 a0 a1 a2=Qqe a0 a1 a2:=by unfold Jb1 Qqe;cases UR a1 with|none=>rfl|some x1=>cases x1 with|false=>rfl|true=>cases hk:(a1.kind==3)with|false=>rfl|true=>cases Q1p a1.name with|none=>rfl|some x4=>cases x4 with|false=>rfl|true=>cases(decide (8<(a1.levels.length:Int))) <;> rfl
def q59:KF UV:=⟨[.stc .t107,.stc .t25,.int .i64],[.int .i64],λv=>Qqe v.1 v.2.1 v.2.2⟩
theorem J1b:Jv DV .any prog 59 q59:=⟨rfl,λv r h=>J1e.2 v r ((J1k v.1 v.2.1 v.2.2).trans h)⟩
theorem J22(a0:Scp)(a1:Tm)(a2:Int)(r:Int)(h0:Qqe a0 a1 a2=some r):Fun prog 59 [.agg (cE a0),.agg (cE a1),.one (dI a2)] (Qj [.one (dI r)]):=FunW.any (Eq.mp (show FunW .any prog 59 (QG DV q59.args (a0,a1,a2)) (Qj (QG DV q59.res r))=_ from by kernel_rfl) (J1b.2 (a0,a1,a2) r h0))
def Xr(p0_:Tm×Int×Tm×Int×Scp×Int×Tm->Option ((Int×Int)⊕(Bool×Int)))(p1_:Tm)(p2_:Int)(p3_:Tm)(p4_:Int)(p5_:Scp)(p6_:Int×Int)(p7_:Tm):Option (LO (Int×Int) (Int⊕((Int×Int)⊕(Bool×Int)))):=Option.bind (p0_ (p1_,p2_,p3_,p4_,p5_,p6_.2,p7_)) (Sum.elim (λ(b0_:Int×Int)=>some (.done (.inr (.inl (b0_.1,b0_.2))))) (λ(b1_:Bool×Int)=>cond (!b1_.1) (some (.done (.inr (.inr (false,b1_.2))))) (some (.next ((Qr (p6_.1+1)),b1_.2)))))
def YK(a0:Tm)(v9:Int)(a1:Int)(rc:Tm×Int×Tm×Int×Scp×Int×Tm->Option ((Int×Int)⊕(Bool×Int)))(a2:Tm)(a3:Int)(a4:Scp)(a6:Tm)(s1:Int×Int):Option (LO (Int×Int) (Int⊕((Int×Int)⊕(Bool×Int)))):=
 cond (decide (s1.1<(a0.kids.length:Int))) (Option.bind (QP a0.kids s1.1) λ(x12:Tm)=>
 Option.bind (cond (s1.1==v9) (some (Qr (a1+1))) (some a1)) (λ(v13:Int)=>Xr rc x12 v13 a2 a3 a4 s1 a6)) (some (.done (.inl s1.2)))
def Kk(p0_:Bool)(p1_:Tm)(p2_:Int)(p3_:Tm×Int×Tm×Int×Scp×Int×Tm->Option ((Int×Int)⊕(Bool×Int)))(p4_:Tm)(p5_:Int)(p6_:Scp)(p7_:Tm)(p8_:Int):Option ((Int×Int)⊕(Bool×Int)):=
 Option.bind (cond p0_ (Qa (cond (decide (0<=p1_.kind)) (Nat.blt p1_.kind.toNat 13) false)
 (Option.bind (QP ([(-1),(-1),(-1),(-1),(-1),1,1,1,(-1),(-1),(-1),2,(-1)]:List Int) p1_.kind) λ(b0_:Int)=>
 some b0_)) (some (-1))) (λ(b1_:Int)=>Option.bind (Qc (YK p1_ b1_ p2_ p3_ p4_ p5_ p6_ p7_) Qf (0,(Qr (p8_+1)))) (Sum.elim (λ(b2_:Int)=>some (.inr (true,b2_))) (λo=>some o)))
abbrev YL:HB:=.loop .ready none Vb 45 #[27,28] ZV Z3 2
abbrev Jk:HB:=.cells 156 Va
abbrev Qp3(p0_:Tm)(p1_:Int)(p2_:Scp)(p3_:Int)(p4_:Tm)(p5_:Tm):List (Nat×HB):=[Vh,(1,YL),Ve,(3,.cells 25 (cE p0_)),(4,.cells 28 [dI p1_]),(5,.cells 107 (cE p2_)),(6,.cells 3 [dI p3_]),(7,.cells 25 (cE p4_)),(8,Jk),Vd,(10,.cells 25 (cE p5_))]
abbrev Ge:HB:=.loop .busy none Vb 45 #[27,28] ZV Z3 2
abbrev UB(p0_:Tm)(p1_:Int)(p2_:Scp)(p3_:Int)(p4_:Tm)(p5_:Tm):List (Nat×HB):=[Vh,(1,Ge),Ve,(3,.cells 25 (cE p0_)),(4,.cells 28 [dI p1_]),(5,.cells 107 (cE p2_)),(6,.cells 3 [dI p3_]),(7,.cells 25 (cE p4_)),(8,Jk),Vd,(10,.cells 25 (cE p5_)),(11,.cells 25 (cE p5_))]
abbrev Qp2(p0_:Tm)(p1_:Int)(p2_:Scp)(p3_:Int)(p4_:Tm)(p5_:Tm):List (Nat×HB):=[Vh,(1,YL),Ve,(3,.cells 25 (cE p0_)),(4,.cells 28 [dI p1_]),(5,.cells 107 (cE p2_)),(6,.cells 3 [dI p3_]),(7,.cells 25 (cE p4_)),(8,Jk),Vd,(10,.cells 25 (cE p5_)),(11,.cells 25 (cE p5_))]
abbrev UA(p0_:Tm)(p1_:Int)(p2_:Scp)(p3_:Int)(p4_:Tm)(p5_:Tm):List (Nat×HB):=[Vh,(1,Ge),Ve,(3,.cells 25 (cE p0_)),(4,.cells 28 [dI p1_]),(5,.cells 107 (cE p2_)),(6,.cells 3 [dI p3_]),(7,.cells 25 (cE p4_)),(8,Jk),Vd,(10,.cells 25 (cE p5_))]
abbrev Qp1(p0_:Tm)(p1_:Int)(p2_:Scp)(p3_:Int×Int)(p4_:Tm)(p5_:Tm)(p6_:Tm):List (Nat×HB):=[Vh,(1,YL),Ve,(3,.cells 25 (cE p0_)),(4,.cells 28 [dI p1_]),(5,.cells 107 (cE p2_)),(6,.cells 3 [dI p3_.2]),(7,.cells 25 (cE p4_)),(8,Jk),Vd,(10,.cells 25 (cE p5_)),(12,.cells 25 (cE p6_))]
abbrev Q1q:HB:=.loop .done (some .ret) Vb 45 #[27,28] ZV Z3 2
abbrev Qp0(p0_:Tm)(p1_:Int×Int)(p2_:Scp)(p3_:Tm):List (Nat×HB):=[Vh,(1,Q1q),Ve,(3,.cells 25 (cE p0_)),(4,.cells 28 [dI p1_.1]),(5,.cells 107 (cE p2_)),(6,.cells 3 [dI p1_.2]),(7,.cells 25 (cE p3_)),(8,Jk),Vd]
abbrev Qin(p0_:Tm)(p1_:Int)(p2_:Scp)(p3_:Bool×Int)(p4_:Tm):List (Nat×HB):=[Vh,(1,YL),Ve,(3,.cells 25 (cE p0_)),(4,.cells 28 [dI p1_]),(5,.cells 107 (cE p2_)),(6,.cells 3 [dI p3_.2]),(7,.cells 25 (cE p4_)),(8,Jk),Vd]
abbrev Kl(p0_:Tm)(p1_:Int)(p2_:Scp)(p3_:Int)(p4_:Tm):List (Nat×HB):=[Vh,(1,YL),Ve,(3,.cells 25 (cE p0_)),(4,.cells 28 [dI p1_]),(5,.cells 107 (cE p2_)),(6,.cells 3 [dI p3_]),(7,.cells 25 (cE p4_)),(8,Jk),Vd]
abbrev Qim(p0_:Tm)(p1_:Int)(p2_:Scp)(p3_:Int)(p4_:Tm):List (Nat×HB):=[Vh,(1,Q1q),Ve,(3,.cells 25 (cE p0_)),(4,.cells 28 [dI p1_]),(5,.cells 107 (cE p2_)),(6,.cells 3 [dI p3_]),(7,.cells 25 (cE p4_)),(8,Jk),Vd]
def GT(rc:Tm×Int×Tm×Int×Scp×Int×Tm->Option ((Int×Int)⊕(Bool×Int)))(a0:Tm)(a1:Int)(a2:Tm)(a3:Int)(a4:Scp)(a5:Int)(a6:Tm):Option ((Int×Int)⊕(Bool×Int)):=
 Option.bind (Option.bind (Qqe a4 a0 a1) λ(x6:Int)=>
 cond (x6 != 0) (some (.inr x6)) (some (.inl ()))) (Sum.elim (λ(y1:Unit)=>Option.bind (cond (decide (0<=a0.kind)) (some (decide (a0.kind<13))) (some false)) (λ(v8:Bool)=>Kk v8 a0 a1 rc a2 a3 a4 a6 a5)) (λ(y2:Int)=>some (.inl (y2,a5))))
def YW(rc:Tm×Int×Tm×Int×Scp×Int×Tm->Option ((Int×Int)⊕(Bool×Int)))(u:Tm×Int×Tm×Int×Scp×Int×Tm):Option ((Int×Int)⊕(Bool×Int)):=GT rc u.1 u.2.1 u.2.2.1 u.2.2.2.1 u.2.2.2.2.1 u.2.2.2.2.2.1 u.2.2.2.2.2.2
def Qbw(a0:Tm)(a1:Int)(a2:Tm)(a3:Int)(a4:Scp)(a5:Int)(a6:Tm):Option ((Int×Int)⊕(Bool×Int)):=Jm YW Qf (a0,a1,a2,a3,a4,a5,a6)
abbrev JB(a0:Tm)(a1:Int)(a2:Tm)(a3:Int)(a4:Scp)(a5:Int)(a6:Tm):(Int×Int)⊕(Bool×Int)->St:=(Sum.elim (λ(r0:Int×Int)=>(⟨[(7,.v (.one (dB false)))],[Vh,(1,Q1q),Ve,(3,.cells 25 (cE a2)),(4,.cells 28 [dI r0.1]),(5,.cells 107 (cE a4)),(6,.cells 3 [dI r0.2]),(7,.cells 25 (cE a6)),(8,Jk),Vd],[],12,50,[]⟩:St)) (λ(r1:Bool×Int)=>(⟨[(7,.v (.one (dB r1.1)))],[Vh,(1,YL),Ve,(3,.cells 25 (cE a2)),(4,.cells 28 [dI a3]),(5,.cells 107 (cE a4)),(6,.cells 3 [dI r1.2]),(7,.cells 25 (cE a6)),(8,Jk),Vd],[],12,50,[]⟩:St)))
theorem Qil(rc:Tm×Int×Tm×Int×Scp×Int×Tm->Option ((Int×Int)⊕(Bool×Int)))(H:∀(a0:Tm)(a1:Int)(a2:Tm)(a3:Int)(a4:Scp)(a5:Int)(a6:Tm)(r:(Int×Int)⊕(Bool×Int)),rc (a0,a1,a2,a3,a4,a5,a6)=some r->CallE prog 108 [.agg (cE a0),.one (dI a1),.one (.ptr 0 0),.one (.ptr 8 0),.one (.ptr 9 0)] ⟨Kl a2 a3 a4 a5 a6,[],10⟩ ((Sum.elim (λ(r0:Int×Int)=>((.ret [.one (dB false)]):EK)) (λ(r1:Bool×Int)=>((.ret [.one (dB r1.1)]):EK))) r) ⟨((JB a0 a1 a2 a3 a4 a5 a6) r).hp,((JB a0 a1 a2 a3 a4 a5 a6) r).tk,((JB a0 a1 a2 a3 a4 a5 a6) r).nx⟩)(a0:Tm)(a1:Int)(a2:Tm)(a3:Int)(a4:Scp)(a5:Int)(a6:Tm)(r:(Int×Int)⊕(Bool×Int))(h0:GT rc a0 a1 a2 a3 a4 a5 a6=some r):CallE prog 108 [.agg (cE a0),.one (dI a1),.one (.ptr 0 0),.one (.ptr 8 0),.one (.ptr 9 0)] ⟨Kl a2 a3 a4 a5 a6,[],10⟩ ((Sum.elim (λ(r0:Int×Int)=>((.ret [.one (dB false)]):EK)) (λ(r1:Bool×Int)=>((.ret [.one (dB r1.1)]):EK))) r) ⟨((JB a0 a1 a2 a3 a4 a5 a6) r).hp,((JB a0 a1 a2 a3 a4 a5 a6) r).tk,((JB a0 a1 a2 a3 a4 a5 a6) r).nx⟩:=by
 unfold GT at h0;refine Q8e r ((JB a0 a1 a2 a3 a4 a5 a6)) ((Sum.elim (λ(r0:Int×Int)=>((.ret [.one (dB false)]):EK)) (λ(r1:Bool×Int)=>((.ret [.one (dB r1.1)]):EK)))) rfl rfl J5b (lb rfl) (λz_=>by cases z_ with
 |inl _=>exact rfl
 |inr _=>exact rfl) (λz_=>by cases z_ with
 |inl _=>exact(Jcn (Qy rfl .nil))
 |inr _=>exact(Jcn (Qy rfl .nil))) (λw0 M V0 Q hv0 hQ0=>?_)
 simp only[J4];refine Q3<|Q0<|Qm Z Z (lb Z) (Ju Z)<|rA Z Z Z<|Q2<|Q1<|Q3<|Q3<|Q0<|rR Z Z Z (Q6 J5v Z Z Z)<|rM Z Z Z<|rR Z Z Z (Yf (a0:Tm) KX Z Z) ?_
 refine Qn h0 (λy3 h1 h0=>?_);have ha4:ExecOK prog (some 1) ZV ⟨[(5,.v (.one (.ptr 3 0))),(10,.v (.one (.ptr 4 0))),(11,.v (.one (.ptr 5 0))),(12,.v (.one (.ptr 6 0))),(26,.v (.one (.fn 106 [(7,0)]))),(27,.v (.one (dI a1))),(28,.v (.agg (cE a0)))],Qp3 a2 a3 a4 a5 a6 a0,[],11,45,[]⟩ .normal ⟨[(10,.v (.one (.ptr 4 0))),(11,.v (.one (.ptr 5 0))),(12,.v (.one (.ptr 6 0))),(13,.v (.one (dI a1))),(14,.v (.one (.ptr 11 0)))],Qp2 a2 a3 a4 a5 a6 a0,[],12,45,[]⟩:=by refine Q3r (λw0 M V0 ro n Q hv1 hro1 hQn1=>?_);(refine Q3<|Q0<|rA Z Z Z<|Q2<|Q1<|Q0<|Qm Z Z (lb Z) (J0 J6o Z)<|J1 Z Z (Zd (a0:Tm) KX Z Z Z Z Z)<|Q2 ?_);exact Qv8 hQn1 (sL (Cg hv1 (lb Z)) Z Z Z Z Z)
 have hb5:ExecOK prog (some 1) Z3 ⟨[(10,.v (.one (.ptr 4 0))),(11,.v (.one (.ptr 5 0))),(12,.v (.one (.ptr 6 0))),(13,.v (.one (dI a1))),(14,.v (.one (.ptr 11 0)))],UB a2 a3 a4 a5 a6 a0,[],12,45,[]⟩ ((Sum.elim (λ(_:Unit)=>(.normal:Exit)) (λ(_:Int)=>(.ret:Exit))) y3) ((Sum.elim (λ(y1:Unit)=>(⟨[],[Vh,(1,Ge),Ve,(3,.cells 25 (cE a2)),(4,.cells 28 [dI a3]),(5,.cells 107 (cE a4)),(6,.cells 3 [dI (Qr (a5+1))]),(7,.cells 25 (cE a6)),(8,Jk),Vd,(10,.cells 25 (cE a0))],[],12,45,[]⟩:St)) (λ(y2:Int)=>(⟨[],UA a2 y2 a4 a5 a6 a0,[],12,45,[]⟩:St))) y3):=by
  refine Q3r (λw0 M V0 ro n Q hv1 hro1 hQn1=>?_);refine QC<|Q3<|Q3<|Q0<|rR Z Z Z (Yf (a4:Scp) Qv7 Z Z)<|rR Z Z Z (Yf (a0:Tm) KX Z Z)<|rM Z Z Z ?_
  refine Qn h1 (λx6 hx6 h1=>?_);refine Qm Z Z (lb Z) (QO (J22 a4 a0 a1 x6 hx6) Z (.cons (.agg (.cons (.d _) (.cons (.d _) (.cons (.d _) (.cons (.d _) .nil))))) (.cons (.agg (.cons (.d _) (.cons (.d _) (.cons (.d _) (.cons (.d _) (.cons (.d _) .nil)))))) (.cons (.one (.d _)) .nil))))<|rA Z Z Z<|Q2<|Q1<|Q3<|Q0<|rM Z Z Z<|rR Z Z Z (Q5 Z Z Z)<|Q2<|Q1 ?_
  refine Qi (b:=(x6 != 0)) Z (λc7=>?_) (λc7=>?_);replace h1:=Qk c7 h1;refine Q3<|Q0<|rM Z Z Z<|J1 Z Z (Qz XJ Z Z Z Z (lb Z) Z)<|Q2<|Q1<|Qx ?_
  have e:=sI h1;subst e;exact Qv8 (e:=.ret) (st':=⟨[],UA a2 x6 a4 a5 a6 a0,[],12,45,[]⟩) hQn1 (sL (Cg hv1 (lb Z)) Z Z Z Z Z);replace h1:=Ql c7 h1;refine Qp<|Q1<|Q0<|rR Z Z Z (Q6 Ji Z Z Z)<|rR Z Z Z (Q5 Z Z Z)<|J1 Z Z (Qz Ji Z Z Z Z (lb Z) Z)<|Q2<|QU ?_
  have e:=sI h1;subst e;exact Qv8 (e:=.normal) (st':=⟨[],[Vh,(1,Ge),Ve,(3,.cells 25 (cE a2)),(4,.cells 28 [dI a3]),(5,.cells 107 (cE a4)),(6,.cells 3 [dI (Qr (a5+1))]),(7,.cells 25 (cE a6)),(8,Jk),Vd,(10,.cells 25 (cE a0))],[],12,45,[]⟩) hQn1 (sL (Cg hv1 (lb Z)) Z Z Z Z Z)
 refine J6x (C:=λq_=>ExecOK prog (some 1) Z3 ⟨[(10,.v (.one (.ptr 4 0))),(11,.v (.one (.ptr 5 0))),(12,.v (.one (.ptr 6 0))),(13,.v (.one (dI a1))),(14,.v (.one (.ptr 11 0)))],UB a2 a3 a4 a5 a6 a0,[],12,45,[]⟩ ((Sum.elim (λ(_:Unit)=>(.normal:Exit)) (λ(_:Int)=>(.ret:Exit))) q_) ((Sum.elim (λ(y1:Unit)=>(⟨[],[Vh,(1,Ge),Ve,(3,.cells 25 (cE a2)),(4,.cells 28 [dI a3]),(5,.cells 107 (cE a4)),(6,.cells 3 [dI (Qr (a5+1))]),(7,.cells 25 (cE a6)),(8,Jk),Vd,(10,.cells 25 (cE a0))],[],12,45,[]⟩:St)) (λ(y2:Int)=>(⟨[],UA a2 y2 a4 a5 a6 a0,[],12,45,[]⟩:St))) q_)) hb5 h0 (λy1 hb5 h0=>?_) (λy2 hb5 h0=>?_);replace hb5:ExecOK prog (some 1) Z3 ⟨[(10,.v (.one (.ptr 4 0))),(11,.v (.one (.ptr 5 0))),(12,.v (.one (.ptr 6 0))),(13,.v (.one (dI a1))),(14,.v (.one (.ptr 11 0)))],UB a2 a3 a4 a5 a6 a0,[],12,45,[]⟩ .normal ⟨[],[Vh,(1,Ge),Ve,(3,.cells 25 (cE a2)),(4,.cells 28 [dI a3]),(5,.cells 107 (cE a4)),(6,.cells 3 [dI (Qr (a5+1))]),(7,.cells 25 (cE a6)),(8,Jk),Vd,(10,.cells 25 (cE a0))],[],12,45,[]⟩:=hb5;refine Qm Z Z (lb Z) (Q7p (jump:=none) Z Z Z Z Z (X8 ha4 (λE hv=>(sL (Cg hv (lb Z)) Z Z Z Z Z))) Z (X8 hb5 (λE hv=>(sL (Cg hv (lb Z)) Z Z Z Z Z))) Z Z) ?_;refine rR Z Z Z (Zk Z)<|Q2<|Q1 ?_
 refine Qi Z (λh=>nomatch h) (λ_=>?_);refine Qp<|Q1<|Q3<|Q0<|rA Z Z Z<|Q2<|Q1<|Q3<|Q3 ?_
 refine QN (λ(v8:Bool)=>⟨[(1,.v (.one (dI a1))),(3,.v (.one (.ptr 8 0))),(4,.v (.one (.ptr 9 0))),(5,.v (.one (.ptr 10 0))),(8,.v (.one (dI (-1)))),(24,.v (.one (dB v8)))],[Vh,(1,YL),Ve,(3,.cells 25 (cE a2)),(4,.cells 28 [dI a3]),(5,.cells 107 (cE a4)),(6,.cells 3 [dI (Qr (a5+1))]),(7,.cells 25 (cE a6)),(8,Jk),Vd,(10,.cells 25 (cE a0))],[],12,50,[]⟩) (λ(v8:Bool)=>(Kk v8 a0 a1 rc a2 a3 a4 a6 a5)=some r) ?_ ?_;refine Qn h0 (λw1_ h1 h0=>?_);refine Q0<|rR Z Z Z (Q4 JT Z)<|rR Z Z Z (Q6 Ji Z Z Z)<|rR Z Z Z (Q5 Z Z Z)<|rM Z Z Z ?_
 refine QB (d:=20) (c:=(decide (0<=a0.kind))) Z (λc9=>?_) (λc9=>?_);replace h1:=Qk c9 h1;refine rR Z Z Z (Q4 JT Z)<|rR Z Z Z (Q6 Ji Z Z Z)<|rR Z Z Z (Q5 Z Z Z)<|rR Z Z Z (Qe Z Z)<|Q2 ?_
 have e:=sI h1;subst e;exact Qb (decide (a0.kind<13)) (sL (Cg hv0 (lb Z)) Z Z Z Z Z) h0;replace h1:=Ql c9 h1;refine Q7 Z Z<|Q7 Z Z<|Q7 Z Z<|rR Z Z Z (Qh Z Z)<|Q2 ?_
 have e:=sI h1;subst e;exact Qb false (sL (Cg hv0 (lb Z)) Z Z Z Z Z) h0;intro v8 h0;unfold Kk at h0;refine Q1 ?_;refine QN (λ(v10:Int)=>⟨[(1,.v (.one (dI a1))),(4,.v (.one (.ptr 9 0))),(5,.v (.one (.ptr 10 0))),(8,.v (.one (dI v10)))],[Vh,(1,YL),Ve,(3,.cells 25 (cE a2)),(4,.cells 28 [dI a3]),(5,.cells 107 (cE a4)),(6,.cells 3 [dI (Qr (a5+1))]),(7,.cells 25 (cE a6)),(8,Jk),Vd,(10,.cells 25 (cE a0))],[],12,50,[]⟩) (λ(v10:Int)=>(Option.bind (Qc (YK a0 v10 a1 rc a2 a3 a4 a6) Qf (0,(Qr (a5+1)))) (Sum.elim (λ(o11:Int)=>some (.inr (true,o11))) (λo=>some o)))=some r) ?_ ?_;refine Qn h0 (λw1_ h1 h0=>?_);refine Qi (b:=v8) Z (λc11=>?_) (λc11=>?_);replace h1:=Qk c11 h1;refine Q0<|rR Z Z Z (Q4 JT Z)<|rR Z Z Z (Q6 Ji Z Z Z) ?_
 refine Dz h1 (λg12 h1=>?_);refine rR Z Z Z (Qq2 Qzi Z Z g12)<|rR Z Z Z (Q4 Qu1 Z) ?_
 refine Qn h1 (λx13 hx13 h1=>?_);refine rR Z Z Z (Qk5 (m:=a0.kind) (sz:=5) (f:=4) (col:=([(-1),(-1),(-1),(-1),(-1),1,1,1,(-1),(-1),(-1),2,(-1)]:List Int)) Ji Z Z Z hx13)<|rA Z Z Z<|Q2 ?_
 have e:=sI h1;subst e;exact Qb x13 (sL (Cg hv0 (lb Z)) Z Z Z Z Z) h0;replace h1:=Ql c11 h1;refine Qp ?_;have e:=sI h1;subst e;exact Qb (-1) (sL (Cg hv0 (lb Z)) Z Z Z Z Z) h0;intro v10 h0;refine Q1<|Q3<|Q3<|Q0<|rR Z Z Z (Q4 Yq Z)<|rR Z Z Z (Q6 KY Z Z Z)<|rR Z Z Z (Jg (α:=Tm) Kx Z (.d _))<|rM Z Z Z<|Q2<|Q1<|QC ?_
 refine Y5 0 (λ(o14:Int)=>⟨[],[Vh,(1,YL),Ve,(3,.cells 25 (cE a2)),(4,.cells 28 [dI a3]),(5,.cells 107 (cE a4)),(6,.cells 3 [dI o14]),(7,.cells 25 (cE a6)),(8,Jk),Vd,(10,.cells 25 (cE a0))],[],12,50,[]⟩) (λ(o14:Int)=>(some (.inr (true,o14)))=some r) ?_ ?_;refine Qn h0 (λo15 hl1 h0=>?_);refine Y4 (YK a0 v10 a1 rc a2 a3 a4 a6) (λs1=>⟨[(1,.v (.one (dI a1))),(4,.v (.one (.ptr 9 0))),(8,.v (.one (dI v10))),(31,.v (.one (dS a0.kids))),(32,.v (.one (dI (a0.kids.length:Int)))),(33,.v (.one (dI s1.1)))],[Vh,(1,YL),Ve,(3,.cells 25 (cE a2)),(4,.cells 28 [dI a3]),(5,.cells 107 (cE a4)),(6,.cells 3 [dI s1.2]),(7,.cells 25 (cE a6)),(8,Jk),Vd,(10,.cells 25 (cE a0))],[],12,50,[]⟩) (0,(Qr (a5+1))) o15 (sL (Cg hv0 (lb Z)) Z Z Z Z Z) hl1 (λs1 n1 oo1 h1 ho1=>?_);unfold YK at h1;refine Q3<|Q0<|rR Z Z Z (Q5 Z Z Z)<|Q2<|Q1<|Q3 ?_
 refine Qi (b:=(decide (s1.1<(a0.kids.length:Int)))) Z (λc16=>?_) (λc16=>?_);replace h1:=Qk c16 h1;refine Qp<|Q1<|Q3<|QC<|Q3<|Q0<|rM Z Z Z ?_
 refine Qn h1 (λx17 hx17 h1=>?_);refine rR Z Z Z (JH (α:=Tm) Kx Z (.d _) Z hx17)<|rR Z Z Z (JV (x17:Tm) KX Z)<|Qm Z Z (lb Z) (J0 J6o Z)<|rA Z Z Z<|J1 Z Z (Zd (x17:Tm) KX Z Z Z Z Z)<|Q2<|Q1<|Q3<|Q0<|rM Z Z Z<|rA Z Z Z<|Q2<|Q1<|Q3 ?_
 refine Q3<|Q0<|rM Z Z Z<|rM Z Z Z<|rR Z Z Z (Q5 Z Z Z)<|Q2<|Q1 ?_
 refine QN (λ(v18:Int)=>⟨[(1,.v (.one (dI a1))),(4,.v (.one (.ptr 9 0))),(8,.v (.one (dI v10))),(10,.v (.one (.ptr 12 0))),(11,.v (.one (dI v18))),(31,.v (.one (dS a0.kids))),(32,.v (.one (dI (a0.kids.length:Int)))),(33,.v (.one (dI s1.1)))],Qp1 a2 a3 a4 s1 a6 a0 x17,[],13,50,[]⟩) (λ(v18:Int)=>(Xr rc x17 v18 a2 a3 a4 s1 a6)=some oo1) ?_ ?_;refine Qn h1 (λw2_ h2 h1=>?_);refine Qi (b:=(s1.1==v10)) Z (λc19=>?_) (λc19=>?_);replace h2:=Qk c19 h2;refine Q0<|rM Z Z Z<|rR Z Z Z (Q5 Z Z Z)<|rA Z Z Z<|Q2 ?_
 have e:=sI h2;subst e;exact Qb (Qr (a1+1)) (sL (Cg hv0 (lb Z)) Z Z Z Z Z) h1;replace h2:=Ql c19 h2;refine Qp ?_;have e:=sI h2;subst e;exact Qb a1 (sL (Cg hv0 (lb Z)) Z Z Z Z Z) h1;intro v18 h1;unfold Xr at h1;refine Q1<|Q3<|Q0<|rR Z Z Z (Q6 Qv5 Z Z Z)<|rR Z Z Z (Yf (x17:Tm) KX Z Z)<|rM Z Z Z ?_
 refine Qn h1 (λx20 hx20 h1=>?_);refine J6y id hx20 h1 (λx21 hx21 h1=>?_) (λx22 hx22 h1=>?_);refine Qm Z Z (lb Z) (QE (hp1':=[Vh,(1,.loop .done (some .ret) Vb 45 #[27,28] ZV Z3 2),Ve,(3,.cells 25 (cE a2)),(4,.cells 28 [dI x21.1]),(5,.cells 107 (cE a4)),(6,.cells 3 [dI x21.2]),(7,.cells 25 (cE a6)),(8,.cells 156 Va),Vd]) (tk1':=[]) (hpF:=[(10,.cells 25 (cE a0)),(12,.cells 25 (cE x17))]) (tkF:=[]) (res2:=Qj [.one (dB false)]) (nx2:=15) [0,1,2,3,4,5,6,7,8,9] Z Z (CallE.m (H x17 v18 a2 a3 a4 s1.2 a6 (.inl x21) hx21)) Z Z (qB Z Z (qB Z Z (qB Z Z (qB Z Z (qB Z Z (qB Z Z (qB Z Z (qB Z Z (qB Z Z (qB Z Z qZ)))))))))) Z Z (gR Z (gR Z (gR Z (gR Z (gR Z (gR Z (gR Z (gR Z (gR Z (gR Z gZ)))))))))) jZ (hA Z) kZ Z Z Z Z Z (bA Z) Z Z Z Z)<|rR Z Z Z (Zk Z)<|Q2<|Q1 ?_
 refine Qi Z (λ_=>?_) (λh=>nomatch h);refine Q3<|Q0<|rA Z Z Z<|Q2<|Q1<|Qx ?_
 have e:=sI h1;subst e;have e_:_=_:=ho1;subst e_;try dsimp only[Sum.elim_inl,Sum.elim_inr]at h0
 have e:=sI h0;subst e;exact hQ0 _ _ Jas Z (show StLe _ _ ⟨[(7,.v (.one (dB false)))],Qp0 a2 x21 a4 a6,[],12,50,[]⟩from(sL (Cg hv0 (lb Z)) Z Z Z Z Z));refine Qm Z Z (lb Z) (QE (hp1':=[Vh,(1,.loop .ready none Vb 45 #[27,28] ZV Z3 2),Ve,(3,.cells 25 (cE a2)),(4,.cells 28 [dI a3]),(5,.cells 107 (cE a4)),(6,.cells 3 [dI x22.2]),(7,.cells 25 (cE a6)),(8,.cells 156 Va),Vd]) (tk1':=[]) (hpF:=[(10,.cells 25 (cE a0)),(12,.cells 25 (cE x17))]) (tkF:=[]) (res2:=Qj [.one (dB x22.1)]) (nx2:=15) [0,1,2,3,4,5,6,7,8,9] Z Z (CallE.m (H x17 v18 a2 a3 a4 s1.2 a6 (.inr x22) hx22)) Z Z (qB Z Z (qB Z Z (qB Z Z (qB Z Z (qB Z Z (qB Z Z (qB Z Z (qB Z Z (qB Z Z (qB Z Z qZ)))))))))) Z Z (gR Z (gR Z (gR Z (gR Z (gR Z (gR Z (gR Z (gR Z (gR Z (gR Z gZ)))))))))) jZ (hA Z) kZ Z Z Z Z Z (bA Z) Z Z Z Z)<|rR Z Z Z (Zk Z)<|Q2<|Q1 ?_
 refine Qi (b:=(!x22.1)) Z (λc23=>?_) (λc23=>?_);replace h1:=Qk c23 h1;refine Q3<|Q0<|rA Z Z Z<|Q2<|Q1<|Qx ?_
 have e:=sI h1;subst e;have e_:_=_:=ho1;subst e_;try dsimp only[Sum.elim_inl,Sum.elim_inr]at h0
 have e:=sI h0;subst e;exact hQ0 _ _ Jas Z (show StLe _ _ ⟨[(7,.v (.one (dB false)))],Qin a2 a3 a4 x22 a6,[],12,50,[]⟩from(sL (Cg hv0 (lb Z)) Z Z Z Z Z));replace h1:=Ql c23 h1;refine Qp<|QU<|Q1<|Q0<|rR Z Z Z (Q5 Z Z Z)<|rM Z Z Z<|Q2 ?_
 have e:=sI h1;subst e;refine JK ((Qr (s1.1+1)),x22.2) (sL (Cg hv0 (lb Z)) Z Z Z Z Z) ho1;replace h1:=Ql c16 h1;refine Y9<|QV<|QV ?_
 have e:=sI h1;subst e;have e_:_=_:=ho1;subst e_;exact Y3 s1.2 (sL (Cg hv0 (lb Z)) Z Z Z Z Z) h0;intro o14 h0;refine Jo<|Q1<|Q3<|Q0<|rA Z Z Z<|Q2<|Q1<|Qx ?_
 have e:=sI h0;subst e;exact hQ0 _ _ Jas Z (show StLe _ _ ⟨[(7,.v (.one (dB true)))],Kl a2 a3 a4 o14 a6,[],12,50,[]⟩from(sL (Cg hv0 (lb Z)) Z Z Z Z Z));replace hb5:ExecOK prog (some 1) Z3 ⟨[(10,.v (.one (.ptr 4 0))),(11,.v (.one (.ptr 5 0))),(12,.v (.one (.ptr 6 0))),(13,.v (.one (dI a1))),(14,.v (.one (.ptr 11 0)))],UB a2 a3 a4 a5 a6 a0,[],12,45,[]⟩ .ret ⟨[],UA a2 y2 a4 a5 a6 a0,[],12,45,[]⟩:=hb5;refine Qm Z Z (lb Z) (Q7p (jump:=(some .ret)) Z Z Z Z Z (X8 ha4 (λE hv=>(sL (Cg hv (lb Z)) Z Z Z Z Z))) Z (X8 hb5 (λE hv=>(sL (Cg hv (lb Z)) Z Z Z Z Z))) Z Z) ?_;refine rR Z Z Z (Zk Z)<|Q2<|Q1 ?_
 refine Qi Z (λ_=>?_) (λh=>nomatch h);refine Q3<|Q0<|rA Z Z Z<|Q2<|Q1<|Qx ?_
 have e:=sI h0;subst e;exact hQ0 _ _ Jas Z (show StLe _ _ ⟨[(7,.v (.one (dB false)))],Qim a2 y2 a4 a5 a6,[],12,50,[]⟩from(sL (Cg hv0 (lb Z)) Z Z Z Z Z))
theorem Qio(n:Nat)(u:Tm×Int×Tm×Int×Scp×Int×Tm)(r:(Int×Int)⊕(Bool×Int))(h0:Jm YW n u=some r):CallE prog 108 [.agg (cE u.1),.one (dI u.2.1),.one (.ptr 0 0),.one (.ptr 8 0),.one (.ptr 9 0)] ⟨Kl u.2.2.1 u.2.2.2.1 u.2.2.2.2.1 u.2.2.2.2.2.1 u.2.2.2.2.2.2,[],10⟩ ((Sum.elim (λ(r0:Int×Int)=>((.ret [.one (dB false)]):EK)) (λ(r1:Bool×Int)=>((.ret [.one (dB r1.1)]):EK))) r) ⟨((JB u.1 u.2.1 u.2.2.1 u.2.2.2.1 u.2.2.2.2.1 u.2.2.2.2.2.1 u.2.2.2.2.2.2) r).hp,((JB u.1 u.2.1 u.2.2.1 u.2.2.2.1 u.2.2.2.2.1 u.2.2.2.2.2.1 u.2.2.2.2.2.2) r).tk,((JB u.1 u.2.1 u.2.2.1 u.2.2.2.1 u.2.2.2.2.1 u.2.2.2.2.2.1 u.2.2.2.2.2.2) r).nx⟩:=Yt (C:=λu r=>CallE prog 108 [.agg (cE u.1),.one (dI u.2.1),.one (.ptr 0 0),.one (.ptr 8 0),.one (.ptr 9 0)] ⟨Kl u.2.2.1 u.2.2.2.1 u.2.2.2.2.1 u.2.2.2.2.2.1 u.2.2.2.2.2.2,[],10⟩ ((Sum.elim (λ(r0:Int×Int)=>((.ret [.one (dB false)]):EK)) (λ(r1:Bool×Int)=>((.ret [.one (dB r1.1)]):EK))) r) ⟨((JB u.1 u.2.1 u.2.2.1 u.2.2.2.1 u.2.2.2.2.1 u.2.2.2.2.2.1 u.2.2.2.2.2.2) r).hp,((JB u.1 u.2.1 u.2.2.1 u.2.2.2.1 u.2.2.2.2.1 u.2.2.2.2.2.1 u.2.2.2.2.2.2) r).tk,((JB u.1 u.2.1 u.2.2.1 u.2.2.2.1 u.2.2.2.2.1 u.2.2.2.2.2.1 u.2.2.2.2.2.2) r).nx⟩) (λrc H u r h=>Qil rc (λa0 a1 a2 a3 a4 a5 a6 r h=>H (a0,a1,a2,a3,a4,a5,a6) r h) u.1 u.2.1 u.2.2.1 u.2.2.2.1 u.2.2.2.2.1 u.2.2.2.2.2.1 u.2.2.2.2.2.2 r h) n u r h0
theorem Q9h(a0:Tm)(a1:Int)(a2:Tm)(a3:Int)(a4:Scp)(a5:Int)(a6:Tm)(r:(Int×Int)⊕(Bool×Int))(h0:Qbw a0 a1 a2 a3 a4 a5 a6=some r):CallE prog 108 [.agg (cE a0),.one (dI a1),.one (.ptr 0 0),.one (.ptr 8 0),.one (.ptr 9 0)] ⟨Kl a2 a3 a4 a5 a6,[],10⟩ ((Sum.elim (λ(r0:Int×Int)=>((.ret [.one (dB false)]):EK)) (λ(r1:Bool×Int)=>((.ret [.one (dB r1.1)]):EK))) r) ⟨((JB a0 a1 a2 a3 a4 a5 a6) r).hp,((JB a0 a1 a2 a3 a4 a5 a6) r).tk,((JB a0 a1 a2 a3 a4 a5 a6) r).nx⟩:=Qio Qf (a0,a1,a2,a3,a4,a5,a6) r h0
abbrev Qbl(p0_:Int)(p1_:Int)(p2_:Int)(p3_:Int):HB:=.cells 107 [dI (max p0_ 0),dI (max p1_ 0),dI (max p2_ 0),dI (max p3_ 0)]
abbrev J2e(p0_:Tm)(p1_:Int)(p2_:Int)(p3_:Int)(p4_:Int):List (Nat×HB):=[(0,.cells 25 (cE p0_)),Vk,(2,Qbl p1_ p2_ p3_ p4_),Vl]
abbrev Qi6(p0_:Tm)(p1_:Int)(p2_:Int)(p3_:Int)(p4_:Int):List (Nat×HB):=[(0,.cells 25 (cE p0_)),Vk,(2,Qbl p1_ p2_ p3_ p4_),Vl,(4,.cells 25 (cE p0_))]
abbrev Qi5(p0_:Int)(p1_:Int)(p2_:Int)(p3_:Int):HB:=.cells 107 [dI ((⟨(max p0_ 0),(max p1_ 0),(max p2_ 0),(max p3_ 0)⟩:Scp).vars),dI ((⟨(max p0_ 0),(max p1_ 0),(max p2_ 0),(max p3_ 0)⟩:Scp).params),dI ((⟨(max p0_ 0),(max p1_ 0),(max p2_ 0),(max p3_ 0)⟩:Scp).metas),dI ((⟨(max p0_ 0),(max p1_ 0),(max p2_ 0),(max p3_ 0)⟩:Scp).levels)]
abbrev Qbk:HB:=.loop .ready none Vc 45 #[27,28] ZV Z3 5
abbrev WX(p0_:Tm)(p1_:Int)(p2_:Int)(p3_:Int)(p4_:Int)(p5_:Int):List (Nat×HB):=[(0,.cells 25 (cE p0_)),Vk,(2,Qi5 p1_ p2_ p3_ p4_),(3,.cells 3 [dI p5_]),(4,.cells 25 (cE p0_)),Vf,(6,Qbk)]
abbrev J2d:HB:=.loop .done (some .ret) Vc 45 #[27,28] ZV Z3 5
abbrev W8(p0_:Tm)(p1_:Int×Int)(p2_:Int)(p3_:Int)(p4_:Int)(p5_:Int):List (Nat×HB):=[(0,.cells 25 (cE p0_)),(1,.cells 28 [dI p1_.1]),(2,Qi5 p2_ p3_ p4_ p5_),(3,.cells 3 [dI p1_.2]),(4,.cells 25 (cE p0_)),Vf,(6,J2d)]
abbrev J2c(p0_:Tm)(p1_:Int)(p2_:Int)(p3_:Int)(p4_:Int):List (Nat×HB):=[(0,.cells 25 (cE p0_)),Vk,(2,Qbl p1_ p2_ p3_ p4_),Vl,(4,.cells 25 (cE p0_)),Vf,(6,Qbk),Vi]
abbrev Qi4:HB:=.cells 156 Va
abbrev Qlo(p0_:Tm)(p1_:Int)(p2_:Int)(p3_:Int)(p4_:Int):List (Nat×HB):=[(0,.cells 25 (cE p0_)),Vk,(2,Qbl p1_ p2_ p3_ p4_),Vl,(4,.cells 25 (cE p0_)),Vf,(6,Qbk),Vi,(8,Qi4)]
abbrev Qx9(p0_:Tm)(p1_:Int)(p2_:Int)(p3_:Int)(p4_:Int)(p5_:Bool×Int):List (Nat×HB):=[(0,.cells 25 (cE p0_)),Vk,(2,Qi5 p1_ p2_ p3_ p4_),(3,.cells 3 [dI p5_.2]),(4,.cells 25 (cE p0_)),Vf,(6,Qbk)]
def Qxa(a0:Tm)(a1:Int)(a2:Int)(a3:Int)(a4:Int):Option Int:=
 Option.bind (some ()) (λ(y1:Unit)=>Option.bind (Option.bind (some ()) (λ(y7:Unit)=>Option.bind (Qbw a0 0 a0 0 (⟨(max a1 0),(max a2 0),(max a3 0),(max a4 0)⟩:Scp) 0 a0) (Sum.elim (λ(x10:Int×Int)=>some (.inr (x10.1,x10.2))) (λ(x11:Bool×Int)=>some (.inl x11.2))))) (Sum.elim (λ(y3:Int)=>cond (decide (4096<y3)) (some 5) (Option.bind (Jan a0) λ(x13:Int)=>
 cond (decide (200<x13)) (some 7) (some 0))) (λ(y4:Int×Int)=>some y4.1)))
theorem J2a(a0:Tm)(a1:Int)(a2:Int)(a3:Int)(a4:Int)(r:Int)(h0:Qxa a0 a1 a2 a3 a4=some r):Fun prog 27 [.agg (cE a0),.one (dI a1),.one (dI a2),.one (dI a3),.one (dI a4)] (Qj [.one (dI r)]):=by
 unfold Qxa at h0;refine Jb 9 45 func27 Z J9n Z (lb Z) (λS w=>?_);simp only[J4];refine Q3<|Q0<|Qm Z Z (lb Z) (Ju Z)<|Qm Z Z (lb Z) (J0 Jau Z)<|Q2<|Q1<|Q3<|Q0<|rM Z Z Z<|rR Z Z Z (X6 Z Z)<|rM Z Z Z<|rR Z Z Z (X6 Z Z)<|rM Z Z Z<|rR Z Z Z (X6 Z Z) ?_
 refine rM Z Z Z<|rR Z Z Z (X6 Z Z)<|rR Z Z Z (Q2k J5p Z (.cons Z (.cons Z (.cons Z (.cons Z .nil)))) Z)<|Qm Z Z (lb Z) (J0 J6q Z)<|J1 Z Z (Qz Qv7 Z Z Z Z (lb Z) Z)<|Q2<|Q1<|Q3<|Q0<|Qm Z Z (lb Z) (J0 Jct Z)<|J1 Z Z (Qz Ji Z Z Z Z (lb Z) Z)<|Q2<|Q1<|Q3 ?_
 refine Q3<|Q0<|rR Z Z Z (Yf (a0:Tm) KX Z Z) ?_
 refine Qn h0 (λy1 h1 h0=>?_);have hc2:CallM prog 58 [.agg (cE a0)] ⟨J2e a0 a1 a2 a3 a4,[],4⟩ (Qj [.one (.fn 106 [(4,0)])]) ⟨Qi6 a0 a1 a2 a3 a4,[],5⟩:=by refine QF ⟨[(2,.v (.one (.fn 106 [(4,0)])))],Qi6 a0 a1 a2 a3 a4,[],5,4,[]⟩ Z Z J9a (lb Z) Z (Qy Z .nil) (λw0 M V0 Q hv1 hQ1=>?_);simp only[J4];(refine Q3<|Q0<|Qm Z Z (lb Z) (Ju Z)<|rA Z Z Z<|Q2<|Q1<|Q3<|Q0<|rR Z Z Z (Wv Z)<|rA Z Z Z<|Q2<|Q1<|Qx ?_);have e:=sI h1;subst e;exact hQ1 _ _ _ (.inr Z) Z (sL (Cg hv1 (lb Z)) Z Z Z Z Z)
 refine Qm Z Z (lb Z) (GF Z Z Z hc2 Z (hA Z) kZ)<|Q2<|Q1<|QC<|Qnk (st':=⟨Vc,Qi6 a0 a1 a2 a3 a4,[],5,45,[]⟩) (sL (Cd _) Z Z Z Z Z) ?_
 refine Qn h0 (λy6 h1 h0=>?_);have hc5:CallM prog 106 [.one (.yld 6),.one (.ptr 4 0)] ⟨[(6,.loop .ready none Vc 45 #[27,28] ZV Z3 5),Vf,(0,.cells 25 (cE a0)),Vk,(2,.cells 107 [dI (max a1 0),dI (max a2 0),dI (max a3 0),dI (max a4 0)]),Vl,(4,.cells 25 (cE a0))],[],7⟩ (Qj []) ⟨(((Sum.elim (λ(y3:Int)=>(⟨[],WX a0 a1 a2 a3 a4 y3,[],13,10,[]⟩:St)) (λ(y4:Int×Int)=>(⟨[],W8 a0 y4 a1 a2 a3 a4,[],13,10,[]⟩:St)))) y6).hp,(((Sum.elim (λ(y3:Int)=>(⟨[],WX a0 a1 a2 a3 a4 y3,[],13,10,[]⟩:St)) (λ(y4:Int×Int)=>(⟨[],W8 a0 y4 a1 a2 a3 a4,[],13,10,[]⟩:St)))) y6).tk,(((Sum.elim (λ(y3:Int)=>(⟨[],WX a0 a1 a2 a3 a4 y3,[],13,10,[]⟩:St)) (λ(y4:Int×Int)=>(⟨[],W8 a0 y4 a1 a2 a3 a4,[],13,10,[]⟩:St)))) y6).nx⟩:=by
  refine Q7v y6 ((Sum.elim (λ(y3:Int)=>(⟨[],WX a0 a1 a2 a3 a4 y3,[],13,10,[]⟩:St)) (λ(y4:Int×Int)=>(⟨[],W8 a0 y4 a1 a2 a3 a4,[],13,10,[]⟩:St)))) rfl rfl J5c (lb rfl) (λz_=>by cases z_ <;> rfl) (λz_=>.nil) (λw0 M V0 Q hv1 hQ1=>?_);simp only[J4];refine Q3<|Q0<|Qm Z Z (lb Z) (Ju Z)<|Q2<|Q1<|Q3<|Q0 ?_
  refine Qn h1 (λy7 h2 h1=>?_);have hc8:CallM prog 107 [] ⟨J2c a0 a1 a2 a3 a4,[],8⟩ (Qj [.agg Va]) ⟨Qlo a0 a1 a2 a3 a4,[],9⟩:=by refine QF ⟨[(0,.v (.one (.ptr 8 0)))],Qlo a0 a1 a2 a3 a4,[],9,15,[]⟩ Z Z Qug (lb Z) Z (K6 Q7i Z Z Z Z .nil) (λw0 M V0 Q hv2 hQ2=>?_);simp only[J4];(refine Q3<|Q0<|Qm Z Z (lb Z) (J0 Qqh Z)<|Q2<|Q1<|Q3<|Q0<|rR Z Z Z (QX JJ Z Z Z Z)<|rR Z Z Z (Gi JJ Z Z Z)<|rR Z Z Z (QX JJ Z Z Z Z)<|rR Z Z Z (Qam JJ Z Z Z Z Z)<|rR Z Z Z (QX JJ Z Z Z Z)<|rR Z Z Z (QX JJ Z Z Z Z)<|rR Z Z Z (QX JJ Z Z Z Z) ?_);(refine rR Z Z Z (QX JJ Z Z Z Z)<|rR Z Z Z (QX JJ Z Z Z Z)<|rR Z Z Z (QX JJ Z Z Z Z)<|rR Z Z Z (QX JJ Z Z Z Z)<|rR Z Z Z (QX JJ Z Z Z Z)<|rR Z Z Z (QX JJ Z Z Z Z)<|rR Z Z Z (Q2k Qux Z (.cons Z (.cons Z (.cons Z (.cons Z (.cons Z (.cons Z (.cons Z (.cons Z (.cons Z (.cons Z (.cons Z (.cons Z (.cons Z .nil))))))))))))) Z)<|J1 Z Z (Xh Q7i Z Z Z Z Z Z)<|Q2<|Q1<|Qx ?_);have e:=sI h2;subst e;exact hQ2 _ _ _ (.inr Z) Z (sL (Cg hv2 (lb Z)) Z Z Z Z Z)
  refine Qm Z Z (lb Z) (GF Z Z Z hc8 Z (hA Z) kZ)<|Qm Z Z (lb Z) (J0 Qqh Z)<|J1 Z Z (Xh Q7i Z Z Z Z Z Z)<|Q2<|Q1<|Q3<|Q0<|Qm Z Z (lb Z) (J0 Jav Z)<|Q2<|Q1<|Q3<|Q0<|rR Z Z Z (Qd4 Z Z Z)<|J1 Z Z (Qz Qv5 Z Z Z Z (lb Z) Z) ?_
  refine Q2<|Q1<|Q0<|rR Z Z Z (Q6 Qv5 Z Z Z)<|rR Z Z Z (Yf (a0:Tm) KX Z Z) ?_
  refine Qn h1 (λx9 hx9 h1=>?_);refine J6y id hx9 h1 (λx10 hx10 h1=>?_) (λx11 hx11 h1=>?_);refine Qm Z Z (lb Z) (QE (hp1':=[Vi,(6,.loop .done (some .ret) Vc 45 #[27,28] ZV Z3 5),Vf,(0,.cells 25 (cE a0)),(1,.cells 28 [dI x10.1]),(2,.cells 107 [dI ((⟨(max a1 0),(max a2 0),(max a3 0),(max a4 0)⟩:Scp).vars),dI ((⟨(max a1 0),(max a2 0),(max a3 0),(max a4 0)⟩:Scp).params),dI ((⟨(max a1 0),(max a2 0),(max a3 0),(max a4 0)⟩:Scp).metas),dI ((⟨(max a1 0),(max a2 0),(max a3 0),(max a4 0)⟩:Scp).levels)]),(3,.cells 3 [dI x10.2]),(4,.cells 25 (cE a0)),(9,.cells 156 Va),(10,.cells 26 [.fn 108 [(7,0),(9,0),(10,0)]])]) (tk1':=[]) (hpF:=[(8,Qi4)]) (tkF:=[]) (res2:=Qj [.one (dB false)]) (nx2:=13) [7,6,5,0,1,2,3,4,9,10] Z Z (CallE.m (Q9h a0 0 a0 0 (⟨(max a1 0),(max a2 0),(max a3 0),(max a4 0)⟩:Scp) 0 a0 (.inl x10) hx10)) Z Z (qB Z Z (qB Z Z (qB Z Z (qB Z Z (qB Z Z (qB Z Z (qB Z Z (qB Z Z (qB Z Z (qB Z Z qZ)))))))))) Z Z (gR Z (gR Z (gR Z (gR Z (gR Z (gR Z (gR Z (gR Z (gR Z (gR Z gZ)))))))))) jZ (hA Z) kZ Z Z Z Z Z (bA Z) Z Z Z Z)<|Q2 ?_
  have e:=sI h1;subst e;exact hQ1 _ _ _ (.inl Z) Z (show StLe _ _ ⟨[],W8 a0 x10 a1 a2 a3 a4,[],13,10,[]⟩from(sL (Cg hv1 (lb Z)) Z Z Z Z Z));refine Qm Z Z (lb Z) (QE (hp1':=[Vi,(6,.loop .ready none Vc 45 #[27,28] ZV Z3 5),Vf,(0,.cells 25 (cE a0)),Vk,(2,.cells 107 [dI ((⟨(max a1 0),(max a2 0),(max a3 0),(max a4 0)⟩:Scp).vars),dI ((⟨(max a1 0),(max a2 0),(max a3 0),(max a4 0)⟩:Scp).params),dI ((⟨(max a1 0),(max a2 0),(max a3 0),(max a4 0)⟩:Scp).metas),dI ((⟨(max a1 0),(max a2 0),(max a3 0),(max a4 0)⟩:Scp).levels)]),(3,.cells 3 [dI x11.2]),(4,.cells 25 (cE a0)),(9,.cells 156 Va),(10,.cells 26 [.fn 108 [(7,0),(9,0),(10,0)]])]) (tk1':=[]) (hpF:=[(8,Qi4)]) (tkF:=[]) (res2:=Qj [.one (dB x11.1)]) (nx2:=13) [7,6,5,0,1,2,3,4,9,10] Z Z (CallE.m (Q9h a0 0 a0 0 (⟨(max a1 0),(max a2 0),(max a3 0),(max a4 0)⟩:Scp) 0 a0 (.inr x11) hx11)) Z Z (qB Z Z (qB Z Z (qB Z Z (qB Z Z (qB Z Z (qB Z Z (qB Z Z (qB Z Z (qB Z Z (qB Z Z qZ)))))))))) Z Z (gR Z (gR Z (gR Z (gR Z (gR Z (gR Z (gR Z (gR Z (gR Z (gR Z gZ)))))))))) jZ (hA Z) kZ Z Z Z Z Z (bA Z) Z Z Z Z)<|Q2 ?_
  have e:=sI h1;subst e;exact hQ1 _ _ _ (.inl Z) Z (show StLe _ _ ⟨[],Qx9 a0 a1 a2 a3 a4 x11,[],13,10,[]⟩from(sL (Cg hv1 (lb Z)) Z Z Z Z Z))
 refine J6x (C:=λq_=>CallM prog 106 [.one (.yld 6),.one (.ptr 4 0)] ⟨[(6,.loop .ready none Vc 45 #[27,28] ZV Z3 5),Vf,(0,.cells 25 (cE a0)),Vk,(2,.cells 107 [dI (max a1 0),dI (max a2 0),dI (max a3 0),dI (max a4 0)]),Vl,(4,.cells 25 (cE a0))],[],7⟩ (Qj []) ⟨(((Sum.elim (λ(y3:Int)=>(⟨[],WX a0 a1 a2 a3 a4 y3,[],13,10,[]⟩:St)) (λ(y4:Int×Int)=>(⟨[],W8 a0 y4 a1 a2 a3 a4,[],13,10,[]⟩:St)))) q_).hp,(((Sum.elim (λ(y3:Int)=>(⟨[],WX a0 a1 a2 a3 a4 y3,[],13,10,[]⟩:St)) (λ(y4:Int×Int)=>(⟨[],W8 a0 y4 a1 a2 a3 a4,[],13,10,[]⟩:St)))) q_).tk,(((Sum.elim (λ(y3:Int)=>(⟨[],WX a0 a1 a2 a3 a4 y3,[],13,10,[]⟩:St)) (λ(y4:Int×Int)=>(⟨[],W8 a0 y4 a1 a2 a3 a4,[],13,10,[]⟩:St)))) q_).nx⟩) hc5 h0 (λy3 hc5 h0=>?_) (λy4 hc5 h0=>?_);replace hc5:CallM prog 106 [.one (.yld 6),.one (.ptr 4 0)] ⟨[(6,.loop .ready none Vc 45 #[27,28] ZV Z3 5),Vf,(0,.cells 25 (cE a0)),Vk,(2,.cells 107 [dI (max a1 0),dI (max a2 0),dI (max a3 0),dI (max a4 0)]),Vl,(4,.cells 25 (cE a0))],[],7⟩ (Qj []) ⟨WX a0 a1 a2 a3 a4 y3,[],13⟩:=hc5;refine Qnl (UX (e:=.normal) rfl hc5 rfl rfl (by intro h;cases h) rfl) rfl ?_;refine QU<|Q1<|Q3<|QC<|Q3<|Q0<|rR Z Z Z (Q6 Ji Z Z Z)<|rR Z Z Z (Q5 Z Z Z)<|rA Z Z Z<|Q2<|Q1 ?_
 refine Qi (b:=(decide (4096<y3))) Z (λc12=>?_) (λc12=>?_);replace h0:=Qk c12 h0;refine Q3<|Q0<|J1 Z Z (Qz XJ Z Z Z Z (lb Z) Z)<|Q2<|Q1<|Qx ?_
 have e:=sI h0;subst e;exact QD (λ_ _ h=>h) Z (Um XJ Z Z Z .nil) (.cons (.one (.d _)) .nil);replace h0:=Ql c12 h0;refine Q3<|Q0<|rR Z Z Z (Yf (a0:Tm) KX Z Z) ?_
 refine Qn h0 (λx13 hx13 h0=>?_);refine Qm Z Z (lb Z) (QO (J1z a0 x13 hx13) Z (.cons (.agg (.cons (.d _) (.cons (.d _) (.cons (.d _) (.cons (.d _) (.cons (.d _) .nil)))))) .nil))<|rR Z Z Z (Q5 Z Z Z)<|rA Z Z Z<|Q2<|Q1 ?_
 refine Qi (b:=(decide (200<x13))) Z (λc14=>?_) (λc14=>?_);replace h0:=Qk c14 h0;refine Q3<|Q0<|J1 Z Z (Qz XJ Z Z Z Z (lb Z) Z)<|Q2<|Q1<|Qx ?_
 have e:=sI h0;subst e;exact QD (λ_ _ h=>h) Z (Um XJ Z Z Z .nil) (.cons (.one (.d _)) .nil);replace h0:=Ql c14 h0;refine Qp<|QU<|Q1<|Q3<|Q0<|J1 Z Z (Qz XJ Z Z Z Z (lb Z) Z)<|Q2<|Q1<|Qx ?_
 have e:=sI h0;subst e;exact QD (λ_ _ h=>h) Z (Um XJ Z Z Z .nil) (.cons (.one (.d _)) .nil);replace hc5:CallM prog 106 [.one (.yld 6),.one (.ptr 4 0)] ⟨[(6,.loop .ready none Vc 45 #[27,28] ZV Z3 5),Vf,(0,.cells 25 (cE a0)),Vk,(2,.cells 107 [dI (max a1 0),dI (max a2 0),dI (max a3 0),dI (max a4 0)]),Vl,(4,.cells 25 (cE a0))],[],7⟩ (Qj []) ⟨W8 a0 y4 a1 a2 a3 a4,[],13⟩:=hc5;refine Qnl (UX (e:=.ret) rfl hc5 rfl rfl (by intro h;cases h) rfl) rfl ?_;have e:=sI h0;subst e;exact QD (λ_ _ h=>h) Z (Um XJ Z Z Z .nil) (.cons (.one (.d _)) .nil)
def k136:KF UV:=⟨[.stc .t82],[.bool],λv=>Q84 v⟩
theorem Qmi:Jv DV W0 prog 136 k136:=⟨rfl,λv r h=>X7 (Eq.mp (show _=Fun prog 136 (QG DV k136.args v) (Qj (QG DV k136.res r))from by kernel_rfl) (Qxi v r h))⟩
def k110:KF UV:=⟨[.str],[.bool],λv=>Q1p v⟩
theorem Qyt:Jv DV W0 prog 110 k110:=⟨rfl,λv r h=>X7 (Eq.mp (show _=Fun prog 110 (QG DV k110.args v) (Qj (QG DV k110.res r))from by kernel_rfl) (Qxx v r h))⟩
def k27:KF UV:=⟨[.stc .t25,.int .i64,.int .i64,.int .i64,.int .i64],[.int .i64],λv=>Qxa (v.1) (v.2.1) (v.2.2.1) (v.2.2.2.1) (v.2.2.2.2)⟩
theorem Qtk:Jv DV W0 prog 27 k27:=⟨rfl,λv r h=>X7 (Eq.mp (show _=Fun prog 27 (QG DV k27.args v) (Qj (QG DV k27.res r))from by kernel_rfl) (J2a (v.1) (v.2.1) (v.2.2.1) (v.2.2.2.1) (v.2.2.2.2) r h))⟩
end
end
end Go.Proofs.YtjcfppnjamjjhaaGreatDoor
namespace Go.Proofs
open Go.Proofs.Tryz
noncomputable section
section
open Go.Shelf
def XM:Go.Shelf.Ren:=⟨λ|7=>182|10=>209|n=>n,λ|23=>210|26=>3|3=>3|28=>221|0=>0|27=>220|33=>233|4=>4|n=>n,λ|n=>n⟩
theorem Qd1:Go.Proofs.SlLaysZI.n7 prog XM:={
 mixed:=by kernel_rfl
 f7:=⟨f182.name,by decide,Ly func182 (by kernel_rfl)⟩
 f10:=⟨f209.name,by decide,Ly func209 (by kernel_rfl)⟩
 t0:=underlying0
 a0:=isAgg0
 z0:=sizeOf0
 v0:=zeroValue0
 t4:=underlying4
 a4:=isAgg4
 z4:=sizeOf4
 v4:=zeroValue4
 t23:=underlying210
 a23:=isAgg210
 z23:=sizeOf210
 v23:=zeroValue210
 t26:=underlying3
 a26:=isAgg3
 z26:=sizeOf3
 v26:=zeroValue3
 t27:=underlying220
 a27:=isAgg220
 z27:=sizeOf220
 v27:=zeroValue220
 t28:=underlying221
 a28:=isAgg221
 z28:=sizeOf221
 v28:=zeroValue221
 t33:=underlying233
 a33:=isAgg233
 z33:=sizeOf233
 v33:=zeroValue233}
def GE:Go.Shelf.Ren:=⟨λ|6=>181|8=>207|9=>208|11=>221|13=>223|12=>222|23=>238|24=>191|14=>229|15=>230|16=>231|17=>232|18=>233|19=>234|20=>235|21=>236|22=>237|25=>239|26=>240|27=>241|28=>242|29=>243|30=>244|31=>245|n=>n,λ|26=>3|28=>221|24=>218|0=>0|3=>3|37=>234|48=>231|50=>195|4=>4|40=>274|39=>273|45=>167|5=>5|9=>9|51=>280|55=>284|57=>286|58=>287|33=>233|n=>n,λ|n=>n⟩
theorem Q7k:Go.Proofs.SlLaysZI.n6 prog GE:={
 mixed:=by kernel_rfl
 f6:=⟨f181.name,by decide,Ly func181 (by kernel_rfl)⟩
 f8:=⟨f207.name,by decide,Ly func207 (by kernel_rfl)⟩
 f11:=⟨f221.name,by decide,Ly func221 (by kernel_rfl)⟩
 t0:=underlying0
 a0:=isAgg0
 z0:=sizeOf0
 v0:=zeroValue0
 t24:=underlying218
 a24:=isAgg218
 z24:=sizeOf218
 v24:=zeroValue218
 t26:=underlying3
 a26:=isAgg3
 z26:=sizeOf3
 v26:=zeroValue3
 t28:=underlying221
 a28:=isAgg221
 z28:=sizeOf221
 v28:=zeroValue221
 i26:=by kernel_rfl}
def Q2c:Go.Shelf.Ren:=⟨λ|5=>208|8=>223|7=>222|19=>238|20=>191|10=>229|11=>230|12=>231|13=>232|14=>233|15=>234|16=>235|17=>236|18=>237|30=>239|31=>240|32=>241|33=>242|34=>243|35=>244|40=>245|n=>n,λ|23=>218|25=>3|3=>3|32=>234|22=>218|0=>0|44=>231|46=>195|4=>4|36=>274|35=>273|41=>167|5=>5|9=>9|53=>280|57=>284|63=>286|64=>287|n=>n,λ|n=>n⟩
theorem Q0t:Go.Proofs.SlLaysM.n5 prog Q2c:={
 mixed:=by kernel_rfl
 f5:=⟨f208.name,by decide,Ly func208 (by kernel_rfl)⟩
 f7:=⟨f222.name,by decide,Ly func222 (by kernel_rfl)⟩
 f8:=Ly func223 (by kernel_rfl)
 f10:=⟨f229.name,by decide,Ly func229 (by kernel_rfl)⟩
 f11:=⟨f230.name,by decide,Ly func230 (by kernel_rfl)⟩
 f12:=⟨Tryz.f231.name,by decide,Ly func231 (by kernel_rfl)⟩
 f13:=⟨Tryz.f232.name,by decide,Ly func232 (by kernel_rfl)⟩
 f14:=⟨Tryz.f233.name,by decide,Ly func233 (by kernel_rfl)⟩
 f15:=⟨Tryz.f234.name,by decide,Ly func234 (by kernel_rfl)⟩
 f16:=⟨Tryz.f235.name,by decide,Ly func235 (by kernel_rfl)⟩
 f17:=⟨Tryz.f236.name,by decide,Ly func236 (by kernel_rfl)⟩
 f18:=⟨f237.name,by decide,Ly func237 (by kernel_rfl)⟩
 f19:=Ly func238 (by kernel_rfl)
 f20:=Ly func191 (by kernel_rfl)
 f30:=⟨f239.name,by decide,Ly func239 (by kernel_rfl)⟩
 f31:=Ly func240 (by kernel_rfl)
 f32:=Ly func241 (by kernel_rfl)
 f33:=⟨f242.name,by decide,Ly func242 (by kernel_rfl)⟩
 f34:=⟨Tryz.f243.name,by decide,Ly func243 (by kernel_rfl)⟩
 f35:=⟨Tryz.f244.name,by decide,Ly func244 (by kernel_rfl)⟩
 f40:=⟨Tryz.f245.name,by decide,Ly func245 (by kernel_rfl)⟩
 t0:=underlying0
 a0:=isAgg0
 z0:=sizeOf0
 v0:=zeroValue0
 t3:=underlying3
 a3:=isAgg3
 z3:=sizeOf3
 v3:=zeroValue3
 t4:=underlying4
 a4:=isAgg4
 z4:=sizeOf4
 v4:=zeroValue4
 t5:=underlying5
 a5:=isAgg5
 z5:=sizeOf5
 v5:=zeroValue5
 t9:=underlying9
 a9:=isAgg9
 z9:=sizeOf9
 v9:=zeroValue9
 t22:=underlying218
 a22:=isAgg218
 z22:=sizeOf218
 v22:=zeroValue218
 t23:=underlying218
 a23:=isAgg218
 z23:=sizeOf218
 v23:=zeroValue218
 t25:=underlying3
 a25:=isAgg3
 z25:=sizeOf3
 v25:=zeroValue3
 t32:=underlying234
 a32:=isAgg234
 z32:=sizeOf234
 v32:=zeroValue234
 t35:=underlying273
 a35:=isAgg273
 z35:=sizeOf273
 v35:=zeroValue273
 t36:=underlying274
 a36:=isAgg274
 z36:=sizeOf274
 v36:=zeroValue274
 t41:=underlying167
 a41:=isAgg167
 z41:=sizeOf167
 v41:=zeroValue167
 t44:=underlying231
 a44:=isAgg231
 z44:=sizeOf231
 v44:=zeroValue231
 t46:=underlying195
 a46:=isAgg195
 z46:=sizeOf195
 v46:=zeroValue195
 t53:=underlying280
 a53:=isAgg280
 z53:=sizeOf280
 v53:=zeroValue280
 t57:=underlying284
 a57:=isAgg284
 z57:=sizeOf284
 v57:=zeroValue284
 t63:=underlying286
 a63:=isAgg286
 z63:=sizeOf286
 v63:=zeroValue286
 t64:=underlying287
 a64:=isAgg287
 z64:=sizeOf287
 v64:=zeroValue287}
theorem Q8a(m:Nat):AnyZI.SortsIn prog GE Fence.wide m:=⟨λblk off cap ss W hH hblk hsz=>callsIn_wide.2 (AnyM.slices_Sort_int Q0t blk off cap ss W hH hblk hsz),λp cap W=>callsIn_wide.2 (AnyM.slices_Sort_int_none Q0t p cap W)⟩
def Q2f:Go.Shelf.Ren:=⟨λ|161=>175|231=>166|227=>168|233=>169|235=>171|228=>196|197=>197|151=>198|260=>215|152=>216|137=>122|119=>224|224=>225|225=>226|217=>143|266=>165|n=>n,λ|9=>9|4=>4|3=>3|5=>5|117=>204|116=>203|0=>0|124=>207|105=>236|21=>21|119=>262|46=>234|139=>265|138=>264|n=>n,λ|3=>6|4=>7|n=>n⟩
theorem Qcx:Go.Proofs.Lays.n161 prog Q2f:={
 mixed:=by kernel_rfl
 f119:=Ly func224 (by kernel_rfl)
 f137:=Ly func122 (by kernel_rfl)
 f151:=Ly func198 (by kernel_rfl)
 f152:=Ly func216 (by kernel_rfl)
 f161:=Ly func175 (by kernel_rfl)
 f197:=Ly func197 (by kernel_rfl)
 f217:=Ly func143 (by kernel_rfl)
 f224:=Ly func225 (by kernel_rfl)
 f225:=Ly func226 (by kernel_rfl)
 f227:=Ly func168 (by kernel_rfl)
 f228:=Ly func196 (by kernel_rfl)
 f231:=Ly func166 (by kernel_rfl)
 f233:=Ly func169 (by kernel_rfl)
 f235:=Ly func171 (by kernel_rfl)
 f260:=Ly func215 (by kernel_rfl)
 f266:=Ly func165 (by kernel_rfl)
 t0:=underlying0
 a0:=isAgg0
 z0:=sizeOf0
 v0:=zeroValue0
 t3:=underlying3
 a3:=isAgg3
 z3:=sizeOf3
 v3:=zeroValue3
 t4:=underlying4
 a4:=isAgg4
 z4:=sizeOf4
 v4:=zeroValue4
 t5:=underlying5
 a5:=isAgg5
 z5:=sizeOf5
 v5:=zeroValue5
 t9:=underlying9
 a9:=isAgg9
 z9:=sizeOf9
 v9:=zeroValue9
 t21:=underlying21
 a21:=isAgg21
 z21:=sizeOf21
 v21:=zeroValue21
 t46:=underlying234
 a46:=isAgg234
 z46:=sizeOf234
 v46:=zeroValue234
 t105:=underlying236
 a105:=isAgg236
 z105:=sizeOf236
 v105:=zeroValue236
 t116:=underlying203
 a116:=isAgg203
 z116:=sizeOf203
 t117:=underlying204
 a117:=isAgg204
 z117:=sizeOf204
 v117:=zeroValue204
 t119:=underlying262
 a119:=isAgg262
 z119:=sizeOf262
 t124:=underlying207
 a124:=isAgg207
 z124:=sizeOf207
 v124:=zeroValue207
 t138:=underlying264
 a138:=isAgg264
 z138:=sizeOf264
 v138:=zeroValue264
 t139:=underlying265
 a139:=isAgg265
 z139:=sizeOf265
 v139:=zeroValue265
 g3:=by kernel_rfl
 g4:=by kernel_rfl}
def Q2i:Go.Shelf.Ren:=⟨λ|103=>176|210=>205|206=>148|n=>n,λ|9=>9|4=>4|24=>213|3=>3|n=>n,λ|n=>n⟩
theorem Qd0:Go.Proofs.Lays.n103 prog Q2i:={
 mixed:=by kernel_rfl
 f103:=Ly func176 (by kernel_rfl)
 f206:=Ly func148 (by kernel_rfl)
 f210:=Ly func205 (by kernel_rfl)
 t3:=underlying3
 a3:=isAgg3
 z3:=sizeOf3
 v3:=zeroValue3
 t4:=underlying4
 a4:=isAgg4
 z4:=sizeOf4
 v4:=zeroValue4
 t9:=underlying9
 a9:=isAgg9
 z9:=sizeOf9
 v9:=zeroValue9
 t24:=underlying213
 a24:=isAgg213
 z24:=sizeOf213
 v24:=zeroValue213}
end
end
end Go.Proofs
namespace Go.Proofs.YtjcfppnjamjjhaaGreatDoor
open Go.Proofs.Tryz
noncomputable section
section
open Go.RowKit Go.Maps Go.Shelf
def Qkb(ents:Array MapEntry)(l:List (Int×Int×Nat)):Prop:=ents.toList=l.map λe=>⟨.int .i64 e.1,.int .i64 e.2.1,e.2.2⟩
abbrev R0:Value->Option (DataW Unit×List MemPlace):=λ_=>some (.lit (.bool false),[])
theorem Qwm{P:Program}{w:World}{b:Nat}{M:QL}{ents:Array MapEntry}(hk:P.underlying 3=some (.int .i64))(hM:Q86 M=true)(hb:w.heap[b]?=some (.map ents M.2))(he:Qkb ents M.1):∃D,w.ownsMap P 3 R0 b M.1.length D/\(intKeys D).Perm (M.1.map λe=>e.1)/\Maps.size D=M.1.length:=by
 unfold Q86 at hM;have h1:=J9 hM;rw[h1]at hM;simp only[C5]at hM;have h2:=J9 hM;rw[h2]at hM;simp only[C5]at hM;have h3:=J9 hM;rw[h3]at hM;simp only[C5]at hM;have hlen:M.1.length<=1000000:=C9 h1;have hall:∀e∈M.1,e.2.2<M.2/\-9223372036854775808<=e.1/\e.1<=9223372036854775807:=λe he=>by have:=Ch.1 h2 e he;have a1:=J9 this;rw[a1]at this;simp only[C5]at this;have a2:=J9 this;rw[a2]at this;simp only[C5]at this;exact⟨C9 a1,CF a2,CF this⟩
 have hkey:∀e∈M.1,Go.keyOf P 3 (.int .i64 e.1)=some (.int .i64 e.1):=λe he=>by obtain⟨-,h4,h5⟩:=hall e he;exact keyOf_int_mk hk (by show(decide (_<=_)&&decide (_<=_))=true;rw[CD];exact⟨C4 h4,C4 h5⟩)
 have hsz:ents.size=M.1.length:=by rw[<-Pv,he,Co]
 have hrd:∀e∈M.1,Go.WideElems.rd P 3 R0 ⟨.int .i64 e.1,.int .i64 e.2.1,e.2.2⟩=some (.int .i64 e.1,.lit (.bool false)):=λe he=>by simp[Go.WideElems.rd,hkey e he,R0]
 refine⟨_,⟨ents,M.2,hb,⟨?_,⟨?_,?_,?_⟩,?_⟩,Pc hsz,Z⟩,?_,?_⟩;rw[hsz];unfold maxLen;omega;intro x hx;rw[he]at hx;obtain⟨e,h4,rfl⟩:=Cx.1 hx;exact(hall e h4).1;rw[he,CL];exact Q1g h3;rw[he,CL];have:=Q1g hM;rw[show(λx:MapEntry=>x.key)∘(λe:Int×Int×Nat=>(⟨.int .i64 e.1,.int .i64 e.2.1,e.2.2⟩:MapEntry))=(Value.int .i64)∘λe=>e.1 from rfl,<-CL];exact SH.2 (this.imp λhne h=>hne (by cases h;rfl));intro x hx;rw[he]at hx;obtain⟨e,h4,rfl⟩:=Cx.1 hx;exact⟨_,hrd e h4⟩;show(List.map _ _).Perm _;refine((WideShapes.sorted_perm _).map _).trans ?_;rw[he,CL,CL];refine .of_eq (Cy λe h4=>?_);simp[Go.WideElems.rg,hrd e h4];rfl;simp[Maps.size,length_sorted,hsz]
theorem Qtp{M:QL}(hM:Q86 M=true):M.1.length<=1000000:=C9 (J9 hM)
theorem Q59{w:World}{Bm b:Nat}{M:QL}{ents:Array MapEntry}(hM:Q86 M=true)(hBm:w.cell? ⟨Bm,0,none⟩=some (.map (some b)))(hlt:Bm<w.heap.size)(hb:w.heap[b]?=some (.map ents M.2))(he:Qkb ents M.1):CallsIn Fence.wide 5 prog 181 #[.func (.func 209) #[] #[.pointer (some ⟨Bm,0,none⟩)]] w λe w'=>∃v,e=.returned v/\w'.ownsRow w.heap.size 3 1 v (Y1 M).length ((Y1 M).map (Value.int .i64))/\Below w.heap.size w w':=by obtain⟨D,hown,hperm,hsize⟩:=Qwm (P:=prog) (by kernel_rfl) hM hb he;have hlen:=Qtp hM;have hseq:SeqGives Fence.wide 2 prog 209 #[.pointer (some ⟨Bm,0,none⟩)] encZ (λss=>ss.Perm (intKeys D)) (Maps.size D) w:=AnyZI.keys_gives (ρ:=XM) {Qd1 with} Fence.wide _ trivial rfl (by omega) Bm b _ D w hlt hBm hown;have hrun:=AnyZI.sorted_in Q7k Fence.wide 5 trivial trivial trivial trivial rfl (by omega) (Q8a _) (enters_of func208 (by kernel_rfl) rfl) 209 #[.pointer (some ⟨Bm,0,none⟩)] trivial (enters_of func209 (by kernel_rfl) rfl) _ _ (by rw[hsize];unfold maxLen;omega) (by rw[hsize];omega) _ hseq;refine CallsIn.mono (show CallsIn _ _ prog 181 _ _ _ from hrun) ?_;rintro e w' ⟨v,ss,rfl,hS,hrow,-,hbel⟩;have hp:=hS.trans hperm;rw[Q3y hp]at hrow;have hl:ss.length=(Y1 M).length:=hp.length_eq.trans (Kf _).length_eq.symm;rw[hl]at hrow;exact⟨v,Z,hrow,hbel⟩
theorem Qo0{w:World}{S:Nat->Nat->Prop}{base:Nat}{v:Value}{l:List Int}(h:w.ownsRow base 3 1 v l.length (l.map (Value.int .i64)))(hS:∀b o,base<=b->b<w.heap.size->S b o):Reads S w (.sl 1 (Enc.encL l)) v:=by
 rcases h.2 with⟨rfl,h0⟩|⟨g,cap,cur,rfl,hg,hcur,hn,-,hsz,htk⟩;have:l=[]:=Cz h0;subst this;exact .sl 1 [] none 0 0 0 (λ_ _=>undef) (Cl _) (λh=>absurd rfl h) (λi e h=>by simp at h) (λi e j c h=>by simp at h) (λi e j c h=>by simp at h) (λi e j c h=>by simp at h);have hlt:g<w.heap.size:=YF hcur;have hget:∀(i:Nat)(e:List C),(Enc.encL l)[i]?=some e->∃x,l[i]?=some x/\e=[.v (.int .i64 x)]:=λi e hi=>by rw[Enc.map,Cn]at hi;cases hx:l[i]? with|none=>rw[hx]at hi;cases hi|some x=>rw[hx]at hi;cases hi;exact⟨x,rfl,rfl⟩
 have hcell:∀(i:Nat)(x:Int),l[i]?=some x->w.cell? ⟨g,i,none⟩=some (.int .i64 x):=λi x hx=>by have hi:i<l.length:=(Ce.1 hx).1;(have h1:(cur.toList.take (l.length*1))[i]?=some (.int .i64 x):=by rw[htk,Cn,hx];rfl);rw[Pe]at h1;rw[Cf (by omega)]at h1;simp only[World.cell?,hcur,CT,P4,if_false];rw[<-Pz];exact h1
 have:=Reads.sl (S:=S) (w:=w) 1 (Enc.encL l) (some ⟨g,0,none⟩) cap g 0 (λi j=>.int .i64 (l.getD i 0)) (by rw[Enc.len];exact hn) (λ_=>rfl) (λi e hi=>by obtain⟨x,-,rfl⟩:=hget i e hi;rfl) (λi e j c hi hj=>by
   obtain⟨x,hx,rfl⟩:=hget i e hi
   cases j with
   |zero=>rw[Sd,hx];simpa using hcell i x hx
   |succ j=>simp at hj)
  (λi e j c hi hj=>hS _ _ hg hlt)
  (λi e j c hi hj=>by
   obtain⟨x,hx,rfl⟩:=hget i e hi
   cases j with
   |zero=>simp at hj;subst hj;rw[Sd,hx];exact Reads.v _ rfl
   |succ j=>simp at hj)
 rw[Enc.len]at this;exact this
theorem Q3t{m:Mem}{b i:Nat}{T:TypeId}{M:QL}(hb:lk m.hp b=some (.cells T [.mp i]))(hi:lk m.hp i=some (.mp (JW M.1) M.2))(hM:Q86 M=true):CallM prog 181 [.one (.fn 209 [(b,0)])] m (.v (.one (.d (.sl 1 (Enc.encL (Y1 M)))))) m:=by
 refine⟨enters_of func181 (by kernel_rfl) rfl,λE V w vs hP H hn hargs=>?_⟩;obtain⟨hbl,o,ho,us,rfl,hus⟩:=H.own b _ hb;obtain⟨u,hu,-,rfl⟩:=hus.2 0 _ rfl;obtain⟨-,o2,ho2,ents,rfl,hsz,hents⟩:=H.own i _ hi;obtain⟨a,ha,-,rfl⟩:=hargs.2 0 _ rfl;have hvs:vs=#[.func (.func 209) #[] #[.pointer (some ⟨V.ι b,0,none⟩)]]:=by have h1:vs.size=1:=hargs.1;apply PO;intro k;cases k with|zero=>rw[ha];rfl|succ k=>simp[h1]
 rw[hvs];have hE:Qkb ents M.1:=by(have hlen:(JW M.1).length=M.1.length:=by simp[JW]);apply Sm;intro k;rw[Cn];cases hk:M.1[k]? with|none=>have:M.1.length<=k:=Pb.1 hk;rw[PL,Pb,Pv];omega|some e=>obtain⟨v,h1,h2⟩:=hents k (.int .i64 e.1) (.one (.d (.v (.int .i64 e.2.1)))) e.2.2 (by simp[JW,hk]);(have hv:v=.int .i64 e.2.1:=by cases h2;rfl);rw[hv]at h1;rw[Pz,h1];rfl
 refine Calls.mono ((callsIn_wide (n:=5)).1 (Q59 (Bm:=V.ι b) (b:=V.ι i) hM ?_ (YF ho) ho2 hE)) ?_;simp only[World.cell?,ho,CT,P4,if_false];exact hu;rintro e w' ⟨v,rfl,hrow,hbel⟩;have hx:Xi w w':=⟨hbel.os,hbel.tape,hbel.output,hbel.size,λk hk _=>hbel.block k hk⟩;have hg:V.Grow {V with S:=λb o=>V.S b o\/(w.heap.size<=b/\b<w'.heap.size)} w w':=⟨Cl _,λ_ _=>rfl,λ_ _=>rfl,λ_ _ _ _=>rfl,λb o h=>.inl h,λb o h=>h.elim .inl λh=>.inr h.1,λb o h=>h.elim (λh=>Ci (H.sz b o h) hbel.size) λh=>h.2⟩;exact⟨v,_,Z,H.later hx hg,hn,H.le hx hg,Qo0 hrow (λb o h1 h2=>.inr ⟨h1,h2⟩)⟩
theorem Q44{E:Env}{st:St}{dd:Option Tmp}{ty:TypeId}{pos:String}{af:Array Edge}{g:Option (Nat×Bool)}{xs:Array Operand}{ats:Array TypeId}{b i:Nat}{T:TypeId}{M:QL}(hP:E.P=prog)(ha:Z7 st.tm xs.toList=some [.one (.fn 209 [(b,0)])])(hb:lk st.hp b=some (.cells T [.mp i]))(hi:lk st.hp i=some (.mp (JW M.1) M.2))(hM:Q86 M=true):OpOK E ⟨dd,.call {callee:=.value (.func 181),args:=xs,argTypes:=ats},ty,pos,af,g⟩ st (.v (.one (.d (.sl 1 (Enc.encL (Y1 M)))))) ⟨st.hp,st.tk,st.nx⟩:=Qan (E:=E) (st:=st) (dd:=dd) (ty:=ty) (pos:=pos) (af:=af) (g:=g) (x:=.func 181) (caps:=[]) rfl ha (by rw[hP];exact Q3t hb hi hM)
end
section
open Go.RowKit Go.Shelf
theorem Up{P:Program}{f:FuncId}{vs0:List Value}{res:TV}(v:Value)(hen:Qd P f)(hres:∀V w,res.rel V w v)(h:∀w,Calls P f vs0.toArray w λe w'=>e=.returned v/\Xi w w'):Fun P f (vs0.map λa=>.one (.d (.v a))) res:=by
 refine⟨hen,λS w vs hS hargs=>?_⟩;have hsz:vs.size=vs0.length:=by rw[hargs.1,Co]
 have hvs:vs=vs0.toArray:=by apply PO;intro k;cases hk:vs0[k]? with|none=>have:=Pb.1 hk;rw[P0 (by omega)];simp[hk]|some a=>obtain⟨u,h1,h2⟩:=hargs.2 k (.one (.d (.v a))) (by rw[Cn,hk];rfl);(have e:u=a:=by cases h2;rfl);rw[h1,e];simp[hk]
 rw[hvs];exact(h w).mono λe w' ⟨he,hx⟩=>⟨v,S,he,hx,λ_ _ h=>h,λb o h=>⟨.inl h,Ci (hS b o h) hx.size⟩,hres _ _⟩
theorem Qqr(s:List UInt8):Fun prog 175 [.one (K8 s),.one (K8 [32])] (TS (s.dropWhile (·==32))):=by refine Up (vs0:=[.string (sB s),.string (sB [32])]) (.string (sB (s.dropWhile (·==32)))) (enters_of func175 (by kernel_rfl) rfl) (λV w=>Jl rfl) λw=>?_;refine Calls.mono (Any.strings_TrimLeft_one Qcx (sB s) 32 (by decide) w) ?_;rintro e w' ⟨rfl,rfl⟩;exact⟨Z,ExtM.refl _ _⟩
theorem Q4f{v:Value}(h:v.oneCell'=true):∀V w,(AV.one (.d (.v v))).rel V w v:=λV w=>Reads.v v h
theorem Qz8(s p:List UInt8):Fun prog 176 [.one (K8 s),.one (K8 p)] (.tup [.one (K8 (Lib.trimPrefix s p)),.one (.d (.v (.bool (Lib.hasPrefix s p))))]):=by refine Up (vs0:=[.string (sB s),.string (sB p)]) (.tuple #[.string (sB (Lib.trimPrefix s p)),.bool (Lib.hasPrefix s p)]) (enters_of func176 (by kernel_rfl) rfl) (J0y (Q4f rfl) (Q4f rfl)) λw=>?_;refine Calls.mono (Any.strings_CutPrefix Qd0 (sB s) (sB p) w) ?_;rintro e w' ⟨rfl,rfl⟩;exact⟨Z,ExtM.refl _ _⟩
def Q3j(s:List UInt8):Int:=(Lib.atoi s).getD 0
theorem Quz(s:List UInt8)(h:(cond (Nat.ble s.length 18) (Lib.atoi s).isSome false)=true):Fun prog 147 [.one (K8 s)] (.tup [.one (.d (.v (.int .i64 (Q3j s)))),.one (.d (.v .nilIface))]):=by
 have h0:=C9 (J9 h);obtain⟨n,hn⟩:=Option.isSome_iff_exists.1 (J5 h);have e:Q3j s=n:=by unfold Q3j;rw[hn];rfl
 rw[e];refine Up (vs0:=[.string (sB s)]) (.tuple #[.int .i64 n,.nilIface]) (enters_of func147 (by kernel_rfl) rfl) (J0y (Q4f rfl) (Q4f rfl)) λw=>?_;refine Calls.mono (Any.strconv_Atoi Q0v (sB s) n (by rw[Za];exact h0) hn w) ?_;rintro e w' ⟨rfl,t,rfl⟩;exact⟨Z,G8 (Lib.bytesWorld_below _ _ _)⟩
end
section
open Go.RowKit Go.Shelf
abbrev Vg:Nat×HB:=(2,.cells 212 [.mp 1,dI 0])
abbrev Vj:Nat×HB:=(4,.cells 210 [.mp 1])
theorem Z5:J3 prog 188 0=some 0:=by kernel_rfl
theorem Uc:J3 prog 188 1=some 1:=by kernel_rfl
theorem Ub:J3 prog 188 2=some 2:=by kernel_rfl
theorem Qfj:J3 prog 188 3=some 3:=by kernel_rfl
theorem Q6j:J3 prog 212 0=some 0:=by kernel_rfl
theorem Q6i:J3 prog 212 1=some 1:=by kernel_rfl
theorem Qv6:Jw prog 185=some (false,1):=by kernel_rfl
theorem Qjv:Jw prog 210=some (false,1):=by kernel_rfl
theorem Qr5:Ja prog 218=some (3,1):=by kernel_rfl
theorem WA:YA prog 82 [(0,1),(1,1)] [.int .i64 0,.slice none 0 0]:=⟨by kernel_rfl,by kernel_rfl⟩
theorem Quy:YA prog 142 [(0,1),(1,1)] [.int .i64 0,.int .i64 0]:=⟨by kernel_rfl,by kernel_rfl⟩
theorem J5o:YA prog 188 [(0,1),(1,1),(2,1),(3,1)] [.string ByteArray.empty,.bool false,.int .i64 0,.pointer none]:=⟨by kernel_rfl,by kernel_rfl⟩
theorem J5n:YA prog 212 [(0,1),(1,1)] [.map none,.int .i64 0]:=⟨by kernel_rfl,by kernel_rfl⟩
theorem J5d:KL prog 142=some (2,16):=by kernel_rfl
theorem Qhp:DS prog 210=some (true,.one (.d (.v (.int .i64 0)))):=by kernel_rfl
theorem J4t:Qd prog 127:=enters_of func127 (by kernel_rfl) rfl
theorem J4f:Qd prog 149:=enters_of func149 (by kernel_rfl) rfl
theorem J4e:Qd prog 150:=enters_of func150 (by kernel_rfl) rfl
theorem J4d:Qd prog 151:=enters_of func151 (by kernel_rfl) rfl
theorem J4c:Qd prog 152:=enters_of func152 (by kernel_rfl) rfl
theorem J4b:Qd prog 153:=enters_of func153 (by kernel_rfl) rfl
theorem J45:Qd prog 177:=enters_of func177 (by kernel_rfl) rfl
theorem J44:Qd prog 178:=enters_of func178 (by kernel_rfl) rfl
theorem J43:Qd prog 179:=enters_of func179 (by kernel_rfl) rfl
theorem J42:Qd prog 180:=enters_of func180 (by kernel_rfl) rfl
theorem J41:Qd prog 182:=enters_of func182 (by kernel_rfl) rfl
theorem J40:Qd prog 183:=enters_of func183 (by kernel_rfl) rfl
theorem J3v:Qd prog 206:=enters_of func206 (by kernel_rfl) rfl
abbrev Qov(p0_:Bs)(p1_:Bool)(p2_:Int)(p3_:Int)(p4_:QL):List (Nat×HB):=[(0,.cells 188 [K8 p0_,dB p1_,dI p2_,.ptr 1 0]),(1,.cells 212 [.mp 2,dI p3_]),(2,.mp (JW p4_.1) p4_.2)]
abbrev Qou(p0_:Bs)(p1_:Bool)(p2_:Int):HB:=.cells 188 [K8 (p0_.dropWhile (·==32)),dB p1_,dI p2_,.ptr 1 0]
abbrev Q9g(p0_:Bs)(p1_:Bool)(p2_:Int)(p3_:Int)(p4_:QL):List (Nat×HB):=[(0,Qou p0_ p1_ p2_),(1,.cells 212 [.mp 2,dI p3_]),(2,.mp (JW p4_.1) p4_.2)]
def Yb(a0:Bs)(a1:Bool)(a2:Int)(a3:Int)(a4:QL):Option Unit:=some ()
theorem Kj(a0:Bs)(a1:Bool)(a2:Int)(a3:Int)(a4:QL)(r:Unit)(h0:Yb a0 a1 a2 a3 a4=some r):CallM prog 150 [.one (.ptr 0 0)] ⟨Qov a0 a1 a2 a3 a4,[],3⟩ (Qj []) ⟨Q9g a0 a1 a2 a3 a4,[],3⟩:=by
 unfold Yb at h0;refine QF ⟨[],Q9g a0 a1 a2 a3 a4,[],3,10,[]⟩ Z Z J4e (lb Z) Z .nil (λw0 M V0 Q hv0 hQ0=>?_);simp only[J4];refine Q0<|rM Z Z Z<|rM Z Z Z<|rR Z Z Z (Qo Z)<|rR Z Z Z (Q4 Z5 Z)<|rR Z Z Z (Q6 DK Z Z Z) ?_
 refine Qm Z Z (lb Z) (QO (Qqr a0) Z (.cons (.one (.d _)) (.cons (.one (.d _)) .nil))) ?_;refine rR Z Z Z (Qo Z)<|rR Z Z Z (Q4 Z5 Z)<|J1 Z Z (Qz DK Z Z Z Z (lb Z) Z)<|Q2 ?_
 have e:=sI h0;subst e;exact hQ0 _ _ _ (.inl Z) Z (Jj Je1 (hA Z) kZ Z (Cg hv0 (lb Z)) Z Z Z (bB Z Z (bB Z Z (bM Z bZ))) Z Z)
abbrev Qot(p0_:Bs)(p1_:Bool)(p2_:Int)(p3_:Int)(p4_:QL):List (Nat×HB):=[(0,.cells 188 [K8 p0_,dB p1_,dI p2_,.ptr 1 0]),(1,.cells 212 [.mp 2,dI p3_]),(2,.mp (JW p4_.1) p4_.2)]
abbrev Q9f(p0_:(Bs))(p1_:Bool)(p2_:Int)(p3_:Int)(p4_:QL):List (Nat×HB):=[(0,.cells 188 [K8 p0_,dB p1_,dI p2_,.ptr 1 0]),(1,.cells 212 [.mp 2,dI p3_]),(2,.mp (JW p4_.1) p4_.2)]
def YS(a0:Bs)(a1:Bs)(a2:Bool)(a3:Int)(a4:Int)(a5:QL):Option ((Bs)):=cond (Lib.hasPrefix a1 a0) (some (Lib.trimPrefix a1 a0)) (some a1)
theorem Ki(a0:Bs)(a1:Bs)(a2:Bool)(a3:Int)(a4:Int)(a5:QL)(r:(Bs))(h0:YS a0 a1 a2 a3 a4 a5=some r):CallM prog 151 [.one (.ptr 0 0),.one (K8 a0)] ⟨Qot a1 a2 a3 a4 a5,[],3⟩ (Qj [.one (dB (Lib.hasPrefix a1 a0))]) ⟨Q9f r a2 a3 a4 a5,[],3⟩:=by
 unfold YS at h0;refine QF ⟨[(4,.v (.one (dB (Lib.hasPrefix a1 a0))))],Q9f r a2 a3 a4 a5,[],3,22,[]⟩ Z Z J4d (lb Z) Z (Qy Z .nil) (λw0 M V0 Q hv0 hQ0=>?_);simp only[J4];refine Q3<|Q0<|rA Z Z Z<|Q2<|Q1<|Q3<|Q0<|rM Z Z Z<|rR Z Z Z (Qo Z)<|rR Z Z Z (Q4 Z5 Z)<|rR Z Z Z (Q6 DK Z Z Z)<|rM Z Z Z ?_
 refine Qm Z Z (lb Z) (QO (Qz8 a1 a0) Z (.cons (.one (.d _)) (.cons (.one (.d _)) .nil))) ?_;refine rM Z Z Z<|rR Z Z Z (Jr Z Z)<|rR Z Z Z (Jr Z Z)<|rA Z Z Z<|rA Z Z Z<|Q2<|Q1<|Q3<|Q3<|Q0<|rM Z Z Z<|Q2<|Q1 ?_
 refine Qi (b:=(Lib.hasPrefix a1 a0)) Z (λc1=>?_) (λc1=>?_);replace h0:=Qk c1 h0;refine Q0<|rM Z Z Z<|rM Z Z Z<|rR Z Z Z (Qo Z)<|rR Z Z Z (Q4 Z5 Z)<|J1 Z Z (Qz DK Z Z Z Z (lb Z) Z)<|Q2<|Q1<|Q3<|Q0<|rM Z Z Z<|rA Z Z Z<|Q2<|Q1 ?_
 refine Qx ?_;have e:=sI h0;subst e;exact hQ0 _ _ _ (.inr Z) Z (Jj (Je5 Z) (hA Z) kZ Z (Cg hv0 (lb Z)) Z Z Z (bB Z Z (bB Z Z (bM Z bZ))) Z Z);replace h0:=Ql c1 h0;refine Qp<|Q1<|Q3<|Q0<|rM Z Z Z<|rA Z Z Z<|Q2<|Q1<|Qx ?_
 have e:=sI h0;subst e;exact hQ0 _ _ _ (.inr Z) Z (Jj (Je5 Z) (hA Z) kZ Z (Cg hv0 (lb Z)) Z Z Z (bB Z Z (bB Z Z (bM Z bZ))) Z Z)
def Xq(a0:Bs)(s1:Int):Option (LO Int Int):=
 Option.bind (cond (decide (s1<(a0.length:Int))) (Option.bind (QP a0 s1) λ(x4:UInt8)=>
 cond (decide (48<=(x4.toNat:Int))) (Option.bind (QP a0 s1) λ(x6:UInt8)=>
 some (decide ((x6.toNat:Int)<=57))) (some false)) (some false)) (λ(v2:Bool)=>cond v2 (some (.next (Qr (s1+1)))) (some (.done s1)))
abbrev Uy(p0_:Bs)(p1_:Bool)(p2_:Int)(p3_:Int)(p4_:QL):List (Nat×HB):=[(0,.cells 188 [K8 p0_,dB p1_,dI p2_,.ptr 1 0]),(1,.cells 212 [.mp 2,dI p3_]),(2,.mp (JW p4_.1) p4_.2)]
abbrev Qoi(p0_:Bs)(p1_:Int)(p2_:Bool)(p3_:Int)(p4_:Int)(p5_:QL):List (Nat×HB):=[(0,.cells 188 [K8 (p0_.drop p1_.toNat),dB p2_,dI p3_,.ptr 1 0]),(1,.cells 212 [.mp 2,dI p4_]),(2,.mp (JW p5_.1) p5_.2)]
abbrev Q97(p0_:(Int×Bs×Bool))(p1_:Int)(p2_:Int)(p3_:QL):List (Nat×HB):=[(0,.cells 188 [K8 p0_.2.1,dB p0_.2.2,dI p1_,.ptr 1 0]),(1,.cells 212 [.mp 2,dI p2_]),(2,.mp (JW p3_.1) p3_.2)]
def Zj(a0:Bs)(a1:Bool)(a2:Int)(a3:Int)(a4:QL):Option ((Int×Bs×Bool)):=
 Option.bind (Qc (Xq a0) Qf 0) (λ(o1:Int)=>Qa (cond (decide (0<=o1)) (Nat.ble o1.toNat a0.length) false)
 (Qa (cond (decide (0<=o1)) (Nat.ble o1.toNat a0.length) false)
 (Option.bind (cond (o1==0) (some true) (cond (decide (6<o1)) (some true) (cond (decide (1<o1)) (Option.bind (QP (a0.take o1.toNat) 0) λ(x8:UInt8)=>
 some ((x8.toNat:Int)==48)) (some false)))) (λ(v4:Bool)=>cond v4 (some (0,(a0.drop o1.toNat),true)) (Qa ((cond (Nat.ble (a0.take o1.toNat).length 18) (Lib.atoi (a0.take o1.toNat)).isSome false))
 (some ((Q3j (a0.take o1.toNat)),(a0.drop o1.toNat),a1)))))))
theorem Q1m(a0:Bs)(a1:Bool)(a2:Int)(a3:Int)(a4:QL)(r:(Int×Bs×Bool))(h0:Zj a0 a1 a2 a3 a4=some r):CallM prog 177 [.one (.ptr 0 0)] ⟨Uy a0 a1 a2 a3 a4,[],3⟩ (Qj [.one (dI r.1)]) ⟨Q97 r a2 a3 a4,[],3⟩:=by
 unfold Zj at h0;refine QF ⟨[(2,.v (.one (dI r.1)))],Q97 r a2 a3 a4,[],3,73,[]⟩ Z Z J45 (lb Z) Z (Qy Z .nil) (λw0 M V0 Q hv0 hQ0=>?_);simp only[J4];refine Q3<|Q0<|rA Z Z Z<|Q2<|Q1<|Q3<|Q0<|rA Z Z Z<|Q2<|Q1<|Q3<|QC ?_
 refine Y5 0 (λ(o1:Int)=>⟨[(0,.v (.one (.ptr 0 0))),(3,.v (.one (dI o1)))],Uy a0 a1 a2 a3 a4,[],3,73,[]⟩) (λ(o1:Int)=>(Qa (cond (decide (0<=o1)) (Nat.ble o1.toNat a0.length) false) (Qa (cond (decide (0<=o1)) (Nat.ble o1.toNat a0.length) false) (Option.bind (cond (o1==0) (some true) (cond (decide (6<o1)) (some true) (cond (decide (1<o1)) (Option.bind (QP (a0.take o1.toNat) 0) λ(x8:UInt8)=>
  some ((x8.toNat:Int)==48)) (some false)))) (λ(v4:Bool)=>cond v4 (some (0,(a0.drop o1.toNat),true)) (Qa ((cond (Nat.ble (a0.take o1.toNat).length 18) (Lib.atoi (a0.take o1.toNat)).isSome false))
  (some ((Q3j (a0.take o1.toNat)),(a0.drop o1.toNat),a1)))))))=some r) ?_ ?_
 refine Qn h0 (λo2 hl1 h0=>?_);refine Y4 (Xq a0) (λs1=>⟨[(0,.v (.one (.ptr 0 0))),(3,.v (.one (dI s1)))],Uy a0 a1 a2 a3 a4,[],3,73,[]⟩) 0 o2 (Jj (Je5 Z) (hA Z) kZ Z (Cg hv0 (lb Z)) Z Z Z (bB Z Z (bB Z Z (bM Z bZ))) Z Z) hl1 (λs1 n1 oo1 h1 ho1=>?_);unfold Xq at h1;refine Q3<|Q3 ?_
 refine QN (λ(v3:Bool)=>⟨[(0,.v (.one (.ptr 0 0))),(3,.v (.one (dI s1))),(31,.v (.one (dB v3)))],Uy a0 a1 a2 a3 a4,[],3,73,[]⟩) (λ(v3:Bool)=>(cond v3 (some (.next (Qr (s1+1)))) (some (.done s1)))=some oo1) ?_ ?_;refine Qn h1 (λw2_ h2 h1=>?_);refine Q0<|rM Z Z Z<|rM Z Z Z<|rR Z Z Z (Qo Z)<|rR Z Z Z (Q4 Z5 Z)<|rR Z Z Z (Q6 DK Z Z Z)<|rR Z Z Z (Q0y Q80 Z)<|rR Z Z Z (Q5 Z Z Z)<|rM Z Z Z ?_
 refine QB (d:=14) (c:=(decide (s1<(a0.length:Int)))) Z (λc4=>?_) (λc4=>?_);replace h2:=Qk c4 h2;refine rM Z Z Z<|rR Z Z Z (Qo Z)<|rR Z Z Z (Q4 Z5 Z)<|rR Z Z Z (Q6 DK Z Z Z)<|rM Z Z Z ?_
 refine Qn h2 (λx5 hx5 h2=>?_);refine rR Z Z Z (Q7n Q80 Z Z hx5)<|rR Z Z Z (Q5 Z Z Z)<|rR Z Z Z (Qe Z Z)<|rM Z Z Z ?_
 refine QB (d:=23) (c:=(decide (48<=(x5.toNat:Int)))) Z (λc6=>?_) (λc6=>?_);replace h2:=Qk c6 h2;refine rM Z Z Z<|rR Z Z Z (Qo Z)<|rR Z Z Z (Q4 Z5 Z)<|rR Z Z Z (Q6 DK Z Z Z)<|rM Z Z Z ?_
 refine Qn h2 (λx7 hx7 h2=>?_);refine rR Z Z Z (Q7n Q80 Z Z hx7)<|rR Z Z Z (Q5 Z Z Z)<|rR Z Z Z (Qe Z Z)<|Q2 ?_
 have e:=sI h2;subst e;exact Qb (decide ((x7.toNat:Int)<=57)) (Jj (Je5 Z) (hA Z) kZ Z (Cg hv0 (lb Z)) Z Z Z (bB Z Z (bB Z Z (bM Z bZ))) Z Z) h1;replace h2:=Ql c6 h2;refine Q7 Z Z<|Q7 Z Z<|Q7 Z Z<|Q7 Z Z<|Q7 Z Z<|Q7 Z Z<|Q7 Z Z<|rR Z Z Z (Qh Z Z)<|Q2 ?_
 have e:=sI h2;subst e;exact Qb false (Jj (Je5 Z) (hA Z) kZ Z (Cg hv0 (lb Z)) Z Z Z (bB Z Z (bB Z Z (bM Z bZ))) Z Z) h1;replace h2:=Ql c4 h2;refine Q7 Z Z<|Q7 Z Z<|Q7 Z Z<|Q7 Z Z<|Q7 Z Z<|Q7 Z Z<|Q7 Z Z<|rR Z Z Z (Qh Z Z)<|rM Z Z Z<|Q7 Z Z<|Q7 Z Z<|Q7 Z Z<|Q7 Z Z<|Q7 Z Z ?_
 refine Q7 Z Z<|Q7 Z Z<|rR Z Z Z (Qh Z Z)<|Q2 ?_
 have e:=sI h2;subst e;exact Qb false (Jj (Je5 Z) (hA Z) kZ Z (Cg hv0 (lb Z)) Z Z Z (bB Z Z (bB Z Z (bM Z bZ))) Z Z) h1;intro v3 h1;refine Q1 ?_;refine Qi (b:=v3) Z (λc8=>?_) (λc8=>?_);replace h1:=Qk c8 h1;refine Qp<|Q1<|QC<|Q0<|rM Z Z Z<|rR Z Z Z (Q5 Z Z Z)<|rA Z Z Z<|Q2<|QU ?_
 have e:=sI h1;subst e;refine JK (Qr (s1+1)) (Jj (Je5 Z) (hA Z) kZ Z (Cg hv0 (lb Z)) Z Z Z (bB Z Z (bB Z Z (bM Z bZ))) Z Z) ho1;replace h1:=Ql c8 h1;refine Y9<|QV<|QV ?_
 have e:=sI h1;subst e;have e_:_=_:=ho1;subst e_;exact Y3 s1 (Jj (Je5 Z) (hA Z) kZ Z (Cg hv0 (lb Z)) Z Z Z (bB Z Z (bB Z Z (bM Z bZ))) Z Z) h0;intro o1 h0;refine Jo<|Q1<|Q3<|Q0<|rM Z Z Z<|rR Z Z Z (Qo Z)<|rR Z Z Z (Q4 Z5 Z)<|rR Z Z Z (Q6 DK Z Z Z)<|rM Z Z Z ?_
 refine Dz h0 (λg9 h0=>?_);refine rR Z Z Z (Qve Q80 Z Z g9)<|rA Z Z Z<|Q2<|Q1<|Q3<|Q0<|rM Z Z Z<|rM Z Z Z<|rR Z Z Z (Qo Z)<|rR Z Z Z (Q4 Z5 Z)<|rR Z Z Z (Q6 DK Z Z Z)<|rM Z Z Z ?_
 refine Dz h0 (λg10 h0=>?_);refine rR Z Z Z (Qgh Q80 Z Z g10)<|rR Z Z Z (Qo Z)<|rR Z Z Z (Q4 Z5 Z)<|J1 Z Z (Qz DK Z Z Z Z (lb Z) Z)<|Q2<|Q1<|Q3<|Q3 ?_
 refine QN (λ(v11:Bool)=>⟨[(0,.v (.one (.ptr 0 0))),(4,.v (.one (K8 (a0.take o1.toNat)))),(63,.v (.one (dB v11)))],Qoi a0 o1 a1 a2 a3 a4,[],3,73,[]⟩) (λ(v11:Bool)=>(cond v11 (some (0,(a0.drop o1.toNat),true)) (Qa ((cond (Nat.ble (a0.take o1.toNat).length 18) (Lib.atoi (a0.take o1.toNat)).isSome false)) (some ((Q3j (a0.take o1.toNat)),(a0.drop o1.toNat),a1))))=some r) ?_ ?_;refine Qn h0 (λw1_ h1 h0=>?_);refine Q0<|rM Z Z Z<|rR Z Z Z (Q5 Z Z Z)<|rM Z Z Z ?_
 refine QB (d:=51) (c:=(o1==0)) Z (λc12=>?_) (λc12=>?_);replace h1:=Qk c12 h1;refine Q7 Z Z<|Q7 Z Z<|rR Z Z Z (Qe Z Z)<|rM Z Z Z<|Q7 Z Z<|Q7 Z Z<|Q7 Z Z<|Q7 Z Z<|Q7 Z Z<|Q7 Z Z<|Q7 Z Z<|rR Z Z Z (Qe Z Z)<|Q2 ?_
 have e:=sI h1;subst e;exact Qb true (Jj (Je5 Z) (hA Z) kZ Z (Cg hv0 (lb Z)) Z Z Z (bB Z Z (bB Z Z (bM Z bZ))) Z Z) h0;replace h1:=Ql c12 h1;refine rM Z Z Z<|rR Z Z Z (Q5 Z Z Z)<|rR Z Z Z (Qh Z Z)<|rM Z Z Z ?_
 refine QB (d:=55) (c:=(decide (6<o1))) Z (λc13=>?_) (λc13=>?_);replace h1:=Qk c13 h1;refine Q7 Z Z<|Q7 Z Z<|Q7 Z Z<|Q7 Z Z<|Q7 Z Z<|Q7 Z Z<|Q7 Z Z<|rR Z Z Z (Qe Z Z)<|Q2 ?_
 have e:=sI h1;subst e;exact Qb true (Jj (Je5 Z) (hA Z) kZ Z (Cg hv0 (lb Z)) Z Z Z (bB Z Z (bB Z Z (bM Z bZ))) Z Z) h0;replace h1:=Ql c13 h1;refine rM Z Z Z<|rR Z Z Z (Q5 Z Z Z)<|rM Z Z Z ?_
 refine QB (d:=58) (c:=(decide (1<o1))) Z (λc14=>?_) (λc14=>?_);replace h1:=Qk c14 h1;refine rM Z Z Z ?_;refine Qn h1 (λx15 hx15 h1=>?_);refine rR Z Z Z (Q7n Q80 Z Z hx15)<|rR Z Z Z (Q5 Z Z Z)<|rR Z Z Z (Qe Z Z)<|rR Z Z Z (Qh Z Z)<|Q2 ?_
 have e:=sI h1;subst e;exact Qb ((x15.toNat:Int)==48) (Jj (Je5 Z) (hA Z) kZ Z (Cg hv0 (lb Z)) Z Z Z (bB Z Z (bB Z Z (bM Z bZ))) Z Z) h0;replace h1:=Ql c14 h1;refine Q7 Z Z<|Q7 Z Z<|Q7 Z Z<|rR Z Z Z (Qh Z Z)<|rR Z Z Z (Qh Z Z)<|Q2 ?_
 have e:=sI h1;subst e;exact Qb false (Jj (Je5 Z) (hA Z) kZ Z (Cg hv0 (lb Z)) Z Z Z (bB Z Z (bB Z Z (bM Z bZ))) Z Z) h0;intro v11 h0;refine Q1 ?_;refine Qi (b:=v11) Z (λc16=>?_) (λc16=>?_);replace h0:=Qk c16 h0;refine Q3<|Q0<|rM Z Z Z<|rR Z Z Z (Qo Z)<|rR Z Z Z (Q4 Uc Z)<|J1 Z Z (Qz Qg8 Z Z Z Z (lb Z) Z)<|Q2<|Q1<|Q3<|Q0<|rA Z Z Z<|Q2<|Q1<|Qx ?_
 have e:=sI h0;subst e;exact hQ0 _ _ _ (.inr Z) Z (Jj (Je5 Z) (hA Z) kZ Z (Cg hv0 (lb Z)) Z Z Z (bB Z Z (bB Z Z (bM Z bZ))) Z Z);replace h0:=Ql c16 h0;refine Qp<|Q1<|Q3<|Q0<|rM Z Z Z ?_
 refine Dz h0 (λg17 h0=>?_);refine Qm Z Z (lb Z) (QO (Quz (a0.take o1.toNat) g17) Z (.cons (.one (.d _)) .nil)) ?_;refine rM Z Z Z<|rR Z Z Z (Jr Z Z)<|rR Z Z Z (Jr Z Z)<|rA Z Z Z<|rA Z Z Z<|Q2<|Q1<|Q3<|Q0<|rM Z Z Z<|rA Z Z Z<|Q2<|Q1<|Qx ?_
 have e:=sI h0;subst e;exact hQ0 _ _ _ (.inr Z) Z (Jj (Je5 Z) (hA Z) kZ Z (Cg hv0 (lb Z)) Z Z Z (bB Z Z (bB Z Z (bM Z bZ))) Z Z)
def Qbm(a0:Int)(a1:Int)(a2:QL):Option QL:=Option.bind (cond (!(Q0g a2 a0)) (some true) (some (decide ((Zg a2 a0)<a1)))) (λ(v1:Bool)=>cond v1 (some (U9 a2 a0 a1)) (some a2))
theorem Qod(a0:Int)(a1:Int)(a2:QL)(r:QL)(h0:Qbm a0 a1 a2=some r):CallM prog 206 [.one (.mp 0),.one (dI a0),.one (dI a1)] ⟨[(0,.mp (JW a2.1) a2.2)],[],1⟩ (Qj []) ⟨[(0,.mp (JW r.1) r.2)],[],1⟩:=by
 unfold Qbm at h0;refine QF ⟨[],[(0,.mp (JW r.1) r.2)],[],1,24,[]⟩ Z Z J3v (lb Z) Z .nil (λw0 M V0 Q hv0 hQ0=>?_);simp only[J4];refine Q3<|Q0<|rM Z Z Z<|rM Z Z Z<|rR Z Z Z (Qk3 Qhp Z Z Z)<|rM Z Z Z<|rR Z Z Z (Jr Z Z)<|rR Z Z Z (Jr Z Z)<|rA Z Z Z<|rA Z Z Z<|Q2<|Q1<|Q3 ?_
 refine QN (λ(v1:Bool)=>⟨[(0,.v (.one (.mp 0))),(1,.v (.one (dI a0))),(2,.v (.one (dI a1))),(20,.v (.one (dB v1)))],[(0,.mp (JW a2.1) a2.2)],[],1,24,[]⟩) (λ(v1:Bool)=>(cond v1 (some (U9 a2 a0 a1)) (some a2))=some r) ?_ ?_;refine Qn h0 (λw1_ h1 h0=>?_);refine Q0<|rM Z Z Z<|rR Z Z Z (Zk Z)<|rM Z Z Z ?_
 refine QB (d:=16) (c:=(!(Q0g a2 a0))) Z (λc2=>?_) (λc2=>?_);replace h1:=Qk c2 h1;refine Q7 Z Z<|Q7 Z Z<|Q7 Z Z<|rR Z Z Z (Qe Z Z)<|Q2 ?_
 have e:=sI h1;subst e;exact Qb true (Jj (Je5 Z) (hA Z) kZ Z (Cg hv0 (lb Z)) Z Z Z (bM Z bZ) Z Z) h0;replace h1:=Ql c2 h1;refine rM Z Z Z<|rM Z Z Z<|rR Z Z Z (Q5 Z Z Z)<|rR Z Z Z (Qh Z Z)<|Q2 ?_
 have e:=sI h1;subst e;exact Qb (decide ((Zg a2 a0)<a1)) (Jj (Je5 Z) (hA Z) kZ Z (Cg hv0 (lb Z)) Z Z Z (bM Z bZ) Z Z) h0;intro v1 h0;refine Q1 ?_;refine Qi (b:=v1) Z (λc3=>?_) (λc3=>?_);replace h0:=Qk c3 h0;refine Q0<|rM Z Z Z<|rM Z Z Z<|rM Z Z Z<|J1 Z Z (Qd6 Qhp Z Z Z Z Z)<|Q2 ?_
 have e:=sI h0;subst e;exact hQ0 _ _ _ (.inl Z) Z (Jj Je1 (hA Z) kZ Z (Cg hv0 (lb Z)) Z Z Z (bM Z bZ) Z Z);replace h0:=Ql c3 h0;refine Qp ?_;have e:=sI h0;subst e;exact hQ0 _ _ _ (.inl Z) Z (Jj Je1 (hA Z) kZ Z (Cg hv0 (lb Z)) Z Z Z (bM Z bZ) Z Z)
def Gc(a0:Lvl)(a1:Int)(s1:Int×QL):Option (LO (Int×QL) QL):=
 cond (decide (s1.1<(a0.vs.length:Int))) (Option.bind (QP a0.vs s1.1) λ(x3:LV)=>
 Option.bind (Qbm x3.1 (Qr (x3.2+a1)) s1.2) λ(x4:QL)=>
 some (.next ((Qr (s1.1+1)),x4))) (some (.done s1.2))
def W9(a0:Lvl)(a1:Int)(a2:Int)(a3:QL):Option QL:=Option.bind (Qc (Gc a0 a1) Qf (0,a3)) (λ(o1:QL)=>some o1)
theorem Qoh(a0:Lvl)(a1:Int)(a2:Int)(a3:QL)(r:QL)(h0:W9 a0 a1 a2 a3=some r):CallM prog 180 [.one (.ptr 0 0),.agg (cE a0),.one (dI a1)] ⟨[(0,.cells 212 [.mp 1,dI a2]),(1,.mp (JW a3.1) a3.2)],[],2⟩ (Qj []) ⟨[(0,.cells 212 [.mp 1,dI (max a2 (Qr (a0.c+a1)))]),(1,.mp (JW r.1) r.2)],[],3⟩:=by
 unfold W9 at h0;refine QF ⟨[],[(0,.cells 212 [.mp 1,dI (max a2 (Qr (a0.c+a1)))]),(1,.mp (JW r.1) r.2)],[],3,39,[]⟩ Z Z J42 (lb Z) Z .nil (λw0 M V0 Q hv0 hQ0=>?_);simp only[J4];refine Q3<|Q0<|Qm Z Z (lb Z) (Ju Z)<|Q2<|Q1<|Q3 ?_
 refine Ye [12] [] mixed (by kernel_rfl) (by kernel_rfl) (by kernel_rfl) ?_;refine RunA.rd Z Z Z (Q9 (Jn Z)) Z<|RunA.rd Z Z Z (Q9 (Jn Z)) Z<|RunA.rd Z Z Z (Q9 (Qo Z)) Z<|RunA.rd Z Z Z (Q9 (Q4 Q6i Z)) Z<|RunA.rd Z Z Z (Q9 (Q6 Ji Z Z Z)) Z<|RunA.rd Z Z Z (Q9 (Q4 GY Z)) Z<|RunA.rd Z Z Z (Q9 (Q6 Ji Z Z Z)) Z<|RunA.rd Z Z Z (Q9 (Jn Z)) Z<|RunA.rd Z Z Z (Q9 (Q5 Z Z Z)) Z<|RunA.rd Z Z Z (Q9 (X6 Z Z)) Z<|RunA.rd Z Z Z (Q9 (Qo Z)) Z<|RunA.rd Z Z Z (Q9 (Q4 Q6i Z)) Z<|RunA.eff Z Z Z (Qz Ji Z Z Z Z (lb Z) Z) Z ?_
 refine RunA.nil ⟨?ex,_,_,Z,?_⟩;case ex=>exact trivial
 refine X5 (st':=⟨[(0,.v (.one (.ptr 0 0))),(2,.v (.one (dI a1))),(4,.v (.one (.ptr 2 0)))],[(0,.cells 212 [.mp 1,dI (max a2 (Qr (a0.c+a1)))]),(1,.mp (JW a3.1) a3.2),(2,.cells 82 (cE a0))],[],3,39,[]⟩) (Jj (Je5 Z) (hA Z) kZ Z (Cg hv0 (lb Z)) Z Z Z (bB Z Z (bM Z (bA Z))) Z Z)<|Q1<|Q3<|Q0<|rR Z Z Z (Q4 YX Z)<|rR Z Z Z (Q6 X3 Z Z Z)<|rR Z Z Z (Jg (α:=LV) Kb Z (.d _))<|rM Z Z Z<|Q2<|Q1<|QC ?_
 refine Y5 0 (λ(o1:QL)=>⟨[],[(0,.cells 212 [.mp 1,dI (max a2 (Qr (a0.c+a1)))]),(1,.mp (JW o1.1) o1.2),(2,.cells 82 (cE a0))],[],3,39,[]⟩) (λ(o1:QL)=>(some o1)=some r) ?_ ?_;refine Qn h0 (λo2 hl1 h0=>?_);refine Y4 (Gc a0 a1) (λs1=>⟨[(0,.v (.one (.ptr 0 0))),(2,.v (.one (dI a1))),(21,.v (.one (dS a0.vs))),(22,.v (.one (dI (a0.vs.length:Int)))),(23,.v (.one (dI s1.1)))],[(0,.cells 212 [.mp 1,dI (max a2 (Qr (a0.c+a1)))]),(1,.mp (JW s1.2.1) s1.2.2),(2,.cells 82 (cE a0))],[],3,39,[]⟩) (0,a3) o2 (Jj (Je5 Z) (hA Z) kZ Z (Cg hv0 (lb Z)) Z Z Z (bB Z Z (bM Z (bA Z))) Z Z) hl1 (λs1 n1 oo1 h1 ho1=>?_);unfold Gc at h1;refine Q3<|Q0<|rR Z Z Z (Q5 Z Z Z)<|Q2<|Q1<|Q3 ?_
 refine Qi (b:=(decide (s1.1<(a0.vs.length:Int)))) Z (λc3=>?_) (λc3=>?_);replace h1:=Qk c3 h1;refine Qp<|Q1<|Q3<|QC<|Q3<|Q0 ?_
 refine Qn h1 (λx4 hx4 h1=>?_);refine rR Z Z Z (JH (α:=LV) Kb Z (.d _) Z hx4)<|rR Z Z Z (JV (x4:LV) DL Z)<|Qm Z Z (lb Z) (J0 Qde Z)<|J1 Z Z (Zd (x4:LV) DL Z Z Z Z Z)<|Q2<|Q1 ?_
 refine Ye [10] [] mixed (by kernel_rfl) (by kernel_rfl) (by kernel_rfl) ?_;refine RunA.rd Z Z Z (Q9 (Jn Z)) Z<|RunA.rd Z Z Z (Q9 (Qo Z)) Z<|RunA.rd Z Z Z (Q9 (Q4 Q6j Z)) Z<|RunA.rd Z Z Z (Q9 (Q6 Qjv Z Z Z)) Z<|RunA.rd Z Z Z (Q9 (Q4 ZZ Z)) Z<|RunA.rd Z Z Z (Q9 (Q6 Ji Z Z Z)) Z<|RunA.rd Z Z Z (Q9 (Q4 Xy Z)) Z<|RunA.rd Z Z Z (Q9 (Q6 Ji Z Z Z)) Z<|RunA.rd Z Z Z (Q9 (Jn Z)) Z<|RunA.rd Z Z Z (Q9 (Q5 Z Z Z)) Z ?_
 refine Qn h1 (λx5 hx5 h1=>?_);refine RunA.eff Z Z Z (QE (hp1':=[(1,.mp (JW x5.1) x5.2)]) (tk1':=[]) (hpF:=[(0,.cells 212 [.mp 1,dI (max a2 (Qr (a0.c+a1)))]),(2,.cells 82 (cE a0)),(3,.cells 142 (cE x4))]) (tkF:=[]) (res2:=Qj []) (nx2:=4) [1] Z Z (Qod x4.1 (Qr (x4.2+a1)) s1.2 x5 hx5) Z Z (qM Z qZ) Z Z (gM Z gZ) jZ (hA Z) kZ Z Z Z Z Z (bM Z bZ) Z Z Z Z) Z ?_;refine RunA.nil ⟨?ex,_,_,Z,?_⟩;case ex=>exact trivial
 refine X5 (st':=⟨[(0,.v (.one (.ptr 0 0))),(2,.v (.one (dI a1))),(21,.v (.one (dS a0.vs))),(22,.v (.one (dI (a0.vs.length:Int)))),(23,.v (.one (dI s1.1)))],[(0,.cells 212 [.mp 1,dI (max a2 (Qr (a0.c+a1)))]),(1,.mp (JW x5.1) x5.2),(2,.cells 82 (cE a0)),(3,.cells 142 (cE x4))],[],4,39,[]⟩) (Jj (Je5 Z) (hA Z) kZ Z (Cg hv0 (lb Z)) Z Z Z (bB Z Z (bM Z (bA Z))) Z Z)<|QU<|Q1<|Q0<|rR Z Z Z (Q5 Z Z Z)<|rM Z Z Z<|Q2 ?_
 have e:=sI h1;subst e;refine JK ((Qr (s1.1+1)),x5) (Jj (Je5 Z) (hA Z) kZ Z (Cg hv0 (lb Z)) Z Z Z (bB Z Z (bM Z (bA Z))) Z Z) ho1;replace h1:=Ql c3 h1;refine Y9<|QV<|QV ?_
 have e:=sI h1;subst e;have e_:_=_:=ho1;subst e_;exact Y3 s1.2 (Jj Je1 (hA Z) kZ Z (Cg hv0 (lb Z)) Z Z Z (bB Z Z (bM Z (bA Z))) Z Z) h0;intro o1 h0;refine Jo ?_;have e:=sI h0;subst e;exact hQ0 _ _ _ (.inl Z) Z (Jj Je1 (hA Z) kZ Z (Cg hv0 (lb Z)) Z Z Z (bB Z Z (bM Z bZ)) Z Z)
abbrev Q9e(p0_:(Int×Bs×Bool))(p1_:Int)(p2_:Int)(p3_:QL):List (Nat×HB):=[(0,.cells 188 [K8 p0_.2.1,dB p0_.2.2,dI p1_,.ptr 1 0]),(1,.cells 212 [.mp 2,dI p2_]),(2,.mp (JW p3_.1) p3_.2),(3,.cells 82 [dI 0,dN])]
abbrev Qos(p0_:Int×Bs×Bool)(p1_:Int)(p2_:Int)(p3_:QL):List (Nat×HB):=[(0,.cells 188 [K8 p0_.2.1,dB p0_.2.2,dI p1_,.ptr 1 0]),(1,.cells 212 [.mp 2,dI p2_]),(2,.mp (JW p3_.1) p3_.2),(3,.cells 82 [dI 0,dN])]
abbrev Q9d(p0_:Int×Bs×Bool)(p1_:Int)(p2_:Int)(p3_:QL)(p4_:Int×(List LV)):List (Nat×HB):=[(0,.cells 188 [K8 p0_.2.1,dB p0_.2.2,dI p1_,.ptr 1 0]),(1,.cells 212 [.mp 2,dI p2_]),(2,.mp (JW p3_.1) p3_.2),(3,.cells 82 [dI 0,dN]),(4,.cells 82 [dI 0,dS p4_.2])]
abbrev Qor(p0_:Int×Bs×Bool)(p1_:Int)(p2_:Int)(p3_:QL):List (Nat×HB):=[(0,.cells 188 [K8 p0_.2.1,dB p0_.2.2,dI p1_,.ptr 1 0]),(1,.cells 212 [.mp 2,dI p2_]),(2,.mp (JW p3_.1) p3_.2),(3,.cells 82 [dI 0,dN]),(4,.cells 82 [dI 0,dN])]
abbrev Q9c(p0_:(Int×Bs×Bool))(p1_:Int)(p2_:Int)(p3_:QL)(p4_:Int×Int):List (Nat×HB):=[(0,.cells 188 [K8 p0_.2.1,dB p0_.2.2,dI p1_,.ptr 1 0]),(1,.cells 212 [.mp 2,dI p2_]),(2,.mp (JW p3_.1) p3_.2),(3,.cells 82 [dI 0,dN]),(4,.cells 82 [dI p4_.2,dN])]
abbrev Q9b(p0_:Int×Int×(List LV)×Bs×Bool×Int×(List LV))(p1_:Int):HB:=.cells 188 [K8 p0_.2.2.2.1,dB p0_.2.2.2.2.1,dI p1_,.ptr 1 0]
abbrev Qoq(p0_:Int×Int×(List LV)×Bs×Bool×Int×(List LV))(p1_:Int):List (Nat×HB):=[(0,Q9b p0_ p1_),(3,.cells 82 [dI p0_.2.1,dS p0_.2.2.1]),(4,.cells 82 [dI p0_.2.2.2.2.2.1,dS p0_.2.2.2.2.2.2])]
abbrev Qop(p0_:Bs)(p1_:Bool)(p2_:Int)(p3_:Int)(p4_:QL):List (Nat×HB):=[(0,.cells 188 [K8 p0_,dB p1_,dI p2_,.ptr 1 0]),(1,.cells 212 [.mp 2,dI p3_]),(2,.mp (JW p4_.1) p4_.2)]
abbrev Q9a(p0_:(Bs×Bool×Int×Int×QL)):List (Nat×HB):=[(0,.cells 188 [K8 p0_.1,dB p0_.2.1,dI p0_.2.2.1,.ptr 1 0]),(1,.cells 212 [.mp 2,dI p0_.2.2.2.1]),(2,.mp (JW p0_.2.2.2.2.1) p0_.2.2.2.2.2)]
def WZ(a0:Bs)(a1:Bool)(a2:Int)(a3:Int)(a4:QL):Option ((Bs×Bool×Int×Int×QL)):=
 Option.bind (YS ([117]:List UInt8) a0 a1 a2 a3 a4) λ(x1:(Bs))=>
 Option.bind (cond (Lib.hasPrefix a0 ([117]:List UInt8)) (some (true,x1)) (Option.bind (YS ([63]:List UInt8) x1 a1 a2 a3 a4) λ(x4:(Bs))=>
 some ((Lib.hasPrefix x1 ([63]:List UInt8)),x4))) (λ(v2:Bool×Bs)=>Option.bind (cond v2.1 (Option.bind (Zj v2.2 a1 a2 a3 a4) λ(x5:(Int×Bs×Bool))=>
 Option.bind (cond (!(Lib.hasPrefix a0 ([117]:List UInt8))) (some (Qr ((-1)-x5.1))) (some x5.1)) (λ(v6:Int)=>Option.bind (Yb x5.2.1 x5.2.2 a2 a3 a4) λ(x7:Unit)=>
 Option.bind (YS ([43]:List UInt8) (x5.2.1.dropWhile (·==32)) x5.2.2 a2 a3 a4) λ(x8:(Bs))=>
 Option.bind (cond (Lib.hasPrefix (x5.2.1.dropWhile (·==32)) ([43]:List UInt8)) (Option.bind (Yb x8 x5.2.2 a2 a3 a4) λ(x11:Unit)=>
 Option.bind (Zj (x8.dropWhile (·==32)) x5.2.2 a2 a3 a4) λ(x12:(Int×Bs×Bool))=>
 some (x12.1,x12.2.1,x12.2.2)) (some (0,x8,x5.2.2))) (λ(v9:Int×Bs×Bool)=>Option.bind (Option.bind (cond (decide (v6<(-65536))) (some true) (cond (decide (7<v6)) (some true) (some (decide (v9.1<0))))) (λ(v12:Bool)=>cond v12 (some (2,([]:List LV))) (cond (decide (100<v9.1)) (some (15,([]:List LV))) (some (0,[(v6,v9.1)]))))) (λ(y10:Int×(List LV))=>some (y10.1,0,y10.2,v9.2.1,v9.2.2,0,y10.2))))) (Option.bind (Zj v2.2 a1 a2 a3 a4) λ(x21:(Int×Bs×Bool))=>
 Option.bind (cond (decide (x21.1<0)) (some (2,0)) (cond (decide (100<x21.1)) (some (15,0)) (some (0,x21.1)))) (λ(y22:Int×Int)=>some (y22.1,y22.2,([]:List LV),x21.2.1,x21.2.2,y22.2,([]:List LV))))) (λ(v3:Int×Int×(List LV)×Bs×Bool×Int×(List LV))=>Option.bind (cond (a2==0) (some v3.1) (some a2)) (λ(v4:Int)=>Option.bind (W9 (⟨v3.2.1,v3.2.2.1⟩:Lvl) 0 a3 a4) λ(x5:QL)=>
 some (v3.2.2.2.1,v3.2.2.2.2.1,v4,(max a3 (Qr ((⟨v3.2.1,v3.2.2.1⟩:Lvl).c+0))),x5))))
theorem Q99(a0:Bs)(a1:Bool)(a2:Int)(a3:Int)(a4:QL)(r:(Bs×Bool×Int×Int×QL))(h0:WZ a0 a1 a2 a3 a4=some r):CallM prog 152 [.one (.ptr 0 0)] ⟨Qop a0 a1 a2 a3 a4,[],3⟩ (Qj []) ⟨Q9a r,[],6⟩:=by
 unfold WZ at h0;refine QF ⟨[],Q9a r,[],6,55,[]⟩ Z Z J4c (lb Z) Z .nil (λw0 M V0 Q hv0 hQ0=>?_);simp only[J4];refine Q3<|Q0<|Qm Z Z (lb Z) (J0 Qgu Z)<|Q2<|Q1<|Q3<|Q0<|rA Z Z Z<|Q2<|Q1<|Q3<|Q0<|rM Z Z Z ?_
 refine Qn h0 (λx1 hx1 h0=>?_);refine Qm Z Z (lb Z) (QE (hp1':=[(0,.cells 188 [K8 x1,dB a1,dI a2,.ptr 1 0]),(1,.cells 212 [.mp 2,dI a3]),(2,.mp (JW a4.1) a4.2)]) (tk1':=[]) (hpF:=[(3,.cells 82 [dI 0,dN])]) (tkF:=[]) (res2:=Qj [.one (dB (Lib.hasPrefix a0 ([117]:List UInt8)))]) (nx2:=4) [0,1,2] Z Z (Ki ([117]:List UInt8) a0 a1 a2 a3 a4 x1 hx1) Z Z (qB Z Z (qB Z Z (qM Z qZ))) Z Z (gR Z (gR Z (gM Z gZ))) jZ (hA Z) kZ Z Z Z Z Z (bB Z Z (bB Z Z (bM Z bZ))) Z Z Z Z)<|rA Z Z Z<|Q2<|Q1<|Q3<|Q3 ?_
 refine QN (λ(v2:Bool×Bs)=>⟨[(0,.v (.one (.ptr 0 0))),(2,.v (.one (.ptr 3 0))),(4,.v (.one (dB (Lib.hasPrefix a0 ([117]:List UInt8))))),(13,.v (.one (dB v2.1)))],[(0,.cells 188 [K8 v2.2,dB a1,dI a2,.ptr 1 0]),(1,.cells 212 [.mp 2,dI a3]),(2,.mp (JW a4.1) a4.2),(3,.cells 82 [dI 0,dN])],[],4,55,[]⟩) (λ(v2:Bool×Bs)=>(Option.bind (cond v2.1 (Option.bind (Zj v2.2 a1 a2 a3 a4) λ(x5:(Int×Bs×Bool))=>
  Option.bind (cond (!(Lib.hasPrefix a0 ([117]:List UInt8))) (some (Qr ((-1)-x5.1))) (some x5.1)) (λ(v6:Int)=>Option.bind (Yb x5.2.1 x5.2.2 a2 a3 a4) λ(x7:Unit)=>
  Option.bind (YS ([43]:List UInt8) (x5.2.1.dropWhile (·==32)) x5.2.2 a2 a3 a4) λ(x8:(Bs))=>
  Option.bind (cond (Lib.hasPrefix (x5.2.1.dropWhile (·==32)) ([43]:List UInt8)) (Option.bind (Yb x8 x5.2.2 a2 a3 a4) λ(x11:Unit)=>
  Option.bind (Zj (x8.dropWhile (·==32)) x5.2.2 a2 a3 a4) λ(x12:(Int×Bs×Bool))=>
  some (x12.1,x12.2.1,x12.2.2)) (some (0,x8,x5.2.2))) (λ(v9:Int×Bs×Bool)=>Option.bind (Option.bind (cond (decide (v6<(-65536))) (some true) (cond (decide (7<v6)) (some true) (some (decide (v9.1<0))))) (λ(v12:Bool)=>cond v12 (some (2,([]:List LV))) (cond (decide (100<v9.1)) (some (15,([]:List LV))) (some (0,[(v6,v9.1)]))))) (λ(y10:Int×(List LV))=>some (y10.1,0,y10.2,v9.2.1,v9.2.2,0,y10.2))))) (Option.bind (Zj v2.2 a1 a2 a3 a4) λ(x21:(Int×Bs×Bool))=>
  Option.bind (cond (decide (x21.1<0)) (some (2,0)) (cond (decide (100<x21.1)) (some (15,0)) (some (0,x21.1)))) (λ(y22:Int×Int)=>some (y22.1,y22.2,([]:List LV),x21.2.1,x21.2.2,y22.2,([]:List LV))))) (λ(v3:Int×Int×(List LV)×Bs×Bool×Int×(List LV))=>Option.bind (cond (a2==0) (some v3.1) (some a2)) (λ(v4:Int)=>Option.bind (W9 (⟨v3.2.1,v3.2.2.1⟩:Lvl) 0 a3 a4) λ(x5:QL)=>
  some (v3.2.2.2.1,v3.2.2.2.2.1,v4,(max a3 (Qr ((⟨v3.2.1,v3.2.2.1⟩:Lvl).c+0))),x5))))=some r) ?_ ?_
 refine Qn h0 (λw1_ h1 h0=>?_);refine Q0<|rM Z Z Z<|rM Z Z Z ?_
 refine QB (d:=10) (c:=(Lib.hasPrefix a0 ([117]:List UInt8))) Z (λc3=>?_) (λc3=>?_);replace h1:=Qk c3 h1;refine Q7 Z Z<|Q7 Z Z<|rR Z Z Z (Qe Z Z)<|Q2 ?_
 have e:=sI h1;subst e;exact Qb (true,x1) (Jj (Je5 Z) (hA Z) kZ Z (Cg hv0 (lb Z)) Z Z Z (bB Z Z (bB Z Z (bM Z (bA Z)))) Z Z) h0;replace h1:=Ql c3 h1;refine rM Z Z Z ?_;refine Qn h1 (λx4 hx4 h1=>?_);refine Qm Z Z (lb Z) (QE (hp1':=[(0,.cells 188 [K8 x4,dB a1,dI a2,.ptr 1 0]),(1,.cells 212 [.mp 2,dI a3]),(2,.mp (JW a4.1) a4.2)]) (tk1':=[]) (hpF:=[(3,.cells 82 [dI 0,dN])]) (tkF:=[]) (res2:=Qj [.one (dB (Lib.hasPrefix x1 ([63]:List UInt8)))]) (nx2:=4) [0,1,2] Z Z (Ki ([63]:List UInt8) x1 a1 a2 a3 a4 x4 hx4) Z Z (qB Z Z (qB Z Z (qM Z qZ))) Z Z (gR Z (gR Z (gM Z gZ))) jZ (hA Z) kZ Z Z Z Z Z (bB Z Z (bB Z Z (bM Z bZ))) Z Z Z Z)<|rR Z Z Z (Qh Z Z)<|Q2 ?_
 have e:=sI h1;subst e;exact Qb ((Lib.hasPrefix x1 ([63]:List UInt8)),x4) (Jj (Je5 Z) (hA Z) kZ Z (Cg hv0 (lb Z)) Z Z Z (bB Z Z (bB Z Z (bM Z (bA Z)))) Z Z) h0;intro v2 h0;refine Q1 ?_;refine QN (λ(v5:Int×Int×(List LV)×Bs×Bool×Int×(List LV))=>⟨[(0,.v (.one (.ptr 0 0))),(2,.v (.one (.ptr 3 0))),(3,.v (.one (dI v5.1)))],[(0,.cells 188 [K8 v5.2.2.2.1,dB v5.2.2.2.2.1,dI a2,.ptr 1 0]),(1,.cells 212 [.mp 2,dI a3]),(2,.mp (JW a4.1) a4.2),(3,.cells 82 [dI v5.2.1,dS v5.2.2.1]),(4,.cells 82 [dI v5.2.2.2.2.2.1,dS v5.2.2.2.2.2.2])],[],5,55,[]⟩) (λ(v5:Int×Int×(List LV)×Bs×Bool×Int×(List LV))=>(Option.bind (cond (a2==0) (some v5.1) (some a2)) (λ(v6:Int)=>Option.bind (W9 (⟨v5.2.1,v5.2.2.1⟩:Lvl) 0 a3 a4) λ(x7:QL)=>some (v5.2.2.2.1,v5.2.2.2.2.1,v6,(max a3 (Qr ((⟨v5.2.1,v5.2.2.1⟩:Lvl).c+0))),x7)))=some r) ?_ ?_;refine Qn h0 (λw1_ h1 h0=>?_);refine Qi (b:=v2.1) Z (λc6=>?_) (λc6=>?_);replace h1:=Qk c6 h1;refine Q3<|Q0<|rM Z Z Z ?_
 refine Qn h1 (λx7 hx7 h1=>?_);refine Qm Z Z (lb Z) (QE (hp1':=[(0,.cells 188 [K8 x7.2.1,dB x7.2.2,dI a2,.ptr 1 0]),(1,.cells 212 [.mp 2,dI a3]),(2,.mp (JW a4.1) a4.2)]) (tk1':=[]) (hpF:=[(3,.cells 82 [dI 0,dN])]) (tkF:=[]) (res2:=Qj [.one (dI x7.1)]) (nx2:=4) [0,1,2] Z Z (Q1m v2.2 a1 a2 a3 a4 x7 hx7) Z Z (qB Z Z (qB Z Z (qM Z qZ))) Z Z (gR Z (gR Z (gM Z gZ))) jZ (hA Z) kZ Z Z Z Z Z (bB Z Z (bB Z Z (bM Z bZ))) Z Z Z Z)<|rA Z Z Z<|Q2<|Q1<|Q3<|Q3<|Q0<|rM Z Z Z<|rR Z Z Z (Zk Z)<|Q2<|Q1 ?_
 refine QN (λ(v8:Int)=>⟨[(0,.v (.one (.ptr 0 0))),(2,.v (.one (.ptr 3 0))),(5,.v (.one (dI v8)))],Q9e x7 a2 a3 a4,[],4,55,[]⟩) (λ(v8:Int)=>(Option.bind (Yb x7.2.1 x7.2.2 a2 a3 a4) λ(x9:Unit)=>
  Option.bind (YS ([43]:List UInt8) (x7.2.1.dropWhile (·==32)) x7.2.2 a2 a3 a4) λ(x10:(Bs))=>
  Option.bind (cond (Lib.hasPrefix (x7.2.1.dropWhile (·==32)) ([43]:List UInt8)) (Option.bind (Yb x10 x7.2.2 a2 a3 a4) λ(x13:Unit)=>
  Option.bind (Zj (x10.dropWhile (·==32)) x7.2.2 a2 a3 a4) λ(x14:(Int×Bs×Bool))=>
  some (x14.1,x14.2.1,x14.2.2)) (some (0,x10,x7.2.2))) (λ(v11:Int×Bs×Bool)=>Option.bind (Option.bind (cond (decide (v8<(-65536))) (some true) (cond (decide (7<v8)) (some true) (some (decide (v11.1<0))))) (λ(v14:Bool)=>cond v14 (some (2,([]:List LV))) (cond (decide (100<v11.1)) (some (15,([]:List LV))) (some (0,[(v8,v11.1)]))))) (λ(y12:Int×(List LV))=>some (y12.1,0,y12.2,v11.2.1,v11.2.2,0,y12.2))))=some w1_) ?_ ?_
 refine Qn h1 (λw2_ h2 h1=>?_);refine Qi (b:=(!(Lib.hasPrefix a0 ([117]:List UInt8)))) Z (λc9=>?_) (λc9=>?_);replace h2:=Qk c9 h2;refine Q0<|rM Z Z Z<|rR Z Z Z (Q5 Z Z Z)<|rA Z Z Z<|Q2 ?_
 have e:=sI h2;subst e;exact Qb (Qr ((-1)-x7.1)) (Jj (Je5 Z) (hA Z) kZ Z (Cg hv0 (lb Z)) Z Z Z (bB Z Z (bB Z Z (bM Z (bA Z)))) Z Z) h1;replace h2:=Ql c9 h2;refine Qp ?_;have e:=sI h2;subst e;exact Qb x7.1 (Jj (Je5 Z) (hA Z) kZ Z (Cg hv0 (lb Z)) Z Z Z (bB Z Z (bB Z Z (bM Z (bA Z)))) Z Z) h1;intro v8 h1;refine Q1<|Q3<|Q0<|rA Z Z Z<|Q2<|Q1<|Q3<|Q0<|rM Z Z Z ?_
 refine Qn h1 (λx10 hx10 h1=>?_);refine Qm Z Z (lb Z) (QE (hp1':=[(0,.cells 188 [K8 (x7.2.1.dropWhile (·==32)),dB x7.2.2,dI a2,.ptr 1 0]),(1,.cells 212 [.mp 2,dI a3]),(2,.mp (JW a4.1) a4.2)]) (tk1':=[]) (hpF:=[(3,.cells 82 [dI 0,dN])]) (tkF:=[]) (res2:=Qj []) (nx2:=4) [0,1,2] Z Z (Kj x7.2.1 x7.2.2 a2 a3 a4 x10 hx10) Z Z (qB Z Z (qB Z Z (qM Z qZ))) Z Z (gR Z (gR Z (gM Z gZ))) jZ (hA Z) kZ Z Z Z Z Z (bB Z Z (bB Z Z (bM Z bZ))) Z Z Z Z)<|Q2<|Q1<|Q3<|Q3<|Q0<|rM Z Z Z ?_
 refine Qn h1 (λx11 hx11 h1=>?_);refine Qm Z Z (lb Z) (QE (hp1':=[(0,.cells 188 [K8 x11,dB x7.2.2,dI a2,.ptr 1 0]),(1,.cells 212 [.mp 2,dI a3]),(2,.mp (JW a4.1) a4.2)]) (tk1':=[]) (hpF:=[(3,.cells 82 [dI 0,dN])]) (tkF:=[]) (res2:=Qj [.one (dB (Lib.hasPrefix (x7.2.1.dropWhile (·==32)) ([43]:List UInt8)))]) (nx2:=4) [0,1,2] Z Z (Ki ([43]:List UInt8) (x7.2.1.dropWhile (·==32)) x7.2.2 a2 a3 a4 x11 hx11) Z Z (qB Z Z (qB Z Z (qM Z qZ))) Z Z (gR Z (gR Z (gM Z gZ))) jZ (hA Z) kZ Z Z Z Z Z (bB Z Z (bB Z Z (bM Z bZ))) Z Z Z Z)<|Q2<|Q1 ?_
 refine QN (λ(v12:Int×Bs×Bool)=>⟨[(0,.v (.one (.ptr 0 0))),(2,.v (.one (.ptr 3 0))),(5,.v (.one (dI v8))),(6,.v (.one (dI v12.1)))],[(0,.cells 188 [K8 v12.2.1,dB v12.2.2,dI a2,.ptr 1 0]),(1,.cells 212 [.mp 2,dI a3]),(2,.mp (JW a4.1) a4.2),(3,.cells 82 [dI 0,dN])],[],4,55,[]⟩) (λ(v12:Int×Bs×Bool)=>(Option.bind (Option.bind (cond (decide (v8<(-65536))) (some true) (cond (decide (7<v8)) (some true) (some (decide (v12.1<0))))) (λ(v15:Bool)=>cond v15 (some (2,([]:List LV))) (cond (decide (100<v12.1)) (some (15,([]:List LV))) (some (0,[(v8,v12.1)]))))) (λ(y13:Int×(List LV))=>some (y13.1,0,y13.2,v12.2.1,v12.2.2,0,y13.2)))=some w1_) ?_ ?_;refine Qn h1 (λw2_ h2 h1=>?_);refine Qi (b:=(Lib.hasPrefix (x7.2.1.dropWhile (·==32)) ([43]:List UInt8))) Z (λc13=>?_) (λc13=>?_);replace h2:=Qk c13 h2;refine Q3<|Q0<|rM Z Z Z ?_
 refine Qn h2 (λx14 hx14 h2=>?_);refine Qm Z Z (lb Z) (QE (hp1':=[(0,.cells 188 [K8 (x11.dropWhile (·==32)),dB x7.2.2,dI a2,.ptr 1 0]),(1,.cells 212 [.mp 2,dI a3]),(2,.mp (JW a4.1) a4.2)]) (tk1':=[]) (hpF:=[(3,.cells 82 [dI 0,dN])]) (tkF:=[]) (res2:=Qj []) (nx2:=4) [0,1,2] Z Z (Kj x11 x7.2.2 a2 a3 a4 x14 hx14) Z Z (qB Z Z (qB Z Z (qM Z qZ))) Z Z (gR Z (gR Z (gM Z gZ))) jZ (hA Z) kZ Z Z Z Z Z (bB Z Z (bB Z Z (bM Z bZ))) Z Z Z Z)<|Q2<|Q1<|Q0<|rM Z Z Z ?_
 refine Qn h2 (λx15 hx15 h2=>?_);refine Qm Z Z (lb Z) (QE (hp1':=[(0,.cells 188 [K8 x15.2.1,dB x15.2.2,dI a2,.ptr 1 0]),(1,.cells 212 [.mp 2,dI a3]),(2,.mp (JW a4.1) a4.2)]) (tk1':=[]) (hpF:=[(3,.cells 82 [dI 0,dN])]) (tkF:=[]) (res2:=Qj [.one (dI x15.1)]) (nx2:=4) [0,1,2] Z Z (Q1m (x11.dropWhile (·==32)) x7.2.2 a2 a3 a4 x15 hx15) Z Z (qB Z Z (qB Z Z (qM Z qZ))) Z Z (gR Z (gR Z (gM Z gZ))) jZ (hA Z) kZ Z Z Z Z Z (bB Z Z (bB Z Z (bM Z bZ))) Z Z Z Z)<|rA Z Z Z<|Q2 ?_
 have e:=sI h2;subst e;exact Qb (x15.1,x15.2.1,x15.2.2) (Jj (Je5 Z) (hA Z) kZ Z (Cg hv0 (lb Z)) Z Z Z (bB Z Z (bB Z Z (bM Z (bA Z)))) Z Z) h1;replace h2:=Ql c13 h2;refine Qp ?_;have e:=sI h2;subst e;exact Qb (0,x11,x7.2.2) (Jj (Je5 Z) (hA Z) kZ Z (Cg hv0 (lb Z)) Z Z Z (bB Z Z (bB Z Z (bM Z (bA Z)))) Z Z) h1;intro v12 h1;refine Q1<|Q0<|rM Z Z Z<|rM Z Z Z ?_
 refine Qn h1 (λy16 h2 h1=>?_);have hc17:CallM prog 178 [.one (dI v8),.one (dI v12.1)] ⟨Qos v12 a2 a3 a4,[],4⟩ (Qj [.agg [dI 0,dS y16.2],.one (dI y16.1)]) ⟨Q9d v12 a2 a3 a4 y16,[],5⟩:=by
  refine QF ⟨[(4,.v (.one (.ptr 4 0))),(5,.v (.one (dI y16.1)))],Q9d v12 a2 a3 a4 y16,[],5,27,[]⟩ Z Z J44 (lb Z) Z (K6 JQ Z Z Z Z (Qy Z .nil)) (λw0 M V0 Q hv2 hQ2=>?_);simp only[J4];refine Q3<|Q0<|Qm Z Z (lb Z) (J0 Qgu Z)<|rA Z Z Z<|Q2<|Q1<|Q3<|QC<|Q3 ?_
  refine QN (λ(v18:Bool)=>⟨[(0,.v (.one (dI v8))),(1,.v (.one (dI v12.1))),(4,.v (.one (.ptr 4 0))),(6,.v (.one (dB v18)))],Qor v12 a2 a3 a4,[],5,27,[]⟩) (λ(v18:Bool)=>(cond v18 (some (2,([]:List LV))) (cond (decide (100<v12.1)) (some (15,([]:List LV))) (some (0,[(v8,v12.1)]))))=some y16) ?_ ?_;refine Qn h2 (λw3_ h3 h2=>?_);refine Q0<|rM Z Z Z<|rR Z Z Z (Q5 Z Z Z)<|rM Z Z Z ?_
  refine QB (d:=9) (c:=(decide (v8<(-65536)))) Z (λc19=>?_) (λc19=>?_);replace h3:=Qk c19 h3;refine Q7 Z Z<|Q7 Z Z<|rR Z Z Z (Qe Z Z)<|rM Z Z Z<|Q7 Z Z<|Q7 Z Z<|rR Z Z Z (Qe Z Z)<|rA Z Z Z<|Q2 ?_
  have e:=sI h3;subst e;exact Qb true (Jj (Je5 Z) (hA Z) kZ Z (Cg hv2 (lb Z)) Z Z Z (bB Z Z (bB Z Z (bM Z (bA Z)))) Z Z) h2;replace h3:=Ql c19 h3;refine rM Z Z Z<|rR Z Z Z (Q5 Z Z Z)<|rR Z Z Z (Qh Z Z)<|rM Z Z Z ?_
  refine QB (d:=13) (c:=(decide (7<v8))) Z (λc20=>?_) (λc20=>?_);replace h3:=Qk c20 h3;refine Q7 Z Z<|Q7 Z Z<|rR Z Z Z (Qe Z Z)<|rA Z Z Z<|Q2 ?_
  have e:=sI h3;subst e;exact Qb true (Jj (Je5 Z) (hA Z) kZ Z (Cg hv2 (lb Z)) Z Z Z (bB Z Z (bB Z Z (bM Z (bA Z)))) Z Z) h2;replace h3:=Ql c20 h3;refine rM Z Z Z<|rR Z Z Z (Q5 Z Z Z)<|rR Z Z Z (Qh Z Z)<|rA Z Z Z<|Q2 ?_
  have e:=sI h3;subst e;exact Qb (decide (v12.1<0)) (Jj (Je5 Z) (hA Z) kZ Z (Cg hv2 (lb Z)) Z Z Z (bB Z Z (bB Z Z (bM Z (bA Z)))) Z Z) h2;intro v18 h2;refine Q1 ?_;refine Qi (b:=v18) Z (λc21=>?_) (λc21=>?_);replace h2:=Qk c21 h2;refine Q3<|Q0<|rR Z Z Z (Zc WA Z )<|J1 Z Z (Qz JQ Z Z Z Z (lb Z) Z)<|rA Z Z Z<|Q2<|Q1<|Qx ?_
  have e:=sI h2;subst e;exact hQ2 _ _ _ (.inr Z) Z (Jj (Je5 Z) (hR Z (hR Z (hR Z (hR Z (hC Z (.cons (.refl _) (.cons (.sub (.nil _)) .nil)) hZ))))) kZ Z (Cg hv2 (lb Z)) Z Z Z (bB Z Z (bB Z Z (bM Z (bA Z)))) Z Z);replace h2:=Ql c21 h2;refine Q3<|Q0<|rM Z Z Z<|rR Z Z Z (Q5 Z Z Z)<|rA Z Z Z<|Q2<|Q1 ?_
  refine Qi (b:=(decide (100<v12.1))) Z (λc22=>?_) (λc22=>?_);replace h2:=Qk c22 h2;refine Q3<|Q0<|rR Z Z Z (Zc WA Z )<|J1 Z Z (Qz JQ Z Z Z Z (lb Z) Z)<|rA Z Z Z<|Q2<|Q1<|Qx ?_
  have e:=sI h2;subst e;exact hQ2 _ _ _ (.inr Z) Z (Jj (Je5 Z) (hR Z (hR Z (hR Z (hR Z (hC Z (.cons (.refl _) (.cons (.sub (.nil _)) .nil)) hZ))))) kZ Z (Cg hv2 (lb Z)) Z Z Z (bB Z Z (bB Z Z (bM Z (bA Z)))) Z Z);replace h2:=Ql c22 h2;refine Qp<|QU<|Q1<|Q3<|Q0<|rM Z Z Z<|rM Z Z Z<|rR Z Z Z (QX Quy Z Z Z Z)<|Qm Z Z (lb Z) (Qk9 (α:=LV) ((v8,v12.1)) Kb Qde Z Z (lb Z) (lb Z) Z Z (.cons (.d _) (.cons (.d _) .nil)) Z)<|rR Z Z Z (Gi WA Z Z Z)<|J1 Z Z (Qz JQ Z Z Z Z (lb Z) Z)<|rA Z Z Z<|Q2<|Q1 ?_
  refine Qx ?_;have e:=sI h2;subst e;exact hQ2 _ _ _ (.inr Z) Z (Jj (Je5 Z) (hR Z (hR Z (hR Z (hR Z (hC Z (.cons (.refl _) (.cons (.sub (.app _ _ _)) .nil)) hZ))))) kZ Z (Cg hv2 (lb Z)) Z Z Z (bB Z Z (bB Z Z (bM Z (bA Z)))) Z Z)
 refine Qm Z Z (lb Z) (GF Z Z Z hc17 Z (hA Z) kZ)<|rM Z Z Z<|rR Z Z Z (Jr Z Z)<|rR Z Z Z (Jr Z Z)<|J1 Z Z (Qz JQ Z Z Z Z (lb Z) Z)<|rA Z Z Z<|Q2 ?_
 have e:=sI h1;subst e;exact Qb (y16.1,0,y16.2,v12.2.1,v12.2.2,0,y16.2) (Jj (Je5 Z) (hA Z) kZ Z (Cg hv0 (lb Z)) Z Z Z (bB Z Z (bB Z Z (bM Z (bA Z)))) Z Z) h0;replace h1:=Ql c6 h1;refine Q0<|rM Z Z Z ?_
 refine Qn h1 (λx23 hx23 h1=>?_);refine Qm Z Z (lb Z) (QE (hp1':=[(0,.cells 188 [K8 x23.2.1,dB x23.2.2,dI a2,.ptr 1 0]),(1,.cells 212 [.mp 2,dI a3]),(2,.mp (JW a4.1) a4.2)]) (tk1':=[]) (hpF:=[(3,.cells 82 [dI 0,dN])]) (tkF:=[]) (res2:=Qj [.one (dI x23.1)]) (nx2:=4) [0,1,2] Z Z (Q1m v2.2 a1 a2 a3 a4 x23 hx23) Z Z (qB Z Z (qB Z Z (qM Z qZ))) Z Z (gR Z (gR Z (gM Z gZ))) jZ (hA Z) kZ Z Z Z Z Z (bB Z Z (bB Z Z (bM Z bZ))) Z Z Z Z) ?_;refine Qn h1 (λy24 h2 h1=>?_);have hc25:CallM prog 179 [.one (dI x23.1)] ⟨Q9e x23 a2 a3 a4,[],4⟩ (Qj [.agg [dI y24.2,dN],.one (dI y24.1)]) ⟨Q9c x23 a2 a3 a4 y24,[],5⟩:=by
  refine QF ⟨[(2,.v (.one (.ptr 4 0))),(3,.v (.one (dI y24.1)))],Q9c x23 a2 a3 a4 y24,[],5,14,[]⟩ Z Z J43 (lb Z) Z (K6 JQ Z Z Z Z (Qy Z .nil)) (λw0 M V0 Q hv2 hQ2=>?_);simp only[J4];refine Q3<|Q0<|Qm Z Z (lb Z) (J0 Qgu Z)<|rA Z Z Z<|Q2<|Q1<|Q3<|QC<|Q3<|Q0<|rM Z Z Z<|rR Z Z Z (Q5 Z Z Z)<|rA Z Z Z<|Q2 ?_
  refine Q1 ?_;refine Qi (b:=(decide (x23.1<0))) Z (λc26=>?_) (λc26=>?_);replace h2:=Qk c26 h2;refine Q3<|Q0<|rR Z Z Z (Zc WA Z )<|J1 Z Z (Qz JQ Z Z Z Z (lb Z) Z)<|rA Z Z Z<|Q2<|Q1<|Qx ?_
  have e:=sI h2;subst e;exact hQ2 _ _ _ (.inr Z) Z (Jj (Je5 Z) (hA Z) kZ Z (Cg hv2 (lb Z)) Z Z Z (bB Z Z (bB Z Z (bM Z (bA Z)))) Z Z);replace h2:=Ql c26 h2;refine Q3<|Q0<|rM Z Z Z<|rR Z Z Z (Q5 Z Z Z)<|rA Z Z Z<|Q2<|Q1 ?_
  refine Qi (b:=(decide (100<x23.1))) Z (λc27=>?_) (λc27=>?_);replace h2:=Qk c27 h2;refine Q3<|Q0<|rR Z Z Z (Zc WA Z )<|J1 Z Z (Qz JQ Z Z Z Z (lb Z) Z)<|rA Z Z Z<|Q2<|Q1<|Qx ?_
  have e:=sI h2;subst e;exact hQ2 _ _ _ (.inr Z) Z (Jj (Je5 Z) (hA Z) kZ Z (Cg hv2 (lb Z)) Z Z Z (bB Z Z (bB Z Z (bM Z (bA Z)))) Z Z);replace h2:=Ql c27 h2;refine Qp<|QU<|Q1<|Q3<|Q0<|rM Z Z Z<|rR Z Z Z (Gi WA Z Z Z)<|J1 Z Z (Qz JQ Z Z Z Z (lb Z) Z)<|rA Z Z Z<|Q2<|Q1<|Qx ?_
  have e:=sI h2;subst e;exact hQ2 _ _ _ (.inr Z) Z (Jj (Je5 Z) (hA Z) kZ Z (Cg hv2 (lb Z)) Z Z Z (bB Z Z (bB Z Z (bM Z (bA Z)))) Z Z)
 refine Qm Z Z (lb Z) (GF Z Z Z hc25 Z (hA Z) kZ)<|rM Z Z Z<|rR Z Z Z (Jr Z Z)<|rR Z Z Z (Jr Z Z)<|J1 Z Z (Qz JQ Z Z Z Z (lb Z) Z)<|rA Z Z Z<|Q2 ?_
 have e:=sI h1;subst e;exact Qb (y24.1,y24.2,([]:List LV),x23.2.1,x23.2.2,y24.2,([]:List LV)) (Jj (Je5 Z) (hR Z (hR Z (hR Z (hC Z (.cons (.refl _) (.cons (.sub (.nil _)) .nil)) (hC Z (.cons (.refl _) (.cons (.sub (.nil _)) .nil)) hZ))))) kZ Z (Cg hv0 (lb Z)) Z Z Z (bB Z Z (bB Z Z (bM Z (bA Z)))) Z Z) h0;intro v5 h0;refine Q1<|Q3<|Q3<|Q0<|rM Z Z Z<|rR Z Z Z (Qo Z)<|rR Z Z Z (Q4 Ub Z)<|rR Z Z Z (Q6 XJ Z Z Z)<|rR Z Z Z (Q5 Z Z Z)<|Q2<|Q1 ?_
 refine QN (λ(v28:Int)=>⟨[(0,.v (.one (.ptr 0 0))),(2,.v (.one (.ptr 3 0)))],[(0,.cells 188 [K8 v5.2.2.2.1,dB v5.2.2.2.2.1,dI v28,.ptr 1 0]),(1,.cells 212 [.mp 2,dI a3]),(2,.mp (JW a4.1) a4.2),(3,.cells 82 [dI v5.2.1,dS v5.2.2.1]),(4,.cells 82 [dI v5.2.2.2.2.2.1,dS v5.2.2.2.2.2.2])],[],5,55,[]⟩) (λ(v28:Int)=>(Option.bind (W9 (⟨v5.2.1,v5.2.2.1⟩:Lvl) 0 a3 a4) λ(x29:QL)=>some (v5.2.2.2.1,v5.2.2.2.2.1,v28,(max a3 (Qr ((⟨v5.2.1,v5.2.2.1⟩:Lvl).c+0))),x29))=some r) ?_ ?_;refine Qn h0 (λw1_ h1 h0=>?_);refine Qi (b:=(a2==0)) Z (λc29=>?_) (λc29=>?_);replace h1:=Qk c29 h1;refine Q0<|rM Z Z Z<|rM Z Z Z<|rR Z Z Z (Qo Z)<|rR Z Z Z (Q4 Ub Z)<|J1 Z Z (Qz XJ Z Z Z Z (lb Z) Z)<|Q2 ?_
 have e:=sI h1;subst e;exact Qb v5.1 (Jj (Je5 Z) (hA Z) kZ Z (Cg hv0 (lb Z)) Z Z Z (bB Z Z (bB Z Z (bM Z (bA Z)))) Z Z) h0;replace h1:=Ql c29 h1;refine Qp ?_;have e:=sI h1;subst e;exact Qb a2 (Jj (Je5 Z) (hA Z) kZ Z (Cg hv0 (lb Z)) Z Z Z (bB Z Z (bB Z Z (bM Z (bA Z)))) Z Z) h0;intro v28 h0;refine Q1 ?_;refine Ye [5] [] mixed (by kernel_rfl) (by kernel_rfl) (by kernel_rfl) ?_;refine RunA.rd Z Z Z (Q9 (Jn Z)) Z<|RunA.rd Z Z Z (Q9 (Qo Z)) Z<|RunA.rd Z Z Z (Q9 (Q4 Qfj Z)) Z<|RunA.rd Z Z Z (Q9 (Q6 Qv6 Z Z Z)) Z<|RunA.rd Z Z Z (Q9 (JX JQ Z Z Z Z)) Z ?_
 refine Qn h0 (λx30 hx30 h0=>?_);refine RunA.eff Z Z Z (QE (hp1':=[(1,.cells 212 [.mp 2,dI (max a3 (Qr ((⟨v5.2.1,v5.2.2.1⟩:Lvl).c+0)))]),(2,.mp (JW x30.1) x30.2)]) (tk1':=[]) (hpF:=Qoq v5 v28) (tkF:=[]) (res2:=Qj []) (nx2:=6) [1,2] Z Z (Qoh (⟨v5.2.1,v5.2.2.1⟩:Lvl) 0 a3 a4 x30 hx30) Z Z (qB Z Z (qM Z qZ)) Z Z (gR Z (gM Z gZ)) jZ (hA Z) kZ Z Z Z Z Z (bB Z Z (bM Z bZ)) Z Z Z Z) Z ?_;refine RunA.nil ⟨?ex,_,_,Z,?_⟩;case ex=>exact trivial
 refine X5 (st':=⟨[],[(0,Q9b v5 v28),(1,.cells 212 [.mp 2,dI (max a3 (Qr ((⟨v5.2.1,v5.2.2.1⟩:Lvl).c+0)))]),(2,.mp (JW x30.1) x30.2),(3,.cells 82 [dI v5.2.1,dS v5.2.2.1]),(4,.cells 82 [dI v5.2.2.2.2.2.1,dS v5.2.2.2.2.2.2])],[],6,55,[]⟩) (Jj Je1 (hA Z) kZ Z (Cg hv0 (lb Z)) Z Z Z (bB Z Z (bB Z Z (bM Z (bA Z)))) Z Z) ?_;have e:=sI h0;subst e;exact hQ0 _ _ _ (.inl Z) Z (Jj Je1 (hA Z) kZ Z (Cg hv0 (lb Z)) Z Z Z (bB Z Z (bB Z Z (bM Z bZ))) Z Z)
def Qbp(a0:QL):Option Unit:=some ()
theorem Qog(a0:QL)(r:Unit)(h0:Qbp a0=some r):CallM prog 182 [.one (.mp 0)] ⟨[(0,.mp (JW a0.1) a0.2)],[],1⟩ (Qj [.one (.fn 209 [(1,0)])]) ⟨[(0,.mp (JW a0.1) a0.2),(1,.cells 210 [.mp 0])],[],2⟩:=by
 unfold Qbp at h0;refine QF ⟨[(2,.v (.one (.fn 209 [(1,0)])))],[(0,.mp (JW a0.1) a0.2),(1,.cells 210 [.mp 0])],[],2,4,[]⟩ Z Z J41 (lb Z) Z (Qy Z .nil) (λw0 M V0 Q hv0 hQ0=>?_);simp only[J4];refine Q3<|Q0<|Qm Z Z (lb Z) (Ju Z)<|rA Z Z Z<|Q2<|Q1<|Q3<|Q0<|rR Z Z Z (Wv Z)<|rA Z Z Z<|Q2<|Q1<|Qx ?_
 have e:=sI h0;subst e;exact hQ0 _ _ _ (.inr Z) Z (Jj (Je5 Z) (hA Z) kZ Z (Cg hv0 (lb Z)) Z Z Z (bM Z (bA Z)) Z Z)
def Q4i(a0:LV)(a1:Int)(a2:List LV):Option Unit:=some ()
theorem Qi8(a0:LV)(a1:Int)(a2:List LV)(r:Unit)(h0:Q4i a0 a1 a2=some r):CallM prog 189 [.agg (cE a0),.one (.ptr 0 0)] ⟨[(0,.cells 82 [dI a1,dA 1 a2])],[(1,some ⟨142,2,(Enc.encL a2).length,[]⟩)],2⟩ (Qj [.one (dB (decide (a1<=a0.2)))]) ⟨[(0,.cells 82 [dI a1,dA 1 a2])],[(1,some ⟨142,2,(Enc.encL a2).length,[]⟩)],3⟩:=by
 unfold Q4i at h0;refine QF ⟨[(3,.v (.one (dB (decide (a1<=a0.2)))))],[(0,.cells 82 [dI a1,dA 1 a2])],[(1,some ⟨142,2,(Enc.encL a2).length,[]⟩)],3,9,[]⟩ Z Z Qud (lb Z) Z (Qy Z .nil) (λw0 M V0 Q hv0 hQ0=>?_);simp only[J4];refine Q3<|Q0<|Qm Z Z (lb Z) (Ju Z)<|rA Z Z Z<|Q2<|Q1<|Q3<|Q0<|rR Z Z Z (Q4 Xy Z)<|rR Z Z Z (Q6 Ji Z Z Z)<|rR Z Z Z (Q4 GY Z)<|rR Z Z Z (Q6 Ji Z Z Z)<|rR Z Z Z (Q5 Z Z Z)<|rA Z Z Z ?_
 refine Q2<|Q1<|Qx ?_
 have e:=sI h0;subst e;exact hQ0 _ _ _ (.inr Z) Z (sL (Cg hv0 (lb Z)) Z Z Z Z Z)
def Z4(a0:List LV)(a1:Int)(a2:List LV)(s1:Int):Option (LO Int (Unit⊕Int)):=
 cond (decide (s1<(a0.length:Int))) (Option.bind (QP a0 s1) λ(x3:LV)=>
 Option.bind (Q4i x3 a1 a2) λ(x4:Unit)=>
 cond (decide (a1<=x3.2)) (some (.done (.inr s1))) (some (.next (Qr (s1+1))))) (some (.done (.inl ())))
def Q4h(a0:List LV)(a1:Int)(a2:List LV):Option Int:=Option.bind (Qc (Z4 a0 a1 a2) Qf 0) (Sum.elim (λ(o1:Unit)=>some (-1)) (λo=>some o))
theorem Qi7(a0:List LV)(a1:Int)(a2:List LV)(r:Int)(h0:Q4h a0 a1 a2=some r):CallM prog 211 [.one (dA 0 a0),.one (.fn 189 [(1,0)])] ⟨[(1,.cells 82 [dI a1,dA 0 a2])],[(0,some ⟨142,2,(Enc.encL a2).length,[]⟩)],2⟩ (Qj [.one (dI r)]) ⟨[(1,.cells 82 [dI a1,dA 0 a2])],[(0,some ⟨142,2,(Enc.encL a2).length,[]⟩)],2⟩:=by
 unfold Q4h at h0;refine QF ⟨[(4,.v (.one (dI r)))],[(1,.cells 82 [dI a1,dA 0 a2])],[(0,some ⟨142,2,(Enc.encL a2).length,[]⟩)],2,19,[]⟩ Z Z Quc (lb Z) Z (Qy Z .nil) (λw0 M V0 Q hv0 hQ0=>?_);simp only[J4];refine Q3<|Q0<|rA Z Z Z<|Q2<|Q1<|Q3<|Q3<|Q0<|rM Z Z Z<|rR Z Z Z (Jg (α:=LV) Kb Z (.app _ _))<|rM Z Z Z<|Q2<|Q1<|QC ?_
 refine Y5 0 (λ(o1:Unit)=>⟨[],[(1,.cells 82 [dI a1,dA 0 a2])],[(0,some ⟨142,2,(Enc.encL a2).length,[]⟩)],2,19,[]⟩) (λ(o1:Unit)=>(some (-1))=some r) ?_ ?_;refine Qn h0 (λo2 hl1 h0=>?_);refine Y4 (Z4 a0 a1 a2) (λs1=>⟨[(0,.v (.one (dA 0 a0))),(1,.v (.one (.fn 189 [(1,0)]))),(7,.v (.one (dI (a0.length:Int)))),(8,.v (.one (dI s1)))],[(1,.cells 82 [dI a1,dA 0 a2])],[(0,some ⟨142,2,(Enc.encL a2).length,[]⟩)],2,19,[]⟩) 0 o2 (sL (Cg hv0 (lb Z)) Z Z Z Z Z) hl1 (λs1 n1 oo1 h1 ho1=>?_);unfold Z4 at h1;refine Q3<|Q0<|rR Z Z Z (Q5 Z Z Z)<|Q2<|Q1<|Q3 ?_
 refine Qi (b:=(decide (s1<(a0.length:Int)))) Z (λc3=>?_) (λc3=>?_);replace h1:=Qk c3 h1;refine Qp<|Q1<|Q3<|QC<|Q3<|Q0<|rM Z Z Z<|rA Z Z Z<|Q2<|Q1<|Q3<|Q0<|rM Z Z Z<|rM Z Z Z ?_
 refine rM Z Z Z ?_;refine Qn h1 (λx4 hx4 h1=>?_);refine rR Z Z Z (JH (α:=LV) Kb Z (.app _ _) Z hx4)<|rR Z Z Z (JV (x4:LV) DL Z) ?_
 refine Qn h1 (λx5 hx5 h1=>?_);refine Qm Z Z (lb Z) (QE (hp1':=[(1,.cells 82 [dI a1,dA 0 a2])]) (tk1':=[(0,some ⟨142,2,(Enc.encL a2).length,[]⟩)]) (hpF:=[]) (tkF:=[]) (res2:=Qj [.one (dB (decide (a1<=x4.2)))]) (nx2:=3) [1,0] Z Z (Qi8 x4 a1 a2 x5 hx5) Z Z (qB Z Z qZ) Z Z (gR Z gZ) (jR Z jZ) hZ kZ Z Z Z Z Z (bA Z) Z Z Z Z)<|Q2<|Q1 ?_
 refine Qi (b:=(decide (a1<=x4.2))) Z (λc6=>?_) (λc6=>?_);replace h1:=Qk c6 h1;refine Q3<|Q0<|rM Z Z Z<|rA Z Z Z<|Q2<|Q1<|Qx ?_
 have e:=sI h1;subst e;have e_:_=_:=ho1;subst e_;try dsimp only[Sum.elim_inl,Sum.elim_inr]at h0
 have e:=sI h0;subst e;exact hQ0 _ _ _ (.inr Z) Z (sL (Cg hv0 (lb Z)) Z Z Z Z Z);replace h1:=Ql c6 h1;refine Qp<|QU<|Q1<|Q0<|rR Z Z Z (Q5 Z Z Z)<|rM Z Z Z<|Q2 ?_
 have e:=sI h1;subst e;refine JK (Qr (s1+1)) (sL (Cg hv0 (lb Z)) Z Z Z Z Z) ho1;replace h1:=Ql c3 h1;refine Y9<|QV<|QV ?_
 have e:=sI h1;subst e;have e_:_=_:=ho1;subst e_;exact Y3 () (sL (Cg hv0 (lb Z)) Z Z Z Z Z) h0;intro o1 h0;refine Jo<|Q1<|Q3<|Q0<|rA Z Z Z<|Q2<|Q1<|Qx ?_
 have e:=sI h0;subst e;exact hQ0 _ _ _ (.inr Z) Z (sL (Cg hv0 (lb Z)) Z Z Z Z Z)
def Q4j(a0:List LV)(a1:Int)(a2:List LV):Option Bool:=
 Option.bind (Q4h a0 a1 a2) λ(x1:Int)=>
 some (decide (0<=x1))
theorem Qi9(a0:List LV)(a1:Int)(a2:List LV)(r:Bool)(h0:Q4j a0 a1 a2=some r):CallM prog 188 [.one (dA 0 a0),.one (.fn 189 [(1,0)])] ⟨[(1,.cells 82 [dI a1,dA 0 a2])],[(0,some ⟨142,2,(Enc.encL a2).length,[]⟩)],2⟩ (Qj [.one (dB r)]) ⟨[(1,.cells 82 [dI a1,dA 0 a2])],[(0,some ⟨142,2,(Enc.encL a2).length,[]⟩)],2⟩:=by
 unfold Q4j at h0;refine QF ⟨[(4,.v (.one (dB r)))],[(1,.cells 82 [dI a1,dA 0 a2])],[(0,some ⟨142,2,(Enc.encL a2).length,[]⟩)],2,9,[]⟩ Z Z Que (lb Z) Z (Qy Z .nil) (λw0 M V0 Q hv0 hQ0=>?_);simp only[J4];refine Q3<|Q0<|rA Z Z Z<|Q2<|Q1<|Q3<|Q0<|rM Z Z Z<|rM Z Z Z ?_
 refine Qn h0 (λx1 hx1 h0=>?_);refine Qm Z Z (lb Z) (QE (hp1':=[(1,.cells 82 [dI a1,dA 0 a2])]) (tk1':=[(0,some ⟨142,2,(Enc.encL a2).length,[]⟩)]) (hpF:=[]) (tkF:=[]) (res2:=Qj [.one (dI x1)]) (nx2:=2) [0,1] Z Z (Qi7 a0 a1 a2 x1 hx1) Z Z (qB Z Z qZ) Z Z (gR Z gZ) (jR Z jZ) hZ kZ Z Z Z Z Z (bA Z) Z Z Z Z)<|rR Z Z Z (Q5 Z Z Z)<|rA Z Z Z<|Q2<|Q1<|Qx ?_
 have e:=sI h0;subst e;exact hQ0 _ _ _ (.inr Z) Z (sL (Cg hv0 (lb Z)) Z Z Z Z Z)
def Q5z(a0:Int)(a1:List LV):Option Bool:=
 Option.bind (Q4j a1 a0 a1) λ(x1:Bool)=>
 some x1
theorem Qoj(a0:Int)(a1:List LV)(r:Bool)(h0:Q5z a0 a1=some r):CallM prog 158 [.agg [dI a0,dA 0 a1]] ⟨[],[(0,some ⟨142,2,(Enc.encL a1).length,[]⟩)],1⟩ (Qj [.one (dB r)]) ⟨[],[(0,some ⟨142,2,(Enc.encL a1).length,[]⟩)],2⟩:=by
 unfold Q5z at h0;refine QF ⟨[(2,.v (.one (dB r)))],[],[(0,some ⟨142,2,(Enc.encL a1).length,[]⟩)],2,7,[]⟩ Z Z Quf (lb Z) Z (Qy Z .nil) (λw0 M V0 Q hv0 hQ0=>?_);simp only[J4];refine Q3<|Q0<|Qm Z Z (lb Z) (Ju Z)<|rA Z Z Z<|Q2<|Q1<|Q3<|Q0<|rR Z Z Z (Q4 YX Z)<|rR Z Z Z (Q6 X3 Z Z Z)<|rR Z Z Z (Wv Z) ?_
 refine Qn h0 (λx1 hx1 h0=>?_);refine Qm Z Z (lb Z) (QE (hp1':=[(1,.cells 82 [dI a0,dA 0 a1])]) (tk1':=[(0,some ⟨142,2,(Enc.encL a1).length,[]⟩)]) (hpF:=[]) (tkF:=[]) (res2:=Qj [.one (dB x1)]) (nx2:=2) [0,1] Z Z (Qi9 a1 a0 a1 x1 hx1) Z Z (qB Z Z qZ) Z Z (gR Z gZ) (jR Z jZ) hZ kZ Z Z Z Z Z (bA Z) Z Z Z Z)<|rA Z Z Z<|Q2<|Q1<|Qx ?_
 have e:=sI h0;subst e;exact hQ0 _ _ _ (.inr Z) Z (sL (Cg hv0 (lb Z)) Z Z Z Z Z)
def Kh(a1:List LV)(s1:Int):Option (LO Int (Unit⊕((Int×Int×(List LV))))):=
 cond (decide (s1<(a1.length:Int))) (Option.bind (QP a1 s1) λ(x3:LV)=>
 cond (decide (100<x3.2)) (some (.done (.inr (15,0,([]:List LV))))) (some (.next (Qr (s1+1))))) (some (.done (.inl ())))
def Q1l(a0:Int)(a1:List LV):Option ((Int×Int×(List LV))):=
 Option.bind (Qc (Kh a1) Qf 0) (Sum.elim (λ(o1:Unit)=>cond (decide (100<a0)) (some (15,0,([]:List LV))) (Option.bind (Q5z a0 a1) λ(x3:Bool)=>
 cond x3 (some (0,0,a1)) (some (0,a0,a1)))) (λo=>some o))
theorem Qof(a0:Int)(a1:List LV)(r:(Int×Int×(List LV)))(h0:Q1l a0 a1=some r):CallM prog 183 [.agg [dI a0,dA 0 a1]] ⟨[],[(0,some ⟨142,2,(Enc.encL a1).length,[]⟩)],1⟩ (Qj [.agg [dI r.2.1,dS r.2.2],.one (dI r.1)]) ⟨[(2,.cells 82 [dI r.2.1,dS r.2.2])],[(0,some ⟨142,2,(Enc.encL a1).length,[]⟩)],3⟩:=by
 unfold Q1l at h0;refine QF ⟨[(2,.v (.one (.ptr 2 0))),(3,.v (.one (dI r.1)))],[(2,.cells 82 [dI r.2.1,dS r.2.2])],[(0,some ⟨142,2,(Enc.encL a1).length,[]⟩)],3,26,[]⟩ Z Z J40 (lb Z) Z (K6 JQ Z Z Z Z (Qy Z .nil)) (λw0 M V0 Q hv0 hQ0=>?_);simp only[J4];refine Q3<|Q0<|Qm Z Z (lb Z) (Ju Z)<|Qm Z Z (lb Z) (J0 Qgu Z)<|rA Z Z Z<|Q2<|Q1<|Q3<|Q3<|Q0<|rR Z Z Z (Q4 YX Z)<|rR Z Z Z (Q6 X3 Z Z Z)<|rR Z Z Z (Jg (α:=LV) Kb Z (.app _ _))<|rM Z Z Z ?_
 refine Q2<|Q1<|QC ?_
 refine Y5 0 (λ(o1:Unit)=>⟨[(1,.v (.one (.ptr 1 0))),(2,.v (.one (.ptr 2 0)))],[(1,.cells 82 [dI a0,dA 0 a1]),(2,.cells 82 [dI 0,dN])],[(0,some ⟨142,2,(Enc.encL a1).length,[]⟩)],3,26,[]⟩) (λ(o1:Unit)=>(cond (decide (100<a0)) (some (15,0,([]:List LV))) (Option.bind (Q5z a0 a1) λ(x3:Bool)=>cond x3 (some (0,0,a1)) (some (0,a0,a1))))=some r) ?_ ?_;refine Qn h0 (λo2 hl1 h0=>?_);refine Y4 (Kh a1) (λs1=>⟨[(1,.v (.one (.ptr 1 0))),(2,.v (.one (.ptr 2 0))),(7,.v (.one (dA 0 a1))),(8,.v (.one (dI (a1.length:Int)))),(9,.v (.one (dI s1)))],[(1,.cells 82 [dI a0,dA 0 a1]),(2,.cells 82 [dI 0,dN])],[(0,some ⟨142,2,(Enc.encL a1).length,[]⟩)],3,26,[]⟩) 0 o2 (sL (Cg hv0 (lb Z)) Z Z Z Z Z) hl1 (λs1 n1 oo1 h1 ho1=>?_);unfold Kh at h1;refine Q3<|Q0<|rR Z Z Z (Q5 Z Z Z)<|Q2<|Q1<|Q3 ?_
 refine Qi (b:=(decide (s1<(a1.length:Int)))) Z (λc3=>?_) (λc3=>?_);replace h1:=Qk c3 h1;refine Qp<|Q1<|Q3<|QC<|Q3<|Q0 ?_
 refine Qn h1 (λx4 hx4 h1=>?_);refine rR Z Z Z (JH (α:=LV) Kb Z (.app _ _) Z hx4)<|rR Z Z Z (JV (x4:LV) DL Z)<|Qm Z Z (lb Z) (J0 Qde Z)<|J1 Z Z (Zd (x4:LV) DL Z Z Z Z Z)<|Q2<|Q1<|Q3<|Q0<|rR Z Z Z (Q4 Xy Z)<|rR Z Z Z (Q6 Ji Z Z Z)<|rR Z Z Z (Q5 Z Z Z)<|Q2<|Q1 ?_
 refine Qi (b:=(decide (100<x4.2))) Z (λc5=>?_) (λc5=>?_);replace h1:=Qk c5 h1;refine Q3<|Q0<|rR Z Z Z (Zc WA Z )<|J1 Z Z (Qz JQ Z Z Z Z (lb Z) Z)<|rA Z Z Z<|Q2<|Q1<|Qx ?_
 have e:=sI h1;subst e;have e_:_=_:=ho1;subst e_;try dsimp only[Sum.elim_inl,Sum.elim_inr]at h0
 have e:=sI h0;subst e;exact hQ0 _ _ _ (.inr Z) Z (Jj (Je5 Z) (hC Z (.cons (.refl _) (.cons (.sub (.nil _)) .nil)) hZ) (kA Z) Z (Cg hv0 (lb Z)) Z Z Z (bA Z) Z Z);replace h1:=Ql c5 h1;refine Qp<|QU<|Q1<|Q0<|rR Z Z Z (Q5 Z Z Z)<|rM Z Z Z<|Q2 ?_
 have e:=sI h1;subst e;refine JK (Qr (s1+1)) (sL (Cg hv0 (lb Z)) Z Z Z Z Z) ho1;replace h1:=Ql c3 h1;refine Y9<|QV<|QV ?_
 have e:=sI h1;subst e;have e_:_=_:=ho1;subst e_;exact Y3 () (sL (Cg hv0 (lb Z)) Z Z Z Z Z) h0;intro o1 h0;refine Jo<|Q1<|Q3<|Q3<|Q0<|rR Z Z Z (Q4 GY Z)<|rR Z Z Z (Q6 Ji Z Z Z)<|rR Z Z Z (Q5 Z Z Z)<|Q2<|Q1 ?_
 refine Qi (b:=(decide (100<a0))) Z (λc6=>?_) (λc6=>?_);replace h0:=Qk c6 h0;refine Q3<|Q0<|rR Z Z Z (Zc WA Z )<|J1 Z Z (Qz JQ Z Z Z Z (lb Z) Z)<|rA Z Z Z<|Q2<|Q1<|Qx ?_
 have e:=sI h0;subst e;exact hQ0 _ _ _ (.inr Z) Z (Jj (Je5 Z) (hC Z (.cons (.refl _) (.cons (.sub (.nil _)) .nil)) hZ) (kA Z) Z (Cg hv0 (lb Z)) Z Z Z (bA Z) Z Z);replace h0:=Ql c6 h0;refine Qp<|Q1<|Q3<|Q3<|Q0<|rR Z Z Z (JX JQ Z Z Z Z) ?_
 refine Qn h0 (λx7 hx7 h0=>?_);refine Qm Z Z (lb Z) (QE (hp1':=[]) (tk1':=[(0,some ⟨142,2,(Enc.encL a1).length,[]⟩)]) (hpF:=[(1,.cells 82 [dI a0,dA 0 a1]),(2,.cells 82 [dI 0,dN])]) (tkF:=[]) (res2:=Qj [.one (dB x7)]) (nx2:=4) [0] Z Z (Qoj a0 a1 x7 hx7) Z Z qZ Z Z gZ (jR Z jZ) (hA Z) kZ Z Z Z Z Z bZ Z Z Z Z)<|Q2<|Q1 ?_
 refine Qi (b:=x7) Z (λc8=>?_) (λc8=>?_);replace h0:=Qk c8 h0;refine Q0<|rR Z Z Z (Q4 GY Z)<|J1 Z Z (Qz Ji Z Z Z Z (lb Z) Z)<|Q2<|Q1<|Q3<|Q0<|rR Z Z Z (JX JQ Z Z Z Z)<|J1 Z Z (Qz JQ Z Z Z Z (lb Z) Z)<|rA Z Z Z<|Q2<|Q1<|Qx ?_
 have e:=sI h0;subst e;exact hQ0 _ _ _ (.inr Z) Z (Jj (Je5 Z) (hC Z (.cons (.refl _) (.cons (.sub (.app _ _ _)) .nil)) hZ) (kA Z) Z (Cg hv0 (lb Z)) Z Z Z (bA Z) Z Z);replace h0:=Ql c8 h0;refine Qp<|Q1<|Q3<|Q0<|rR Z Z Z (JX JQ Z Z Z Z)<|J1 Z Z (Qz JQ Z Z Z Z (lb Z) Z)<|rA Z Z Z<|Q2<|Q1<|Qx ?_
 have e:=sI h0;subst e;exact hQ0 _ _ _ (.inr Z) Z (Jj (Je5 Z) (hC Z (.cons (.refl _) (.cons (.sub (.app _ _ _)) .nil)) hZ) (kA Z) Z (Cg hv0 (lb Z)) Z Z Z (bA Z) Z Z)
def Gd(a1:QL)(s1:Int×(List LV)):Option (LO (Int×(List LV)) (((List LV)))):=
 cond (decide (s1.1<((Y1 a1).length:Int))) (Option.bind (QP (Y1 a1) s1.1) λ(x5:Int)=>
 Qa (Nat.ble (s1.2.length+([(x5,(Zg a1 x5))]).length) 1000000000)
 (some (.next ((Qr (s1.1+1)),(s1.2++([(x5,(Zg a1 x5))])))))) (some (.done s1.2))
abbrev Qoo(p0_:Int):List (Nat×HB):=[(0,.cells 212 [.mp 1,dI p0_]),(2,.cells 82 [dI 0,dN]),(3,.cells 82 [dI p0_,dN])]
abbrev Qon(p0_:Int)(p1_:Int×(List LV))(p2_:Int)(p3_:QL):HB:=.cells 82 [dI p0_,dA 5 ((p1_.2++([(p2_,(Zg p3_ p2_))])):List LV)]
abbrev Qom(p0_:Int)(p1_:QL)(p2_:Int×(List LV))(p3_:Int):List (Nat×HB):=[(0,.cells 212 [.mp 1,dI p0_]),(1,.mp (JW p1_.1) p1_.2),(2,.cells 82 [dI 0,dN]),(3,Qon p0_ p2_ p3_ p1_),Vj]
abbrev Qol(p0_:Int)(p1_:QL)(p2_:(List LV)):List (Nat×HB):=[(0,.cells 212 [.mp 1,dI p0_]),(1,.mp (JW p1_.1) p1_.2),(2,.cells 82 [dI 0,dN]),(3,.cells 82 [dI p0_,dA 5 p2_]),Vj]
abbrev Q98(p0_:Int)(p1_:QL)(p2_:(Int×Int×(List LV))):List (Nat×HB):=[(0,.cells 212 [.mp 1,dI p0_]),(1,.mp (JW p1_.1) p1_.2),(2,.cells 82 [dI p2_.2.1,dS p2_.2.2])]
def WY(a0:Int)(a1:QL):Option ((Int×Int×(List LV))):=
 Option.bind (Qbp a1) λ(x1:Unit)=>
 Qa (Q86 a1)
 (Option.bind (Qc (Gd a1) Qf (0,([]:List LV))) (λ(o3:(List LV))=>Option.bind (Q1l a0 o3) λ(x4:(Int×Int×(List LV)))=>
 some (x4.1,x4.2.1,x4.2.2)))
theorem Qok(a0:Int)(a1:QL)(r:(Int×Int×(List LV)))(h0:WY a0 a1=some r):CallM prog 153 [.one (.ptr 0 0)] ⟨[(0,.cells 212 [.mp 1,dI a0]),(1,.mp (JW a1.1) a1.2)],[],2⟩ (Qj [.agg [dI r.2.1,dS r.2.2],.one (dI r.1)]) ⟨Q98 a0 a1 r,[],8⟩:=by
 unfold WY at h0;refine QF ⟨[(2,.v (.one (.ptr 2 0))),(3,.v (.one (dI r.1)))],Q98 a0 a1 r,[],8,41,[]⟩ Z Z J4b (lb Z) Z (K6 JQ Z Z Z Z (Qy Z .nil)) (λw0 M V0 Q hv0 hQ0=>?_);simp only[J4];refine Q3<|Q0<|Qm Z Z (lb Z) (J0 Qgu Z)<|rA Z Z Z<|Q2<|Q1<|Q3<|Q0<|rM Z Z Z<|rR Z Z Z (Qo Z)<|rR Z Z Z (Q4 Q6i Z)<|rR Z Z Z (Q6 Ji Z Z Z)<|rR Z Z Z (Gi WA Z Z Z)<|Qm Z Z (lb Z) (J0 Qgu Z) ?_
 refine J1 Z Z (Qz JQ Z Z Z Z (lb Z) Z)<|Q2<|Q1<|Q3<|Q3<|Q0<|rM Z Z Z<|rR Z Z Z (Qo Z)<|rR Z Z Z (Q4 Q6j Z)<|rR Z Z Z (Q6 Qjv Z Z Z) ?_
 refine Qn h0 (λx1 hx1 h0=>?_);refine Qm Z Z (lb Z) (QE (hp1':=[(1,.mp (JW a1.1) a1.2),Vj]) (tk1':=[]) (hpF:=Qoo a0) (tkF:=[]) (res2:=Qj [.one (.fn 209 [(4,0)])]) (nx2:=5) [1] Z Z (Qog a1 x1 hx1) Z Z (qM Z (qB Z Z qZ)) Z Z (gM Z gZ) jZ (hA Z) kZ Z Z Z Z Z (bM Z bZ) Z Z Z Z) ?_;refine Dz h0 (λg2 h0=>?_);refine Qm Z Z (lb Z) (Q44 Z Z Z Z g2)<|rR Z Z Z (Jg (α:=Int) Qr5 Z (.d _))<|rM Z Z Z<|Q2<|Q1<|QC ?_
 refine Y5 0 (λ(o3:(List LV))=>⟨[(2,.v (.one (.ptr 2 0))),(4,.v (.one (.ptr 3 0)))],[(0,.cells 212 [.mp 1,dI a0]),(1,.mp (JW a1.1) a1.2),(2,.cells 82 [dI 0,dN]),(3,.cells 82 [dI a0,dA 5 o3]),Vj],[(5,some ⟨142,2,(Enc.encL o3).length,[]⟩)],6,41,[]⟩) (λ(o3:(List LV))=>(Option.bind (Q1l a0 o3) λ(x4:(Int×Int×(List LV)))=>some (x4.1,x4.2.1,x4.2.2))=some r) ?_ ?_;refine Qpx (i:=3) (off:=1) 142 2 Z Z ?_;refine Qn h0 (λo4 hl1 h0=>?_);refine Y4 (Gd a1) (λs1=>⟨[(0,.v (.one (.ptr 0 0))),(2,.v (.one (.ptr 2 0))),(4,.v (.one (.ptr 3 0))),(17,.v (.one (dS ((Y1 a1):List Int)))),(18,.v (.one (dI ((Y1 a1).length:Int)))),(19,.v (.one (dI s1.1)))],[(0,.cells 212 [.mp 1,dI a0]),(1,.mp (JW a1.1) a1.2),(2,.cells 82 [dI 0,dN]),(3,.cells 82 [dI a0,dA 5 s1.2]),Vj],[(5,some ⟨142,2,(Enc.encL s1.2).length,[]⟩)],6,41,[]⟩) (0,([]:List LV)) o4 (Jj (Je5 Z) (hA Z) (kA Z) Z (Cg hv0 (lb Z)) Z Z Z (bB Z Z (bM Z (bA Z))) Z Z) hl1 (λs1 n1 oo1 h1 ho1=>?_);unfold Gd at h1;refine Q3<|Q0<|rR Z Z Z (Q5 Z Z Z)<|Q2<|Q1<|Q3 ?_
 refine Qi (b:=(decide (s1.1<((Y1 a1).length:Int)))) Z (λc5=>?_) (λc5=>?_);replace h1:=Qk c5 h1;refine Qp<|Q1<|Q3<|QC<|Q3<|Q0 ?_
 refine Qn h1 (λx6 hx6 h1=>?_);refine rR Z Z Z (JH (α:=Int) Qr5 Z (.d _) Z hx6)<|rR Z Z Z (ZC Ji Z Z)<|rA Z Z Z<|Q2<|Q1 ?_
 refine Ye [11,13] [] mixed (by kernel_rfl) (by kernel_rfl) (by kernel_rfl) ?_;refine RunA.rd Z Z Z (Q9 (Q4 YX Z)) Z<|RunA.rd Z Z Z (Q9 (Q6 X3 Z Z Z)) Z<|RunA.rd Z Z Z (Q9 (Jn Z)) Z<|RunA.rd Z Z Z (Q9 (Jn Z)) Z<|RunA.rd Z Z Z (Q9 (Qo Z)) Z<|RunA.rd Z Z Z (Q9 (Q4 Q6j Z)) Z<|RunA.rd Z Z Z (Q9 (Q6 Qjv Z Z Z)) Z<|RunA.rd Z Z Z (Q9 (Jn Z)) Z<|RunA.rd Z Z Z (Q9 (Qk4 Qhp Z Z Z)) Z<|RunA.rd Z Z Z (Q9 (QX Quy Z Z Z Z)) Z<|RunA.rd Z Z Z (Qgj (α:=LV) ((x6,(Zg a1 x6))) Kb Qde Z Z (lb Z) Z Z (.cons (.d _) (.cons (.d _) .nil)) Z) Z ?_
 refine Dz h1 (λg7 h1=>?_);refine RunA.eff Z Z Z (Q0z (α:=LV) Kb J5d Z Z Z Z Z (.d _) g7) Z<|RunA.rd Z Z Z (Q9 (Q4 YX Z)) Z<|RunA.eff Z Z Z (Qz X3 Z Z Z Z (lb Z) Z) Z ?_
 refine RunA.nil ⟨?ex,_,_,Z,?_⟩;case ex=>exact trivial
 refine X5 (st':=⟨[(0,.v (.one (.ptr 0 0))),(2,.v (.one (.ptr 2 0))),(4,.v (.one (.ptr 3 0))),(17,.v (.one (dS ((Y1 a1):List Int)))),(18,.v (.one (dI ((Y1 a1).length:Int)))),(19,.v (.one (dI s1.1)))],Qom a0 a1 s1 x6,[(5,some ⟨142,2,(Enc.encL ((s1.2++([(x6,(Zg a1 x6))])):List LV)).length,[]⟩)],6,41,[]⟩) (Jj (Je5 Z) (hA Z) (kA Z) Z (Cg hv0 (lb Z)) Z Z Z (bB Z Z (bM Z (bA Z))) Z Z)<|QU<|Q1<|Q0<|rR Z Z Z (Q5 Z Z Z)<|rM Z Z Z<|Q2 ?_
 have e:=sI h1;subst e;refine JK ((Qr (s1.1+1)),(s1.2++([(x6,(Zg a1 x6))]))) (Jj (Je5 Z) (hA Z) (kA Z) Z (Cg hv0 (lb Z)) Z Z Z (bB Z Z (bM Z (bA Z))) Z Z) ho1;replace h1:=Ql c5 h1;refine Y9<|QV<|QV ?_
 have e:=sI h1;subst e;have e_:_=_:=ho1;subst e_;exact Y3 s1.2 (Jj (Je5 Z) (hA Z) (kA Z) Z (Cg hv0 (lb Z)) Z Z Z (bB Z Z (bM Z (bA Z))) Z Z) h0;intro o3 h0;refine Jo<|Q1<|Q3<|Q0<|rR Z Z Z (JX JQ Z Z Z Z) ?_
 refine Qn h0 (λx8 hx8 h0=>?_);refine Qm Z Z (lb Z) (QE (hp1':=[(7,.cells 82 [dI x8.2.1,dS x8.2.2])]) (tk1':=[(5,some ⟨142,2,(Enc.encL o3).length,[]⟩)]) (hpF:=Qol a0 a1 o3) (tkF:=[]) (res2:=Qj [.agg [dI x8.2.1,dS x8.2.2],.one (dI x8.1)]) (nx2:=8) [5] Z Z (Qof a0 o3 x8 hx8) Z Z (qB Z Z qZ) Z Z gZ (jR Z jZ) (hA Z) kZ Z Z Z Z Z bZ Z Z Z Z)<|rR Z Z Z (Jr Z Z)<|rR Z Z Z (Jr Z Z)<|J1 Z Z (Qz JQ Z Z Z Z (lb Z) Z)<|rA Z Z Z<|Q2<|Q1<|Qx ?_
 have e:=sI h0;subst e;exact hQ0 _ _ _ (.inr Z) Z (Jj (Je5 Z) (hA Z) kZ Z (Cg hv0 (lb Z)) Z Z Z (bB Z Z (bM Z (bA Z))) Z Z)
def Kt  (s2:Bool×QL×Int×Bs×Bool×Int):Option (LO (Bool×QL×Int×Bs×Bool×Int) ((QL×Int×Bs×Bool×Int))):=
 Option.bind (cond s2.1 (some (!s2.2.2.2.2.1)) (some false)) (λ(v11:Bool)=>cond v11 (Option.bind (Yb s2.2.2.2.1 s2.2.2.2.2.1 s2.2.2.2.2.2 s2.2.2.1 s2.2.1) λ(x13:Unit)=>
 Option.bind (WZ (s2.2.2.2.1.dropWhile (·==32)) s2.2.2.2.2.1 s2.2.2.2.2.2 s2.2.2.1 s2.2.1) λ(x14:(Bs×Bool×Int×Int×QL))=>
 Option.bind (Yb x14.1 x14.2.1 x14.2.2.1 x14.2.2.2.1 x14.2.2.2.2) λ(x15:Unit)=>
 Option.bind (YS ([44]:List UInt8) (x14.1.dropWhile (·==32)) x14.2.1 x14.2.2.1 x14.2.2.2.1 x14.2.2.2.2) λ(x16:(Bs))=>
 some (.next ((Lib.hasPrefix (x14.1.dropWhile (·==32)) ([44]:List UInt8)),x14.2.2.2.2,x14.2.2.2.1,x16,x14.2.1,x14.2.2.1))) (some (.done (s2.2.1,s2.2.2.1,s2.2.2.2.1,s2.2.2.2.2.1,s2.2.2.2.2.2))))
abbrev Qm0:List (Nat×HB):=[(0,.cells 82 [dI 0,dN]),(1,.mp (JW imNil.1) imNil.2),Vg]
abbrev Qxo(p0_:Bool×QL×Int×Bs×Bool×Int):HB:=.cells 188 [K8 p0_.2.2.2.1,dB p0_.2.2.2.2.1,dI p0_.2.2.2.2.2,.ptr 2 0]
abbrev Qxn(p0_:Bool×QL×Int×Bs×Bool×Int):List (Nat×HB):=[(0,.cells 82 [dI 0,dN]),(1,.mp (JW p0_.2.1.1) p0_.2.1.2),(2,.cells 212 [.mp 1,dI p0_.2.2.1]),(3,Qxo p0_)]
abbrev Qlz(p0_:Bs×Bool×Int×Int×QL):HB:=.cells 188 [K8 (p0_.1.dropWhile (·==32)),dB p0_.2.1,dI p0_.2.2.1,.ptr 2 0]
abbrev Qly(p0_:Bs×Bool×Int×Int×QL):List (Nat×HB):=[(0,.cells 82 [dI 0,dN]),(1,.mp (JW p0_.2.2.2.2.1) p0_.2.2.2.2.2),(2,.cells 212 [.mp 1,dI p0_.2.2.2.1]),(3,Qlz p0_)]
def Q0a(a0:Bs):Option (Lvl×Int):=
 cond (decide (65536<(a0.length:Int))) (some ((⟨0,([]:List LV)⟩:Lvl),5)) (Option.bind (some ()) (λ(y2:Unit)=>Option.bind (Yb a0 false 0 0 imNil) λ(x4:Unit)=>
 Option.bind (YS ([109,97,120]:List UInt8) (a0.dropWhile (·==32)) false 0 0 imNil) λ(x5:(Bs))=>
 Option.bind (cond (Lib.hasPrefix (a0.dropWhile (·==32)) ([109,97,120]:List UInt8)) (Option.bind (Yb x5 false 0 0 imNil) λ(x8:Unit)=>
 Option.bind (YS ([40]:List UInt8) (x5.dropWhile (·==32)) false 0 0 imNil) λ(x9:(Bs))=>
 Option.bind (Qc (Kt) Qf (true,imNil,0,x9,(!(Lib.hasPrefix (x5.dropWhile (·==32)) ([40]:List UInt8))),0)) (λ(o10:QL×Int×Bs×Bool×Int)=>Option.bind (YS ([41]:List UInt8) o10.2.2.1 o10.2.2.2.1 o10.2.2.2.2 o10.2.1 o10.1) λ(x11:(Bs))=>
 cond (!(Lib.hasPrefix o10.2.2.1 ([41]:List UInt8))) (some (x11,true,o10.2.2.2.2,o10.2.1,o10.1)) (some (x11,o10.2.2.2.1,o10.2.2.2.2,o10.2.1,o10.1)))) (Option.bind (WZ x5 false 0 0 imNil) λ(x21:(Bs×Bool×Int×Int×QL))=>
 some (x21.1,x21.2.1,x21.2.2.1,x21.2.2.2.1,x21.2.2.2.2))) (λ(v6:Bs×Bool×Int×Int×QL)=>Option.bind (Yb v6.1 v6.2.1 v6.2.2.1 v6.2.2.2.1 v6.2.2.2.2) λ(x7:Unit)=>
 Option.bind (cond v6.2.1 (some true) (some (!((v6.1.dropWhile (·==32))==([]:List UInt8))))) (λ(v8:Bool)=>cond v8 (some ((⟨0,([]:List LV)⟩:Lvl),4)) (cond (v6.2.2.1 != 0) (some ((⟨0,([]:List LV)⟩:Lvl),v6.2.2.1)) (Option.bind (WY v6.2.2.2.1 v6.2.2.2.2) λ(x11:(Int×Int×(List LV)))=>
 some ((⟨x11.2.1,x11.2.2⟩:Lvl),x11.1)))))))
theorem Qxm(a0:Bs)(r:Lvl×Int)(h0:Q0a a0=some r):Fun prog 127 [.one (K8 a0)] (Qj [.agg (cE r.1),.one (dI r.2)]):=by
 unfold Q0a at h0;refine Jb 9 83 func127 Z J4t Z (lb Z) (λS w=>?_);simp only[J4];refine Q3<|Q0<|Qm Z Z (lb Z) (J0 Qgu Z)<|rA Z Z Z<|Q2<|Q1<|Q3<|Q3<|Q0<|rM Z Z Z<|rR Z Z Z (Q0y Q80 Z)<|rR Z Z Z (Q5 Z Z Z)<|Q2<|Q1 ?_
 refine Qi (b:=(decide (65536<(a0.length:Int)))) Z (λc1=>?_) (λc1=>?_);replace h0:=Qk c1 h0;refine Q3<|Q0<|rR Z Z Z (Zc WA Z )<|J1 Z Z (Qz JQ Z Z Z Z (lb Z) Z)<|rA Z Z Z<|Q2<|Q1<|Qx ?_
 have e:=sI h0;subst e;exact QD (λ_ _ h=>h) Z (K6 JQ Z Z Z Z (Qy Z .nil)) (.cons (.agg (.cons (.d _) (.cons (.nil _) .nil))) (.cons (.one (.d _)) .nil));replace h0:=Ql c1 h0;refine Qp<|Q1<|Q3<|Q0<|rM Z Z Z ?_
 refine Qn h0 (λy2 h1 h0=>?_);have hc3:CallM prog 149 [] ⟨[(0,.cells 82 [dI 0,dN])],[],1⟩ (Qj [.one (.ptr 2 0)]) ⟨Qm0,[],3⟩:=by refine QF ⟨[(0,.v (.one (.ptr 2 0)))],Qm0,[],3,4,[]⟩ Z Z J4f (lb Z) Z (Qy Z .nil) (λw0 M V0 Q hv1 hQ1=>?_);simp only[J4];(refine Q3<|Q0<|rA Z Z Z<|Q2<|Q1<|Q3<|Q0<|Qm Z Z (lb Z) (Q8c)<|rR Z Z Z (Gi J5n Z Z Z)<|Qm Z Z (lb Z) (Ju Z)<|rA Z Z Z<|Q2<|Q1<|Qx ?_);have e:=sI h1;subst e;exact hQ1 _ _ _ (.inr Z) Z (Jj (Je5 Z) (hA Z) kZ Z (Cg hv1 (lb Z)) Z Z Z (bB Z Z (bM Z (bA Z))) Z Z)
 refine Qm Z Z (lb Z) (GF Z Z Z hc3 Z (hA Z) kZ)<|rR Z Z Z (QX J5o Z Z Z Z)<|Qm Z Z (lb Z) (Ju Z)<|rA Z Z Z<|Q2<|Q1<|Q3<|Q0<|rM Z Z Z ?_
 refine Qn h0 (λx4 hx4 h0=>?_);refine Qm Z Z (lb Z) (QE (hp1':=[(3,.cells 188 [K8 (a0.dropWhile (·==32)),dB false,dI 0,.ptr 2 0]),Vg,(1,.mp (JW imNil.1) imNil.2)]) (tk1':=[]) (hpF:=[(0,.cells 82 [dI 0,dN])]) (tkF:=[]) (res2:=Qj []) (nx2:=4) [3,2,1] Z Z (Kj a0 false 0 0 imNil x4 hx4) Z Z (qB Z Z (qB Z Z (qM Z qZ))) Z Z (gR Z (gR Z (gM Z gZ))) jZ (hA Z) kZ Z Z Z Z Z (bB Z Z (bB Z Z (bM Z bZ))) Z Z Z Z)<|Q2<|Q1<|Q3<|Q3<|Q0<|rM Z Z Z ?_
 refine Qn h0 (λx5 hx5 h0=>?_);refine Qm Z Z (lb Z) (QE (hp1':=[(3,.cells 188 [K8 x5,dB false,dI 0,.ptr 2 0]),Vg,(1,.mp (JW imNil.1) imNil.2)]) (tk1':=[]) (hpF:=[(0,.cells 82 [dI 0,dN])]) (tkF:=[]) (res2:=Qj [.one (dB (Lib.hasPrefix (a0.dropWhile (·==32)) ([109,97,120]:List UInt8)))]) (nx2:=4) [3,2,1] Z Z (Ki ([109,97,120]:List UInt8) (a0.dropWhile (·==32)) false 0 0 imNil x5 hx5) Z Z (qB Z Z (qB Z Z (qM Z qZ))) Z Z (gR Z (gR Z (gM Z gZ))) jZ (hA Z) kZ Z Z Z Z Z (bB Z Z (bB Z Z (bM Z bZ))) Z Z Z Z)<|Q2<|Q1 ?_
 refine QN (λ(v6:Bs×Bool×Int×Int×QL)=>⟨[(2,.v (.one (.ptr 0 0))),(4,.v (.one (.ptr 3 0)))],[(0,.cells 82 [dI 0,dN]),(1,.mp (JW v6.2.2.2.2.1) v6.2.2.2.2.2),(2,.cells 212 [.mp 1,dI v6.2.2.2.1]),(3,.cells 188 [K8 v6.1,dB v6.2.1,dI v6.2.2.1,.ptr 2 0])],[],4,83,[]⟩) (λ(v6:Bs×Bool×Int×Int×QL)=>(Option.bind (Yb v6.1 v6.2.1 v6.2.2.1 v6.2.2.2.1 v6.2.2.2.2) λ(x7:Unit)=>
  Option.bind (cond v6.2.1 (some true) (some (!((v6.1.dropWhile (·==32))==([]:List UInt8))))) (λ(v8:Bool)=>cond v8 (some ((⟨0,([]:List LV)⟩:Lvl),4)) (cond (v6.2.2.1 != 0) (some ((⟨0,([]:List LV)⟩:Lvl),v6.2.2.1)) (Option.bind (WY v6.2.2.2.1 v6.2.2.2.2) λ(x11:(Int×Int×(List LV)))=>
  some ((⟨x11.2.1,x11.2.2⟩:Lvl),x11.1)))))=some r) ?_ ?_
 refine Qn h0 (λw1_ h1 h0=>?_);refine Qi (b:=(Lib.hasPrefix (a0.dropWhile (·==32)) ([109,97,120]:List UInt8))) Z (λc7=>?_) (λc7=>?_);replace h1:=Qk c7 h1;refine Q3<|Q0<|rM Z Z Z ?_
 refine Qn h1 (λx8 hx8 h1=>?_);refine Qm Z Z (lb Z) (QE (hp1':=[(3,.cells 188 [K8 (x5.dropWhile (·==32)),dB false,dI 0,.ptr 2 0]),Vg,(1,.mp (JW imNil.1) imNil.2)]) (tk1':=[]) (hpF:=[(0,.cells 82 [dI 0,dN])]) (tkF:=[]) (res2:=Qj []) (nx2:=4) [3,2,1] Z Z (Kj x5 false 0 0 imNil x8 hx8) Z Z (qB Z Z (qB Z Z (qM Z qZ))) Z Z (gR Z (gR Z (gM Z gZ))) jZ (hA Z) kZ Z Z Z Z Z (bB Z Z (bB Z Z (bM Z bZ))) Z Z Z Z)<|Q2<|Q1<|Q3<|Q0<|rM Z Z Z<|rM Z Z Z ?_
 refine Qn h1 (λx9 hx9 h1=>?_);refine Qm Z Z (lb Z) (QE (hp1':=[(3,.cells 188 [K8 x9,dB false,dI 0,.ptr 2 0]),Vg,(1,.mp (JW imNil.1) imNil.2)]) (tk1':=[]) (hpF:=[(0,.cells 82 [dI 0,dN])]) (tkF:=[]) (res2:=Qj [.one (dB (Lib.hasPrefix (x5.dropWhile (·==32)) ([40]:List UInt8)))]) (nx2:=4) [3,2,1] Z Z (Ki ([40]:List UInt8) (x5.dropWhile (·==32)) false 0 0 imNil x9 hx9) Z Z (qB Z Z (qB Z Z (qM Z qZ))) Z Z (gR Z (gR Z (gM Z gZ))) jZ (hA Z) kZ Z Z Z Z Z (bB Z Z (bB Z Z (bM Z bZ))) Z Z Z Z)<|rR Z Z Z (Zk Z)<|rR Z Z Z (Qo Z)<|rR Z Z Z (Q4 Uc Z)<|J1 Z Z (Qz Qg8 Z Z Z Z (lb Z) Z)<|Q2<|Q1<|Q3<|Q3<|Q0<|rA Z Z Z<|Q2<|Q1<|QC ?_
 refine Y5 0 (λ(o10:QL×Int×Bs×Bool×Int)=>⟨[(2,.v (.one (.ptr 0 0))),(4,.v (.one (.ptr 3 0)))],[(0,.cells 82 [dI 0,dN]),(1,.mp (JW o10.1.1) o10.1.2),(2,.cells 212 [.mp 1,dI o10.2.1]),(3,.cells 188 [K8 o10.2.2.1,dB o10.2.2.2.1,dI o10.2.2.2.2,.ptr 2 0])],[],4,83,[]⟩) (λ(o10:QL×Int×Bs×Bool×Int)=>(Option.bind (YS ([41]:List UInt8) o10.2.2.1 o10.2.2.2.1 o10.2.2.2.2 o10.2.1 o10.1) λ(x11:(Bs))=>cond (!(Lib.hasPrefix o10.2.2.1 ([41]:List UInt8))) (some (x11,true,o10.2.2.2.2,o10.2.1,o10.1)) (some (x11,o10.2.2.2.1,o10.2.2.2.2,o10.2.1,o10.1)))=some w1_) ?_ ?_;refine Qn h1 (λo11 hl2 h1=>?_);refine Y4 (Kt) (λs2=>⟨[(2,.v (.one (.ptr 0 0))),(4,.v (.one (.ptr 3 0))),(5,.v (.one (dB s2.1)))],[(0,.cells 82 [dI 0,dN]),(1,.mp (JW s2.2.1.1) s2.2.1.2),(2,.cells 212 [.mp 1,dI s2.2.2.1]),(3,.cells 188 [K8 s2.2.2.2.1,dB s2.2.2.2.2.1,dI s2.2.2.2.2.2,.ptr 2 0])],[],4,83,[]⟩) (true,imNil,0,x9,(!(Lib.hasPrefix (x5.dropWhile (·==32)) ([40]:List UInt8))),0) o11 (Jj (Je5 Z) (hA Z) kZ Z (Cd _) Z Z Z (bB Z Z (bM Z (bA Z))) Z Z) hl2 (λs2 n2 oo2 h2 ho2=>?_);unfold Kt at h2;refine Q3<|Q3 ?_
 refine QN (λ(v12:Bool)=>⟨[(2,.v (.one (.ptr 0 0))),(4,.v (.one (.ptr 3 0))),(33,.v (.one (dB v12)))],Qxn s2,[],4,83,[]⟩) (λ(v12:Bool)=>(cond v12 (Option.bind (Yb s2.2.2.2.1 s2.2.2.2.2.1 s2.2.2.2.2.2 s2.2.2.1 s2.2.1) λ(x14:Unit)=>
  Option.bind (WZ (s2.2.2.2.1.dropWhile (·==32)) s2.2.2.2.2.1 s2.2.2.2.2.2 s2.2.2.1 s2.2.1) λ(x15:(Bs×Bool×Int×Int×QL))=>
  Option.bind (Yb x15.1 x15.2.1 x15.2.2.1 x15.2.2.2.1 x15.2.2.2.2) λ(x16:Unit)=>
  Option.bind (YS ([44]:List UInt8) (x15.1.dropWhile (·==32)) x15.2.1 x15.2.2.1 x15.2.2.2.1 x15.2.2.2.2) λ(x17:(Bs))=>
  some (.next ((Lib.hasPrefix (x15.1.dropWhile (·==32)) ([44]:List UInt8)),x15.2.2.2.2,x15.2.2.2.1,x17,x15.2.1,x15.2.2.1))) (some (.done (s2.2.1,s2.2.2.1,s2.2.2.2.1,s2.2.2.2.2.1,s2.2.2.2.2.2))))=some oo2) ?_ ?_
 refine Qn h2 (λw3_ h3 h2=>?_);refine Q0<|rM Z Z Z<|rM Z Z Z ?_
 refine QB (d:=27) (c:=s2.1) Z (λc13=>?_) (λc13=>?_);replace h3:=Qk c13 h3;refine rM Z Z Z<|rR Z Z Z (Qo Z)<|rR Z Z Z (Q4 Uc Z)<|rR Z Z Z (Q6 Qg8 Z Z Z)<|rR Z Z Z (Zk Z)<|rR Z Z Z (Qe Z Z)<|Q2 ?_
 have e:=sI h3;subst e;exact Qb (!s2.2.2.2.2.1) (Jj (Je5 Z) (hA Z) kZ Z (Cd _) Z Z Z (bB Z Z (bM Z (bA Z))) Z Z) h2;replace h3:=Ql c13 h3;refine Q7 Z Z<|Q7 Z Z<|Q7 Z Z<|Q7 Z Z<|Q7 Z Z<|rR Z Z Z (Qh Z Z)<|Q2 ?_
 have e:=sI h3;subst e;exact Qb false (Jj (Je5 Z) (hA Z) kZ Z (Cd _) Z Z Z (bB Z Z (bM Z (bA Z))) Z Z) h2;intro v12 h2;refine Q1 ?_;refine Qi (b:=v12) Z (λc14=>?_) (λc14=>?_);replace h2:=Qk c14 h2;refine Qp<|Q1<|Q3<|QC<|Q3<|Q0<|rM Z Z Z ?_
 refine Qn h2 (λx15 hx15 h2=>?_);refine Qm Z Z (lb Z) (QE (hp1':=[(3,.cells 188 [K8 (s2.2.2.2.1.dropWhile (·==32)),dB s2.2.2.2.2.1,dI s2.2.2.2.2.2,.ptr 2 0]),(2,.cells 212 [.mp 1,dI s2.2.2.1]),(1,.mp (JW s2.2.1.1) s2.2.1.2)]) (tk1':=[]) (hpF:=[(0,.cells 82 [dI 0,dN])]) (tkF:=[]) (res2:=Qj []) (nx2:=4) [3,2,1] Z Z (Kj s2.2.2.2.1 s2.2.2.2.2.1 s2.2.2.2.2.2 s2.2.2.1 s2.2.1 x15 hx15) Z Z (qB Z Z (qB Z Z (qM Z qZ))) Z Z (gR Z (gR Z (gM Z gZ))) jZ (hA Z) kZ Z Z Z Z Z (bB Z Z (bB Z Z (bM Z bZ))) Z Z Z Z)<|Q2<|Q1<|Q3<|Q0<|rM Z Z Z ?_
 refine Qn h2 (λx16 hx16 h2=>?_);refine Qm Z Z (lb Z) (QE (hp1':=[(3,.cells 188 [K8 x16.1,dB x16.2.1,dI x16.2.2.1,.ptr 2 0]),(2,.cells 212 [.mp 1,dI x16.2.2.2.1]),(1,.mp (JW x16.2.2.2.2.1) x16.2.2.2.2.2)]) (tk1':=[]) (hpF:=[(0,.cells 82 [dI 0,dN])]) (tkF:=[]) (res2:=Qj []) (nx2:=7) [3,2,1] Z Z (Q99 (s2.2.2.2.1.dropWhile (·==32)) s2.2.2.2.2.1 s2.2.2.2.2.2 s2.2.2.1 s2.2.1 x16 hx16) Z Z (qB Z Z (qB Z Z (qM Z qZ))) Z Z (gR Z (gR Z (gM Z gZ))) jZ (hA Z) kZ Z Z Z Z Z (bB Z Z (bB Z Z (bM Z bZ))) Z Z Z Z)<|Q2<|Q1<|Q0<|rM Z Z Z ?_
 refine Qn h2 (λx17 hx17 h2=>?_);refine Qm Z Z (lb Z) (QE (hp1':=[(3,.cells 188 [K8 (x16.1.dropWhile (·==32)),dB x16.2.1,dI x16.2.2.1,.ptr 2 0]),(2,.cells 212 [.mp 1,dI x16.2.2.2.1]),(1,.mp (JW x16.2.2.2.2.1) x16.2.2.2.2.2)]) (tk1':=[]) (hpF:=[(0,.cells 82 [dI 0,dN])]) (tkF:=[]) (res2:=Qj []) (nx2:=7) [3,2,1] Z Z (Kj x16.1 x16.2.1 x16.2.2.1 x16.2.2.2.1 x16.2.2.2.2 x17 hx17) Z Z (qB Z Z (qB Z Z (qM Z qZ))) Z Z (gR Z (gR Z (gM Z gZ))) jZ (hA Z) kZ Z Z Z Z Z (bB Z Z (bB Z Z (bM Z bZ))) Z Z Z Z)<|Q2<|QU<|Q1<|Q0<|rM Z Z Z ?_
 refine Qn h2 (λx18 hx18 h2=>?_);refine Qm Z Z (lb Z) (QE (hp1':=[(3,.cells 188 [K8 x18,dB x16.2.1,dI x16.2.2.1,.ptr 2 0]),(2,.cells 212 [.mp 1,dI x16.2.2.2.1]),(1,.mp (JW x16.2.2.2.2.1) x16.2.2.2.2.2)]) (tk1':=[]) (hpF:=[(0,.cells 82 [dI 0,dN])]) (tkF:=[]) (res2:=Qj [.one (dB (Lib.hasPrefix (x16.1.dropWhile (·==32)) ([44]:List UInt8)))]) (nx2:=7) [3,2,1] Z Z (Ki ([44]:List UInt8) (x16.1.dropWhile (·==32)) x16.2.1 x16.2.2.1 x16.2.2.2.1 x16.2.2.2.2 x18 hx18) Z Z (qB Z Z (qB Z Z (qM Z qZ))) Z Z (gR Z (gR Z (gM Z gZ))) jZ (hA Z) kZ Z Z Z Z Z (bB Z Z (bB Z Z (bM Z bZ))) Z Z Z Z)<|rA Z Z Z<|Q2 ?_
 have e:=sI h2;subst e;refine JK ((Lib.hasPrefix (x16.1.dropWhile (·==32)) ([44]:List UInt8)),x16.2.2.2.2,x16.2.2.2.1,x18,x16.2.1,x16.2.2.1) (Jj (Je5 Z) (hA Z) kZ Z (Cd _) Z Z Z (bB Z Z (bM Z (bA Z))) Z Z) ho2;replace h2:=Ql c14 h2;refine Y9<|QV<|QV ?_
 have e:=sI h2;subst e;have e_:_=_:=ho2;subst e_;exact Y3 (s2.2.1,s2.2.2.1,s2.2.2.2.1,s2.2.2.2.2.1,s2.2.2.2.2.2) (Jj (Je5 Z) (hA Z) kZ Z (Cd _) Z Z Z (bB Z Z (bM Z (bA Z))) Z Z) h1;intro o10 h1;refine Jo<|Q1<|Q3<|Q0<|rM Z Z Z ?_
 refine Qn h1 (λx19 hx19 h1=>?_);refine Qm Z Z (lb Z) (QE (hp1':=[(3,.cells 188 [K8 x19,dB o10.2.2.2.1,dI o10.2.2.2.2,.ptr 2 0]),(2,.cells 212 [.mp 1,dI o10.2.1]),(1,.mp (JW o10.1.1) o10.1.2)]) (tk1':=[]) (hpF:=[(0,.cells 82 [dI 0,dN])]) (tkF:=[]) (res2:=Qj [.one (dB (Lib.hasPrefix o10.2.2.1 ([41]:List UInt8)))]) (nx2:=4) [3,2,1] Z Z (Ki ([41]:List UInt8) o10.2.2.1 o10.2.2.2.1 o10.2.2.2.2 o10.2.1 o10.1 x19 hx19) Z Z (qB Z Z (qB Z Z (qM Z qZ))) Z Z (gR Z (gR Z (gM Z gZ))) jZ (hA Z) kZ Z Z Z Z Z (bB Z Z (bB Z Z (bM Z bZ))) Z Z Z Z)<|rR Z Z Z (Zk Z)<|Q2<|Q1 ?_
 refine Qi (b:=(!(Lib.hasPrefix o10.2.2.1 ([41]:List UInt8)))) Z (λc20=>?_) (λc20=>?_);replace h1:=Qk c20 h1;refine Q0<|rM Z Z Z<|rR Z Z Z (Qo Z)<|rR Z Z Z (Q4 Uc Z)<|J1 Z Z (Qz Qg8 Z Z Z Z (lb Z) Z)<|Q2 ?_
 have e:=sI h1;subst e;exact Qb (x19,true,o10.2.2.2.2,o10.2.1,o10.1) (Jj (Je5 Z) (hA Z) kZ Z (Cd _) Z Z Z (bB Z Z (bM Z (bA Z))) Z Z) h0;replace h1:=Ql c20 h1;refine Qp ?_;have e:=sI h1;subst e;exact Qb (x19,o10.2.2.2.1,o10.2.2.2.2,o10.2.1,o10.1) (Jj (Je5 Z) (hA Z) kZ Z (Cd _) Z Z Z (bB Z Z (bM Z (bA Z))) Z Z) h0;replace h1:=Ql c7 h1;refine Q0<|rM Z Z Z ?_
 refine Qn h1 (λx21 hx21 h1=>?_);refine Qm Z Z (lb Z) (QE (hp1':=[(3,.cells 188 [K8 x21.1,dB x21.2.1,dI x21.2.2.1,.ptr 2 0]),(2,.cells 212 [.mp 1,dI x21.2.2.2.1]),(1,.mp (JW x21.2.2.2.2.1) x21.2.2.2.2.2)]) (tk1':=[]) (hpF:=[(0,.cells 82 [dI 0,dN])]) (tkF:=[]) (res2:=Qj []) (nx2:=7) [3,2,1] Z Z (Q99 x5 false 0 0 imNil x21 hx21) Z Z (qB Z Z (qB Z Z (qM Z qZ))) Z Z (gR Z (gR Z (gM Z gZ))) jZ (hA Z) kZ Z Z Z Z Z (bB Z Z (bB Z Z (bM Z bZ))) Z Z Z Z)<|Q2 ?_
 have e:=sI h1;subst e;exact Qb (x21.1,x21.2.1,x21.2.2.1,x21.2.2.2.1,x21.2.2.2.2) (Jj (Je5 Z) (hA Z) kZ Z (Cd _) Z Z Z (bB Z Z (bM Z (bA Z))) Z Z) h0;intro v6 h0;refine Q1<|Q3<|Q0<|rM Z Z Z ?_
 refine Qn h0 (λx22 hx22 h0=>?_);refine Qm Z Z (lb Z) (QE (hp1':=[(3,.cells 188 [K8 (v6.1.dropWhile (·==32)),dB v6.2.1,dI v6.2.2.1,.ptr 2 0]),(2,.cells 212 [.mp 1,dI v6.2.2.2.1]),(1,.mp (JW v6.2.2.2.2.1) v6.2.2.2.2.2)]) (tk1':=[]) (hpF:=[(0,.cells 82 [dI 0,dN])]) (tkF:=[]) (res2:=Qj []) (nx2:=4) [3,2,1] Z Z (Kj v6.1 v6.2.1 v6.2.2.1 v6.2.2.2.1 v6.2.2.2.2 x22 hx22) Z Z (qB Z Z (qB Z Z (qM Z qZ))) Z Z (gR Z (gR Z (gM Z gZ))) jZ (hA Z) kZ Z Z Z Z Z (bB Z Z (bB Z Z (bM Z bZ))) Z Z Z Z)<|Q2<|Q1<|Q3<|QC<|Q3 ?_
 refine QN (λ(v23:Bool)=>⟨[(2,.v (.one (.ptr 0 0))),(4,.v (.one (.ptr 3 0))),(52,.v (.one (dB v23)))],Qly v6,[],4,83,[]⟩) (λ(v23:Bool)=>(cond v23 (some ((⟨0,([]:List LV)⟩:Lvl),4)) (cond (v6.2.2.1 != 0) (some ((⟨0,([]:List LV)⟩:Lvl),v6.2.2.1)) (Option.bind (WY v6.2.2.2.1 v6.2.2.2.2) λ(x26:(Int×Int×(List LV)))=>some ((⟨x26.2.1,x26.2.2⟩:Lvl),x26.1))))=some r) ?_ ?_;refine Qn h0 (λw1_ h1 h0=>?_);refine Q0<|rM Z Z Z<|rR Z Z Z (Qo Z)<|rR Z Z Z (Q4 Uc Z)<|rR Z Z Z (Q6 Qg8 Z Z Z)<|rM Z Z Z ?_
 refine QB (d:=57) (c:=v6.2.1) Z (λc24=>?_) (λc24=>?_);replace h1:=Qk c24 h1;refine Q7 Z Z<|Q7 Z Z<|Q7 Z Z<|Q7 Z Z<|Q7 Z Z<|rR Z Z Z (Qe Z Z)<|rA Z Z Z<|Q2 ?_
 have e:=sI h1;subst e;exact Qb true (Jj (Je5 Z) (hA Z) kZ Z (Cd _) Z Z Z (bB Z Z (bM Z (bA Z))) Z Z) h0;replace h1:=Ql c24 h1;refine rM Z Z Z<|rR Z Z Z (Qo Z)<|rR Z Z Z (Q4 Z5 Z)<|rR Z Z Z (Q6 DK Z Z Z)<|rR Z Z Z (Qk2 Z Z)<|rR Z Z Z (Qh Z Z)<|rA Z Z Z<|Q2 ?_
 have e:=sI h1;subst e;exact Qb (!((v6.1.dropWhile (·==32))==([]:List UInt8))) (Jj (Je5 Z) (hA Z) kZ Z (Cd _) Z Z Z (bB Z Z (bM Z (bA Z))) Z Z) h0;intro v23 h0;refine Q1 ?_;refine Qi (b:=v23) Z (λc25=>?_) (λc25=>?_);replace h0:=Qk c25 h0;refine Q3<|Q0<|rR Z Z Z (Zc WA Z )<|J1 Z Z (Qz JQ Z Z Z Z (lb Z) Z)<|rA Z Z Z<|Q2<|Q1<|Qx ?_
 have e:=sI h0;subst e;exact QD (λ_ _ h=>h) Z (K6 JQ Z Z Z Z (Qy Z .nil)) (.cons (.agg (.cons (.d _) (.cons (.nil _) .nil))) (.cons (.one (.d _)) .nil));replace h0:=Ql c25 h0;refine Q3<|Q0<|rM Z Z Z<|rR Z Z Z (Qo Z)<|rR Z Z Z (Q4 Ub Z)<|rR Z Z Z (Q6 XJ Z Z Z)<|rR Z Z Z (Q5 Z Z Z)<|rA Z Z Z<|Q2<|Q1 ?_
 refine Qi (b:=(v6.2.2.1 != 0)) Z (λc26=>?_) (λc26=>?_);replace h0:=Qk c26 h0;refine Q3 ?_;refine Ye [5] [(1,1),(2,1),(3,1),(4,1)] mixed (by kernel_rfl) (by kernel_rfl) (by kernel_rfl) ?_;refine RunA.rd Z Z Z (Q9 (Zc WA Z )) Z<|RunA.rd Z Z Z (Q9 (Jn Z)) Z<|RunA.rd Z Z Z (Q9 (Qo Z)) Z<|RunA.rd Z Z Z (Q9 (Q4 Ub Z)) Z<|RunA.rd Z Z Z (Q9 (Q6 XJ Z Z Z)) Z<|RunA.eff Z Z Z (Qz JQ Z Z Z Z (lb Z) Z) Z<|RunA.rd Z Z Z (Q9 (UO Z)) Z ?_
 refine RunA.nil ⟨?ex,_,_,Z,?_⟩;case ex=>exact⟨⟨_,rfl,_,_,rfl,rfl,rfl,.inl ⟨rfl,_,Q9 (Jn rfl),rfl⟩⟩,⟨_,rfl,_,_,rfl,rfl,rfl,.inl ⟨rfl,_,Q9 (Qo rfl),rfl⟩⟩,⟨_,rfl,_,_,rfl,rfl,rfl,.inl ⟨rfl,_,Q9 (Q4 Ub rfl),rfl⟩⟩,⟨_,rfl,_,_,rfl,rfl,rfl,.inl ⟨rfl,_,Q9 (Q6 XJ rfl rfl rfl),rfl⟩⟩,trivial⟩
 refine X5 (st':=⟨[(2,.v (.one (.ptr 0 0))),(3,.v (.one (dI v6.2.2.1)))],Qly v6,[],4,83,[]⟩) (Jj (Je5 Z) (hA Z) kZ Z (Cd _) Z Z Z (bB Z Z (bM Z (bA Z))) Z Z)<|Q1<|Qx ?_
 have e:=sI h0;subst e;exact QD (λ_ _ h=>h) Z (K6 JQ Z Z Z Z (Qy Z .nil)) (.cons (.agg (.cons (.d _) (.cons (.nil _) .nil))) (.cons (.one (.d _)) .nil));replace h0:=Ql c26 h0;refine Qp<|QU<|Q1<|Q3<|Q0<|rM Z Z Z<|rR Z Z Z (Qo Z)<|rR Z Z Z (Q4 Qfj Z)<|rR Z Z Z (Q6 Qv6 Z Z Z) ?_
 refine Qn h0 (λx27 hx27 h0=>?_);refine Qm Z Z (lb Z) (QE (hp1':=[(2,.cells 212 [.mp 1,dI v6.2.2.2.1]),(1,.mp (JW v6.2.2.2.2.1) v6.2.2.2.2.2),(4,.cells 82 [dI x27.2.1,dS x27.2.2])]) (tk1':=[]) (hpF:=[(0,.cells 82 [dI 0,dN]),(3,Qlz v6)]) (tkF:=[]) (res2:=Qj [.agg [dI x27.2.1,dS x27.2.2],.one (dI x27.1)]) (nx2:=10) [2,1] Z Z (Qok v6.2.2.2.1 v6.2.2.2.2 x27 hx27) Z Z (qB Z Z (qM Z (qB Z Z qZ))) Z Z (gR Z (gM Z gZ)) jZ (hA Z) kZ Z Z Z Z Z (bB Z Z (bM Z bZ)) Z Z Z Z)<|rR Z Z Z (Jr Z Z)<|rR Z Z Z (Jr Z Z)<|J1 Z Z (Qz JQ Z Z Z Z (lb Z) Z)<|rA Z Z Z<|Q2<|Q1<|Qx ?_
 have e:=sI h0;subst e;exact QD (λ_ _ h=>h) Z (K6 JQ Z Z Z Z (Qy Z .nil)) (.cons (.agg (.cons (.d _) (.cons (.d _) .nil))) (.cons (.one (.d _)) .nil))
def k127:KF UV:=⟨[.str],[.stc .t82,.int .i64],λv=>Q0a v⟩
theorem Qyo:Jv DV W0 prog 127 k127:=⟨rfl,λv r h=>X7 (Eq.mp (show _=Fun prog 127 (QG DV k127.args v) (Qj (QG DV k127.res r))from by kernel_rfl) (Qxm v r h))⟩
end
section
open Go.RowKit Go.Shelf
theorem J9k:Qd prog 31:=enters_of func31 (by kernel_rfl) rfl
theorem J95:Qd prog 65:=enters_of func65 (by kernel_rfl) rfl
theorem J94:Qd prog 66:=enters_of func66 (by kernel_rfl) rfl
theorem J93:Qd prog 67:=enters_of func67 (by kernel_rfl) rfl
theorem J8i:Qd prog 98:=enters_of func98 (by kernel_rfl) rfl
theorem J55:Qd prog 115:=enters_of func115 (by kernel_rfl) rfl
theorem J54:Qd prog 116:=enters_of func116 (by kernel_rfl) rfl
theorem J53:Qd prog 117:=enters_of func117 (by kernel_rfl) rfl
theorem J52:Qd prog 118:=enters_of func118 (by kernel_rfl) rfl
theorem J4p:Qd prog 133:=enters_of func133 (by kernel_rfl) rfl
theorem J4k:Qd prog 142:=enters_of func142 (by kernel_rfl) rfl
def Qt4(a0:Byt):Option Bool:=Option.bind (cond (decide (97<=a0.n)) (cond (decide (a0.n<=122)) (some true) (cond (decide (65<=a0.n)) (cond (decide (a0.n<=90)) (some true) (some (a0.n==95))) (some (a0.n==95)))) (cond (decide (65<=a0.n)) (cond (decide (a0.n<=90)) (some true) (some (a0.n==95))) (some (a0.n==95)))) (λ(v1:Bool)=>some v1)
theorem Qlv(a0:Byt)(r:Bool)(h0:Qt4 a0=some r):Fun prog 133 [.one (.d (.v (.int .u8 a0.n)))] (Qj [.one (dB r)]):=by
 unfold Qt4 at h0;refine Jb 9 21 func133 Z J4p Z (lb Z) (λS w=>?_);simp only[J4];refine Q3<|Q0<|rA Z Z Z<|Q2<|Q1<|Q3 ?_
 refine QN (λ(v1:Bool)=>⟨[(2,.v (.one (dB v1)))],[],[],0,21,[]⟩) (λ(v1:Bool)=>(some v1)=some r) ?_ ?_;refine Qn h0 (λw1_ h1 h0=>?_);refine Q0<|rM Z Z Z<|rR Z Z Z (Q5 Z Z Z)<|rM Z Z Z ?_
 refine QB (d:=5) (c:=(decide (97<=a0.n))) Z (λc2=>?_) (λc2=>?_);replace h1:=Qk c2 h1;refine rM Z Z Z<|rR Z Z Z (Q5 Z Z Z)<|rR Z Z Z (Qe Z Z)<|rM Z Z Z ?_
 refine QB (d:=9) (c:=(decide (a0.n<=122))) Z (λc3=>?_) (λc3=>?_);replace h1:=Qk c3 h1;refine Q7 Z Z<|Q7 Z Z<|Q7 Z Z<|Q7 Z Z<|Q7 Z Z<|Q7 Z Z<|rR Z Z Z (Qe Z Z)<|rM Z Z Z<|Q7 Z Z<|Q7 Z Z<|rR Z Z Z (Qe Z Z)<|rA Z Z Z<|Q2 ?_
 have e:=sI h1;subst e;exact Qb true (sL (Cd _) Z Z Z Z Z) h0;replace h1:=Ql c3 h1;refine rM Z Z Z<|rR Z Z Z (Q5 Z Z Z)<|rM Z Z Z ?_
 refine QB (d:=12) (c:=(decide (65<=a0.n))) Z (λc4=>?_) (λc4=>?_);replace h1:=Qk c4 h1;refine rM Z Z Z<|rR Z Z Z (Q5 Z Z Z)<|rR Z Z Z (Qe Z Z)<|rR Z Z Z (Qh Z Z)<|rM Z Z Z ?_
 refine QB (d:=17) (c:=(decide (a0.n<=90))) Z (λc5=>?_) (λc5=>?_);replace h1:=Qk c5 h1;refine Q7 Z Z<|Q7 Z Z<|rR Z Z Z (Qe Z Z)<|rA Z Z Z<|Q2 ?_
 have e:=sI h1;subst e;exact Qb true (sL (Cd _) Z Z Z Z Z) h0;replace h1:=Ql c5 h1;refine rM Z Z Z<|rR Z Z Z (Q5 Z Z Z)<|rR Z Z Z (Qh Z Z)<|rA Z Z Z<|Q2 ?_
 have e:=sI h1;subst e;exact Qb (a0.n==95) (sL (Cd _) Z Z Z Z Z) h0;replace h1:=Ql c4 h1;refine Q7 Z Z<|Q7 Z Z<|rR Z Z Z (Qh Z Z)<|rR Z Z Z (Qh Z Z)<|rM Z Z Z<|rM Z Z Z<|rR Z Z Z (Q5 Z Z Z)<|rR Z Z Z (Qh Z Z)<|rA Z Z Z<|Q2 ?_
 have e:=sI h1;subst e;exact Qb (a0.n==95) (sL (Cd _) Z Z Z Z Z) h0;replace h1:=Ql c2 h1;refine Q7 Z Z<|Q7 Z Z<|rR Z Z Z (Qh Z Z)<|rM Z Z Z<|rM Z Z Z<|rR Z Z Z (Q5 Z Z Z)<|rM Z Z Z ?_
 refine QB (d:=12) (c:=(decide (65<=a0.n))) Z (λc6=>?_) (λc6=>?_);replace h1:=Qk c6 h1;refine rM Z Z Z<|rR Z Z Z (Q5 Z Z Z)<|rR Z Z Z (Qe Z Z)<|rR Z Z Z (Qh Z Z)<|rM Z Z Z ?_
 refine QB (d:=17) (c:=(decide (a0.n<=90))) Z (λc7=>?_) (λc7=>?_);replace h1:=Qk c7 h1;refine Q7 Z Z<|Q7 Z Z<|rR Z Z Z (Qe Z Z)<|rA Z Z Z<|Q2 ?_
 have e:=sI h1;subst e;exact Qb true (sL (Cd _) Z Z Z Z Z) h0;replace h1:=Ql c7 h1;refine rM Z Z Z<|rR Z Z Z (Q5 Z Z Z)<|rR Z Z Z (Qh Z Z)<|rA Z Z Z<|Q2 ?_
 have e:=sI h1;subst e;exact Qb (a0.n==95) (sL (Cd _) Z Z Z Z Z) h0;replace h1:=Ql c6 h1;refine Q7 Z Z<|Q7 Z Z<|rR Z Z Z (Qh Z Z)<|rR Z Z Z (Qh Z Z)<|rM Z Z Z<|rM Z Z Z<|rR Z Z Z (Q5 Z Z Z)<|rR Z Z Z (Qh Z Z)<|rA Z Z Z<|Q2 ?_
 have e:=sI h1;subst e;exact Qb (a0.n==95) (sL (Cd _) Z Z Z Z Z) h0;intro v1 h0;refine Q1<|Qx ?_
 have e:=sI h0;subst e;exact QD (λ_ _ h=>h) Z (Qy Z .nil) (.cons (.one (.d _)) .nil)
def WW(a0:Bs)(s1:Bool×Int):Option (LO (Bool×Int) (Bool⊕Bool)):=
 cond (decide (s1.2<(a0.length:Int))) (Option.bind (QP a0 s1.2) λ(x5:UInt8)=>
 cond s1.1 (Option.bind (Qt4 (⟨(x5.toNat:Int)⟩:Byt)) λ(x7:Bool)=>
 cond (!x7) (some (.done (.inr false))) (some (.next (false,(Qr (s1.2+1)))))) (cond ((x5.toNat:Int)==46) (some (.next (true,(Qr (s1.2+1))))) (Option.bind (Option.bind (Qt4 (⟨(x5.toNat:Int)⟩:Byt)) λ(x11:Bool)=>
 cond (!x11) (cond ((x5.toNat:Int)!=39) (cond (decide ((x5.toNat:Int)<48)) (some true) (some (decide (57<(x5.toNat:Int))))) (some false)) (some false)) (λ(v10:Bool)=>cond v10 (some (.done (.inr false))) (some (.next (s1.1,(Qr (s1.2+1))))))))) (some (.done (.inl s1.1)))
def J0b(a0:Bs):Option Bool:=Option.bind (cond (a0==([]:List UInt8)) (some true) (some (decide (64<(a0.length:Int))))) (λ(v1:Bool)=>cond v1 (some false) (Option.bind (Qc (WW a0) Qf (true,0)) (Sum.elim (λ(o3:Bool)=>some (!o3)) (λo=>some o))))
theorem Qse(a0:Bs)(r:Bool)(h0:J0b a0=some r):Fun prog 98 [.one (K8 a0)] (Qj [.one (dB r)]):=by
 unfold J0b at h0;refine Jb 9 45 func98 Z J8i Z (lb Z) (λS w=>?_);simp only[J4];refine Q3<|Q0<|rA Z Z Z<|Q2<|Q1<|Q3<|Q3 ?_
 refine QN (λ(v1:Bool)=>⟨[(0,.v (.one (K8 a0))),(12,.v (.one (dB v1)))],[],[],0,45,[]⟩) (λ(v1:Bool)=>(cond v1 (some false) (Option.bind (Qc (WW a0) Qf (true,0)) (Sum.elim (λ(o3:Bool)=>some (!o3)) (λo=>some o))))=some r) ?_ ?_;refine Qn h0 (λw1_ h1 h0=>?_);refine Q0<|rM Z Z Z<|rR Z Z Z (Qd5 Z Z)<|rM Z Z Z ?_
 refine QB (d:=8) (c:=(a0==([]:List UInt8))) Z (λc2=>?_) (λc2=>?_);replace h1:=Qk c2 h1;refine Q7 Z Z<|Q7 Z Z<|Q7 Z Z<|rR Z Z Z (Qe Z Z)<|Q2 ?_
 have e:=sI h1;subst e;exact Qb true (sL (Cd _) Z Z Z Z Z) h0;replace h1:=Ql c2 h1;refine rM Z Z Z<|rR Z Z Z (Q0y Q80 Z)<|rR Z Z Z (Q5 Z Z Z)<|rR Z Z Z (Qh Z Z)<|Q2 ?_
 have e:=sI h1;subst e;exact Qb (decide (64<(a0.length:Int))) (sL (Cd _) Z Z Z Z Z) h0;intro v1 h0;refine Q1 ?_;refine Qi (b:=v1) Z (λc3=>?_) (λc3=>?_);replace h0:=Qk c3 h0;refine Q3<|Q0<|rA Z Z Z<|Q2<|Q1<|Qx ?_
 have e:=sI h0;subst e;exact QD (λ_ _ h=>h) Z (Qy Z .nil) (.cons (.one (.d _)) .nil);replace h0:=Ql c3 h0;refine Qp<|Q1<|Q3<|Q0<|rA Z Z Z<|Q2<|Q1<|Q3<|Q3<|Q0<|rA Z Z Z<|Q2<|Q1<|QC ?_
 refine Y5 0 (λ(o4:Bool)=>⟨[(3,.v (.one (dB o4)))],[],[],0,45,[]⟩) (λ(o4:Bool)=>(some (!o4))=some r) ?_ ?_;refine Qn h0 (λo5 hl1 h0=>?_);refine Y4 (WW a0) (λs1=>⟨[(0,.v (.one (K8 a0))),(3,.v (.one (dB s1.1))),(4,.v (.one (dI s1.2)))],[],[],0,45,[]⟩) (true,0) o5 (sL (Cd _) Z Z Z Z Z) hl1 (λs1 n1 oo1 h1 ho1=>?_);unfold WW at h1;refine Q3<|Q3<|Q0<|rM Z Z Z<|rM Z Z Z<|rR Z Z Z (Q0y Q80 Z)<|rR Z Z Z (Q5 Z Z Z)<|Q2<|Q1 ?_
 refine Qi (b:=(decide (s1.2<(a0.length:Int)))) Z (λc6=>?_) (λc6=>?_);replace h1:=Qk c6 h1;refine Qp<|Q1<|Q3<|QC<|Q3<|Q0<|rM Z Z Z<|rM Z Z Z ?_
 refine Qn h1 (λx7 hx7 h1=>?_);refine rR Z Z Z (Q7n Q80 Z Z hx7)<|rA Z Z Z<|Q2<|Q1<|Q3<|Q3<|Q0<|rM Z Z Z<|Q2<|Q1 ?_
 refine Qi (b:=s1.1) Z (λc8=>?_) (λc8=>?_);replace h1:=Qk c8 h1;refine Q3<|Q3<|Q0<|rM Z Z Z ?_
 refine Qn h1 (λx9 hx9 h1=>?_);refine Qm Z Z (lb Z) (QO (Qlv (⟨(x7.toNat:Int)⟩:Byt) x9 hx9) Z (.cons (.one (.d _)) .nil))<|rR Z Z Z (Zk Z)<|Q2<|Q1 ?_
 refine Qi (b:=(!x9)) Z (λc10=>?_) (λc10=>?_);replace h1:=Qk c10 h1;refine Q3<|Q0<|rA Z Z Z<|Q2<|Q1<|Qx ?_
 have e:=sI h1;subst e;have e_:_=_:=ho1;subst e_;try dsimp only[Sum.elim_inl,Sum.elim_inr]at h0
 have e:=sI h0;subst e;exact QD (λ_ _ h=>h) Z (Qy Z .nil) (.cons (.one (.d _)) .nil);replace h1:=Ql c10 h1;refine Qp<|Q1<|Q3<|Q0<|rA Z Z Z<|Q2<|Q1<|Y9<|QV<|Jo<|Q1<|Q0<|rM Z Z Z<|rR Z Z Z (Q5 Z Z Z) ?_
 refine rA Z Z Z<|Q2 ?_
 have e:=sI h1;subst e;refine JK (false,(Qr (s1.2+1))) (sL (Cd _) Z Z Z Z Z) ho1;replace h1:=Ql c8 h1;refine Qp<|Q1<|Q3<|Q3<|Q0<|rM Z Z Z<|rR Z Z Z (Q5 Z Z Z)<|Q2<|Q1 ?_
 refine Qi (b:=((x7.toNat:Int)==46)) Z (λc11=>?_) (λc11=>?_);replace h1:=Qk c11 h1;refine Q3<|Q0<|rA Z Z Z<|Q2<|Q1<|Y9<|QV<|Jo<|Q1<|Q0<|rM Z Z Z<|rR Z Z Z (Q5 Z Z Z)<|rA Z Z Z<|Q2 ?_
 have e:=sI h1;subst e;refine JK (true,(Qr (s1.2+1))) (sL (Cd _) Z Z Z Z Z) ho1;replace h1:=Ql c11 h1;refine Qp<|Q1<|Q3 ?_
 refine QN (λ(v12:Bool)=>⟨[(0,.v (.one (K8 a0))),(3,.v (.one (dB s1.1))),(4,.v (.one (dI s1.2))),(42,.v (.one (dB v12)))],[],[],0,45,[]⟩) (λ(v12:Bool)=>(cond v12 (some (.done (.inr false))) (some (.next (s1.1,(Qr (s1.2+1))))))=some oo1) ?_ ?_;refine Qn h1 (λw2_ h2 h1=>?_);refine Q0<|rM Z Z Z ?_
 refine Qn h2 (λx13 hx13 h2=>?_);refine Qm Z Z (lb Z) (QO (Qlv (⟨(x7.toNat:Int)⟩:Byt) x13 hx13) Z (.cons (.one (.d _)) .nil))<|rR Z Z Z (Zk Z)<|rM Z Z Z ?_
 refine QB (d:=31) (c:=(!x13)) Z (λc14=>?_) (λc14=>?_);replace h2:=Qk c14 h2;refine rM Z Z Z<|rR Z Z Z (Q5 Z Z Z)<|rR Z Z Z (Qe Z Z)<|rM Z Z Z ?_
 refine QB (d:=35) (c:=((x7.toNat:Int)!=39)) Z (λc15=>?_) (λc15=>?_);replace h2:=Qk c15 h2;refine rM Z Z Z<|rR Z Z Z (Q5 Z Z Z)<|rM Z Z Z ?_
 refine QB (d:=38) (c:=(decide ((x7.toNat:Int)<48))) Z (λc16=>?_) (λc16=>?_);replace h2:=Qk c16 h2;refine Q7 Z Z<|Q7 Z Z<|rR Z Z Z (Qe Z Z)<|rR Z Z Z (Qe Z Z)<|Q2 ?_
 have e:=sI h2;subst e;exact Qb true (sL (Cd _) Z Z Z Z Z) h1;replace h2:=Ql c16 h2;refine rM Z Z Z<|rR Z Z Z (Q5 Z Z Z)<|rR Z Z Z (Qh Z Z)<|rR Z Z Z (Qe Z Z)<|Q2 ?_
 have e:=sI h2;subst e;exact Qb (decide (57<(x7.toNat:Int))) (sL (Cd _) Z Z Z Z Z) h1;replace h2:=Ql c15 h2;refine Q7 Z Z<|Q7 Z Z<|Q7 Z Z<|Q7 Z Z<|Q7 Z Z<|Q7 Z Z<|rR Z Z Z (Qh Z Z)<|Q2 ?_
 have e:=sI h2;subst e;exact Qb false (sL (Cd _) Z Z Z Z Z) h1;replace h2:=Ql c14 h2;refine Q7 Z Z<|Q7 Z Z<|rR Z Z Z (Qh Z Z)<|rM Z Z Z<|Q7 Z Z<|Q7 Z Z<|Q7 Z Z<|Q7 Z Z<|Q7 Z Z<|Q7 Z Z<|rR Z Z Z (Qh Z Z)<|Q2 ?_
 have e:=sI h2;subst e;exact Qb false (sL (Cd _) Z Z Z Z Z) h1;intro v12 h1;refine Q1 ?_;refine Qi (b:=v12) Z (λc17=>?_) (λc17=>?_);replace h1:=Qk c17 h1;refine Q3<|Q0<|rA Z Z Z<|Q2<|Q1<|Qx ?_
 have e:=sI h1;subst e;have e_:_=_:=ho1;subst e_;try dsimp only[Sum.elim_inl,Sum.elim_inr]at h0
 have e:=sI h0;subst e;exact QD (λ_ _ h=>h) Z (Qy Z .nil) (.cons (.one (.d _)) .nil);replace h1:=Ql c17 h1;refine Qp<|QU<|Q1<|Q0<|rM Z Z Z<|rR Z Z Z (Q5 Z Z Z)<|rA Z Z Z<|Q2 ?_
 have e:=sI h1;subst e;refine JK (s1.1,(Qr (s1.2+1))) (sL (Cd _) Z Z Z Z Z) ho1;replace h1:=Ql c6 h1;refine Y9<|QV<|QV ?_
 have e:=sI h1;subst e;have e_:_=_:=ho1;subst e_;exact Y3 s1.1 (sL (Cd _) Z Z Z Z Z) h0;intro o4 h0;refine Jo<|Q1<|Q3<|Q0<|rM Z Z Z<|rR Z Z Z (Zk Z)<|rA Z Z Z<|Q2<|Q1<|Qx ?_
 have e:=sI h0;subst e;exact QD (λ_ _ h=>h) Z (Qy Z .nil) (.cons (.one (.d _)) .nil)
def Qbq(p0_:Bool)(p1_:Int):Option Int:=cond p0_ (some 2) (Option.bind (cond (p1_==8) (some (p1_==8)) (some (p1_==11))) (λ(b0_:Bool)=>cond b0_ (some 3) (cond (p1_==9) (cond (p1_==9) (some 1) (some 0)) (cond (p1_==10) (some 1) (some 0)))))
def J2k(a0:Int):Option Int:=Option.bind (cond (a0==4) (some (a0==4)) (cond (a0==5) (some (a0==5)) (cond (a0==6) (some (a0==6)) (some (a0==7))))) (λ(v1:Bool)=>Qbq v1 a0)
theorem Qxh(a0:Int)(r:Int)(h0:J2k a0=some r):Fun prog 142 [.one (dI a0)] (Qj [.one (dI r)]):=by
 unfold J2k at h0;refine Jb 9 15 func142 Z J4k Z (lb Z) (λS w=>?_);simp only[J4];refine Q3<|Q0<|rA Z Z Z<|Q2<|Q1<|Q3<|Q3<|Q0<|rM Z Z Z<|Q2<|Q1<|QC<|Q3<|Q3 ?_
 refine Q0<|rR Z Z Z (Q5 Z Z Z)<|rA Z Z Z<|Q2<|Q1 ?_
 refine QN (λ(v1:Bool)=>⟨[(3,.v (.one (dI a0))),(4,.v (.one (dB v1)))],[],[],0,15,[]⟩) (λ(v1:Bool)=>(Qbq v1 a0)=some r) ?_ ?_;refine Qn h0 (λw1_ h1 h0=>?_);refine Qi (b:=(a0==4)) Z (λc2=>?_) (λc2=>?_);replace h1:=Qk c2 h1;refine Qp ?_;have e:=sI h1;subst e;exact Qb (a0==4) (sL (Cd _) Z Z Z Z Z) h0;replace h1:=Ql c2 h1;refine Q3<|Q0<|rR Z Z Z (Q5 Z Z Z)<|rA Z Z Z<|Q2<|Q1 ?_
 refine Qi (b:=(a0==5)) Z (λc3=>?_) (λc3=>?_);replace h1:=Qk c3 h1;refine Qp ?_;have e:=sI h1;subst e;exact Qb (a0==5) (sL (Cd _) Z Z Z Z Z) h0;replace h1:=Ql c3 h1;refine Q3<|Q0<|rR Z Z Z (Q5 Z Z Z)<|rA Z Z Z<|Q2<|Q1 ?_
 refine Qi (b:=(a0==6)) Z (λc4=>?_) (λc4=>?_);replace h1:=Qk c4 h1;refine Qp ?_;have e:=sI h1;subst e;exact Qb (a0==6) (sL (Cd _) Z Z Z Z Z) h0;replace h1:=Ql c4 h1;refine Q0<|rR Z Z Z (Q5 Z Z Z)<|rA Z Z Z<|Q2 ?_
 have e:=sI h1;subst e;exact Qb (a0==7) (sL (Cd _) Z Z Z Z Z) h0;intro v1 h0;unfold Qbq at h0;refine Q1 ?_;refine Qi (b:=v1) Z (λc5=>?_) (λc5=>?_);replace h0:=Qk c5 h0;refine Q3<|Q0<|rA Z Z Z<|Q2<|Q1<|Qx ?_
 have e:=sI h0;subst e;exact QD (λ_ _ h=>h) Z (Qy Z .nil) (.cons (.one (.d _)) .nil);replace h0:=Ql c5 h0;refine Q3<|Q3<|Q0<|rR Z Z Z (Q5 Z Z Z)<|rA Z Z Z<|Q2<|Q1 ?_
 refine QN (λ(v6:Bool)=>⟨[(3,.v (.one (dI a0))),(9,.v (.one (dB v6)))],[],[],0,15,[]⟩) (λ(v6:Bool)=>(cond v6 (some 3) (cond (a0==9) (cond (a0==9) (some 1) (some 0)) (cond (a0==10) (some 1) (some 0))))=some r) ?_ ?_;refine Qn h0 (λw1_ h1 h0=>?_);refine Qi (b:=(a0==8)) Z (λc7=>?_) (λc7=>?_);replace h1:=Qk c7 h1;refine Qp ?_;have e:=sI h1;subst e;exact Qb (a0==8) (sL (Cd _) Z Z Z Z Z) h0;replace h1:=Ql c7 h1;refine Q0<|rR Z Z Z (Q5 Z Z Z)<|rA Z Z Z<|Q2 ?_
 have e:=sI h1;subst e;exact Qb (a0==11) (sL (Cd _) Z Z Z Z Z) h0;intro v6 h0;refine Q1 ?_;refine Qi (b:=v6) Z (λc8=>?_) (λc8=>?_);replace h0:=Qk c8 h0;refine Q3<|Q0<|rA Z Z Z<|Q2<|Q1<|Qx ?_
 have e:=sI h0;subst e;exact QD (λ_ _ h=>h) Z (Qy Z .nil) (.cons (.one (.d _)) .nil);replace h0:=Ql c8 h0;refine Q3<|Q3<|Q0<|rR Z Z Z (Q5 Z Z Z)<|rA Z Z Z<|Q2<|Q1 ?_
 refine Qi (b:=(a0==9)) Z (λc9=>?_) (λc9=>?_);replace h0:=Qk c9 h0;refine Qp<|Q1 ?_
 refine Qi (b:=(a0==9)) Z (λc10=>?_) (λc10=>?_);replace h0:=Qk c10 h0;refine Q3<|Q0<|rA Z Z Z<|Q2<|Q1<|Qx ?_
 have e:=sI h0;subst e;exact QD (λ_ _ h=>h) Z (Qy Z .nil) (.cons (.one (.d _)) .nil);replace h0:=Ql c10 h0;refine Qp<|QU<|Q1<|Q3<|Q0<|rA Z Z Z<|Q2<|Q1<|Qx ?_
 have e:=sI h0;subst e;exact QD (λ_ _ h=>h) Z (Qy Z .nil) (.cons (.one (.d _)) .nil);replace h0:=Ql c9 h0;refine Q0<|rR Z Z Z (Q5 Z Z Z)<|rA Z Z Z<|Q2<|Q1 ?_
 refine Qi (b:=(a0==10)) Z (λc11=>?_) (λc11=>?_);replace h0:=Qk c11 h0;refine Q3<|Q0<|rA Z Z Z<|Q2<|Q1<|Qx ?_
 have e:=sI h0;subst e;exact QD (λ_ _ h=>h) Z (Qy Z .nil) (.cons (.one (.d _)) .nil);replace h0:=Ql c11 h0;refine Qp<|QU<|Q1<|Q3<|Q0<|rA Z Z Z<|Q2<|Q1<|Qx ?_
 have e:=sI h0;subst e;exact QD (λ_ _ h=>h) Z (Qy Z .nil) (.cons (.one (.d _)) .nil)
def Q4m(p0_:Bool)(p1_:Tm):Option Bool:=cond p0_ (some false) (Option.bind (cond (!(p1_.name==([]:List UInt8))) (some (p1_.kind != 3)) (some false)) (λ(b0_:Bool)=>cond b0_ (some false) (cond (p1_.kind==2) (some ((p1_.levels.length:Int)==1)) (Option.bind (cond ((p1_.levels.length:Int)==0) (some true) (some (p1_.kind==3))) (λ(b1_:Bool)=>some b1_)))))
def Qf1(a0:Tm):Option Bool:=
 Option.bind (cond (decide (a0.kind<0)) (some true) (cond (decide (13<=a0.kind)) (some true) (Option.bind (J2k a0.kind) λ(x4:Int)=>
 some ((a0.kids.length:Int)!=x4)))) (λ(v1:Bool)=>cond v1 (some false) (Option.bind (cond (a0.index != 0) (cond (a0.kind != 0) (some (a0.kind != 12)) (some false)) (some false)) (λ(v3:Bool)=>Q4m v3 a0)))
theorem Qxt(a0:Tm)(r:Bool)(h0:Qf1 a0=some r):Fun prog 115 [.agg (cE a0)] (Qj [.one (dB r)]):=by
 unfold Qf1 at h0;refine Jb 9 57 func115 Z J55 Z (lb Z) (λS w=>?_);simp only[J4];refine Q3<|Q0<|Qm Z Z (lb Z) (Ju Z)<|rA Z Z Z<|Q2<|Q1<|Q3<|Q3 ?_
 refine QN (λ(v1:Bool)=>⟨[(1,.v (.one (.ptr 0 0))),(19,.v (.one (dB v1)))],[(0,.cells 25 (cE a0))],[],1,57,[]⟩) (λ(v1:Bool)=>(cond v1 (some false) (Option.bind (cond (a0.index != 0) (cond (a0.kind != 0) (some (a0.kind != 12)) (some false)) (some false)) (λ(v3:Bool)=>Q4m v3 a0)))=some r) ?_ ?_;refine Qn h0 (λw1_ h1 h0=>?_);refine Ye [] [] mixed (by kernel_rfl) (by kernel_rfl) (by kernel_rfl) ?_;refine RunA.rd Z Z Z (Q9 (Q4 JT Z)) Z<|RunA.rd Z Z Z (Q9 (Q6 Ji Z Z Z)) Z<|RunA.rd Z Z Z (Q9 (Q5 Z Z Z)) Z ?_
 refine Q2j (c:=(decide (a0.kind<0))) Z Z Z (Q9 (Jn Z)) Z (λc2=>?_) (λc2=>?_);replace h1:=Qk c2 h1;refine RunA.no Z Z Z Z<|RunA.no Z Z Z Z<|RunA.no Z Z Z Z<|RunA.rd Z Z Z (Q9 (Qe Z Z)) Z<|RunA.rd Z Z Z (Q9 (Jn Z)) Z<|RunA.no Z Z Z Z<|RunA.no Z Z Z Z<|RunA.no Z Z Z Z<|RunA.no Z Z Z Z<|RunA.no Z Z Z Z<|RunA.no Z Z Z Z<|RunA.no Z Z Z Z<|RunA.rd Z Z Z (Q9 (Qe Z Z)) Z ?_
 refine RunA.nil ⟨?ex,_,_,Z,?_⟩;case ex=>exact trivial
 have e:=sI h1;subst e;exact Qb true (sL (Cd _) Z Z Z Z Z) h0;replace h1:=Ql c2 h1;refine RunA.rd Z Z Z (Q9 (Q4 JT Z)) Z<|RunA.rd Z Z Z (Q9 (Q6 Ji Z Z Z)) Z<|RunA.rd Z Z Z (Q9 (Q5 Z Z Z)) Z<|RunA.rd Z Z Z (Q9 (Qh Z Z)) Z ?_
 refine Q2j (c:=(decide (13<=a0.kind))) Z Z Z (Q9 (Jn Z)) Z (λc3=>?_) (λc3=>?_);replace h1:=Qk c3 h1;refine RunA.no Z Z Z Z<|RunA.no Z Z Z Z<|RunA.no Z Z Z Z<|RunA.no Z Z Z Z<|RunA.no Z Z Z Z<|RunA.no Z Z Z Z<|RunA.no Z Z Z Z<|RunA.rd Z Z Z (Q9 (Qe Z Z)) Z ?_
 refine RunA.nil ⟨?ex,_,_,Z,?_⟩;case ex=>exact trivial
 have e:=sI h1;subst e;exact Qb true (sL (Cd _) Z Z Z Z Z) h0;replace h1:=Ql c3 h1;refine RunA.rd Z Z Z (Q9 (Q4 Yq Z)) Z<|RunA.rd Z Z Z (Q9 (Q6 KY Z Z Z)) Z<|RunA.rd Z Z Z (Q9 (Jg (α:=Tm) Kx Z (.d _))) Z<|RunA.rd Z Z Z (Q9 (Q4 JT Z)) Z<|RunA.rd Z Z Z (Q9 (Q6 Ji Z Z Z)) Z ?_
 refine Qn h1 (λx4 hx4 h1=>?_);refine RunA.rd Z Z Z (QO (Qxh a0.kind x4 hx4) Z (.cons (.one (.d _)) .nil)) Z<|RunA.rd Z Z Z (Q9 (Q5 Z Z Z)) Z<|RunA.rd Z Z Z (Q9 (Qh Z Z)) Z ?_
 refine RunA.nil ⟨?ex,_,_,Z,?_⟩;case ex=>exact trivial
 have e:=sI h1;subst e;exact Qb ((a0.kids.length:Int)!=x4) (sL (Cd _) Z Z Z Z Z) h0;intro v1 h0;refine Q1 ?_;refine Qi (b:=v1) Z (λc5=>?_) (λc5=>?_);replace h0:=Qk c5 h0;refine Q3<|Q0<|rA Z Z Z<|Q2<|Q1<|Qx ?_
 have e:=sI h0;subst e;exact QD (λ_ _ h=>h) Z (Qy Z .nil) (.cons (.one (.d _)) .nil);replace h0:=Ql c5 h0;refine Qp<|Q1<|Q3<|Q3 ?_
 refine QN (λ(v6:Bool)=>⟨[(1,.v (.one (.ptr 0 0))),(32,.v (.one (dB v6)))],[(0,.cells 25 (cE a0))],[],1,57,[]⟩) (λ(v6:Bool)=>(Q4m v6 a0)=some r) ?_ ?_;refine Qn h0 (λw1_ h1 h0=>?_);refine Q0<|rR Z Z Z (Q4 UD Z)<|rR Z Z Z (Q6 Ji Z Z Z)<|rR Z Z Z (Q5 Z Z Z)<|rM Z Z Z ?_
 refine QB (d:=23) (c:=(a0.index != 0)) Z (λc7=>?_) (λc7=>?_);replace h1:=Qk c7 h1;refine rR Z Z Z (Q4 JT Z)<|rR Z Z Z (Q6 Ji Z Z Z)<|rR Z Z Z (Q5 Z Z Z)<|rR Z Z Z (Qe Z Z)<|rM Z Z Z ?_
 refine QB (d:=28) (c:=(a0.kind != 0)) Z (λc8=>?_) (λc8=>?_);replace h1:=Qk c8 h1;refine rR Z Z Z (Q4 JT Z)<|rR Z Z Z (Q6 Ji Z Z Z)<|rR Z Z Z (Q5 Z Z Z)<|rR Z Z Z (Qe Z Z)<|Q2 ?_
 have e:=sI h1;subst e;exact Qb (a0.kind != 12) (sL (Cd _) Z Z Z Z Z) h0;replace h1:=Ql c8 h1;refine Q7 Z Z<|Q7 Z Z<|Q7 Z Z<|rR Z Z Z (Qh Z Z)<|Q2 ?_
 have e:=sI h1;subst e;exact Qb false (sL (Cd _) Z Z Z Z Z) h0;replace h1:=Ql c7 h1;refine Q7 Z Z<|Q7 Z Z<|Q7 Z Z<|rR Z Z Z (Qh Z Z)<|rM Z Z Z<|Q7 Z Z<|Q7 Z Z<|Q7 Z Z<|rR Z Z Z (Qh Z Z)<|Q2 ?_
 have e:=sI h1;subst e;exact Qb false (sL (Cd _) Z Z Z Z Z) h0;intro v6 h0;unfold Q4m at h0;refine Q1 ?_;refine Qi (b:=v6) Z (λc9=>?_) (λc9=>?_);replace h0:=Qk c9 h0;refine Q3<|Q0<|rA Z Z Z<|Q2<|Q1<|Qx ?_
 have e:=sI h0;subst e;exact QD (λ_ _ h=>h) Z (Qy Z .nil) (.cons (.one (.d _)) .nil);replace h0:=Ql c9 h0;refine Qp<|Q1<|Q3<|Q3 ?_
 refine QN (λ(v10:Bool)=>⟨[(1,.v (.one (.ptr 0 0))),(40,.v (.one (dB v10)))],[(0,.cells 25 (cE a0))],[],1,57,[]⟩) (λ(v10:Bool)=>(cond v10 (some false) (cond (a0.kind==2) (some ((a0.levels.length:Int)==1)) (Option.bind (cond ((a0.levels.length:Int)==0) (some true) (some (a0.kind==3))) (λ(v13:Bool)=>some v13))))=some r) ?_ ?_;refine Qn h0 (λw1_ h1 h0=>?_);refine Q0<|rR Z Z Z (Q4 Q4q Z)<|rR Z Z Z (Q6 DK Z Z Z)<|rR Z Z Z (Qk2 Z Z)<|rM Z Z Z ?_
 refine QB (d:=36) (c:=(!(a0.name==([]:List UInt8)))) Z (λc11=>?_) (λc11=>?_);replace h1:=Qk c11 h1;refine rR Z Z Z (Q4 JT Z)<|rR Z Z Z (Q6 Ji Z Z Z)<|rR Z Z Z (Q5 Z Z Z)<|rR Z Z Z (Qe Z Z)<|Q2 ?_
 have e:=sI h1;subst e;exact Qb (a0.kind != 3) (sL (Cd _) Z Z Z Z Z) h0;replace h1:=Ql c11 h1;refine Q7 Z Z<|Q7 Z Z<|Q7 Z Z<|rR Z Z Z (Qh Z Z)<|Q2 ?_
 have e:=sI h1;subst e;exact Qb false (sL (Cd _) Z Z Z Z Z) h0;intro v10 h0;refine Q1 ?_;refine Qi (b:=v10) Z (λc12=>?_) (λc12=>?_);replace h0:=Qk c12 h0;refine Q3<|Q0<|rA Z Z Z<|Q2<|Q1<|Qx ?_
 have e:=sI h0;subst e;exact QD (λ_ _ h=>h) Z (Qy Z .nil) (.cons (.one (.d _)) .nil);replace h0:=Ql c12 h0;refine Qp<|Q1<|Q3<|Q3<|Q0<|rR Z Z Z (Q4 JT Z)<|rR Z Z Z (Q6 Ji Z Z Z)<|rR Z Z Z (Q5 Z Z Z)<|Q2<|Q1 ?_
 refine Qi (b:=(a0.kind==2)) Z (λc13=>?_) (λc13=>?_);replace h0:=Qk c13 h0;refine Q3<|Q0<|rR Z Z Z (Q4 G7 Z)<|rR Z Z Z (Q6 Q0r Z Z Z)<|rR Z Z Z (Jg (α:=Lvl) DY Z (.d _))<|rR Z Z Z (Q5 Z Z Z)<|rA Z Z Z<|Q2<|Q1<|Qx ?_
 have e:=sI h0;subst e;exact QD (λ_ _ h=>h) Z (Qy Z .nil) (.cons (.one (.d _)) .nil);replace h0:=Ql c13 h0;refine Qp<|Q1<|Q3 ?_
 refine QN (λ(v14:Bool)=>⟨[(2,.v (.one (dB v14)))],[(0,.cells 25 (cE a0))],[],1,57,[]⟩) (λ(v14:Bool)=>(some v14)=some r) ?_ ?_;refine Qn h0 (λw1_ h1 h0=>?_);refine Q0<|rR Z Z Z (Q4 G7 Z)<|rR Z Z Z (Q6 Q0r Z Z Z)<|rR Z Z Z (Jg (α:=Lvl) DY Z (.d _))<|rR Z Z Z (Q5 Z Z Z)<|rM Z Z Z ?_
 refine QB (d:=52) (c:=((a0.levels.length:Int)==0)) Z (λc15=>?_) (λc15=>?_);replace h1:=Qk c15 h1;refine Q7 Z Z<|Q7 Z Z<|Q7 Z Z<|rR Z Z Z (Qe Z Z)<|rA Z Z Z<|Q2 ?_
 have e:=sI h1;subst e;exact Qb true (sL (Cd _) Z Z Z Z Z) h0;replace h1:=Ql c15 h1;refine rR Z Z Z (Q4 JT Z)<|rR Z Z Z (Q6 Ji Z Z Z)<|rR Z Z Z (Q5 Z Z Z)<|rR Z Z Z (Qh Z Z)<|rA Z Z Z<|Q2 ?_
 have e:=sI h1;subst e;exact Qb (a0.kind==3) (sL (Cd _) Z Z Z Z Z) h0;intro v14 h0;refine Q1<|Qx ?_
 have e:=sI h0;subst e;exact QD (λ_ _ h=>h) Z (Qy Z .nil) (.cons (.one (.d _)) .nil)
def Q61(a0:Int)(a1:Int):Option Int:=Option.bind (cond (a1==1) (cond (a0==5) (some true) (cond (a0==6) (some true) (cond (a0==7) (some true) (cond (a1==2) (some (a0==11)) (some false))))) (cond (a1==2) (some (a0==11)) (some false))) (λ(v1:Bool)=>cond v1 (some 1) (some 0))
theorem Qxr(a0:Int)(a1:Int)(r:Int)(h0:Q61 a0 a1=some r):Fun prog 117 [.one (dI a0),.one (dI a1)] (Qj [.one (dI r)]):=by
 unfold Q61 at h0;refine Jb 9 27 func117 Z J53 Z (lb Z) (λS w=>?_);simp only[J4];refine Q3<|Q0<|rA Z Z Z<|Q2<|Q1<|Q3<|Q3 ?_
 refine QN (λ(v1:Bool)=>⟨[(26,.v (.one (dB v1)))],[],[],0,27,[]⟩) (λ(v1:Bool)=>(cond v1 (some 1) (some 0))=some r) ?_ ?_;refine Qn h0 (λw1_ h1 h0=>?_);refine Q0<|rM Z Z Z<|rR Z Z Z (Q5 Z Z Z)<|rM Z Z Z ?_
 refine QB (d:=7) (c:=(a1==1)) Z (λc2=>?_) (λc2=>?_);replace h1:=Qk c2 h1;refine rM Z Z Z<|rR Z Z Z (Q5 Z Z Z)<|rM Z Z Z ?_
 refine QB (d:=10) (c:=(a0==5)) Z (λc3=>?_) (λc3=>?_);replace h1:=Qk c3 h1;refine Q7 Z Z<|Q7 Z Z<|rR Z Z Z (Qe Z Z)<|rM Z Z Z<|Q7 Z Z<|Q7 Z Z<|rR Z Z Z (Qe Z Z)<|rR Z Z Z (Qe Z Z)<|rM Z Z Z<|Q7 Z Z<|Q7 Z Z<|Q7 Z Z<|Q7 Z Z<|Q7 Z Z ?_
 refine Q7 Z Z<|rR Z Z Z (Qe Z Z)<|Q2 ?_
 have e:=sI h1;subst e;exact Qb true (sL (Cd _) Z Z Z Z Z) h0;replace h1:=Ql c3 h1;refine rM Z Z Z<|rR Z Z Z (Q5 Z Z Z)<|rR Z Z Z (Qh Z Z)<|rM Z Z Z ?_
 refine QB (d:=14) (c:=(a0==6)) Z (λc4=>?_) (λc4=>?_);replace h1:=Qk c4 h1;refine Q7 Z Z<|Q7 Z Z<|rR Z Z Z (Qe Z Z)<|rR Z Z Z (Qe Z Z)<|rM Z Z Z<|Q7 Z Z<|Q7 Z Z<|Q7 Z Z<|Q7 Z Z<|Q7 Z Z<|Q7 Z Z<|rR Z Z Z (Qe Z Z)<|Q2 ?_
 have e:=sI h1;subst e;exact Qb true (sL (Cd _) Z Z Z Z Z) h0;replace h1:=Ql c4 h1;refine rM Z Z Z<|rR Z Z Z (Q5 Z Z Z)<|rR Z Z Z (Qh Z Z)<|rR Z Z Z (Qe Z Z)<|rM Z Z Z ?_
 refine QB (d:=19) (c:=(a0==7)) Z (λc5=>?_) (λc5=>?_);replace h1:=Qk c5 h1;refine Q7 Z Z<|Q7 Z Z<|Q7 Z Z<|Q7 Z Z<|Q7 Z Z<|Q7 Z Z<|rR Z Z Z (Qe Z Z)<|Q2 ?_
 have e:=sI h1;subst e;exact Qb true (sL (Cd _) Z Z Z Z Z) h0;replace h1:=Ql c5 h1;refine rM Z Z Z<|rR Z Z Z (Q5 Z Z Z)<|rM Z Z Z ?_
 refine QB (d:=22) (c:=(a1==2)) Z (λc6=>?_) (λc6=>?_);replace h1:=Qk c6 h1;refine rM Z Z Z<|rR Z Z Z (Q5 Z Z Z)<|rR Z Z Z (Qe Z Z)<|rR Z Z Z (Qh Z Z)<|Q2 ?_
 have e:=sI h1;subst e;exact Qb (a0==11) (sL (Cd _) Z Z Z Z Z) h0;replace h1:=Ql c6 h1;refine Q7 Z Z<|Q7 Z Z<|rR Z Z Z (Qh Z Z)<|rR Z Z Z (Qh Z Z)<|Q2 ?_
 have e:=sI h1;subst e;exact Qb false (sL (Cd _) Z Z Z Z Z) h0;replace h1:=Ql c2 h1;refine Q7 Z Z<|Q7 Z Z<|Q7 Z Z<|Q7 Z Z<|Q7 Z Z<|Q7 Z Z<|Q7 Z Z<|Q7 Z Z<|Q7 Z Z<|Q7 Z Z<|rR Z Z Z (Qh Z Z)<|rM Z Z Z<|rM Z Z Z<|rR Z Z Z (Q5 Z Z Z) ?_
 refine rM Z Z Z ?_;refine QB (d:=22) (c:=(a1==2)) Z (λc7=>?_) (λc7=>?_);replace h1:=Qk c7 h1;refine rM Z Z Z<|rR Z Z Z (Q5 Z Z Z)<|rR Z Z Z (Qe Z Z)<|rR Z Z Z (Qh Z Z)<|Q2 ?_
 have e:=sI h1;subst e;exact Qb (a0==11) (sL (Cd _) Z Z Z Z Z) h0;replace h1:=Ql c7 h1;refine Q7 Z Z<|Q7 Z Z<|rR Z Z Z (Qh Z Z)<|rR Z Z Z (Qh Z Z)<|Q2 ?_
 have e:=sI h1;subst e;exact Qb false (sL (Cd _) Z Z Z Z Z) h0;intro v1 h0;refine Q1 ?_;refine Qi (b:=v1) Z (λc8=>?_) (λc8=>?_);replace h0:=Qk c8 h0;refine Q3<|Q0<|rA Z Z Z<|Q2<|Q1<|Qx ?_
 have e:=sI h0;subst e;exact QD (λ_ _ h=>h) Z (Qy Z .nil) (.cons (.one (.d _)) .nil);replace h0:=Ql c8 h0;refine Qp<|Q1<|Q3<|Q0<|rA Z Z Z<|Q2<|Q1<|Qx ?_
 have e:=sI h0;subst e;exact QD (λ_ _ h=>h) Z (Qy Z .nil) (.cons (.one (.d _)) .nil)
def Q4l(p0_:Bool)(p1_:Int)(p2_:Lvl)(p3_:LV):Option (LO Int (Unit⊕Bool)):=
 cond p0_ (some (.done (.inr false))) (Option.bind (cond (decide (0<p1_)) (Option.bind (QP p2_.vs (Qr (p1_-1))) λ(b0_:LV)=>
 some (decide (p3_.1<=b0_.1))) (some false)) (λ(b1_:Bool)=>cond b1_ (some (.done (.inr false))) (Option.bind (cond (decide (0<p2_.c)) (some (decide (p2_.c<=p3_.2))) (some false)) (λ(b2_:Bool)=>cond b2_ (some (.done (.inr false))) (some (.next (Qr (p1_+1))))))))
def GR(a0:Lvl)(s1:Int):Option (LO Int (Unit⊕Bool)):=
 cond (decide (s1<(a0.vs.length:Int))) (Option.bind (QP a0.vs s1) λ(x5:LV)=>
 Option.bind (cond (decide (x5.1<(-65536))) (some true) (cond (decide (8<=x5.1)) (some true) (cond (decide (x5.2<0)) (some true) (some (decide (100<x5.2)))))) (λ(v6:Bool)=>Q4l v6 s1 a0 x5)) (some (.done (.inl ())))
def Qf0(a0:Lvl):Option Bool:=Option.bind (cond (decide (a0.c<0)) (some true) (some (decide (100<a0.c)))) (λ(v1:Bool)=>cond v1 (some false) (Option.bind (Qc (GR a0) Qf 0) (Sum.elim (λ(o3:Unit)=>some true) (λo=>some o))))
theorem Qm3(a0:Lvl)(r:Bool)(h0:Qf0 a0=some r):Fun prog 118 [.agg (cE a0)] (Qj [.one (dB r)]):=by
 unfold Qf0 at h0;refine Jb 9 67 func118 Z J52 Z (lb Z) (λS w=>?_);simp only[J4];refine Q3<|Q0<|Qm Z Z (lb Z) (Ju Z)<|rA Z Z Z<|Q2<|Q1<|Q3<|Q3 ?_
 refine QN (λ(v1:Bool)=>⟨[(1,.v (.one (.ptr 0 0))),(12,.v (.one (dB v1)))],[(0,.cells 82 (cE a0))],[],1,67,[]⟩) (λ(v1:Bool)=>(cond v1 (some false) (Option.bind (Qc (GR a0) Qf 0) (Sum.elim (λ(o3:Unit)=>some true) (λo=>some o))))=some r) ?_ ?_;refine Qn h0 (λw1_ h1 h0=>?_);refine Q0<|rR Z Z Z (Q4 GY Z)<|rR Z Z Z (Q6 Ji Z Z Z)<|rR Z Z Z (Q5 Z Z Z)<|rM Z Z Z ?_
 refine QB (d:=8) (c:=(decide (a0.c<0))) Z (λc2=>?_) (λc2=>?_);replace h1:=Qk c2 h1;refine Q7 Z Z<|Q7 Z Z<|Q7 Z Z<|rR Z Z Z (Qe Z Z)<|Q2 ?_
 have e:=sI h1;subst e;exact Qb true (sL (Cd _) Z Z Z Z Z) h0;replace h1:=Ql c2 h1;refine rR Z Z Z (Q4 GY Z)<|rR Z Z Z (Q6 Ji Z Z Z)<|rR Z Z Z (Q5 Z Z Z)<|rR Z Z Z (Qh Z Z)<|Q2 ?_
 have e:=sI h1;subst e;exact Qb (decide (100<a0.c)) (sL (Cd _) Z Z Z Z Z) h0;intro v1 h0;refine Q1 ?_;refine Qi (b:=v1) Z (λc3=>?_) (λc3=>?_);replace h0:=Qk c3 h0;refine Q3<|Q0<|rA Z Z Z<|Q2<|Q1<|Qx ?_
 have e:=sI h0;subst e;exact QD (λ_ _ h=>h) Z (Qy Z .nil) (.cons (.one (.d _)) .nil);replace h0:=Ql c3 h0;refine Qp<|Q1<|Q3<|Q3<|Q0<|rA Z Z Z<|Q2<|Q1<|QC ?_
 refine Y5 0 (λ(o4:Unit)=>⟨[],[(0,.cells 82 (cE a0))],[],1,67,[]⟩) (λ(o4:Unit)=>(some true)=some r) ?_ ?_;refine Qn h0 (λo5 hl1 h0=>?_);refine Y4 (GR a0) (λs1=>⟨[(1,.v (.one (.ptr 0 0))),(3,.v (.one (dI s1)))],[(0,.cells 82 (cE a0))],[],1,67,[]⟩) 0 o5 (sL (Cd _) Z Z Z Z Z) hl1 (λs1 n1 oo1 h1 ho1=>?_);unfold GR at h1;refine Q3<|Q3<|Q0<|rM Z Z Z<|rR Z Z Z (Q4 YX Z)<|rR Z Z Z (Q6 X3 Z Z Z)<|rR Z Z Z (Jg (α:=LV) Kb Z (.d _))<|rR Z Z Z (Q5 Z Z Z)<|Q2<|Q1 ?_
 refine Qi (b:=(decide (s1<(a0.vs.length:Int)))) Z (λc6=>?_) (λc6=>?_);replace h1:=Qk c6 h1;refine Qp<|Q1<|Q3<|QC<|Q3<|Q0<|rR Z Z Z (Q4 YX Z)<|rR Z Z Z (Q6 X3 Z Z Z)<|rM Z Z Z ?_
 refine Qn h1 (λx7 hx7 h1=>?_);refine rR Z Z Z (JH (α:=LV) Kb Z (.d _) Z hx7)<|rR Z Z Z (JV (x7:LV) DL Z)<|Qm Z Z (lb Z) (J0 Qde Z)<|J1 Z Z (Zd (x7:LV) DL Z Z Z Z Z)<|Q2<|Q1<|Q3<|Q3 ?_
 refine QN (λ(v8:Bool)=>⟨[(1,.v (.one (.ptr 0 0))),(3,.v (.one (dI s1))),(4,.v (.one (.ptr 1 0))),(42,.v (.one (dB v8)))],[(0,.cells 82 (cE a0)),(1,.cells 142 (cE x7))],[],2,67,[]⟩) (λ(v8:Bool)=>(Q4l v8 s1 a0 x7)=some oo1) ?_ ?_;refine Qn h1 (λw2_ h2 h1=>?_);refine Q0<|rR Z Z Z (Q4 ZZ Z)<|rR Z Z Z (Q6 Ji Z Z Z)<|rR Z Z Z (Q5 Z Z Z)<|rM Z Z Z ?_
 refine QB (d:=28) (c:=(decide (x7.1<(-65536)))) Z (λc9=>?_) (λc9=>?_);replace h2:=Qk c9 h2;refine Q7 Z Z<|Q7 Z Z<|Q7 Z Z<|rR Z Z Z (Qe Z Z)<|rM Z Z Z<|Q7 Z Z<|Q7 Z Z<|Q7 Z Z<|rR Z Z Z (Qe Z Z)<|rM Z Z Z<|Q7 Z Z<|Q7 Z Z<|Q7 Z Z<|rR Z Z Z (Qe Z Z) ?_
 refine Q2 ?_;have e:=sI h2;subst e;exact Qb true (sL (Cd _) Z Z Z Z Z) h1;replace h2:=Ql c9 h2;refine rR Z Z Z (Q4 ZZ Z)<|rR Z Z Z (Q6 Ji Z Z Z)<|rR Z Z Z (Q5 Z Z Z)<|rR Z Z Z (Qh Z Z)<|rM Z Z Z ?_
 refine QB (d:=33) (c:=(decide (8<=x7.1))) Z (λc10=>?_) (λc10=>?_);replace h2:=Qk c10 h2;refine Q7 Z Z<|Q7 Z Z<|Q7 Z Z<|rR Z Z Z (Qe Z Z)<|rM Z Z Z<|Q7 Z Z<|Q7 Z Z<|Q7 Z Z<|rR Z Z Z (Qe Z Z)<|Q2 ?_
 have e:=sI h2;subst e;exact Qb true (sL (Cd _) Z Z Z Z Z) h1;replace h2:=Ql c10 h2;refine rR Z Z Z (Q4 Xy Z)<|rR Z Z Z (Q6 Ji Z Z Z)<|rR Z Z Z (Q5 Z Z Z)<|rR Z Z Z (Qh Z Z)<|rM Z Z Z ?_
 refine QB (d:=38) (c:=(decide (x7.2<0))) Z (λc11=>?_) (λc11=>?_);replace h2:=Qk c11 h2;refine Q7 Z Z<|Q7 Z Z<|Q7 Z Z<|rR Z Z Z (Qe Z Z)<|Q2 ?_
 have e:=sI h2;subst e;exact Qb true (sL (Cd _) Z Z Z Z Z) h1;replace h2:=Ql c11 h2;refine rR Z Z Z (Q4 Xy Z)<|rR Z Z Z (Q6 Ji Z Z Z)<|rR Z Z Z (Q5 Z Z Z)<|rR Z Z Z (Qh Z Z)<|Q2 ?_
 have e:=sI h2;subst e;exact Qb (decide (100<x7.2)) (sL (Cd _) Z Z Z Z Z) h1;intro v8 h1;unfold Q4l at h1;refine Q1 ?_;refine Qi (b:=v8) Z (λc12=>?_) (λc12=>?_);replace h1:=Qk c12 h1;refine Q3<|Q0<|rA Z Z Z<|Q2<|Q1<|Qx ?_
 have e:=sI h1;subst e;have e_:_=_:=ho1;subst e_;try dsimp only[Sum.elim_inl,Sum.elim_inr]at h0
 have e:=sI h0;subst e;exact QD (λ_ _ h=>h) Z (Qy Z .nil) (.cons (.one (.d _)) .nil);replace h1:=Ql c12 h1;refine Qp<|Q1<|Q3<|Q3 ?_
 refine QN (λ(v13:Bool)=>⟨[(1,.v (.one (.ptr 0 0))),(3,.v (.one (dI s1))),(4,.v (.one (.ptr 1 0))),(56,.v (.one (dB v13)))],[(0,.cells 82 (cE a0)),(1,.cells 142 (cE x7))],[],2,67,[]⟩) (λ(v13:Bool)=>(cond v13 (some (.done (.inr false))) (Option.bind (cond (decide (0<a0.c)) (some (decide (a0.c<=x7.2))) (some false)) (λ(v15:Bool)=>cond v15 (some (.done (.inr false))) (some (.next (Qr (s1+1)))))))=some oo1) ?_ ?_;refine Qn h1 (λw2_ h2 h1=>?_);refine Ye [] [] mixed (by kernel_rfl) (by kernel_rfl) (by kernel_rfl) ?_;refine RunA.rd Z Z Z (Q9 (Jn Z)) Z<|RunA.rd Z Z Z (Q9 (Q5 Z Z Z)) Z ?_
 refine Q2j (c:=(decide (0<s1))) Z Z Z (Q9 (Jn Z)) Z (λc14=>?_) (λc14=>?_);replace h2:=Qk c14 h2;refine RunA.rd Z Z Z (Q9 (Q4 YX Z)) Z<|RunA.rd Z Z Z (Q9 (Q6 X3 Z Z Z)) Z<|RunA.rd Z Z Z (Q9 (Jn Z)) Z<|RunA.rd Z Z Z (Q9 (Q5 Z Z Z)) Z ?_
 refine Qn h2 (λx15 hx15 h2=>?_);refine RunA.rd Z Z Z (Q9 (JH (α:=LV) Kb Z (.d _) Z hx15)) Z<|RunA.rd Z Z Z (Q9 (ZL ZZ Z)) Z<|RunA.rd Z Z Z (Q9 (ZC Ji Z Z)) Z<|RunA.rd Z Z Z (Q9 (Q4 ZZ Z)) Z<|RunA.rd Z Z Z (Q9 (Q6 Ji Z Z Z)) Z<|RunA.rd Z Z Z (Q9 (Q5 Z Z Z)) Z<|RunA.rd Z Z Z (Q9 (Qe Z Z)) Z ?_
 refine RunA.nil ⟨?ex,_,_,Z,?_⟩;case ex=>exact trivial
 have e:=sI h2;subst e;exact Qb (decide (x7.1<=x15.1)) (sL (Cd _) Z Z Z Z Z) h1;replace h2:=Ql c14 h2;refine RunA.no Z Z Z Z<|RunA.no Z Z Z Z<|RunA.no Z Z Z Z<|RunA.no Z Z Z Z<|RunA.no Z Z Z Z<|RunA.no Z Z Z Z<|RunA.no Z Z Z Z<|RunA.no Z Z Z Z<|RunA.no Z Z Z Z<|RunA.no Z Z Z Z<|RunA.rd Z Z Z (Q9 (Qh Z Z)) Z ?_
 refine RunA.nil ⟨?ex,_,_,Z,?_⟩;case ex=>exact trivial
 have e:=sI h2;subst e;exact Qb false (sL (Cd _) Z Z Z Z Z) h1;intro v13 h1;refine Q1 ?_;refine Qi (b:=v13) Z (λc16=>?_) (λc16=>?_);replace h1:=Qk c16 h1;refine Q3<|Q0<|rA Z Z Z<|Q2<|Q1<|Qx ?_
 have e:=sI h1;subst e;have e_:_=_:=ho1;subst e_;try dsimp only[Sum.elim_inl,Sum.elim_inr]at h0
 have e:=sI h0;subst e;exact QD (λ_ _ h=>h) Z (Qy Z .nil) (.cons (.one (.d _)) .nil);replace h1:=Ql c16 h1;refine Qp<|Q1<|Q3 ?_
 refine QN (λ(v17:Bool)=>⟨[(1,.v (.one (.ptr 0 0))),(3,.v (.one (dI s1))),(66,.v (.one (dB v17)))],[(0,.cells 82 (cE a0)),(1,.cells 142 (cE x7))],[],2,67,[]⟩) (λ(v17:Bool)=>(cond v17 (some (.done (.inr false))) (some (.next (Qr (s1+1)))))=some oo1) ?_ ?_;refine Qn h1 (λw2_ h2 h1=>?_);refine Q0<|rR Z Z Z (Q4 GY Z)<|rR Z Z Z (Q6 Ji Z Z Z)<|rR Z Z Z (Q5 Z Z Z)<|rM Z Z Z ?_
 refine QB (d:=60) (c:=(decide (0<a0.c))) Z (λc18=>?_) (λc18=>?_);replace h2:=Qk c18 h2;refine rR Z Z Z (Q4 Xy Z)<|rR Z Z Z (Q6 Ji Z Z Z)<|rR Z Z Z (Q4 GY Z)<|rR Z Z Z (Q6 Ji Z Z Z)<|rR Z Z Z (Q5 Z Z Z)<|rR Z Z Z (Qe Z Z)<|Q2 ?_
 have e:=sI h2;subst e;exact Qb (decide (a0.c<=x7.2)) (sL (Cd _) Z Z Z Z Z) h1;replace h2:=Ql c18 h2;refine Q7 Z Z<|Q7 Z Z<|Q7 Z Z<|Q7 Z Z<|Q7 Z Z<|rR Z Z Z (Qh Z Z)<|Q2 ?_
 have e:=sI h2;subst e;exact Qb false (sL (Cd _) Z Z Z Z Z) h1;intro v17 h1;refine Q1 ?_;refine Qi (b:=v17) Z (λc19=>?_) (λc19=>?_);replace h1:=Qk c19 h1;refine Q3<|Q0<|rA Z Z Z<|Q2<|Q1<|Qx ?_
 have e:=sI h1;subst e;have e_:_=_:=ho1;subst e_;try dsimp only[Sum.elim_inl,Sum.elim_inr]at h0
 have e:=sI h0;subst e;exact QD (λ_ _ h=>h) Z (Qy Z .nil) (.cons (.one (.d _)) .nil);replace h1:=Ql c19 h1;refine Qp<|QU<|Q1<|Q0<|rM Z Z Z<|rR Z Z Z (Q5 Z Z Z)<|rA Z Z Z<|Q2 ?_
 have e:=sI h1;subst e;refine JK (Qr (s1+1)) (sL (Cd _) Z Z Z Z Z) ho1;replace h1:=Ql c6 h1;refine Y9<|QV<|QV ?_
 have e:=sI h1;subst e;have e_:_=_:=ho1;subst e_;exact Y3 () (sL (Cd _) Z Z Z Z Z) h0;intro o4 h0;refine Jo<|Q1<|Q3<|Q0<|rA Z Z Z<|Q2<|Q1<|Qx ?_
 have e:=sI h0;subst e;exact QD (λ_ _ h=>h) Z (Qy Z .nil) (.cons (.one (.d _)) .nil)
def Wc(a0:Lvl)(a1:Int)(s1:Int):Option (LO Int (Unit⊕Int)):=
 cond (decide (s1<(a0.vs.length:Int))) (Option.bind (Option.bind (QP a0.vs s1) λ(x6:LV)=>
 cond (decide (0<=x6.1)) (Option.bind (QP a0.vs s1) λ(x8:LV)=>
 some (decide (a1<=x8.1))) (some false)) (λ(v5:Bool)=>cond v5 (some (.done (.inr 15))) (some (.next (Qr (s1+1)))))) (some (.done (.inl ())))
def GS(a0:Lvl)(a2:Int)(s1:Int):Option (LO Int (Unit⊕Int)):=
 cond (decide (s1<(a0.vs.length:Int))) (Option.bind (Option.bind (QP a0.vs s1) λ(x7:LV)=>
 cond (decide (x7.1<0)) (Option.bind (QP a0.vs s1) λ(x9:LV)=>
 some (decide (a2<=(Qr ((-1)-x9.1))))) (some false)) (λ(v6:Bool)=>cond v6 (some (.done (.inr 23))) (some (.next (Qr (s1+1)))))) (some (.done (.inl ())))
def Qij(a0:Lvl)(a1:Int)(a2:Int):Option Int:=
 Option.bind (Qf0 a0) λ(x1:Bool)=>
 cond (!x1) (some 3) (Option.bind (Qc (Wc a0 a1) Qf 0) (Sum.elim (λ(o3:Unit)=>Option.bind (Qc (GS a0 a2) Qf 0) (Sum.elim (λ(o4:Unit)=>some 0) (λo=>some o))) (λo=>some o)))
theorem Qxs(a0:Lvl)(a1:Int)(a2:Int)(r:Int)(h0:Qij a0 a1 a2=some r):Fun prog 116 [.agg (cE a0),.one (dI a1),.one (dI a2)] (Qj [.one (dI r)]):=by
 unfold Qij at h0;refine Jb 9 61 func116 Z J54 Z (lb Z) (λS w=>?_);simp only[J4];refine Q3<|Q0<|Qm Z Z (lb Z) (Ju Z)<|rA Z Z Z<|Q2<|Q1<|Q3<|Q3<|Q0<|rR Z Z Z (Yf (a0:Lvl) JQ Z Z) ?_
 refine Qn h0 (λx1 hx1 h0=>?_);refine Qm Z Z (lb Z) (QO (Qm3 a0 x1 hx1) Z (.cons (.agg (.cons (.d _) (.cons (.d _) .nil))) .nil))<|rR Z Z Z (Zk Z)<|Q2<|Q1 ?_
 refine Qi (b:=(!x1)) Z (λc2=>?_) (λc2=>?_);replace h0:=Qk c2 h0;refine Q3<|Q0<|rA Z Z Z<|Q2<|Q1<|Qx ?_
 have e:=sI h0;subst e;exact QD (λ_ _ h=>h) Z (Qy Z .nil) (.cons (.one (.d _)) .nil);replace h0:=Ql c2 h0;refine Qp<|Q1<|Q3<|Q3<|Q0<|rA Z Z Z<|Q2<|Q1<|QC ?_
 refine Y5 0 (λ(o3:Unit)=>⟨[(2,.v (.one (dI a2))),(3,.v (.one (.ptr 0 0)))],[(0,.cells 82 (cE a0))],[],1,61,[]⟩) (λ(o3:Unit)=>(Option.bind (Qc (GS a0 a2) Qf 0) (Sum.elim (λ(o4:Unit)=>some 0) (λo=>some o)))=some r) ?_ ?_;refine Qn h0 (λo4 hl1 h0=>?_);refine Y4 (Wc a0 a1) (λs1=>⟨[(1,.v (.one (dI a1))),(2,.v (.one (dI a2))),(3,.v (.one (.ptr 0 0))),(7,.v (.one (dI s1)))],[(0,.cells 82 (cE a0))],[],1,61,[]⟩) 0 o4 (sL (Cd _) Z Z Z Z Z) hl1 (λs1 n1 oo1 h1 ho1=>?_);unfold Wc at h1;refine Q3<|Q3<|Q0<|rM Z Z Z<|rR Z Z Z (Q4 YX Z)<|rR Z Z Z (Q6 X3 Z Z Z)<|rR Z Z Z (Jg (α:=LV) Kb Z (.d _))<|rR Z Z Z (Q5 Z Z Z)<|Q2<|Q1 ?_
 refine Qi (b:=(decide (s1<(a0.vs.length:Int)))) Z (λc5=>?_) (λc5=>?_);replace h1:=Qk c5 h1;refine Qp<|Q1<|Q3<|QC<|Q3 ?_
 refine QN (λ(v6:Bool)=>⟨[(1,.v (.one (dI a1))),(2,.v (.one (dI a2))),(3,.v (.one (.ptr 0 0))),(7,.v (.one (dI s1))),(35,.v (.one (dB v6)))],[(0,.cells 82 (cE a0))],[],1,61,[]⟩) (λ(v6:Bool)=>(cond v6 (some (.done (.inr 15))) (some (.next (Qr (s1+1)))))=some oo1) ?_ ?_;refine Qn h1 (λw2_ h2 h1=>?_);refine Q0<|rR Z Z Z (Q4 YX Z)<|rR Z Z Z (Q6 X3 Z Z Z)<|rM Z Z Z ?_
 refine Qn h2 (λx7 hx7 h2=>?_);refine rR Z Z Z (JH (α:=LV) Kb Z (.d _) Z hx7)<|rR Z Z Z (ZL ZZ Z)<|rR Z Z Z (ZC Ji Z Z)<|rR Z Z Z (Q5 Z Z Z)<|rM Z Z Z ?_
 refine QB (d:=26) (c:=(decide (0<=x7.1))) Z (λc8=>?_) (λc8=>?_);replace h2:=Qk c8 h2;refine rR Z Z Z (Q4 YX Z)<|rR Z Z Z (Q6 X3 Z Z Z)<|rM Z Z Z ?_
 refine Qn h2 (λx9 hx9 h2=>?_);refine rR Z Z Z (JH (α:=LV) Kb Z (.d _) Z hx9)<|rR Z Z Z (ZL ZZ Z)<|rR Z Z Z (ZC Ji Z Z)<|rM Z Z Z<|rR Z Z Z (Q5 Z Z Z)<|rR Z Z Z (Qe Z Z)<|Q2 ?_
 have e:=sI h2;subst e;exact Qb (decide (a1<=x9.1)) (sL (Cd _) Z Z Z Z Z) h1;replace h2:=Ql c8 h2;refine Q7 Z Z<|Q7 Z Z<|Q7 Z Z<|Q7 Z Z<|Q7 Z Z<|Q7 Z Z<|Q7 Z Z<|Q7 Z Z<|rR Z Z Z (Qh Z Z)<|Q2 ?_
 have e:=sI h2;subst e;exact Qb false (sL (Cd _) Z Z Z Z Z) h1;intro v6 h1;refine Q1 ?_;refine Qi (b:=v6) Z (λc10=>?_) (λc10=>?_);replace h1:=Qk c10 h1;refine Q3<|Q0<|rA Z Z Z<|Q2<|Q1<|Qx ?_
 have e:=sI h1;subst e;have e_:_=_:=ho1;subst e_;try dsimp only[Sum.elim_inl,Sum.elim_inr]at h0
 have e:=sI h0;subst e;exact QD (λ_ _ h=>h) Z (Qy Z .nil) (.cons (.one (.d _)) .nil);replace h1:=Ql c10 h1;refine Qp<|QU<|Q1<|Q0<|rM Z Z Z<|rR Z Z Z (Q5 Z Z Z)<|rA Z Z Z<|Q2 ?_
 have e:=sI h1;subst e;refine JK (Qr (s1+1)) (sL (Cd _) Z Z Z Z Z) ho1;replace h1:=Ql c5 h1;refine Y9<|QV<|QV ?_
 have e:=sI h1;subst e;have e_:_=_:=ho1;subst e_;exact Y3 () (sL (Cd _) Z Z Z Z Z) h0;intro o3 h0;refine Jo<|Q1<|Q3<|Q3<|Q0<|rA Z Z Z<|Q2<|Q1<|QC ?_
 refine Y5 2 (λ(o11:Unit)=>⟨[],[(0,.cells 82 (cE a0))],[],1,61,[]⟩) (λ(o11:Unit)=>(some 0)=some r) ?_ ?_;refine Qn h0 (λo12 hl1 h0=>?_);refine Y4 (GS a0 a2) (λs1=>⟨[(2,.v (.one (dI a2))),(3,.v (.one (.ptr 0 0))),(8,.v (.one (dI s1)))],[(0,.cells 82 (cE a0))],[],1,61,[]⟩) 0 o12 (sL (Cd _) Z Z Z Z Z) hl1 (λs1 n1 oo1 h1 ho1=>?_);unfold GS at h1;refine Q3<|Q3<|Q0<|rM Z Z Z<|rR Z Z Z (Q4 YX Z)<|rR Z Z Z (Q6 X3 Z Z Z)<|rR Z Z Z (Jg (α:=LV) Kb Z (.d _))<|rR Z Z Z (Q5 Z Z Z)<|Q2<|Q1 ?_
 refine Qi (b:=(decide (s1<(a0.vs.length:Int)))) Z (λc13=>?_) (λc13=>?_);replace h1:=Qk c13 h1;refine Qp<|Q1<|Q3<|QC<|Q3 ?_
 refine QN (λ(v14:Bool)=>⟨[(2,.v (.one (dI a2))),(3,.v (.one (.ptr 0 0))),(8,.v (.one (dI s1))),(60,.v (.one (dB v14)))],[(0,.cells 82 (cE a0))],[],1,61,[]⟩) (λ(v14:Bool)=>(cond v14 (some (.done (.inr 23))) (some (.next (Qr (s1+1)))))=some oo1) ?_ ?_;refine Qn h1 (λw2_ h2 h1=>?_);refine Q0<|rR Z Z Z (Q4 YX Z)<|rR Z Z Z (Q6 X3 Z Z Z)<|rM Z Z Z ?_
 refine Qn h2 (λx15 hx15 h2=>?_);refine rR Z Z Z (JH (α:=LV) Kb Z (.d _) Z hx15)<|rR Z Z Z (ZL ZZ Z)<|rR Z Z Z (ZC Ji Z Z)<|rR Z Z Z (Q5 Z Z Z)<|rM Z Z Z ?_
 refine QB (d:=50) (c:=(decide (x15.1<0))) Z (λc16=>?_) (λc16=>?_);replace h2:=Qk c16 h2;refine rR Z Z Z (Q4 YX Z)<|rR Z Z Z (Q6 X3 Z Z Z)<|rM Z Z Z ?_
 refine Qn h2 (λx17 hx17 h2=>?_);refine rR Z Z Z (JH (α:=LV) Kb Z (.d _) Z hx17)<|rR Z Z Z (ZL ZZ Z)<|rR Z Z Z (ZC Ji Z Z)<|rR Z Z Z (Q5 Z Z Z)<|rM Z Z Z<|rR Z Z Z (Q5 Z Z Z)<|rR Z Z Z (Qe Z Z)<|Q2 ?_
 have e:=sI h2;subst e;exact Qb (decide (a2<=(Qr ((-1)-x17.1)))) (sL (Cd _) Z Z Z Z Z) h1;replace h2:=Ql c16 h2;refine Q7 Z Z<|Q7 Z Z<|Q7 Z Z<|Q7 Z Z<|Q7 Z Z<|Q7 Z Z<|Q7 Z Z<|Q7 Z Z<|Q7 Z Z<|rR Z Z Z (Qh Z Z)<|Q2 ?_
 have e:=sI h2;subst e;exact Qb false (sL (Cd _) Z Z Z Z Z) h1;intro v14 h1;refine Q1 ?_;refine Qi (b:=v14) Z (λc18=>?_) (λc18=>?_);replace h1:=Qk c18 h1;refine Q3<|Q0<|rA Z Z Z<|Q2<|Q1<|Qx ?_
 have e:=sI h1;subst e;have e_:_=_:=ho1;subst e_;try dsimp only[Sum.elim_inl,Sum.elim_inr]at h0
 have e:=sI h0;subst e;exact QD (λ_ _ h=>h) Z (Qy Z .nil) (.cons (.one (.d _)) .nil);replace h1:=Ql c18 h1;refine Qp<|QU<|Q1<|Q0<|rM Z Z Z<|rR Z Z Z (Q5 Z Z Z)<|rA Z Z Z<|Q2 ?_
 have e:=sI h1;subst e;refine JK (Qr (s1+1)) (sL (Cd _) Z Z Z Z Z) ho1;replace h1:=Ql c13 h1;refine Y9<|QV<|QV ?_
 have e:=sI h1;subst e;have e_:_=_:=ho1;subst e_;exact Y3 () (sL (Cd _) Z Z Z Z Z) h0;intro o11 h0;refine Jo<|Q1<|Q3<|Q0<|rA Z Z Z<|Q2<|Q1<|Qx ?_
 have e:=sI h0;subst e;exact QD (λ_ _ h=>h) Z (Qy Z .nil) (.cons (.one (.d _)) .nil)
def W6(a0:Tm)(a3:Int)(a5:Int)(s1:Int):Option (LO Int (Unit⊕Int)):=
 cond (decide (s1<(a0.levels.length:Int))) (Option.bind (QP a0.levels s1) λ(x8:Lvl)=>
 Option.bind (Qij x8 a3 a5) λ(x9:Int)=>
 cond (x9 != 0) (some (.done (.inr x9))) (some (.next (Qr (s1+1))))) (some (.done (.inl ())))
def ZU(a0:Tm)(rc:Tm×Int×Int×Int×Int×Int->Option Int)(a1:Int)(a2:Int)(a3:Int)(a4:Int)(a5:Int)(s1:Int):Option (LO Int (Unit⊕Int)):=
 cond (decide (s1<(a0.kids.length:Int))) (Option.bind (QP a0.kids s1) λ(x13:Tm)=>
 Option.bind (Q61 a0.kind s1) λ(x14:Int)=>
 Option.bind (rc (x13,(Qr (a1+x14)),a2,a3,a4,a5)) λ(x15:Int)=>
 cond (x15 != 0) (some (.done (.inr x15))) (some (.next (Qr (s1+1))))) (some (.done (.inl ())))
def Xa(p0_:Bool)(p1_:Tm)(p2_:Int)(p3_:Tm×Int×Int×Int×Int×Int->Option Int)(p4_:Int)(p5_:Int)(p6_:Int)(p7_:Int):Option Int:=cond p0_ (some 24) (Option.bind (cond (p1_.kind==12) (cond (decide (p1_.index<0)) (some true) (some (decide (p2_<=p1_.index)))) (some false)) (λ(b0_:Bool)=>cond b0_ (some 23) (Option.bind (Qc (ZU p1_ p3_ p4_ p5_ p6_ p2_ p7_) Qf 0) (Sum.elim (λ(b1_:Unit)=>some 0) (λo=>some o)))))
def Qhz(p0_:Bool)(p1_:Tm)(p2_:Int)(p3_:Int)(p4_:Int)(p5_:Int)(p6_:Int)(p7_:Tm×Int×Int×Int×Int×Int->Option Int):Option Int:=cond p0_ (some 29) (cond (decide (8<(p1_.levels.length:Int))) (some 6) (Option.bind (Qc (W6 p1_ p2_ p3_) Qf 0) (Sum.elim (λ(b0_:Unit)=>Option.bind (cond (p1_.kind==0) (cond (decide (p1_.index<0)) (some true) (some (decide (p4_<=(Qr (p1_.index-p5_)))))) (some false)) (λ(b1_:Bool)=>Xa b1_ p1_ p6_ p7_ p5_ p4_ p2_ p3_)) (λo=>some o))))
def Qhy(rc:Tm×Int×Int×Int×Int×Int->Option Int)(a0:Tm)(a1:Int)(a2:Int)(a3:Int)(a4:Int)(a5:Int):Option Int:=
 Option.bind (Qf1 a0) λ(x1:Bool)=>
 cond (!x1) (some 3) (Option.bind (cond (a0.kind==3) (Option.bind (J0b a0.name) λ(x5:Bool)=>
 some (!x5)) (some false)) (λ(v3:Bool)=>Qhz v3 a0 a3 a5 a2 a1 a4 rc))
def Q3z(rc:Tm×Int×Int×Int×Int×Int->Option Int)(u:Tm×Int×Int×Int×Int×Int):Option Int:=Qhy rc u.1 u.2.1 u.2.2.1 u.2.2.2.1 u.2.2.2.2.1 u.2.2.2.2.2
def Jam(a0:Tm)(a1:Int)(a2:Int)(a3:Int)(a4:Int)(a5:Int):Option Int:=Jm Q3z Qf (a0,a1,a2,a3,a4,a5)
theorem Qx2(rc:Tm×Int×Int×Int×Int×Int->Option Int)(H:∀(a0:Tm)(a1:Int)(a2:Int)(a3:Int)(a4:Int)(a5:Int)(r:Int),rc (a0,a1,a2,a3,a4,a5)=some r->Fun prog 65 [.agg (cE a0),.one (dI a1),.one (dI a2),.one (dI a3),.one (dI a4),.one (dI a5)] (Qj [.one (dI r)]))(a0:Tm)(a1:Int)(a2:Int)(a3:Int)(a4:Int)(a5:Int)(r:Int)(h0:Qhy rc a0 a1 a2 a3 a4 a5=some r):Fun prog 65 [.agg (cE a0),.one (dI a1),.one (dI a2),.one (dI a3),.one (dI a4),.one (dI a5)] (Qj [.one (dI r)]):=by
 unfold Qhy at h0;refine Jb 9 107 func65 Z J95 Z (lb Z) (λS w=>?_);simp only[J4];refine Q3<|Q0<|Qm Z Z (lb Z) (Ju Z)<|rA Z Z Z<|Q2<|Q1<|Q3<|Q3<|Q0<|rR Z Z Z (Yf (a0:Tm) KX Z Z) ?_
 refine Qn h0 (λx1 hx1 h0=>?_);refine Qm Z Z (lb Z) (QO (Qxt a0 x1 hx1) Z (.cons (.agg (.cons (.d _) (.cons (.d _) (.cons (.d _) (.cons (.d _) (.cons (.d _) .nil)))))) .nil))<|rR Z Z Z (Zk Z)<|Q2<|Q1 ?_
 refine Qi (b:=(!x1)) Z (λc2=>?_) (λc2=>?_);replace h0:=Qk c2 h0;refine Q3<|Q0<|rA Z Z Z<|Q2<|Q1<|Qx ?_
 have e:=sI h0;subst e;exact QD (λ_ _ h=>h) Z (Qy Z .nil) (.cons (.one (.d _)) .nil);replace h0:=Ql c2 h0;refine Qp<|Q1<|Q3<|Q3 ?_
 refine QN (λ(v3:Bool)=>⟨[(1,.v (.one (dI a1))),(2,.v (.one (dI a2))),(3,.v (.one (dI a3))),(4,.v (.one (dI a4))),(5,.v (.one (dI a5))),(6,.v (.one (.ptr 0 0))),(28,.v (.one (dB v3)))],[(0,.cells 25 (cE a0))],[],1,107,[]⟩) (λ(v3:Bool)=>(Qhz v3 a0 a3 a5 a2 a1 a4 rc)=some r) ?_ ?_;refine Qn h0 (λw1_ h1 h0=>?_);refine Q0<|rR Z Z Z (Q4 JT Z)<|rR Z Z Z (Q6 Ji Z Z Z)<|rR Z Z Z (Q5 Z Z Z)<|rM Z Z Z ?_
 refine QB (d:=23) (c:=(a0.kind==3)) Z (λc4=>?_) (λc4=>?_);replace h1:=Qk c4 h1;refine rR Z Z Z (Q4 Q4q Z)<|rR Z Z Z (Q6 DK Z Z Z) ?_
 refine Qn h1 (λx5 hx5 h1=>?_);refine Qm Z Z (lb Z) (QO (Qse a0.name x5 hx5) Z (.cons (.one (.d _)) .nil))<|rR Z Z Z (Zk Z)<|rR Z Z Z (Qe Z Z)<|Q2 ?_
 have e:=sI h1;subst e;exact Qb (!x5) (sL (Cd _) Z Z Z Z Z) h0;replace h1:=Ql c4 h1;refine Q7 Z Z<|Q7 Z Z<|Q7 Z Z<|Q7 Z Z<|rR Z Z Z (Qh Z Z)<|Q2 ?_
 have e:=sI h1;subst e;exact Qb false (sL (Cd _) Z Z Z Z Z) h0;intro v3 h0;unfold Qhz at h0;refine Q1 ?_;refine Qi (b:=v3) Z (λc6=>?_) (λc6=>?_);replace h0:=Qk c6 h0;refine Q3<|Q0<|rA Z Z Z<|Q2<|Q1<|Qx ?_
 have e:=sI h0;subst e;exact QD (λ_ _ h=>h) Z (Qy Z .nil) (.cons (.one (.d _)) .nil);replace h0:=Ql c6 h0;refine Qp<|Q1<|Q3<|Q3<|Q0<|rR Z Z Z (Q4 G7 Z)<|rR Z Z Z (Q6 Q0r Z Z Z)<|rR Z Z Z (Jg (α:=Lvl) DY Z (.d _))<|rR Z Z Z (Q5 Z Z Z)<|Q2<|Q1 ?_
 refine Qi (b:=(decide (8<(a0.levels.length:Int)))) Z (λc7=>?_) (λc7=>?_);replace h0:=Qk c7 h0;refine Q3<|Q0<|rA Z Z Z<|Q2<|Q1<|Qx ?_
 have e:=sI h0;subst e;exact QD (λ_ _ h=>h) Z (Qy Z .nil) (.cons (.one (.d _)) .nil);replace h0:=Ql c7 h0;refine Qp<|Q1<|Q3<|Q3<|Q0<|rA Z Z Z<|Q2<|Q1<|QC ?_
 refine Y5 0 (λ(o8:Unit)=>⟨[(1,.v (.one (dI a1))),(2,.v (.one (dI a2))),(3,.v (.one (dI a3))),(4,.v (.one (dI a4))),(5,.v (.one (dI a5))),(6,.v (.one (.ptr 0 0)))],[(0,.cells 25 (cE a0))],[],1,107,[]⟩) (λ(o8:Unit)=>(Option.bind (cond (a0.kind==0) (cond (decide (a0.index<0)) (some true) (some (decide (a2<=(Qr (a0.index-a1)))))) (some false)) (λ(v9:Bool)=>Xa v9 a0 a4 rc a1 a2 a3 a5))=some r) ?_ ?_;refine Qn h0 (λo9 hl1 h0=>?_);refine Y4 (W6 a0 a3 a5) (λs1=>⟨[(1,.v (.one (dI a1))),(2,.v (.one (dI a2))),(3,.v (.one (dI a3))),(4,.v (.one (dI a4))),(5,.v (.one (dI a5))),(6,.v (.one (.ptr 0 0))),(13,.v (.one (dI s1)))],[(0,.cells 25 (cE a0))],[],1,107,[]⟩) 0 o9 (sL (Cd _) Z Z Z Z Z) hl1 (λs1 n1 oo1 h1 ho1=>?_);unfold W6 at h1;refine Q3<|Q3<|Q0<|rM Z Z Z<|rR Z Z Z (Q4 G7 Z)<|rR Z Z Z (Q6 Q0r Z Z Z)<|rR Z Z Z (Jg (α:=Lvl) DY Z (.d _))<|rR Z Z Z (Q5 Z Z Z)<|Q2<|Q1 ?_
 refine Qi (b:=(decide (s1<(a0.levels.length:Int)))) Z (λc10=>?_) (λc10=>?_);replace h1:=Qk c10 h1;refine Qp<|Q1<|Q3<|QC<|Q3<|Q0<|rR Z Z Z (Q4 G7 Z)<|rR Z Z Z (Q6 Q0r Z Z Z)<|rM Z Z Z ?_
 refine Qn h1 (λx11 hx11 h1=>?_);refine rR Z Z Z (JH (α:=Lvl) DY Z (.d _) Z hx11)<|rR Z Z Z (JV (x11:Lvl) JQ Z)<|rM Z Z Z<|rM Z Z Z ?_
 refine Qn h1 (λx12 hx12 h1=>?_);refine Qm Z Z (lb Z) (QO (Qxs x11 a3 a5 x12 hx12) Z (.cons (.agg (.cons (.d _) (.cons (.d _) .nil))) (.cons (.one (.d _)) (.cons (.one (.d _)) .nil))))<|rA Z Z Z<|Q2<|Q1<|Q3<|Q0<|rM Z Z Z<|rR Z Z Z (Q5 Z Z Z)<|Q2<|Q1 ?_
 refine Qi (b:=(x12 != 0)) Z (λc13=>?_) (λc13=>?_);replace h1:=Qk c13 h1;refine Q3<|Q0<|rM Z Z Z<|rA Z Z Z<|Q2<|Q1<|Qx ?_
 have e:=sI h1;subst e;have e_:_=_:=ho1;subst e_;try dsimp only[Sum.elim_inl,Sum.elim_inr]at h0
 have e:=sI h0;subst e;exact QD (λ_ _ h=>h) Z (Qy Z .nil) (.cons (.one (.d _)) .nil);replace h1:=Ql c13 h1;refine Qp<|QU<|Q1<|Q0<|rM Z Z Z<|rR Z Z Z (Q5 Z Z Z)<|rA Z Z Z<|Q2 ?_
 have e:=sI h1;subst e;refine JK (Qr (s1+1)) (sL (Cd _) Z Z Z Z Z) ho1;replace h1:=Ql c10 h1;refine Y9<|QV<|QV ?_
 have e:=sI h1;subst e;have e_:_=_:=ho1;subst e_;exact Y3 () (sL (Cd _) Z Z Z Z Z) h0;intro o8 h0;refine Jo<|Q1<|Q3<|Q3 ?_
 refine QN (λ(v14:Bool)=>⟨[(1,.v (.one (dI a1))),(2,.v (.one (dI a2))),(3,.v (.one (dI a3))),(4,.v (.one (dI a4))),(5,.v (.one (dI a5))),(6,.v (.one (.ptr 0 0))),(66,.v (.one (dB v14)))],[(0,.cells 25 (cE a0))],[],1,107,[]⟩) (λ(v14:Bool)=>(Xa v14 a0 a4 rc a1 a2 a3 a5)=some r) ?_ ?_;refine Qn h0 (λw1_ h1 h0=>?_);refine Q0<|rR Z Z Z (Q4 JT Z)<|rR Z Z Z (Q6 Ji Z Z Z)<|rR Z Z Z (Q5 Z Z Z)<|rM Z Z Z ?_
 refine QB (d:=54) (c:=(a0.kind==0)) Z (λc15=>?_) (λc15=>?_);replace h1:=Qk c15 h1;refine rR Z Z Z (Q4 UD Z)<|rR Z Z Z (Q6 Ji Z Z Z)<|rR Z Z Z (Q5 Z Z Z)<|rM Z Z Z ?_
 refine QB (d:=58) (c:=(decide (a0.index<0))) Z (λc16=>?_) (λc16=>?_);replace h1:=Qk c16 h1;refine Q7 Z Z<|Q7 Z Z<|Q7 Z Z<|Q7 Z Z<|Q7 Z Z<|Q7 Z Z<|rR Z Z Z (Qe Z Z)<|rR Z Z Z (Qe Z Z)<|Q2 ?_
 have e:=sI h1;subst e;exact Qb true (sL (Cd _) Z Z Z Z Z) h0;replace h1:=Ql c16 h1;refine rR Z Z Z (Q4 UD Z)<|rR Z Z Z (Q6 Ji Z Z Z)<|rM Z Z Z<|rR Z Z Z (Q5 Z Z Z)<|rM Z Z Z<|rR Z Z Z (Q5 Z Z Z)<|rR Z Z Z (Qh Z Z)<|rR Z Z Z (Qe Z Z)<|Q2 ?_
 have e:=sI h1;subst e;exact Qb (decide (a2<=(Qr (a0.index-a1)))) (sL (Cd _) Z Z Z Z Z) h0;replace h1:=Ql c15 h1;refine Q7 Z Z<|Q7 Z Z<|Q7 Z Z<|Q7 Z Z<|Q7 Z Z<|Q7 Z Z<|Q7 Z Z<|Q7 Z Z<|Q7 Z Z<|Q7 Z Z<|Q7 Z Z<|rR Z Z Z (Qh Z Z)<|Q2 ?_
 have e:=sI h1;subst e;exact Qb false (sL (Cd _) Z Z Z Z Z) h0;intro v14 h0;unfold Xa at h0;refine Q1 ?_;refine Qi (b:=v14) Z (λc17=>?_) (λc17=>?_);replace h0:=Qk c17 h0;refine Q3<|Q0<|rA Z Z Z<|Q2<|Q1<|Qx ?_
 have e:=sI h0;subst e;exact QD (λ_ _ h=>h) Z (Qy Z .nil) (.cons (.one (.d _)) .nil);replace h0:=Ql c17 h0;refine Qp<|Q1<|Q3<|Q3 ?_
 refine QN (λ(v18:Bool)=>⟨[(1,.v (.one (dI a1))),(2,.v (.one (dI a2))),(3,.v (.one (dI a3))),(4,.v (.one (dI a4))),(5,.v (.one (dI a5))),(6,.v (.one (.ptr 0 0))),(80,.v (.one (dB v18)))],[(0,.cells 25 (cE a0))],[],1,107,[]⟩) (λ(v18:Bool)=>(cond v18 (some 23) (Option.bind (Qc (ZU a0 rc a1 a2 a3 a4 a5) Qf 0) (Sum.elim (λ(o20:Unit)=>some 0) (λo=>some o))))=some r) ?_ ?_;refine Qn h0 (λw1_ h1 h0=>?_);refine Q0<|rR Z Z Z (Q4 JT Z)<|rR Z Z Z (Q6 Ji Z Z Z)<|rR Z Z Z (Q5 Z Z Z)<|rM Z Z Z ?_
 refine QB (d:=70) (c:=(a0.kind==12)) Z (λc19=>?_) (λc19=>?_);replace h1:=Qk c19 h1;refine rR Z Z Z (Q4 UD Z)<|rR Z Z Z (Q6 Ji Z Z Z)<|rR Z Z Z (Q5 Z Z Z)<|rM Z Z Z ?_
 refine QB (d:=74) (c:=(decide (a0.index<0))) Z (λc20=>?_) (λc20=>?_);replace h1:=Qk c20 h1;refine Q7 Z Z<|Q7 Z Z<|Q7 Z Z<|Q7 Z Z<|rR Z Z Z (Qe Z Z)<|rR Z Z Z (Qe Z Z)<|Q2 ?_
 have e:=sI h1;subst e;exact Qb true (sL (Cd _) Z Z Z Z Z) h0;replace h1:=Ql c20 h1;refine rR Z Z Z (Q4 UD Z)<|rR Z Z Z (Q6 Ji Z Z Z)<|rM Z Z Z<|rR Z Z Z (Q5 Z Z Z)<|rR Z Z Z (Qh Z Z)<|rR Z Z Z (Qe Z Z)<|Q2 ?_
 have e:=sI h1;subst e;exact Qb (decide (a4<=a0.index)) (sL (Cd _) Z Z Z Z Z) h0;replace h1:=Ql c19 h1;refine Q7 Z Z<|Q7 Z Z<|Q7 Z Z<|Q7 Z Z<|Q7 Z Z<|Q7 Z Z<|Q7 Z Z<|Q7 Z Z<|Q7 Z Z<|rR Z Z Z (Qh Z Z)<|Q2 ?_
 have e:=sI h1;subst e;exact Qb false (sL (Cd _) Z Z Z Z Z) h0;intro v18 h0;refine Q1 ?_;refine Qi (b:=v18) Z (λc21=>?_) (λc21=>?_);replace h0:=Qk c21 h0;refine Q3<|Q0<|rA Z Z Z<|Q2<|Q1<|Qx ?_
 have e:=sI h0;subst e;exact QD (λ_ _ h=>h) Z (Qy Z .nil) (.cons (.one (.d _)) .nil);replace h0:=Ql c21 h0;refine Qp<|Q1<|Q3<|Q3<|Q0<|rA Z Z Z<|Q2<|Q1<|QC ?_
 refine Y5 2 (λ(o22:Unit)=>⟨[],[(0,.cells 25 (cE a0))],[],1,107,[]⟩) (λ(o22:Unit)=>(some 0)=some r) ?_ ?_;refine Qn h0 (λo23 hl1 h0=>?_);refine Y4 (ZU a0 rc a1 a2 a3 a4 a5) (λs1=>⟨[(1,.v (.one (dI a1))),(2,.v (.one (dI a2))),(3,.v (.one (dI a3))),(4,.v (.one (dI a4))),(5,.v (.one (dI a5))),(6,.v (.one (.ptr 0 0))),(15,.v (.one (dI s1)))],[(0,.cells 25 (cE a0))],[],1,107,[]⟩) 0 o23 (sL (Cd _) Z Z Z Z Z) hl1 (λs1 n1 oo1 h1 ho1=>?_);unfold ZU at h1;refine Q3<|Q3<|Q0<|rM Z Z Z<|rR Z Z Z (Q4 Yq Z)<|rR Z Z Z (Q6 KY Z Z Z)<|rR Z Z Z (Jg (α:=Tm) Kx Z (.d _))<|rR Z Z Z (Q5 Z Z Z)<|Q2<|Q1 ?_
 refine Qi (b:=(decide (s1<(a0.kids.length:Int)))) Z (λc24=>?_) (λc24=>?_);replace h1:=Qk c24 h1;refine Qp<|Q1<|Q3<|QC<|Q3 ?_
 refine Ye [] [] mixed (by kernel_rfl) (by kernel_rfl) (by kernel_rfl) ?_;refine RunA.rd Z Z Z (Q9 (Q4 Yq Z)) Z<|RunA.rd Z Z Z (Q9 (Q6 KY Z Z Z)) Z<|RunA.rd Z Z Z (Q9 (Jn Z)) Z ?_
 refine Qn h1 (λx25 hx25 h1=>?_);refine RunA.rd Z Z Z (Q9 (JH (α:=Tm) Kx Z (.d _) Z hx25)) Z<|RunA.rd Z Z Z (Q9 (JV (x25:Tm) KX Z)) Z<|RunA.rd Z Z Z (Q9 (Jn Z)) Z<|RunA.rd Z Z Z (Q9 (Q4 JT Z)) Z<|RunA.rd Z Z Z (Q9 (Q6 Ji Z Z Z)) Z<|RunA.rd Z Z Z (Q9 (Jn Z)) Z ?_
 refine Qn h1 (λx26 hx26 h1=>?_);refine RunA.rd Z Z Z (QO (Qxr a0.kind s1 x26 hx26) Z (.cons (.one (.d _)) (.cons (.one (.d _)) .nil))) Z<|RunA.rd Z Z Z (Q9 (Q5 Z Z Z)) Z<|RunA.rd Z Z Z (Q9 (Jn Z)) Z<|RunA.rd Z Z Z (Q9 (Jn Z)) Z<|RunA.rd Z Z Z (Q9 (Jn Z)) Z<|RunA.rd Z Z Z (Q9 (Jn Z)) Z ?_
 refine Qn h1 (λx27 hx27 h1=>?_);refine RunA.rd Z Z Z (QO (H x25 (Qr (a1+x26)) a2 a3 a4 a5 x27 hx27) Z (.cons (.agg (.cons (.d _) (.cons (.d _) (.cons (.d _) (.cons (.d _) (.cons (.d _) .nil)))))) (.cons (.one (.d _)) (.cons (.one (.d _)) (.cons (.one (.d _)) (.cons (.one (.d _)) (.cons (.one (.d _)) .nil))))))) Z<|RunA.rd Z Z Z (Q9 (UO Z)) Z ?_
 refine RunA.nil ⟨?ex,_,_,Z,?_⟩;case ex=>exact trivial
 refine X5 (st':=⟨[(1,.v (.one (dI a1))),(2,.v (.one (dI a2))),(3,.v (.one (dI a3))),(4,.v (.one (dI a4))),(5,.v (.one (dI a5))),(6,.v (.one (.ptr 0 0))),(15,.v (.one (dI s1))),(16,.v (.one (dI x27)))],[(0,.cells 25 (cE a0))],[],1,107,[]⟩) (sL (Cd _) Z Z Z Z Z)<|Q1<|Q3<|Q0<|rM Z Z Z<|rR Z Z Z (Q5 Z Z Z)<|Q2<|Q1 ?_
 refine Qi (b:=(x27 != 0)) Z (λc28=>?_) (λc28=>?_);replace h1:=Qk c28 h1;refine Q3<|Q0<|rM Z Z Z<|rA Z Z Z<|Q2<|Q1<|Qx ?_
 have e:=sI h1;subst e;have e_:_=_:=ho1;subst e_;try dsimp only[Sum.elim_inl,Sum.elim_inr]at h0
 have e:=sI h0;subst e;exact QD (λ_ _ h=>h) Z (Qy Z .nil) (.cons (.one (.d _)) .nil);replace h1:=Ql c28 h1;refine Qp<|QU<|Q1<|Q0<|rM Z Z Z<|rR Z Z Z (Q5 Z Z Z)<|rA Z Z Z<|Q2 ?_
 have e:=sI h1;subst e;refine JK (Qr (s1+1)) (sL (Cd _) Z Z Z Z Z) ho1;replace h1:=Ql c24 h1;refine Y9<|QV<|QV ?_
 have e:=sI h1;subst e;have e_:_=_:=ho1;subst e_;exact Y3 () (sL (Cd _) Z Z Z Z Z) h0;intro o22 h0;refine Jo<|Q1<|Q3<|Q0<|rA Z Z Z<|Q2<|Q1<|Qx ?_
 have e:=sI h0;subst e;exact QD (λ_ _ h=>h) Z (Qy Z .nil) (.cons (.one (.d _)) .nil)
theorem Qx3(n:Nat)(u:Tm×Int×Int×Int×Int×Int)(r:Int)(h0:Jm Q3z n u=some r):Fun prog 65 [.agg (cE u.1),.one (dI u.2.1),.one (dI u.2.2.1),.one (dI u.2.2.2.1),.one (dI u.2.2.2.2.1),.one (dI u.2.2.2.2.2)] (Qj [.one (dI r)]):=Yt (C:=λu r=>Fun prog 65 [.agg (cE u.1),.one (dI u.2.1),.one (dI u.2.2.1),.one (dI u.2.2.2.1),.one (dI u.2.2.2.2.1),.one (dI u.2.2.2.2.2)] (Qj [.one (dI r)])) (λrc H u r h=>Qx2 rc (λa0 a1 a2 a3 a4 a5 r h=>H (a0,a1,a2,a3,a4,a5) r h) u.1 u.2.1 u.2.2.1 u.2.2.2.1 u.2.2.2.2.1 u.2.2.2.2.2 r h) n u r h0
theorem J1y(a0:Tm)(a1:Int)(a2:Int)(a3:Int)(a4:Int)(a5:Int)(r:Int)(h0:Jam a0 a1 a2 a3 a4 a5=some r):Fun prog 65 [.agg (cE a0),.one (dI a1),.one (dI a2),.one (dI a3),.one (dI a4),.one (dI a5)] (Qj [.one (dI r)]):=Qx3 Qf (a0,a1,a2,a3,a4,a5) r h0
def Dn(a0:Tm)(rc:Tm->Option Int)(s1:Int×Int):Option (LO (Int×Int) Int):=
 cond (decide (s1.2<(a0.kids.length:Int))) (Option.bind (QP a0.kids s1.2) λ(x3:Tm)=>
 Option.bind (rc x3) λ(x4:Int)=>
 some (.next ((Qr (s1.1+x4)),(Qr (s1.2+1))))) (some (.done s1.1))
def Qsp(rc:Tm->Option Int)(a0:Tm):Option Int:=Option.bind (Qc (Dn a0 rc) Qf (1,0)) (λ(o1:Int)=>some o1)
def Qob(rc:Tm->Option Int)(u:Tm):Option Int:=Qsp rc u
def Jb4(a0:Tm):Option Int:=Jm Qob Qf a0
theorem Qx0(rc:Tm->Option Int)(H:∀(a0:Tm)(r:Int),rc a0=some r->Fun prog 66 [.agg (cE a0)] (Qj [.one (dI r)]))(a0:Tm)(r:Int)(h0:Qsp rc a0=some r):Fun prog 66 [.agg (cE a0)] (Qj [.one (dI r)]):=by
 unfold Qsp at h0;refine Jb 9 21 func66 Z J94 Z (lb Z) (λS w=>?_);simp only[J4];refine Q3<|Q0<|Qm Z Z (lb Z) (Ju Z)<|rA Z Z Z<|Q2<|Q1<|Q3<|Q0<|rA Z Z Z<|Q2<|Q1<|Q3<|Q3<|Q0 ?_
 refine rA Z Z Z<|Q2<|Q1<|QC ?_
 refine Y5 0 (λ(o1:Int)=>⟨[(3,.v (.one (dI o1)))],[(0,.cells 25 (cE a0))],[],1,21,[]⟩) (λ(o1:Int)=>(some o1)=some r) ?_ ?_;refine Qn h0 (λo2 hl1 h0=>?_);refine Y4 (Dn a0 rc) (λs1=>⟨[(1,.v (.one (.ptr 0 0))),(3,.v (.one (dI s1.1))),(4,.v (.one (dI s1.2)))],[(0,.cells 25 (cE a0))],[],1,21,[]⟩) (1,0) o2 (sL (Cd _) Z Z Z Z Z) hl1 (λs1 n1 oo1 h1 ho1=>?_);unfold Dn at h1;refine Q3<|Q3<|Q0<|rM Z Z Z<|rR Z Z Z (Q4 Yq Z)<|rR Z Z Z (Q6 KY Z Z Z)<|rR Z Z Z (Jg (α:=Tm) Kx Z (.d _))<|rR Z Z Z (Q5 Z Z Z)<|Q2<|Q1 ?_
 refine Qi (b:=(decide (s1.2<(a0.kids.length:Int)))) Z (λc3=>?_) (λc3=>?_);replace h1:=Qk c3 h1;refine Qp<|Q1<|Q3<|QC<|Q0<|rM Z Z Z<|rR Z Z Z (Q4 Yq Z)<|rR Z Z Z (Q6 KY Z Z Z)<|rM Z Z Z ?_
 refine Qn h1 (λx4 hx4 h1=>?_);refine rR Z Z Z (JH (α:=Tm) Kx Z (.d _) Z hx4)<|rR Z Z Z (JV (x4:Tm) KX Z) ?_
 refine Qn h1 (λx5 hx5 h1=>?_);refine Qm Z Z (lb Z) (QO (H x4 x5 hx5) Z (.cons (.agg (.cons (.d _) (.cons (.d _) (.cons (.d _) (.cons (.d _) (.cons (.d _) .nil)))))) .nil))<|rR Z Z Z (Q5 Z Z Z)<|rA Z Z Z<|Q2<|QU<|Q1<|Q0<|rM Z Z Z<|rR Z Z Z (Q5 Z Z Z)<|rA Z Z Z<|Q2 ?_
 have e:=sI h1;subst e;refine JK ((Qr (s1.1+x5)),(Qr (s1.2+1))) (sL (Cd _) Z Z Z Z Z) ho1;replace h1:=Ql c3 h1;refine Y9<|QV<|QV ?_
 have e:=sI h1;subst e;have e_:_=_:=ho1;subst e_;exact Y3 s1.1 (sL (Cd _) Z Z Z Z Z) h0;intro o1 h0;refine Jo<|Q1<|Q3<|Q0<|rM Z Z Z<|rA Z Z Z<|Q2<|Q1<|Qx ?_
 have e:=sI h0;subst e;exact QD (λ_ _ h=>h) Z (Qy Z .nil) (.cons (.one (.d _)) .nil)
theorem Qx1(n:Nat)(u:Tm)(r:Int)(h0:Jm Qob n u=some r):Fun prog 66 [.agg (cE u)] (Qj [.one (dI r)]):=Yt (C:=λu r=>Fun prog 66 [.agg (cE u)] (Qj [.one (dI r)])) (λrc H u r h=>Qx0 rc (λa0 r h=>H a0 r h) u r h) n u r h0
theorem J1x(a0:Tm)(r:Int)(h0:Jb4 a0=some r):Fun prog 66 [.agg (cE a0)] (Qj [.one (dI r)]):=Qx1 Qf a0 r h0
def Q1k(a0:Tm)(rc:Tm->Option Int)(s1:Int×Int):Option (LO (Int×Int) Int):=
 cond (decide (s1.2<(a0.kids.length:Int))) (Option.bind (QP a0.kids s1.2) λ(x3:Tm)=>
 Option.bind (rc x3) λ(x4:Int)=>
 some (.next ((max s1.1 x4),(Qr (s1.2+1))))) (some (.done s1.1))
def Qsn(rc:Tm->Option Int)(a0:Tm):Option Int:=Option.bind (Qc (Q1k a0 rc) Qf (0,0)) (λ(o1:Int)=>some (Qr (o1+1)))
def Qso(rc:Tm->Option Int)(u:Tm):Option Int:=Qsn rc u
def m67(a0:Tm):Option Int:=Jm Qso Qf a0
theorem Qwy(rc:Tm->Option Int)(H:∀(a0:Tm)(r:Int),rc a0=some r->Fun prog 67 [.agg (cE a0)] (Qj [.one (dI r)]))(a0:Tm)(r:Int)(h0:Qsn rc a0=some r):Fun prog 67 [.agg (cE a0)] (Qj [.one (dI r)]):=by
 unfold Qsn at h0;refine Jb 9 22 func67 Z J93 Z (lb Z) (λS w=>?_);simp only[J4];refine Q3<|Q0<|Qm Z Z (lb Z) (Ju Z)<|rA Z Z Z<|Q2<|Q1<|Q3<|Q0<|rA Z Z Z<|Q2<|Q1<|Q3<|Q3<|Q0 ?_
 refine rA Z Z Z<|Q2<|Q1<|QC ?_
 refine Y5 0 (λ(o1:Int)=>⟨[(3,.v (.one (dI o1)))],[(0,.cells 25 (cE a0))],[],1,22,[]⟩) (λ(o1:Int)=>(some (Qr (o1+1)))=some r) ?_ ?_;refine Qn h0 (λo2 hl1 h0=>?_);refine Y4 (Q1k a0 rc) (λs1=>⟨[(1,.v (.one (.ptr 0 0))),(3,.v (.one (dI s1.1))),(4,.v (.one (dI s1.2)))],[(0,.cells 25 (cE a0))],[],1,22,[]⟩) (0,0) o2 (sL (Cd _) Z Z Z Z Z) hl1 (λs1 n1 oo1 h1 ho1=>?_);unfold Q1k at h1;refine Q3<|Q3<|Q0<|rM Z Z Z<|rR Z Z Z (Q4 Yq Z)<|rR Z Z Z (Q6 KY Z Z Z)<|rR Z Z Z (Jg (α:=Tm) Kx Z (.d _))<|rR Z Z Z (Q5 Z Z Z)<|Q2<|Q1 ?_
 refine Qi (b:=(decide (s1.2<(a0.kids.length:Int)))) Z (λc3=>?_) (λc3=>?_);replace h1:=Qk c3 h1;refine Qp<|Q1<|Q3<|QC<|Q0<|rM Z Z Z<|rR Z Z Z (Q4 Yq Z)<|rR Z Z Z (Q6 KY Z Z Z)<|rM Z Z Z ?_
 refine Qn h1 (λx4 hx4 h1=>?_);refine rR Z Z Z (JH (α:=Tm) Kx Z (.d _) Z hx4)<|rR Z Z Z (JV (x4:Tm) KX Z) ?_
 refine Qn h1 (λx5 hx5 h1=>?_);refine Qm Z Z (lb Z) (QO (H x4 x5 hx5) Z (.cons (.agg (.cons (.d _) (.cons (.d _) (.cons (.d _) (.cons (.d _) (.cons (.d _) .nil)))))) .nil))<|rR Z Z Z (X6 Z Z)<|rA Z Z Z<|Q2<|QU<|Q1<|Q0<|rM Z Z Z<|rR Z Z Z (Q5 Z Z Z)<|rA Z Z Z<|Q2 ?_
 have e:=sI h1;subst e;refine JK ((max s1.1 x5),(Qr (s1.2+1))) (sL (Cd _) Z Z Z Z Z) ho1;replace h1:=Ql c3 h1;refine Y9<|QV<|QV ?_
 have e:=sI h1;subst e;have e_:_=_:=ho1;subst e_;exact Y3 s1.1 (sL (Cd _) Z Z Z Z Z) h0;intro o1 h0;refine Jo<|Q1<|Q3<|Q0<|rM Z Z Z<|rR Z Z Z (Q5 Z Z Z)<|rA Z Z Z<|Q2<|Q1<|Qx ?_
 have e:=sI h0;subst e;exact QD (λ_ _ h=>h) Z (Qy Z .nil) (.cons (.one (.d _)) .nil)
theorem Qwz(n:Nat)(u:Tm)(r:Int)(h0:Jm Qso n u=some r):Fun prog 67 [.agg (cE u)] (Qj [.one (dI r)]):=Yt (C:=λu r=>Fun prog 67 [.agg (cE u)] (Qj [.one (dI r)])) (λrc H u r h=>Qwy rc (λa0 r h=>H a0 r h) u r h) n u r h0
theorem J1w(a0:Tm)(r:Int)(h0:m67 a0=some r):Fun prog 67 [.agg (cE a0)] (Qj [.one (dI r)]):=Qwz Qf a0 r h0
def Qx8(a0:Tm)(a1:Int)(a2:Int)(a3:Int)(a4:Int):Option Int:=
 Option.bind (Jam a0 0 (max a1 0) a2 a3 a4) λ(x1:Int)=>
 cond (x1 != 0) (some x1) (Option.bind (Jb4 a0) λ(x3:Int)=>
 cond (decide (4096<x3)) (some 5) (Option.bind (m67 a0) λ(x5:Int)=>
 cond (decide (200<x5)) (some 7) (some 0)))
theorem J28(a0:Tm)(a1:Int)(a2:Int)(a3:Int)(a4:Int)(r:Int)(h0:Qx8 a0 a1 a2 a3 a4=some r):Fun prog 31 [.agg (cE a0),.one (dI a1),.one (dI a2),.one (dI a3),.one (dI a4)] (Qj [.one (dI r)]):=by
 unfold Qx8 at h0;refine Jb 9 28 func31 Z J9k Z (lb Z) (λS w=>?_);simp only[J4];refine Q3<|Q0<|Qm Z Z (lb Z) (Ju Z)<|rA Z Z Z<|Q2<|Q1<|Q3<|Q3<|Q0<|rR Z Z Z (Yf (a0:Tm) KX Z Z)<|rM Z Z Z<|rR Z Z Z (X6 Z Z)<|rM Z Z Z<|rM Z Z Z ?_
 refine rM Z Z Z ?_;refine Qn h0 (λx1 hx1 h0=>?_);refine Qm Z Z (lb Z) (QO (J1y a0 0 (max a1 0) a2 a3 a4 x1 hx1) Z (.cons (.agg (.cons (.d _) (.cons (.d _) (.cons (.d _) (.cons (.d _) (.cons (.d _) .nil)))))) (.cons (.one (.d _)) (.cons (.one (.d _)) (.cons (.one (.d _)) (.cons (.one (.d _)) (.cons (.one (.d _)) .nil)))))))<|rA Z Z Z<|Q2<|Q1<|Q3<|Q0<|rM Z Z Z<|rR Z Z Z (Q5 Z Z Z)<|Q2<|Q1 ?_
 refine Qi (b:=(x1 != 0)) Z (λc2=>?_) (λc2=>?_);replace h0:=Qk c2 h0;refine Q3<|Q0<|rM Z Z Z<|rA Z Z Z<|Q2<|Q1<|Qx ?_
 have e:=sI h0;subst e;exact QD (λ_ _ h=>h) Z (Qy Z .nil) (.cons (.one (.d _)) .nil);replace h0:=Ql c2 h0;refine Qp<|Q1<|Q3<|Q3<|Q0<|rR Z Z Z (Yf (a0:Tm) KX Z Z) ?_
 refine Qn h0 (λx3 hx3 h0=>?_);refine Qm Z Z (lb Z) (QO (J1x a0 x3 hx3) Z (.cons (.agg (.cons (.d _) (.cons (.d _) (.cons (.d _) (.cons (.d _) (.cons (.d _) .nil)))))) .nil))<|rR Z Z Z (Q5 Z Z Z)<|Q2<|Q1 ?_
 refine Qi (b:=(decide (4096<x3))) Z (λc4=>?_) (λc4=>?_);replace h0:=Qk c4 h0;refine Q3<|Q0<|rA Z Z Z<|Q2<|Q1<|Qx ?_
 have e:=sI h0;subst e;exact QD (λ_ _ h=>h) Z (Qy Z .nil) (.cons (.one (.d _)) .nil);replace h0:=Ql c4 h0;refine Qp<|Q1<|Q3<|Q3<|Q0<|rR Z Z Z (Yf (a0:Tm) KX Z Z) ?_
 refine Qn h0 (λx5 hx5 h0=>?_);refine Qm Z Z (lb Z) (QO (J1w a0 x5 hx5) Z (.cons (.agg (.cons (.d _) (.cons (.d _) (.cons (.d _) (.cons (.d _) (.cons (.d _) .nil)))))) .nil))<|rR Z Z Z (Q5 Z Z Z)<|Q2<|Q1 ?_
 refine Qi (b:=(decide (200<x5))) Z (λc6=>?_) (λc6=>?_);replace h0:=Qk c6 h0;refine Q3<|Q0<|rA Z Z Z<|Q2<|Q1<|Qx ?_
 have e:=sI h0;subst e;exact QD (λ_ _ h=>h) Z (Qy Z .nil) (.cons (.one (.d _)) .nil);replace h0:=Ql c6 h0;refine Qp<|Q1<|Q3<|Q0<|rA Z Z Z<|Q2<|Q1<|Qx ?_
 have e:=sI h0;subst e;exact QD (λ_ _ h=>h) Z (Qy Z .nil) (.cons (.one (.d _)) .nil)
def k98:KF UV:=⟨[.str],[.bool],λv=>J0b v⟩
theorem J2w:Jv DV W0 prog 98 k98:=⟨rfl,λv r h=>X7 (Eq.mp (show _=Fun prog 98 (QG DV k98.args v) (Qj (QG DV k98.res r))from by kernel_rfl) (Qse v r h))⟩
def k118:KF UV:=⟨[.stc .t82],[.bool],λv=>Qf0 v⟩
theorem Qyr:Jv DV W0 prog 118 k118:=⟨rfl,λv r h=>X7 (Eq.mp (show _=Fun prog 118 (QG DV k118.args v) (Qj (QG DV k118.res r))from by kernel_rfl) (Qm3 v r h))⟩
def k31:KF UV:=⟨[.stc .t25,.int .i64,.int .i64,.int .i64,.int .i64],[.int .i64],λv=>Qx8 (v.1) (v.2.1) (v.2.2.1) (v.2.2.2.1) (v.2.2.2.2)⟩
theorem J3f:Jv DV W0 prog 31 k31:=⟨rfl,λv r h=>X7 (Eq.mp (show _=Fun prog 31 (QG DV k31.args v) (Qj (QG DV k31.res r))from by kernel_rfl) (J28 (v.1) (v.2.1) (v.2.2.1) (v.2.2.2.1) (v.2.2.2.2) r h))⟩
end
section
open Go.RowKit Go.Shelf
theorem Jh{n:Int}(h1:-9223372036854775808<=n)(h2:n<=9223372036854775807):Qr n=n:=IntWalk.i64_in n ⟨h1,h2⟩
theorem Zh{k:Nat}(h:k<=1000000000):Qr ((k:Int)+1)=((k+1:Nat):Int):=by rw[Jh (by omega) (by omega)];rfl
theorem Zx{α:Type}(a:List α)(x:α)(b:List α):QP (a++x::b) (a.length:Int)=some x:=by show(a++x::b)[a.length]?=some x;simp
theorem Xb{α:Type}(a:List α)(x:α)(b:List α):decide ((a.length:Int)<((a++x::b).length:Int))=true:=by rw[CZ,C8,C1];omega
theorem J1n{α:Type}{l a b:List α}{x:α}(h:l=a++x::b):a.length<l.length:=by rw[h,C8,C1];omega
theorem Z0(a b:Int):(a==b)=decide (a=b):=by by_cases h:a=b;rw[C4 h];exact P3.2 h;rw[C3 h,Bool.eq_false_iff];exact λh'=>h (P3.1 h')
theorem Jp{α:Type}(a:List α):decide ((a.length:Int)<(a.length:Int))=false:=by simp
theorem Xx{α:Type}{a b:Nat}{x:Option α}(h:a<=b):Qa (Nat.ble a b) x=x:=by rw[C7 h];rfl
theorem Yv{α σ τ β:Type}{step:τ->Option (LO τ β)}(l:List α)(mk:Int->σ->τ)(I:List α->σ->Prop)(Q:β->Prop)(hlen:l.length<=900000000)(hin:∀(a:List α)(x:α)(b:List α)(s:σ),l=a++x::b->I a s -> (∃r,step (mk (a.length:Int) s)=some (.done r)/\Q r)\/∃s',step (mk (a.length:Int) s)=some (.next (mk (Qr ((a.length:Int)+1)) s'))/\I (a++[x]) s')(hout:∀s,I l s->∃r,step (mk (l.length:Int) s)=some (.done r)/\Q r)(s0:σ)(h0:I [] s0):∃r,Qc step Qf (mk 0 s0)=some r/\Q r:=by
 have key:∀(b a:List α)(s:σ)(n:Nat),l=a++b->b.length<n->I a s->∃r,Qc step n (mk (a.length:Int) s)=some r/\Q r:=by intro b;induction b with|nil=>(intro a s n hl hn hI;rw[CC]at hl;subst hl;obtain⟨r,h1,h2⟩:=hout s hI;cases n with|zero=>omega|succ n=>exact⟨r,by simp only[Qc,h1],h2⟩)|cons x b ih=>intro a s n hl hn hI;cases n with|zero=>omega|succ n=>rcases hin a x b s hl hI with⟨r,h1,h2⟩|⟨s',h1,h2⟩;exact⟨r,by simp only[Qc,h1],h2⟩;(have hal:a.length<=900000000:=by rw[hl,C8]at hlen;omega);rw[Zh (by omega)]at h1;obtain⟨r,h3,h4⟩:=ih (a++[x]) s' n (by rw[hl,CB];rfl) (by simp only[C1]at hn;omega) h2;refine⟨r,?_,h4⟩;simp only[Qc,h1];rw[C8]at h3;exact h3
 exact key l [] s0 Qf rfl (by unfold Qf;omega) h0
theorem Ut{α:Type}(f:α->Nat){x:α}:∀{l:List α},x∈l->f x<=(l.map f).sum|y::l,h=>by rw[CJ,Ps];rcases Cs.1 h with rfl|h;omega;have:=Ut f h;omega
def Q11(l:Lvl):Nat:=1+(l.vs.map λ_=>1).sum
def ir(n:Int):Nat:=if -9223372036854775808<=n/\n<=9223372036854775807 then 0 else 10000000000
theorem J80{n:Int}(h:ir n<=1000000000):-9223372036854775808<=n/\n<=9223372036854775807:=by unfold ir at h;split at h;assumption;omega
def Tm.size:Tm->Nat|.mk _ i n ls ks=>1+ir i+n.length+(ls.map Q11).sum+(ks.attach.map λk=>Tm.size k.1).sum
termination_by t=>SizeOf.sizeOf t
decreasing_by
 have:=Po k.2
 simp only[Tm.mk.sizeOf_spec];omega
theorem Tm.size_eq(t:Tm):t.size=1+ir t.index+t.name.length+(t.levels.map Q11).sum+(t.kids.map Tm.size).sum:=by cases t;rw[Tm.size,Sv];rfl
theorem JL{t k:Tm}(h:k∈t.kids):k.size<t.size:=by have:=Ut Tm.size h;rw[t.size_eq];omega
theorem Qvd{C:Tm->Prop}(h:∀t:Tm,(∀k∈t.kids,C k)->C t)(t:Tm):C t:=by
 have:∀n (t:Tm),t.size<=n->C t:=by intro n;induction n with|zero=>intro t ht;rw[t.size_eq]at ht;omega|succ n ih=>exact λt ht=>h t λk hk=>ih k (by have:=JL hk;omega)
 exact this _ t (Cl _)
theorem Gu(t:Tm):t.kids.length<t.size:=by
 rw[t.size_eq];have:∀l:List Tm,l.length<=(l.map Tm.size).sum:=by intro l;induction l with|nil=>exact Cl _|cons x l ih=>rw[CJ,Ps,C1];have:=x.size_eq;omega
 have:=this t.kids;omega
theorem Qnu{α:Type}(f:α->Nat)(a:List α)(x:α)(b:List α):((a++x::b).map f).sum=(a.map f).sum+f x+(b.map f).sum:=by simp;omega
theorem J9z(a b:Bs):(a==b)=decide (a=b):=by by_cases h:a=b;rw[C4 h];exact P3.2 h;rw[C3 h,Bool.eq_false_iff];exact λh'=>h (P3.1 h')
theorem Wj{α:Type}(g:α->Nat)(hg:∀x,1<=g x):∀l:List α,l.length<=(l.map g).sum|[]=>Cl _|x::l=>by rw[CJ,Ps,C1];have:=hg x;have:=Wj g hg l;omega
theorem Qt8{α σ τ β:Type}{step:τ->Option (LO τ β)}(l:List α)(mk:Int->σ->τ)(hlen:l.length<=900000000)(hin:∀(a:List α)(x:α)(b:List α)(s:σ),l=a++x::b->(∃r,step (mk (a.length:Int) s)=some (.done r))\/∃s',step (mk (a.length:Int) s)=some (.next (mk (Qr ((a.length:Int)+1)) s')))(hout:∀s,∃r,step (mk (l.length:Int) s)=some (.done r))(s0:σ):∃r,Qc step Qf (mk 0 s0)=some r:=by obtain⟨r,h,-⟩:=Yv l mk (λ_ _=>True) (λ_=>True) hlen (λa x b s e _=>(hin a x b s e).elim (λ⟨r,h⟩=>.inl ⟨r,h,trivial⟩) (λ⟨s',h⟩=>.inr ⟨s',h,trivial⟩)) (λs _=>let⟨r,h⟩:=hout s;⟨r,h,trivial⟩) s0 trivial;exact⟨r,h⟩
theorem Q6x:∀(n:Nat)(t:Tm),t.size<=n->t.size<=900000000->∃r,Jm Qso n t=some r|0,t,h,_=>by rw[t.size_eq]at h;omega|n+1,t,h,h2=>by show ∃r,Qsn (Jm Qso n) t=some r;unfold Qsn;have hl:=Gu t;obtain⟨r,e⟩:=Qt8 (step:=Q1k t (Jm Qso n)) t.kids (λi (s:Int)=>(s,i)) (by omega) (λa x b s e=>by have hx:=JL (t:=t) (k:=x) (by rw[e];simp);obtain⟨r,hr⟩:=Q6x n x (by omega) (by omega);refine .inr ⟨max s r,?_⟩;unfold Q1k;dsimp only;rw[e,Xb,Zx];simp only[C5,C0];rw[hr];rfl) (λs=>⟨s,by unfold Q1k;dsimp only;rw[Jp];rfl⟩) 0;rw[e];exact⟨_,rfl⟩
end
section
open Go.RowKit Go.Shelf
def Qvm{α σ β:Type}(f:σ->α->σ⊕β)(e:σ->β):List α->σ->β|[],s=>e s|x::l,s=>Sum.elim (λs'=>Qvm f e l s') (λr=>r) (f s x)
theorem Qm9{α σ τ β:Type}{step:τ->Option (LO τ β)}(l:List α)(mk:Int->σ->τ)(f:σ->α->σ⊕β)(e:σ->β)(I:List α->σ->Prop)(hlen:l.length<=900000000)(hin:∀(a:List α)(x:α)(b:List α)(s:σ),l=a++x::b->I a s->step (mk (a.length:Int) s)=some (Sum.elim (λs'=>.next (mk (Qr ((a.length:Int)+1)) s')) .done (f s x))/\∀s',f s x=.inl s'->I (a++[x]) s')(hout:∀s,I l s->step (mk (l.length:Int) s)=some (.done (e s)))(s0:σ)(h0:I [] s0):Qc step Qf (mk 0 s0)=some (Qvm f e l s0):=by
 obtain⟨r,h1,h2⟩:=Yv (step:=step) l mk (λa s=>I a s/\∀b,l=a++b->Qvm f e l s0=Qvm f e b s) (λr=>r=Qvm f e l s0) hlen (λa x b s hl hI=>by
   obtain⟨h3,h4⟩:=hin a x b s hl hI.1
   have h5:=hI.2 (x::b) hl
   cases hf:f s x with
   |inl s'=>
    refine .inr ⟨s',by rw[h3,hf];rfl,h4 s' hf,λb' hb=>?_⟩
    have:b'=b:=by
     rw[hl,CB]at hb
     exact(PE (List.append_cancel_left hb)).2.symm
    rw[this,h5,Qvm,hf];rfl
   |inr r=>exact .inl ⟨r,by rw[h3,hf];rfl,by rw[h5,Qvm,hf];rfl⟩)
  (λs hI=>⟨e s,hout s hI.1,by rw[hI.2 [] (by simp)];rfl⟩) s0 ⟨h0,λb hb=>by rw[Pj]at hb;rw[hb]⟩
 rw[h1,h2]
theorem Qf2{α β:Type}{step:Int->Option (LO Int β)}(l:List α)(bad:List α->α->Prop)(r0 r1:β)(hlen:l.length<=900000000)(hin:∀(a:List α)(x:α)(b:List α),l=a++x::b->(bad a x->step (a.length:Int)=some (.done r0))/\(¬bad a x->step (a.length:Int)=some (.next (Qr ((a.length:Int)+1)))))(hout:step (l.length:Int)=some (.done r1)):∃r,Qc step Qf 0=some r/\((r=r1/\∀a x b,l=a++x::b->¬bad a x)\/(r=r0/\∃a x b,l=a++x::b/\bad a x)):=by
 refine Yv (step:=step) l (λi (_:Unit)=>i) (λa _=>∀a' x b',a=a'++x::b'->¬bad a' x) (λr=>(r=r1/\∀a x b,l=a++x::b->¬bad a x)\/(r=r0/\∃a x b,l=a++x::b/\bad a x)) hlen (λa x b s hl hI=>?_) (λs hI=>⟨r1,hout,.inl ⟨rfl,hI⟩⟩) () (λa' x b' h=>by cases a' <;> cases h);by_cases hb:bad a x;exact .inl ⟨r0,(hin a x b hl).1 hb,.inr ⟨rfl,a,x,b,hl,hb⟩⟩;refine .inr ⟨(),(hin a x b hl).2 hb,λa' y b' h=>?_⟩;rcases List.append_eq_append_iff.1 h with⟨c,h1,h2⟩|⟨c,h1,h2⟩;cases c with|nil=>rw[Pj]at h2;cases h2;rw[CC]at h1;rw[h1];exact hb|cons z c=>exfalso;have:=congrArg List.length h2;simp at this
 cases c with|nil=>rw[Pj]at h2;cases h2;rw[CC]at h1;rw[<-h1];exact hb|cons z c=>rw[PN]at h2;cases h2;exact hI a' y c h1
def Dr(c:Int):Bool:=(decide (97<=c)&&decide (c<=122))||(decide (65<=c)&&decide (c<=90))||(c==95)
theorem Qlu(c:Int):Qif ⟨c⟩=some (Dr c):=by unfold Qif Dr;cases decide (97<=c) <;> cases decide (c<=122) <;> cases decide (65<=c) <;> cases decide (c<=90) <;> rfl
theorem Qxj(c:Int):Qt4 ⟨c⟩=some (Dr c):=Qlu c
def J0a(st:Bool)(b:UInt8):Bool⊕(Bool⊕Bool):=if Dr (b.toNat:Int)=true then .inl false else if st=true then .inr (.inr false)else if(b.toNat:Int)=46 then .inl true else if(b.toNat:Int)<48\/57<(b.toNat:Int)then(if(b.toNat:Int)=39 then .inl st else .inr (.inr false))else .inl st
def J6i(s:Bs):Bool⊕Bool:=Qvm J0a .inl s true
theorem Qik(s:Bs)(h:s.length<=900000000):Qc (Wg s) Qf (true,0)=some (J6i s):=by refine Qm9 (step:=Wg s) s (λi (st:Bool)=>(st,i)) J0a .inl (λ_ _=>True) h (λa x b st e _=>⟨?_,λ_ _=>trivial⟩) (λst _=>by unfold Wg;dsimp only;rw[Jp];rfl) true trivial;unfold Wg J0a;dsimp only;rw[e,Xb,Zx];simp only[C5,C0];rw[Qlu,C0];cases Dr (x.toNat:Int)with|true=>rfl|false=>cases st with|true=>rfl|false=>simp only[C6,Z0,P4,if_false];by_cases h1:(x.toNat:Int)=46;rw[C4 h1,Cf h1];rfl;rw[C3 h1,Ca h1,C6];by_cases h2:(x.toNat:Int)<48;rw[C4 h2,Cf (Or.inl h2)];by_cases h4:(x.toNat:Int)=39;rw[Cf h4,h4];rfl;rw[Ca h4];have:((x.toNat:Int)!=39)=true:=SK.2 h4;simp only[C5,C0,this];rfl;rw[C3 h2];by_cases h3:57<(x.toNat:Int);rw[C4 h3,Cf (Or.inr h3)];by_cases h4:(x.toNat:Int)=39;omega;rw[Ca h4];have:((x.toNat:Int)!=39)=true:=SK.2 h4;simp only[C5,C6,C0,this];rfl;rw[C3 h3,Ca (by omega)];rfl
theorem Qo9(s:Bs)(h:s.length<=900000000):Qc (WW s) Qf (true,0)=some (J6i s):=by refine Qm9 (step:=WW s) s (λi (st:Bool)=>(st,i)) J0a .inl (λ_ _=>True) h (λa x b st e _=>⟨?_,λ_ _=>trivial⟩) (λst _=>by unfold WW;dsimp only;rw[Jp];rfl) true trivial;unfold WW J0a;dsimp only;rw[e,Xb,Zx];simp only[C5,C0];rw[Qxj,C0];cases st with|true=>cases Dr (x.toNat:Int) <;> rfl|false=>simp only[C6,Z0,P4,if_false];by_cases h1:(x.toNat:Int)=46;rw[C4 h1,Cf h1,Ca (by rw[h1];decide)];rfl;rw[C3 h1,Ca h1,C6];cases Dr (x.toNat:Int)with|true=>rfl|false=>rw[C0,Ca (by decide)];simp only[CY,C5];by_cases h4:(x.toNat:Int)=39;(have:((x.toNat:Int)!=39)=false:=by rw[h4];rfl);simp only[C6,C0,this,Cf h4];split <;> rfl;have:((x.toNat:Int)!=39)=true:=SK.2 h4;simp only[C5,this,Ca h4];by_cases h2:(x.toNat:Int)<48;rw[C4 h2,Cf (Or.inl h2)];rfl;rw[C3 h2];by_cases h3:57<(x.toNat:Int);rw[C4 h3,Cf (Or.inr h3)];rfl;rw[C3 h3,Ca (by omega)];rfl
theorem Qer:∀(s:Bs)(st b:Bool),Qvm J0a .inl s st=.inr b->b=false
 |[],st,b,h=>by cases h
 |x::s,st,b,h=>by
  rw[Qvm]at h;cases hf:J0a st x with
  |inl st'=>rw[hf]at h;exact Qer s st' b h
  |inr r=>
   rw[hf]at h;unfold J0a at hf;have:r=.inr false:=by
    revert hf
    repeat' split
    all_goals intro hf;cases hf;try rfl
   rw[this]at h;cases h;rfl
def YR(s:Bs):Bool:=Sum.elim (λst=>!st&&decide ((s.length:Int)<=64)) (λb=>b) (J6i s)
theorem Qbu(s:Bs)(h:s.length<=900000000):Q1p s=some (YR s):=by unfold Q1p YR;rw[Qik s h,C0];cases J6i s with|inl st=>cases st <;> rfl|inr b=>rfl
theorem Qsf(s:Bs)(h:s.length<=900000000):J0b s=some (YR s):=by
 unfold J0b YR;rw[J9z,Qo9 s h];by_cases h0:s=[];subst h0;rfl;rw[C3 h0,C6];by_cases h1:64<(s.length:Int);rw[C4 h1,C3 (by omega)];cases hn:J6i s with|inl st=>cases st <;> rfl|inr b=>have:=Qer s true b hn;subst this;rfl
 rw[C3 h1,C4 (by omega)];cases hn:J6i s with|inl st=>cases st <;> rfl|inr b=>rfl
end
section
open Go.RowKit Go.Shelf
theorem Qtq{α:Type}{l:List α}{i:Int}(h0:0<=i)(h1:i<(l.length:Int)):∃x,QP l i=some x:=by cases i with|ofNat k=>exact⟨l[k]'(by have:(Int.ofNat k)<(l.length:Int):=h1;simp at this;omega),Cm _⟩|negSucc k=>omega
def Q63(l:Lvl)(a:List LV)(x:LV):Prop:=x.1 < -65536\/7<x.1\/x.2<0\/100<x.2\/(0<a.length/\∃y,QP l.vs (Qr ((a.length:Int)-1))=some y/\x.1<=y.1)
theorem Q8t{l:List LV}{a:List LV}{x:LV}{b:List LV}(h:l.length<=900000000)(e:l=a++x::b)(ha:0<a.length):∃y,QP l (Qr ((a.length:Int)-1))=some y:=by have:=J1n e;rw[Jh (by omega) (by omega)];exact Qtq (by omega) (by omega)
theorem Qxb(l:List LV)(u:Lvl)(h:l.length<=900000000):∃b,Qia l u=some b/\(b=true↔∃x∈l,u.c<=x.2):=by
 have h1:∃r,Qc (Gb l u) Qf 0=some r/\((r=.inl ())/\(∀x∈l,¬u.c<=x.2)\/∃k:Nat,r=.inr (k:Int)/\∃x∈l,u.c<=x.2):=by refine Yv (step:=Gb l u) l (λi (_:Unit)=>i) (λa _=>∀x∈a,¬u.c<=x.2) (λr=>((r=.inl ())/\(∀x∈l,¬u.c<=x.2)\/∃k:Nat,r=.inr (k:Int)/\∃x∈l,u.c<=x.2)) h (λa x b s e hI=>?_) (λs hI=>⟨.inl (),by unfold Gb;rw[Jp];rfl,.inl ⟨rfl,hI⟩⟩) () (λx hx=>by cases hx);by_cases hx:u.c<=x.2;refine .inl ⟨.inr (a.length:Int),?_,.inr ⟨a.length,rfl,x,by rw[e];simp,hx⟩⟩;unfold Gb;rw[e,Xb,Zx];show cond (decide (u.c<=x.2)) _ _=_;rw[C4 hx];rfl;refine .inr ⟨(),?_,λy hy=>?_⟩;unfold Gb;rw[e,Xb,Zx];show cond (decide (u.c<=x.2)) _ _=_;rw[C3 hx];rfl;rcases CR.1 hy with hy|hy;exact hI y hy;rw[CI.1 hy];exact hx
 obtain⟨r,h2,h3⟩:=h1;unfold Qia Qsx;rw[h2];rcases h3 with⟨rfl,h4⟩|⟨k,rfl,h4⟩;exact⟨false,rfl,⟨λh=>(by cases h),λ⟨x,hx,h⟩=>(h4 x hx h).elim⟩⟩;refine⟨true,?_,⟨λ_=>h4,λ_=>rfl⟩⟩;show some (decide ((0:Int)<=(k:Int)))=_;rw[C4 (by omega)]
def Q62(l:Lvl):Prop:=0<=l.c/\l.c<=100/\(0<l.c->∀x∈l.vs,¬l.c<=x.2)/\∀a x b,l.vs=a++x::b->¬Q63 l a x
theorem Qbr(l:Lvl)(h:l.vs.length<=900000000):∃b,Q84 l=some b/\(b=true↔Q62 l):=by
 have hloop:=Qf2 (β:=Unit⊕Bool) (step:=Wb l) l.vs (Q63 l) (.inr false) (.inl ()) h (λa x b e=>by have hprev:=λha=>Q8t (x:=x) (b:=b) h e ha;(have:Wb l (a.length:Int)=Option.bind (cond (decide (x.1<(-65536))) (some true) (cond (decide (7<x.1)) (some true) (cond (decide (x.2<0)) (some true) (cond (decide (100<x.2)) (some true) (cond (decide (0<(a.length:Int))) (Option.bind (QP l.vs (Qr ((a.length:Int)-1))) λ(x12:LV)=>some (decide (x.1<=x12.1))) (some false)))))) (λ(v6:Bool)=>cond v6 (some (.done (.inr false))) (some (.next (Qr ((a.length:Int)+1))))):=by unfold Wb;have e2:l.vs=a++x::b:=e;rw[show decide ((a.length:Int)<(l.vs.length:Int))=true from by rw[e2];exact Xb a x b,show QP l.vs (a.length:Int)=some x from by rw[e2];exact Zx a x b];rfl);rw[this];unfold Q63;by_cases c1:x.1 < -65536;rw[C4 c1];exact⟨λ_=>rfl,λh=>(h (.inl c1)).elim⟩;rw[C3 c1,C6];by_cases c2:7<x.1;rw[C4 c2];exact⟨λ_=>rfl,λh=>(h (.inr (.inl c2))).elim⟩;rw[C3 c2,C6];by_cases c3:x.2<0;rw[C4 c3];exact⟨λ_=>rfl,λh=>(h (.inr (.inr (.inl c3)))).elim⟩;rw[C3 c3,C6];by_cases c4:100<x.2;rw[C4 c4];exact⟨λ_=>rfl,λh=>(h (.inr (.inr (.inr (.inl c4))))).elim⟩;rw[C3 c4,C6];by_cases c5:0<a.length;rw[C4 (show 0<(a.length:Int) by omega),C5];obtain⟨y,hy⟩:=hprev c5;rw[hy,C0];by_cases c6:x.1<=y.1;rw[C4 c6];exact⟨λ_=>rfl,λh=>(h (.inr (.inr (.inr (.inr ⟨c5,y,rfl,c6⟩))))).elim⟩;rw[C3 c6];refine⟨λh=>?_,λ_=>rfl⟩;rcases h with h|h|h|h|⟨-,z,hz,h⟩;exact(c1 h).elim;exact(c2 h).elim;exact(c3 h).elim;exact(c4 h).elim;cases hz;exact(c6 h).elim;rw[C3 (show ¬0<(a.length:Int) by omega)];refine⟨λh=>?_,λ_=>rfl⟩;rcases h with h|h|h|h|⟨h,-⟩;exact(c1 h).elim;exact(c2 h).elim;exact(c3 h).elim;exact(c4 h).elim;exact(c5 h).elim) (by unfold Wb;rw[Jp];rfl);obtain⟨r,h1,h2⟩:=hloop;obtain⟨b,h3,h4⟩:=Qxb l.vs l h;unfold Q84;rw[h3,h1];by_cases c1:l.c<0;rw[C4 c1];exact⟨false,rfl,⟨λh=>(Cp h).elim,λh=>by have:=h.1;omega⟩⟩;rw[C3 c1,C6];by_cases c2:100<l.c;rw[C4 c2];exact⟨false,rfl,⟨λh=>(Cp h).elim,λh=>by have:=h.2.1;omega⟩⟩;rw[C3 c2,C6];have key:(∃x,(0<l.c/\(∃x∈l.vs,l.c<=x.2)->x=false)/\(¬(0<l.c/\∃x∈l.vs,l.c<=x.2)->Option.bind (some r) (Sum.elim (λ(o3:Unit)=>some true) (λo=>some o))=some x)/\cond (decide (0<l.c)) (Option.bind (Option.bind (some b) λ(x7:Bool)=>some x7) (λ(y5:Bool)=>some y5)) (some false)=some (decide (0<l.c/\∃x∈l.vs,l.c<=x.2))/\(x=true->r=.inl ())/\(¬(0<l.c/\∃x∈l.vs,l.c<=x.2)->r=.inl ()->x=true)):=by by_cases c3:0<l.c;rw[C4 c3];(cases b with|true=>have h5:=h4.1 rfl;exact⟨false,λ_=>rfl,λh=>(h ⟨c3,h5⟩).elim,by rw[C4 ⟨c3,h5⟩];rfl,λh=>(by cases h),λh=>(h ⟨c3,h5⟩).elim⟩|false=>(have h5:¬ ∃x∈l.vs,l.c<=x.2:=λh=>by have:=h4.2 h;cases this);rcases h2 with⟨rfl,-⟩|⟨rfl,-⟩;exact⟨true,λh=>(h5 h.2).elim,λ_=>rfl,by rw[C3 λh=>h5 h.2];rfl,λ_=>rfl,λ_ _=>rfl⟩;exact⟨false,λh=>(h5 h.2).elim,λ_=>rfl,by rw[C3 λh=>h5 h.2];rfl,λh=>(by cases h),λ_ h=>by cases h⟩);rw[C3 c3];rcases h2 with⟨rfl,-⟩|⟨rfl,-⟩;exact⟨true,λh=>(c3 h.1).elim,λ_=>rfl,by rw[C3 λh=>c3 h.1];rfl,λ_=>rfl,λ_ _=>rfl⟩;exact⟨false,λh=>(c3 h.1).elim,λ_=>rfl,by rw[C3 λh=>c3 h.1];rfl,λh=>(by cases h),λ_ h=>by cases h⟩
 obtain⟨x,k1,k2,k3,k4,k5⟩:=key;rw[k3,C0];by_cases c4:0<l.c/\∃x∈l.vs,l.c<=x.2;rw[C4 c4];refine⟨false,Z,λh=>(Cp h).elim,λh=>?_⟩;obtain⟨y,hy,hy2⟩:=c4.2;exact(h.2.2.1 c4.1 y hy hy2).elim;rw[C3 c4];refine⟨x,k2 c4,λh=>?_,λh=>?_⟩;have h6:=k4 h;rcases h2 with⟨-,h7⟩|⟨h7,-⟩;exact⟨by omega,by omega,λh8 y hy h9=>c4 ⟨h8,y,hy,h9⟩,h7⟩;rw[h7]at h6;cases h6;refine k5 c4 ?_;rcases h2 with⟨h7,-⟩|⟨-,a,y,c,h7,h8⟩;exact h7;exact(h.2.2.2 a y c h7 h8).elim
theorem Qm4(l:Lvl)(h:l.vs.length<=900000000):∃b,Qf0 l=some b/\(b=true↔Q62 l):=by
 have hloop:=Qf2 (β:=Unit⊕Bool) (step:=GR l) l.vs (λa x=>Q63 l a x\/(0<l.c/\l.c<=x.2)) (.inr false) (.inl ()) h (λa x b e=>by
  have hprev:=λha=>Q8t (x:=x) (b:=b) h e ha;have:GR l (a.length:Int)=Option.bind (cond (decide (x.1<(-65536))) (some true) (cond (decide (8<=x.1)) (some true) (cond (decide (x.2<0)) (some true) (some (decide (100<x.2)))))) (λ(v6:Bool)=>Q4l v6 (a.length:Int) l x):=by unfold GR;have e2:l.vs=a++x::b:=e;rw[show decide ((a.length:Int)<(l.vs.length:Int))=true from by rw[e2];exact Xb a x b,show QP l.vs (a.length:Int)=some x from by rw[e2];exact Zx a x b];rfl
  rw[this];unfold Q63;by_cases c1:x.1 < -65536;rw[C4 c1];exact⟨λ_=>rfl,λh=>(h (.inl (.inl c1))).elim⟩;rw[C3 c1,C6];by_cases c2:7<x.1;rw[C4 (show 8<=x.1 by omega)];exact⟨λ_=>rfl,λh=>(h (.inl (.inr (.inl c2)))).elim⟩;rw[C3 (show ¬8<=x.1 by omega),C6];by_cases c3:x.2<0;rw[C4 c3];exact⟨λ_=>rfl,λh=>(h (.inl (.inr (.inr (.inl c3))))).elim⟩;rw[C3 c3,C6];by_cases c4:100<x.2;rw[C4 c4];exact⟨λ_=>rfl,λh=>(h (.inl (.inr (.inr (.inr (.inl c4)))))).elim⟩;rw[C3 c4,C0];show(_->Option.bind (cond (decide (0<(a.length:Int))) (Option.bind (QP l.vs (Qr ((a.length:Int)-1))) λ(b0_:LV)=>some (decide (x.1<=b0_.1))) (some false)) _=_)/\(_->Option.bind (cond (decide (0<(a.length:Int))) (Option.bind (QP l.vs (Qr ((a.length:Int)-1))) λ(b0_:LV)=>some (decide (x.1<=b0_.1))) (some false)) _=_);have hlast:∀(hno:¬(0<a.length/\∃y,QP l.vs (Qr ((a.length:Int)-1))=some y/\x.1<=y.1)),((((x.1 < -65536\/7<x.1\/x.2<0\/100<x.2\/(0<a.length/\∃y,QP l.vs (Qr ((a.length:Int)-1))=some y/\x.1<=y.1)))\/(0<l.c/\l.c<=x.2))->Option.bind (cond (decide (0<l.c)) (some (decide (l.c<=x.2))) (some false)) (λ(b2_:Bool)=>(cond b2_ (some (.done (.inr false))) (some (.next (Qr ((a.length:Int)+1)))):Option (LO Int (Unit⊕Bool))))=some (.done (.inr false:Unit⊕Bool)))/\(¬(((x.1 < -65536\/7<x.1\/x.2<0\/100<x.2\/(0<a.length/\∃y,QP l.vs (Qr ((a.length:Int)-1))=some y/\x.1<=y.1)))\/(0<l.c/\l.c<=x.2))->Option.bind (cond (decide (0<l.c)) (some (decide (l.c<=x.2))) (some false)) (λ(b2_:Bool)=>(cond b2_ (some (.done (.inr false))) (some (.next (Qr ((a.length:Int)+1)))):Option (LO Int (Unit⊕Bool))))=some (.next (β:=Unit⊕Bool) (Qr ((a.length:Int)+1)))):=by intro hno;by_cases c7:0<l.c;rw[C4 c7];by_cases c8:l.c<=x.2;rw[C4 c8];exact⟨λ_=>rfl,λh=>(h (.inr ⟨c7,c8⟩)).elim⟩;rw[C3 c8];refine⟨λh=>?_,λ_=>rfl⟩;rcases h with(h|h|h|h|h)|⟨-,h⟩;exact(c1 h).elim;exact(c2 h).elim;exact(c3 h).elim;exact(c4 h).elim;exact(hno h).elim;exact(c8 h).elim;rw[C3 c7];refine⟨λh=>?_,λ_=>rfl⟩;rcases h with(h|h|h|h|h)|⟨h,-⟩;exact(c1 h).elim;exact(c2 h).elim;exact(c3 h).elim;exact(c4 h).elim;exact(hno h).elim;exact(c7 h).elim
  by_cases c5:0<a.length;rw[C4 (show 0<(a.length:Int) by omega),C5];obtain⟨y,hy⟩:=hprev c5;rw[hy,C0];rw[hy]at hlast;by_cases c6:x.1<=y.1;rw[C4 c6];exact⟨λ_=>rfl,λh=>(h (.inl (.inr (.inr (.inr (.inr ⟨c5,y,rfl,c6⟩)))))).elim⟩;rw[C3 c6];exact hlast λ⟨_,z,hz,h⟩=>by cases hz;exact c6 h
  rw[C3 (show ¬0<(a.length:Int) by omega)];exact hlast λh=>c5 h.1) (by unfold GR;rw[Jp];rfl)
 obtain⟨r,h1,h2⟩:=hloop;unfold Qf0;rw[h1];by_cases c1:l.c<0;rw[C4 c1];exact⟨false,rfl,⟨λh=>(Cp h).elim,λh=>by have:=h.1;omega⟩⟩;rw[C3 c1,C6];by_cases c2:100<l.c;rw[C4 c2];exact⟨false,rfl,⟨λh=>(Cp h).elim,λh=>by have:=h.2.1;omega⟩⟩;rw[C3 c2,C0,C6];rcases h2 with⟨rfl,h3⟩|⟨rfl,a,x,b,e,h3⟩;refine⟨true,rfl,λ_=>⟨by omega,by omega,λh4 y hy h5=>?_,λa x b e h4=>h3 a x b e (.inl h4)⟩,λ_=>rfl⟩;obtain⟨a,b,e⟩:=List.append_of_mem hy;exact h3 a y b e (.inr ⟨h4,h5⟩);refine⟨false,rfl,λh=>(Cp h).elim,λh4=>?_⟩;rcases h3 with h3|⟨h3,h5⟩;exact(h4.2.2.2 a x b e h3).elim;exact(h4.2.2.1 h3 x (by rw[e];simp) h5).elim
theorem Qxz(l:Lvl)(h:l.vs.length<=900000000):∃b,Q84 l=some b/\Qf0 l=some b/\(b=true->Q62 l):=by obtain⟨b,h1,h2⟩:=Qbr l h;obtain⟨c,h3,h4⟩:=Qm4 l h;have:b=c:=Bool.eq_iff_iff.2 (h2.trans h4.symm);exact⟨b,h1,by rw[this];exact h3,h2.1⟩
end
section
open Go.RowKit Go.Shelf
theorem J0e{α σ1 τ1 β1 σ2 τ2 β2:Type}{step1:τ1->Option (LO τ1 β1)}{step2:τ2->Option (LO τ2 β2)}(l:List α)(mk1:Int->σ1->τ1)(mk2:Int->σ2->τ2)(I:List α->σ1->σ2->Prop)(Q:β1->β2->Prop)(hlen:l.length<=900000000)(hin:∀(a:List α)(x:α)(b:List α)(s1:σ1)(s2:σ2),l=a++x::b->I a s1 s2 -> (∃r1 r2,step1 (mk1 (a.length:Int) s1)=some (.done r1)/\step2 (mk2 (a.length:Int) s2)=some (.done r2)/\Q r1 r2) \/ ∃s1' s2',step1 (mk1 (a.length:Int) s1)=some (.next (mk1 (Qr ((a.length:Int)+1)) s1'))/\step2 (mk2 (a.length:Int) s2)=some (.next (mk2 (Qr ((a.length:Int)+1)) s2'))/\I (a++[x]) s1' s2')(hout:∀s1 s2,I l s1 s2->∃r1 r2,step1 (mk1 (l.length:Int) s1)=some (.done r1)/\step2 (mk2 (l.length:Int) s2)=some (.done r2)/\Q r1 r2)(s1:σ1)(s2:σ2)(h0:I [] s1 s2):∃r1 r2,Qc step1 Qf (mk1 0 s1)=some r1/\Qc step2 Qf (mk2 0 s2)=some r2/\Q r1 r2:=by
 have key:∀(b a:List α)(s1:σ1)(s2:σ2)(n:Nat),l=a++b->b.length<n->I a s1 s2->∃r1 r2,Qc step1 n (mk1 (a.length:Int) s1)=some r1/\Qc step2 n (mk2 (a.length:Int) s2)=some r2/\Q r1 r2:=by intro b;induction b with|nil=>(intro a s1 s2 n hl hn hI;rw[CC]at hl;subst hl;obtain⟨r1,r2,h1,h2,h3⟩:=hout s1 s2 hI;cases n with|zero=>omega|succ n=>exact⟨r1,r2,by simp only[Qc,h1],by simp only[Qc,h2],h3⟩)|cons x b ih=>intro a s1 s2 n hl hn hI;cases n with|zero=>omega|succ n=>rcases hin a x b s1 s2 hl hI with⟨r1,r2,h1,h2,h3⟩|⟨s1',s2',h1,h2,h3⟩;exact⟨r1,r2,by simp only[Qc,h1],by simp only[Qc,h2],h3⟩;(have hal:a.length<=900000000:=by rw[hl,C8]at hlen;omega);rw[Zh (by omega)]at h1 h2;obtain⟨r1,r2,h4,h5,h6⟩:=ih (a++[x]) s1' s2' n (by rw[hl,CB];rfl) (by simp only[C1]at hn;omega) h3;rw[C8]at h4 h5;exact⟨r1,r2,by simp only[Qc,h1];exact h4,by simp only[Qc,h2];exact h5,h6⟩
 exact key l [] s1 s2 Qf rfl (by unfold Qf;omega) h0
theorem Dp{α β1 β2:Type}{step1:Int->Option (LO Int β1)}{step2:Int->Option (LO Int β2)}(l:List α)(z1:β1)(z2:β2)(g1:Int->β1)(g2:Int->β2)(hlen:l.length<=900000000)(hin:∀(a:List α)(x:α)(b:List α),l=a++x::b->∃e:Int,(e=0->step1 (a.length:Int)=some (.next (Qr ((a.length:Int)+1)))/\step2 (a.length:Int)=some (.next (Qr ((a.length:Int)+1))))/\(e≠0->step1 (a.length:Int)=some (.done (g1 e))/\step2 (a.length:Int)=some (.done (g2 e))))(hout1:step1 (l.length:Int)=some (.done z1))(hout2:step2 (l.length:Int)=some (.done z2)):∃e:Int,(e=0->Qc step1 Qf 0=some z1/\Qc step2 Qf 0=some z2)/\(e≠0->Qc step1 Qf 0=some (g1 e)/\Qc step2 Qf 0=some (g2 e)):=by
 obtain⟨r1,r2,h1,h2,e,h3,h4⟩:=J0e (step1:=step1) (step2:=step2) l (λi (_:Unit)=>i) (λi (_:Unit)=>i) (λ_ _ _=>True) (λr1 r2=>∃e:Int,(e=0->r1=z1/\r2=z2)/\(e≠0->r1=g1 e/\r2=g2 e)) hlen (λa x b _ _ hl _=>by
   obtain⟨e,h1,h2⟩:=hin a x b hl
   by_cases he:e=0
   ·exact .inr ⟨(),(),(h1 he).1,(h1 he).2,trivial⟩
   ·exact .inl ⟨_,_,(h2 he).1,(h2 he).2,e,λh=>(he h).elim,λ_=>⟨rfl,rfl⟩⟩)
  (λ_ _ _=>⟨z1,z2,hout1,hout2,0,λ_=>⟨rfl,rfl⟩,λh=>(h rfl).elim⟩) () () trivial
 refine⟨e,λhe=>?_,λhe=>?_⟩;rw[h1,h2,(h3 he).1,(h3 he).2];exact⟨rfl,rfl⟩;rw[h1,h2,(h4 he).1,(h4 he).2];exact⟨rfl,rfl⟩
theorem GD{α:Type}{l a b:List α}{x:α}(e:l=a++x::b):decide ((a.length:Int)<(l.length:Int))=true/\QP l (a.length:Int)=some x:=by rw[e];exact⟨Xb a x b,Zx a x b⟩
def Qmx(ix nm ln A N L K:Bool):Option Bool:=Option.bind (cond ix (cond nm (cond ln (some K) (cond L (some K) (some false))) (cond N (cond ln (some K) (cond L (some K) (some false))) (some false))) (cond A (cond nm (cond ln (some K) (cond L (some K) (some false))) (cond N (cond ln (some K) (cond L (some K) (some false))) (some false))) (some false))) (λb=>some b)
theorem Qfi(ix nm ln A N L K:Bool):Qmx ix nm ln A N L K=some ((ix||A)&&(nm||N)&&(ln||L)&&K):=by cases ix <;> cases nm <;> cases ln <;> cases A <;> cases N <;> cases L <;> cases K <;> rfl
def J0h(k0 k12 k3 k2 A N L0 L1 K:Bool):Option Bool:=cond (!K) (some false) (Option.bind (cond (!A) (cond (!k0) (some (!k12)) (some false)) (some false)) (λv3=>cond v3 (some false) (Option.bind (cond (!N) (some (!k3)) (some false)) (λb0_=>cond b0_ (some false) (cond k2 (some L1) (Option.bind (cond L0 (some true) (some k3)) (λb1_=>some b1_)))))))
theorem Qu0(k0 k12 k3 k2 A N L0 L1 K:Bool):J0h k0 k12 k3 k2 A N L0 L1 K=some (((k0||k12)||A)&&(k3||N)&&(cond k2 L1 (L0||k3))&&K):=by cases k0 <;> cases k12 <;> cases k3 <;> cases k2 <;> cases A <;> cases N <;> cases L0 <;> cases L1 <;> cases K <;> rfl
theorem Qmw(t:Tm):∃b,UR t=some b/\Qf1 t=some b/\(b=true->0<=t.kind/\t.kind<13/\(t.kind≠3->(t.levels.length:Int)<=1)):=by
 by_cases h1:t.kind<0;exact⟨false,by unfold UR;rw[C4 h1];rfl,by unfold Qf1;rw[C4 h1];rfl,λh=>by cases h⟩;by_cases h2:13<=t.kind;exact⟨false,by unfold UR;rw[C3 h1,C4 h2];rfl,by unfold Qf1;rw[C3 h1,C4 h2];rfl,λh=>by cases h⟩;have hk:t.kind=0\/t.kind=1\/t.kind=2\/t.kind=3\/t.kind=4\/t.kind=5\/t.kind=6\/t.kind=7\/t.kind=8\/t.kind=9\/t.kind=10\/t.kind=11\/t.kind=12:=by omega
 have fin:∀(ix nm ln:Bool)(lv kd:Int)(k0 k12 k3 k2:Bool),UR t=Qmx ix nm ln (t.index==0) (t.name==[]) ((t.levels.length:Int)==lv) ((t.kids.length:Int)==kd) -> Qf1 t=J0h k0 k12 k3 k2 (t.index==0) (t.name==[]) ((t.levels.length:Int)==0) ((t.levels.length:Int)==1) ((t.kids.length:Int)==kd) -> ix=(k0||k12)->nm=k3->(ln||(t.levels.length:Int)==lv)=(cond k2 ((t.levels.length:Int)==1) ((t.levels.length:Int)==0||k3))->(k3=false->ln=false/\lv<=1)->(t.kind≠3->k3=false) -> ∃b,UR t=some b/\Qf1 t=some b/\(b=true->0<=t.kind/\t.kind<13/\(t.kind≠3->(t.levels.length:Int)<=1)):=by intro ix nm ln lv kd k0 k12 k3 k2 e1 e2 e3 e4 e5 e6 e7;rw[Qfi]at e1;rw[Qu0,<-e5,<-e3,<-e4]at e2;refine⟨_,e1,e2,λh=>⟨by omega,by omega,λh3=>?_⟩⟩;obtain⟨h4,h5⟩:=e6 (e7 h3);rw[h4,Bool.false_or,CD,CD]at h;have h6:=eq_of_beq h.1.2;omega
 obtain⟨k,i,n,ls,ks⟩:=t;dsimp only[Tm.kind,Tm.index,Tm.name,Tm.levels,Tm.kids]at *;rcases hk with hk|hk|hk|hk|hk|hk|hk|hk|hk|hk|hk|hk|hk <;> subst hk;exact fin true false false 0 0 true false false false rfl rfl rfl rfl (by cases((ls.length:Int)==0) <;> rfl) (λ_=>⟨rfl,by omega⟩) (λ_=>rfl);exact fin false false false 0 0 false false false false rfl rfl rfl rfl (by cases((ls.length:Int)==0) <;> rfl) (λ_=>⟨rfl,by omega⟩) (λ_=>rfl);exact fin false false false 1 0 false false false true rfl rfl rfl rfl rfl (λ_=>⟨rfl,by omega⟩) (λ_=>rfl);exact fin false true true (-1) 0 false false true false rfl rfl rfl rfl (by cases((ls.length:Int)==0) <;> rfl) (λh=>by cases h) (λh=>(h rfl).elim);exact fin false false false 0 2 false false false false rfl rfl rfl rfl (by cases((ls.length:Int)==0) <;> rfl) (λ_=>⟨rfl,by omega⟩) (λ_=>rfl);exact fin false false false 0 2 false false false false rfl rfl rfl rfl (by cases((ls.length:Int)==0) <;> rfl) (λ_=>⟨rfl,by omega⟩) (λ_=>rfl);exact fin false false false 0 2 false false false false rfl rfl rfl rfl (by cases((ls.length:Int)==0) <;> rfl) (λ_=>⟨rfl,by omega⟩) (λ_=>rfl);exact fin false false false 0 2 false false false false rfl rfl rfl rfl (by cases((ls.length:Int)==0) <;> rfl) (λ_=>⟨rfl,by omega⟩) (λ_=>rfl);exact fin false false false 0 3 false false false false rfl rfl rfl rfl (by cases((ls.length:Int)==0) <;> rfl) (λ_=>⟨rfl,by omega⟩) (λ_=>rfl);exact fin false false false 0 1 false false false false rfl rfl rfl rfl (by cases((ls.length:Int)==0) <;> rfl) (λ_=>⟨rfl,by omega⟩) (λ_=>rfl);exact fin false false false 0 1 false false false false rfl rfl rfl rfl (by cases((ls.length:Int)==0) <;> rfl) (λ_=>⟨rfl,by omega⟩) (λ_=>rfl);exact fin false false false 0 3 false false false false rfl rfl rfl rfl (by cases((ls.length:Int)==0) <;> rfl) (λ_=>⟨rfl,by omega⟩) (λ_=>rfl);exact fin true false false 0 0 false true false false rfl rfl rfl rfl (by cases((ls.length:Int)==0) <;> rfl) (λ_=>⟨rfl,by omega⟩) (λ_=>rfl)
def YZ(V P:Int):Scp:=⟨max V 0,max P 0,1000000,1000000⟩
theorem Qm8(V P:Int)(x:Lvl)(h:x.vs.length<=900000000):∃e,Q1o (YZ V P) x=some e/\Qij x P 1000000=some e:=by
 obtain⟨b,h1,h2,-⟩:=Qxz x h;unfold Q1o Qij;rw[h1,h2];cases b with
 |false=>exact⟨3,rfl,rfl⟩
 |true=>
  show ∃e,Option.bind (Qc (Wf x (YZ V P)) Qf 0) _=_/\Option.bind (Qc (Wc x P) Qf 0) _=_;obtain⟨e,h3,h4⟩:=Dp (β1:=Unit⊕Int) (β2:=Unit⊕Int) (step1:=Wf x (YZ V P)) (step2:=Wc x P) x.vs (.inl ()) (.inl ()) .inr .inr h (λa y b e=>by
   obtain⟨q1,q2⟩:=GD e;unfold Wf Wc;rw[q1,q2];show ∃e:Int,(_->cond (decide (max P 0<=y.1)) _ _=_/\Option.bind (cond (decide (0<=y.1)) (some (decide (P<=y.1))) (some false)) _=_)/\(_->cond (decide (max P 0<=y.1)) _ _=_/\Option.bind (cond (decide (0<=y.1)) (some (decide (P<=y.1))) (some false)) _=_);by_cases c:max P 0<=y.1;rw[C4 c,C4 (show 0<=y.1 by omega),C4 (show P<=y.1 by omega)];exact⟨15,λh=>by omega,λ_=>⟨rfl,rfl⟩⟩;rw[C3 c];refine⟨0,λ_=>⟨Z,?_⟩,λh=>(h Z).elim⟩;by_cases c2:0<=y.1;rw[C4 c2,C3 (show ¬P<=y.1 by omega)];rfl;rw[C3 c2];rfl)
   (by unfold Wf;rw[Jp];rfl) (by unfold Wc;rw[Jp];rfl)
  by_cases he:e=0;obtain⟨e1,e2⟩:=h3 he;rw[e1,e2];show ∃e,Option.bind (Qc (We x (YZ V P)) Qf 0) _=_/\Option.bind (Qc (GS x 1000000) Qf 0) _=_;obtain⟨e',h5,h6⟩:=Dp (β1:=Unit⊕Int) (β2:=Unit⊕Int) (step1:=We x (YZ V P)) (step2:=GS x 1000000) x.vs (.inl ()) (.inl ()) .inr .inr h (λa y b e=>by
   obtain⟨q1,q2⟩:=GD e;unfold We GS;rw[q1,q2];show ∃e:Int,(_->Option.bind (cond (decide (y.1<0)) (some (decide (1000000<=(Qr ((-1)-y.1))))) (some false)) _=_/\Option.bind (cond (decide (y.1<0)) (some (decide (1000000<=(Qr ((-1)-y.1))))) (some false)) _=_)/\(_->Option.bind (cond (decide (y.1<0)) (some (decide (1000000<=(Qr ((-1)-y.1))))) (some false)) _=_/\Option.bind (cond (decide (y.1<0)) (some (decide (1000000<=(Qr ((-1)-y.1))))) (some false)) _=_);cases decide (y.1<0)with
   |false=>exact⟨0,λ_=>⟨rfl,rfl⟩,λh=>(h rfl).elim⟩
   |true=>
    cases decide (1000000<=(Qr ((-1)-y.1)))with
    |false=>exact⟨0,λ_=>⟨rfl,rfl⟩,λh=>(h rfl).elim⟩
    |true=>exact⟨23,λh=>by omega,λ_=>⟨rfl,rfl⟩⟩)
   (by unfold We;rw[Jp];rfl) (by unfold GS;rw[Jp];rfl)
  by_cases he':e'=0;obtain⟨e1,e2⟩:=h5 he';rw[e1,e2];exact⟨0,rfl,rfl⟩;obtain⟨e1,e2⟩:=h6 he';rw[e1,e2];exact⟨e',rfl,rfl⟩;obtain⟨e1,e2⟩:=h4 he;rw[e1,e2];exact⟨e,rfl,rfl⟩
theorem Wi(t:Tm):(t.levels.map Q11).sum<t.size:=by rw[t.size_eq];omega
theorem Qbx(l:Lvl):l.vs.length<Q11 l:=by have:=Wj (λ_:LV=>1) (λ_=>Cl 1) l.vs;unfold Q11;omega
theorem Q89{e:Int}(h:e≠0):(e != 0)=true:=SK.2 h
theorem Qjn{α:Type}{e:Int}(he:e≠0)(x:Int->Option α)(y:Option α):Option.bind (some e) (λv=>cond (v != 0) (x v) y)=x e:=by rw[C0,Q89 he];rfl
def Q9p(rc:Tm×Int×Int×Int×Int×Int->Option Int)(t:Tm)(dep V P:Int):Option Int:=Option.bind (Qc (ZU t rc dep V P 1000000 1000000) Qf 0) (Sum.elim (λ(b1_:Unit)=>some 0) (λo=>some o))
theorem Qo6(t:Tm)(dep V P:Int)(h:t.size<=900000000):∃e,Option.bind (Qc (Z2 t (YZ V P)) Qf 0) (Sum.elim (λ(o7:Unit)=>Kg t (YZ V P) dep) (λo=>some o))=some e /\ ∀rc,(Option.bind (Qc (W6 t P 1000000) Qf 0) (Sum.elim (λ(b0_:Unit)=>Option.bind (cond (t.kind==0) (cond (decide (t.index<0)) (some true) (some (decide (max V 0<=(Qr (t.index-dep)))))) (some false)) (λ(b1_:Bool)=>Xa b1_ t 1000000 rc dep (max V 0) P 1000000)) (λo=>some o)))=if e=0 then Q9p rc t dep (max V 0) P else some e:=by
 have hl:=Wi t;have hl2:=Wj Q11 (λl=>by unfold Q11;omega) t.levels;obtain⟨e,h3,h4⟩:=Dp (β1:=Unit⊕Int) (β2:=Unit⊕Int) (step1:=Z2 t (YZ V P)) (step2:=W6 t P 1000000) t.levels (.inl ()) (.inl ()) .inr .inr (by omega) (λa y b e=>by
  obtain⟨q1,q2⟩:=GD e;have hy:y.vs.length<=900000000:=by have:=Qbx y;have:=Ut Q11 (show y∈t.levels from by rw[e];simp);omega
  obtain⟨e,h1,h2⟩:=Qm8 V P y hy;unfold Z2 W6;rw[q1,q2];show ∃e:Int,(_->Option.bind (Q1o (YZ V P) y) _=_/\Option.bind (Qij y P 1000000) _=_)/\(_->Option.bind (Q1o (YZ V P) y) _=_/\Option.bind (Qij y P 1000000) _=_);rw[h1,h2];refine⟨e,λhe=>?_,λhe=>?_⟩;subst he;exact⟨rfl,rfl⟩;exact⟨Qjn he _ _,Qjn he _ _⟩)
  (by unfold Z2;rw[Jp];rfl) (by unfold W6;rw[Jp];rfl)
 by_cases he:e=0;obtain⟨e1,e2⟩:=h3 he;rw[e1,e2];show ∃e,Kg t (YZ V P) dep=some e/\∀rc,Option.bind (cond (t.kind==0) (cond (decide (t.index<0)) (some true) (some (decide (max V 0<=(Qr (t.index-dep)))))) (some false)) (λ(b1_:Bool)=>Xa b1_ t 1000000 rc dep (max V 0) P 1000000)=if e=0 then Q9p rc t dep (max V 0) P else some e
 unfold Kg;show ∃e,Option.bind (cond (t.kind==0) (cond (decide (t.index<0)) (some true) (some (decide (max V 0<=(Qr (t.index-dep)))))) (some false)) _=some e/\_;obtain⟨v,hv⟩:∃v,cond (t.kind==0) (cond (decide (t.index<0)) (some true) (some (decide (max V 0<=(Qr (t.index-dep)))))) (some false)=some v:=by cases(t.kind==0) <;> cases decide (t.index<0) <;> exact⟨_,rfl⟩
 rw[hv];cases v with|true=>exact⟨24,rfl,λrc=>rfl⟩|false=>show ∃e,Option.bind (cond (t.kind==12) (cond (decide (t.index<0)) (some true) (some (decide ((1000000:Int)<=t.index)))) (some false)) _=some e/\∀rc,Xa false t 1000000 rc dep (max V 0) P 1000000=_;unfold Xa;simp only[C6];cases t.kind==12 with|false=>exact⟨0,rfl,λrc=>rfl⟩|true=>cases decide (t.index<0)with|true=>exact⟨23,rfl,λrc=>rfl⟩|false=>cases decide ((1000000:Int)<=t.index)with|true=>exact⟨23,rfl,λrc=>rfl⟩|false=>exact⟨0,rfl,λrc=>rfl⟩
 obtain⟨e1,e2⟩:=h4 he;rw[e1,e2];exact⟨e,rfl,λrc=>by rw[Ca he];rfl⟩
theorem Qlg(t:Tm)(dep V P:Int)(h:t.size<=900000000):∃e,Qqe (YZ V P) t dep=some e/\(∀rc,Qhy rc t dep (max V 0) P 1000000 1000000=if e=0 then Q9p rc t dep (max V 0) P else some e)/\(e=0->0<=t.kind/\t.kind<13):=by obtain⟨b,h1,h2,h3⟩:=Qmw t;unfold Qqe Qhy;rw[h1,h2];cases b with|false=>exact⟨3,rfl,λrc=>rfl,λh=>by omega⟩|true=>obtain⟨k1,k2,k3⟩:=h3 rfl;obtain⟨e,h4,h5⟩:=Qo6 t dep V P h;(have hn:t.name.length<=900000000:=by have:=t.size_eq;omega);show ∃e,cond (t.kind==3) (Option.bind (Q1p t.name) _) _=some e/\(∀rc,Option.bind (cond (t.kind==3) (Option.bind (J0b t.name) _) _) _=_)/\_;rw[Qbu _ hn,Qsf _ hn,Z0];by_cases hk:t.kind=3;rw[C4 hk];(cases YR t.name with|false=>exact⟨29,rfl,λrc=>rfl,λh=>by omega⟩|true=>show ∃e,cond (decide (8<(t.levels.length:Int))) (some 6) (Option.bind (Qc (Z2 t (YZ V P)) Qf 0) (Sum.elim (λ(o7:Unit)=>Kg t (YZ V P) dep) (λo=>some o)))=some e/\(∀rc,cond (decide (8<(t.levels.length:Int))) (some 6) (Option.bind (Qc (W6 t P 1000000) Qf 0) (Sum.elim (λ(b0_:Unit)=>Option.bind (cond (t.kind==0) (cond (decide (t.index<0)) (some true) (some (decide (max V 0<=(Qr (t.index-dep)))))) (some false)) (λ(b1_:Bool)=>Xa b1_ t 1000000 rc dep (max V 0) P 1000000)) (λo=>some o)))=_)/\_;cases decide (8<(t.levels.length:Int))with|true=>exact⟨6,rfl,λrc=>rfl,λh=>by omega⟩|false=>exact⟨e,h4,h5,λ_=>⟨k1,k2⟩⟩);rw[C3 hk];show ∃e,Option.bind (Qc (Z2 t (YZ V P)) Qf 0) (Sum.elim (λ(o7:Unit)=>Kg t (YZ V P) dep) (λo=>some o))=some e/\(∀rc,cond (decide (8<(t.levels.length:Int))) (some 6) (Option.bind (Qc (W6 t P 1000000) Qf 0) (Sum.elim (λ(b0_:Unit)=>Option.bind (cond (t.kind==0) (cond (decide (t.index<0)) (some true) (some (decide (max V 0<=(Qr (t.index-dep)))))) (some false)) (λ(b1_:Bool)=>Xa b1_ t 1000000 rc dep (max V 0) P 1000000)) (λo=>some o)))=_)/\_;rw[C3 (show ¬8<(t.levels.length:Int) by have:=k3 hk;omega)];exact⟨e,h4,h5,λ_=>⟨k1,k2⟩⟩
end
section
open Go.RowKit Go.Shelf
def Tm.num:Tm->Nat|.mk _ _ _ _ ks=>1+(ks.attach.map λk=>Tm.num k.1).sum
termination_by t=>SizeOf.sizeOf t
decreasing_by
 have:=Po k.2
 simp only[Tm.mk.sizeOf_spec];omega
theorem Tm.num_eq(t:Tm):t.num=1+(t.kids.map Tm.num).sum:=by cases t;rw[Tm.num,Sv];rfl
theorem Qax{α:Type}(f g:α->Nat):∀l:List α,(∀x∈l,f x<=g x)->(l.map f).sum<=(l.map g).sum|[],_=>Cl _|x::l,h=>by rw[CJ,Ps,CJ,Ps];have h1:=h x (Cj ..);have h2:=Qax f g l λy hy=>h y (Ck _ hy);omega
theorem Tm.num_le(t:Tm):t.num<=t.size:=by induction t using Qvd with|h t ih=>rw[t.num_eq,t.size_eq];have:=Qax Tm.num Tm.size t.kids ih;omega
theorem Qbd{t:Tm}{a b:List Tm}{x:Tm}(e:t.kids=a++x::b):(a.map Tm.num).sum+x.size<t.size/\(a.map Tm.num).sum+x.num<t.num:=by have h1:=t.size_eq;have h2:=t.num_eq;rw[e,Qnu]at h1 h2;have h3:=Qax Tm.num Tm.size a λx _=>x.num_le;constructor <;> omega
theorem Qep:∀(n:Nat)(t:Tm),t.size<=n->t.size<=900000000->Jm Qob n t=some (t.num:Int)
 |0,t,h,_=>by rw[t.size_eq]at h;omega
 |n+1,t,h,h2=>by
  show Qsp (Jm Qob n) t=_;unfold Qsp;have hl:=Gu t;have hn:=t.num_le;obtain⟨r,e1,e2⟩:=Yv (step:=Dn t (Jm Qob n)) t.kids (λi (s:Nat)=>((s:Int),i)) (λa s=>s=1+(a.map Tm.num).sum) (λr=>r=(t.num:Int)) (by omega) (λa x b s e hI=>by
    have hx:=JL (t:=t) (k:=x) (by rw[e];simp)
    have hr:=Qep n x (by omega) (by omega)
    have h3:=Qbd e
    obtain⟨q1,q2⟩:=GD e
    refine .inr ⟨s+x.num,?_,?_⟩
    ·unfold Dn
     dsimp only
     rw[q1,q2]
     simp only[C5,C0]
     rw[hr]
     simp only[C0]
     rw[Jh (n:=(s:Int)+(x.num:Int)) (by omega) (by omega)]
     rfl
    ·rw[hI,Ct,List.sum_append];simp;omega)
   (λs hI=>⟨(s:Int),by unfold Dn;dsimp only;rw[Jp];rfl,by rw[hI,t.num_eq]⟩) 1 rfl
  have e3:Qc (Dn t (Jm Qob n)) Qf (1,0)=some r:=e1;rw[e3,e2];rfl
theorem J21:Jan=m67:=rfl
theorem Qng(k:Int)(h0:0<=k)(h1:k<13):∃v,QP ([(-1),(-1),(-1),(-1),(-1),1,1,1,(-1),(-1),(-1),2,(-1)]:List Int) k=some v/\∀j:Nat,Q61 k (j:Int)=some (if(j:Int)=v then 1 else 0):=by
 have hk:k=0\/k=1\/k=2\/k=3\/k=4\/k=5\/k=6\/k=7\/k=8\/k=9\/k=10\/k=11\/k=12:=by omega
 have no:∀(c:Bool->Option Int)(j:Nat),Q61 k (j:Int)=some 0->Q61 k (j:Int)=some (if(j:Int) = -1 then 1 else 0):=λ_ j h=>by rw[h,Ca (by omega)]
 rcases hk with hk|hk|hk|hk|hk|hk|hk|hk|hk|hk|hk|hk|hk <;> subst hk;case inr.inr.inr.inr.inr.inl=>exact⟨1,rfl,λj=>by unfold Q61;rw[Z0 (j:Int) 1,Z0 (j:Int) 2];by_cases h:(j:Int)=1;rw[C4 h,Cf h];rfl;rw[C3 h,Ca h];cases decide ((j:Int)=2) <;> rfl⟩
 case inr.inr.inr.inr.inr.inr.inl=>exact⟨1,rfl,λj=>by unfold Q61;rw[Z0 (j:Int) 1,Z0 (j:Int) 2];by_cases h:(j:Int)=1;rw[C4 h,Cf h];rfl;rw[C3 h,Ca h];cases decide ((j:Int)=2) <;> rfl⟩
 case inr.inr.inr.inr.inr.inr.inr.inl=>exact⟨1,rfl,λj=>by unfold Q61;rw[Z0 (j:Int) 1,Z0 (j:Int) 2];by_cases h:(j:Int)=1;rw[C4 h,Cf h];rfl;rw[C3 h,Ca h];cases decide ((j:Int)=2) <;> rfl⟩
 case inr.inr.inr.inr.inr.inr.inr.inr.inr.inr.inr.inl=>exact⟨2,rfl,λj=>by unfold Q61;rw[Z0 (j:Int) 1,Z0 (j:Int) 2];by_cases h:(j:Int)=2;rw[C4 h,Cf h,C3 (show ¬(j:Int)=1 by omega)];rfl;rw[C3 h,Ca h];cases decide ((j:Int)=1) <;> rfl⟩
 all_goals exact⟨-1,rfl,λj=>no (λ_=>none) j (by unfold Q61;rw[Z0 (j:Int) 1,Z0 (j:Int) 2];cases decide ((j:Int)=1) <;> cases decide ((j:Int)=2) <;> rfl)⟩
theorem Q47(V P:Int)(root:Tm):∀(n:Nat)(t:Tm)(dep cnt:Nat),t.size<=n->dep+t.size<=900000000->cnt+t.size<=900000000 -> ∃e:Int,Jm Q3z n (t,(dep:Int),max V 0,P,1000000,1000000)=some e/\(e=0->Jm YW n (t,(dep:Int),root,0,YZ V P,(cnt:Int),root)=some (.inr (true,((cnt+t.num:Nat):Int)))) /\ (e≠0->∃c,Jm YW n (t,(dep:Int),root,0,YZ V P,(cnt:Int),root)=some (.inl (e,c)))
 |0,t,_,_,h,_,_=>by rw[t.size_eq]at h;omega
 |n+1,t,dep,cnt,h,hd,hc=>by
  show ∃e:Int,Qhy (Jm Q3z n) t (dep:Int) (max V 0) P 1000000 1000000=some e/\(e=0->GT (Jm YW n) t (dep:Int) root 0 (YZ V P) (cnt:Int) root=_)/\(e≠0->∃c,GT (Jm YW n) t (dep:Int) root 0 (YZ V P) (cnt:Int) root=some (.inl (e,c)));obtain⟨e,h1,h2,h3⟩:=Qlg t (dep:Int) V P (by omega);have hl:=Gu t;have hnum:=t.num_le;rw[h2];unfold GT;rw[h1];by_cases he:e=0;subst he;obtain⟨k0,k1⟩:=h3 rfl;obtain⟨v,hv,hj⟩:=Qng t.kind k0 k1;rw[Cf rfl];rw[C4 k0,C4 k1];show ∃e:Int,Q9p (Jm Q3z n) t (dep:Int) (max V 0) P=some e/\(e=0->Kk true t (dep:Int) (Jm YW n) root 0 (YZ V P) root (cnt:Int)=_)/\(e≠0->∃c,Kk true t (dep:Int) (Jm YW n) root 0 (YZ V P) root (cnt:Int)=some (.inl (e,c)));have hg:Qa (cond (decide (0<=t.kind)) (Nat.blt t.kind.toNat 13) false) (some v)=some v:=by rw[C4 k0,C5,show Nat.blt t.kind.toNat 13=true from C7 (by omega)];rfl
  unfold Kk Q9p;rw[hv];simp only[C5,C0];rw[hg,C0,Zh (by omega)];obtain⟨r1,r2,e1,e2,e3⟩:=J0e (β1:=Unit⊕Int) (β2:=Int⊕((Int×Int)⊕(Bool×Int))) (step1:=ZU t (Jm Q3z n) (dep:Int) (max V 0) P 1000000 1000000) (step2:=YK t v (dep:Int) (Jm YW n) root 0 (YZ V P) root) t.kids (λi (_:Unit)=>i) (λi (c:Nat)=>(i,(c:Int))) (λa _ c=>c=cnt+1+(a.map Tm.num).sum) (λr1 r2=>(r1=.inl ()/\r2=.inl ((cnt+t.num:Nat):Int))\/∃e c,e≠0/\r1=.inr e/\r2=.inr (.inl (e,c))) (by omega) (λa x b _ c e hI=>by
    obtain⟨q1,q2⟩:=GD e
    have hx:=Qbd e
    have hxs:=JL (t:=t) (k:=x) (by rw[e];simp)
    unfold ZU YK
    dsimp only
    rw[q1,q2]
    simp only[C5,C0]
    rw[hj a.length,Z0]
    obtain⟨d',hd1,hd2,hd3⟩:∃d':Nat,Qr ((dep:Int)+(if(a.length:Int)=v then 1 else 0))=(d':Int)/\(cond (decide ((a.length:Int)=v)) (some (Qr ((dep:Int)+1))) (some (dep:Int)))=some (d':Int)/\d'<=dep+1:=by
     by_cases hh:(a.length:Int)=v
     ·rw[Cf hh,C4 hh,Zh (by omega)];exact⟨dep+1,rfl,rfl,Cl _⟩
     ·rw[Ca hh,C3 hh,Jh (by omega) (by omega)];exact⟨dep,by omega,rfl,by omega⟩
    rw[hd2]
    simp only[C0]
    rw[hd1]
    obtain⟨e',w1,w2,w3⟩:=Q47 V P root n x d' c (by omega) (by omega) (by omega)
    unfold Xr
    rw[w1]
    simp only[C0]
    by_cases he':e'=0
    ·rw[w2 he']
     subst he'
     refine .inr ⟨(),c+x.num,Z,Z,?_⟩
     rw[hI,Ct,List.sum_append];simp;omega
    ·obtain⟨c',w4⟩:=w3 he'
     rw[w4,Q89 he']
     exact .inl ⟨_,_,Z,Z,.inr ⟨e',c',he',Z,Z⟩⟩)
   (λ_ c hI=>⟨_,_,by unfold ZU;rw[Jp];rfl,by unfold YK;dsimp only;rw[Jp];rfl,.inl ⟨rfl,by rw[hI,t.num_eq];congr 2;omega⟩⟩) () (cnt+1) (by simp)
  have e1':Qc (ZU t (Jm Q3z n) (dep:Int) (max V 0) P 1000000 1000000) Qf 0=some r1:=e1;have e2':Qc (YK t v (dep:Int) (Jm YW n) root 0 (YZ V P) root) Qf (0,((cnt+1:Nat):Int))=some r2:=e2;rw[e1',e2'];rcases e3 with⟨rfl,rfl⟩|⟨e',c',he',rfl,rfl⟩;exact⟨0,rfl,λ_=>rfl,λh=>(h rfl).elim⟩;exact⟨e',rfl,λh=>(he' h).elim,λ_=>⟨c',rfl⟩⟩;rw[Ca he];refine⟨e,Z,λh=>(he h).elim,λ_=>⟨(cnt:Int),?_⟩⟩;simp only[C0,Q89 he,C5];rfl
theorem Qsw(t:Tm)(V P:Int)(h:t.size<=900000000):∃e,Qx8 t V P 1000000 1000000=some e/\Qxa t V P 1000000 1000000=some e:=by
 obtain⟨e,h1,h2,h3⟩:=Q47 V P t Qf t 0 0 (by unfold Qf;omega) (by omega) (by omega);obtain⟨d,h4⟩:=Q6x Qf t (by unfold Qf;omega) h;have h5:Jb4 t=some (t.num:Int):=Qep Qf t (by unfold Qf;omega) h;have h6:m67 t=some d:=h4;have h1':Jam t 0 (max V 0) P 1000000 1000000=some e:=h1;have h7:∀r,Jm YW Qf (t,((0:Nat):Int),t,0,YZ V P,((0:Nat):Int),t)=some r->Qbw t 0 t 0 (⟨(max V 0),(max P 0),(max 1000000 0),(max 1000000 0)⟩:Scp) 0 t=some r:=λr h=>h;unfold Qx8 Qxa;rw[h1',J21,h5,h6];by_cases he:e=0;have h8:=h7 _ (h2 he);rw[h8];subst he;show ∃e,cond (decide (4096<(t.num:Int))) (some 5) (cond (decide (200<d)) (some 7) (some 0))=some e/\cond (decide (4096<((0+t.num:Nat):Int))) (some 5) (cond (decide (200<d)) (some 7) (some 0))=some e;rw[Pd];cases decide (4096<(t.num:Int))with|true=>exact⟨5,rfl,rfl⟩|false=>cases decide (200<d) <;> exact⟨_,rfl,rfl⟩
 obtain⟨c,h9⟩:=h3 he;rw[h7 _ h9];simp only[C0,Q89 he,C5];exact⟨e,Z,Z⟩
end
end
end Go.Proofs.YtjcfppnjamjjhaaGreatDoor
