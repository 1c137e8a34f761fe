/- Part 4 of the proof: rules, mirrors and plain laws. -/
import Derived.Test.YtjcfppnjamjjhaaGreatDoorK63
import Derived.Shelf.SlIterI.Sorted
import Derived.Shelf.SlIterI.Collect
import Derived.Shelf.SortM.Plain
import Derived.Shelf.SortM.SortNone
import Derived.Shelf.Strings.Trim
import Derived.Shelf.Small.Wraps
import Derived.Ground.GgzProg
import Derived.Ground.SlgmProg
set_option maxHeartbeats 2000000
set_option maxRecDepth 100000
set_option linter.unusedSimpArgs false
set_option linter.unusedVariables false
set_option linter.unusedSectionVars false
namespace Go.Proofs.YtjcfppnjamjjhaaGreatDoor
open Go.Proofs.Tryz
noncomputable section
section
open Go.RowKit Go.Shelf
set_option maxRecDepth 100000
abbrev Va:List (Nat×TV):=[(5,.v (.one (.ptr 3 0))),(10,.v (.one (.ptr 4 0))),(11,.v (.one (.ptr 5 0))),(12,.v (.one (.ptr 6 0))),(26,.v (.one (.fn 106 [(7,0)])))]
abbrev Vb:List (Nat×TV):=[(5,.v (.one (.ptr 0 0))),(10,.v (.one (.ptr 1 0))),(11,.v (.one (.ptr 2 0))),(12,.v (.one (.ptr 3 0))),(26,.v (.one (.fn 106 [(4,0)])))]
abbrev Vc:Nat×HB:=(9,.cells 26 [.fn 108 [(0,0),(8,0),(9,0)]])
abbrev Vd:Nat×HB:=(2,.obj (.deferred (some [])))
abbrev Ve:Nat×HB:=(5,.obj (.deferred (some [])))
abbrev Vf:Nat×HB:=(0,.cells 153 [.yld 1])
abbrev Vg:Nat×HB:=(7,.cells 153 [.yld 6])
theorem XG:QL prog 25 0=some 0:=by kernel_rfl
theorem Qxt:QL prog 25 1=some 1:=by kernel_rfl
theorem Qly:QL prog 25 2=some 2:=by kernel_rfl
theorem Q43:QL prog 25 3=some 3:=by kernel_rfl
theorem KB:QL prog 25 4=some 4:=by kernel_rfl
theorem Q42:QL prog 82 0=some 0:=by kernel_rfl
theorem DU:QL prog 82 1=some 1:=by kernel_rfl
theorem Qt6:QL prog 142 0=some 0:=by kernel_rfl
theorem Q64:QL prog 142 1=some 1:=by kernel_rfl
theorem Qt5:QL prog 155 0=some 0:=by kernel_rfl
theorem Qet:QL prog 155 1=some 1:=by kernel_rfl
theorem K8:QL prog 155 2=some 2:=by kernel_rfl
theorem K7:QL prog 155 3=some 3:=by kernel_rfl
theorem Qt4:QL prog 155 4=some 4:=by kernel_rfl
theorem Y8:Jd prog 3=some (false,1):=by kernel_rfl
theorem Qfn:Jd prog 4=some (false,1):=by kernel_rfl
theorem Q1q:Jd prog 9=some (false,1):=by kernel_rfl
theorem Qmk:Jd prog 22=some (false,1):=by kernel_rfl
theorem Q08:Jd prog 23=some (false,1):=by kernel_rfl
theorem Q07:Jd prog 25=some (true,5):=by kernel_rfl
theorem Qul:Jd prog 26=some (false,1):=by kernel_rfl
theorem Xb:Jd prog 28=some (false,1):=by kernel_rfl
theorem Qfm:Jd prog 80=some (false,1):=by kernel_rfl
theorem JH:Jd prog 82=some (true,2):=by kernel_rfl
theorem Qun:Jd prog 107=some (true,4):=by kernel_rfl
theorem Q70:Jd prog 142=some (true,2):=by kernel_rfl
theorem J3f:Jd prog 153=some (false,1):=by kernel_rfl
theorem J3e:Jd prog 155=some (true,5):=by kernel_rfl
theorem Q6z:Jd prog 156=some (true,65):=by kernel_rfl
theorem Qk1:QS prog 22=some (82,2):=by kernel_rfl
theorem Un:QS prog 23=some (25,5):=by kernel_rfl
theorem Dr:QS prog 80=some (142,2):=by kernel_rfl
theorem J9h:Yc prog 3=some [.int .i64 0]:=by kernel_rfl
theorem J4b:Yc prog 25=some [.int .i64 0,.int .i64 0,.string ByteArray.empty,.slice none 0 0,.slice none 0 0]:=by kernel_rfl
theorem J7v:Yc prog 26=some [.nilFunc]:=by kernel_rfl
theorem J7u:Yc prog 28=some [.int .i64 0]:=by kernel_rfl
theorem Qg9:Yc prog 82=some [.int .i64 0,.slice none 0 0]:=by kernel_rfl
theorem J4d:Yc prog 107=some [.int .i64 0,.int .i64 0,.int .i64 0,.int .i64 0]:=by kernel_rfl
theorem Qjo:Yc prog 142=some [.int .i64 0,.int .i64 0]:=by kernel_rfl
theorem J4c:Yc prog 155=some [.bool false,.bool false,.int .i64 0,.int .i64 0,.int .i64 0]:=by kernel_rfl
theorem Qpu:Yc prog 156=some [.bool false,.bool false,.int .i64 0,.int .i64 0,.int .i64 0,.bool false,.bool false,.int .i64 0,.int .i64 0,.int .i64 0,.bool false,.bool false,.int .i64 0,.int .i64 0,.int .i64 0,.bool false,.bool false,.int .i64 0,.int .i64 0,.int .i64 0,.bool false,.bool false,.int .i64 0,.int .i64 0,.int .i64 0,.bool false,.bool false,.int .i64 0,.int .i64 0,.int .i64 0,.bool false,.bool false,.int .i64 0,.int .i64 0,.int .i64 0,.bool false,.bool false,.int .i64 0,.int .i64 0,.int .i64 0,.bool false,.bool false,.int .i64 0,.int .i64 0,.int .i64 0,.bool false,.bool false,.int .i64 0,.int .i64 0,.int .i64 0,.bool false,.bool false,.int .i64 0,.int .i64 0,.int .i64 0,.bool false,.bool false,.int .i64 0,.int .i64 0,.int .i64 0,.bool false,.bool false,.int .i64 0,.int .i64 0,.int .i64 0]:=by kernel_rfl
theorem J3a:Ya prog 107 [(0,1),(1,1),(2,1),(3,1)] [.int .i64 0,.int .i64 0,.int .i64 0,.int .i64 0]:=⟨by kernel_rfl,by kernel_rfl⟩
theorem Js:Ya prog 155 [(0,1),(1,1),(2,1),(3,1),(4,1)] [.bool false,.bool false,.int .i64 0,.int .i64 0,.int .i64 0]:=⟨by kernel_rfl,by kernel_rfl⟩
theorem Quc:Ya prog 156 [(0,5),(5,5),(10,5),(15,5),(20,5),(25,5),(30,5),(35,5),(40,5),(45,5),(50,5),(55,5),(60,5)] [.bool false,.bool false,.int .i64 0,.int .i64 0,.int .i64 0,.bool false,.bool false,.int .i64 0,.int .i64 0,.int .i64 0,.bool false,.bool false,.int .i64 0,.int .i64 0,.int .i64 0,.bool false,.bool false,.int .i64 0,.int .i64 0,.int .i64 0,.bool false,.bool false,.int .i64 0,.int .i64 0,.int .i64 0,.bool false,.bool false,.int .i64 0,.int .i64 0,.int .i64 0,.bool false,.bool false,.int .i64 0,.int .i64 0,.int .i64 0,.bool false,.bool false,.int .i64 0,.int .i64 0,.int .i64 0,.bool false,.bool false,.int .i64 0,.int .i64 0,.int .i64 0,.bool false,.bool false,.int .i64 0,.int .i64 0,.int .i64 0,.bool false,.bool false,.int .i64 0,.int .i64 0,.int .i64 0,.bool false,.bool false,.int .i64 0,.int .i64 0,.int .i64 0,.bool false,.bool false,.int .i64 0,.int .i64 0,.int .i64 0]:=⟨by kernel_rfl,by kernel_rfl⟩
theorem Qyc:Q4f prog 156=some (13,5):=by kernel_rfl
theorem Qgq:JB prog 9=true:=by kernel_rfl
theorem J6t:Qb prog 27:=enters_of func27 (by kernel_rfl) rfl
theorem J6i:Qb prog 58:=enters_of func58 (by kernel_rfl) rfl
theorem J6h:Qb prog 59:=enters_of func59 (by kernel_rfl) rfl
theorem J6g:Qb prog 60:=enters_of func60 (by kernel_rfl) rfl
theorem J2x:Qb prog 106:=enters_of func106 (by kernel_rfl) rfl
theorem Qtn:Qb prog 107:=enters_of func107 (by kernel_rfl) rfl
theorem J2w:Qb prog 108:=enters_of func108 (by kernel_rfl) rfl
theorem J2v:Qb prog 109:=enters_of func109 (by kernel_rfl) rfl
theorem J2u:Qb prog 110:=enters_of func110 (by kernel_rfl) rfl
theorem J2t:Qb prog 111:=enters_of func111 (by kernel_rfl) rfl
theorem J2j:Qb prog 135:=enters_of func135 (by kernel_rfl) rfl
theorem J2i:Qb prog 136:=enters_of func136 (by kernel_rfl) rfl
theorem Qtm:Qb prog 158:=enters_of func158 (by kernel_rfl) rfl
theorem Qtl:Qb prog 188:=enters_of func188 (by kernel_rfl) rfl
theorem Qtk:Qb prog 189:=enters_of func189 (by kernel_rfl) rfl
theorem Qtj:Qb prog 211:=enters_of func211 (by kernel_rfl) rfl
theorem mixed:prog.follows .mixedOrders=true:=by kernel_rfl
theorem Qui:Qgh prog 156=some (13,5):=by kernel_rfl
def Ze:Code:=(Jbi (Jbi (Jbh (Jbi (Jbh (Jbh (Jbh (Qze f27))))))))
def Yx:Code:=(Jbh (Jbi (Jbh (Jbi (Jbh (Jbh (Jbh (Qze f27))))))))
def J0y(a0:Jc0)(a1:Lvl):Option Unit:=some ()
def KI(a0:List Jc0)(a1:Lvl)(s1:Int):Option (LO Int (Unit⊕Int)):=
 cond (decide (s1<(a0.length:Int))) (Option.bind (QT a0 s1) λ(x3:Jc0)=>
 Option.bind (J0y x3 a1) λ(x4:Unit)=>
 cond (decide (a1.c<=x3.2)) (some (.done (.inr s1))) (some (.next (Qm (s1+1))))) (some (.done (.inl ())))
def Qs0(a0:List Jc0)(a1:Lvl):Option Int:=Option.bind (Qa (KI a0 a1) Qd 0) (Sum.elim (λ(o1:Unit)=>some (-1)) (λo=>some o))
def Qhm(a0:List Jc0)(a1:Lvl):Option Bool:=
 Option.bind (Qs0 a0 a1) λ(x1:Int)=>
 some (decide (0<=x1))
def Xy(a0:Lvl)(s1:Int):Option (LO Int (Unit⊕Bool)):=
 cond (decide (s1<(a0.vs.length:Int))) (Option.bind (QT a0.vs s1) λ(x5:Jc0)=>
 Option.bind (cond (decide (x5.1<(-65536))) (some true) (cond (decide (7<x5.1)) (some true) (cond (decide (x5.2<0)) (some true) (cond (decide (100<x5.2)) (some true) (cond (decide (0<s1)) (Option.bind (QT a0.vs (Qm (s1-1))) λ(x12:Jc0)=>
 some (decide (x5.1<=x12.1))) (some false)))))) (λ(v6:Bool)=>cond v6 (some (.done (.inr false))) (some (.next (Qm (s1+1)))))) (some (.done (.inl ())))
def Q7l(a0:Lvl):Option Bool:=
 Option.bind (cond (decide (a0.c<0)) (some true) (cond (decide (100<a0.c)) (some true) (cond (decide (0<a0.c)) (Option.bind (Option.bind (Qhm a0.vs a0) λ(x7:Bool)=>
 some x7) (λ(y5:Bool)=>some y5)) (some false)))) (λ(v1:Bool)=>cond v1 (some false) (Option.bind (Qa (Xy a0) Qd 0) (Sum.elim (λ(o3:Unit)=>some true) (λo=>some o))))
def Qpq:IH UV:=⟨f188,⟨[],[]⟩,.lab [([.reg 4],.bool)]⟩
def Qpp:IH UV:=⟨f189,⟨[],[]⟩,.lab [([.reg 3],.bool)]⟩
def Qpo:IH UV:=⟨f211,⟨[(2,⟨[([.reg 8],.int .i64)],[],true⟩)],[]⟩,.lab [([.reg 4],.int .i64)]⟩
def J5c(a0:Lvl):Option (Bool):=Option.bind (Option.bind (Option.bind (Qa (σ:=Int) (β:=Unit⊕Int) (λs5=>cond ((decide (s5<(a0.vs.length:Int)))) (Option.bind (QT a0.vs s5) λ(x7:Jc0)=>Option.bind (some (decide (a0.c<=x7.2))) λ(v8:Bool)=>cond v8 (some (.done (.inr s5))) (some (.next (Qm (s5+1))))) (some (.done (.inl ())))) Qd 0) (Sum.elim (λ(v6:Unit)=>some (-1)) (λ(o9:Int)=>some o9))) λ(v2:Int)=>some (decide (0<=v2))) λ(v1:Bool)=>some v1
def q158:KF UV:=⟨[.stc .t82],[.bool],λv=>J5c v⟩
def J78:Hints UV:=⟨[],[]⟩
theorem Qvy:JY DV .any prog 158 q158:=Yj (C:=Jc5) rfl Qx Qj (Qw (tb:=[]) Qj trivial) (Gr (C:=Jc5) rfl Qx Qj (Qw (tb:=[]) Qj trivial) Jx (I:=[(188,Qpq),(189,Qpp),(211,Qpo)]) ⟨⟨func188,Qtl⟩,⟨func189,Qtk⟩,⟨func211,Qtj⟩,trivial⟩ 8) func158 Qtm J78 q158 rfl (λv=>by kernel_rfl)
def J08(a0:Lvl):Option (Bool):=Option.bind (cond ((decide (a0.c<0))) (some true) (cond ((decide (100<a0.c))) (some true) (cond ((decide (0<a0.c))) (Option.bind (J5c a0) λ(x3:Bool)=>some x3) (some false)))) λ(v2:Bool)=>cond v2 (some false) (Option.bind (Qa (σ:=Int) (β:=Unit⊕Bool) (λs6=>cond ((decide (s6<(a0.vs.length:Int)))) (Option.bind (QT a0.vs s6) λ(x8:Jc0)=>cond ((decide (x8.1<(-65536)))) (some (.done (.inr false))) (cond ((decide (7<x8.1))) (some (.done (.inr false))) (cond ((decide (x8.2<0))) (some (.done (.inr false))) (cond ((decide (100<x8.2))) (some (.done (.inr false))) (cond ((decide (0<s6))) (Option.bind (QT a0.vs (Qm (s6-1))) λ(x9:Jc0)=>cond ((decide (x8.1<=x9.1))) (some (.done (.inr false))) (some (.next (Qm (s6+1))))) (some (.next (Qm (s6+1))))))))) (some (.done (.inl ())))) Qd 0) (Sum.elim (λ(v7:Unit)=>some true) (λ(o10:Bool)=>some o10)))
def p136:KF UV:=⟨[.stc .t82],[.bool],λv=>J08 v⟩
def J79:Hints UV:=⟨[(1,⟨[([.reg 21],.bool)],[],false⟩),(5,⟨[([.reg 25],.int .i64)],[],true⟩)],[(10,[])]⟩
theorem Qw6:JY DV .any prog 136 p136:=Yj (C:=Jc5) rfl Qx Qj (Qw (tb:=[(158,q158)]) Qj ⟨Qvy,trivial⟩) Jx func136 J2i J79 p136 rfl (λv=>by kernel_rfl)
theorem Qwe(a0:Lvl):J08 a0=Q7l a0:=by
 have e:(λ(s6:Int)=>cond ((decide (s6<(a0.vs.length:Int)))) (Option.bind (QT a0.vs s6) λ(x8:Jc0)=>cond ((decide (x8.1<(-65536)))) (some (.done (.inr false))) (cond ((decide (7<x8.1))) (some (.done (.inr false))) (cond ((decide (x8.2<0))) (some (.done (.inr false))) (cond ((decide (100<x8.2))) (some (.done (.inr false))) (cond ((decide (0<s6))) (Option.bind (QT a0.vs (Qm (s6-1))) λ(x9:Jc0)=>cond ((decide (x8.1<=x9.1))) (some (.done (.inr false))) (some (.next (Qm (s6+1))))) (some (.next (Qm (s6+1))))))))) (some (.done (.inl ()))))=Xy a0:=by funext s;unfold Xy;cases(decide (s<(a0.vs.length:Int)))with|false=>rfl|true=>cases QT a0.vs s with|none=>rfl|some x=>simp only[C9,C0];generalize decide (x.1<(-65536))=b1;generalize decide (7<x.1)=b2;generalize decide (x.2<0)=b3;generalize decide (100<x.2)=b4;generalize decide (0<s)=b5;cases b1 with|true=>rfl|false=>cases b2 with|true=>rfl|false=>cases b3 with|true=>rfl|false=>cases b4 with|true=>rfl|false=>cases b5 with|false=>rfl|true=>cases QT a0.vs (Qm (s-1)) <;> rfl
 unfold J08 Q7l;rw[e];rfl
def q136:KF UV:=⟨[.stc .t82],[.bool],λv=>Q7l v⟩
theorem Qkb:JY DV .any prog 136 q136:=⟨rfl,λv r h=>Qw6.2 v r ((Qwe v).trans h)⟩
theorem Qwr(a0:Lvl)(r:Bool)(h0:Q7l a0=some r):Fun prog 136 [.agg (Jbg a0)] (Qg [.one (Jbd r)]):=FunW.any (Eq.mp (show FunW .any prog 136 (QE DV q136.args a0) (Qg (QE DV q136.res r))=_ from by kernel_rfl) (Qkb.2 a0 r h0))
def Qhp(a0:Byt):Option Bool:=Option.bind (cond (decide (97<=a0.n)) (cond (decide (a0.n<=122)) (some true) (cond (decide (65<=a0.n)) (cond (decide (a0.n<=90)) (some true) (some (a0.n==95))) (some (a0.n==95)))) (cond (decide (65<=a0.n)) (cond (decide (a0.n<=90)) (some true) (some (a0.n==95))) (some (a0.n==95)))) (λ(v1:Bool)=>some v1)
def q135:KF UV:=⟨[.int .u8],[.bool],λv=>Qhp ⟨v⟩⟩
def J7a:Hints UV:=⟨[(1,⟨[([.reg 2],.bool)],[],false⟩)],[]⟩
theorem Qvz:JY DV .any prog 135 q135:=Yj (C:=Jc5) rfl Qx Qj (Qw (tb:=[]) Qj trivial) Jx func135 J2j J7a q135 rfl (λv=>by kernel_rfl)
def Xz(a0:Jc6)(s1:Bool×Int):Option (LO (Bool×Int) (Bool⊕Bool)):=
 cond (decide (s1.2<(a0.length:Int))) (Option.bind (QT a0 s1.2) λ(x3:UInt8)=>
 Option.bind (Qhp (⟨(x3.toNat:Int)⟩:Byt)) λ(x4:Bool)=>
 cond x4 (some (.next (false,(Qm (s1.2+1))))) (cond s1.1 (some (.done (.inr false))) (cond ((x3.toNat:Int)==46) (some (.next (true,(Qm (s1.2+1))))) (Option.bind (cond (decide ((x3.toNat:Int)<48)) (some true) (some (decide (57<(x3.toNat:Int))))) (λ(v8:Bool)=>cond v8 (cond ((x3.toNat:Int)!=39) (some (.done (.inr false))) (some (.next (s1.1,(Qm (s1.2+1)))))) (some (.next (s1.1,(Qm (s1.2+1)))))))))) (some (.done (.inl s1.1)))
def Q13(a0:Jc6):Option Bool:=Option.bind (Qa (Xz a0) Qd (true,0)) (Sum.elim (λ(o1:Bool)=>Option.bind (cond (!o1) (some (decide ((a0.length:Int)<=64))) (some false)) (λ(v2:Bool)=>some v2)) (λo=>some o))
def J09(a0:List UInt8):Option (Bool):=Option.bind (Qa (σ:=Bool×Int) (β:=Bool⊕Bool) (λs41=>cond ((decide (s41.2<(a0.length:Int)))) (Option.bind (QT a0 s41.2) λ(x43:UInt8)=>Option.bind (Qhp ⟨(x43.toNat:Int)⟩) λ(x44:Bool)=>Option.bind (α:=Bool⊕Bool) (cond x44 (some (.inl false)) (cond s41.1 (some (.inr false)) (Option.bind (α:=Bool⊕Bool) (cond (((x43.toNat:Int)==46)) (some (.inl true)) (Option.bind (cond ((decide ((x43.toNat:Int)<48))) (some true) (some (decide (57<(x43.toNat:Int))))) λ(v58:Bool)=>Option.bind (α:=Unit⊕Bool) (cond v58 (cond (((x43.toNat:Int)!=39)) (some (.inr false)) (some (.inl ()))) (some (.inl ()))) (Sum.elim (λ(v59:Unit)=>some (.inl s41.1)) (λ(o60:Bool)=>some (.inr o60))))) (Sum.elim (λ(v57:Bool)=>some (.inl v57)) (λ(o61:Bool)=>some (.inr o61)))))) (Sum.elim (λ(v53:Bool)=>some (.next (v53,(Qm (s41.2+1))))) (λ(o62:Bool)=>some (.done (.inr o62))))) (some (.done (.inl s41.1)))) Qd (true,0)) (Sum.elim (λ(v42:Bool)=>Option.bind (cond ((!v42)) (some (decide ((a0.length:Int)<=64))) (some false)) λ(v63:Bool)=>some v63) (λ(o64:Bool)=>some o64))
def p110:KF UV:=⟨[.str],[.bool],λv=>J09 v⟩
def J7c:Hints UV:=⟨[(3,⟨[([.reg 3],.bool),([.reg 8],.int .i64)],[([.reg 3],.bool)],true⟩),(11,⟨[([.reg 3],.bool)],[],true⟩),(17,⟨[([.reg 3],.bool)],[],true⟩),(19,⟨[([.reg 22],.bool)],[],false⟩),(20,⟨[],[],true⟩),(25,⟨[([.reg 2],.bool)],[],false⟩)],[]⟩
theorem Qw7:JY DV .any prog 110 p110:=Yj (C:=Jc5) rfl Qx Qj (Qw (tb:=[(135,q135)]) Qj ⟨Qvz,trivial⟩) Jx func110 J2u J7c p110 rfl (λv=>by kernel_rfl)
theorem Qwf(a0:List UInt8):J09 a0=Q13 a0:=by
 have e:(λ(s41:Bool×Int)=>cond ((decide (s41.2<(a0.length:Int)))) (Option.bind (QT a0 s41.2) λ(x43:UInt8)=>Option.bind (Qhp ⟨(x43.toNat:Int)⟩) λ(x44:Bool)=>Option.bind (α:=Bool⊕Bool) (cond x44 (some (.inl false)) (cond s41.1 (some (.inr false)) (Option.bind (α:=Bool⊕Bool) (cond (((x43.toNat:Int)==46)) (some (.inl true)) (Option.bind (cond ((decide ((x43.toNat:Int)<48))) (some true) (some (decide (57<(x43.toNat:Int))))) λ(v58:Bool)=>Option.bind (α:=Unit⊕Bool) (cond v58 (cond (((x43.toNat:Int)!=39)) (some (.inr false)) (some (.inl ()))) (some (.inl ()))) (Sum.elim (λ(v59:Unit)=>some (.inl s41.1)) (λ(o60:Bool)=>some (.inr o60))))) (Sum.elim (λ(v57:Bool)=>some (.inl v57)) (λ(o61:Bool)=>some (.inr o61)))))) (Sum.elim (λ(v53:Bool)=>some (.next (v53,(Qm (s41.2+1))))) (λ(o62:Bool)=>some (.done (.inr o62))))) (some (.done (.inl s41.1))))=Xz a0:=by funext s;unfold Xz;cases(decide (s.2<(a0.length:Int)))with|false=>rfl|true=>cases QT a0 s.2 with|none=>rfl|some x=>simp only[C9,C0];cases Qhp ⟨(x.toNat:Int)⟩with|none=>rfl|some b0=>simp only[C0];generalize ((x.toNat:Int)==46)=b2;generalize decide ((x.toNat:Int)<48)=b3;generalize decide (57<(x.toNat:Int))=b4;generalize ((x.toNat:Int)!=39)=b5;cases b0 with|true=>rfl|false=>cases s.1 with|true=>rfl|false=>cases b2 with|true=>rfl|false=>cases b3 <;> cases b4 <;> cases b5 <;> rfl
 unfold J09 Q13;rw[e]
def q110:KF UV:=⟨[.str],[.bool],λv=>Q13 v⟩
theorem Qkc:JY DV .any prog 110 q110:=⟨rfl,λv r h=>Qw7.2 v r ((Qwf v).trans h)⟩
theorem Qx2(a0:Jc6)(r:Bool)(h0:Q13 a0=some r):Fun prog 110 [.one (K0 a0)] (Qg [.one (Jbd r)]):=FunW.any (Eq.mp (show FunW .any prog 110 (QE DV q110.args a0) (Qg (QE DV q110.res r))=_ from by kernel_rfl) (Qkc.2 a0 r h0))
def J0l(a0:Tm)(rc:Tm->Option Int)(s1:Int×Int):Option (LO (Int×Int) Int):=
 cond (decide (s1.2<(a0.kids.length:Int))) (Option.bind (QT a0.kids s1.2) λ(x3:Tm)=>
 Option.bind (rc x3) λ(x4:Int)=>
 some (.next ((max s1.1 x4),(Qm (s1.2+1))))) (some (.done s1.1))
def J57(rc:Tm->Option Int)(a0:Tm):Option Int:=Option.bind (Qa (J0l a0 rc) Qd (0,0)) (λ(o1:Int)=>some (Qm (o1+1)))
def J86(rc:Tm->Option Int)(u:Tm):Option Int:=J57 rc u
def J7m(a0:Tm):Option Int:=Jo J86 Qd a0
def q60:KF UV:=⟨[.stc .t25],[.int .i64],λv=>J7m v⟩
def J8x:Hints UV:=⟨[(3,⟨[([.reg 3],.int .i64),([.reg 9],.int .i64)],[([.reg 3],.int .i64)],false⟩)],[]⟩
theorem Qvx(rc:tup q60.args->Option (tup q60.res))(H:∀u r,rc u=some r->FunW .any prog 60 (QE DV q60.args u) (Qg (QE DV q60.res r))):JY DV .any prog 60 ⟨q60.args,q60.res,λv=>J57 rc v⟩:=Yj (C:=Jc5) rfl Qx Qj (Qw (tb:=[(60,(⟨q60.args,q60.res,rc⟩:KF UV))]) Qj ⟨⟨rfl,H⟩,trivial⟩) Jx func60 J6g J8x _ rfl (λv=>by kernel_rfl)
theorem Qzw:JY DV .any prog 60 q60:=⟨rfl,λv r h=>KY (C:=λu r=>FunW .any prog 60 (QE DV q60.args u) (Qg (QE DV q60.res r))) (λrc H u r h=>(Qvx rc H).2 u r h) Qd v r h⟩
theorem J0k(a0:Tm)(r:Int)(h0:J7m a0=some r):Fun prog 60 [.agg (Jbg a0)] (Qg [.one (Jbc r)]):=FunW.any (Eq.mp (show FunW .any prog 60 (QE DV q60.args a0) (Qg (QE DV q60.res r))=_ from by kernel_rfl) (Qzw.2 a0 r h0))
def J12:Option ((List Use)):=some ([(⟨true,false,0,0,(-1)⟩:Use),(⟨false,false,0,0,(-1)⟩:Use),(⟨false,false,1,0,(-1)⟩:Use),(⟨false,true,(-1),0,(-1)⟩:Use),(⟨false,false,0,2,(-1)⟩:Use),(⟨false,false,0,2,1⟩:Use),(⟨false,false,0,2,1⟩:Use),(⟨false,false,0,2,1⟩:Use),(⟨false,false,0,3,(-1)⟩:Use),(⟨false,false,0,1,(-1)⟩:Use),(⟨false,false,0,1,(-1)⟩:Use),(⟨false,false,0,3,2⟩:Use),(⟨true,false,0,0,(-1)⟩:Use)]:List Use)
theorem Ql5  (r:(List Use)) (h0:J12 =some r):Fun prog 107 [] (Qg [.agg (Q66 (r:List Use))]):=by
 unfold J12 at h0;refine KE 9 15 func107 Z Qtn Z (Jaw Z) (λS w=>?_);simp only[J3];refine Q4<|Q0<|Qk Z Z (Jaw Z) (QO Qpu Z)<|Q3<|Q5<|Q4<|Q0<|Jak Z Z Z (QJ Js Z Z Z Z)<|Jak Z Z Z (KV Js Z Z Z)<|Jak Z Z Z (QJ Js Z Z Z Z)<|Jak Z Z Z (Qa3 Js Z Z Z Z Z)<|Jak Z Z Z (QJ Js Z Z Z Z)<|Jak Z Z Z (QJ Js Z Z Z Z)<|Jak Z Z Z (QJ Js Z Z Z Z) ?_
 refine Jak Z Z Z (QJ Js Z Z Z Z)<|Jak Z Z Z (QJ Js Z Z Z Z)<|Jak Z Z Z (QJ Js Z Z Z Z)<|Jak Z Z Z (QJ Js Z Z Z Z)<|Jak Z Z Z (QJ Js Z Z Z Z)<|Jak Z Z Z (QJ Js Z Z Z Z)<|Jak Z Z Z (Q1y Quc Z (.cons Z (.cons Z (.cons Z (.cons Z (.cons Z (.cons Z (.cons Z (.cons Z (.cons Z (.cons Z (.cons Z (.cons Z (.cons Z .nil))))))))))))) Z)<|QN Z Z (GH Q6z Z Z Z Z Z Z)<|Q3<|Q5<|QQ ?_
 have e:=Jai h0;subst e;exact Zr (λ_ _ h=>h) Z (Zs Q6z Z Z Z Z .nil) (.cons (.agg (.cons (.d _) (.cons (.d _) (.cons (.d _) (.cons (.d _) (.cons (.d _) (.cons (.d _) (.cons (.d _) (.cons (.d _) (.cons (.d _) (.cons (.d _) (.cons (.d _) (.cons (.d _) (.cons (.d _) (.cons (.d _) (.cons (.d _) (.cons (.d _) (.cons (.d _) (.cons (.d _) (.cons (.d _) (.cons (.d _) (.cons (.d _) (.cons (.d _) (.cons (.d _) (.cons (.d _) (.cons (.d _) (.cons (.d _) (.cons (.d _) (.cons (.d _) (.cons (.d _) (.cons (.d _) (.cons (.d _) (.cons (.d _) (.cons (.d _) (.cons (.d _) (.cons (.d _) (.cons (.d _) (.cons (.d _) (.cons (.d _) (.cons (.d _) (.cons (.d _) (.cons (.d _) (.cons (.d _) (.cons (.d _) (.cons (.d _) (.cons (.d _) (.cons (.d _) (.cons (.d _) (.cons (.d _) (.cons (.d _) (.cons (.d _) (.cons (.d _) (.cons (.d _) (.cons (.d _) (.cons (.d _) (.cons (.d _) (.cons (.d _) (.cons (.d _) (.cons (.d _) (.cons (.d _) (.cons (.d _) (.cons (.d _) (.cons (.d _) (.cons (.d _) (.cons (.d _) (.cons (.d _) .nil)))))))))))))))))))))))))))))))))))))))))))))))))))))))))))))))))) .nil)
def DL(a1:Lvl)(a0:Scp)(s1:Int):Option (LO Int (Unit⊕Int)):=
 cond (decide (s1<(a1.vs.length:Int))) (Option.bind (QT a1.vs s1) λ(x5:Jc0)=>
 cond (decide (a0.params<=x5.1)) (some (.done (.inr 15))) (some (.next (Qm (s1+1))))) (some (.done (.inl ())))
def DK(a1:Lvl)(a0:Scp)(s1:Int):Option (LO Int (Unit⊕Int)):=
 cond (decide (s1<(a1.vs.length:Int))) (Option.bind (QT a1.vs s1) λ(x6:Jc0)=>
 Option.bind (cond (decide (x6.1<0)) (some (decide (a0.levels<=(Qm ((-1)-x6.1))))) (some false)) (λ(v7:Bool)=>cond v7 (some (.done (.inr 23))) (some (.next (Qm (s1+1)))))) (some (.done (.inl ())))
def Q5i(a0:Scp)(a1:Lvl):Option Int:=
 Option.bind (Q7l a1) λ(x1:Bool)=>
 cond (!x1) (some 3) (Option.bind (Qa (DL a1 a0) Qd 0) (Sum.elim (λ(o3:Unit)=>Option.bind (Qa (DK a1 a0) Qd 0) (Sum.elim (λ(o4:Unit)=>some 0) (λo=>some o))) (λo=>some o)))
def q111:KF UV:=⟨[.stc .t107,.stc .t82],[.int .i64],λv=>Q5i v.1 v.2⟩
def J7b:Hints UV:=⟨[(5,⟨[([.reg 15],.int .i64)],[],true⟩),(15,⟨[([.reg 28],.int .i64)],[],true⟩),(20,⟨[([.reg 42],.bool)],[],false⟩)],[]⟩
theorem Qw0:JY DV .any prog 111 q111:=Yj (C:=Jc5) rfl Qx Qj (Qw (tb:=[(136,q136)]) Qj ⟨Qkb,trivial⟩) Jx func111 J2t J7b q111 rfl (λv=>by kernel_rfl)
def Qbb(p0_:Bool)(p1_:Tm):Option Bool:=
 cond p0_ (some false) (Option.bind (J12 ) λ(b0_:(List Use))=>
 Option.bind (QT b0_ p1_.kind) λ(b1_:Use)=>
 Q7 (Nat.beq b0_.length 13)
 (Option.bind (cond b1_.index (cond b1_.name (cond (decide (b1_.levels<0)) (some ((p1_.kids.length:Int)==b1_.kids)) (cond ((p1_.levels.length:Int)==b1_.levels) (some ((p1_.kids.length:Int)==b1_.kids)) (some false))) (cond (p1_.name==([]:List UInt8)) (cond (decide (b1_.levels<0)) (some ((p1_.kids.length:Int)==b1_.kids)) (cond ((p1_.levels.length:Int)==b1_.levels) (some ((p1_.kids.length:Int)==b1_.kids)) (some false))) (some false))) (cond (p1_.index==0) (cond b1_.name (cond (decide (b1_.levels<0)) (some ((p1_.kids.length:Int)==b1_.kids)) (cond ((p1_.levels.length:Int)==b1_.levels) (some ((p1_.kids.length:Int)==b1_.kids)) (some false))) (cond (p1_.name==([]:List UInt8)) (cond (decide (b1_.levels<0)) (some ((p1_.kids.length:Int)==b1_.kids)) (cond ((p1_.levels.length:Int)==b1_.levels) (some ((p1_.kids.length:Int)==b1_.kids)) (some false))) (some false))) (some false))) (λ(b2_:Bool)=>some b2_)))
def Uj(a0:Tm):Option Bool:=Option.bind (cond (decide (a0.kind<0)) (some true) (some (decide (13<=a0.kind)))) (λ(v1:Bool)=>Qbb v1 a0)
theorem Qx3(a0:Tm)(r:Bool)(h0:Uj a0=some r):Fun prog 109 [.agg (Jbg a0)] (Qg [.one (Jbd r)]):=by
 unfold Uj at h0;refine KE 9 53 func109 Z J2v Z (Jaw Z) (λS w=>?_);simp only[J3];refine Q4<|Q0<|Qk Z Z (Jaw Z) (Y9 Z)<|Jam Z Z Z<|Q3<|Q5<|Q4<|Q4 ?_
 refine Jt (λ(v1:Bool)=>⟨[(1,.v (.one (.ptr 0 0))),(11,.v (.one (Jbd v1)))],[(0,.cells 25 (Jbg a0))],[],1,53,[]⟩) (λ(v1:Bool)=>(Qbb v1 a0)=some r) ?_ ?_;refine Qu h0 (λw1_ h1 h0=>?_);refine Q0<|Jak Z Z Z (Q2 XG Z)<|Jak Z Z Z (Q6 Y8 Z Z Z)<|Jak Z Z Z (Qc Z Z Z)<|Jal Z Z Z ?_
 refine QX (d:=7) (c:=(decide (a0.kind<0))) Z (λc2=>?_) (λc2=>?_);replace h1:=QF c2 h1;refine Q8 Z Z<|Q8 Z Z<|Q8 Z Z<|Jak Z Z Z (Qn Z Z)<|Q3 ?_
 have e:=Jai h1;subst e;exact Qi true (Jah (Cs _) Z Z Z Z Z) h0;replace h1:=QG c2 h1;refine Jak Z Z Z (Q2 XG Z)<|Jak Z Z Z (Q6 Y8 Z Z Z)<|Jak Z Z Z (Qc Z Z Z)<|Jak Z Z Z (QA Z Z)<|Q3 ?_
 have e:=Jai h1;subst e;exact Qi (decide (13<=a0.kind)) (Jah (Cs _) Z Z Z Z Z) h0;intro v1 h0;unfold Qbb at h0;refine Q5 ?_;refine Qz (b:=v1) Z (λc3=>?_) (λc3=>?_);replace h0:=QF c3 h0;refine Q4<|Q0<|Jam Z Z Z<|Q3<|Q5<|QQ ?_
 have e:=Jai h0;subst e;exact Zr (λ_ _ h=>h) Z (Jl Z .nil) (.cons (.one (.d _)) .nil);replace h0:=QG c3 h0;refine QV<|Q5<|Q4 ?_
 refine YI [4,5] [(0,1),(1,1),(2,1),(3,1)] mixed (by kernel_rfl) (by kernel_rfl) (by kernel_rfl) ?_;refine Qu h0 (λx4 hx4 h0=>?_);refine RunA.rd Z Z Z (Yg (Ql5  x4 hx4) Z .nil) Z<|RunA.rd Z Z Z (Q9 (Q2 XG Z)) Z<|RunA.rd Z Z Z (Q9 (Q6 Y8 Z Z Z)) Z ?_
 refine Qu h0 (λx5 hx5 h0=>?_);refine D6 h0 (λg6 h0=>?_);refine RunA.rd Z Z Z (Q9 (Q33 (α:=Use) (tbl:=x4) Qui Z Z g6 Z hx5)) Z<|RunA.eff Z Z Z (QO J4c Z) Z<|RunA.eff Z Z Z (Zt (x5:Use) J3e Z Z Z Z Z) Z ?_
 refine RunA.nil ⟨?ex,_,_,Z,?_⟩;case ex=>exact⟨⟨_,rfl,_,_,rfl,rfl,rfl,.inl ⟨rfl,_,Yg (Ql5  x4 hx4) rfl .nil,rfl⟩⟩,⟨_,rfl,_,_,rfl,rfl,rfl,.inl ⟨rfl,_,Q9 (Q2 XG rfl),rfl⟩⟩,⟨_,rfl,_,_,rfl,rfl,rfl,.inl ⟨rfl,_,Q9 (Q6 Y8 rfl rfl rfl),rfl⟩⟩,⟨_,rfl,_,_,rfl,rfl,rfl,.inl ⟨rfl,_,Q9 (Q33 (α:=Use) (tbl:=x4) Qui rfl rfl g6 rfl hx5),rfl⟩⟩,trivial⟩
 refine XM (st':=⟨[(1,.v (.one (.ptr 0 0))),(3,.v (.one (.ptr 1 0)))],[(0,.cells 25 (Jbg a0)),(1,.cells 155 (Jbg x5))],[],2,53,[]⟩) (Jah (Cs _) Z Z Z Z Z)<|Q5<|Q4 ?_
 refine Jt (λ(v7:Bool)=>⟨[(2,.v (.one (Jbd v7)))],[(0,.cells 25 (Jbg a0)),(1,.cells 155 (Jbg x5))],[],2,53,[]⟩) (λ(v7:Bool)=>(some v7)=some r) ?_ ?_;refine Qu h0 (λw1_ h1 h0=>?_);refine Q0<|Jak Z Z Z (Q2 Qt5 Z)<|Jak Z Z Z (Q6 Qfn Z Z Z)<|Jal Z Z Z ?_
 refine QX (d:=18) (c:=x5.index) Z (λc8=>?_) (λc8=>?_);replace h1:=QF c8 h1;refine Q8 Z Z<|Q8 Z Z<|Q8 Z Z<|Jak Z Z Z (Qn Z Z)<|Jal Z Z Z<|Jak Z Z Z (Q2 Qet Z)<|Jak Z Z Z (Q6 Qfn Z Z Z)<|Jal Z Z Z ?_
 refine QX (d:=26) (c:=x5.name) Z (λc9=>?_) (λc9=>?_);replace h1:=QF c9 h1;refine Q8 Z Z<|Q8 Z Z<|Q8 Z Z<|Jak Z Z Z (Qn Z Z)<|Jak Z Z Z (Qn Z Z)<|Jal Z Z Z<|Jak Z Z Z (Q2 K8 Z)<|Jak Z Z Z (Q6 Y8 Z Z Z)<|Jak Z Z Z (Qc Z Z Z)<|Jal Z Z Z ?_
 refine QX (d:=36) (c:=(decide (x5.levels<0))) Z (λc10=>?_) (λc10=>?_);replace h1:=QF c10 h1;refine Q8 Z Z<|Q8 Z Z<|Q8 Z Z<|Q8 Z Z<|Q8 Z Z<|Q8 Z Z<|Jak Z Z Z (Qn Z Z)<|Jak Z Z Z (Qn Z Z)<|Jal Z Z Z<|Jak Z Z Z (Q2 KB Z)<|Jak Z Z Z (Q6 Q08 Z Z Z)<|Jak Z Z Z (JK (α:=Tm) Un Z (.d _))<|Jak Z Z Z (Q2 K7 Z)<|Jak Z Z Z (Q6 Y8 Z Z Z) ?_
 refine Jak Z Z Z (Qc Z Z Z)<|Jak Z Z Z (Qn Z Z)<|Jam Z Z Z<|Q3 ?_
 have e:=Jai h1;subst e;exact Qi ((a0.kids.length:Int)==x5.kids) (Jah (Cs _) Z Z Z Z Z) h0;replace h1:=QG c10 h1;refine Jak Z Z Z (Q2 Q43 Z)<|Jak Z Z Z (Q6 Qmk Z Z Z)<|Jak Z Z Z (JK (α:=Lvl) Qk1 Z (.d _))<|Jak Z Z Z (Q2 K8 Z)<|Jak Z Z Z (Q6 Y8 Z Z Z)<|Jak Z Z Z (Qc Z Z Z)<|Jak Z Z Z (QA Z Z)<|Jak Z Z Z (Qn Z Z)<|Jal Z Z Z ?_
 refine QX (d:=45) (c:=((a0.levels.length:Int)==x5.levels)) Z (λc11=>?_) (λc11=>?_);replace h1:=QF c11 h1;refine Jak Z Z Z (Q2 KB Z)<|Jak Z Z Z (Q6 Q08 Z Z Z)<|Jak Z Z Z (JK (α:=Tm) Un Z (.d _))<|Jak Z Z Z (Q2 K7 Z)<|Jak Z Z Z (Q6 Y8 Z Z Z)<|Jak Z Z Z (Qc Z Z Z)<|Jak Z Z Z (Qn Z Z)<|Jam Z Z Z<|Q3 ?_
 have e:=Jai h1;subst e;exact Qi ((a0.kids.length:Int)==x5.kids) (Jah (Cs _) Z Z Z Z Z) h0;replace h1:=QG c11 h1;refine Q8 Z Z<|Q8 Z Z<|Q8 Z Z<|Q8 Z Z<|Q8 Z Z<|Q8 Z Z<|Jak Z Z Z (QA Z Z)<|Jam Z Z Z<|Q3 ?_
 have e:=Jai h1;subst e;exact Qi false (Jah (Cs _) Z Z Z Z Z) h0;replace h1:=QG c9 h1;refine Jak Z Z Z (Q2 Qly Z)<|Jak Z Z Z (Q6 Q1q Z Z Z)<|Jak Z Z Z (Qjb Z Z)<|Jak Z Z Z (QA Z Z)<|Jak Z Z Z (Qn Z Z)<|Jal Z Z Z ?_
 refine QX (d:=32) (c:=(a0.name==([]:List UInt8))) Z (λc12=>?_) (λc12=>?_);replace h1:=QF c12 h1;refine Jak Z Z Z (Q2 K8 Z)<|Jak Z Z Z (Q6 Y8 Z Z Z)<|Jak Z Z Z (Qc Z Z Z)<|Jal Z Z Z ?_
 refine QX (d:=36) (c:=(decide (x5.levels<0))) Z (λc13=>?_) (λc13=>?_);replace h1:=QF c13 h1;refine Q8 Z Z<|Q8 Z Z<|Q8 Z Z<|Q8 Z Z<|Q8 Z Z<|Q8 Z Z<|Jak Z Z Z (Qn Z Z)<|Jak Z Z Z (Qn Z Z)<|Jal Z Z Z<|Jak Z Z Z (Q2 KB Z)<|Jak Z Z Z (Q6 Q08 Z Z Z)<|Jak Z Z Z (JK (α:=Tm) Un Z (.d _))<|Jak Z Z Z (Q2 K7 Z)<|Jak Z Z Z (Q6 Y8 Z Z Z) ?_
 refine Jak Z Z Z (Qc Z Z Z)<|Jak Z Z Z (Qn Z Z)<|Jam Z Z Z<|Q3 ?_
 have e:=Jai h1;subst e;exact Qi ((a0.kids.length:Int)==x5.kids) (Jah (Cs _) Z Z Z Z Z) h0;replace h1:=QG c13 h1;refine Jak Z Z Z (Q2 Q43 Z)<|Jak Z Z Z (Q6 Qmk Z Z Z)<|Jak Z Z Z (JK (α:=Lvl) Qk1 Z (.d _))<|Jak Z Z Z (Q2 K8 Z)<|Jak Z Z Z (Q6 Y8 Z Z Z)<|Jak Z Z Z (Qc Z Z Z)<|Jak Z Z Z (QA Z Z)<|Jak Z Z Z (Qn Z Z)<|Jal Z Z Z ?_
 refine QX (d:=45) (c:=((a0.levels.length:Int)==x5.levels)) Z (λc14=>?_) (λc14=>?_);replace h1:=QF c14 h1;refine Jak Z Z Z (Q2 KB Z)<|Jak Z Z Z (Q6 Q08 Z Z Z)<|Jak Z Z Z (JK (α:=Tm) Un Z (.d _))<|Jak Z Z Z (Q2 K7 Z)<|Jak Z Z Z (Q6 Y8 Z Z Z)<|Jak Z Z Z (Qc Z Z Z)<|Jak Z Z Z (Qn Z Z)<|Jam Z Z Z<|Q3 ?_
 have e:=Jai h1;subst e;exact Qi ((a0.kids.length:Int)==x5.kids) (Jah (Cs _) Z Z Z Z Z) h0;replace h1:=QG c14 h1;refine Q8 Z Z<|Q8 Z Z<|Q8 Z Z<|Q8 Z Z<|Q8 Z Z<|Q8 Z Z<|Jak Z Z Z (QA Z Z)<|Jam Z Z Z<|Q3 ?_
 have e:=Jai h1;subst e;exact Qi false (Jah (Cs _) Z Z Z Z Z) h0;replace h1:=QG c12 h1;refine Q8 Z Z<|Q8 Z Z<|Q8 Z Z<|Q8 Z Z<|Q8 Z Z<|Q8 Z Z<|Q8 Z Z<|Q8 Z Z<|Q8 Z Z<|Q8 Z Z<|Q8 Z Z<|Jak Z Z Z (QA Z Z)<|Jal Z Z Z<|Q8 Z Z ?_
 refine Q8 Z Z<|Q8 Z Z<|Q8 Z Z<|Q8 Z Z<|Q8 Z Z<|Jak Z Z Z (QA Z Z)<|Jam Z Z Z<|Q3 ?_
 have e:=Jai h1;subst e;exact Qi false (Jah (Cs _) Z Z Z Z Z) h0;replace h1:=QG c8 h1;refine Jak Z Z Z (Q2 Qxt Z)<|Jak Z Z Z (Q6 Y8 Z Z Z)<|Jak Z Z Z (Qc Z Z Z)<|Jak Z Z Z (QA Z Z)<|Jal Z Z Z ?_
 refine QX (d:=23) (c:=(a0.index==0)) Z (λc15=>?_) (λc15=>?_);replace h1:=QF c15 h1;refine Jak Z Z Z (Q2 Qet Z)<|Jak Z Z Z (Q6 Qfn Z Z Z)<|Jal Z Z Z ?_
 refine QX (d:=26) (c:=x5.name) Z (λc16=>?_) (λc16=>?_);replace h1:=QF c16 h1;refine Q8 Z Z<|Q8 Z Z<|Q8 Z Z<|Jak Z Z Z (Qn Z Z)<|Jak Z Z Z (Qn Z Z)<|Jal Z Z Z<|Jak Z Z Z (Q2 K8 Z)<|Jak Z Z Z (Q6 Y8 Z Z Z)<|Jak Z Z Z (Qc Z Z Z)<|Jal Z Z Z ?_
 refine QX (d:=36) (c:=(decide (x5.levels<0))) Z (λc17=>?_) (λc17=>?_);replace h1:=QF c17 h1;refine Q8 Z Z<|Q8 Z Z<|Q8 Z Z<|Q8 Z Z<|Q8 Z Z<|Q8 Z Z<|Jak Z Z Z (Qn Z Z)<|Jak Z Z Z (Qn Z Z)<|Jal Z Z Z<|Jak Z Z Z (Q2 KB Z)<|Jak Z Z Z (Q6 Q08 Z Z Z)<|Jak Z Z Z (JK (α:=Tm) Un Z (.d _))<|Jak Z Z Z (Q2 K7 Z)<|Jak Z Z Z (Q6 Y8 Z Z Z) ?_
 refine Jak Z Z Z (Qc Z Z Z)<|Jak Z Z Z (Qn Z Z)<|Jam Z Z Z<|Q3 ?_
 have e:=Jai h1;subst e;exact Qi ((a0.kids.length:Int)==x5.kids) (Jah (Cs _) Z Z Z Z Z) h0;replace h1:=QG c17 h1;refine Jak Z Z Z (Q2 Q43 Z)<|Jak Z Z Z (Q6 Qmk Z Z Z)<|Jak Z Z Z (JK (α:=Lvl) Qk1 Z (.d _))<|Jak Z Z Z (Q2 K8 Z)<|Jak Z Z Z (Q6 Y8 Z Z Z)<|Jak Z Z Z (Qc Z Z Z)<|Jak Z Z Z (QA Z Z)<|Jak Z Z Z (Qn Z Z)<|Jal Z Z Z ?_
 refine QX (d:=45) (c:=((a0.levels.length:Int)==x5.levels)) Z (λc18=>?_) (λc18=>?_);replace h1:=QF c18 h1;refine Jak Z Z Z (Q2 KB Z)<|Jak Z Z Z (Q6 Q08 Z Z Z)<|Jak Z Z Z (JK (α:=Tm) Un Z (.d _))<|Jak Z Z Z (Q2 K7 Z)<|Jak Z Z Z (Q6 Y8 Z Z Z)<|Jak Z Z Z (Qc Z Z Z)<|Jak Z Z Z (Qn Z Z)<|Jam Z Z Z<|Q3 ?_
 have e:=Jai h1;subst e;exact Qi ((a0.kids.length:Int)==x5.kids) (Jah (Cs _) Z Z Z Z Z) h0;replace h1:=QG c18 h1;refine Q8 Z Z<|Q8 Z Z<|Q8 Z Z<|Q8 Z Z<|Q8 Z Z<|Q8 Z Z<|Jak Z Z Z (QA Z Z)<|Jam Z Z Z<|Q3 ?_
 have e:=Jai h1;subst e;exact Qi false (Jah (Cs _) Z Z Z Z Z) h0;replace h1:=QG c16 h1;refine Jak Z Z Z (Q2 Qly Z)<|Jak Z Z Z (Q6 Q1q Z Z Z)<|Jak Z Z Z (Qjb Z Z)<|Jak Z Z Z (QA Z Z)<|Jak Z Z Z (Qn Z Z)<|Jal Z Z Z ?_
 refine QX (d:=32) (c:=(a0.name==([]:List UInt8))) Z (λc19=>?_) (λc19=>?_);replace h1:=QF c19 h1;refine Jak Z Z Z (Q2 K8 Z)<|Jak Z Z Z (Q6 Y8 Z Z Z)<|Jak Z Z Z (Qc Z Z Z)<|Jal Z Z Z ?_
 refine QX (d:=36) (c:=(decide (x5.levels<0))) Z (λc20=>?_) (λc20=>?_);replace h1:=QF c20 h1;refine Q8 Z Z<|Q8 Z Z<|Q8 Z Z<|Q8 Z Z<|Q8 Z Z<|Q8 Z Z<|Jak Z Z Z (Qn Z Z)<|Jak Z Z Z (Qn Z Z)<|Jal Z Z Z<|Jak Z Z Z (Q2 KB Z)<|Jak Z Z Z (Q6 Q08 Z Z Z)<|Jak Z Z Z (JK (α:=Tm) Un Z (.d _))<|Jak Z Z Z (Q2 K7 Z)<|Jak Z Z Z (Q6 Y8 Z Z Z) ?_
 refine Jak Z Z Z (Qc Z Z Z)<|Jak Z Z Z (Qn Z Z)<|Jam Z Z Z<|Q3 ?_
 have e:=Jai h1;subst e;exact Qi ((a0.kids.length:Int)==x5.kids) (Jah (Cs _) Z Z Z Z Z) h0;replace h1:=QG c20 h1;refine Jak Z Z Z (Q2 Q43 Z)<|Jak Z Z Z (Q6 Qmk Z Z Z)<|Jak Z Z Z (JK (α:=Lvl) Qk1 Z (.d _))<|Jak Z Z Z (Q2 K8 Z)<|Jak Z Z Z (Q6 Y8 Z Z Z)<|Jak Z Z Z (Qc Z Z Z)<|Jak Z Z Z (QA Z Z)<|Jak Z Z Z (Qn Z Z)<|Jal Z Z Z ?_
 refine QX (d:=45) (c:=((a0.levels.length:Int)==x5.levels)) Z (λc21=>?_) (λc21=>?_);replace h1:=QF c21 h1;refine Jak Z Z Z (Q2 KB Z)<|Jak Z Z Z (Q6 Q08 Z Z Z)<|Jak Z Z Z (JK (α:=Tm) Un Z (.d _))<|Jak Z Z Z (Q2 K7 Z)<|Jak Z Z Z (Q6 Y8 Z Z Z)<|Jak Z Z Z (Qc Z Z Z)<|Jak Z Z Z (Qn Z Z)<|Jam Z Z Z<|Q3 ?_
 have e:=Jai h1;subst e;exact Qi ((a0.kids.length:Int)==x5.kids) (Jah (Cs _) Z Z Z Z Z) h0;replace h1:=QG c21 h1;refine Q8 Z Z<|Q8 Z Z<|Q8 Z Z<|Q8 Z Z<|Q8 Z Z<|Q8 Z Z<|Jak Z Z Z (QA Z Z)<|Jam Z Z Z<|Q3 ?_
 have e:=Jai h1;subst e;exact Qi false (Jah (Cs _) Z Z Z Z Z) h0;replace h1:=QG c19 h1;refine Q8 Z Z<|Q8 Z Z<|Q8 Z Z<|Q8 Z Z<|Q8 Z Z<|Q8 Z Z<|Q8 Z Z<|Q8 Z Z<|Q8 Z Z<|Q8 Z Z<|Q8 Z Z<|Jak Z Z Z (QA Z Z)<|Jal Z Z Z<|Q8 Z Z ?_
 refine Q8 Z Z<|Q8 Z Z<|Q8 Z Z<|Q8 Z Z<|Q8 Z Z<|Jak Z Z Z (QA Z Z)<|Jam Z Z Z<|Q3 ?_
 have e:=Jai h1;subst e;exact Qi false (Jah (Cs _) Z Z Z Z Z) h0;replace h1:=QG c15 h1;refine Q8 Z Z<|Q8 Z Z<|Q8 Z Z<|Q8 Z Z<|Q8 Z Z<|Q8 Z Z<|Q8 Z Z<|Jak Z Z Z (QA Z Z)<|Jal Z Z Z<|Q8 Z Z<|Q8 Z Z<|Q8 Z Z<|Q8 Z Z<|Q8 Z Z ?_
 refine Q8 Z Z<|Q8 Z Z<|Q8 Z Z<|Q8 Z Z<|Q8 Z Z<|Q8 Z Z<|Jak Z Z Z (QA Z Z)<|Jal Z Z Z<|Q8 Z Z<|Q8 Z Z<|Q8 Z Z<|Q8 Z Z<|Q8 Z Z<|Q8 Z Z ?_
 refine Jak Z Z Z (QA Z Z)<|Jam Z Z Z<|Q3 ?_
 have e:=Jai h1;subst e;exact Qi false (Jah (Cs _) Z Z Z Z Z) h0;intro v7 h0;refine Q5<|QQ ?_
 have e:=Jai h0;subst e;exact Zr (λ_ _ h=>h) Z (Jl Z .nil) (.cons (.one (.d _)) .nil)
def q109:KF UV:=⟨[.stc .t25],[.bool],λv=>Uj v⟩
theorem Qw1:JY DV .any prog 109 q109:=⟨rfl,λv r h=>Q0h (Eq.mp (show _=Fun prog 109 (QE DV q109.args v) (Qg (QE DV q109.res r))from by kernel_rfl) (Qx3 v r h))⟩
def Zd(a1:Tm)(a0:Scp)(s1:Int):Option (LO Int (Unit⊕Int)):=
 cond (decide (s1<(a1.levels.length:Int))) (Option.bind (QT a1.levels s1) λ(x9:Lvl)=>
 Option.bind (Q5i a0 x9) λ(x10:Int)=>
 cond (x10 != 0) (some (.done (.inr x10))) (some (.next (Qm (s1+1))))) (some (.done (.inl ())))
def GB(p0_:Tm)(p1_:Scp)(p2_:Int):Option Int:=Option.bind (cond (p0_.kind==0) (cond (decide (p0_.index<0)) (some true) (some (decide (p1_.vars<=(Qm (p0_.index-p2_)))))) (some false)) (λ(b0_:Bool)=>cond b0_ (some 24) (Option.bind (cond (p0_.kind==12) (cond (decide (p0_.index<0)) (some true) (some (decide (p1_.metas<=p0_.index)))) (some false)) (λ(b1_:Bool)=>cond b1_ (some 23) (some 0))))
def Qwj(a0:Scp)(a1:Tm)(a2:Int):Option Int:=
 Option.bind (Uj a1) λ(x1:Bool)=>
 cond (!x1) (some 3) (cond (a1.kind==3) (Option.bind (Q13 a1.name) λ(x4:Bool)=>
 cond (!x4) (some 29) (cond (decide (8<(a1.levels.length:Int))) (some 6) (Option.bind (Qa (Zd a1 a0) Qd 0) (Sum.elim (λ(o7:Unit)=>GB a1 a0 a2) (λo=>some o))))) (Option.bind (Qa (Zd a1 a0) Qd 0) (Sum.elim (λ(o21:Unit)=>GB a1 a0 a2) (λo=>some o))))
def J81(a0:Scp)(a1:Tm)(a2:Int):Option (Int):=Option.bind (Uj a1) λ(x1:Bool)=>cond ((!x1)) (some 3) (Option.bind (α:=Unit⊕Int) (cond ((a1.kind==3)) (Option.bind (Q13 a1.name) λ(x4:Bool)=>cond ((!x4)) (some (.inr 29)) (cond ((decide (8<(a1.levels.length:Int)))) (some (.inr 6)) (some (.inl ())))) (some (.inl ()))) (Sum.elim (λ(v3:Unit)=>Option.bind (Qa (σ:=Int) (β:=Unit⊕Int) (λs8=>cond ((decide (s8<(a1.levels.length:Int)))) (Option.bind (QT a1.levels s8) λ(x10:Lvl)=>Option.bind (Q5i a0 x10) λ(x11:Int)=>cond ((x11 != 0)) (some (.done (.inr x11))) (some (.next (Qm (s8+1))))) (some (.done (.inl ())))) Qd 0) (Sum.elim (λ(v9:Unit)=>Option.bind (cond ((a1.kind==0)) (cond ((decide (a1.index<0))) (some true) (some (decide (a0.vars<=(Qm (a1.index-a2)))))) (some false)) λ(v12:Bool)=>cond v12 (some 24) (Option.bind (cond ((a1.kind==12)) (cond ((decide (a1.index<0))) (some true) (some (decide (a0.metas<=a1.index)))) (some false)) λ(v13:Bool)=>cond v13 (some 23) (some 0))) (λ(o14:Int)=>some o14))) (λ(o5:Int)=>some o5)))
def p59:KF UV:=⟨[.stc .t107,.stc .t25,.int .i64],[.int .i64],λv=>J81 v.1 v.2.1 v.2.2⟩
def J8y:Hints UV:=⟨[(5,⟨[],[],true⟩),(13,⟨[([.reg 27],.int .i64)],[],true⟩),(24,⟨[([.reg 38],.bool)],[],false⟩),(27,⟨[([.reg 56],.bool)],[],false⟩)],[]⟩
theorem J01:JY DV .any prog 59 p59:=Yj (C:=Jc5) rfl Qx Qj (Qw (tb:=[(109,q109),(110,q110),(111,q111)]) Qj ⟨Qw1,Qkc,Qw0,trivial⟩) Jx func59 J6h J8y p59 rfl (λv=>by kernel_rfl)
theorem J07(a0:Scp)(a1:Tm)(a2:Int):J81 a0 a1 a2=Qwj a0 a1 a2:=by unfold J81 Qwj;cases Uj a1 with|none=>rfl|some x1=>cases x1 with|false=>rfl|true=>cases hk:(a1.kind==3)with|false=>rfl|true=>cases Q13 a1.name with|none=>rfl|some x4=>cases x4 with|false=>rfl|true=>cases(decide (8<(a1.levels.length:Int))) <;> rfl
def q59:KF UV:=⟨[.stc .t107,.stc .t25,.int .i64],[.int .i64],λv=>Qwj v.1 v.2.1 v.2.2⟩
theorem Qzx:JY DV .any prog 59 q59:=⟨rfl,λv r h=>J01.2 v r ((J07 v.1 v.2.1 v.2.2).trans h)⟩
theorem J0n(a0:Scp)(a1:Tm)(a2:Int)(r:Int)(h0:Qwj a0 a1 a2=some r):Fun prog 59 [.agg (Jbg a0),.agg (Jbg a1),.one (Jbc a2)] (Qg [.one (Jbc r)]):=FunW.any (Eq.mp (show FunW .any prog 59 (QE DV q59.args (a0,a1,a2)) (Qg (QE DV q59.res r))=_ from by kernel_rfl) (Qzx.2 (a0,a1,a2) r h0))
def U4(p0_:Tm×Int×Tm×Int×Scp×Int×Tm->Option ((Int×Int)⊕(Bool×Int)))(p1_:Tm)(p2_:Int)(p3_:Tm)(p4_:Int)(p5_:Scp)(p6_:Int×Int)(p7_:Tm):Option (LO (Int×Int) (Int⊕((Int×Int)⊕(Bool×Int)))):=Option.bind (p0_ (p1_,p2_,p3_,p4_,p5_,p6_.2,p7_)) (Sum.elim (λ(b0_:Int×Int)=>some (.done (.inr (.inl (b0_.1,b0_.2))))) (λ(b1_:Bool×Int)=>cond (!b1_.1) (some (.done (.inr (.inr (false,b1_.2))))) (some (.next ((Qm (p6_.1+1)),b1_.2)))))
def Z3(a0:Tm)(v9:Int)(a1:Int)(rc:Tm×Int×Tm×Int×Scp×Int×Tm->Option ((Int×Int)⊕(Bool×Int)))(a2:Tm)(a3:Int)(a4:Scp)(a6:Tm)(s1:Int×Int):Option (LO (Int×Int) (Int⊕((Int×Int)⊕(Bool×Int)))):=
 cond (decide (s1.1<(a0.kids.length:Int))) (Option.bind (QT a0.kids s1.1) λ(x12:Tm)=>
 Option.bind (cond (s1.1==v9) (some (Qm (a1+1))) (some a1)) (λ(v13:Int)=>U4 rc x12 v13 a2 a3 a4 s1 a6)) (some (.done (.inl s1.2)))
def KL(p0_:Bool)(p1_:Tm)(p2_:Int)(p3_:Tm×Int×Tm×Int×Scp×Int×Tm->Option ((Int×Int)⊕(Bool×Int)))(p4_:Tm)(p5_:Int)(p6_:Scp)(p7_:Tm)(p8_:Int):Option ((Int×Int)⊕(Bool×Int)):=
 Option.bind (cond p0_ (Q7 (cond (decide (0<=p1_.kind)) (Nat.blt p1_.kind.toNat 13) false)
 (Option.bind (QT ([(-1),(-1),(-1),(-1),(-1),1,1,1,(-1),(-1),(-1),2,(-1)]:List Int) p1_.kind) λ(b0_:Int)=>
 some b0_)) (some (-1))) (λ(b1_:Int)=>Option.bind (Qa (Z3 p1_ b1_ p2_ p3_ p4_ p5_ p6_ p7_) Qd (0,(Qm (p8_+1)))) (Sum.elim (λ(b2_:Int)=>some (.inr (true,b2_))) (λo=>some o)))
abbrev Yl:HB:=.loop .ready none Va 45 #[27,28] Ze Yx 2
abbrev J1:HB:=.cells 156 [Jbd true,Jbd false,Jbc 0,Jbc 0,Jbc (-1),Jbd false,Jbd false,Jbc 0,Jbc 0,Jbc (-1),Jbd false,Jbd false,Jbc 1,Jbc 0,Jbc (-1),Jbd false,Jbd true,Jbc (-1),Jbc 0,Jbc (-1),Jbd false,Jbd false,Jbc 0,Jbc 2,Jbc (-1),Jbd false,Jbd false,Jbc 0,Jbc 2,Jbc 1,Jbd false,Jbd false,Jbc 0,Jbc 2,Jbc 1,Jbd false,Jbd false,Jbc 0,Jbc 2,Jbc 1,Jbd false,Jbd false,Jbc 0,Jbc 3,Jbc (-1),Jbd false,Jbd false,Jbc 0,Jbc 1,Jbc (-1),Jbd false,Jbd false,Jbc 0,Jbc 1,Jbc (-1),Jbd false,Jbd false,Jbc 0,Jbc 3,Jbc 2,Jbd true,Jbd false,Jbc 0,Jbc 0,Jbc (-1)]
abbrev Qo9(p0_:Tm)(p1_:Int)(p2_:Scp)(p3_:Int)(p4_:Tm)(p5_:Tm):List (Nat×HB):=[Vf,(1,Yl),Vd,(3,.cells 25 (Jbg p0_)),(4,.cells 28 [Jbc p1_]),(5,.cells 107 (Jbg p2_)),(6,.cells 3 [Jbc p3_]),(7,.cells 25 (Jbg p4_)),(8,J1),Vc,(10,.cells 25 (Jbg p5_))]
abbrev KM:HB:=.loop .busy none Va 45 #[27,28] Ze Yx 2
abbrev U6(p0_:Tm)(p1_:Int)(p2_:Scp)(p3_:Int)(p4_:Tm)(p5_:Tm):List (Nat×HB):=[Vf,(1,KM),Vd,(3,.cells 25 (Jbg p0_)),(4,.cells 28 [Jbc p1_]),(5,.cells 107 (Jbg p2_)),(6,.cells 3 [Jbc p3_]),(7,.cells 25 (Jbg p4_)),(8,J1),Vc,(10,.cells 25 (Jbg p5_)),(11,.cells 25 (Jbg p5_))]
abbrev Qo8(p0_:Tm)(p1_:Int)(p2_:Scp)(p3_:Int)(p4_:Tm)(p5_:Tm):List (Nat×HB):=[Vf,(1,Yl),Vd,(3,.cells 25 (Jbg p0_)),(4,.cells 28 [Jbc p1_]),(5,.cells 107 (Jbg p2_)),(6,.cells 3 [Jbc p3_]),(7,.cells 25 (Jbg p4_)),(8,J1),Vc,(10,.cells 25 (Jbg p5_)),(11,.cells 25 (Jbg p5_))]
abbrev U5(p0_:Tm)(p1_:Int)(p2_:Scp)(p3_:Int)(p4_:Tm)(p5_:Tm):List (Nat×HB):=[Vf,(1,KM),Vd,(3,.cells 25 (Jbg p0_)),(4,.cells 28 [Jbc p1_]),(5,.cells 107 (Jbg p2_)),(6,.cells 3 [Jbc p3_]),(7,.cells 25 (Jbg p4_)),(8,J1),Vc,(10,.cells 25 (Jbg p5_))]
abbrev Qo7(p0_:Tm)(p1_:Int)(p2_:Scp)(p3_:Int×Int)(p4_:Tm)(p5_:Tm)(p6_:Tm):List (Nat×HB):=[Vf,(1,Yl),Vd,(3,.cells 25 (Jbg p0_)),(4,.cells 28 [Jbc p1_]),(5,.cells 107 (Jbg p2_)),(6,.cells 3 [Jbc p3_.2]),(7,.cells 25 (Jbg p4_)),(8,J1),Vc,(10,.cells 25 (Jbg p5_)),(12,.cells 25 (Jbg p6_))]
abbrev Q14:HB:=.loop .done (some .ret) Va 45 #[27,28] Ze Yx 2
abbrev Qo6(p0_:Tm)(p1_:Int×Int)(p2_:Scp)(p3_:Tm):List (Nat×HB):=[Vf,(1,Q14),Vd,(3,.cells 25 (Jbg p0_)),(4,.cells 28 [Jbc p1_.1]),(5,.cells 107 (Jbg p2_)),(6,.cells 3 [Jbc p1_.2]),(7,.cells 25 (Jbg p3_)),(8,J1),Vc]
abbrev Qhu(p0_:Tm)(p1_:Int)(p2_:Scp)(p3_:Bool×Int)(p4_:Tm):List (Nat×HB):=[Vf,(1,Yl),Vd,(3,.cells 25 (Jbg p0_)),(4,.cells 28 [Jbc p1_]),(5,.cells 107 (Jbg p2_)),(6,.cells 3 [Jbc p3_.2]),(7,.cells 25 (Jbg p4_)),(8,J1),Vc]
abbrev ZL(p0_:Tm)(p1_:Int)(p2_:Scp)(p3_:Int)(p4_:Tm):List (Nat×HB):=[Vf,(1,Yl),Vd,(3,.cells 25 (Jbg p0_)),(4,.cells 28 [Jbc p1_]),(5,.cells 107 (Jbg p2_)),(6,.cells 3 [Jbc p3_]),(7,.cells 25 (Jbg p4_)),(8,J1),Vc]
abbrev Qht(p0_:Tm)(p1_:Int)(p2_:Scp)(p3_:Int)(p4_:Tm):List (Nat×HB):=[Vf,(1,Q14),Vd,(3,.cells 25 (Jbg p0_)),(4,.cells 28 [Jbc p1_]),(5,.cells 107 (Jbg p2_)),(6,.cells 3 [Jbc p3_]),(7,.cells 25 (Jbg p4_)),(8,J1),Vc]
def U3(rc:Tm×Int×Tm×Int×Scp×Int×Tm->Option ((Int×Int)⊕(Bool×Int)))(a0:Tm)(a1:Int)(a2:Tm)(a3:Int)(a4:Scp)(a5:Int)(a6:Tm):Option ((Int×Int)⊕(Bool×Int)):=
 Option.bind (Option.bind (Qwj a4 a0 a1) λ(x6:Int)=>
 cond (x6 != 0) (some (.inr x6)) (some (.inl ()))) (Sum.elim (λ(y1:Unit)=>Option.bind (cond (decide (0<=a0.kind)) (some (decide (a0.kind<13))) (some false)) (λ(v8:Bool)=>KL v8 a0 a1 rc a2 a3 a4 a6 a5)) (λ(y2:Int)=>some (.inl (y2,a5))))
def Zf(rc:Tm×Int×Tm×Int×Scp×Int×Tm->Option ((Int×Int)⊕(Bool×Int)))(u:Tm×Int×Tm×Int×Scp×Int×Tm):Option ((Int×Int)⊕(Bool×Int)):=U3 rc u.1 u.2.1 u.2.2.1 u.2.2.2.1 u.2.2.2.2.1 u.2.2.2.2.2.1 u.2.2.2.2.2.2
def Qhw(a0:Tm)(a1:Int)(a2:Tm)(a3:Int)(a4:Scp)(a5:Int)(a6:Tm):Option ((Int×Int)⊕(Bool×Int)):=Jo Zf Qd (a0,a1,a2,a3,a4,a5,a6)
abbrev Jj(a0:Tm)(a1:Int)(a2:Tm)(a3:Int)(a4:Scp)(a5:Int)(a6:Tm):(Int×Int)⊕(Bool×Int)->St:=(Sum.elim (λ(r0:Int×Int)=>(⟨[(7,.v (.one (Jbd false)))],[Vf,(1,Q14),Vd,(3,.cells 25 (Jbg a2)),(4,.cells 28 [Jbc r0.1]),(5,.cells 107 (Jbg a4)),(6,.cells 3 [Jbc r0.2]),(7,.cells 25 (Jbg a6)),(8,J1),Vc],[],12,50,[]⟩:St)) (λ(r1:Bool×Int)=>(⟨[(7,.v (.one (Jbd r1.1)))],[Vf,(1,Yl),Vd,(3,.cells 25 (Jbg a2)),(4,.cells 28 [Jbc a3]),(5,.cells 107 (Jbg a4)),(6,.cells 3 [Jbc r1.2]),(7,.cells 25 (Jbg a6)),(8,J1),Vc],[],12,50,[]⟩:St)))
theorem Qhs(rc:Tm×Int×Tm×Int×Scp×Int×Tm->Option ((Int×Int)⊕(Bool×Int)))(H:∀(a0:Tm)(a1:Int)(a2:Tm)(a3:Int)(a4:Scp)(a5:Int)(a6:Tm)(r:(Int×Int)⊕(Bool×Int)),rc (a0,a1,a2,a3,a4,a5,a6)=some r->CallE prog 108 [.agg (Jbg a0),.one (Jbc a1),.one (.ptr 0 0),.one (.ptr 8 0),.one (.ptr 9 0)] ⟨ZL a2 a3 a4 a5 a6,[],10⟩ ((Sum.elim (λ(r0:Int×Int)=>((.ret [.one (Jbd false)]):EK)) (λ(r1:Bool×Int)=>((.ret [.one (Jbd r1.1)]):EK))) r) ⟨((Jj a0 a1 a2 a3 a4 a5 a6) r).hp,((Jj a0 a1 a2 a3 a4 a5 a6) r).tk,((Jj a0 a1 a2 a3 a4 a5 a6) r).nx⟩)(a0:Tm)(a1:Int)(a2:Tm)(a3:Int)(a4:Scp)(a5:Int)(a6:Tm)(r:(Int×Int)⊕(Bool×Int))(h0:U3 rc a0 a1 a2 a3 a4 a5 a6=some r):CallE prog 108 [.agg (Jbg a0),.one (Jbc a1),.one (.ptr 0 0),.one (.ptr 8 0),.one (.ptr 9 0)] ⟨ZL a2 a3 a4 a5 a6,[],10⟩ ((Sum.elim (λ(r0:Int×Int)=>((.ret [.one (Jbd false)]):EK)) (λ(r1:Bool×Int)=>((.ret [.one (Jbd r1.1)]):EK))) r) ⟨((Jj a0 a1 a2 a3 a4 a5 a6) r).hp,((Jj a0 a1 a2 a3 a4 a5 a6) r).tk,((Jj a0 a1 a2 a3 a4 a5 a6) r).nx⟩:=by
 unfold U3 at h0;refine Q7w r ((Jj a0 a1 a2 a3 a4 a5 a6)) ((Sum.elim (λ(r0:Int×Int)=>((.ret [.one (Jbd false)]):EK)) (λ(r1:Bool×Int)=>((.ret [.one (Jbd r1.1)]):EK)))) rfl rfl J2w (Jaw rfl) (λz_=>by cases z_ with
 |inl _=>exact rfl
 |inr _=>exact rfl) (λz_=>by cases z_ with
 |inl _=>exact(J99 (Jl rfl .nil))
 |inr _=>exact(J99 (Jl rfl .nil))) (λw0 M V0 Q hv0 hQ0=>?_)
 simp only[J3];refine Q4<|Q0<|Qk Z Z (Jaw Z) (Y9 Z)<|Jam Z Z Z<|Q3<|Q5<|Q4<|Q4<|Q0<|Jak Z Z Z (Q6 J3f Z Z Z)<|Jal Z Z Z<|Jak Z Z Z (ZU (a0:Tm) Q07 Z Z) ?_
 refine Qu h0 (λy3 h1 h0=>?_);have ha4:ExecOK prog (some 1) Ze ⟨[(5,.v (.one (.ptr 3 0))),(10,.v (.one (.ptr 4 0))),(11,.v (.one (.ptr 5 0))),(12,.v (.one (.ptr 6 0))),(26,.v (.one (.fn 106 [(7,0)]))),(27,.v (.one (Jbc a1))),(28,.v (.agg (Jbg a0)))],Qo9 a2 a3 a4 a5 a6 a0,[],11,45,[]⟩ .normal ⟨[(10,.v (.one (.ptr 4 0))),(11,.v (.one (.ptr 5 0))),(12,.v (.one (.ptr 6 0))),(13,.v (.one (Jbc a1))),(14,.v (.one (.ptr 11 0)))],Qo8 a2 a3 a4 a5 a6 a0,[],12,45,[]⟩:=by refine Q36 (λw0 M V0 ro n Q hv1 hro1 hQn1=>?_);(refine Q4<|Q0<|Jam Z Z Z<|Q3<|Q5<|Q0<|Qk Z Z (Jaw Z) (QO J4b Z)<|QN Z Z (Zt (a0:Tm) Q07 Z Z Z Z Z)<|Q3 ?_);exact Quo hQn1 (Jah (Cc hv1 (Jaw Z)) Z Z Z Z Z)
 have hb5:ExecOK prog (some 1) Yx ⟨[(10,.v (.one (.ptr 4 0))),(11,.v (.one (.ptr 5 0))),(12,.v (.one (.ptr 6 0))),(13,.v (.one (Jbc a1))),(14,.v (.one (.ptr 11 0)))],U6 a2 a3 a4 a5 a6 a0,[],12,45,[]⟩ ((Sum.elim (λ(_:Unit)=>(.normal:Exit)) (λ(_:Int)=>(.ret:Exit))) y3) ((Sum.elim (λ(y1:Unit)=>(⟨[],[Vf,(1,KM),Vd,(3,.cells 25 (Jbg a2)),(4,.cells 28 [Jbc a3]),(5,.cells 107 (Jbg a4)),(6,.cells 3 [Jbc (Qm (a5+1))]),(7,.cells 25 (Jbg a6)),(8,J1),Vc,(10,.cells 25 (Jbg a0))],[],12,45,[]⟩:St)) (λ(y2:Int)=>(⟨[],U5 a2 y2 a4 a5 a6 a0,[],12,45,[]⟩:St))) y3):=by
  refine Q36 (λw0 M V0 ro n Q hv1 hro1 hQn1=>?_);refine QH<|Q4<|Q4<|Q0<|Jak Z Z Z (ZU (a4:Scp) Qun Z Z)<|Jak Z Z Z (ZU (a0:Tm) Q07 Z Z)<|Jal Z Z Z ?_
  refine Qu h1 (λx6 hx6 h1=>?_);refine Qk Z Z (Jaw Z) (Yg (J0n a4 a0 a1 x6 hx6) Z (.cons (.agg (.cons (.d _) (.cons (.d _) (.cons (.d _) (.cons (.d _) .nil))))) (.cons (.agg (.cons (.d _) (.cons (.d _) (.cons (.d _) (.cons (.d _) (.cons (.d _) .nil)))))) (.cons (.one (.d _)) .nil))))<|Jam Z Z Z<|Q3<|Q5<|Q4<|Q0<|Jal Z Z Z<|Jak Z Z Z (Qc Z Z Z)<|Q3<|Q5 ?_
  refine Qz (b:=(x6 != 0)) Z (λc7=>?_) (λc7=>?_);replace h1:=QF c7 h1;refine Q4<|Q0<|Jal Z Z Z<|QN Z Z (Qh Xb Z Z Z Z (Jaw Z) Z)<|Q3<|Q5<|QQ ?_
  have e:=Jai h1;subst e;exact Quo (e:=.ret) (st':=⟨[],U5 a2 x6 a4 a5 a6 a0,[],12,45,[]⟩) hQn1 (Jah (Cc hv1 (Jaw Z)) Z Z Z Z Z);replace h1:=QG c7 h1;refine QV<|Q5<|Q0<|Jak Z Z Z (Q6 Y8 Z Z Z)<|Jak Z Z Z (Qc Z Z Z)<|QN Z Z (Qh Y8 Z Z Z Z (Jaw Z) Z)<|Q3<|Ji ?_
  have e:=Jai h1;subst e;exact Quo (e:=.normal) (st':=⟨[],[Vf,(1,KM),Vd,(3,.cells 25 (Jbg a2)),(4,.cells 28 [Jbc a3]),(5,.cells 107 (Jbg a4)),(6,.cells 3 [Jbc (Qm (a5+1))]),(7,.cells 25 (Jbg a6)),(8,J1),Vc,(10,.cells 25 (Jbg a0))],[],12,45,[]⟩) hQn1 (Jah (Cc hv1 (Jaw Z)) Z Z Z Z Z)
 refine J4k (C:=λq_=>ExecOK prog (some 1) Yx ⟨[(10,.v (.one (.ptr 4 0))),(11,.v (.one (.ptr 5 0))),(12,.v (.one (.ptr 6 0))),(13,.v (.one (Jbc a1))),(14,.v (.one (.ptr 11 0)))],U6 a2 a3 a4 a5 a6 a0,[],12,45,[]⟩ ((Sum.elim (λ(_:Unit)=>(.normal:Exit)) (λ(_:Int)=>(.ret:Exit))) q_) ((Sum.elim (λ(y1:Unit)=>(⟨[],[Vf,(1,KM),Vd,(3,.cells 25 (Jbg a2)),(4,.cells 28 [Jbc a3]),(5,.cells 107 (Jbg a4)),(6,.cells 3 [Jbc (Qm (a5+1))]),(7,.cells 25 (Jbg a6)),(8,J1),Vc,(10,.cells 25 (Jbg a0))],[],12,45,[]⟩:St)) (λ(y2:Int)=>(⟨[],U5 a2 y2 a4 a5 a6 a0,[],12,45,[]⟩:St))) q_)) hb5 h0 (λy1 hb5 h0=>?_) (λy2 hb5 h0=>?_);replace hb5:ExecOK prog (some 1) Yx ⟨[(10,.v (.one (.ptr 4 0))),(11,.v (.one (.ptr 5 0))),(12,.v (.one (.ptr 6 0))),(13,.v (.one (Jbc a1))),(14,.v (.one (.ptr 11 0)))],U6 a2 a3 a4 a5 a6 a0,[],12,45,[]⟩ .normal ⟨[],[Vf,(1,KM),Vd,(3,.cells 25 (Jbg a2)),(4,.cells 28 [Jbc a3]),(5,.cells 107 (Jbg a4)),(6,.cells 3 [Jbc (Qm (a5+1))]),(7,.cells 25 (Jbg a6)),(8,J1),Vc,(10,.cells 25 (Jbg a0))],[],12,45,[]⟩:=hb5;refine Qk Z Z (Jaw Z) (Q77 (jump:=none) Z Z Z Z Z (Gy ha4 (λE hv=>(Jah (Cc hv (Jaw Z)) Z Z Z Z Z))) Z (Gy hb5 (λE hv=>(Jah (Cc hv (Jaw Z)) Z Z Z Z Z))) Z Z) ?_;refine Jak Z Z Z (GG Z)<|Q3<|Q5 ?_
 refine Qz Z (λh=>nomatch h) (λ_=>?_);refine QV<|Q5<|Q4<|Q0<|Jam Z Z Z<|Q3<|Q5<|Q4<|Q4 ?_
 refine Jt (λ(v8:Bool)=>⟨[(1,.v (.one (Jbc a1))),(3,.v (.one (.ptr 8 0))),(4,.v (.one (.ptr 9 0))),(5,.v (.one (.ptr 10 0))),(8,.v (.one (Jbc (-1)))),(24,.v (.one (Jbd v8)))],[Vf,(1,Yl),Vd,(3,.cells 25 (Jbg a2)),(4,.cells 28 [Jbc a3]),(5,.cells 107 (Jbg a4)),(6,.cells 3 [Jbc (Qm (a5+1))]),(7,.cells 25 (Jbg a6)),(8,J1),Vc,(10,.cells 25 (Jbg a0))],[],12,50,[]⟩) (λ(v8:Bool)=>(KL v8 a0 a1 rc a2 a3 a4 a6 a5)=some r) ?_ ?_;refine Qu h0 (λw1_ h1 h0=>?_);refine Q0<|Jak Z Z Z (Q2 XG Z)<|Jak Z Z Z (Q6 Y8 Z Z Z)<|Jak Z Z Z (Qc Z Z Z)<|Jal Z Z Z ?_
 refine QX (d:=20) (c:=(decide (0<=a0.kind))) Z (λc9=>?_) (λc9=>?_);replace h1:=QF c9 h1;refine Jak Z Z Z (Q2 XG Z)<|Jak Z Z Z (Q6 Y8 Z Z Z)<|Jak Z Z Z (Qc Z Z Z)<|Jak Z Z Z (Qn Z Z)<|Q3 ?_
 have e:=Jai h1;subst e;exact Qi (decide (a0.kind<13)) (Jah (Cc hv0 (Jaw Z)) Z Z Z Z Z) h0;replace h1:=QG c9 h1;refine Q8 Z Z<|Q8 Z Z<|Q8 Z Z<|Jak Z Z Z (QA Z Z)<|Q3 ?_
 have e:=Jai h1;subst e;exact Qi false (Jah (Cc hv0 (Jaw Z)) Z Z Z Z Z) h0;intro v8 h0;unfold KL at h0;refine Q5 ?_;refine Jt (λ(v10:Int)=>⟨[(1,.v (.one (Jbc a1))),(4,.v (.one (.ptr 9 0))),(5,.v (.one (.ptr 10 0))),(8,.v (.one (Jbc v10)))],[Vf,(1,Yl),Vd,(3,.cells 25 (Jbg a2)),(4,.cells 28 [Jbc a3]),(5,.cells 107 (Jbg a4)),(6,.cells 3 [Jbc (Qm (a5+1))]),(7,.cells 25 (Jbg a6)),(8,J1),Vc,(10,.cells 25 (Jbg a0))],[],12,50,[]⟩) (λ(v10:Int)=>(Option.bind (Qa (Z3 a0 v10 a1 rc a2 a3 a4 a6) Qd (0,(Qm (a5+1)))) (Sum.elim (λ(o11:Int)=>some (.inr (true,o11))) (λo=>some o)))=some r) ?_ ?_;refine Qu h0 (λw1_ h1 h0=>?_);refine Qz (b:=v8) Z (λc11=>?_) (λc11=>?_);replace h1:=QF c11 h1;refine Q0<|Jak Z Z Z (Q2 XG Z)<|Jak Z Z Z (Q6 Y8 Z Z Z) ?_
 refine D6 h1 (λg12 h1=>?_);refine Jak Z Z Z (Qpf Qyc Z Z g12)<|Jak Z Z Z (Q2 Qt4 Z) ?_
 refine Qu h1 (λx13 hx13 h1=>?_);refine Jak Z Z Z (Qja (m:=a0.kind) (sz:=5) (f:=4) (col:=([(-1),(-1),(-1),(-1),(-1),1,1,1,(-1),(-1),(-1),2,(-1)]:List Int)) Y8 Z Z Z hx13)<|Jam Z Z Z<|Q3 ?_
 have e:=Jai h1;subst e;exact Qi x13 (Jah (Cc hv0 (Jaw Z)) Z Z Z Z Z) h0;replace h1:=QG c11 h1;refine QV ?_;have e:=Jai h1;subst e;exact Qi (-1) (Jah (Cc hv0 (Jaw Z)) Z Z Z Z Z) h0;intro v10 h0;refine Q5<|Q4<|Q4<|Q0<|Jak Z Z Z (Q2 KB Z)<|Jak Z Z Z (Q6 Q08 Z Z Z)<|Jak Z Z Z (JK (α:=Tm) Un Z (.d _))<|Jal Z Z Z<|Q3<|Q5<|QH ?_
 refine Gh 0 (λ(o14:Int)=>⟨[],[Vf,(1,Yl),Vd,(3,.cells 25 (Jbg a2)),(4,.cells 28 [Jbc a3]),(5,.cells 107 (Jbg a4)),(6,.cells 3 [Jbc o14]),(7,.cells 25 (Jbg a6)),(8,J1),Vc,(10,.cells 25 (Jbg a0))],[],12,50,[]⟩) (λ(o14:Int)=>(some (.inr (true,o14)))=some r) ?_ ?_;refine Qu h0 (λo15 hl1 h0=>?_);refine Gg (Z3 a0 v10 a1 rc a2 a3 a4 a6) (λs1=>⟨[(1,.v (.one (Jbc a1))),(4,.v (.one (.ptr 9 0))),(8,.v (.one (Jbc v10))),(31,.v (.one (Jba a0.kids))),(32,.v (.one (Jbc (a0.kids.length:Int)))),(33,.v (.one (Jbc s1.1)))],[Vf,(1,Yl),Vd,(3,.cells 25 (Jbg a2)),(4,.cells 28 [Jbc a3]),(5,.cells 107 (Jbg a4)),(6,.cells 3 [Jbc s1.2]),(7,.cells 25 (Jbg a6)),(8,J1),Vc,(10,.cells 25 (Jbg a0))],[],12,50,[]⟩) (0,(Qm (a5+1))) o15 (Jah (Cc hv0 (Jaw Z)) Z Z Z Z Z) hl1 (λs1 n1 oo1 h1 ho1=>?_);unfold Z3 at h1;refine Q4<|Q0<|Jak Z Z Z (Qc Z Z Z)<|Q3<|Q5<|Q4 ?_
 refine Qz (b:=(decide (s1.1<(a0.kids.length:Int)))) Z (λc16=>?_) (λc16=>?_);replace h1:=QF c16 h1;refine QV<|Q5<|Q4<|QH<|Q4<|Q0<|Jal Z Z Z ?_
 refine Qu h1 (λx17 hx17 h1=>?_);refine Jak Z Z Z (Xf (α:=Tm) Un Z (.d _) Z hx17)<|Jak Z Z Z (KD (x17:Tm) Q07 Z)<|Qk Z Z (Jaw Z) (QO J4b Z)<|Jam Z Z Z<|QN Z Z (Zt (x17:Tm) Q07 Z Z Z Z Z)<|Q3<|Q5<|Q4<|Q0<|Jal Z Z Z<|Jam Z Z Z<|Q3<|Q5<|Q4 ?_
 refine Q4<|Q0<|Jal Z Z Z<|Jal Z Z Z<|Jak Z Z Z (Qc Z Z Z)<|Q3<|Q5 ?_
 refine Jt (λ(v18:Int)=>⟨[(1,.v (.one (Jbc a1))),(4,.v (.one (.ptr 9 0))),(8,.v (.one (Jbc v10))),(10,.v (.one (.ptr 12 0))),(11,.v (.one (Jbc v18))),(31,.v (.one (Jba a0.kids))),(32,.v (.one (Jbc (a0.kids.length:Int)))),(33,.v (.one (Jbc s1.1)))],Qo7 a2 a3 a4 s1 a6 a0 x17,[],13,50,[]⟩) (λ(v18:Int)=>(U4 rc x17 v18 a2 a3 a4 s1 a6)=some oo1) ?_ ?_;refine Qu h1 (λw2_ h2 h1=>?_);refine Qz (b:=(s1.1==v10)) Z (λc19=>?_) (λc19=>?_);replace h2:=QF c19 h2;refine Q0<|Jal Z Z Z<|Jak Z Z Z (Qc Z Z Z)<|Jam Z Z Z<|Q3 ?_
 have e:=Jai h2;subst e;exact Qi (Qm (a1+1)) (Jah (Cc hv0 (Jaw Z)) Z Z Z Z Z) h1;replace h2:=QG c19 h2;refine QV ?_;have e:=Jai h2;subst e;exact Qi a1 (Jah (Cc hv0 (Jaw Z)) Z Z Z Z Z) h1;intro v18 h1;unfold U4 at h1;refine Q5<|Q4<|Q0<|Jak Z Z Z (Q6 Qul Z Z Z)<|Jak Z Z Z (ZU (x17:Tm) Q07 Z Z)<|Jal Z Z Z ?_
 refine Qu h1 (λx20 hx20 h1=>?_);refine J4l id hx20 h1 (λx21 hx21 h1=>?_) (λx22 hx22 h1=>?_);refine Qk Z Z (Jaw Z) (Qo (hp1':=[Vf,(1,.loop .done (some .ret) Va 45 #[27,28] Ze Yx 2),Vd,(3,.cells 25 (Jbg a2)),(4,.cells 28 [Jbc x21.1]),(5,.cells 107 (Jbg a4)),(6,.cells 3 [Jbc x21.2]),(7,.cells 25 (Jbg a6)),(8,.cells 156 [Jbd true,Jbd false,Jbc 0,Jbc 0,Jbc (-1),Jbd false,Jbd false,Jbc 0,Jbc 0,Jbc (-1),Jbd false,Jbd false,Jbc 1,Jbc 0,Jbc (-1),Jbd false,Jbd true,Jbc (-1),Jbc 0,Jbc (-1),Jbd false,Jbd false,Jbc 0,Jbc 2,Jbc (-1),Jbd false,Jbd false,Jbc 0,Jbc 2,Jbc 1,Jbd false,Jbd false,Jbc 0,Jbc 2,Jbc 1,Jbd false,Jbd false,Jbc 0,Jbc 2,Jbc 1,Jbd false,Jbd false,Jbc 0,Jbc 3,Jbc (-1),Jbd false,Jbd false,Jbc 0,Jbc 1,Jbc (-1),Jbd false,Jbd false,Jbc 0,Jbc 1,Jbc (-1),Jbd false,Jbd false,Jbc 0,Jbc 3,Jbc 2,Jbd true,Jbd false,Jbc 0,Jbc 0,Jbc (-1)]),Vc]) (tk1':=[]) (hpF:=[(10,.cells 25 (Jbg a0)),(12,.cells 25 (Jbg x17))]) (tkF:=[]) (res2:=Qg [.one (Jbd false)]) (nx2:=15) [0,1,2,3,4,5,6,7,8,9] Z Z (CallE.m (H x17 v18 a2 a3 a4 s1.2 a6 (.inl x21) hx21)) Z Z (Jap Z Z (Jap Z Z (Jap Z Z (Jap Z Z (Jap Z Z (Jap Z Z (Jap Z Z (Jap Z Z (Jap Z Z (Jap Z Z Jan)))))))))) Z Z (Jb7 Z (Jb7 Z (Jb7 Z (Jb7 Z (Jb7 Z (Jb7 Z (Jb7 Z (Jb7 Z (Jb7 Z (Jb7 Z Jb6)))))))))) Jb1 (hA Z) Jax Z Z Z Z Z (Jbn Z) Z Z Z Z)<|Jak Z Z Z (GG Z)<|Q3<|Q5 ?_
 refine Qz Z (λ_=>?_) (λh=>nomatch h);refine Q4<|Q0<|Jam Z Z Z<|Q3<|Q5<|QQ ?_
 have e:=Jai h1;subst e;have e_:_=_:=ho1;subst e_;try dsimp only[Sum.elim_inl,Sum.elim_inr]at h0
 have e:=Jai h0;subst e;exact hQ0 _ _ J7p Z (show StLe _ _ ⟨[(7,.v (.one (Jbd false)))],Qo6 a2 x21 a4 a6,[],12,50,[]⟩from(Jah (Cc hv0 (Jaw Z)) Z Z Z Z Z));refine Qk Z Z (Jaw Z) (Qo (hp1':=[Vf,(1,.loop .ready none Va 45 #[27,28] Ze Yx 2),Vd,(3,.cells 25 (Jbg a2)),(4,.cells 28 [Jbc a3]),(5,.cells 107 (Jbg a4)),(6,.cells 3 [Jbc x22.2]),(7,.cells 25 (Jbg a6)),(8,.cells 156 [Jbd true,Jbd false,Jbc 0,Jbc 0,Jbc (-1),Jbd false,Jbd false,Jbc 0,Jbc 0,Jbc (-1),Jbd false,Jbd false,Jbc 1,Jbc 0,Jbc (-1),Jbd false,Jbd true,Jbc (-1),Jbc 0,Jbc (-1),Jbd false,Jbd false,Jbc 0,Jbc 2,Jbc (-1),Jbd false,Jbd false,Jbc 0,Jbc 2,Jbc 1,Jbd false,Jbd false,Jbc 0,Jbc 2,Jbc 1,Jbd false,Jbd false,Jbc 0,Jbc 2,Jbc 1,Jbd false,Jbd false,Jbc 0,Jbc 3,Jbc (-1),Jbd false,Jbd false,Jbc 0,Jbc 1,Jbc (-1),Jbd false,Jbd false,Jbc 0,Jbc 1,Jbc (-1),Jbd false,Jbd false,Jbc 0,Jbc 3,Jbc 2,Jbd true,Jbd false,Jbc 0,Jbc 0,Jbc (-1)]),Vc]) (tk1':=[]) (hpF:=[(10,.cells 25 (Jbg a0)),(12,.cells 25 (Jbg x17))]) (tkF:=[]) (res2:=Qg [.one (Jbd x22.1)]) (nx2:=15) [0,1,2,3,4,5,6,7,8,9] Z Z (CallE.m (H x17 v18 a2 a3 a4 s1.2 a6 (.inr x22) hx22)) Z Z (Jap Z Z (Jap Z Z (Jap Z Z (Jap Z Z (Jap Z Z (Jap Z Z (Jap Z Z (Jap Z Z (Jap Z Z (Jap Z Z Jan)))))))))) Z Z (Jb7 Z (Jb7 Z (Jb7 Z (Jb7 Z (Jb7 Z (Jb7 Z (Jb7 Z (Jb7 Z (Jb7 Z (Jb7 Z Jb6)))))))))) Jb1 (hA Z) Jax Z Z Z Z Z (Jbn Z) Z Z Z Z)<|Jak Z Z Z (GG Z)<|Q3<|Q5 ?_
 refine Qz (b:=(!x22.1)) Z (λc23=>?_) (λc23=>?_);replace h1:=QF c23 h1;refine Q4<|Q0<|Jam Z Z Z<|Q3<|Q5<|QQ ?_
 have e:=Jai h1;subst e;have e_:_=_:=ho1;subst e_;try dsimp only[Sum.elim_inl,Sum.elim_inr]at h0
 have e:=Jai h0;subst e;exact hQ0 _ _ J7p Z (show StLe _ _ ⟨[(7,.v (.one (Jbd false)))],Qhu a2 a3 a4 x22 a6,[],12,50,[]⟩from(Jah (Cc hv0 (Jaw Z)) Z Z Z Z Z));replace h1:=QG c23 h1;refine QV<|Ji<|Q5<|Q0<|Jak Z Z Z (Qc Z Z Z)<|Jal Z Z Z<|Q3 ?_
 have e:=Jai h1;subst e;refine Ge ((Qm (s1.1+1)),x22.2) (Jah (Cc hv0 (Jaw Z)) Z Z Z Z Z) ho1;replace h1:=QG c16 h1;refine Gx<|JV<|JV ?_
 have e:=Jai h1;subst e;have e_:_=_:=ho1;subst e_;exact Gf s1.2 (Jah (Cc hv0 (Jaw Z)) Z Z Z Z Z) h0;intro o14 h0;refine Z7<|Q5<|Q4<|Q0<|Jam Z Z Z<|Q3<|Q5<|QQ ?_
 have e:=Jai h0;subst e;exact hQ0 _ _ J7p Z (show StLe _ _ ⟨[(7,.v (.one (Jbd true)))],ZL a2 a3 a4 o14 a6,[],12,50,[]⟩from(Jah (Cc hv0 (Jaw Z)) Z Z Z Z Z));replace hb5:ExecOK prog (some 1) Yx ⟨[(10,.v (.one (.ptr 4 0))),(11,.v (.one (.ptr 5 0))),(12,.v (.one (.ptr 6 0))),(13,.v (.one (Jbc a1))),(14,.v (.one (.ptr 11 0)))],U6 a2 a3 a4 a5 a6 a0,[],12,45,[]⟩ .ret ⟨[],U5 a2 y2 a4 a5 a6 a0,[],12,45,[]⟩:=hb5;refine Qk Z Z (Jaw Z) (Q77 (jump:=(some .ret)) Z Z Z Z Z (Gy ha4 (λE hv=>(Jah (Cc hv (Jaw Z)) Z Z Z Z Z))) Z (Gy hb5 (λE hv=>(Jah (Cc hv (Jaw Z)) Z Z Z Z Z))) Z Z) ?_;refine Jak Z Z Z (GG Z)<|Q3<|Q5 ?_
 refine Qz Z (λ_=>?_) (λh=>nomatch h);refine Q4<|Q0<|Jam Z Z Z<|Q3<|Q5<|QQ ?_
 have e:=Jai h0;subst e;exact hQ0 _ _ J7p Z (show StLe _ _ ⟨[(7,.v (.one (Jbd false)))],Qht a2 y2 a4 a5 a6,[],12,50,[]⟩from(Jah (Cc hv0 (Jaw Z)) Z Z Z Z Z))
theorem Qhv(n:Nat)(u:Tm×Int×Tm×Int×Scp×Int×Tm)(r:(Int×Int)⊕(Bool×Int))(h0:Jo Zf n u=some r):CallE prog 108 [.agg (Jbg u.1),.one (Jbc u.2.1),.one (.ptr 0 0),.one (.ptr 8 0),.one (.ptr 9 0)] ⟨ZL u.2.2.1 u.2.2.2.1 u.2.2.2.2.1 u.2.2.2.2.2.1 u.2.2.2.2.2.2,[],10⟩ ((Sum.elim (λ(r0:Int×Int)=>((.ret [.one (Jbd false)]):EK)) (λ(r1:Bool×Int)=>((.ret [.one (Jbd r1.1)]):EK))) r) ⟨((Jj u.1 u.2.1 u.2.2.1 u.2.2.2.1 u.2.2.2.2.1 u.2.2.2.2.2.1 u.2.2.2.2.2.2) r).hp,((Jj u.1 u.2.1 u.2.2.1 u.2.2.2.1 u.2.2.2.2.1 u.2.2.2.2.2.1 u.2.2.2.2.2.2) r).tk,((Jj u.1 u.2.1 u.2.2.1 u.2.2.2.1 u.2.2.2.2.1 u.2.2.2.2.2.1 u.2.2.2.2.2.2) r).nx⟩:=KY (C:=λu r=>CallE prog 108 [.agg (Jbg u.1),.one (Jbc u.2.1),.one (.ptr 0 0),.one (.ptr 8 0),.one (.ptr 9 0)] ⟨ZL u.2.2.1 u.2.2.2.1 u.2.2.2.2.1 u.2.2.2.2.2.1 u.2.2.2.2.2.2,[],10⟩ ((Sum.elim (λ(r0:Int×Int)=>((.ret [.one (Jbd false)]):EK)) (λ(r1:Bool×Int)=>((.ret [.one (Jbd r1.1)]):EK))) r) ⟨((Jj u.1 u.2.1 u.2.2.1 u.2.2.2.1 u.2.2.2.2.1 u.2.2.2.2.2.1 u.2.2.2.2.2.2) r).hp,((Jj u.1 u.2.1 u.2.2.1 u.2.2.2.1 u.2.2.2.2.1 u.2.2.2.2.2.1 u.2.2.2.2.2.2) r).tk,((Jj u.1 u.2.1 u.2.2.1 u.2.2.2.1 u.2.2.2.2.1 u.2.2.2.2.2.1 u.2.2.2.2.2.2) r).nx⟩) (λrc H u r h=>Qhs rc (λa0 a1 a2 a3 a4 a5 a6 r h=>H (a0,a1,a2,a3,a4,a5,a6) r h) u.1 u.2.1 u.2.2.1 u.2.2.2.1 u.2.2.2.2.1 u.2.2.2.2.2.1 u.2.2.2.2.2.2 r h) n u r h0
theorem Q8w(a0:Tm)(a1:Int)(a2:Tm)(a3:Int)(a4:Scp)(a5:Int)(a6:Tm)(r:(Int×Int)⊕(Bool×Int))(h0:Qhw a0 a1 a2 a3 a4 a5 a6=some r):CallE prog 108 [.agg (Jbg a0),.one (Jbc a1),.one (.ptr 0 0),.one (.ptr 8 0),.one (.ptr 9 0)] ⟨ZL a2 a3 a4 a5 a6,[],10⟩ ((Sum.elim (λ(r0:Int×Int)=>((.ret [.one (Jbd false)]):EK)) (λ(r1:Bool×Int)=>((.ret [.one (Jbd r1.1)]):EK))) r) ⟨((Jj a0 a1 a2 a3 a4 a5 a6) r).hp,((Jj a0 a1 a2 a3 a4 a5 a6) r).tk,((Jj a0 a1 a2 a3 a4 a5 a6) r).nx⟩:=Qhv Qd (a0,a1,a2,a3,a4,a5,a6) r h0
abbrev Qb5(p0_:Int)(p1_:Int)(p2_:Int)(p3_:Int):HB:=.cells 107 [Jbc (max p0_ 0),Jbc (max p1_ 0),Jbc (max p2_ 0),Jbc (max p3_ 0)]
abbrev J0v(p0_:Tm)(p1_:Int)(p2_:Int)(p3_:Int)(p4_:Int):List (Nat×HB):=[(0,.cells 25 (Jbg p0_)),(1,.cells 28 [Jbc 0]),(2,Qb5 p1_ p2_ p3_ p4_),(3,.cells 3 [Jbc 0])]
abbrev Qhh(p0_:Tm)(p1_:Int)(p2_:Int)(p3_:Int)(p4_:Int):List (Nat×HB):=[(0,.cells 25 (Jbg p0_)),(1,.cells 28 [Jbc 0]),(2,Qb5 p1_ p2_ p3_ p4_),(3,.cells 3 [Jbc 0]),(4,.cells 25 (Jbg p0_))]
abbrev Qhg(p0_:Int)(p1_:Int)(p2_:Int)(p3_:Int):HB:=.cells 107 [Jbc ((⟨(max p0_ 0),(max p1_ 0),(max p2_ 0),(max p3_ 0)⟩:Scp).vars),Jbc ((⟨(max p0_ 0),(max p1_ 0),(max p2_ 0),(max p3_ 0)⟩:Scp).params),Jbc ((⟨(max p0_ 0),(max p1_ 0),(max p2_ 0),(max p3_ 0)⟩:Scp).metas),Jbc ((⟨(max p0_ 0),(max p1_ 0),(max p2_ 0),(max p3_ 0)⟩:Scp).levels)]
abbrev Qb4:HB:=.loop .ready none Vb 45 #[27,28] Ze Yx 5
abbrev Wo(p0_:Tm)(p1_:Int)(p2_:Int)(p3_:Int)(p4_:Int)(p5_:Int):List (Nat×HB):=[(0,.cells 25 (Jbg p0_)),(1,.cells 28 [Jbc 0]),(2,Qhg p1_ p2_ p3_ p4_),(3,.cells 3 [Jbc p5_]),(4,.cells 25 (Jbg p0_)),Ve,(6,Qb4)]
abbrev J0u:HB:=.loop .done (some .ret) Vb 45 #[27,28] Ze Yx 5
abbrev Xw(p0_:Tm)(p1_:Int×Int)(p2_:Int)(p3_:Int)(p4_:Int)(p5_:Int):List (Nat×HB):=[(0,.cells 25 (Jbg p0_)),(1,.cells 28 [Jbc p1_.1]),(2,Qhg p2_ p3_ p4_ p5_),(3,.cells 3 [Jbc p1_.2]),(4,.cells 25 (Jbg p0_)),Ve,(6,J0u)]
abbrev J0t(p0_:Tm)(p1_:Int)(p2_:Int)(p3_:Int)(p4_:Int):List (Nat×HB):=[(0,.cells 25 (Jbg p0_)),(1,.cells 28 [Jbc 0]),(2,Qb5 p1_ p2_ p3_ p4_),(3,.cells 3 [Jbc 0]),(4,.cells 25 (Jbg p0_)),Ve,(6,Qb4),Vg]
abbrev Qhf:HB:=.cells 156 [Jbd true,Jbd false,Jbc 0,Jbc 0,Jbc (-1),Jbd false,Jbd false,Jbc 0,Jbc 0,Jbc (-1),Jbd false,Jbd false,Jbc 1,Jbc 0,Jbc (-1),Jbd false,Jbd true,Jbc (-1),Jbc 0,Jbc (-1),Jbd false,Jbd false,Jbc 0,Jbc 2,Jbc (-1),Jbd false,Jbd false,Jbc 0,Jbc 2,Jbc 1,Jbd false,Jbd false,Jbc 0,Jbc 2,Jbc 1,Jbd false,Jbd false,Jbc 0,Jbc 2,Jbc 1,Jbd false,Jbd false,Jbc 0,Jbc 3,Jbc (-1),Jbd false,Jbd false,Jbc 0,Jbc 1,Jbc (-1),Jbd false,Jbd false,Jbc 0,Jbc 1,Jbc (-1),Jbd false,Jbd false,Jbc 0,Jbc 3,Jbc 2,Jbd true,Jbd false,Jbc 0,Jbc 0,Jbc (-1)]
abbrev Qkt(p0_:Tm)(p1_:Int)(p2_:Int)(p3_:Int)(p4_:Int):List (Nat×HB):=[(0,.cells 25 (Jbg p0_)),(1,.cells 28 [Jbc 0]),(2,Qb5 p1_ p2_ p3_ p4_),(3,.cells 3 [Jbc 0]),(4,.cells 25 (Jbg p0_)),Ve,(6,Qb4),Vg,(8,Qhf)]
abbrev Qwm(p0_:Tm)(p1_:Int)(p2_:Int)(p3_:Int)(p4_:Int)(p5_:Bool×Int):List (Nat×HB):=[(0,.cells 25 (Jbg p0_)),(1,.cells 28 [Jbc 0]),(2,Qhg p1_ p2_ p3_ p4_),(3,.cells 3 [Jbc p5_.2]),(4,.cells 25 (Jbg p0_)),Ve,(6,Qb4)]
def J0x(a0:Tm)(a1:Int)(a2:Int)(a3:Int)(a4:Int):Option Int:=
 Option.bind (some ()) (λ(y1:Unit)=>Option.bind (Option.bind (some ()) (λ(y7:Unit)=>Option.bind (Qhw a0 0 a0 0 (⟨(max a1 0),(max a2 0),(max a3 0),(max a4 0)⟩:Scp) 0 a0) (Sum.elim (λ(x10:Int×Int)=>some (.inr (x10.1,x10.2))) (λ(x11:Bool×Int)=>some (.inl x11.2))))) (Sum.elim (λ(y3:Int)=>cond (decide (4096<y3)) (some 5) (Option.bind (J7m a0) λ(x13:Int)=>
 cond (decide (200<x13)) (some 7) (some 0))) (λ(y4:Int×Int)=>some y4.1)))
theorem J0s(a0:Tm)(a1:Int)(a2:Int)(a3:Int)(a4:Int)(r:Int)(h0:J0x a0 a1 a2 a3 a4=some r):Fun prog 27 [.agg (Jbg a0),.one (Jbc a1),.one (Jbc a2),.one (Jbc a3),.one (Jbc a4)] (Qg [.one (Jbc r)]):=by
 unfold J0x at h0;refine KE 9 45 func27 Z J6t Z (Jaw Z) (λS w=>?_);simp only[J3];refine Q4<|Q0<|Qk Z Z (Jaw Z) (Y9 Z)<|Qk Z Z (Jaw Z) (QO J7u Z)<|Q3<|Q5<|Q4<|Q0<|Jal Z Z Z<|Jak Z Z Z (Ug Z Z)<|Jal Z Z Z<|Jak Z Z Z (Ug Z Z)<|Jal Z Z Z<|Jak Z Z Z (Ug Z Z) ?_
 refine Jal Z Z Z<|Jak Z Z Z (Ug Z Z)<|Jak Z Z Z (Q1y J3a Z (.cons Z (.cons Z (.cons Z (.cons Z .nil)))) Z)<|Qk Z Z (Jaw Z) (QO J4d Z)<|QN Z Z (Qh Qun Z Z Z Z (Jaw Z) Z)<|Q3<|Q5<|Q4<|Q0<|Qk Z Z (Jaw Z) (QO J9h Z)<|QN Z Z (Qh Y8 Z Z Z Z (Jaw Z) Z)<|Q3<|Q5<|Q4 ?_
 refine Q4<|Q0<|Jak Z Z Z (ZU (a0:Tm) Q07 Z Z) ?_
 refine Qu h0 (λy1 h1 h0=>?_);have hc2:CallM prog 58 [.agg (Jbg a0)] ⟨J0v a0 a1 a2 a3 a4,[],4⟩ (Qg [.one (.fn 106 [(4,0)])]) ⟨Qhh a0 a1 a2 a3 a4,[],5⟩:=by refine Qp ⟨[(2,.v (.one (.fn 106 [(4,0)])))],Qhh a0 a1 a2 a3 a4,[],5,4,[]⟩ Z Z J6i (Jaw Z) Z (Jl Z .nil) (λw0 M V0 Q hv1 hQ1=>?_);simp only[J3];(refine Q4<|Q0<|Qk Z Z (Jaw Z) (Y9 Z)<|Jam Z Z Z<|Q3<|Q5<|Q4<|Q0<|Jak Z Z Z (XS Z)<|Jam Z Z Z<|Q3<|Q5<|QQ ?_);have e:=Jai h1;subst e;exact hQ1 _ _ _ (.inr Z) Z (Jah (Cc hv1 (Jaw Z)) Z Z Z Z Z)
 refine Qk Z Z (Jaw Z) (Gj Z Z Z hc2 Z (hA Z) Jax)<|Q3<|Q5<|QH<|Qmn (st':=⟨Vb,Qhh a0 a1 a2 a3 a4,[],5,45,[]⟩) (Jah (Cs _) Z Z Z Z Z) ?_
 refine Qu h0 (λy6 h1 h0=>?_);have hc5:CallM prog 106 [.one (.yld 6),.one (.ptr 4 0)] ⟨[(6,.loop .ready none Vb 45 #[27,28] Ze Yx 5),Ve,(0,.cells 25 (Jbg a0)),(1,.cells 28 [Jbc 0]),(2,.cells 107 [Jbc (max a1 0),Jbc (max a2 0),Jbc (max a3 0),Jbc (max a4 0)]),(3,.cells 3 [Jbc 0]),(4,.cells 25 (Jbg a0))],[],7⟩ (Qg []) ⟨(((Sum.elim (λ(y3:Int)=>(⟨[],Wo a0 a1 a2 a3 a4 y3,[],13,10,[]⟩:St)) (λ(y4:Int×Int)=>(⟨[],Xw a0 y4 a1 a2 a3 a4,[],13,10,[]⟩:St)))) y6).hp,(((Sum.elim (λ(y3:Int)=>(⟨[],Wo a0 a1 a2 a3 a4 y3,[],13,10,[]⟩:St)) (λ(y4:Int×Int)=>(⟨[],Xw a0 y4 a1 a2 a3 a4,[],13,10,[]⟩:St)))) y6).tk,(((Sum.elim (λ(y3:Int)=>(⟨[],Wo a0 a1 a2 a3 a4 y3,[],13,10,[]⟩:St)) (λ(y4:Int×Int)=>(⟨[],Xw a0 y4 a1 a2 a3 a4,[],13,10,[]⟩:St)))) y6).nx⟩:=by
  refine Q7d y6 ((Sum.elim (λ(y3:Int)=>(⟨[],Wo a0 a1 a2 a3 a4 y3,[],13,10,[]⟩:St)) (λ(y4:Int×Int)=>(⟨[],Xw a0 y4 a1 a2 a3 a4,[],13,10,[]⟩:St)))) rfl rfl J2x (Jaw rfl) (λz_=>by cases z_ <;> rfl) (λz_=>.nil) (λw0 M V0 Q hv1 hQ1=>?_);simp only[J3];refine Q4<|Q0<|Qk Z Z (Jaw Z) (Y9 Z)<|Q3<|Q5<|Q4<|Q0 ?_
  refine Qu h1 (λy7 h2 h1=>?_);have hc8:CallM prog 107 [] ⟨J0t a0 a1 a2 a3 a4,[],8⟩ (Qg [.agg [Jbd true,Jbd false,Jbc 0,Jbc 0,Jbc (-1),Jbd false,Jbd false,Jbc 0,Jbc 0,Jbc (-1),Jbd false,Jbd false,Jbc 1,Jbc 0,Jbc (-1),Jbd false,Jbd true,Jbc (-1),Jbc 0,Jbc (-1),Jbd false,Jbd false,Jbc 0,Jbc 2,Jbc (-1),Jbd false,Jbd false,Jbc 0,Jbc 2,Jbc 1,Jbd false,Jbd false,Jbc 0,Jbc 2,Jbc 1,Jbd false,Jbd false,Jbc 0,Jbc 2,Jbc 1,Jbd false,Jbd false,Jbc 0,Jbc 3,Jbc (-1),Jbd false,Jbd false,Jbc 0,Jbc 1,Jbc (-1),Jbd false,Jbd false,Jbc 0,Jbc 1,Jbc (-1),Jbd false,Jbd false,Jbc 0,Jbc 3,Jbc 2,Jbd true,Jbd false,Jbc 0,Jbc 0,Jbc (-1)]]) ⟨Qkt a0 a1 a2 a3 a4,[],9⟩:=by refine Qp ⟨[(0,.v (.one (.ptr 8 0)))],Qkt a0 a1 a2 a3 a4,[],9,15,[]⟩ Z Z Qtn (Jaw Z) Z (Zs Q6z Z Z Z Z .nil) (λw0 M V0 Q hv2 hQ2=>?_);simp only[J3];(refine Q4<|Q0<|Qk Z Z (Jaw Z) (QO Qpu Z)<|Q3<|Q5<|Q4<|Q0<|Jak Z Z Z (QJ Js Z Z Z Z)<|Jak Z Z Z (KV Js Z Z Z)<|Jak Z Z Z (QJ Js Z Z Z Z)<|Jak Z Z Z (Qa3 Js Z Z Z Z Z)<|Jak Z Z Z (QJ Js Z Z Z Z)<|Jak Z Z Z (QJ Js Z Z Z Z)<|Jak Z Z Z (QJ Js Z Z Z Z) ?_);(refine Jak Z Z Z (QJ Js Z Z Z Z)<|Jak Z Z Z (QJ Js Z Z Z Z)<|Jak Z Z Z (QJ Js Z Z Z Z)<|Jak Z Z Z (QJ Js Z Z Z Z)<|Jak Z Z Z (QJ Js Z Z Z Z)<|Jak Z Z Z (QJ Js Z Z Z Z)<|Jak Z Z Z (Q1y Quc Z (.cons Z (.cons Z (.cons Z (.cons Z (.cons Z (.cons Z (.cons Z (.cons Z (.cons Z (.cons Z (.cons Z (.cons Z (.cons Z .nil))))))))))))) Z)<|QN Z Z (GH Q6z Z Z Z Z Z Z)<|Q3<|Q5<|QQ ?_);have e:=Jai h2;subst e;exact hQ2 _ _ _ (.inr Z) Z (Jah (Cc hv2 (Jaw Z)) Z Z Z Z Z)
  refine Qk Z Z (Jaw Z) (Gj Z Z Z hc8 Z (hA Z) Jax)<|Qk Z Z (Jaw Z) (QO Qpu Z)<|QN Z Z (GH Q6z Z Z Z Z Z Z)<|Q3<|Q5<|Q4<|Q0<|Qk Z Z (Jaw Z) (QO J7v Z)<|Q3<|Q5<|Q4<|Q0<|Jak Z Z Z (Qcm Z Z Z)<|QN Z Z (Qh Qul Z Z Z Z (Jaw Z) Z) ?_
  refine Q3<|Q5<|Q0<|Jak Z Z Z (Q6 Qul Z Z Z)<|Jak Z Z Z (ZU (a0:Tm) Q07 Z Z) ?_
  refine Qu h1 (λx9 hx9 h1=>?_);refine J4l id hx9 h1 (λx10 hx10 h1=>?_) (λx11 hx11 h1=>?_);refine Qk Z Z (Jaw Z) (Qo (hp1':=[Vg,(6,.loop .done (some .ret) Vb 45 #[27,28] Ze Yx 5),Ve,(0,.cells 25 (Jbg a0)),(1,.cells 28 [Jbc x10.1]),(2,.cells 107 [Jbc ((⟨(max a1 0),(max a2 0),(max a3 0),(max a4 0)⟩:Scp).vars),Jbc ((⟨(max a1 0),(max a2 0),(max a3 0),(max a4 0)⟩:Scp).params),Jbc ((⟨(max a1 0),(max a2 0),(max a3 0),(max a4 0)⟩:Scp).metas),Jbc ((⟨(max a1 0),(max a2 0),(max a3 0),(max a4 0)⟩:Scp).levels)]),(3,.cells 3 [Jbc x10.2]),(4,.cells 25 (Jbg a0)),(9,.cells 156 [Jbd true,Jbd false,Jbc 0,Jbc 0,Jbc (-1),Jbd false,Jbd false,Jbc 0,Jbc 0,Jbc (-1),Jbd false,Jbd false,Jbc 1,Jbc 0,Jbc (-1),Jbd false,Jbd true,Jbc (-1),Jbc 0,Jbc (-1),Jbd false,Jbd false,Jbc 0,Jbc 2,Jbc (-1),Jbd false,Jbd false,Jbc 0,Jbc 2,Jbc 1,Jbd false,Jbd false,Jbc 0,Jbc 2,Jbc 1,Jbd false,Jbd false,Jbc 0,Jbc 2,Jbc 1,Jbd false,Jbd false,Jbc 0,Jbc 3,Jbc (-1),Jbd false,Jbd false,Jbc 0,Jbc 1,Jbc (-1),Jbd false,Jbd false,Jbc 0,Jbc 1,Jbc (-1),Jbd false,Jbd false,Jbc 0,Jbc 3,Jbc 2,Jbd true,Jbd false,Jbc 0,Jbc 0,Jbc (-1)]),(10,.cells 26 [.fn 108 [(7,0),(9,0),(10,0)]])]) (tk1':=[]) (hpF:=[(8,Qhf)]) (tkF:=[]) (res2:=Qg [.one (Jbd false)]) (nx2:=13) [7,6,5,0,1,2,3,4,9,10] Z Z (CallE.m (Q8w a0 0 a0 0 (⟨(max a1 0),(max a2 0),(max a3 0),(max a4 0)⟩:Scp) 0 a0 (.inl x10) hx10)) Z Z (Jap Z Z (Jap Z Z (Jap Z Z (Jap Z Z (Jap Z Z (Jap Z Z (Jap Z Z (Jap Z Z (Jap Z Z (Jap Z Z Jan)))))))))) Z Z (Jb7 Z (Jb7 Z (Jb7 Z (Jb7 Z (Jb7 Z (Jb7 Z (Jb7 Z (Jb7 Z (Jb7 Z (Jb7 Z Jb6)))))))))) Jb1 (hA Z) Jax Z Z Z Z Z (Jbn Z) Z Z Z Z)<|Q3 ?_
  have e:=Jai h1;subst e;exact hQ1 _ _ _ (.inl Z) Z (show StLe _ _ ⟨[],Xw a0 x10 a1 a2 a3 a4,[],13,10,[]⟩from(Jah (Cc hv1 (Jaw Z)) Z Z Z Z Z));refine Qk Z Z (Jaw Z) (Qo (hp1':=[Vg,(6,.loop .ready none Vb 45 #[27,28] Ze Yx 5),Ve,(0,.cells 25 (Jbg a0)),(1,.cells 28 [Jbc 0]),(2,.cells 107 [Jbc ((⟨(max a1 0),(max a2 0),(max a3 0),(max a4 0)⟩:Scp).vars),Jbc ((⟨(max a1 0),(max a2 0),(max a3 0),(max a4 0)⟩:Scp).params),Jbc ((⟨(max a1 0),(max a2 0),(max a3 0),(max a4 0)⟩:Scp).metas),Jbc ((⟨(max a1 0),(max a2 0),(max a3 0),(max a4 0)⟩:Scp).levels)]),(3,.cells 3 [Jbc x11.2]),(4,.cells 25 (Jbg a0)),(9,.cells 156 [Jbd true,Jbd false,Jbc 0,Jbc 0,Jbc (-1),Jbd false,Jbd false,Jbc 0,Jbc 0,Jbc (-1),Jbd false,Jbd false,Jbc 1,Jbc 0,Jbc (-1),Jbd false,Jbd true,Jbc (-1),Jbc 0,Jbc (-1),Jbd false,Jbd false,Jbc 0,Jbc 2,Jbc (-1),Jbd false,Jbd false,Jbc 0,Jbc 2,Jbc 1,Jbd false,Jbd false,Jbc 0,Jbc 2,Jbc 1,Jbd false,Jbd false,Jbc 0,Jbc 2,Jbc 1,Jbd false,Jbd false,Jbc 0,Jbc 3,Jbc (-1),Jbd false,Jbd false,Jbc 0,Jbc 1,Jbc (-1),Jbd false,Jbd false,Jbc 0,Jbc 1,Jbc (-1),Jbd false,Jbd false,Jbc 0,Jbc 3,Jbc 2,Jbd true,Jbd false,Jbc 0,Jbc 0,Jbc (-1)]),(10,.cells 26 [.fn 108 [(7,0),(9,0),(10,0)]])]) (tk1':=[]) (hpF:=[(8,Qhf)]) (tkF:=[]) (res2:=Qg [.one (Jbd x11.1)]) (nx2:=13) [7,6,5,0,1,2,3,4,9,10] Z Z (CallE.m (Q8w a0 0 a0 0 (⟨(max a1 0),(max a2 0),(max a3 0),(max a4 0)⟩:Scp) 0 a0 (.inr x11) hx11)) Z Z (Jap Z Z (Jap Z Z (Jap Z Z (Jap Z Z (Jap Z Z (Jap Z Z (Jap Z Z (Jap Z Z (Jap Z Z (Jap Z Z Jan)))))))))) Z Z (Jb7 Z (Jb7 Z (Jb7 Z (Jb7 Z (Jb7 Z (Jb7 Z (Jb7 Z (Jb7 Z (Jb7 Z (Jb7 Z Jb6)))))))))) Jb1 (hA Z) Jax Z Z Z Z Z (Jbn Z) Z Z Z Z)<|Q3 ?_
  have e:=Jai h1;subst e;exact hQ1 _ _ _ (.inl Z) Z (show StLe _ _ ⟨[],Qwm a0 a1 a2 a3 a4 x11,[],13,10,[]⟩from(Jah (Cc hv1 (Jaw Z)) Z Z Z Z Z))
 refine J4k (C:=λq_=>CallM prog 106 [.one (.yld 6),.one (.ptr 4 0)] ⟨[(6,.loop .ready none Vb 45 #[27,28] Ze Yx 5),Ve,(0,.cells 25 (Jbg a0)),(1,.cells 28 [Jbc 0]),(2,.cells 107 [Jbc (max a1 0),Jbc (max a2 0),Jbc (max a3 0),Jbc (max a4 0)]),(3,.cells 3 [Jbc 0]),(4,.cells 25 (Jbg a0))],[],7⟩ (Qg []) ⟨(((Sum.elim (λ(y3:Int)=>(⟨[],Wo a0 a1 a2 a3 a4 y3,[],13,10,[]⟩:St)) (λ(y4:Int×Int)=>(⟨[],Xw a0 y4 a1 a2 a3 a4,[],13,10,[]⟩:St)))) q_).hp,(((Sum.elim (λ(y3:Int)=>(⟨[],Wo a0 a1 a2 a3 a4 y3,[],13,10,[]⟩:St)) (λ(y4:Int×Int)=>(⟨[],Xw a0 y4 a1 a2 a3 a4,[],13,10,[]⟩:St)))) q_).tk,(((Sum.elim (λ(y3:Int)=>(⟨[],Wo a0 a1 a2 a3 a4 y3,[],13,10,[]⟩:St)) (λ(y4:Int×Int)=>(⟨[],Xw a0 y4 a1 a2 a3 a4,[],13,10,[]⟩:St)))) q_).nx⟩) hc5 h0 (λy3 hc5 h0=>?_) (λy4 hc5 h0=>?_);replace hc5:CallM prog 106 [.one (.yld 6),.one (.ptr 4 0)] ⟨[(6,.loop .ready none Vb 45 #[27,28] Ze Yx 5),Ve,(0,.cells 25 (Jbg a0)),(1,.cells 28 [Jbc 0]),(2,.cells 107 [Jbc (max a1 0),Jbc (max a2 0),Jbc (max a3 0),Jbc (max a4 0)]),(3,.cells 3 [Jbc 0]),(4,.cells 25 (Jbg a0))],[],7⟩ (Qg []) ⟨Wo a0 a1 a2 a3 a4 y3,[],13⟩:=hc5;refine Qmo (Uq (e:=.normal) rfl hc5 rfl rfl (by intro h;cases h) rfl) rfl ?_;refine Ji<|Q5<|Q4<|QH<|Q4<|Q0<|Jak Z Z Z (Q6 Y8 Z Z Z)<|Jak Z Z Z (Qc Z Z Z)<|Jam Z Z Z<|Q3<|Q5 ?_
 refine Qz (b:=(decide (4096<y3))) Z (λc12=>?_) (λc12=>?_);replace h0:=QF c12 h0;refine Q4<|Q0<|QN Z Z (Qh Xb Z Z Z Z (Jaw Z) Z)<|Q3<|Q5<|QQ ?_
 have e:=Jai h0;subst e;exact Zr (λ_ _ h=>h) Z (WO Xb Z Z Z .nil) (.cons (.one (.d _)) .nil);replace h0:=QG c12 h0;refine Q4<|Q0<|Jak Z Z Z (ZU (a0:Tm) Q07 Z Z) ?_
 refine Qu h0 (λx13 hx13 h0=>?_);refine Qk Z Z (Jaw Z) (Yg (J0k a0 x13 hx13) Z (.cons (.agg (.cons (.d _) (.cons (.d _) (.cons (.d _) (.cons (.d _) (.cons (.d _) .nil)))))) .nil))<|Jak Z Z Z (Qc Z Z Z)<|Jam Z Z Z<|Q3<|Q5 ?_
 refine Qz (b:=(decide (200<x13))) Z (λc14=>?_) (λc14=>?_);replace h0:=QF c14 h0;refine Q4<|Q0<|QN Z Z (Qh Xb Z Z Z Z (Jaw Z) Z)<|Q3<|Q5<|QQ ?_
 have e:=Jai h0;subst e;exact Zr (λ_ _ h=>h) Z (WO Xb Z Z Z .nil) (.cons (.one (.d _)) .nil);replace h0:=QG c14 h0;refine QV<|Ji<|Q5<|Q4<|Q0<|QN Z Z (Qh Xb Z Z Z Z (Jaw Z) Z)<|Q3<|Q5<|QQ ?_
 have e:=Jai h0;subst e;exact Zr (λ_ _ h=>h) Z (WO Xb Z Z Z .nil) (.cons (.one (.d _)) .nil);replace hc5:CallM prog 106 [.one (.yld 6),.one (.ptr 4 0)] ⟨[(6,.loop .ready none Vb 45 #[27,28] Ze Yx 5),Ve,(0,.cells 25 (Jbg a0)),(1,.cells 28 [Jbc 0]),(2,.cells 107 [Jbc (max a1 0),Jbc (max a2 0),Jbc (max a3 0),Jbc (max a4 0)]),(3,.cells 3 [Jbc 0]),(4,.cells 25 (Jbg a0))],[],7⟩ (Qg []) ⟨Xw a0 y4 a1 a2 a3 a4,[],13⟩:=hc5;refine Qmo (Uq (e:=.ret) rfl hc5 rfl rfl (by intro h;cases h) rfl) rfl ?_;have e:=Jai h0;subst e;exact Zr (λ_ _ h=>h) Z (WO Xb Z Z Z .nil) (.cons (.one (.d _)) .nil)
def k136:KF UV:=⟨[.stc .t82],[.bool],λv=>Q7l v⟩
theorem Qli:JY DV W0 prog 136 k136:=⟨rfl,λv r h=>Q0h (Eq.mp (show _=Fun prog 136 (QE DV k136.args v) (Qg (QE DV k136.res r))from by kernel_rfl) (Qwr v r h))⟩
def k110:KF UV:=⟨[.str],[.bool],λv=>Q13 v⟩
theorem Qxm:JY DV W0 prog 110 k110:=⟨rfl,λv r h=>Q0h (Eq.mp (show _=Fun prog 110 (QE DV k110.args v) (Qg (QE DV k110.res r))from by kernel_rfl) (Qx2 v r h))⟩
def k27:KF UV:=⟨[.stc .t25,.int .i64,.int .i64,.int .i64,.int .i64],[.int .i64],λv=>J0x (v.1) (v.2.1) (v.2.2.1) (v.2.2.2.1) (v.2.2.2.2)⟩
theorem Qsl:JY DV W0 prog 27 k27:=⟨rfl,λv r h=>Q0h (Eq.mp (show _=Fun prog 27 (QE DV k27.args v) (Qg (QE DV k27.res r))from by kernel_rfl) (J0s (v.1) (v.2.1) (v.2.2.1) (v.2.2.2.1) (v.2.2.2.2) r h))⟩
end
end
end Go.Proofs.YtjcfppnjamjjhaaGreatDoor
namespace Go.Proofs
open Go.Proofs.Tryz
noncomputable section
section
open Go.Shelf
def Xd:Go.Shelf.Ren:=⟨λ|7=>182|10=>209|n=>n,λ|23=>210|26=>3|3=>3|28=>221|0=>0|27=>220|33=>233|4=>4|n=>n,λ|n=>n⟩
theorem Qcj:Go.Proofs.SlLaysZI.n7 prog Xd:={
 mixed:=by kernel_rfl
 f7:=⟨f182.name,by decide,Ly func182 (by kernel_rfl)⟩
 f10:=⟨f209.name,by decide,Ly func209 (by kernel_rfl)⟩
 t0:=underlying0
 a0:=isAgg0
 z0:=sizeOf0
 v0:=zeroValue0
 t4:=underlying4
 a4:=isAgg4
 z4:=sizeOf4
 v4:=zeroValue4
 t23:=underlying210
 a23:=isAgg210
 z23:=sizeOf210
 v23:=zeroValue210
 t26:=underlying3
 a26:=isAgg3
 z26:=sizeOf3
 v26:=zeroValue3
 t27:=underlying220
 a27:=isAgg220
 z27:=sizeOf220
 v27:=zeroValue220
 t28:=underlying221
 a28:=isAgg221
 z28:=sizeOf221
 v28:=zeroValue221
 t33:=underlying233
 a33:=isAgg233
 z33:=sizeOf233
 v33:=zeroValue233}
def Gi:Go.Shelf.Ren:=⟨λ|6=>181|8=>207|9=>208|11=>221|13=>223|12=>222|23=>238|24=>191|14=>229|15=>230|16=>231|17=>232|18=>233|19=>234|20=>235|21=>236|22=>237|25=>239|26=>240|27=>241|28=>242|29=>243|30=>244|31=>245|n=>n,λ|26=>3|28=>221|24=>218|0=>0|3=>3|37=>234|48=>231|50=>195|4=>4|40=>274|39=>273|45=>167|5=>5|9=>9|51=>280|55=>284|57=>286|58=>287|33=>233|n=>n,λ|n=>n⟩
theorem Q72:Go.Proofs.SlLaysZI.n6 prog Gi:={
 mixed:=by kernel_rfl
 f6:=⟨f181.name,by decide,Ly func181 (by kernel_rfl)⟩
 f8:=⟨f207.name,by decide,Ly func207 (by kernel_rfl)⟩
 f11:=⟨f221.name,by decide,Ly func221 (by kernel_rfl)⟩
 t0:=underlying0
 a0:=isAgg0
 z0:=sizeOf0
 v0:=zeroValue0
 t24:=underlying218
 a24:=isAgg218
 z24:=sizeOf218
 v24:=zeroValue218
 t26:=underlying3
 a26:=isAgg3
 z26:=sizeOf3
 v26:=zeroValue3
 t28:=underlying221
 a28:=isAgg221
 z28:=sizeOf221
 v28:=zeroValue221
 i26:=by kernel_rfl}
def Q1r:Go.Shelf.Ren:=⟨λ|5=>208|8=>223|7=>222|19=>238|20=>191|10=>229|11=>230|12=>231|13=>232|14=>233|15=>234|16=>235|17=>236|18=>237|30=>239|31=>240|32=>241|33=>242|34=>243|35=>244|40=>245|n=>n,λ|23=>218|25=>3|3=>3|32=>234|22=>218|0=>0|44=>231|46=>195|4=>4|36=>274|35=>273|41=>167|5=>5|9=>9|53=>280|57=>284|63=>286|64=>287|n=>n,λ|n=>n⟩
theorem Q0a:Go.Proofs.SlLaysM.n5 prog Q1r:={
 mixed:=by kernel_rfl
 f5:=⟨f208.name,by decide,Ly func208 (by kernel_rfl)⟩
 f7:=⟨f222.name,by decide,Ly func222 (by kernel_rfl)⟩
 f8:=Ly func223 (by kernel_rfl)
 f10:=⟨f229.name,by decide,Ly func229 (by kernel_rfl)⟩
 f11:=⟨f230.name,by decide,Ly func230 (by kernel_rfl)⟩
 f12:=⟨Tryz.f231.name,by decide,Ly func231 (by kernel_rfl)⟩
 f13:=⟨Tryz.f232.name,by decide,Ly func232 (by kernel_rfl)⟩
 f14:=⟨Tryz.f233.name,by decide,Ly func233 (by kernel_rfl)⟩
 f15:=⟨Tryz.f234.name,by decide,Ly func234 (by kernel_rfl)⟩
 f16:=⟨Tryz.f235.name,by decide,Ly func235 (by kernel_rfl)⟩
 f17:=⟨Tryz.f236.name,by decide,Ly func236 (by kernel_rfl)⟩
 f18:=⟨f237.name,by decide,Ly func237 (by kernel_rfl)⟩
 f19:=Ly func238 (by kernel_rfl)
 f20:=Ly func191 (by kernel_rfl)
 f30:=⟨f239.name,by decide,Ly func239 (by kernel_rfl)⟩
 f31:=Ly func240 (by kernel_rfl)
 f32:=Ly func241 (by kernel_rfl)
 f33:=⟨f242.name,by decide,Ly func242 (by kernel_rfl)⟩
 f34:=⟨Tryz.f243.name,by decide,Ly func243 (by kernel_rfl)⟩
 f35:=⟨Tryz.f244.name,by decide,Ly func244 (by kernel_rfl)⟩
 f40:=⟨Tryz.f245.name,by decide,Ly func245 (by kernel_rfl)⟩
 t0:=underlying0
 a0:=isAgg0
 z0:=sizeOf0
 v0:=zeroValue0
 t3:=underlying3
 a3:=isAgg3
 z3:=sizeOf3
 v3:=zeroValue3
 t4:=underlying4
 a4:=isAgg4
 z4:=sizeOf4
 v4:=zeroValue4
 t5:=underlying5
 a5:=isAgg5
 z5:=sizeOf5
 v5:=zeroValue5
 t9:=underlying9
 a9:=isAgg9
 z9:=sizeOf9
 v9:=zeroValue9
 t22:=underlying218
 a22:=isAgg218
 z22:=sizeOf218
 v22:=zeroValue218
 t23:=underlying218
 a23:=isAgg218
 z23:=sizeOf218
 v23:=zeroValue218
 t25:=underlying3
 a25:=isAgg3
 z25:=sizeOf3
 v25:=zeroValue3
 t32:=underlying234
 a32:=isAgg234
 z32:=sizeOf234
 v32:=zeroValue234
 t35:=underlying273
 a35:=isAgg273
 z35:=sizeOf273
 v35:=zeroValue273
 t36:=underlying274
 a36:=isAgg274
 z36:=sizeOf274
 v36:=zeroValue274
 t41:=underlying167
 a41:=isAgg167
 z41:=sizeOf167
 v41:=zeroValue167
 t44:=underlying231
 a44:=isAgg231
 z44:=sizeOf231
 v44:=zeroValue231
 t46:=underlying195
 a46:=isAgg195
 z46:=sizeOf195
 v46:=zeroValue195
 t53:=underlying280
 a53:=isAgg280
 z53:=sizeOf280
 v53:=zeroValue280
 t57:=underlying284
 a57:=isAgg284
 z57:=sizeOf284
 v57:=zeroValue284
 t63:=underlying286
 a63:=isAgg286
 z63:=sizeOf286
 v63:=zeroValue286
 t64:=underlying287
 a64:=isAgg287
 z64:=sizeOf287
 v64:=zeroValue287}
theorem Q7s(m:Nat):AnyZI.SortsIn prog Gi Fence.wide m:=⟨λblk off cap ss W hH hblk hsz=>callsIn_wide.2 (AnyM.slices_Sort_int Q0a blk off cap ss W hH hblk hsz),λp cap W=>callsIn_wide.2 (AnyM.slices_Sort_int_none Q0a p cap W)⟩
def Q1u:Go.Shelf.Ren:=⟨λ|161=>175|231=>166|227=>168|233=>169|235=>171|228=>196|197=>197|151=>198|260=>215|152=>216|137=>122|119=>224|224=>225|225=>226|217=>143|266=>165|n=>n,λ|9=>9|4=>4|3=>3|5=>5|117=>204|116=>203|0=>0|124=>207|105=>236|21=>21|119=>262|46=>234|139=>265|138=>264|n=>n,λ|3=>6|4=>7|n=>n⟩
theorem Qcf:Go.Proofs.Lays.n161 prog Q1u:={
 mixed:=by kernel_rfl
 f119:=Ly func224 (by kernel_rfl)
 f137:=Ly func122 (by kernel_rfl)
 f151:=Ly func198 (by kernel_rfl)
 f152:=Ly func216 (by kernel_rfl)
 f161:=Ly func175 (by kernel_rfl)
 f197:=Ly func197 (by kernel_rfl)
 f217:=Ly func143 (by kernel_rfl)
 f224:=Ly func225 (by kernel_rfl)
 f225:=Ly func226 (by kernel_rfl)
 f227:=Ly func168 (by kernel_rfl)
 f228:=Ly func196 (by kernel_rfl)
 f231:=Ly func166 (by kernel_rfl)
 f233:=Ly func169 (by kernel_rfl)
 f235:=Ly func171 (by kernel_rfl)
 f260:=Ly func215 (by kernel_rfl)
 f266:=Ly func165 (by kernel_rfl)
 t0:=underlying0
 a0:=isAgg0
 z0:=sizeOf0
 v0:=zeroValue0
 t3:=underlying3
 a3:=isAgg3
 z3:=sizeOf3
 v3:=zeroValue3
 t4:=underlying4
 a4:=isAgg4
 z4:=sizeOf4
 v4:=zeroValue4
 t5:=underlying5
 a5:=isAgg5
 z5:=sizeOf5
 v5:=zeroValue5
 t9:=underlying9
 a9:=isAgg9
 z9:=sizeOf9
 v9:=zeroValue9
 t21:=underlying21
 a21:=isAgg21
 z21:=sizeOf21
 v21:=zeroValue21
 t46:=underlying234
 a46:=isAgg234
 z46:=sizeOf234
 v46:=zeroValue234
 t105:=underlying236
 a105:=isAgg236
 z105:=sizeOf236
 v105:=zeroValue236
 t116:=underlying203
 a116:=isAgg203
 z116:=sizeOf203
 t117:=underlying204
 a117:=isAgg204
 z117:=sizeOf204
 v117:=zeroValue204
 t119:=underlying262
 a119:=isAgg262
 z119:=sizeOf262
 t124:=underlying207
 a124:=isAgg207
 z124:=sizeOf207
 v124:=zeroValue207
 t138:=underlying264
 a138:=isAgg264
 z138:=sizeOf264
 v138:=zeroValue264
 t139:=underlying265
 a139:=isAgg265
 z139:=sizeOf265
 v139:=zeroValue265
 g3:=by kernel_rfl
 g4:=by kernel_rfl}
def Q1x:Go.Shelf.Ren:=⟨λ|103=>176|210=>205|206=>148|n=>n,λ|9=>9|4=>4|24=>213|3=>3|n=>n,λ|n=>n⟩
theorem Qci:Go.Proofs.Lays.n103 prog Q1x:={
 mixed:=by kernel_rfl
 f103:=Ly func176 (by kernel_rfl)
 f206:=Ly func148 (by kernel_rfl)
 f210:=Ly func205 (by kernel_rfl)
 t3:=underlying3
 a3:=isAgg3
 z3:=sizeOf3
 v3:=zeroValue3
 t4:=underlying4
 a4:=isAgg4
 z4:=sizeOf4
 v4:=zeroValue4
 t9:=underlying9
 a9:=isAgg9
 z9:=sizeOf9
 v9:=zeroValue9
 t24:=underlying213
 a24:=isAgg213
 z24:=sizeOf213
 v24:=zeroValue213}
end
end
end Go.Proofs
namespace Go.Proofs.YtjcfppnjamjjhaaGreatDoor
open Go.Proofs.Tryz
noncomputable section
section
open Go.RowKit Go.Maps Go.Shelf
def Qjh(ents:Array MapEntry)(l:List (Int×Int×Nat)):Prop:=ents.toList=l.map λe=>⟨.int .i64 e.1,.int .i64 e.2.1,e.2.2⟩
abbrev Jby:Value->Option (DataW Unit×List MemPlace):=λ_=>some (.lit (.bool false),[])
theorem Qw8{P:Program}{w:World}{b:Nat}{M:Qr}{ents:Array MapEntry}(hk:P.underlying 3=some (.int .i64))(hM:Q7o M=true)(hb:w.heap[b]?=some (.map ents M.2))(he:Qjh ents M.1):∃D,w.ownsMap P 3 Jby b M.1.length D/\(intKeys D).Perm (M.1.map λe=>e.1)/\Maps.size D=M.1.length:=by
 unfold Q7o at hM;have h1:=QR hM;rw[h1]at hM;simp only[C9]at hM;have h2:=QR hM;rw[h2]at hM;simp only[C9]at hM;have h3:=QR hM;rw[h3]at hM;simp only[C9]at hM;have hlen:M.1.length<=1000000:=C5 h1;have hall:∀e∈M.1,e.2.2<M.2/\-9223372036854775808<=e.1/\e.1<=9223372036854775807:=λe he=>by have:=Ch.1 h2 e he;have a1:=QR this;rw[a1]at this;simp only[C9]at this;have a2:=QR this;rw[a2]at this;simp only[C9]at this;exact⟨C5 a1,CG a2,CG this⟩
 have hkey:∀e∈M.1,Go.keyOf P 3 (.int .i64 e.1)=some (.int .i64 e.1):=λe he=>by obtain⟨-,h4,h5⟩:=hall e he;exact keyOf_int_mk hk (by show(decide (_<=_)&&decide (_<=_))=true;rw[CD];exact⟨C7 h4,C7 h5⟩)
 have hsz:ents.size=M.1.length:=by rw[<-Po,he,Cn]
 have hrd:∀e∈M.1,Go.WideElems.rd P 3 Jby ⟨.int .i64 e.1,.int .i64 e.2.1,e.2.2⟩=some (.int .i64 e.1,.lit (.bool false)):=λe he=>by simp[Go.WideElems.rd,hkey e he,Jby]
 refine⟨_,⟨ents,M.2,hb,⟨?_,⟨?_,?_,?_⟩,?_⟩,P8 hsz,Z⟩,?_,?_⟩;rw[hsz];unfold maxLen;omega;intro x hx;rw[he]at hx;obtain⟨e,h4,rfl⟩:=Cu.1 hx;exact(hall e h4).1;rw[he,CK];exact Q0u h3;rw[he,CK];have:=Q0u hM;rw[show(λx:MapEntry=>x.key)∘(λe:Int×Int×Nat=>(⟨.int .i64 e.1,.int .i64 e.2.1,e.2.2⟩:MapEntry))=(Value.int .i64)∘λe=>e.1 from rfl,<-CK];exact SH.2 (this.imp λhne h=>hne (by cases h;rfl));intro x hx;rw[he]at hx;obtain⟨e,h4,rfl⟩:=Cu.1 hx;exact⟨_,hrd e h4⟩;show(List.map _ _).Perm _;refine((WideShapes.sorted_perm _).map _).trans ?_;rw[he,CK,CK];refine .of_eq (CE λe h4=>?_);simp[Go.WideElems.rg,hrd e h4];rfl;simp[Maps.size,length_sorted,hsz]
theorem Qsr{M:Qr}(hM:Q7o M=true):M.1.length<=1000000:=C5 (QR hM)
theorem Q4k{w:World}{Bm b:Nat}{M:Qr}{ents:Array MapEntry}(hM:Q7o M=true)(hBm:w.cell? ⟨Bm,0,none⟩=some (.map (some b)))(hlt:Bm<w.heap.size)(hb:w.heap[b]?=some (.map ents M.2))(he:Qjh ents M.1):CallsIn Fence.wide 5 prog 181 #[.func (.func 209) #[] #[.pointer (some ⟨Bm,0,none⟩)]] w λe w'=>∃v,e=.returned v/\w'.ownsRow w.heap.size 3 1 v (JF M).length ((JF M).map (Value.int .i64))/\Below w.heap.size w w':=by obtain⟨D,hown,hperm,hsize⟩:=Qw8 (P:=prog) (by kernel_rfl) hM hb he;have hlen:=Qsr hM;have hseq:SeqGives Fence.wide 2 prog 209 #[.pointer (some ⟨Bm,0,none⟩)] encZ (λss=>ss.Perm (intKeys D)) (Maps.size D) w:=AnyZI.keys_gives (ρ:=Xd) {Qcj with} Fence.wide _ trivial rfl (by omega) Bm b _ D w hlt hBm hown;have hrun:=AnyZI.sorted_in Q72 Fence.wide 5 trivial trivial trivial trivial rfl (by omega) (Q7s _) (enters_of func208 (by kernel_rfl) rfl) 209 #[.pointer (some ⟨Bm,0,none⟩)] trivial (enters_of func209 (by kernel_rfl) rfl) _ _ (by rw[hsize];unfold maxLen;omega) (by rw[hsize];omega) _ hseq;refine CallsIn.mono (show CallsIn _ _ prog 181 _ _ _ from hrun) ?_;rintro e w' ⟨v,ss,rfl,hS,hrow,-,hbel⟩;have hp:=hS.trans hperm;rw[Q3c hp]at hrow;have hl:ss.length=(JF M).length:=hp.length_eq.trans (ZE _).length_eq.symm;rw[hl]at hrow;exact⟨v,Z,hrow,hbel⟩
theorem Qn5{w:World}{S:Nat->Nat->Prop}{base:Nat}{v:Value}{l:List Int}(h:w.ownsRow base 3 1 v l.length (l.map (Value.int .i64)))(hS:∀b o,base<=b->b<w.heap.size->S b o):Reads S w (.sl 1 (Enc.encL l)) v:=by
 rcases h.2 with⟨rfl,h0⟩|⟨g,cap,cur,rfl,hg,hcur,hn,-,hsz,htk⟩;have:l=[]:=Cv h0;subst this;exact .sl 1 [] none 0 0 0 (λ_ _=>undef) (Ck _) (λh=>absurd rfl h) (λi e h=>by simp at h) (λi e j c h=>by simp at h) (λi e j c h=>by simp at h) (λi e j c h=>by simp at h);have hlt:g<w.heap.size:=Yf hcur;have hget:∀(i:Nat)(e:List C),(Enc.encL l)[i]?=some e->∃x,l[i]?=some x/\e=[.v (.int .i64 x)]:=λi e hi=>by rw[Enc.map,Cm]at hi;cases hx:l[i]? with|none=>rw[hx]at hi;cases hi|some x=>rw[hx]at hi;cases hi;exact⟨x,rfl,rfl⟩
 have hcell:∀(i:Nat)(x:Int),l[i]?=some x->w.cell? ⟨g,i,none⟩=some (.int .i64 x):=λi x hx=>by have hi:i<l.length:=(Ce.1 hx).1;(have h1:(cur.toList.take (l.length*1))[i]?=some (.int .i64 x):=by rw[htk,Cm,hx];rfl);rw[P7]at h1;rw[Ca (by omega)]at h1;simp only[World.cell?,hcur,Pb,P6,if_false];rw[<-PA];exact h1
 have:=Reads.sl (S:=S) (w:=w) 1 (Enc.encL l) (some ⟨g,0,none⟩) cap g 0 (λi j=>.int .i64 (l.getD i 0)) (by rw[Enc.len];exact hn) (λ_=>rfl) (λi e hi=>by obtain⟨x,-,rfl⟩:=hget i e hi;rfl) (λi e j c hi hj=>by
   obtain⟨x,hx,rfl⟩:=hget i e hi
   cases j with
   |zero=>rw[Sb,hx];simpa using hcell i x hx
   |succ j=>simp at hj)
  (λi e j c hi hj=>hS _ _ hg hlt)
  (λi e j c hi hj=>by
   obtain⟨x,hx,rfl⟩:=hget i e hi
   cases j with
   |zero=>simp at hj;subst hj;rw[Sb,hx];exact Reads.v _ rfl
   |succ j=>simp at hj)
 rw[Enc.len]at this;exact this
theorem Q38{m:Mem}{b i:Nat}{T:TypeId}{M:Qr}(hb:Jav m.hp b=some (.cells T [.mp i]))(hi:Jav m.hp i=some (.mp (JC M.1) M.2))(hM:Q7o M=true):CallM prog 181 [.one (.fn 209 [(b,0)])] m (.v (.one (.d (.sl 1 (Enc.encL (JF M)))))) m:=by
 refine⟨enters_of func181 (by kernel_rfl) rfl,λE V w vs hP H hn hargs=>?_⟩;obtain⟨hbl,o,ho,us,rfl,hus⟩:=H.own b _ hb;obtain⟨u,hu,-,rfl⟩:=hus.2 0 _ rfl;obtain⟨-,o2,ho2,ents,rfl,hsz,hents⟩:=H.own i _ hi;obtain⟨a,ha,-,rfl⟩:=hargs.2 0 _ rfl;have hvs:vs=#[.func (.func 209) #[] #[.pointer (some ⟨V.ι b,0,none⟩)]]:=by have h1:vs.size=1:=hargs.1;apply PN;intro k;cases k with|zero=>rw[ha];rfl|succ k=>simp[h1]
 rw[hvs];have hE:Qjh ents M.1:=by(have hlen:(JC M.1).length=M.1.length:=by simp[JC]);apply So;intro k;rw[Cm];cases hk:M.1[k]? with|none=>have:M.1.length<=k:=Py.1 hk;rw[PJ,Py,Po];omega|some e=>obtain⟨v,h1,h2⟩:=hents k (.int .i64 e.1) (.one (.d (.v (.int .i64 e.2.1)))) e.2.2 (by simp[JC,hk]);(have hv:v=.int .i64 e.2.1:=by cases h2;rfl);rw[hv]at h1;rw[PA,h1];rfl
 refine Calls.mono ((callsIn_wide (n:=5)).1 (Q4k (Bm:=V.ι b) (b:=V.ι i) hM ?_ (Yf ho) ho2 hE)) ?_;simp only[World.cell?,ho,Pb,P6,if_false];exact hu;rintro e w' ⟨v,rfl,hrow,hbel⟩;have hx:GI w w':=⟨hbel.os,hbel.tape,hbel.output,hbel.size,λk hk _=>hbel.block k hk⟩;have hg:V.Grow {V with S:=λb o=>V.S b o\/(w.heap.size<=b/\b<w'.heap.size)} w w':=⟨Ck _,λ_ _=>rfl,λ_ _=>rfl,λ_ _ _ _=>rfl,λb o h=>.inl h,λb o h=>h.elim .inl λh=>.inr h.1,λb o h=>h.elim (λh=>Cj (H.sz b o h) hbel.size) λh=>h.2⟩;exact⟨v,_,Z,H.later hx hg,hn,H.le hx hg,Qn5 hrow (λb o h1 h2=>.inr ⟨h1,h2⟩)⟩
theorem Q3i{E:Env}{st:St}{dd:Option Tmp}{ty:TypeId}{pos:String}{af:Array Edge}{g:Option (Nat×Bool)}{xs:Array Operand}{ats:Array TypeId}{b i:Nat}{T:TypeId}{M:Qr}(hP:E.P=prog)(ha:YB st.tm xs.toList=some [.one (.fn 209 [(b,0)])])(hb:Jav st.hp b=some (.cells T [.mp i]))(hi:Jav st.hp i=some (.mp (JC M.1) M.2))(hM:Q7o M=true):OpOK E ⟨dd,.call {callee:=.value (.func 181),args:=xs,argTypes:=ats},ty,pos,af,g⟩ st (.v (.one (.d (.sl 1 (Enc.encL (JF M)))))) ⟨st.hp,st.tk,st.nx⟩:=Qa4 (E:=E) (st:=st) (dd:=dd) (ty:=ty) (pos:=pos) (af:=af) (g:=g) (x:=.func 181) (caps:=[]) rfl ha (by rw[hP];exact Q38 hb hi hM)
end
section
open Go.RowKit Go.Shelf
theorem WR{P:Program}{f:FuncId}{vs0:List Value}{res:TV}(v:Value)(hen:Qb P f)(hres:∀V w,res.rel V w v)(h:∀w,Calls P f vs0.toArray w λe w'=>e=.returned v/\GI w w'):Fun P f (vs0.map λa=>.one (.d (.v a))) res:=by
 refine⟨hen,λS w vs hS hargs=>?_⟩;have hsz:vs.size=vs0.length:=by rw[hargs.1,Cn]
 have hvs:vs=vs0.toArray:=by apply PN;intro k;cases hk:vs0[k]? with|none=>have:=Py.1 hk;rw[P1 (by omega)];simp[hk]|some a=>obtain⟨u,h1,h2⟩:=hargs.2 k (.one (.d (.v a))) (by rw[Cm,hk];rfl);(have e:u=a:=by cases h2;rfl);rw[h1,e];simp[hk]
 rw[hvs];exact(h w).mono λe w' ⟨he,hx⟩=>⟨v,S,he,hx,λ_ _ h=>h,λb o h=>⟨.inl h,Cj (hS b o h) hx.size⟩,hres _ _⟩
theorem Qq9(s:List UInt8):Fun prog 175 [.one (K0 s),.one (K0 [32])] (Jbs (s.dropWhile (·==32))):=by refine WR (vs0:=[.string (Jaj s),.string (Jaj [32])]) (.string (Jaj (s.dropWhile (·==32)))) (enters_of func175 (by kernel_rfl) rfl) (λV w=>J2 rfl) λw=>?_;refine Calls.mono (Any.strings_TrimLeft_one Qcf (Jaj s) 32 (by decide) w) ?_;rintro e w' ⟨rfl,rfl⟩;exact⟨Z,ExtM.refl _ _⟩
theorem Q3s{v:Value}(h:v.oneCell'=true):∀V w,(AV.one (.d (.v v))).rel V w v:=λV w=>Reads.v v h
theorem Qy2(s p:List UInt8):Fun prog 176 [.one (K0 s),.one (K0 p)] (.tup [.one (K0 (Lib.trimPrefix s p)),.one (.d (.v (.bool (Lib.hasPrefix s p))))]):=by refine WR (vs0:=[.string (Jaj s),.string (Jaj p)]) (.tuple #[.string (Jaj (Lib.trimPrefix s p)),.bool (Lib.hasPrefix s p)]) (enters_of func176 (by kernel_rfl) rfl) (Qzp (Q3s rfl) (Q3s rfl)) λw=>?_;refine Calls.mono (Any.strings_CutPrefix Qci (Jaj s) (Jaj p) w) ?_;rintro e w' ⟨rfl,rfl⟩;exact⟨Z,ExtM.refl _ _⟩
def Q2y(s:List UInt8):Int:=(Lib.atoi s).getD 0
theorem Que(s:List UInt8)(h:(cond (Nat.ble s.length 18) (Lib.atoi s).isSome false)=true):Fun prog 147 [.one (K0 s)] (.tup [.one (.d (.v (.int .i64 (Q2y s)))),.one (.d (.v .nilIface))]):=by
 have h0:=C5 (QR h);obtain⟨n,hn⟩:=Option.isSome_iff_exists.1 (QM h);have e:Q2y s=n:=by unfold Q2y;rw[hn];rfl
 rw[e];refine WR (vs0:=[.string (Jaj s)]) (.tuple #[.int .i64 n,.nilIface]) (enters_of func147 (by kernel_rfl) rfl) (Qzp (Q3s rfl) (Q3s rfl)) λw=>?_;refine Calls.mono (Any.strconv_Atoi Q0c (Jaj s) n (by rw[YE];exact h0) hn w) ?_;rintro e w' ⟨rfl,t,rfl⟩;exact⟨Z,KC (Lib.bytesWorld_below _ _ _)⟩
end
section
open Go.RowKit Go.Shelf
abbrev Vh:Nat×HB:=(4,.cells 210 [.mp 1])
theorem Yz:QL prog 188 0=some 0:=by kernel_rfl
theorem WE:QL prog 188 1=some 1:=by kernel_rfl
theorem WD:QL prog 188 2=some 2:=by kernel_rfl
theorem Qes:QL prog 188 3=some 3:=by kernel_rfl
theorem Q63:QL prog 212 0=some 0:=by kernel_rfl
theorem Q62:QL prog 212 1=some 1:=by kernel_rfl
theorem Qum:Jd prog 185=some (false,1):=by kernel_rfl
theorem Qj1:Jd prog 210=some (false,1):=by kernel_rfl
theorem Qqj:QS prog 218=some (3,1):=by kernel_rfl
theorem XW:Ya prog 82 [(0,1),(1,1)] [.int .i64 0,.slice none 0 0]:=⟨by kernel_rfl,by kernel_rfl⟩
theorem Qud:Ya prog 142 [(0,1),(1,1)] [.int .i64 0,.int .i64 0]:=⟨by kernel_rfl,by kernel_rfl⟩
theorem J39:Ya prog 188 [(0,1),(1,1),(2,1),(3,1)] [.string ByteArray.empty,.bool false,.int .i64 0,.pointer none]:=⟨by kernel_rfl,by kernel_rfl⟩
theorem J38:Ya prog 212 [(0,1),(1,1)] [.map none,.int .i64 0]:=⟨by kernel_rfl,by kernel_rfl⟩
theorem J2y:Kg prog 142=some (2,16):=by kernel_rfl
theorem Qh4:Dl prog 210=some (true,.one (.d (.v (.int .i64 0)))):=by kernel_rfl
theorem J2k:Qb prog 127:=enters_of func127 (by kernel_rfl) rfl
theorem J2b:Qb prog 149:=enters_of func149 (by kernel_rfl) rfl
theorem J2a:Qb prog 150:=enters_of func150 (by kernel_rfl) rfl
theorem J29:Qb prog 151:=enters_of func151 (by kernel_rfl) rfl
theorem J28:Qb prog 152:=enters_of func152 (by kernel_rfl) rfl
theorem J27:Qb prog 153:=enters_of func153 (by kernel_rfl) rfl
theorem J25:Qb prog 177:=enters_of func177 (by kernel_rfl) rfl
theorem J24:Qb prog 178:=enters_of func178 (by kernel_rfl) rfl
theorem J23:Qb prog 179:=enters_of func179 (by kernel_rfl) rfl
theorem J22:Qb prog 180:=enters_of func180 (by kernel_rfl) rfl
theorem J21:Qb prog 182:=enters_of func182 (by kernel_rfl) rfl
theorem J20:Qb prog 183:=enters_of func183 (by kernel_rfl) rfl
theorem J1z:Qb prog 206:=enters_of func206 (by kernel_rfl) rfl
abbrev Qo1(p0_:Jc6)(p1_:Bool)(p2_:Int)(p3_:Int)(p4_:Qr):List (Nat×HB):=[(0,.cells 188 [K0 p0_,Jbd p1_,Jbc p2_,.ptr 1 0]),(1,.cells 212 [.mp 2,Jbc p3_]),(2,.mp (JC p4_.1) p4_.2)]
abbrev Qo0(p0_:Jc6)(p1_:Bool)(p2_:Int):HB:=.cells 188 [K0 (p0_.dropWhile (·==32)),Jbd p1_,Jbc p2_,.ptr 1 0]
abbrev Q8v(p0_:Jc6)(p1_:Bool)(p2_:Int)(p3_:Int)(p4_:Qr):List (Nat×HB):=[(0,Qo0 p0_ p1_ p2_),(1,.cells 212 [.mp 2,Jbc p3_]),(2,.mp (JC p4_.1) p4_.2)]
def JM(a0:Jc6)(a1:Bool)(a2:Int)(a3:Int)(a4:Qr):Option Unit:=some ()
theorem ZK(a0:Jc6)(a1:Bool)(a2:Int)(a3:Int)(a4:Qr)(r:Unit)(h0:JM a0 a1 a2 a3 a4=some r):CallM prog 150 [.one (.ptr 0 0)] ⟨Qo1 a0 a1 a2 a3 a4,[],3⟩ (Qg []) ⟨Q8v a0 a1 a2 a3 a4,[],3⟩:=by
 unfold JM at h0;refine Qp ⟨[],Q8v a0 a1 a2 a3 a4,[],3,10,[]⟩ Z Z J2a (Jaw Z) Z .nil (λw0 M V0 Q hv0 hQ0=>?_);simp only[J3];refine Q0<|Jal Z Z Z<|Jal Z Z Z<|Jak Z Z Z (Qe Z)<|Jak Z Z Z (Q2 Yz Z)<|Jak Z Z Z (Q6 Q1q Z Z Z) ?_
 refine Qk Z Z (Jaw Z) (Yg (Qq9 a0) Z (.cons (.one (.d _)) (.cons (.one (.d _)) .nil))) ?_;refine Jak Z Z Z (Qe Z)<|Jak Z Z Z (Q2 Yz Z)<|QN Z Z (Qh Q1q Z Z Z Z (Jaw Z) Z)<|Q3 ?_
 have e:=Jai h0;subst e;exact hQ0 _ _ _ (.inl Z) Z (QZ Jac (hA Z) Jax Z (Cc hv0 (Jaw Z)) Z Z Z (Jbm Z Z (Jbm Z Z (Jbl Z Jbk))) Z Z)
abbrev Qnz(p0_:Jc6)(p1_:Bool)(p2_:Int)(p3_:Int)(p4_:Qr):List (Nat×HB):=[(0,.cells 188 [K0 p0_,Jbd p1_,Jbc p2_,.ptr 1 0]),(1,.cells 212 [.mp 2,Jbc p3_]),(2,.mp (JC p4_.1) p4_.2)]
abbrev Q8u(p0_:(Jc6))(p1_:Bool)(p2_:Int)(p3_:Int)(p4_:Qr):List (Nat×HB):=[(0,.cells 188 [K0 p0_,Jbd p1_,Jbc p2_,.ptr 1 0]),(1,.cells 212 [.mp 2,Jbc p3_]),(2,.mp (JC p4_.1) p4_.2)]
def Yq(a0:Jc6)(a1:Jc6)(a2:Bool)(a3:Int)(a4:Int)(a5:Qr):Option ((Jc6)):=cond (Lib.hasPrefix a1 a0) (some (Lib.trimPrefix a1 a0)) (some a1)
theorem ZJ(a0:Jc6)(a1:Jc6)(a2:Bool)(a3:Int)(a4:Int)(a5:Qr)(r:(Jc6))(h0:Yq a0 a1 a2 a3 a4 a5=some r):CallM prog 151 [.one (.ptr 0 0),.one (K0 a0)] ⟨Qnz a1 a2 a3 a4 a5,[],3⟩ (Qg [.one (Jbd (Lib.hasPrefix a1 a0))]) ⟨Q8u r a2 a3 a4 a5,[],3⟩:=by
 unfold Yq at h0;refine Qp ⟨[(4,.v (.one (Jbd (Lib.hasPrefix a1 a0))))],Q8u r a2 a3 a4 a5,[],3,22,[]⟩ Z Z J29 (Jaw Z) Z (Jl Z .nil) (λw0 M V0 Q hv0 hQ0=>?_);simp only[J3];refine Q4<|Q0<|Jam Z Z Z<|Q3<|Q5<|Q4<|Q0<|Jal Z Z Z<|Jak Z Z Z (Qe Z)<|Jak Z Z Z (Q2 Yz Z)<|Jak Z Z Z (Q6 Q1q Z Z Z)<|Jal Z Z Z ?_
 refine Qk Z Z (Jaw Z) (Yg (Qy2 a1 a0) Z (.cons (.one (.d _)) (.cons (.one (.d _)) .nil))) ?_;refine Jal Z Z Z<|Jak Z Z Z (J8 Z Z)<|Jak Z Z Z (J8 Z Z)<|Jam Z Z Z<|Jam Z Z Z<|Q3<|Q5<|Q4<|Q4<|Q0<|Jal Z Z Z<|Q3<|Q5 ?_
 refine Qz (b:=(Lib.hasPrefix a1 a0)) Z (λc1=>?_) (λc1=>?_);replace h0:=QF c1 h0;refine Q0<|Jal Z Z Z<|Jal Z Z Z<|Jak Z Z Z (Qe Z)<|Jak Z Z Z (Q2 Yz Z)<|QN Z Z (Qh Q1q Z Z Z Z (Jaw Z) Z)<|Q3<|Q5<|Q4<|Q0<|Jal Z Z Z<|Jam Z Z Z<|Q3<|Q5 ?_
 refine QQ ?_;have e:=Jai h0;subst e;exact hQ0 _ _ _ (.inr Z) Z (QZ (Jag Z) (hA Z) Jax Z (Cc hv0 (Jaw Z)) Z Z Z (Jbm Z Z (Jbm Z Z (Jbl Z Jbk))) Z Z);replace h0:=QG c1 h0;refine QV<|Q5<|Q4<|Q0<|Jal Z Z Z<|Jam Z Z Z<|Q3<|Q5<|QQ ?_
 have e:=Jai h0;subst e;exact hQ0 _ _ _ (.inr Z) Z (QZ (Jag Z) (hA Z) Jax Z (Cc hv0 (Jaw Z)) Z Z Z (Jbm Z Z (Jbm Z Z (Jbl Z Jbk))) Z Z)
def GV(a0:Jc6)(s1:Int):Option (LO Int Int):=
 Option.bind (cond (decide (s1<(a0.length:Int))) (Option.bind (QT a0 s1) λ(x4:UInt8)=>
 cond (decide (48<=(x4.toNat:Int))) (Option.bind (QT a0 s1) λ(x6:UInt8)=>
 some (decide ((x6.toNat:Int)<=57))) (some false)) (some false)) (λ(v2:Bool)=>cond v2 (some (.next (Qm (s1+1)))) (some (.done s1)))
abbrev U2(p0_:Jc6)(p1_:Bool)(p2_:Int)(p3_:Int)(p4_:Qr):List (Nat×HB):=[(0,.cells 188 [K0 p0_,Jbd p1_,Jbc p2_,.ptr 1 0]),(1,.cells 212 [.mp 2,Jbc p3_]),(2,.mp (JC p4_.1) p4_.2)]
abbrev Qno(p0_:Jc6)(p1_:Int)(p2_:Bool)(p3_:Int)(p4_:Int)(p5_:Qr):List (Nat×HB):=[(0,.cells 188 [K0 (p0_.drop p1_.toNat),Jbd p2_,Jbc p3_,.ptr 1 0]),(1,.cells 212 [.mp 2,Jbc p4_]),(2,.mp (JC p5_.1) p5_.2)]
abbrev Q8m(p0_:(Int×Jc6×Bool))(p1_:Int)(p2_:Int)(p3_:Qr):List (Nat×HB):=[(0,.cells 188 [K0 p0_.2.1,Jbd p0_.2.2,Jbc p1_,.ptr 1 0]),(1,.cells 212 [.mp 2,Jbc p2_]),(2,.mp (JC p3_.1) p3_.2)]
def YP(a0:Jc6)(a1:Bool)(a2:Int)(a3:Int)(a4:Qr):Option ((Int×Jc6×Bool)):=
 Option.bind (Qa (GV a0) Qd 0) (λ(o1:Int)=>Q7 (cond (decide (0<=o1)) (Nat.ble o1.toNat a0.length) false)
 (Q7 (cond (decide (0<=o1)) (Nat.ble o1.toNat a0.length) false)
 (Option.bind (cond (o1==0) (some true) (cond (decide (6<o1)) (some true) (cond (decide (1<o1)) (Option.bind (QT (a0.take o1.toNat) 0) λ(x8:UInt8)=>
 some ((x8.toNat:Int)==48)) (some false)))) (λ(v4:Bool)=>cond v4 (some (0,(a0.drop o1.toNat),true)) (Q7 ((cond (Nat.ble (a0.take o1.toNat).length 18) (Lib.atoi (a0.take o1.toNat)).isSome false))
 (some ((Q2y (a0.take o1.toNat)),(a0.drop o1.toNat),a1)))))))
theorem Q11(a0:Jc6)(a1:Bool)(a2:Int)(a3:Int)(a4:Qr)(r:(Int×Jc6×Bool))(h0:YP a0 a1 a2 a3 a4=some r):CallM prog 177 [.one (.ptr 0 0)] ⟨U2 a0 a1 a2 a3 a4,[],3⟩ (Qg [.one (Jbc r.1)]) ⟨Q8m r a2 a3 a4,[],3⟩:=by
 unfold YP at h0;refine Qp ⟨[(2,.v (.one (Jbc r.1)))],Q8m r a2 a3 a4,[],3,73,[]⟩ Z Z J25 (Jaw Z) Z (Jl Z .nil) (λw0 M V0 Q hv0 hQ0=>?_);simp only[J3];refine Q4<|Q0<|Jam Z Z Z<|Q3<|Q5<|Q4<|Q0<|Jam Z Z Z<|Q3<|Q5<|Q4<|QH ?_
 refine Gh 0 (λ(o1:Int)=>⟨[(0,.v (.one (.ptr 0 0))),(3,.v (.one (Jbc o1)))],U2 a0 a1 a2 a3 a4,[],3,73,[]⟩) (λ(o1:Int)=>(Q7 (cond (decide (0<=o1)) (Nat.ble o1.toNat a0.length) false) (Q7 (cond (decide (0<=o1)) (Nat.ble o1.toNat a0.length) false) (Option.bind (cond (o1==0) (some true) (cond (decide (6<o1)) (some true) (cond (decide (1<o1)) (Option.bind (QT (a0.take o1.toNat) 0) λ(x8:UInt8)=>
  some ((x8.toNat:Int)==48)) (some false)))) (λ(v4:Bool)=>cond v4 (some (0,(a0.drop o1.toNat),true)) (Q7 ((cond (Nat.ble (a0.take o1.toNat).length 18) (Lib.atoi (a0.take o1.toNat)).isSome false))
  (some ((Q2y (a0.take o1.toNat)),(a0.drop o1.toNat),a1)))))))=some r) ?_ ?_
 refine Qu h0 (λo2 hl1 h0=>?_);refine Gg (GV a0) (λs1=>⟨[(0,.v (.one (.ptr 0 0))),(3,.v (.one (Jbc s1)))],U2 a0 a1 a2 a3 a4,[],3,73,[]⟩) 0 o2 (QZ (Jag Z) (hA Z) Jax Z (Cc hv0 (Jaw Z)) Z Z Z (Jbm Z Z (Jbm Z Z (Jbl Z Jbk))) Z Z) hl1 (λs1 n1 oo1 h1 ho1=>?_);unfold GV at h1;refine Q4<|Q4 ?_
 refine Jt (λ(v3:Bool)=>⟨[(0,.v (.one (.ptr 0 0))),(3,.v (.one (Jbc s1))),(31,.v (.one (Jbd v3)))],U2 a0 a1 a2 a3 a4,[],3,73,[]⟩) (λ(v3:Bool)=>(cond v3 (some (.next (Qm (s1+1)))) (some (.done s1)))=some oo1) ?_ ?_;refine Qu h1 (λw2_ h2 h1=>?_);refine Q0<|Jal Z Z Z<|Jal Z Z Z<|Jak Z Z Z (Qe Z)<|Jak Z Z Z (Q2 Yz Z)<|Jak Z Z Z (Q6 Q1q Z Z Z)<|Jak Z Z Z (Qcn Qgq Z)<|Jak Z Z Z (Qc Z Z Z)<|Jal Z Z Z ?_
 refine QX (d:=14) (c:=(decide (s1<(a0.length:Int)))) Z (λc4=>?_) (λc4=>?_);replace h2:=QF c4 h2;refine Jal Z Z Z<|Jak Z Z Z (Qe Z)<|Jak Z Z Z (Q2 Yz Z)<|Jak Z Z Z (Q6 Q1q Z Z Z)<|Jal Z Z Z ?_
 refine Qu h2 (λx5 hx5 h2=>?_);refine Jak Z Z Z (Qco Qgq Z Z hx5)<|Jak Z Z Z (Qc Z Z Z)<|Jak Z Z Z (Qn Z Z)<|Jal Z Z Z ?_
 refine QX (d:=23) (c:=(decide (48<=(x5.toNat:Int)))) Z (λc6=>?_) (λc6=>?_);replace h2:=QF c6 h2;refine Jal Z Z Z<|Jak Z Z Z (Qe Z)<|Jak Z Z Z (Q2 Yz Z)<|Jak Z Z Z (Q6 Q1q Z Z Z)<|Jal Z Z Z ?_
 refine Qu h2 (λx7 hx7 h2=>?_);refine Jak Z Z Z (Qco Qgq Z Z hx7)<|Jak Z Z Z (Qc Z Z Z)<|Jak Z Z Z (Qn Z Z)<|Q3 ?_
 have e:=Jai h2;subst e;exact Qi (decide ((x7.toNat:Int)<=57)) (QZ (Jag Z) (hA Z) Jax Z (Cc hv0 (Jaw Z)) Z Z Z (Jbm Z Z (Jbm Z Z (Jbl Z Jbk))) Z Z) h1;replace h2:=QG c6 h2;refine Q8 Z Z<|Q8 Z Z<|Q8 Z Z<|Q8 Z Z<|Q8 Z Z<|Q8 Z Z<|Q8 Z Z<|Jak Z Z Z (QA Z Z)<|Q3 ?_
 have e:=Jai h2;subst e;exact Qi false (QZ (Jag Z) (hA Z) Jax Z (Cc hv0 (Jaw Z)) Z Z Z (Jbm Z Z (Jbm Z Z (Jbl Z Jbk))) Z Z) h1;replace h2:=QG c4 h2;refine Q8 Z Z<|Q8 Z Z<|Q8 Z Z<|Q8 Z Z<|Q8 Z Z<|Q8 Z Z<|Q8 Z Z<|Jak Z Z Z (QA Z Z)<|Jal Z Z Z<|Q8 Z Z<|Q8 Z Z<|Q8 Z Z<|Q8 Z Z<|Q8 Z Z ?_
 refine Q8 Z Z<|Q8 Z Z<|Jak Z Z Z (QA Z Z)<|Q3 ?_
 have e:=Jai h2;subst e;exact Qi false (QZ (Jag Z) (hA Z) Jax Z (Cc hv0 (Jaw Z)) Z Z Z (Jbm Z Z (Jbm Z Z (Jbl Z Jbk))) Z Z) h1;intro v3 h1;refine Q5 ?_;refine Qz (b:=v3) Z (λc8=>?_) (λc8=>?_);replace h1:=QF c8 h1;refine QV<|Q5<|QH<|Q0<|Jal Z Z Z<|Jak Z Z Z (Qc Z Z Z)<|Jam Z Z Z<|Q3<|Ji ?_
 have e:=Jai h1;subst e;refine Ge (Qm (s1+1)) (QZ (Jag Z) (hA Z) Jax Z (Cc hv0 (Jaw Z)) Z Z Z (Jbm Z Z (Jbm Z Z (Jbl Z Jbk))) Z Z) ho1;replace h1:=QG c8 h1;refine Gx<|JV<|JV ?_
 have e:=Jai h1;subst e;have e_:_=_:=ho1;subst e_;exact Gf s1 (QZ (Jag Z) (hA Z) Jax Z (Cc hv0 (Jaw Z)) Z Z Z (Jbm Z Z (Jbm Z Z (Jbl Z Jbk))) Z Z) h0;intro o1 h0;refine Z7<|Q5<|Q4<|Q0<|Jal Z Z Z<|Jak Z Z Z (Qe Z)<|Jak Z Z Z (Q2 Yz Z)<|Jak Z Z Z (Q6 Q1q Z Z Z)<|Jal Z Z Z ?_
 refine D6 h0 (λg9 h0=>?_);refine Jak Z Z Z (Quu Qgq Z Z g9)<|Jam Z Z Z<|Q3<|Q5<|Q4<|Q0<|Jal Z Z Z<|Jal Z Z Z<|Jak Z Z Z (Qe Z)<|Jak Z Z Z (Q2 Yz Z)<|Jak Z Z Z (Q6 Q1q Z Z Z)<|Jal Z Z Z ?_
 refine D6 h0 (λg10 h0=>?_);refine Jak Z Z Z (Qfw Qgq Z Z g10)<|Jak Z Z Z (Qe Z)<|Jak Z Z Z (Q2 Yz Z)<|QN Z Z (Qh Q1q Z Z Z Z (Jaw Z) Z)<|Q3<|Q5<|Q4<|Q4 ?_
 refine Jt (λ(v11:Bool)=>⟨[(0,.v (.one (.ptr 0 0))),(4,.v (.one (K0 (a0.take o1.toNat)))),(63,.v (.one (Jbd v11)))],Qno a0 o1 a1 a2 a3 a4,[],3,73,[]⟩) (λ(v11:Bool)=>(cond v11 (some (0,(a0.drop o1.toNat),true)) (Q7 ((cond (Nat.ble (a0.take o1.toNat).length 18) (Lib.atoi (a0.take o1.toNat)).isSome false)) (some ((Q2y (a0.take o1.toNat)),(a0.drop o1.toNat),a1))))=some r) ?_ ?_;refine Qu h0 (λw1_ h1 h0=>?_);refine Q0<|Jal Z Z Z<|Jak Z Z Z (Qc Z Z Z)<|Jal Z Z Z ?_
 refine QX (d:=51) (c:=(o1==0)) Z (λc12=>?_) (λc12=>?_);replace h1:=QF c12 h1;refine Q8 Z Z<|Q8 Z Z<|Jak Z Z Z (Qn Z Z)<|Jal Z Z Z<|Q8 Z Z<|Q8 Z Z<|Q8 Z Z<|Q8 Z Z<|Q8 Z Z<|Q8 Z Z<|Q8 Z Z<|Jak Z Z Z (Qn Z Z)<|Q3 ?_
 have e:=Jai h1;subst e;exact Qi true (QZ (Jag Z) (hA Z) Jax Z (Cc hv0 (Jaw Z)) Z Z Z (Jbm Z Z (Jbm Z Z (Jbl Z Jbk))) Z Z) h0;replace h1:=QG c12 h1;refine Jal Z Z Z<|Jak Z Z Z (Qc Z Z Z)<|Jak Z Z Z (QA Z Z)<|Jal Z Z Z ?_
 refine QX (d:=55) (c:=(decide (6<o1))) Z (λc13=>?_) (λc13=>?_);replace h1:=QF c13 h1;refine Q8 Z Z<|Q8 Z Z<|Q8 Z Z<|Q8 Z Z<|Q8 Z Z<|Q8 Z Z<|Q8 Z Z<|Jak Z Z Z (Qn Z Z)<|Q3 ?_
 have e:=Jai h1;subst e;exact Qi true (QZ (Jag Z) (hA Z) Jax Z (Cc hv0 (Jaw Z)) Z Z Z (Jbm Z Z (Jbm Z Z (Jbl Z Jbk))) Z Z) h0;replace h1:=QG c13 h1;refine Jal Z Z Z<|Jak Z Z Z (Qc Z Z Z)<|Jal Z Z Z ?_
 refine QX (d:=58) (c:=(decide (1<o1))) Z (λc14=>?_) (λc14=>?_);replace h1:=QF c14 h1;refine Jal Z Z Z ?_;refine Qu h1 (λx15 hx15 h1=>?_);refine Jak Z Z Z (Qco Qgq Z Z hx15)<|Jak Z Z Z (Qc Z Z Z)<|Jak Z Z Z (Qn Z Z)<|Jak Z Z Z (QA Z Z)<|Q3 ?_
 have e:=Jai h1;subst e;exact Qi ((x15.toNat:Int)==48) (QZ (Jag Z) (hA Z) Jax Z (Cc hv0 (Jaw Z)) Z Z Z (Jbm Z Z (Jbm Z Z (Jbl Z Jbk))) Z Z) h0;replace h1:=QG c14 h1;refine Q8 Z Z<|Q8 Z Z<|Q8 Z Z<|Jak Z Z Z (QA Z Z)<|Jak Z Z Z (QA Z Z)<|Q3 ?_
 have e:=Jai h1;subst e;exact Qi false (QZ (Jag Z) (hA Z) Jax Z (Cc hv0 (Jaw Z)) Z Z Z (Jbm Z Z (Jbm Z Z (Jbl Z Jbk))) Z Z) h0;intro v11 h0;refine Q5 ?_;refine Qz (b:=v11) Z (λc16=>?_) (λc16=>?_);replace h0:=QF c16 h0;refine Q4<|Q0<|Jal Z Z Z<|Jak Z Z Z (Qe Z)<|Jak Z Z Z (Q2 WE Z)<|QN Z Z (Qh Qfn Z Z Z Z (Jaw Z) Z)<|Q3<|Q5<|Q4<|Q0<|Jam Z Z Z<|Q3<|Q5<|QQ ?_
 have e:=Jai h0;subst e;exact hQ0 _ _ _ (.inr Z) Z (QZ (Jag Z) (hA Z) Jax Z (Cc hv0 (Jaw Z)) Z Z Z (Jbm Z Z (Jbm Z Z (Jbl Z Jbk))) Z Z);replace h0:=QG c16 h0;refine QV<|Q5<|Q4<|Q0<|Jal Z Z Z ?_
 refine D6 h0 (λg17 h0=>?_);refine Qk Z Z (Jaw Z) (Yg (Que (a0.take o1.toNat) g17) Z (.cons (.one (.d _)) .nil)) ?_;refine Jal Z Z Z<|Jak Z Z Z (J8 Z Z)<|Jak Z Z Z (J8 Z Z)<|Jam Z Z Z<|Jam Z Z Z<|Q3<|Q5<|Q4<|Q0<|Jal Z Z Z<|Jam Z Z Z<|Q3<|Q5<|QQ ?_
 have e:=Jai h0;subst e;exact hQ0 _ _ _ (.inr Z) Z (QZ (Jag Z) (hA Z) Jax Z (Cc hv0 (Jaw Z)) Z Z Z (Jbm Z Z (Jbm Z Z (Jbl Z Jbk))) Z Z)
def Qb6(a0:Int)(a1:Int)(a2:Qr):Option Qr:=Option.bind (cond (!(DS a2 a0)) (some true) (some (decide ((YN a2 a0)<a1)))) (λ(v1:Bool)=>cond v1 (some (WB a2 a0 a1)) (some a2))
theorem Qnk(a0:Int)(a1:Int)(a2:Qr)(r:Qr)(h0:Qb6 a0 a1 a2=some r):CallM prog 206 [.one (.mp 0),.one (Jbc a0),.one (Jbc a1)] ⟨[(0,.mp (JC a2.1) a2.2)],[],1⟩ (Qg []) ⟨[(0,.mp (JC r.1) r.2)],[],1⟩:=by
 unfold Qb6 at h0;refine Qp ⟨[],[(0,.mp (JC r.1) r.2)],[],1,24,[]⟩ Z Z J1z (Jaw Z) Z .nil (λw0 M V0 Q hv0 hQ0=>?_);simp only[J3];refine Q4<|Q0<|Jal Z Z Z<|Jal Z Z Z<|Jak Z Z Z (Qj8 Qh4 Z Z Z)<|Jal Z Z Z<|Jak Z Z Z (J8 Z Z)<|Jak Z Z Z (J8 Z Z)<|Jam Z Z Z<|Jam Z Z Z<|Q3<|Q5<|Q4 ?_
 refine Jt (λ(v1:Bool)=>⟨[(0,.v (.one (.mp 0))),(1,.v (.one (Jbc a0))),(2,.v (.one (Jbc a1))),(20,.v (.one (Jbd v1)))],[(0,.mp (JC a2.1) a2.2)],[],1,24,[]⟩) (λ(v1:Bool)=>(cond v1 (some (WB a2 a0 a1)) (some a2))=some r) ?_ ?_;refine Qu h0 (λw1_ h1 h0=>?_);refine Q0<|Jal Z Z Z<|Jak Z Z Z (GG Z)<|Jal Z Z Z ?_
 refine QX (d:=16) (c:=(!(DS a2 a0))) Z (λc2=>?_) (λc2=>?_);replace h1:=QF c2 h1;refine Q8 Z Z<|Q8 Z Z<|Q8 Z Z<|Jak Z Z Z (Qn Z Z)<|Q3 ?_
 have e:=Jai h1;subst e;exact Qi true (QZ (Jag Z) (hA Z) Jax Z (Cc hv0 (Jaw Z)) Z Z Z (Jbl Z Jbk) Z Z) h0;replace h1:=QG c2 h1;refine Jal Z Z Z<|Jal Z Z Z<|Jak Z Z Z (Qc Z Z Z)<|Jak Z Z Z (QA Z Z)<|Q3 ?_
 have e:=Jai h1;subst e;exact Qi (decide ((YN a2 a0)<a1)) (QZ (Jag Z) (hA Z) Jax Z (Cc hv0 (Jaw Z)) Z Z Z (Jbl Z Jbk) Z Z) h0;intro v1 h0;refine Q5 ?_;refine Qz (b:=v1) Z (λc3=>?_) (λc3=>?_);replace h0:=QF c3 h0;refine Q0<|Jal Z Z Z<|Jal Z Z Z<|Jal Z Z Z<|QN Z Z (Qcp Qh4 Z Z Z Z Z)<|Q3 ?_
 have e:=Jai h0;subst e;exact hQ0 _ _ _ (.inl Z) Z (QZ Jac (hA Z) Jax Z (Cc hv0 (Jaw Z)) Z Z Z (Jbl Z Jbk) Z Z);replace h0:=QG c3 h0;refine QV ?_;have e:=Jai h0;subst e;exact hQ0 _ _ _ (.inl Z) Z (QZ Jac (hA Z) Jax Z (Cc hv0 (Jaw Z)) Z Z Z (Jbl Z Jbk) Z Z)
def KJ(a0:Lvl)(a1:Int)(s1:Int×Qr):Option (LO (Int×Qr) Qr):=
 cond (decide (s1.1<(a0.vs.length:Int))) (Option.bind (QT a0.vs s1.1) λ(x3:Jc0)=>
 Option.bind (Qb6 x3.1 (Qm (x3.2+a1)) s1.2) λ(x4:Qr)=>
 some (.next ((Qm (s1.1+1)),x4))) (some (.done s1.2))
def Xx(a0:Lvl)(a1:Int)(a2:Int)(a3:Qr):Option Qr:=Option.bind (Qa (KJ a0 a1) Qd (0,a3)) (λ(o1:Qr)=>some o1)
theorem Qnn(a0:Lvl)(a1:Int)(a2:Int)(a3:Qr)(r:Qr)(h0:Xx a0 a1 a2 a3=some r):CallM prog 180 [.one (.ptr 0 0),.agg (Jbg a0),.one (Jbc a1)] ⟨[(0,.cells 212 [.mp 1,Jbc a2]),(1,.mp (JC a3.1) a3.2)],[],2⟩ (Qg []) ⟨[(0,.cells 212 [.mp 1,Jbc (max a2 (Qm (a0.c+a1)))]),(1,.mp (JC r.1) r.2)],[],3⟩:=by
 unfold Xx at h0;refine Qp ⟨[],[(0,.cells 212 [.mp 1,Jbc (max a2 (Qm (a0.c+a1)))]),(1,.mp (JC r.1) r.2)],[],3,39,[]⟩ Z Z J22 (Jaw Z) Z .nil (λw0 M V0 Q hv0 hQ0=>?_);simp only[J3];refine Q4<|Q0<|Qk Z Z (Jaw Z) (Y9 Z)<|Q3<|Q5<|Q4 ?_
 refine YI [12] [] mixed (by kernel_rfl) (by kernel_rfl) (by kernel_rfl) ?_;refine RunA.rd Z Z Z (Q9 (YJ Z)) Z<|RunA.rd Z Z Z (Q9 (YJ Z)) Z<|RunA.rd Z Z Z (Q9 (Qe Z)) Z<|RunA.rd Z Z Z (Q9 (Q2 Q62 Z)) Z<|RunA.rd Z Z Z (Q9 (Q6 Y8 Z Z Z)) Z<|RunA.rd Z Z Z (Q9 (Q2 Q42 Z)) Z<|RunA.rd Z Z Z (Q9 (Q6 Y8 Z Z Z)) Z<|RunA.rd Z Z Z (Q9 (YJ Z)) Z<|RunA.rd Z Z Z (Q9 (Qc Z Z Z)) Z<|RunA.rd Z Z Z (Q9 (Ug Z Z)) Z<|RunA.rd Z Z Z (Q9 (Qe Z)) Z<|RunA.rd Z Z Z (Q9 (Q2 Q62 Z)) Z<|RunA.eff Z Z Z (Qh Y8 Z Z Z Z (Jaw Z) Z) Z ?_
 refine RunA.nil ⟨?ex,_,_,Z,?_⟩;case ex=>exact trivial
 refine XM (st':=⟨[(0,.v (.one (.ptr 0 0))),(2,.v (.one (Jbc a1))),(4,.v (.one (.ptr 2 0)))],[(0,.cells 212 [.mp 1,Jbc (max a2 (Qm (a0.c+a1)))]),(1,.mp (JC a3.1) a3.2),(2,.cells 82 (Jbg a0))],[],3,39,[]⟩) (QZ (Jag Z) (hA Z) Jax Z (Cc hv0 (Jaw Z)) Z Z Z (Jbm Z Z (Jbl Z (Jbn Z))) Z Z)<|Q5<|Q4<|Q0<|Jak Z Z Z (Q2 DU Z)<|Jak Z Z Z (Q6 Qfm Z Z Z)<|Jak Z Z Z (JK (α:=Jc0) Dr Z (.d _))<|Jal Z Z Z<|Q3<|Q5<|QH ?_
 refine Gh 0 (λ(o1:Qr)=>⟨[],[(0,.cells 212 [.mp 1,Jbc (max a2 (Qm (a0.c+a1)))]),(1,.mp (JC o1.1) o1.2),(2,.cells 82 (Jbg a0))],[],3,39,[]⟩) (λ(o1:Qr)=>(some o1)=some r) ?_ ?_;refine Qu h0 (λo2 hl1 h0=>?_);refine Gg (KJ a0 a1) (λs1=>⟨[(0,.v (.one (.ptr 0 0))),(2,.v (.one (Jbc a1))),(21,.v (.one (Jba a0.vs))),(22,.v (.one (Jbc (a0.vs.length:Int)))),(23,.v (.one (Jbc s1.1)))],[(0,.cells 212 [.mp 1,Jbc (max a2 (Qm (a0.c+a1)))]),(1,.mp (JC s1.2.1) s1.2.2),(2,.cells 82 (Jbg a0))],[],3,39,[]⟩) (0,a3) o2 (QZ (Jag Z) (hA Z) Jax Z (Cc hv0 (Jaw Z)) Z Z Z (Jbm Z Z (Jbl Z (Jbn Z))) Z Z) hl1 (λs1 n1 oo1 h1 ho1=>?_);unfold KJ at h1;refine Q4<|Q0<|Jak Z Z Z (Qc Z Z Z)<|Q3<|Q5<|Q4 ?_
 refine Qz (b:=(decide (s1.1<(a0.vs.length:Int)))) Z (λc3=>?_) (λc3=>?_);replace h1:=QF c3 h1;refine QV<|Q5<|Q4<|QH<|Q4<|Q0 ?_
 refine Qu h1 (λx4 hx4 h1=>?_);refine Jak Z Z Z (Xf (α:=Jc0) Dr Z (.d _) Z hx4)<|Jak Z Z Z (KD (x4:Jc0) Q70 Z)<|Qk Z Z (Jaw Z) (QO Qjo Z)<|QN Z Z (Zt (x4:Jc0) Q70 Z Z Z Z Z)<|Q3<|Q5 ?_
 refine YI [10] [] mixed (by kernel_rfl) (by kernel_rfl) (by kernel_rfl) ?_;refine RunA.rd Z Z Z (Q9 (YJ Z)) Z<|RunA.rd Z Z Z (Q9 (Qe Z)) Z<|RunA.rd Z Z Z (Q9 (Q2 Q63 Z)) Z<|RunA.rd Z Z Z (Q9 (Q6 Qj1 Z Z Z)) Z<|RunA.rd Z Z Z (Q9 (Q2 Qt6 Z)) Z<|RunA.rd Z Z Z (Q9 (Q6 Y8 Z Z Z)) Z<|RunA.rd Z Z Z (Q9 (Q2 Q64 Z)) Z<|RunA.rd Z Z Z (Q9 (Q6 Y8 Z Z Z)) Z<|RunA.rd Z Z Z (Q9 (YJ Z)) Z<|RunA.rd Z Z Z (Q9 (Qc Z Z Z)) Z ?_
 refine Qu h1 (λx5 hx5 h1=>?_);refine RunA.eff Z Z Z (Qo (hp1':=[(1,.mp (JC x5.1) x5.2)]) (tk1':=[]) (hpF:=[(0,.cells 212 [.mp 1,Jbc (max a2 (Qm (a0.c+a1)))]),(2,.cells 82 (Jbg a0)),(3,.cells 142 (Jbg x4))]) (tkF:=[]) (res2:=Qg []) (nx2:=4) [1] Z Z (Qnk x4.1 (Qm (x4.2+a1)) s1.2 x5 hx5) Z Z (Jao Z Jan) Z Z (Jb8 Z Jb6) Jb1 (hA Z) Jax Z Z Z Z Z (Jbl Z Jbk) Z Z Z Z) Z ?_;refine RunA.nil ⟨?ex,_,_,Z,?_⟩;case ex=>exact trivial
 refine XM (st':=⟨[(0,.v (.one (.ptr 0 0))),(2,.v (.one (Jbc a1))),(21,.v (.one (Jba a0.vs))),(22,.v (.one (Jbc (a0.vs.length:Int)))),(23,.v (.one (Jbc s1.1)))],[(0,.cells 212 [.mp 1,Jbc (max a2 (Qm (a0.c+a1)))]),(1,.mp (JC x5.1) x5.2),(2,.cells 82 (Jbg a0)),(3,.cells 142 (Jbg x4))],[],4,39,[]⟩) (QZ (Jag Z) (hA Z) Jax Z (Cc hv0 (Jaw Z)) Z Z Z (Jbm Z Z (Jbl Z (Jbn Z))) Z Z)<|Ji<|Q5<|Q0<|Jak Z Z Z (Qc Z Z Z)<|Jal Z Z Z<|Q3 ?_
 have e:=Jai h1;subst e;refine Ge ((Qm (s1.1+1)),x5) (QZ (Jag Z) (hA Z) Jax Z (Cc hv0 (Jaw Z)) Z Z Z (Jbm Z Z (Jbl Z (Jbn Z))) Z Z) ho1;replace h1:=QG c3 h1;refine Gx<|JV<|JV ?_
 have e:=Jai h1;subst e;have e_:_=_:=ho1;subst e_;exact Gf s1.2 (QZ Jac (hA Z) Jax Z (Cc hv0 (Jaw Z)) Z Z Z (Jbm Z Z (Jbl Z (Jbn Z))) Z Z) h0;intro o1 h0;refine Z7 ?_;have e:=Jai h0;subst e;exact hQ0 _ _ _ (.inl Z) Z (QZ Jac (hA Z) Jax Z (Cc hv0 (Jaw Z)) Z Z Z (Jbm Z Z (Jbl Z Jbk)) Z Z)
abbrev Q8t(p0_:(Int×Jc6×Bool))(p1_:Int)(p2_:Int)(p3_:Qr):List (Nat×HB):=[(0,.cells 188 [K0 p0_.2.1,Jbd p0_.2.2,Jbc p1_,.ptr 1 0]),(1,.cells 212 [.mp 2,Jbc p2_]),(2,.mp (JC p3_.1) p3_.2),(3,.cells 82 [Jbc 0,Jbb])]
abbrev Qny(p0_:Int×Jc6×Bool)(p1_:Int)(p2_:Int)(p3_:Qr):List (Nat×HB):=[(0,.cells 188 [K0 p0_.2.1,Jbd p0_.2.2,Jbc p1_,.ptr 1 0]),(1,.cells 212 [.mp 2,Jbc p2_]),(2,.mp (JC p3_.1) p3_.2),(3,.cells 82 [Jbc 0,Jbb])]
abbrev Q8s(p0_:Int×Jc6×Bool)(p1_:Int)(p2_:Int)(p3_:Qr)(p4_:Int×(List Jc0)):List (Nat×HB):=[(0,.cells 188 [K0 p0_.2.1,Jbd p0_.2.2,Jbc p1_,.ptr 1 0]),(1,.cells 212 [.mp 2,Jbc p2_]),(2,.mp (JC p3_.1) p3_.2),(3,.cells 82 [Jbc 0,Jbb]),(4,.cells 82 [Jbc 0,Jba p4_.2])]
abbrev Qnx(p0_:Int×Jc6×Bool)(p1_:Int)(p2_:Int)(p3_:Qr):List (Nat×HB):=[(0,.cells 188 [K0 p0_.2.1,Jbd p0_.2.2,Jbc p1_,.ptr 1 0]),(1,.cells 212 [.mp 2,Jbc p2_]),(2,.mp (JC p3_.1) p3_.2),(3,.cells 82 [Jbc 0,Jbb]),(4,.cells 82 [Jbc 0,Jbb])]
abbrev Q8r(p0_:(Int×Jc6×Bool))(p1_:Int)(p2_:Int)(p3_:Qr)(p4_:Int×Int):List (Nat×HB):=[(0,.cells 188 [K0 p0_.2.1,Jbd p0_.2.2,Jbc p1_,.ptr 1 0]),(1,.cells 212 [.mp 2,Jbc p2_]),(2,.mp (JC p3_.1) p3_.2),(3,.cells 82 [Jbc 0,Jbb]),(4,.cells 82 [Jbc p4_.2,Jbb])]
abbrev Q8q(p0_:Int×Int×(List Jc0)×Jc6×Bool×Int×(List Jc0))(p1_:Int):HB:=.cells 188 [K0 p0_.2.2.2.1,Jbd p0_.2.2.2.2.1,Jbc p1_,.ptr 1 0]
abbrev Qnw(p0_:Int×Int×(List Jc0)×Jc6×Bool×Int×(List Jc0))(p1_:Int):List (Nat×HB):=[(0,Q8q p0_ p1_),(3,.cells 82 [Jbc p0_.2.1,Jba p0_.2.2.1]),(4,.cells 82 [Jbc p0_.2.2.2.2.2.1,Jba p0_.2.2.2.2.2.2])]
abbrev Qnv(p0_:Jc6)(p1_:Bool)(p2_:Int)(p3_:Int)(p4_:Qr):List (Nat×HB):=[(0,.cells 188 [K0 p0_,Jbd p1_,Jbc p2_,.ptr 1 0]),(1,.cells 212 [.mp 2,Jbc p3_]),(2,.mp (JC p4_.1) p4_.2)]
abbrev Q8p(p0_:(Jc6×Bool×Int×Int×Qr)):List (Nat×HB):=[(0,.cells 188 [K0 p0_.1,Jbd p0_.2.1,Jbc p0_.2.2.1,.ptr 1 0]),(1,.cells 212 [.mp 2,Jbc p0_.2.2.2.1]),(2,.mp (JC p0_.2.2.2.2.1) p0_.2.2.2.2.2)]
def Wq(a0:Jc6)(a1:Bool)(a2:Int)(a3:Int)(a4:Qr):Option ((Jc6×Bool×Int×Int×Qr)):=
 Option.bind (Yq ([117]:List UInt8) a0 a1 a2 a3 a4) λ(x1:(Jc6))=>
 Option.bind (cond (Lib.hasPrefix a0 ([117]:List UInt8)) (some (true,x1)) (Option.bind (Yq ([63]:List UInt8) x1 a1 a2 a3 a4) λ(x4:(Jc6))=>
 some ((Lib.hasPrefix x1 ([63]:List UInt8)),x4))) (λ(v2:Bool×Jc6)=>Option.bind (cond v2.1 (Option.bind (YP v2.2 a1 a2 a3 a4) λ(x5:(Int×Jc6×Bool))=>
 Option.bind (cond (!(Lib.hasPrefix a0 ([117]:List UInt8))) (some (Qm ((-1)-x5.1))) (some x5.1)) (λ(v6:Int)=>Option.bind (JM x5.2.1 x5.2.2 a2 a3 a4) λ(x7:Unit)=>
 Option.bind (Yq ([43]:List UInt8) (x5.2.1.dropWhile (·==32)) x5.2.2 a2 a3 a4) λ(x8:(Jc6))=>
 Option.bind (cond (Lib.hasPrefix (x5.2.1.dropWhile (·==32)) ([43]:List UInt8)) (Option.bind (JM x8 x5.2.2 a2 a3 a4) λ(x11:Unit)=>
 Option.bind (YP (x8.dropWhile (·==32)) x5.2.2 a2 a3 a4) λ(x12:(Int×Jc6×Bool))=>
 some (x12.1,x12.2.1,x12.2.2)) (some (0,x8,x5.2.2))) (λ(v9:Int×Jc6×Bool)=>Option.bind (Option.bind (cond (decide (v6<(-65536))) (some true) (cond (decide (7<v6)) (some true) (some (decide (v9.1<0))))) (λ(v12:Bool)=>cond v12 (some (2,([]:List Jc0))) (cond (decide (100<v9.1)) (some (15,([]:List Jc0))) (some (0,[(v6,v9.1)]))))) (λ(y10:Int×(List Jc0))=>some (y10.1,0,y10.2,v9.2.1,v9.2.2,0,y10.2))))) (Option.bind (YP v2.2 a1 a2 a3 a4) λ(x21:(Int×Jc6×Bool))=>
 Option.bind (cond (decide (x21.1<0)) (some (2,0)) (cond (decide (100<x21.1)) (some (15,0)) (some (0,x21.1)))) (λ(y22:Int×Int)=>some (y22.1,y22.2,([]:List Jc0),x21.2.1,x21.2.2,y22.2,([]:List Jc0))))) (λ(v3:Int×Int×(List Jc0)×Jc6×Bool×Int×(List Jc0))=>Option.bind (cond (a2==0) (some v3.1) (some a2)) (λ(v4:Int)=>Option.bind (Xx (⟨v3.2.1,v3.2.2.1⟩:Lvl) 0 a3 a4) λ(x5:Qr)=>
 some (v3.2.2.2.1,v3.2.2.2.2.1,v4,(max a3 (Qm ((⟨v3.2.1,v3.2.2.1⟩:Lvl).c+0))),x5))))
theorem Q8o(a0:Jc6)(a1:Bool)(a2:Int)(a3:Int)(a4:Qr)(r:(Jc6×Bool×Int×Int×Qr))(h0:Wq a0 a1 a2 a3 a4=some r):CallM prog 152 [.one (.ptr 0 0)] ⟨Qnv a0 a1 a2 a3 a4,[],3⟩ (Qg []) ⟨Q8p r,[],6⟩:=by
 unfold Wq at h0;refine Qp ⟨[],Q8p r,[],6,55,[]⟩ Z Z J28 (Jaw Z) Z .nil (λw0 M V0 Q hv0 hQ0=>?_);simp only[J3];refine Q4<|Q0<|Qk Z Z (Jaw Z) (QO Qg9 Z)<|Q3<|Q5<|Q4<|Q0<|Jam Z Z Z<|Q3<|Q5<|Q4<|Q0<|Jal Z Z Z ?_
 refine Qu h0 (λx1 hx1 h0=>?_);refine Qk Z Z (Jaw Z) (Qo (hp1':=[(0,.cells 188 [K0 x1,Jbd a1,Jbc a2,.ptr 1 0]),(1,.cells 212 [.mp 2,Jbc a3]),(2,.mp (JC a4.1) a4.2)]) (tk1':=[]) (hpF:=[(3,.cells 82 [Jbc 0,Jbb])]) (tkF:=[]) (res2:=Qg [.one (Jbd (Lib.hasPrefix a0 ([117]:List UInt8)))]) (nx2:=4) [0,1,2] Z Z (ZJ ([117]:List UInt8) a0 a1 a2 a3 a4 x1 hx1) Z Z (Jap Z Z (Jap Z Z (Jao Z Jan))) Z Z (Jb7 Z (Jb7 Z (Jb8 Z Jb6))) Jb1 (hA Z) Jax Z Z Z Z Z (Jbm Z Z (Jbm Z Z (Jbl Z Jbk))) Z Z Z Z)<|Jam Z Z Z<|Q3<|Q5<|Q4<|Q4 ?_
 refine Jt (λ(v2:Bool×Jc6)=>⟨[(0,.v (.one (.ptr 0 0))),(2,.v (.one (.ptr 3 0))),(4,.v (.one (Jbd (Lib.hasPrefix a0 ([117]:List UInt8))))),(13,.v (.one (Jbd v2.1)))],[(0,.cells 188 [K0 v2.2,Jbd a1,Jbc a2,.ptr 1 0]),(1,.cells 212 [.mp 2,Jbc a3]),(2,.mp (JC a4.1) a4.2),(3,.cells 82 [Jbc 0,Jbb])],[],4,55,[]⟩) (λ(v2:Bool×Jc6)=>(Option.bind (cond v2.1 (Option.bind (YP v2.2 a1 a2 a3 a4) λ(x5:(Int×Jc6×Bool))=>
  Option.bind (cond (!(Lib.hasPrefix a0 ([117]:List UInt8))) (some (Qm ((-1)-x5.1))) (some x5.1)) (λ(v6:Int)=>Option.bind (JM x5.2.1 x5.2.2 a2 a3 a4) λ(x7:Unit)=>
  Option.bind (Yq ([43]:List UInt8) (x5.2.1.dropWhile (·==32)) x5.2.2 a2 a3 a4) λ(x8:(Jc6))=>
  Option.bind (cond (Lib.hasPrefix (x5.2.1.dropWhile (·==32)) ([43]:List UInt8)) (Option.bind (JM x8 x5.2.2 a2 a3 a4) λ(x11:Unit)=>
  Option.bind (YP (x8.dropWhile (·==32)) x5.2.2 a2 a3 a4) λ(x12:(Int×Jc6×Bool))=>
  some (x12.1,x12.2.1,x12.2.2)) (some (0,x8,x5.2.2))) (λ(v9:Int×Jc6×Bool)=>Option.bind (Option.bind (cond (decide (v6<(-65536))) (some true) (cond (decide (7<v6)) (some true) (some (decide (v9.1<0))))) (λ(v12:Bool)=>cond v12 (some (2,([]:List Jc0))) (cond (decide (100<v9.1)) (some (15,([]:List Jc0))) (some (0,[(v6,v9.1)]))))) (λ(y10:Int×(List Jc0))=>some (y10.1,0,y10.2,v9.2.1,v9.2.2,0,y10.2))))) (Option.bind (YP v2.2 a1 a2 a3 a4) λ(x21:(Int×Jc6×Bool))=>
  Option.bind (cond (decide (x21.1<0)) (some (2,0)) (cond (decide (100<x21.1)) (some (15,0)) (some (0,x21.1)))) (λ(y22:Int×Int)=>some (y22.1,y22.2,([]:List Jc0),x21.2.1,x21.2.2,y22.2,([]:List Jc0))))) (λ(v3:Int×Int×(List Jc0)×Jc6×Bool×Int×(List Jc0))=>Option.bind (cond (a2==0) (some v3.1) (some a2)) (λ(v4:Int)=>Option.bind (Xx (⟨v3.2.1,v3.2.2.1⟩:Lvl) 0 a3 a4) λ(x5:Qr)=>
  some (v3.2.2.2.1,v3.2.2.2.2.1,v4,(max a3 (Qm ((⟨v3.2.1,v3.2.2.1⟩:Lvl).c+0))),x5))))=some r) ?_ ?_
 refine Qu h0 (λw1_ h1 h0=>?_);refine Q0<|Jal Z Z Z<|Jal Z Z Z ?_
 refine QX (d:=10) (c:=(Lib.hasPrefix a0 ([117]:List UInt8))) Z (λc3=>?_) (λc3=>?_);replace h1:=QF c3 h1;refine Q8 Z Z<|Q8 Z Z<|Jak Z Z Z (Qn Z Z)<|Q3 ?_
 have e:=Jai h1;subst e;exact Qi (true,x1) (QZ (Jag Z) (hA Z) Jax Z (Cc hv0 (Jaw Z)) Z Z Z (Jbm Z Z (Jbm Z Z (Jbl Z (Jbn Z)))) Z Z) h0;replace h1:=QG c3 h1;refine Jal Z Z Z ?_;refine Qu h1 (λx4 hx4 h1=>?_);refine Qk Z Z (Jaw Z) (Qo (hp1':=[(0,.cells 188 [K0 x4,Jbd a1,Jbc a2,.ptr 1 0]),(1,.cells 212 [.mp 2,Jbc a3]),(2,.mp (JC a4.1) a4.2)]) (tk1':=[]) (hpF:=[(3,.cells 82 [Jbc 0,Jbb])]) (tkF:=[]) (res2:=Qg [.one (Jbd (Lib.hasPrefix x1 ([63]:List UInt8)))]) (nx2:=4) [0,1,2] Z Z (ZJ ([63]:List UInt8) x1 a1 a2 a3 a4 x4 hx4) Z Z (Jap Z Z (Jap Z Z (Jao Z Jan))) Z Z (Jb7 Z (Jb7 Z (Jb8 Z Jb6))) Jb1 (hA Z) Jax Z Z Z Z Z (Jbm Z Z (Jbm Z Z (Jbl Z Jbk))) Z Z Z Z)<|Jak Z Z Z (QA Z Z)<|Q3 ?_
 have e:=Jai h1;subst e;exact Qi ((Lib.hasPrefix x1 ([63]:List UInt8)),x4) (QZ (Jag Z) (hA Z) Jax Z (Cc hv0 (Jaw Z)) Z Z Z (Jbm Z Z (Jbm Z Z (Jbl Z (Jbn Z)))) Z Z) h0;intro v2 h0;refine Q5 ?_;refine Jt (λ(v5:Int×Int×(List Jc0)×Jc6×Bool×Int×(List Jc0))=>⟨[(0,.v (.one (.ptr 0 0))),(2,.v (.one (.ptr 3 0))),(3,.v (.one (Jbc v5.1)))],[(0,.cells 188 [K0 v5.2.2.2.1,Jbd v5.2.2.2.2.1,Jbc a2,.ptr 1 0]),(1,.cells 212 [.mp 2,Jbc a3]),(2,.mp (JC a4.1) a4.2),(3,.cells 82 [Jbc v5.2.1,Jba v5.2.2.1]),(4,.cells 82 [Jbc v5.2.2.2.2.2.1,Jba v5.2.2.2.2.2.2])],[],5,55,[]⟩) (λ(v5:Int×Int×(List Jc0)×Jc6×Bool×Int×(List Jc0))=>(Option.bind (cond (a2==0) (some v5.1) (some a2)) (λ(v6:Int)=>Option.bind (Xx (⟨v5.2.1,v5.2.2.1⟩:Lvl) 0 a3 a4) λ(x7:Qr)=>some (v5.2.2.2.1,v5.2.2.2.2.1,v6,(max a3 (Qm ((⟨v5.2.1,v5.2.2.1⟩:Lvl).c+0))),x7)))=some r) ?_ ?_;refine Qu h0 (λw1_ h1 h0=>?_);refine Qz (b:=v2.1) Z (λc6=>?_) (λc6=>?_);replace h1:=QF c6 h1;refine Q4<|Q0<|Jal Z Z Z ?_
 refine Qu h1 (λx7 hx7 h1=>?_);refine Qk Z Z (Jaw Z) (Qo (hp1':=[(0,.cells 188 [K0 x7.2.1,Jbd x7.2.2,Jbc a2,.ptr 1 0]),(1,.cells 212 [.mp 2,Jbc a3]),(2,.mp (JC a4.1) a4.2)]) (tk1':=[]) (hpF:=[(3,.cells 82 [Jbc 0,Jbb])]) (tkF:=[]) (res2:=Qg [.one (Jbc x7.1)]) (nx2:=4) [0,1,2] Z Z (Q11 v2.2 a1 a2 a3 a4 x7 hx7) Z Z (Jap Z Z (Jap Z Z (Jao Z Jan))) Z Z (Jb7 Z (Jb7 Z (Jb8 Z Jb6))) Jb1 (hA Z) Jax Z Z Z Z Z (Jbm Z Z (Jbm Z Z (Jbl Z Jbk))) Z Z Z Z)<|Jam Z Z Z<|Q3<|Q5<|Q4<|Q4<|Q0<|Jal Z Z Z<|Jak Z Z Z (GG Z)<|Q3<|Q5 ?_
 refine Jt (λ(v8:Int)=>⟨[(0,.v (.one (.ptr 0 0))),(2,.v (.one (.ptr 3 0))),(5,.v (.one (Jbc v8)))],Q8t x7 a2 a3 a4,[],4,55,[]⟩) (λ(v8:Int)=>(Option.bind (JM x7.2.1 x7.2.2 a2 a3 a4) λ(x9:Unit)=>
  Option.bind (Yq ([43]:List UInt8) (x7.2.1.dropWhile (·==32)) x7.2.2 a2 a3 a4) λ(x10:(Jc6))=>
  Option.bind (cond (Lib.hasPrefix (x7.2.1.dropWhile (·==32)) ([43]:List UInt8)) (Option.bind (JM x10 x7.2.2 a2 a3 a4) λ(x13:Unit)=>
  Option.bind (YP (x10.dropWhile (·==32)) x7.2.2 a2 a3 a4) λ(x14:(Int×Jc6×Bool))=>
  some (x14.1,x14.2.1,x14.2.2)) (some (0,x10,x7.2.2))) (λ(v11:Int×Jc6×Bool)=>Option.bind (Option.bind (cond (decide (v8<(-65536))) (some true) (cond (decide (7<v8)) (some true) (some (decide (v11.1<0))))) (λ(v14:Bool)=>cond v14 (some (2,([]:List Jc0))) (cond (decide (100<v11.1)) (some (15,([]:List Jc0))) (some (0,[(v8,v11.1)]))))) (λ(y12:Int×(List Jc0))=>some (y12.1,0,y12.2,v11.2.1,v11.2.2,0,y12.2))))=some w1_) ?_ ?_
 refine Qu h1 (λw2_ h2 h1=>?_);refine Qz (b:=(!(Lib.hasPrefix a0 ([117]:List UInt8)))) Z (λc9=>?_) (λc9=>?_);replace h2:=QF c9 h2;refine Q0<|Jal Z Z Z<|Jak Z Z Z (Qc Z Z Z)<|Jam Z Z Z<|Q3 ?_
 have e:=Jai h2;subst e;exact Qi (Qm ((-1)-x7.1)) (QZ (Jag Z) (hA Z) Jax Z (Cc hv0 (Jaw Z)) Z Z Z (Jbm Z Z (Jbm Z Z (Jbl Z (Jbn Z)))) Z Z) h1;replace h2:=QG c9 h2;refine QV ?_;have e:=Jai h2;subst e;exact Qi x7.1 (QZ (Jag Z) (hA Z) Jax Z (Cc hv0 (Jaw Z)) Z Z Z (Jbm Z Z (Jbm Z Z (Jbl Z (Jbn Z)))) Z Z) h1;intro v8 h1;refine Q5<|Q4<|Q0<|Jam Z Z Z<|Q3<|Q5<|Q4<|Q0<|Jal Z Z Z ?_
 refine Qu h1 (λx10 hx10 h1=>?_);refine Qk Z Z (Jaw Z) (Qo (hp1':=[(0,.cells 188 [K0 (x7.2.1.dropWhile (·==32)),Jbd x7.2.2,Jbc a2,.ptr 1 0]),(1,.cells 212 [.mp 2,Jbc a3]),(2,.mp (JC a4.1) a4.2)]) (tk1':=[]) (hpF:=[(3,.cells 82 [Jbc 0,Jbb])]) (tkF:=[]) (res2:=Qg []) (nx2:=4) [0,1,2] Z Z (ZK x7.2.1 x7.2.2 a2 a3 a4 x10 hx10) Z Z (Jap Z Z (Jap Z Z (Jao Z Jan))) Z Z (Jb7 Z (Jb7 Z (Jb8 Z Jb6))) Jb1 (hA Z) Jax Z Z Z Z Z (Jbm Z Z (Jbm Z Z (Jbl Z Jbk))) Z Z Z Z)<|Q3<|Q5<|Q4<|Q4<|Q0<|Jal Z Z Z ?_
 refine Qu h1 (λx11 hx11 h1=>?_);refine Qk Z Z (Jaw Z) (Qo (hp1':=[(0,.cells 188 [K0 x11,Jbd x7.2.2,Jbc a2,.ptr 1 0]),(1,.cells 212 [.mp 2,Jbc a3]),(2,.mp (JC a4.1) a4.2)]) (tk1':=[]) (hpF:=[(3,.cells 82 [Jbc 0,Jbb])]) (tkF:=[]) (res2:=Qg [.one (Jbd (Lib.hasPrefix (x7.2.1.dropWhile (·==32)) ([43]:List UInt8)))]) (nx2:=4) [0,1,2] Z Z (ZJ ([43]:List UInt8) (x7.2.1.dropWhile (·==32)) x7.2.2 a2 a3 a4 x11 hx11) Z Z (Jap Z Z (Jap Z Z (Jao Z Jan))) Z Z (Jb7 Z (Jb7 Z (Jb8 Z Jb6))) Jb1 (hA Z) Jax Z Z Z Z Z (Jbm Z Z (Jbm Z Z (Jbl Z Jbk))) Z Z Z Z)<|Q3<|Q5 ?_
 refine Jt (λ(v12:Int×Jc6×Bool)=>⟨[(0,.v (.one (.ptr 0 0))),(2,.v (.one (.ptr 3 0))),(5,.v (.one (Jbc v8))),(6,.v (.one (Jbc v12.1)))],[(0,.cells 188 [K0 v12.2.1,Jbd v12.2.2,Jbc a2,.ptr 1 0]),(1,.cells 212 [.mp 2,Jbc a3]),(2,.mp (JC a4.1) a4.2),(3,.cells 82 [Jbc 0,Jbb])],[],4,55,[]⟩) (λ(v12:Int×Jc6×Bool)=>(Option.bind (Option.bind (cond (decide (v8<(-65536))) (some true) (cond (decide (7<v8)) (some true) (some (decide (v12.1<0))))) (λ(v15:Bool)=>cond v15 (some (2,([]:List Jc0))) (cond (decide (100<v12.1)) (some (15,([]:List Jc0))) (some (0,[(v8,v12.1)]))))) (λ(y13:Int×(List Jc0))=>some (y13.1,0,y13.2,v12.2.1,v12.2.2,0,y13.2)))=some w1_) ?_ ?_;refine Qu h1 (λw2_ h2 h1=>?_);refine Qz (b:=(Lib.hasPrefix (x7.2.1.dropWhile (·==32)) ([43]:List UInt8))) Z (λc13=>?_) (λc13=>?_);replace h2:=QF c13 h2;refine Q4<|Q0<|Jal Z Z Z ?_
 refine Qu h2 (λx14 hx14 h2=>?_);refine Qk Z Z (Jaw Z) (Qo (hp1':=[(0,.cells 188 [K0 (x11.dropWhile (·==32)),Jbd x7.2.2,Jbc a2,.ptr 1 0]),(1,.cells 212 [.mp 2,Jbc a3]),(2,.mp (JC a4.1) a4.2)]) (tk1':=[]) (hpF:=[(3,.cells 82 [Jbc 0,Jbb])]) (tkF:=[]) (res2:=Qg []) (nx2:=4) [0,1,2] Z Z (ZK x11 x7.2.2 a2 a3 a4 x14 hx14) Z Z (Jap Z Z (Jap Z Z (Jao Z Jan))) Z Z (Jb7 Z (Jb7 Z (Jb8 Z Jb6))) Jb1 (hA Z) Jax Z Z Z Z Z (Jbm Z Z (Jbm Z Z (Jbl Z Jbk))) Z Z Z Z)<|Q3<|Q5<|Q0<|Jal Z Z Z ?_
 refine Qu h2 (λx15 hx15 h2=>?_);refine Qk Z Z (Jaw Z) (Qo (hp1':=[(0,.cells 188 [K0 x15.2.1,Jbd x15.2.2,Jbc a2,.ptr 1 0]),(1,.cells 212 [.mp 2,Jbc a3]),(2,.mp (JC a4.1) a4.2)]) (tk1':=[]) (hpF:=[(3,.cells 82 [Jbc 0,Jbb])]) (tkF:=[]) (res2:=Qg [.one (Jbc x15.1)]) (nx2:=4) [0,1,2] Z Z (Q11 (x11.dropWhile (·==32)) x7.2.2 a2 a3 a4 x15 hx15) Z Z (Jap Z Z (Jap Z Z (Jao Z Jan))) Z Z (Jb7 Z (Jb7 Z (Jb8 Z Jb6))) Jb1 (hA Z) Jax Z Z Z Z Z (Jbm Z Z (Jbm Z Z (Jbl Z Jbk))) Z Z Z Z)<|Jam Z Z Z<|Q3 ?_
 have e:=Jai h2;subst e;exact Qi (x15.1,x15.2.1,x15.2.2) (QZ (Jag Z) (hA Z) Jax Z (Cc hv0 (Jaw Z)) Z Z Z (Jbm Z Z (Jbm Z Z (Jbl Z (Jbn Z)))) Z Z) h1;replace h2:=QG c13 h2;refine QV ?_;have e:=Jai h2;subst e;exact Qi (0,x11,x7.2.2) (QZ (Jag Z) (hA Z) Jax Z (Cc hv0 (Jaw Z)) Z Z Z (Jbm Z Z (Jbm Z Z (Jbl Z (Jbn Z)))) Z Z) h1;intro v12 h1;refine Q5<|Q0<|Jal Z Z Z<|Jal Z Z Z ?_
 refine Qu h1 (λy16 h2 h1=>?_);have hc17:CallM prog 178 [.one (Jbc v8),.one (Jbc v12.1)] ⟨Qny v12 a2 a3 a4,[],4⟩ (Qg [.agg [Jbc 0,Jba y16.2],.one (Jbc y16.1)]) ⟨Q8s v12 a2 a3 a4 y16,[],5⟩:=by
  refine Qp ⟨[(4,.v (.one (.ptr 4 0))),(5,.v (.one (Jbc y16.1)))],Q8s v12 a2 a3 a4 y16,[],5,27,[]⟩ Z Z J24 (Jaw Z) Z (Zs JH Z Z Z Z (Jl Z .nil)) (λw0 M V0 Q hv2 hQ2=>?_);simp only[J3];refine Q4<|Q0<|Qk Z Z (Jaw Z) (QO Qg9 Z)<|Jam Z Z Z<|Q3<|Q5<|Q4<|QH<|Q4 ?_
  refine Jt (λ(v18:Bool)=>⟨[(0,.v (.one (Jbc v8))),(1,.v (.one (Jbc v12.1))),(4,.v (.one (.ptr 4 0))),(6,.v (.one (Jbd v18)))],Qnx v12 a2 a3 a4,[],5,27,[]⟩) (λ(v18:Bool)=>(cond v18 (some (2,([]:List Jc0))) (cond (decide (100<v12.1)) (some (15,([]:List Jc0))) (some (0,[(v8,v12.1)]))))=some y16) ?_ ?_;refine Qu h2 (λw3_ h3 h2=>?_);refine Q0<|Jal Z Z Z<|Jak Z Z Z (Qc Z Z Z)<|Jal Z Z Z ?_
  refine QX (d:=9) (c:=(decide (v8<(-65536)))) Z (λc19=>?_) (λc19=>?_);replace h3:=QF c19 h3;refine Q8 Z Z<|Q8 Z Z<|Jak Z Z Z (Qn Z Z)<|Jal Z Z Z<|Q8 Z Z<|Q8 Z Z<|Jak Z Z Z (Qn Z Z)<|Jam Z Z Z<|Q3 ?_
  have e:=Jai h3;subst e;exact Qi true (QZ (Jag Z) (hA Z) Jax Z (Cc hv2 (Jaw Z)) Z Z Z (Jbm Z Z (Jbm Z Z (Jbl Z (Jbn Z)))) Z Z) h2;replace h3:=QG c19 h3;refine Jal Z Z Z<|Jak Z Z Z (Qc Z Z Z)<|Jak Z Z Z (QA Z Z)<|Jal Z Z Z ?_
  refine QX (d:=13) (c:=(decide (7<v8))) Z (λc20=>?_) (λc20=>?_);replace h3:=QF c20 h3;refine Q8 Z Z<|Q8 Z Z<|Jak Z Z Z (Qn Z Z)<|Jam Z Z Z<|Q3 ?_
  have e:=Jai h3;subst e;exact Qi true (QZ (Jag Z) (hA Z) Jax Z (Cc hv2 (Jaw Z)) Z Z Z (Jbm Z Z (Jbm Z Z (Jbl Z (Jbn Z)))) Z Z) h2;replace h3:=QG c20 h3;refine Jal Z Z Z<|Jak Z Z Z (Qc Z Z Z)<|Jak Z Z Z (QA Z Z)<|Jam Z Z Z<|Q3 ?_
  have e:=Jai h3;subst e;exact Qi (decide (v12.1<0)) (QZ (Jag Z) (hA Z) Jax Z (Cc hv2 (Jaw Z)) Z Z Z (Jbm Z Z (Jbm Z Z (Jbl Z (Jbn Z)))) Z Z) h2;intro v18 h2;refine Q5 ?_;refine Qz (b:=v18) Z (λc21=>?_) (λc21=>?_);replace h2:=QF c21 h2;refine Q4<|Q0<|Jak Z Z Z (YK XW Z )<|QN Z Z (Qh JH Z Z Z Z (Jaw Z) Z)<|Jam Z Z Z<|Q3<|Q5<|QQ ?_
  have e:=Jai h2;subst e;exact hQ2 _ _ _ (.inr Z) Z (QZ (Jag Z) (hR Z (hR Z (hR Z (hR Z (Jb5 Z (.cons (.refl _) (.cons (.sub (.nil _)) .nil)) Jb4))))) Jax Z (Cc hv2 (Jaw Z)) Z Z Z (Jbm Z Z (Jbm Z Z (Jbl Z (Jbn Z)))) Z Z);replace h2:=QG c21 h2;refine Q4<|Q0<|Jal Z Z Z<|Jak Z Z Z (Qc Z Z Z)<|Jam Z Z Z<|Q3<|Q5 ?_
  refine Qz (b:=(decide (100<v12.1))) Z (λc22=>?_) (λc22=>?_);replace h2:=QF c22 h2;refine Q4<|Q0<|Jak Z Z Z (YK XW Z )<|QN Z Z (Qh JH Z Z Z Z (Jaw Z) Z)<|Jam Z Z Z<|Q3<|Q5<|QQ ?_
  have e:=Jai h2;subst e;exact hQ2 _ _ _ (.inr Z) Z (QZ (Jag Z) (hR Z (hR Z (hR Z (hR Z (Jb5 Z (.cons (.refl _) (.cons (.sub (.nil _)) .nil)) Jb4))))) Jax Z (Cc hv2 (Jaw Z)) Z Z Z (Jbm Z Z (Jbm Z Z (Jbl Z (Jbn Z)))) Z Z);replace h2:=QG c22 h2;refine QV<|Ji<|Q5<|Q4<|Q0<|Jal Z Z Z<|Jal Z Z Z<|Jak Z Z Z (QJ Qud Z Z Z Z)<|Qk Z Z (Jaw Z) (Qjf (α:=Jc0) ((v8,v12.1)) Dr Qjo Z Z (Jaw Z) (Jaw Z) Z Z (.cons (.d _) (.cons (.d _) .nil)) Z)<|Jak Z Z Z (KV XW Z Z Z)<|QN Z Z (Qh JH Z Z Z Z (Jaw Z) Z)<|Jam Z Z Z<|Q3<|Q5 ?_
  refine QQ ?_;have e:=Jai h2;subst e;exact hQ2 _ _ _ (.inr Z) Z (QZ (Jag Z) (hR Z (hR Z (hR Z (hR Z (Jb5 Z (.cons (.refl _) (.cons (.sub (.app _ _ _)) .nil)) Jb4))))) Jax Z (Cc hv2 (Jaw Z)) Z Z Z (Jbm Z Z (Jbm Z Z (Jbl Z (Jbn Z)))) Z Z)
 refine Qk Z Z (Jaw Z) (Gj Z Z Z hc17 Z (hA Z) Jax)<|Jal Z Z Z<|Jak Z Z Z (J8 Z Z)<|Jak Z Z Z (J8 Z Z)<|QN Z Z (Qh JH Z Z Z Z (Jaw Z) Z)<|Jam Z Z Z<|Q3 ?_
 have e:=Jai h1;subst e;exact Qi (y16.1,0,y16.2,v12.2.1,v12.2.2,0,y16.2) (QZ (Jag Z) (hA Z) Jax Z (Cc hv0 (Jaw Z)) Z Z Z (Jbm Z Z (Jbm Z Z (Jbl Z (Jbn Z)))) Z Z) h0;replace h1:=QG c6 h1;refine Q0<|Jal Z Z Z ?_
 refine Qu h1 (λx23 hx23 h1=>?_);refine Qk Z Z (Jaw Z) (Qo (hp1':=[(0,.cells 188 [K0 x23.2.1,Jbd x23.2.2,Jbc a2,.ptr 1 0]),(1,.cells 212 [.mp 2,Jbc a3]),(2,.mp (JC a4.1) a4.2)]) (tk1':=[]) (hpF:=[(3,.cells 82 [Jbc 0,Jbb])]) (tkF:=[]) (res2:=Qg [.one (Jbc x23.1)]) (nx2:=4) [0,1,2] Z Z (Q11 v2.2 a1 a2 a3 a4 x23 hx23) Z Z (Jap Z Z (Jap Z Z (Jao Z Jan))) Z Z (Jb7 Z (Jb7 Z (Jb8 Z Jb6))) Jb1 (hA Z) Jax Z Z Z Z Z (Jbm Z Z (Jbm Z Z (Jbl Z Jbk))) Z Z Z Z) ?_;refine Qu h1 (λy24 h2 h1=>?_);have hc25:CallM prog 179 [.one (Jbc x23.1)] ⟨Q8t x23 a2 a3 a4,[],4⟩ (Qg [.agg [Jbc y24.2,Jbb],.one (Jbc y24.1)]) ⟨Q8r x23 a2 a3 a4 y24,[],5⟩:=by
  refine Qp ⟨[(2,.v (.one (.ptr 4 0))),(3,.v (.one (Jbc y24.1)))],Q8r x23 a2 a3 a4 y24,[],5,14,[]⟩ Z Z J23 (Jaw Z) Z (Zs JH Z Z Z Z (Jl Z .nil)) (λw0 M V0 Q hv2 hQ2=>?_);simp only[J3];refine Q4<|Q0<|Qk Z Z (Jaw Z) (QO Qg9 Z)<|Jam Z Z Z<|Q3<|Q5<|Q4<|QH<|Q4<|Q0<|Jal Z Z Z<|Jak Z Z Z (Qc Z Z Z)<|Jam Z Z Z<|Q3 ?_
  refine Q5 ?_;refine Qz (b:=(decide (x23.1<0))) Z (λc26=>?_) (λc26=>?_);replace h2:=QF c26 h2;refine Q4<|Q0<|Jak Z Z Z (YK XW Z )<|QN Z Z (Qh JH Z Z Z Z (Jaw Z) Z)<|Jam Z Z Z<|Q3<|Q5<|QQ ?_
  have e:=Jai h2;subst e;exact hQ2 _ _ _ (.inr Z) Z (QZ (Jag Z) (hA Z) Jax Z (Cc hv2 (Jaw Z)) Z Z Z (Jbm Z Z (Jbm Z Z (Jbl Z (Jbn Z)))) Z Z);replace h2:=QG c26 h2;refine Q4<|Q0<|Jal Z Z Z<|Jak Z Z Z (Qc Z Z Z)<|Jam Z Z Z<|Q3<|Q5 ?_
  refine Qz (b:=(decide (100<x23.1))) Z (λc27=>?_) (λc27=>?_);replace h2:=QF c27 h2;refine Q4<|Q0<|Jak Z Z Z (YK XW Z )<|QN Z Z (Qh JH Z Z Z Z (Jaw Z) Z)<|Jam Z Z Z<|Q3<|Q5<|QQ ?_
  have e:=Jai h2;subst e;exact hQ2 _ _ _ (.inr Z) Z (QZ (Jag Z) (hA Z) Jax Z (Cc hv2 (Jaw Z)) Z Z Z (Jbm Z Z (Jbm Z Z (Jbl Z (Jbn Z)))) Z Z);replace h2:=QG c27 h2;refine QV<|Ji<|Q5<|Q4<|Q0<|Jal Z Z Z<|Jak Z Z Z (KV XW Z Z Z)<|QN Z Z (Qh JH Z Z Z Z (Jaw Z) Z)<|Jam Z Z Z<|Q3<|Q5<|QQ ?_
  have e:=Jai h2;subst e;exact hQ2 _ _ _ (.inr Z) Z (QZ (Jag Z) (hA Z) Jax Z (Cc hv2 (Jaw Z)) Z Z Z (Jbm Z Z (Jbm Z Z (Jbl Z (Jbn Z)))) Z Z)
 refine Qk Z Z (Jaw Z) (Gj Z Z Z hc25 Z (hA Z) Jax)<|Jal Z Z Z<|Jak Z Z Z (J8 Z Z)<|Jak Z Z Z (J8 Z Z)<|QN Z Z (Qh JH Z Z Z Z (Jaw Z) Z)<|Jam Z Z Z<|Q3 ?_
 have e:=Jai h1;subst e;exact Qi (y24.1,y24.2,([]:List Jc0),x23.2.1,x23.2.2,y24.2,([]:List Jc0)) (QZ (Jag Z) (hR Z (hR Z (hR Z (Jb5 Z (.cons (.refl _) (.cons (.sub (.nil _)) .nil)) (Jb5 Z (.cons (.refl _) (.cons (.sub (.nil _)) .nil)) Jb4))))) Jax Z (Cc hv0 (Jaw Z)) Z Z Z (Jbm Z Z (Jbm Z Z (Jbl Z (Jbn Z)))) Z Z) h0;intro v5 h0;refine Q5<|Q4<|Q4<|Q0<|Jal Z Z Z<|Jak Z Z Z (Qe Z)<|Jak Z Z Z (Q2 WD Z)<|Jak Z Z Z (Q6 Xb Z Z Z)<|Jak Z Z Z (Qc Z Z Z)<|Q3<|Q5 ?_
 refine Jt (λ(v28:Int)=>⟨[(0,.v (.one (.ptr 0 0))),(2,.v (.one (.ptr 3 0)))],[(0,.cells 188 [K0 v5.2.2.2.1,Jbd v5.2.2.2.2.1,Jbc v28,.ptr 1 0]),(1,.cells 212 [.mp 2,Jbc a3]),(2,.mp (JC a4.1) a4.2),(3,.cells 82 [Jbc v5.2.1,Jba v5.2.2.1]),(4,.cells 82 [Jbc v5.2.2.2.2.2.1,Jba v5.2.2.2.2.2.2])],[],5,55,[]⟩) (λ(v28:Int)=>(Option.bind (Xx (⟨v5.2.1,v5.2.2.1⟩:Lvl) 0 a3 a4) λ(x29:Qr)=>some (v5.2.2.2.1,v5.2.2.2.2.1,v28,(max a3 (Qm ((⟨v5.2.1,v5.2.2.1⟩:Lvl).c+0))),x29))=some r) ?_ ?_;refine Qu h0 (λw1_ h1 h0=>?_);refine Qz (b:=(a2==0)) Z (λc29=>?_) (λc29=>?_);replace h1:=QF c29 h1;refine Q0<|Jal Z Z Z<|Jal Z Z Z<|Jak Z Z Z (Qe Z)<|Jak Z Z Z (Q2 WD Z)<|QN Z Z (Qh Xb Z Z Z Z (Jaw Z) Z)<|Q3 ?_
 have e:=Jai h1;subst e;exact Qi v5.1 (QZ (Jag Z) (hA Z) Jax Z (Cc hv0 (Jaw Z)) Z Z Z (Jbm Z Z (Jbm Z Z (Jbl Z (Jbn Z)))) Z Z) h0;replace h1:=QG c29 h1;refine QV ?_;have e:=Jai h1;subst e;exact Qi a2 (QZ (Jag Z) (hA Z) Jax Z (Cc hv0 (Jaw Z)) Z Z Z (Jbm Z Z (Jbm Z Z (Jbl Z (Jbn Z)))) Z Z) h0;intro v28 h0;refine Q5 ?_;refine YI [5] [] mixed (by kernel_rfl) (by kernel_rfl) (by kernel_rfl) ?_;refine RunA.rd Z Z Z (Q9 (YJ Z)) Z<|RunA.rd Z Z Z (Q9 (Qe Z)) Z<|RunA.rd Z Z Z (Q9 (Q2 Qes Z)) Z<|RunA.rd Z Z Z (Q9 (Q6 Qum Z Z Z)) Z<|RunA.rd Z Z Z (Q9 (JD JH Z Z Z Z)) Z ?_
 refine Qu h0 (λx30 hx30 h0=>?_);refine RunA.eff Z Z Z (Qo (hp1':=[(1,.cells 212 [.mp 2,Jbc (max a3 (Qm ((⟨v5.2.1,v5.2.2.1⟩:Lvl).c+0)))]),(2,.mp (JC x30.1) x30.2)]) (tk1':=[]) (hpF:=Qnw v5 v28) (tkF:=[]) (res2:=Qg []) (nx2:=6) [1,2] Z Z (Qnn (⟨v5.2.1,v5.2.2.1⟩:Lvl) 0 a3 a4 x30 hx30) Z Z (Jap Z Z (Jao Z Jan)) Z Z (Jb7 Z (Jb8 Z Jb6)) Jb1 (hA Z) Jax Z Z Z Z Z (Jbm Z Z (Jbl Z Jbk)) Z Z Z Z) Z ?_;refine RunA.nil ⟨?ex,_,_,Z,?_⟩;case ex=>exact trivial
 refine XM (st':=⟨[],[(0,Q8q v5 v28),(1,.cells 212 [.mp 2,Jbc (max a3 (Qm ((⟨v5.2.1,v5.2.2.1⟩:Lvl).c+0)))]),(2,.mp (JC x30.1) x30.2),(3,.cells 82 [Jbc v5.2.1,Jba v5.2.2.1]),(4,.cells 82 [Jbc v5.2.2.2.2.2.1,Jba v5.2.2.2.2.2.2])],[],6,55,[]⟩) (QZ Jac (hA Z) Jax Z (Cc hv0 (Jaw Z)) Z Z Z (Jbm Z Z (Jbm Z Z (Jbl Z (Jbn Z)))) Z Z) ?_;have e:=Jai h0;subst e;exact hQ0 _ _ _ (.inl Z) Z (QZ Jac (hA Z) Jax Z (Cc hv0 (Jaw Z)) Z Z Z (Jbm Z Z (Jbm Z Z (Jbl Z Jbk))) Z Z)
def Qb7(a0:Qr):Option Unit:=some ()
theorem Qnm(a0:Qr)(r:Unit)(h0:Qb7 a0=some r):CallM prog 182 [.one (.mp 0)] ⟨[(0,.mp (JC a0.1) a0.2)],[],1⟩ (Qg [.one (.fn 209 [(1,0)])]) ⟨[(0,.mp (JC a0.1) a0.2),(1,.cells 210 [.mp 0])],[],2⟩:=by
 unfold Qb7 at h0;refine Qp ⟨[(2,.v (.one (.fn 209 [(1,0)])))],[(0,.mp (JC a0.1) a0.2),(1,.cells 210 [.mp 0])],[],2,4,[]⟩ Z Z J21 (Jaw Z) Z (Jl Z .nil) (λw0 M V0 Q hv0 hQ0=>?_);simp only[J3];refine Q4<|Q0<|Qk Z Z (Jaw Z) (Y9 Z)<|Jam Z Z Z<|Q3<|Q5<|Q4<|Q0<|Jak Z Z Z (XS Z)<|Jam Z Z Z<|Q3<|Q5<|QQ ?_
 have e:=Jai h0;subst e;exact hQ0 _ _ _ (.inr Z) Z (QZ (Jag Z) (hA Z) Jax Z (Cc hv0 (Jaw Z)) Z Z Z (Jbl Z (Jbn Z)) Z Z)
def Q3v(a0:Jc0)(a1:Int)(a2:List Jc0):Option Unit:=some ()
theorem Qhk(a0:Jc0)(a1:Int)(a2:List Jc0)(r:Unit)(h0:Q3v a0 a1 a2=some r):CallM prog 189 [.agg (Jbg a0),.one (.ptr 0 0)] ⟨[(0,.cells 82 [Jbc a1,Jbe 1 a2])],[(1,some ⟨142,2,(Enc.encL a2).length,[]⟩)],2⟩ (Qg [.one (Jbd (decide (a1<=a0.2)))]) ⟨[(0,.cells 82 [Jbc a1,Jbe 1 a2])],[(1,some ⟨142,2,(Enc.encL a2).length,[]⟩)],3⟩:=by
 unfold Q3v at h0;refine Qp ⟨[(3,.v (.one (Jbd (decide (a1<=a0.2)))))],[(0,.cells 82 [Jbc a1,Jbe 1 a2])],[(1,some ⟨142,2,(Enc.encL a2).length,[]⟩)],3,9,[]⟩ Z Z Qtk (Jaw Z) Z (Jl Z .nil) (λw0 M V0 Q hv0 hQ0=>?_);simp only[J3];refine Q4<|Q0<|Qk Z Z (Jaw Z) (Y9 Z)<|Jam Z Z Z<|Q3<|Q5<|Q4<|Q0<|Jak Z Z Z (Q2 Q64 Z)<|Jak Z Z Z (Q6 Y8 Z Z Z)<|Jak Z Z Z (Q2 Q42 Z)<|Jak Z Z Z (Q6 Y8 Z Z Z)<|Jak Z Z Z (Qc Z Z Z)<|Jam Z Z Z ?_
 refine Q3<|Q5<|QQ ?_
 have e:=Jai h0;subst e;exact hQ0 _ _ _ (.inr Z) Z (Jah (Cc hv0 (Jaw Z)) Z Z Z Z Z)
def Yy(a0:List Jc0)(a1:Int)(a2:List Jc0)(s1:Int):Option (LO Int (Unit⊕Int)):=
 cond (decide (s1<(a0.length:Int))) (Option.bind (QT a0 s1) λ(x3:Jc0)=>
 Option.bind (Q3v x3 a1 a2) λ(x4:Unit)=>
 cond (decide (a1<=x3.2)) (some (.done (.inr s1))) (some (.next (Qm (s1+1))))) (some (.done (.inl ())))
def Q3u(a0:List Jc0)(a1:Int)(a2:List Jc0):Option Int:=Option.bind (Qa (Yy a0 a1 a2) Qd 0) (Sum.elim (λ(o1:Unit)=>some (-1)) (λo=>some o))
theorem Qhi(a0:List Jc0)(a1:Int)(a2:List Jc0)(r:Int)(h0:Q3u a0 a1 a2=some r):CallM prog 211 [.one (Jbe 0 a0),.one (.fn 189 [(1,0)])] ⟨[(1,.cells 82 [Jbc a1,Jbe 0 a2])],[(0,some ⟨142,2,(Enc.encL a2).length,[]⟩)],2⟩ (Qg [.one (Jbc r)]) ⟨[(1,.cells 82 [Jbc a1,Jbe 0 a2])],[(0,some ⟨142,2,(Enc.encL a2).length,[]⟩)],2⟩:=by
 unfold Q3u at h0;refine Qp ⟨[(4,.v (.one (Jbc r)))],[(1,.cells 82 [Jbc a1,Jbe 0 a2])],[(0,some ⟨142,2,(Enc.encL a2).length,[]⟩)],2,19,[]⟩ Z Z Qtj (Jaw Z) Z (Jl Z .nil) (λw0 M V0 Q hv0 hQ0=>?_);simp only[J3];refine Q4<|Q0<|Jam Z Z Z<|Q3<|Q5<|Q4<|Q4<|Q0<|Jal Z Z Z<|Jak Z Z Z (JK (α:=Jc0) Dr Z (.app _ _))<|Jal Z Z Z<|Q3<|Q5<|QH ?_
 refine Gh 0 (λ(o1:Unit)=>⟨[],[(1,.cells 82 [Jbc a1,Jbe 0 a2])],[(0,some ⟨142,2,(Enc.encL a2).length,[]⟩)],2,19,[]⟩) (λ(o1:Unit)=>(some (-1))=some r) ?_ ?_;refine Qu h0 (λo2 hl1 h0=>?_);refine Gg (Yy a0 a1 a2) (λs1=>⟨[(0,.v (.one (Jbe 0 a0))),(1,.v (.one (.fn 189 [(1,0)]))),(7,.v (.one (Jbc (a0.length:Int)))),(8,.v (.one (Jbc s1)))],[(1,.cells 82 [Jbc a1,Jbe 0 a2])],[(0,some ⟨142,2,(Enc.encL a2).length,[]⟩)],2,19,[]⟩) 0 o2 (Jah (Cc hv0 (Jaw Z)) Z Z Z Z Z) hl1 (λs1 n1 oo1 h1 ho1=>?_);unfold Yy at h1;refine Q4<|Q0<|Jak Z Z Z (Qc Z Z Z)<|Q3<|Q5<|Q4 ?_
 refine Qz (b:=(decide (s1<(a0.length:Int)))) Z (λc3=>?_) (λc3=>?_);replace h1:=QF c3 h1;refine QV<|Q5<|Q4<|QH<|Q4<|Q0<|Jal Z Z Z<|Jam Z Z Z<|Q3<|Q5<|Q4<|Q0<|Jal Z Z Z<|Jal Z Z Z ?_
 refine Jal Z Z Z ?_;refine Qu h1 (λx4 hx4 h1=>?_);refine Jak Z Z Z (Xf (α:=Jc0) Dr Z (.app _ _) Z hx4)<|Jak Z Z Z (KD (x4:Jc0) Q70 Z) ?_
 refine Qu h1 (λx5 hx5 h1=>?_);refine Qk Z Z (Jaw Z) (Qo (hp1':=[(1,.cells 82 [Jbc a1,Jbe 0 a2])]) (tk1':=[(0,some ⟨142,2,(Enc.encL a2).length,[]⟩)]) (hpF:=[]) (tkF:=[]) (res2:=Qg [.one (Jbd (decide (a1<=x4.2)))]) (nx2:=3) [1,0] Z Z (Qhk x4 a1 a2 x5 hx5) Z Z (Jap Z Z Jan) Z Z (Jb7 Z Jb6) (Jb2 Z Jb1) Jb4 Jax Z Z Z Z Z (Jbn Z) Z Z Z Z)<|Q3<|Q5 ?_
 refine Qz (b:=(decide (a1<=x4.2))) Z (λc6=>?_) (λc6=>?_);replace h1:=QF c6 h1;refine Q4<|Q0<|Jal Z Z Z<|Jam Z Z Z<|Q3<|Q5<|QQ ?_
 have e:=Jai h1;subst e;have e_:_=_:=ho1;subst e_;try dsimp only[Sum.elim_inl,Sum.elim_inr]at h0
 have e:=Jai h0;subst e;exact hQ0 _ _ _ (.inr Z) Z (Jah (Cc hv0 (Jaw Z)) Z Z Z Z Z);replace h1:=QG c6 h1;refine QV<|Ji<|Q5<|Q0<|Jak Z Z Z (Qc Z Z Z)<|Jal Z Z Z<|Q3 ?_
 have e:=Jai h1;subst e;refine Ge (Qm (s1+1)) (Jah (Cc hv0 (Jaw Z)) Z Z Z Z Z) ho1;replace h1:=QG c3 h1;refine Gx<|JV<|JV ?_
 have e:=Jai h1;subst e;have e_:_=_:=ho1;subst e_;exact Gf () (Jah (Cc hv0 (Jaw Z)) Z Z Z Z Z) h0;intro o1 h0;refine Z7<|Q5<|Q4<|Q0<|Jam Z Z Z<|Q3<|Q5<|QQ ?_
 have e:=Jai h0;subst e;exact hQ0 _ _ _ (.inr Z) Z (Jah (Cc hv0 (Jaw Z)) Z Z Z Z Z)
def Q3w(a0:List Jc0)(a1:Int)(a2:List Jc0):Option Bool:=
 Option.bind (Q3u a0 a1 a2) λ(x1:Int)=>
 some (decide (0<=x1))
theorem Qhl(a0:List Jc0)(a1:Int)(a2:List Jc0)(r:Bool)(h0:Q3w a0 a1 a2=some r):CallM prog 188 [.one (Jbe 0 a0),.one (.fn 189 [(1,0)])] ⟨[(1,.cells 82 [Jbc a1,Jbe 0 a2])],[(0,some ⟨142,2,(Enc.encL a2).length,[]⟩)],2⟩ (Qg [.one (Jbd r)]) ⟨[(1,.cells 82 [Jbc a1,Jbe 0 a2])],[(0,some ⟨142,2,(Enc.encL a2).length,[]⟩)],2⟩:=by
 unfold Q3w at h0;refine Qp ⟨[(4,.v (.one (Jbd r)))],[(1,.cells 82 [Jbc a1,Jbe 0 a2])],[(0,some ⟨142,2,(Enc.encL a2).length,[]⟩)],2,9,[]⟩ Z Z Qtl (Jaw Z) Z (Jl Z .nil) (λw0 M V0 Q hv0 hQ0=>?_);simp only[J3];refine Q4<|Q0<|Jam Z Z Z<|Q3<|Q5<|Q4<|Q0<|Jal Z Z Z<|Jal Z Z Z ?_
 refine Qu h0 (λx1 hx1 h0=>?_);refine Qk Z Z (Jaw Z) (Qo (hp1':=[(1,.cells 82 [Jbc a1,Jbe 0 a2])]) (tk1':=[(0,some ⟨142,2,(Enc.encL a2).length,[]⟩)]) (hpF:=[]) (tkF:=[]) (res2:=Qg [.one (Jbc x1)]) (nx2:=2) [0,1] Z Z (Qhi a0 a1 a2 x1 hx1) Z Z (Jap Z Z Jan) Z Z (Jb7 Z Jb6) (Jb2 Z Jb1) Jb4 Jax Z Z Z Z Z (Jbn Z) Z Z Z Z)<|Jak Z Z Z (Qc Z Z Z)<|Jam Z Z Z<|Q3<|Q5<|QQ ?_
 have e:=Jai h0;subst e;exact hQ0 _ _ _ (.inr Z) Z (Jah (Cc hv0 (Jaw Z)) Z Z Z Z Z)
def Q5g(a0:Int)(a1:List Jc0):Option Bool:=
 Option.bind (Q3w a1 a0 a1) λ(x1:Bool)=>
 some x1
theorem Qnp(a0:Int)(a1:List Jc0)(r:Bool)(h0:Q5g a0 a1=some r):CallM prog 158 [.agg [Jbc a0,Jbe 0 a1]] ⟨[],[(0,some ⟨142,2,(Enc.encL a1).length,[]⟩)],1⟩ (Qg [.one (Jbd r)]) ⟨[],[(0,some ⟨142,2,(Enc.encL a1).length,[]⟩)],2⟩:=by
 unfold Q5g at h0;refine Qp ⟨[(2,.v (.one (Jbd r)))],[],[(0,some ⟨142,2,(Enc.encL a1).length,[]⟩)],2,7,[]⟩ Z Z Qtm (Jaw Z) Z (Jl Z .nil) (λw0 M V0 Q hv0 hQ0=>?_);simp only[J3];refine Q4<|Q0<|Qk Z Z (Jaw Z) (Y9 Z)<|Jam Z Z Z<|Q3<|Q5<|Q4<|Q0<|Jak Z Z Z (Q2 DU Z)<|Jak Z Z Z (Q6 Qfm Z Z Z)<|Jak Z Z Z (XS Z) ?_
 refine Qu h0 (λx1 hx1 h0=>?_);refine Qk Z Z (Jaw Z) (Qo (hp1':=[(1,.cells 82 [Jbc a0,Jbe 0 a1])]) (tk1':=[(0,some ⟨142,2,(Enc.encL a1).length,[]⟩)]) (hpF:=[]) (tkF:=[]) (res2:=Qg [.one (Jbd x1)]) (nx2:=2) [0,1] Z Z (Qhl a1 a0 a1 x1 hx1) Z Z (Jap Z Z Jan) Z Z (Jb7 Z Jb6) (Jb2 Z Jb1) Jb4 Jax Z Z Z Z Z (Jbn Z) Z Z Z Z)<|Jam Z Z Z<|Q3<|Q5<|QQ ?_
 have e:=Jai h0;subst e;exact hQ0 _ _ _ (.inr Z) Z (Jah (Cc hv0 (Jaw Z)) Z Z Z Z Z)
def ZI(a1:List Jc0)(s1:Int):Option (LO Int (Unit⊕((Int×Int×(List Jc0))))):=
 cond (decide (s1<(a1.length:Int))) (Option.bind (QT a1 s1) λ(x3:Jc0)=>
 cond (decide (100<x3.2)) (some (.done (.inr (15,0,([]:List Jc0))))) (some (.next (Qm (s1+1))))) (some (.done (.inl ())))
def Q10(a0:Int)(a1:List Jc0):Option ((Int×Int×(List Jc0))):=
 Option.bind (Qa (ZI a1) Qd 0) (Sum.elim (λ(o1:Unit)=>cond (decide (100<a0)) (some (15,0,([]:List Jc0))) (Option.bind (Q5g a0 a1) λ(x3:Bool)=>
 cond x3 (some (0,0,a1)) (some (0,a0,a1)))) (λo=>some o))
theorem Qnl(a0:Int)(a1:List Jc0)(r:(Int×Int×(List Jc0)))(h0:Q10 a0 a1=some r):CallM prog 183 [.agg [Jbc a0,Jbe 0 a1]] ⟨[],[(0,some ⟨142,2,(Enc.encL a1).length,[]⟩)],1⟩ (Qg [.agg [Jbc r.2.1,Jba r.2.2],.one (Jbc r.1)]) ⟨[(2,.cells 82 [Jbc r.2.1,Jba r.2.2])],[(0,some ⟨142,2,(Enc.encL a1).length,[]⟩)],3⟩:=by
 unfold Q10 at h0;refine Qp ⟨[(2,.v (.one (.ptr 2 0))),(3,.v (.one (Jbc r.1)))],[(2,.cells 82 [Jbc r.2.1,Jba r.2.2])],[(0,some ⟨142,2,(Enc.encL a1).length,[]⟩)],3,26,[]⟩ Z Z J20 (Jaw Z) Z (Zs JH Z Z Z Z (Jl Z .nil)) (λw0 M V0 Q hv0 hQ0=>?_);simp only[J3];refine Q4<|Q0<|Qk Z Z (Jaw Z) (Y9 Z)<|Qk Z Z (Jaw Z) (QO Qg9 Z)<|Jam Z Z Z<|Q3<|Q5<|Q4<|Q4<|Q0<|Jak Z Z Z (Q2 DU Z)<|Jak Z Z Z (Q6 Qfm Z Z Z)<|Jak Z Z Z (JK (α:=Jc0) Dr Z (.app _ _))<|Jal Z Z Z ?_
 refine Q3<|Q5<|QH ?_
 refine Gh 0 (λ(o1:Unit)=>⟨[(1,.v (.one (.ptr 1 0))),(2,.v (.one (.ptr 2 0)))],[(1,.cells 82 [Jbc a0,Jbe 0 a1]),(2,.cells 82 [Jbc 0,Jbb])],[(0,some ⟨142,2,(Enc.encL a1).length,[]⟩)],3,26,[]⟩) (λ(o1:Unit)=>(cond (decide (100<a0)) (some (15,0,([]:List Jc0))) (Option.bind (Q5g a0 a1) λ(x3:Bool)=>cond x3 (some (0,0,a1)) (some (0,a0,a1))))=some r) ?_ ?_;refine Qu h0 (λo2 hl1 h0=>?_);refine Gg (ZI a1) (λs1=>⟨[(1,.v (.one (.ptr 1 0))),(2,.v (.one (.ptr 2 0))),(7,.v (.one (Jbe 0 a1))),(8,.v (.one (Jbc (a1.length:Int)))),(9,.v (.one (Jbc s1)))],[(1,.cells 82 [Jbc a0,Jbe 0 a1]),(2,.cells 82 [Jbc 0,Jbb])],[(0,some ⟨142,2,(Enc.encL a1).length,[]⟩)],3,26,[]⟩) 0 o2 (Jah (Cc hv0 (Jaw Z)) Z Z Z Z Z) hl1 (λs1 n1 oo1 h1 ho1=>?_);unfold ZI at h1;refine Q4<|Q0<|Jak Z Z Z (Qc Z Z Z)<|Q3<|Q5<|Q4 ?_
 refine Qz (b:=(decide (s1<(a1.length:Int)))) Z (λc3=>?_) (λc3=>?_);replace h1:=QF c3 h1;refine QV<|Q5<|Q4<|QH<|Q4<|Q0 ?_
 refine Qu h1 (λx4 hx4 h1=>?_);refine Jak Z Z Z (Xf (α:=Jc0) Dr Z (.app _ _) Z hx4)<|Jak Z Z Z (KD (x4:Jc0) Q70 Z)<|Qk Z Z (Jaw Z) (QO Qjo Z)<|QN Z Z (Zt (x4:Jc0) Q70 Z Z Z Z Z)<|Q3<|Q5<|Q4<|Q0<|Jak Z Z Z (Q2 Q64 Z)<|Jak Z Z Z (Q6 Y8 Z Z Z)<|Jak Z Z Z (Qc Z Z Z)<|Q3<|Q5 ?_
 refine Qz (b:=(decide (100<x4.2))) Z (λc5=>?_) (λc5=>?_);replace h1:=QF c5 h1;refine Q4<|Q0<|Jak Z Z Z (YK XW Z )<|QN Z Z (Qh JH Z Z Z Z (Jaw Z) Z)<|Jam Z Z Z<|Q3<|Q5<|QQ ?_
 have e:=Jai h1;subst e;have e_:_=_:=ho1;subst e_;try dsimp only[Sum.elim_inl,Sum.elim_inr]at h0
 have e:=Jai h0;subst e;exact hQ0 _ _ _ (.inr Z) Z (QZ (Jag Z) (Jb5 Z (.cons (.refl _) (.cons (.sub (.nil _)) .nil)) Jb4) (Jay Z) Z (Cc hv0 (Jaw Z)) Z Z Z (Jbn Z) Z Z);replace h1:=QG c5 h1;refine QV<|Ji<|Q5<|Q0<|Jak Z Z Z (Qc Z Z Z)<|Jal Z Z Z<|Q3 ?_
 have e:=Jai h1;subst e;refine Ge (Qm (s1+1)) (Jah (Cc hv0 (Jaw Z)) Z Z Z Z Z) ho1;replace h1:=QG c3 h1;refine Gx<|JV<|JV ?_
 have e:=Jai h1;subst e;have e_:_=_:=ho1;subst e_;exact Gf () (Jah (Cc hv0 (Jaw Z)) Z Z Z Z Z) h0;intro o1 h0;refine Z7<|Q5<|Q4<|Q4<|Q0<|Jak Z Z Z (Q2 Q42 Z)<|Jak Z Z Z (Q6 Y8 Z Z Z)<|Jak Z Z Z (Qc Z Z Z)<|Q3<|Q5 ?_
 refine Qz (b:=(decide (100<a0))) Z (λc6=>?_) (λc6=>?_);replace h0:=QF c6 h0;refine Q4<|Q0<|Jak Z Z Z (YK XW Z )<|QN Z Z (Qh JH Z Z Z Z (Jaw Z) Z)<|Jam Z Z Z<|Q3<|Q5<|QQ ?_
 have e:=Jai h0;subst e;exact hQ0 _ _ _ (.inr Z) Z (QZ (Jag Z) (Jb5 Z (.cons (.refl _) (.cons (.sub (.nil _)) .nil)) Jb4) (Jay Z) Z (Cc hv0 (Jaw Z)) Z Z Z (Jbn Z) Z Z);replace h0:=QG c6 h0;refine QV<|Q5<|Q4<|Q4<|Q0<|Jak Z Z Z (JD JH Z Z Z Z) ?_
 refine Qu h0 (λx7 hx7 h0=>?_);refine Qk Z Z (Jaw Z) (Qo (hp1':=[]) (tk1':=[(0,some ⟨142,2,(Enc.encL a1).length,[]⟩)]) (hpF:=[(1,.cells 82 [Jbc a0,Jbe 0 a1]),(2,.cells 82 [Jbc 0,Jbb])]) (tkF:=[]) (res2:=Qg [.one (Jbd x7)]) (nx2:=4) [0] Z Z (Qnp a0 a1 x7 hx7) Z Z Jan Z Z Jb6 (Jb2 Z Jb1) (hA Z) Jax Z Z Z Z Z Jbk Z Z Z Z)<|Q3<|Q5 ?_
 refine Qz (b:=x7) Z (λc8=>?_) (λc8=>?_);replace h0:=QF c8 h0;refine Q0<|Jak Z Z Z (Q2 Q42 Z)<|QN Z Z (Qh Y8 Z Z Z Z (Jaw Z) Z)<|Q3<|Q5<|Q4<|Q0<|Jak Z Z Z (JD JH Z Z Z Z)<|QN Z Z (Qh JH Z Z Z Z (Jaw Z) Z)<|Jam Z Z Z<|Q3<|Q5<|QQ ?_
 have e:=Jai h0;subst e;exact hQ0 _ _ _ (.inr Z) Z (QZ (Jag Z) (Jb5 Z (.cons (.refl _) (.cons (.sub (.app _ _ _)) .nil)) Jb4) (Jay Z) Z (Cc hv0 (Jaw Z)) Z Z Z (Jbn Z) Z Z);replace h0:=QG c8 h0;refine QV<|Q5<|Q4<|Q0<|Jak Z Z Z (JD JH Z Z Z Z)<|QN Z Z (Qh JH Z Z Z Z (Jaw Z) Z)<|Jam Z Z Z<|Q3<|Q5<|QQ ?_
 have e:=Jai h0;subst e;exact hQ0 _ _ _ (.inr Z) Z (QZ (Jag Z) (Jb5 Z (.cons (.refl _) (.cons (.sub (.app _ _ _)) .nil)) Jb4) (Jay Z) Z (Cc hv0 (Jaw Z)) Z Z Z (Jbn Z) Z Z)
def KK(a1:Qr)(s1:Int×(List Jc0)):Option (LO (Int×(List Jc0)) (((List Jc0)))):=
 cond (decide (s1.1<((JF a1).length:Int))) (Option.bind (QT (JF a1) s1.1) λ(x5:Int)=>
 Q7 (Nat.ble (s1.2.length+([(x5,(YN a1 x5))]).length) 1000000000)
 (some (.next ((Qm (s1.1+1)),(s1.2++([(x5,(YN a1 x5))])))))) (some (.done s1.2))
abbrev Qnu(p0_:Int):List (Nat×HB):=[(0,.cells 212 [.mp 1,Jbc p0_]),(2,.cells 82 [Jbc 0,Jbb]),(3,.cells 82 [Jbc p0_,Jbb])]
abbrev Qnt(p0_:Int)(p1_:Int×(List Jc0))(p2_:Int)(p3_:Qr):HB:=.cells 82 [Jbc p0_,Jbe 5 ((p1_.2++([(p2_,(YN p3_ p2_))])):List Jc0)]
abbrev Qns(p0_:Int)(p1_:Qr)(p2_:Int×(List Jc0))(p3_:Int):List (Nat×HB):=[(0,.cells 212 [.mp 1,Jbc p0_]),(1,.mp (JC p1_.1) p1_.2),(2,.cells 82 [Jbc 0,Jbb]),(3,Qnt p0_ p2_ p3_ p1_),Vh]
abbrev Qnr(p0_:Int)(p1_:Qr)(p2_:(List Jc0)):List (Nat×HB):=[(0,.cells 212 [.mp 1,Jbc p0_]),(1,.mp (JC p1_.1) p1_.2),(2,.cells 82 [Jbc 0,Jbb]),(3,.cells 82 [Jbc p0_,Jbe 5 p2_]),Vh]
abbrev Q8n(p0_:Int)(p1_:Qr)(p2_:(Int×Int×(List Jc0))):List (Nat×HB):=[(0,.cells 212 [.mp 1,Jbc p0_]),(1,.mp (JC p1_.1) p1_.2),(2,.cells 82 [Jbc p2_.2.1,Jba p2_.2.2])]
def Wp(a0:Int)(a1:Qr):Option ((Int×Int×(List Jc0))):=
 Option.bind (Qb7 a1) λ(x1:Unit)=>
 Q7 (Q7o a1)
 (Option.bind (Qa (KK a1) Qd (0,([]:List Jc0))) (λ(o3:(List Jc0))=>Option.bind (Q10 a0 o3) λ(x4:(Int×Int×(List Jc0)))=>
 some (x4.1,x4.2.1,x4.2.2)))
theorem Qnq(a0:Int)(a1:Qr)(r:(Int×Int×(List Jc0)))(h0:Wp a0 a1=some r):CallM prog 153 [.one (.ptr 0 0)] ⟨[(0,.cells 212 [.mp 1,Jbc a0]),(1,.mp (JC a1.1) a1.2)],[],2⟩ (Qg [.agg [Jbc r.2.1,Jba r.2.2],.one (Jbc r.1)]) ⟨Q8n a0 a1 r,[],8⟩:=by
 unfold Wp at h0;refine Qp ⟨[(2,.v (.one (.ptr 2 0))),(3,.v (.one (Jbc r.1)))],Q8n a0 a1 r,[],8,41,[]⟩ Z Z J27 (Jaw Z) Z (Zs JH Z Z Z Z (Jl Z .nil)) (λw0 M V0 Q hv0 hQ0=>?_);simp only[J3];refine Q4<|Q0<|Qk Z Z (Jaw Z) (QO Qg9 Z)<|Jam Z Z Z<|Q3<|Q5<|Q4<|Q0<|Jal Z Z Z<|Jak Z Z Z (Qe Z)<|Jak Z Z Z (Q2 Q62 Z)<|Jak Z Z Z (Q6 Y8 Z Z Z)<|Jak Z Z Z (KV XW Z Z Z)<|Qk Z Z (Jaw Z) (QO Qg9 Z) ?_
 refine QN Z Z (Qh JH Z Z Z Z (Jaw Z) Z)<|Q3<|Q5<|Q4<|Q4<|Q0<|Jal Z Z Z<|Jak Z Z Z (Qe Z)<|Jak Z Z Z (Q2 Q63 Z)<|Jak Z Z Z (Q6 Qj1 Z Z Z) ?_
 refine Qu h0 (λx1 hx1 h0=>?_);refine Qk Z Z (Jaw Z) (Qo (hp1':=[(1,.mp (JC a1.1) a1.2),Vh]) (tk1':=[]) (hpF:=Qnu a0) (tkF:=[]) (res2:=Qg [.one (.fn 209 [(4,0)])]) (nx2:=5) [1] Z Z (Qnm a1 x1 hx1) Z Z (Jao Z (Jap Z Z Jan)) Z Z (Jb8 Z Jb6) Jb1 (hA Z) Jax Z Z Z Z Z (Jbl Z Jbk) Z Z Z Z) ?_;refine D6 h0 (λJb9 h0=>?_);refine Qk Z Z (Jaw Z) (Q3i Z Z Z Z Jb9)<|Jak Z Z Z (JK (α:=Int) Qqj Z (.d _))<|Jal Z Z Z<|Q3<|Q5<|QH ?_
 refine Gh 0 (λ(o3:(List Jc0))=>⟨[(2,.v (.one (.ptr 2 0))),(4,.v (.one (.ptr 3 0)))],[(0,.cells 212 [.mp 1,Jbc a0]),(1,.mp (JC a1.1) a1.2),(2,.cells 82 [Jbc 0,Jbb]),(3,.cells 82 [Jbc a0,Jbe 5 o3]),Vh],[(5,some ⟨142,2,(Enc.encL o3).length,[]⟩)],6,41,[]⟩) (λ(o3:(List Jc0))=>(Option.bind (Q10 a0 o3) λ(x4:(Int×Int×(List Jc0)))=>some (x4.1,x4.2.1,x4.2.2))=some r) ?_ ?_;refine Qpa (i:=3) (off:=1) 142 2 Z Z ?_;refine Qu h0 (λo4 hl1 h0=>?_);refine Gg (KK a1) (λs1=>⟨[(0,.v (.one (.ptr 0 0))),(2,.v (.one (.ptr 2 0))),(4,.v (.one (.ptr 3 0))),(17,.v (.one (Jba ((JF a1):List Int)))),(18,.v (.one (Jbc ((JF a1).length:Int)))),(19,.v (.one (Jbc s1.1)))],[(0,.cells 212 [.mp 1,Jbc a0]),(1,.mp (JC a1.1) a1.2),(2,.cells 82 [Jbc 0,Jbb]),(3,.cells 82 [Jbc a0,Jbe 5 s1.2]),Vh],[(5,some ⟨142,2,(Enc.encL s1.2).length,[]⟩)],6,41,[]⟩) (0,([]:List Jc0)) o4 (QZ (Jag Z) (hA Z) (Jay Z) Z (Cc hv0 (Jaw Z)) Z Z Z (Jbm Z Z (Jbl Z (Jbn Z))) Z Z) hl1 (λs1 n1 oo1 h1 ho1=>?_);unfold KK at h1;refine Q4<|Q0<|Jak Z Z Z (Qc Z Z Z)<|Q3<|Q5<|Q4 ?_
 refine Qz (b:=(decide (s1.1<((JF a1).length:Int)))) Z (λc5=>?_) (λc5=>?_);replace h1:=QF c5 h1;refine QV<|Q5<|Q4<|QH<|Q4<|Q0 ?_
 refine Qu h1 (λx6 hx6 h1=>?_);refine Jak Z Z Z (Xf (α:=Int) Qqj Z (.d _) Z hx6)<|Jak Z Z Z (Q75 Y8 Z Z)<|Jam Z Z Z<|Q3<|Q5 ?_
 refine YI [11,13] [] mixed (by kernel_rfl) (by kernel_rfl) (by kernel_rfl) ?_;refine RunA.rd Z Z Z (Q9 (Q2 DU Z)) Z<|RunA.rd Z Z Z (Q9 (Q6 Qfm Z Z Z)) Z<|RunA.rd Z Z Z (Q9 (YJ Z)) Z<|RunA.rd Z Z Z (Q9 (YJ Z)) Z<|RunA.rd Z Z Z (Q9 (Qe Z)) Z<|RunA.rd Z Z Z (Q9 (Q2 Q63 Z)) Z<|RunA.rd Z Z Z (Q9 (Q6 Qj1 Z Z Z)) Z<|RunA.rd Z Z Z (Q9 (YJ Z)) Z<|RunA.rd Z Z Z (Q9 (Qj9 Qh4 Z Z Z)) Z<|RunA.rd Z Z Z (Q9 (QJ Qud Z Z Z Z)) Z<|RunA.rd Z Z Z (Qfz (α:=Jc0) ((x6,(YN a1 x6))) Dr Qjo Z Z (Jaw Z) Z Z (.cons (.d _) (.cons (.d _) .nil)) Z) Z ?_
 refine D6 h1 (λg7 h1=>?_);refine RunA.eff Z Z Z (Q0f (α:=Jc0) Dr J2y Z Z Z Z Z (.d _) g7) Z<|RunA.rd Z Z Z (Q9 (Q2 DU Z)) Z<|RunA.eff Z Z Z (Qh Qfm Z Z Z Z (Jaw Z) Z) Z ?_
 refine RunA.nil ⟨?ex,_,_,Z,?_⟩;case ex=>exact trivial
 refine XM (st':=⟨[(0,.v (.one (.ptr 0 0))),(2,.v (.one (.ptr 2 0))),(4,.v (.one (.ptr 3 0))),(17,.v (.one (Jba ((JF a1):List Int)))),(18,.v (.one (Jbc ((JF a1).length:Int)))),(19,.v (.one (Jbc s1.1)))],Qns a0 a1 s1 x6,[(5,some ⟨142,2,(Enc.encL ((s1.2++([(x6,(YN a1 x6))])):List Jc0)).length,[]⟩)],6,41,[]⟩) (QZ (Jag Z) (hA Z) (Jay Z) Z (Cc hv0 (Jaw Z)) Z Z Z (Jbm Z Z (Jbl Z (Jbn Z))) Z Z)<|Ji<|Q5<|Q0<|Jak Z Z Z (Qc Z Z Z)<|Jal Z Z Z<|Q3 ?_
 have e:=Jai h1;subst e;refine Ge ((Qm (s1.1+1)),(s1.2++([(x6,(YN a1 x6))]))) (QZ (Jag Z) (hA Z) (Jay Z) Z (Cc hv0 (Jaw Z)) Z Z Z (Jbm Z Z (Jbl Z (Jbn Z))) Z Z) ho1;replace h1:=QG c5 h1;refine Gx<|JV<|JV ?_
 have e:=Jai h1;subst e;have e_:_=_:=ho1;subst e_;exact Gf s1.2 (QZ (Jag Z) (hA Z) (Jay Z) Z (Cc hv0 (Jaw Z)) Z Z Z (Jbm Z Z (Jbl Z (Jbn Z))) Z Z) h0;intro o3 h0;refine Z7<|Q5<|Q4<|Q0<|Jak Z Z Z (JD JH Z Z Z Z) ?_
 refine Qu h0 (λx8 hx8 h0=>?_);refine Qk Z Z (Jaw Z) (Qo (hp1':=[(7,.cells 82 [Jbc x8.2.1,Jba x8.2.2])]) (tk1':=[(5,some ⟨142,2,(Enc.encL o3).length,[]⟩)]) (hpF:=Qnr a0 a1 o3) (tkF:=[]) (res2:=Qg [.agg [Jbc x8.2.1,Jba x8.2.2],.one (Jbc x8.1)]) (nx2:=8) [5] Z Z (Qnl a0 o3 x8 hx8) Z Z (Jap Z Z Jan) Z Z Jb6 (Jb2 Z Jb1) (hA Z) Jax Z Z Z Z Z Jbk Z Z Z Z)<|Jak Z Z Z (J8 Z Z)<|Jak Z Z Z (J8 Z Z)<|QN Z Z (Qh JH Z Z Z Z (Jaw Z) Z)<|Jam Z Z Z<|Q3<|Q5<|QQ ?_
 have e:=Jai h0;subst e;exact hQ0 _ _ _ (.inr Z) Z (QZ (Jag Z) (hA Z) Jax Z (Cc hv0 (Jaw Z)) Z Z Z (Jbm Z Z (Jbl Z (Jbn Z))) Z Z)
def ZY  (s2:Bool×Qr×Int×Jc6×Bool×Int):Option (LO (Bool×Qr×Int×Jc6×Bool×Int) ((Qr×Int×Jc6×Bool×Int))):=
 Option.bind (cond s2.1 (some (!s2.2.2.2.2.1)) (some false)) (λ(v11:Bool)=>cond v11 (Option.bind (JM s2.2.2.2.1 s2.2.2.2.2.1 s2.2.2.2.2.2 s2.2.2.1 s2.2.1) λ(x13:Unit)=>
 Option.bind (Wq (s2.2.2.2.1.dropWhile (·==32)) s2.2.2.2.2.1 s2.2.2.2.2.2 s2.2.2.1 s2.2.1) λ(x14:(Jc6×Bool×Int×Int×Qr))=>
 Option.bind (JM x14.1 x14.2.1 x14.2.2.1 x14.2.2.2.1 x14.2.2.2.2) λ(x15:Unit)=>
 Option.bind (Yq ([44]:List UInt8) (x14.1.dropWhile (·==32)) x14.2.1 x14.2.2.1 x14.2.2.2.1 x14.2.2.2.2) λ(x16:(Jc6))=>
 some (.next ((Lib.hasPrefix (x14.1.dropWhile (·==32)) ([44]:List UInt8)),x14.2.2.2.2,x14.2.2.2.1,x16,x14.2.1,x14.2.2.1))) (some (.done (s2.2.1,s2.2.2.1,s2.2.2.2.1,s2.2.2.2.2.1,s2.2.2.2.2.2))))
abbrev Ql1:List (Nat×HB):=[(0,.cells 82 [Jbc 0,Jbb]),(1,.mp (JC imNil.1) imNil.2),(2,.cells 212 [.mp 1,Jbc 0])]
abbrev Qwv(p0_:Bool×Qr×Int×Jc6×Bool×Int):HB:=.cells 188 [K0 p0_.2.2.2.1,Jbd p0_.2.2.2.2.1,Jbc p0_.2.2.2.2.2,.ptr 2 0]
abbrev Qwu(p0_:Bool×Qr×Int×Jc6×Bool×Int):List (Nat×HB):=[(0,.cells 82 [Jbc 0,Jbb]),(1,.mp (JC p0_.2.1.1) p0_.2.1.2),(2,.cells 212 [.mp 1,Jbc p0_.2.2.1]),(3,Qwv p0_)]
abbrev Ql0(p0_:Jc6×Bool×Int×Int×Qr):HB:=.cells 188 [K0 (p0_.1.dropWhile (·==32)),Jbd p0_.2.1,Jbc p0_.2.2.1,.ptr 2 0]
abbrev Qkz(p0_:Jc6×Bool×Int×Int×Qr):List (Nat×HB):=[(0,.cells 82 [Jbc 0,Jbb]),(1,.mp (JC p0_.2.2.2.2.1) p0_.2.2.2.2.2),(2,.cells 212 [.mp 1,Jbc p0_.2.2.2.1]),(3,Ql0 p0_)]
def DF(a0:Jc6):Option (Lvl×Int):=
 cond (decide (65536<(a0.length:Int))) (some ((⟨0,([]:List Jc0)⟩:Lvl),5)) (Option.bind (some ()) (λ(y2:Unit)=>Option.bind (JM a0 false 0 0 imNil) λ(x4:Unit)=>
 Option.bind (Yq ([109,97,120]:List UInt8) (a0.dropWhile (·==32)) false 0 0 imNil) λ(x5:(Jc6))=>
 Option.bind (cond (Lib.hasPrefix (a0.dropWhile (·==32)) ([109,97,120]:List UInt8)) (Option.bind (JM x5 false 0 0 imNil) λ(x8:Unit)=>
 Option.bind (Yq ([40]:List UInt8) (x5.dropWhile (·==32)) false 0 0 imNil) λ(x9:(Jc6))=>
 Option.bind (Qa (ZY) Qd (true,imNil,0,x9,(!(Lib.hasPrefix (x5.dropWhile (·==32)) ([40]:List UInt8))),0)) (λ(o10:Qr×Int×Jc6×Bool×Int)=>Option.bind (Yq ([41]:List UInt8) o10.2.2.1 o10.2.2.2.1 o10.2.2.2.2 o10.2.1 o10.1) λ(x11:(Jc6))=>
 cond (!(Lib.hasPrefix o10.2.2.1 ([41]:List UInt8))) (some (x11,true,o10.2.2.2.2,o10.2.1,o10.1)) (some (x11,o10.2.2.2.1,o10.2.2.2.2,o10.2.1,o10.1)))) (Option.bind (Wq x5 false 0 0 imNil) λ(x21:(Jc6×Bool×Int×Int×Qr))=>
 some (x21.1,x21.2.1,x21.2.2.1,x21.2.2.2.1,x21.2.2.2.2))) (λ(v6:Jc6×Bool×Int×Int×Qr)=>Option.bind (JM v6.1 v6.2.1 v6.2.2.1 v6.2.2.2.1 v6.2.2.2.2) λ(x7:Unit)=>
 Option.bind (cond v6.2.1 (some true) (some (!((v6.1.dropWhile (·==32))==([]:List UInt8))))) (λ(v8:Bool)=>cond v8 (some ((⟨0,([]:List Jc0)⟩:Lvl),4)) (cond (v6.2.2.1 != 0) (some ((⟨0,([]:List Jc0)⟩:Lvl),v6.2.2.1)) (Option.bind (Wp v6.2.2.2.1 v6.2.2.2.2) λ(x11:(Int×Int×(List Jc0)))=>
 some ((⟨x11.2.1,x11.2.2⟩:Lvl),x11.1)))))))
theorem Qwt(a0:Jc6)(r:Lvl×Int)(h0:DF a0=some r):Fun prog 127 [.one (K0 a0)] (Qg [.agg (Jbg r.1),.one (Jbc r.2)]):=by
 unfold DF at h0;refine KE 9 83 func127 Z J2k Z (Jaw Z) (λS w=>?_);simp only[J3];refine Q4<|Q0<|Qk Z Z (Jaw Z) (QO Qg9 Z)<|Jam Z Z Z<|Q3<|Q5<|Q4<|Q4<|Q0<|Jal Z Z Z<|Jak Z Z Z (Qcn Qgq Z)<|Jak Z Z Z (Qc Z Z Z)<|Q3<|Q5 ?_
 refine Qz (b:=(decide (65536<(a0.length:Int)))) Z (λc1=>?_) (λc1=>?_);replace h0:=QF c1 h0;refine Q4<|Q0<|Jak Z Z Z (YK XW Z )<|QN Z Z (Qh JH Z Z Z Z (Jaw Z) Z)<|Jam Z Z Z<|Q3<|Q5<|QQ ?_
 have e:=Jai h0;subst e;exact Zr (λ_ _ h=>h) Z (Zs JH Z Z Z Z (Jl Z .nil)) (.cons (.agg (.cons (.d _) (.cons (.nil _) .nil))) (.cons (.one (.d _)) .nil));replace h0:=QG c1 h0;refine QV<|Q5<|Q4<|Q0<|Jal Z Z Z ?_
 refine Qu h0 (λy2 h1 h0=>?_);have hc3:CallM prog 149 [] ⟨[(0,.cells 82 [Jbc 0,Jbb])],[],1⟩ (Qg [.one (.ptr 2 0)]) ⟨Ql1,[],3⟩:=by refine Qp ⟨[(0,.v (.one (.ptr 2 0)))],Ql1,[],3,4,[]⟩ Z Z J2b (Jaw Z) Z (Jl Z .nil) (λw0 M V0 Q hv1 hQ1=>?_);simp only[J3];(refine Q4<|Q0<|Jam Z Z Z<|Q3<|Q5<|Q4<|Q0<|Qk Z Z (Jaw Z) (Q7u)<|Jak Z Z Z (KV J38 Z Z Z)<|Qk Z Z (Jaw Z) (Y9 Z)<|Jam Z Z Z<|Q3<|Q5<|QQ ?_);have e:=Jai h1;subst e;exact hQ1 _ _ _ (.inr Z) Z (QZ (Jag Z) (hA Z) Jax Z (Cc hv1 (Jaw Z)) Z Z Z (Jbm Z Z (Jbl Z (Jbn Z))) Z Z)
 refine Qk Z Z (Jaw Z) (Gj Z Z Z hc3 Z (hA Z) Jax)<|Jak Z Z Z (QJ J39 Z Z Z Z)<|Qk Z Z (Jaw Z) (Y9 Z)<|Jam Z Z Z<|Q3<|Q5<|Q4<|Q0<|Jal Z Z Z ?_
 refine Qu h0 (λx4 hx4 h0=>?_);refine Qk Z Z (Jaw Z) (Qo (hp1':=[(3,.cells 188 [K0 (a0.dropWhile (·==32)),Jbd false,Jbc 0,.ptr 2 0]),(2,.cells 212 [.mp 1,Jbc 0]),(1,.mp (JC imNil.1) imNil.2)]) (tk1':=[]) (hpF:=[(0,.cells 82 [Jbc 0,Jbb])]) (tkF:=[]) (res2:=Qg []) (nx2:=4) [3,2,1] Z Z (ZK a0 false 0 0 imNil x4 hx4) Z Z (Jap Z Z (Jap Z Z (Jao Z Jan))) Z Z (Jb7 Z (Jb7 Z (Jb8 Z Jb6))) Jb1 (hA Z) Jax Z Z Z Z Z (Jbm Z Z (Jbm Z Z (Jbl Z Jbk))) Z Z Z Z)<|Q3<|Q5<|Q4<|Q4<|Q0<|Jal Z Z Z ?_
 refine Qu h0 (λx5 hx5 h0=>?_);refine Qk Z Z (Jaw Z) (Qo (hp1':=[(3,.cells 188 [K0 x5,Jbd false,Jbc 0,.ptr 2 0]),(2,.cells 212 [.mp 1,Jbc 0]),(1,.mp (JC imNil.1) imNil.2)]) (tk1':=[]) (hpF:=[(0,.cells 82 [Jbc 0,Jbb])]) (tkF:=[]) (res2:=Qg [.one (Jbd (Lib.hasPrefix (a0.dropWhile (·==32)) ([109,97,120]:List UInt8)))]) (nx2:=4) [3,2,1] Z Z (ZJ ([109,97,120]:List UInt8) (a0.dropWhile (·==32)) false 0 0 imNil x5 hx5) Z Z (Jap Z Z (Jap Z Z (Jao Z Jan))) Z Z (Jb7 Z (Jb7 Z (Jb8 Z Jb6))) Jb1 (hA Z) Jax Z Z Z Z Z (Jbm Z Z (Jbm Z Z (Jbl Z Jbk))) Z Z Z Z)<|Q3<|Q5 ?_
 refine Jt (λ(v6:Jc6×Bool×Int×Int×Qr)=>⟨[(2,.v (.one (.ptr 0 0))),(4,.v (.one (.ptr 3 0)))],[(0,.cells 82 [Jbc 0,Jbb]),(1,.mp (JC v6.2.2.2.2.1) v6.2.2.2.2.2),(2,.cells 212 [.mp 1,Jbc v6.2.2.2.1]),(3,.cells 188 [K0 v6.1,Jbd v6.2.1,Jbc v6.2.2.1,.ptr 2 0])],[],4,83,[]⟩) (λ(v6:Jc6×Bool×Int×Int×Qr)=>(Option.bind (JM v6.1 v6.2.1 v6.2.2.1 v6.2.2.2.1 v6.2.2.2.2) λ(x7:Unit)=>
  Option.bind (cond v6.2.1 (some true) (some (!((v6.1.dropWhile (·==32))==([]:List UInt8))))) (λ(v8:Bool)=>cond v8 (some ((⟨0,([]:List Jc0)⟩:Lvl),4)) (cond (v6.2.2.1 != 0) (some ((⟨0,([]:List Jc0)⟩:Lvl),v6.2.2.1)) (Option.bind (Wp v6.2.2.2.1 v6.2.2.2.2) λ(x11:(Int×Int×(List Jc0)))=>
  some ((⟨x11.2.1,x11.2.2⟩:Lvl),x11.1)))))=some r) ?_ ?_
 refine Qu h0 (λw1_ h1 h0=>?_);refine Qz (b:=(Lib.hasPrefix (a0.dropWhile (·==32)) ([109,97,120]:List UInt8))) Z (λc7=>?_) (λc7=>?_);replace h1:=QF c7 h1;refine Q4<|Q0<|Jal Z Z Z ?_
 refine Qu h1 (λx8 hx8 h1=>?_);refine Qk Z Z (Jaw Z) (Qo (hp1':=[(3,.cells 188 [K0 (x5.dropWhile (·==32)),Jbd false,Jbc 0,.ptr 2 0]),(2,.cells 212 [.mp 1,Jbc 0]),(1,.mp (JC imNil.1) imNil.2)]) (tk1':=[]) (hpF:=[(0,.cells 82 [Jbc 0,Jbb])]) (tkF:=[]) (res2:=Qg []) (nx2:=4) [3,2,1] Z Z (ZK x5 false 0 0 imNil x8 hx8) Z Z (Jap Z Z (Jap Z Z (Jao Z Jan))) Z Z (Jb7 Z (Jb7 Z (Jb8 Z Jb6))) Jb1 (hA Z) Jax Z Z Z Z Z (Jbm Z Z (Jbm Z Z (Jbl Z Jbk))) Z Z Z Z)<|Q3<|Q5<|Q4<|Q0<|Jal Z Z Z<|Jal Z Z Z ?_
 refine Qu h1 (λx9 hx9 h1=>?_);refine Qk Z Z (Jaw Z) (Qo (hp1':=[(3,.cells 188 [K0 x9,Jbd false,Jbc 0,.ptr 2 0]),(2,.cells 212 [.mp 1,Jbc 0]),(1,.mp (JC imNil.1) imNil.2)]) (tk1':=[]) (hpF:=[(0,.cells 82 [Jbc 0,Jbb])]) (tkF:=[]) (res2:=Qg [.one (Jbd (Lib.hasPrefix (x5.dropWhile (·==32)) ([40]:List UInt8)))]) (nx2:=4) [3,2,1] Z Z (ZJ ([40]:List UInt8) (x5.dropWhile (·==32)) false 0 0 imNil x9 hx9) Z Z (Jap Z Z (Jap Z Z (Jao Z Jan))) Z Z (Jb7 Z (Jb7 Z (Jb8 Z Jb6))) Jb1 (hA Z) Jax Z Z Z Z Z (Jbm Z Z (Jbm Z Z (Jbl Z Jbk))) Z Z Z Z)<|Jak Z Z Z (GG Z)<|Jak Z Z Z (Qe Z)<|Jak Z Z Z (Q2 WE Z)<|QN Z Z (Qh Qfn Z Z Z Z (Jaw Z) Z)<|Q3<|Q5<|Q4<|Q4<|Q0<|Jam Z Z Z<|Q3<|Q5<|QH ?_
 refine Gh 0 (λ(o10:Qr×Int×Jc6×Bool×Int)=>⟨[(2,.v (.one (.ptr 0 0))),(4,.v (.one (.ptr 3 0)))],[(0,.cells 82 [Jbc 0,Jbb]),(1,.mp (JC o10.1.1) o10.1.2),(2,.cells 212 [.mp 1,Jbc o10.2.1]),(3,.cells 188 [K0 o10.2.2.1,Jbd o10.2.2.2.1,Jbc o10.2.2.2.2,.ptr 2 0])],[],4,83,[]⟩) (λ(o10:Qr×Int×Jc6×Bool×Int)=>(Option.bind (Yq ([41]:List UInt8) o10.2.2.1 o10.2.2.2.1 o10.2.2.2.2 o10.2.1 o10.1) λ(x11:(Jc6))=>cond (!(Lib.hasPrefix o10.2.2.1 ([41]:List UInt8))) (some (x11,true,o10.2.2.2.2,o10.2.1,o10.1)) (some (x11,o10.2.2.2.1,o10.2.2.2.2,o10.2.1,o10.1)))=some w1_) ?_ ?_;refine Qu h1 (λo11 hl2 h1=>?_);refine Gg (ZY) (λs2=>⟨[(2,.v (.one (.ptr 0 0))),(4,.v (.one (.ptr 3 0))),(5,.v (.one (Jbd s2.1)))],[(0,.cells 82 [Jbc 0,Jbb]),(1,.mp (JC s2.2.1.1) s2.2.1.2),(2,.cells 212 [.mp 1,Jbc s2.2.2.1]),(3,.cells 188 [K0 s2.2.2.2.1,Jbd s2.2.2.2.2.1,Jbc s2.2.2.2.2.2,.ptr 2 0])],[],4,83,[]⟩) (true,imNil,0,x9,(!(Lib.hasPrefix (x5.dropWhile (·==32)) ([40]:List UInt8))),0) o11 (QZ (Jag Z) (hA Z) Jax Z (Cs _) Z Z Z (Jbm Z Z (Jbl Z (Jbn Z))) Z Z) hl2 (λs2 n2 oo2 h2 ho2=>?_);unfold ZY at h2;refine Q4<|Q4 ?_
 refine Jt (λ(v12:Bool)=>⟨[(2,.v (.one (.ptr 0 0))),(4,.v (.one (.ptr 3 0))),(33,.v (.one (Jbd v12)))],Qwu s2,[],4,83,[]⟩) (λ(v12:Bool)=>(cond v12 (Option.bind (JM s2.2.2.2.1 s2.2.2.2.2.1 s2.2.2.2.2.2 s2.2.2.1 s2.2.1) λ(x14:Unit)=>
  Option.bind (Wq (s2.2.2.2.1.dropWhile (·==32)) s2.2.2.2.2.1 s2.2.2.2.2.2 s2.2.2.1 s2.2.1) λ(x15:(Jc6×Bool×Int×Int×Qr))=>
  Option.bind (JM x15.1 x15.2.1 x15.2.2.1 x15.2.2.2.1 x15.2.2.2.2) λ(x16:Unit)=>
  Option.bind (Yq ([44]:List UInt8) (x15.1.dropWhile (·==32)) x15.2.1 x15.2.2.1 x15.2.2.2.1 x15.2.2.2.2) λ(x17:(Jc6))=>
  some (.next ((Lib.hasPrefix (x15.1.dropWhile (·==32)) ([44]:List UInt8)),x15.2.2.2.2,x15.2.2.2.1,x17,x15.2.1,x15.2.2.1))) (some (.done (s2.2.1,s2.2.2.1,s2.2.2.2.1,s2.2.2.2.2.1,s2.2.2.2.2.2))))=some oo2) ?_ ?_
 refine Qu h2 (λw3_ h3 h2=>?_);refine Q0<|Jal Z Z Z<|Jal Z Z Z ?_
 refine QX (d:=27) (c:=s2.1) Z (λc13=>?_) (λc13=>?_);replace h3:=QF c13 h3;refine Jal Z Z Z<|Jak Z Z Z (Qe Z)<|Jak Z Z Z (Q2 WE Z)<|Jak Z Z Z (Q6 Qfn Z Z Z)<|Jak Z Z Z (GG Z)<|Jak Z Z Z (Qn Z Z)<|Q3 ?_
 have e:=Jai h3;subst e;exact Qi (!s2.2.2.2.2.1) (QZ (Jag Z) (hA Z) Jax Z (Cs _) Z Z Z (Jbm Z Z (Jbl Z (Jbn Z))) Z Z) h2;replace h3:=QG c13 h3;refine Q8 Z Z<|Q8 Z Z<|Q8 Z Z<|Q8 Z Z<|Q8 Z Z<|Jak Z Z Z (QA Z Z)<|Q3 ?_
 have e:=Jai h3;subst e;exact Qi false (QZ (Jag Z) (hA Z) Jax Z (Cs _) Z Z Z (Jbm Z Z (Jbl Z (Jbn Z))) Z Z) h2;intro v12 h2;refine Q5 ?_;refine Qz (b:=v12) Z (λc14=>?_) (λc14=>?_);replace h2:=QF c14 h2;refine QV<|Q5<|Q4<|QH<|Q4<|Q0<|Jal Z Z Z ?_
 refine Qu h2 (λx15 hx15 h2=>?_);refine Qk Z Z (Jaw Z) (Qo (hp1':=[(3,.cells 188 [K0 (s2.2.2.2.1.dropWhile (·==32)),Jbd s2.2.2.2.2.1,Jbc s2.2.2.2.2.2,.ptr 2 0]),(2,.cells 212 [.mp 1,Jbc s2.2.2.1]),(1,.mp (JC s2.2.1.1) s2.2.1.2)]) (tk1':=[]) (hpF:=[(0,.cells 82 [Jbc 0,Jbb])]) (tkF:=[]) (res2:=Qg []) (nx2:=4) [3,2,1] Z Z (ZK s2.2.2.2.1 s2.2.2.2.2.1 s2.2.2.2.2.2 s2.2.2.1 s2.2.1 x15 hx15) Z Z (Jap Z Z (Jap Z Z (Jao Z Jan))) Z Z (Jb7 Z (Jb7 Z (Jb8 Z Jb6))) Jb1 (hA Z) Jax Z Z Z Z Z (Jbm Z Z (Jbm Z Z (Jbl Z Jbk))) Z Z Z Z)<|Q3<|Q5<|Q4<|Q0<|Jal Z Z Z ?_
 refine Qu h2 (λx16 hx16 h2=>?_);refine Qk Z Z (Jaw Z) (Qo (hp1':=[(3,.cells 188 [K0 x16.1,Jbd x16.2.1,Jbc x16.2.2.1,.ptr 2 0]),(2,.cells 212 [.mp 1,Jbc x16.2.2.2.1]),(1,.mp (JC x16.2.2.2.2.1) x16.2.2.2.2.2)]) (tk1':=[]) (hpF:=[(0,.cells 82 [Jbc 0,Jbb])]) (tkF:=[]) (res2:=Qg []) (nx2:=7) [3,2,1] Z Z (Q8o (s2.2.2.2.1.dropWhile (·==32)) s2.2.2.2.2.1 s2.2.2.2.2.2 s2.2.2.1 s2.2.1 x16 hx16) Z Z (Jap Z Z (Jap Z Z (Jao Z Jan))) Z Z (Jb7 Z (Jb7 Z (Jb8 Z Jb6))) Jb1 (hA Z) Jax Z Z Z Z Z (Jbm Z Z (Jbm Z Z (Jbl Z Jbk))) Z Z Z Z)<|Q3<|Q5<|Q0<|Jal Z Z Z ?_
 refine Qu h2 (λx17 hx17 h2=>?_);refine Qk Z Z (Jaw Z) (Qo (hp1':=[(3,.cells 188 [K0 (x16.1.dropWhile (·==32)),Jbd x16.2.1,Jbc x16.2.2.1,.ptr 2 0]),(2,.cells 212 [.mp 1,Jbc x16.2.2.2.1]),(1,.mp (JC x16.2.2.2.2.1) x16.2.2.2.2.2)]) (tk1':=[]) (hpF:=[(0,.cells 82 [Jbc 0,Jbb])]) (tkF:=[]) (res2:=Qg []) (nx2:=7) [3,2,1] Z Z (ZK x16.1 x16.2.1 x16.2.2.1 x16.2.2.2.1 x16.2.2.2.2 x17 hx17) Z Z (Jap Z Z (Jap Z Z (Jao Z Jan))) Z Z (Jb7 Z (Jb7 Z (Jb8 Z Jb6))) Jb1 (hA Z) Jax Z Z Z Z Z (Jbm Z Z (Jbm Z Z (Jbl Z Jbk))) Z Z Z Z)<|Q3<|Ji<|Q5<|Q0<|Jal Z Z Z ?_
 refine Qu h2 (λx18 hx18 h2=>?_);refine Qk Z Z (Jaw Z) (Qo (hp1':=[(3,.cells 188 [K0 x18,Jbd x16.2.1,Jbc x16.2.2.1,.ptr 2 0]),(2,.cells 212 [.mp 1,Jbc x16.2.2.2.1]),(1,.mp (JC x16.2.2.2.2.1) x16.2.2.2.2.2)]) (tk1':=[]) (hpF:=[(0,.cells 82 [Jbc 0,Jbb])]) (tkF:=[]) (res2:=Qg [.one (Jbd (Lib.hasPrefix (x16.1.dropWhile (·==32)) ([44]:List UInt8)))]) (nx2:=7) [3,2,1] Z Z (ZJ ([44]:List UInt8) (x16.1.dropWhile (·==32)) x16.2.1 x16.2.2.1 x16.2.2.2.1 x16.2.2.2.2 x18 hx18) Z Z (Jap Z Z (Jap Z Z (Jao Z Jan))) Z Z (Jb7 Z (Jb7 Z (Jb8 Z Jb6))) Jb1 (hA Z) Jax Z Z Z Z Z (Jbm Z Z (Jbm Z Z (Jbl Z Jbk))) Z Z Z Z)<|Jam Z Z Z<|Q3 ?_
 have e:=Jai h2;subst e;refine Ge ((Lib.hasPrefix (x16.1.dropWhile (·==32)) ([44]:List UInt8)),x16.2.2.2.2,x16.2.2.2.1,x18,x16.2.1,x16.2.2.1) (QZ (Jag Z) (hA Z) Jax Z (Cs _) Z Z Z (Jbm Z Z (Jbl Z (Jbn Z))) Z Z) ho2;replace h2:=QG c14 h2;refine Gx<|JV<|JV ?_
 have e:=Jai h2;subst e;have e_:_=_:=ho2;subst e_;exact Gf (s2.2.1,s2.2.2.1,s2.2.2.2.1,s2.2.2.2.2.1,s2.2.2.2.2.2) (QZ (Jag Z) (hA Z) Jax Z (Cs _) Z Z Z (Jbm Z Z (Jbl Z (Jbn Z))) Z Z) h1;intro o10 h1;refine Z7<|Q5<|Q4<|Q0<|Jal Z Z Z ?_
 refine Qu h1 (λx19 hx19 h1=>?_);refine Qk Z Z (Jaw Z) (Qo (hp1':=[(3,.cells 188 [K0 x19,Jbd o10.2.2.2.1,Jbc o10.2.2.2.2,.ptr 2 0]),(2,.cells 212 [.mp 1,Jbc o10.2.1]),(1,.mp (JC o10.1.1) o10.1.2)]) (tk1':=[]) (hpF:=[(0,.cells 82 [Jbc 0,Jbb])]) (tkF:=[]) (res2:=Qg [.one (Jbd (Lib.hasPrefix o10.2.2.1 ([41]:List UInt8)))]) (nx2:=4) [3,2,1] Z Z (ZJ ([41]:List UInt8) o10.2.2.1 o10.2.2.2.1 o10.2.2.2.2 o10.2.1 o10.1 x19 hx19) Z Z (Jap Z Z (Jap Z Z (Jao Z Jan))) Z Z (Jb7 Z (Jb7 Z (Jb8 Z Jb6))) Jb1 (hA Z) Jax Z Z Z Z Z (Jbm Z Z (Jbm Z Z (Jbl Z Jbk))) Z Z Z Z)<|Jak Z Z Z (GG Z)<|Q3<|Q5 ?_
 refine Qz (b:=(!(Lib.hasPrefix o10.2.2.1 ([41]:List UInt8)))) Z (λc20=>?_) (λc20=>?_);replace h1:=QF c20 h1;refine Q0<|Jal Z Z Z<|Jak Z Z Z (Qe Z)<|Jak Z Z Z (Q2 WE Z)<|QN Z Z (Qh Qfn Z Z Z Z (Jaw Z) Z)<|Q3 ?_
 have e:=Jai h1;subst e;exact Qi (x19,true,o10.2.2.2.2,o10.2.1,o10.1) (QZ (Jag Z) (hA Z) Jax Z (Cs _) Z Z Z (Jbm Z Z (Jbl Z (Jbn Z))) Z Z) h0;replace h1:=QG c20 h1;refine QV ?_;have e:=Jai h1;subst e;exact Qi (x19,o10.2.2.2.1,o10.2.2.2.2,o10.2.1,o10.1) (QZ (Jag Z) (hA Z) Jax Z (Cs _) Z Z Z (Jbm Z Z (Jbl Z (Jbn Z))) Z Z) h0;replace h1:=QG c7 h1;refine Q0<|Jal Z Z Z ?_
 refine Qu h1 (λx21 hx21 h1=>?_);refine Qk Z Z (Jaw Z) (Qo (hp1':=[(3,.cells 188 [K0 x21.1,Jbd x21.2.1,Jbc x21.2.2.1,.ptr 2 0]),(2,.cells 212 [.mp 1,Jbc x21.2.2.2.1]),(1,.mp (JC x21.2.2.2.2.1) x21.2.2.2.2.2)]) (tk1':=[]) (hpF:=[(0,.cells 82 [Jbc 0,Jbb])]) (tkF:=[]) (res2:=Qg []) (nx2:=7) [3,2,1] Z Z (Q8o x5 false 0 0 imNil x21 hx21) Z Z (Jap Z Z (Jap Z Z (Jao Z Jan))) Z Z (Jb7 Z (Jb7 Z (Jb8 Z Jb6))) Jb1 (hA Z) Jax Z Z Z Z Z (Jbm Z Z (Jbm Z Z (Jbl Z Jbk))) Z Z Z Z)<|Q3 ?_
 have e:=Jai h1;subst e;exact Qi (x21.1,x21.2.1,x21.2.2.1,x21.2.2.2.1,x21.2.2.2.2) (QZ (Jag Z) (hA Z) Jax Z (Cs _) Z Z Z (Jbm Z Z (Jbl Z (Jbn Z))) Z Z) h0;intro v6 h0;refine Q5<|Q4<|Q0<|Jal Z Z Z ?_
 refine Qu h0 (λx22 hx22 h0=>?_);refine Qk Z Z (Jaw Z) (Qo (hp1':=[(3,.cells 188 [K0 (v6.1.dropWhile (·==32)),Jbd v6.2.1,Jbc v6.2.2.1,.ptr 2 0]),(2,.cells 212 [.mp 1,Jbc v6.2.2.2.1]),(1,.mp (JC v6.2.2.2.2.1) v6.2.2.2.2.2)]) (tk1':=[]) (hpF:=[(0,.cells 82 [Jbc 0,Jbb])]) (tkF:=[]) (res2:=Qg []) (nx2:=4) [3,2,1] Z Z (ZK v6.1 v6.2.1 v6.2.2.1 v6.2.2.2.1 v6.2.2.2.2 x22 hx22) Z Z (Jap Z Z (Jap Z Z (Jao Z Jan))) Z Z (Jb7 Z (Jb7 Z (Jb8 Z Jb6))) Jb1 (hA Z) Jax Z Z Z Z Z (Jbm Z Z (Jbm Z Z (Jbl Z Jbk))) Z Z Z Z)<|Q3<|Q5<|Q4<|QH<|Q4 ?_
 refine Jt (λ(v23:Bool)=>⟨[(2,.v (.one (.ptr 0 0))),(4,.v (.one (.ptr 3 0))),(52,.v (.one (Jbd v23)))],Qkz v6,[],4,83,[]⟩) (λ(v23:Bool)=>(cond v23 (some ((⟨0,([]:List Jc0)⟩:Lvl),4)) (cond (v6.2.2.1 != 0) (some ((⟨0,([]:List Jc0)⟩:Lvl),v6.2.2.1)) (Option.bind (Wp v6.2.2.2.1 v6.2.2.2.2) λ(x26:(Int×Int×(List Jc0)))=>some ((⟨x26.2.1,x26.2.2⟩:Lvl),x26.1))))=some r) ?_ ?_;refine Qu h0 (λw1_ h1 h0=>?_);refine Q0<|Jal Z Z Z<|Jak Z Z Z (Qe Z)<|Jak Z Z Z (Q2 WE Z)<|Jak Z Z Z (Q6 Qfn Z Z Z)<|Jal Z Z Z ?_
 refine QX (d:=57) (c:=v6.2.1) Z (λc24=>?_) (λc24=>?_);replace h1:=QF c24 h1;refine Q8 Z Z<|Q8 Z Z<|Q8 Z Z<|Q8 Z Z<|Q8 Z Z<|Jak Z Z Z (Qn Z Z)<|Jam Z Z Z<|Q3 ?_
 have e:=Jai h1;subst e;exact Qi true (QZ (Jag Z) (hA Z) Jax Z (Cs _) Z Z Z (Jbm Z Z (Jbl Z (Jbn Z))) Z Z) h0;replace h1:=QG c24 h1;refine Jal Z Z Z<|Jak Z Z Z (Qe Z)<|Jak Z Z Z (Q2 Yz Z)<|Jak Z Z Z (Q6 Q1q Z Z Z)<|Jak Z Z Z (Quv Z Z)<|Jak Z Z Z (QA Z Z)<|Jam Z Z Z<|Q3 ?_
 have e:=Jai h1;subst e;exact Qi (!((v6.1.dropWhile (·==32))==([]:List UInt8))) (QZ (Jag Z) (hA Z) Jax Z (Cs _) Z Z Z (Jbm Z Z (Jbl Z (Jbn Z))) Z Z) h0;intro v23 h0;refine Q5 ?_;refine Qz (b:=v23) Z (λc25=>?_) (λc25=>?_);replace h0:=QF c25 h0;refine Q4<|Q0<|Jak Z Z Z (YK XW Z )<|QN Z Z (Qh JH Z Z Z Z (Jaw Z) Z)<|Jam Z Z Z<|Q3<|Q5<|QQ ?_
 have e:=Jai h0;subst e;exact Zr (λ_ _ h=>h) Z (Zs JH Z Z Z Z (Jl Z .nil)) (.cons (.agg (.cons (.d _) (.cons (.nil _) .nil))) (.cons (.one (.d _)) .nil));replace h0:=QG c25 h0;refine Q4<|Q0<|Jal Z Z Z<|Jak Z Z Z (Qe Z)<|Jak Z Z Z (Q2 WD Z)<|Jak Z Z Z (Q6 Xb Z Z Z)<|Jak Z Z Z (Qc Z Z Z)<|Jam Z Z Z<|Q3<|Q5 ?_
 refine Qz (b:=(v6.2.2.1 != 0)) Z (λc26=>?_) (λc26=>?_);replace h0:=QF c26 h0;refine Q4 ?_;refine YI [5] [(1,1),(2,1),(3,1),(4,1)] mixed (by kernel_rfl) (by kernel_rfl) (by kernel_rfl) ?_;refine RunA.rd Z Z Z (Q9 (YK XW Z )) Z<|RunA.rd Z Z Z (Q9 (YJ Z)) Z<|RunA.rd Z Z Z (Q9 (Qe Z)) Z<|RunA.rd Z Z Z (Q9 (Q2 WD Z)) Z<|RunA.rd Z Z Z (Q9 (Q6 Xb Z Z Z)) Z<|RunA.eff Z Z Z (Qh JH Z Z Z Z (Jaw Z) Z) Z<|RunA.rd Z Z Z (Q9 (Q20 Z)) Z ?_
 refine RunA.nil ⟨?ex,_,_,Z,?_⟩;case ex=>exact⟨⟨_,rfl,_,_,rfl,rfl,rfl,.inl ⟨rfl,_,Q9 (YJ rfl),rfl⟩⟩,⟨_,rfl,_,_,rfl,rfl,rfl,.inl ⟨rfl,_,Q9 (Qe rfl),rfl⟩⟩,⟨_,rfl,_,_,rfl,rfl,rfl,.inl ⟨rfl,_,Q9 (Q2 WD rfl),rfl⟩⟩,⟨_,rfl,_,_,rfl,rfl,rfl,.inl ⟨rfl,_,Q9 (Q6 Xb rfl rfl rfl),rfl⟩⟩,trivial⟩
 refine XM (st':=⟨[(2,.v (.one (.ptr 0 0))),(3,.v (.one (Jbc v6.2.2.1)))],Qkz v6,[],4,83,[]⟩) (QZ (Jag Z) (hA Z) Jax Z (Cs _) Z Z Z (Jbm Z Z (Jbl Z (Jbn Z))) Z Z)<|Q5<|QQ ?_
 have e:=Jai h0;subst e;exact Zr (λ_ _ h=>h) Z (Zs JH Z Z Z Z (Jl Z .nil)) (.cons (.agg (.cons (.d _) (.cons (.nil _) .nil))) (.cons (.one (.d _)) .nil));replace h0:=QG c26 h0;refine QV<|Ji<|Q5<|Q4<|Q0<|Jal Z Z Z<|Jak Z Z Z (Qe Z)<|Jak Z Z Z (Q2 Qes Z)<|Jak Z Z Z (Q6 Qum Z Z Z) ?_
 refine Qu h0 (λx27 hx27 h0=>?_);refine Qk Z Z (Jaw Z) (Qo (hp1':=[(2,.cells 212 [.mp 1,Jbc v6.2.2.2.1]),(1,.mp (JC v6.2.2.2.2.1) v6.2.2.2.2.2),(4,.cells 82 [Jbc x27.2.1,Jba x27.2.2])]) (tk1':=[]) (hpF:=[(0,.cells 82 [Jbc 0,Jbb]),(3,Ql0 v6)]) (tkF:=[]) (res2:=Qg [.agg [Jbc x27.2.1,Jba x27.2.2],.one (Jbc x27.1)]) (nx2:=10) [2,1] Z Z (Qnq v6.2.2.2.1 v6.2.2.2.2 x27 hx27) Z Z (Jap Z Z (Jao Z (Jap Z Z Jan))) Z Z (Jb7 Z (Jb8 Z Jb6)) Jb1 (hA Z) Jax Z Z Z Z Z (Jbm Z Z (Jbl Z Jbk)) Z Z Z Z)<|Jak Z Z Z (J8 Z Z)<|Jak Z Z Z (J8 Z Z)<|QN Z Z (Qh JH Z Z Z Z (Jaw Z) Z)<|Jam Z Z Z<|Q3<|Q5<|QQ ?_
 have e:=Jai h0;subst e;exact Zr (λ_ _ h=>h) Z (Zs JH Z Z Z Z (Jl Z .nil)) (.cons (.agg (.cons (.d _) (.cons (.d _) .nil))) (.cons (.one (.d _)) .nil))
def k127:KF UV:=⟨[.str],[.stc .t82,.int .i64],λv=>DF v⟩
theorem Qxj:JY DV W0 prog 127 k127:=⟨rfl,λv r h=>Q0h (Eq.mp (show _=Fun prog 127 (QE DV k127.args v) (Qg (QE DV k127.res r))from by kernel_rfl) (Qwt v r h))⟩
end
section
open Go.RowKit
set_option maxRecDepth 100000
theorem J2e:Qb prog 145:=enters_of func145 (by kernel_rfl) rfl
def Qs3(a0:Int):Option (Bool):=Option.bind (cond ((decide (97<=a0))) (cond ((decide (a0<=122))) (some true) (cond ((decide (65<=a0))) (cond ((decide (a0<=90))) (some true) (cond ((decide (48<=a0))) (cond ((decide (a0<=57))) (some true) (cond ((a0==95)) (some true) (cond ((a0==39)) (some true) (some (a0==46))))) (cond ((a0==95)) (some true) (cond ((a0==39)) (some true) (some (a0==46)))))) (cond ((decide (48<=a0))) (cond ((decide (a0<=57))) (some true) (cond ((a0==95)) (some true) (cond ((a0==39)) (some true) (some (a0==46))))) (cond ((a0==95)) (some true) (cond ((a0==39)) (some true) (some (a0==46))))))) (cond ((decide (65<=a0))) (cond ((decide (a0<=90))) (some true) (cond ((decide (48<=a0))) (cond ((decide (a0<=57))) (some true) (cond ((a0==95)) (some true) (cond ((a0==39)) (some true) (some (a0==46))))) (cond ((a0==95)) (some true) (cond ((a0==39)) (some true) (some (a0==46)))))) (cond ((decide (48<=a0))) (cond ((decide (a0<=57))) (some true) (cond ((a0==95)) (some true) (cond ((a0==39)) (some true) (some (a0==46))))) (cond ((a0==95)) (some true) (cond ((a0==39)) (some true) (some (a0==46))))))) λ(v1:Bool)=>some v1
def k145:KF UV:=⟨[.int .u8],[.bool],λv=>Qs3 v⟩
def J8z:Hints UV:=⟨[(1,⟨[([.reg 2],.bool)],[],false⟩)],[]⟩
theorem Qlf:JY DV W0 prog 145 k145:=Yj (C:=Jc5) rfl Qx Qj (Qw (tb:=[]) Qj trivial) Jx func145 J2e J8z k145 rfl (λv=>by kernel_rfl)
theorem J2f:Qb prog 144:=enters_of func144 (by kernel_rfl) rfl
def Qs4(a0:List UInt8)(a1:Int):Option (Int):=Option.bind (Qa (σ:=Int) (β:=Int) (λs11=>Option.bind (cond ((decide (s11<(a0.length:Int)))) (Option.bind (QT a0 s11) λ(x16:UInt8)=>Option.bind (Qs3 (x16.toNat:Int)) λ(x17:Bool)=>some x17) (some false)) λ(v15:Bool)=>cond v15 (some (.next (Qm (s11+1)))) (some (.done s11))) Qd a1) λ(v12:Int)=>some v12
def k144:KF UV:=⟨[.str,.int .i64],[.int .i64],λv=>Qs4 v.1 v.2⟩
def J90:Hints UV:=⟨[(1,⟨[([.reg 1],.int .i64)],[([.reg 1],.int .i64)],false⟩),(2,⟨[([.reg 14],.bool)],[],false⟩)],[]⟩
theorem Qxi:JY DV W0 prog 144 k144:=Yj (C:=Jc5) rfl Qx Qj (Qw (tb:=[(145,k145)]) Qj ⟨Qlf,trivial⟩) Jx func144 J2f J90 k144 rfl (λv=>by kernel_rfl)
theorem J2m:Qb prog 125:=enters_of func125 (by kernel_rfl) rfl
def Q5h(a0:List UInt8):Option (Int×Bool):=Option.bind (cond ((decide (6<(a0.length:Int)))) (some true) (cond ((a0==([]:List UInt8))) (some true) (Option.bind (Qo2 a0 ([48,49,50,51,52,53,54,55,56,57]:List UInt8)) λ(x4:(List UInt8))=>cond ((!(x4==([]:List UInt8)))) (some true) (cond ((decide (1<(a0.length:Int)))) (Option.bind (QT a0 0) λ(x5:UInt8)=>some ((x5.toNat:Int)==48)) (some false))))) λ(v3:Bool)=>cond v3 (some (0,false)) (Option.bind (Q7 (cond (Nat.ble a0.length 18) (Lib.atoi a0).isSome false) (some ((Lib.atoi a0).getD 0))) λ(x6:Int)=>some (x6,true))
def k125:KF UV:=⟨[.str],[.int .i64,.bool],λv=>Q5h v⟩
def J92:Hints UV:=⟨[(1,⟨[([.reg 27],.bool)],[],false⟩)],[(5,[])]⟩
theorem Qlj:JY DV W0 prog 125 k125:=Yj (C:=Jc5) rfl Qx Qj (J1b (Qw (tb:=[(146,k146)]) Qj ⟨Qxh,trivial⟩) J3b) Jx func125 J2m J92 k125 rfl (λv=>by kernel_rfl)
theorem J2o:Qb prog 123:=enters_of func123 (by kernel_rfl) rfl
def Qo4(a0:List UInt8)(a1:Int):Option (Int):=Option.bind (QT a0 a1) λ(x1:UInt8)=>Option.bind (cond (((x1.toNat:Int)==40)) (some true) (some ((x1.toNat:Int)==41))) λ(v2:Bool)=>cond v2 (some (Qm (a1+1))) (Option.bind (α:=Unit⊕Int) (cond (((x1.toNat:Int)==91)) (Q7 (inB a1 a0.length) (Option.bind (Qhq (List.drop a1.toNat a0) 93) λ(x30:Int)=>cond ((decide (0<=x30))) (some (.inr (Qm ((Qm (a1+x30))+1)))) (some (.inl ())))) (Option.bind (cond (((x1.toNat:Int)==35)) (some true) (some ((x1.toNat:Int)==63))) λ(v31:Bool)=>Option.bind (α:=Unit⊕Int) (cond v31 (Option.bind (Qs4 a0 (Qm (a1+1))) λ(x44:Int)=>Q7 (cond (decide (0<=(Qm (a1+1)))) (cond (Nat.ble (Qm (a1+1)).toNat x44.toNat) (inB x44 a0.length) false) false) (Option.bind (Q5h (List.drop (Qm (a1+1)).toNat (List.take x44.toNat a0))) λ(x45:Int×Bool)=>cond x45.2 (some (.inr x44)) (some (.inl ())))) (Option.bind (Qs3 (x1.toNat:Int)) λ(x46:Bool)=>Option.bind (α:=Unit⊕Int) (cond x46 (Option.bind (Qs4 a0 a1) λ(x51:Int)=>Q7 (cond (decide (0<=a1)) (cond (Nat.ble a1.toNat x51.toNat) (inB x51 a0.length) false) false) (Option.bind (Q5h (List.drop a1.toNat (List.take x51.toNat a0))) λ(x52:Int×Bool)=>Option.bind (cond x52.2 (some true) (cond ((decide ((x1.toNat:Int)<48))) (some true) (some (decide (57<(x1.toNat:Int)))))) λ(v53:Bool)=>cond v53 (some (.inr x51)) (some (.inl ())))) (some (.inl ()))) (Sum.elim (λ(v50:Unit)=>some (.inl ())) (λ(o54:Int)=>some (.inr o54))))) (Sum.elim (λ(v43:Unit)=>some (.inl ())) (λ(o55:Int)=>some (.inr o55))))) (Sum.elim (λ(v29:Unit)=>some a1) (λ(o56:Int)=>some o56)))
def k123:KF UV:=⟨[.str,.int .i64],[.int .i64],λv=>Qo4 v.1 v.2⟩
def J94:Hints UV:=⟨[(3,⟨[([.reg 16],.bool)],[],false⟩),(7,⟨[],[],true⟩),(12,⟨[([.reg 38],.bool)],[],false⟩),(13,⟨[],[],true⟩),(20,⟨[],[],true⟩),(23,⟨[([.reg 82],.bool)],[],false⟩)],[]⟩
theorem Qll:JY DV W0 prog 123 k123:=Yj (C:=Jc5) rfl Qx Qj (Qw (tb:=[(122,k122),(125,k125),(144,k144),(145,k145)]) Qj ⟨Qbq,Qlj,Qxi,Qlf,trivial⟩) Jx func123 J2o J94 k123 rfl (λv=>by kernel_rfl)
theorem J66:Qb prog 78:=enters_of func78 (by kernel_rfl) rfl
def J55(a0:Int):Option (Int):=Option.bind (cond ((a0==8)) (some (a0==8)) (some (a0==11))) λ(v1:Bool)=>cond v1 (some 3) (Option.bind (cond ((a0==9)) (some (a0==9)) (some (a0==10))) λ(v2:Bool)=>cond v2 (some 1) (some 2))
def k78:KF UV:=⟨[.int .i64],[.int .i64],λv=>J55 v⟩
def J9s:Hints UV:=⟨[(4,⟨[([.reg 4],.bool)],[],false⟩),(9,⟨[([.reg 7],.bool)],[],false⟩)],[]⟩
theorem Qsi:JY DV W0 prog 78 k78:=Yj (C:=Jc5) rfl Qx Qj (Qw (tb:=[]) Qj trivial) Jx func78 J66 J9s k78 rfl (λv=>by kernel_rfl)
theorem J6a:Qb prog 74:=enters_of func74 (by kernel_rfl) rfl
def Qrt(b:Rdr):Option ((Rdr×((List UInt8)))⊕(Unit×Rdr)):=Option.bind (QT b.l b.n) λ(x1:Tkn)=>some (.inl (b,x1.text))
def k74:PF UV:=⟨.stc 127 .t127,[],[.str],.p0 127,λb v=>Qrt b⟩
def J9w:Hints UV:=⟨[],[(1,[])]⟩
theorem UY:Uk DV W0 prog 74 k74:=Wg (C:=Jc5) rfl Qx Qj (Qw (tb:=[]) Qj trivial) Jx func74 J6a J9w k74 rfl rfl (λb v=>by kernel_rfl)
theorem J6c:Qb prog 72:=enters_of func72 (by kernel_rfl) rfl
def J43(b:Rdr)(a1:List UInt8):Option ((Rdr×Bool)⊕(Unit×Rdr)):=Option.bind (Zz (Qrt b)) λ(r1:Rdr×((List UInt8)))=>some (.inl (r1.1,(r1.2==a1)))
def k72:PF UV:=⟨.stc 127 .t127,[.str],[.bool],.p0 127,λb v=>J43 b v⟩
def J9y:Hints UV:=⟨[],[]⟩
theorem J1g:Uk DV W0 prog 72 k72:=Wg (C:=Jc5) rfl Qx Qj (Qw (tb:=[]) Qj trivial) (Kt (tb:=[(74,k74)]) Qj ⟨UY,trivial⟩) func72 J6c J9y k72 rfl rfl (λb v=>by kernel_rfl)
theorem J2n:Qb prog 124:=enters_of func124 (by kernel_rfl) rfl
def Qo3(b:Rdr):Option ((Rdr×Unit)⊕((Int×Int)×Rdr)):=Option.bind (QT b.l b.n) λ(x1:Tkn)=>some (.inr ((4,x1.at_),b))
def k124:PF UV:=⟨.stc 127 .t127,[],[],.p2 69,λb v=>Qo3 b⟩
def J93:Hints UV:=⟨[],[(0,[13])]⟩
theorem Qlk:Uk DV W0 prog 124 k124:=Wg (C:=Jc5) rfl Qx Qj (Qw (tb:=[]) Qj trivial) Jx func124 J2n J93 k124 rfl rfl (λb v=>by kernel_rfl)
theorem J67:Qb prog 77:=enters_of func77 (by kernel_rfl) rfl
def Qeb(b:Rdr)(a1:Bool):Option ((Rdr×Unit)⊕((Int×Int)×Rdr)):=Option.bind (α:=((List Tkn)×Int)⊕((Rdr×Unit)⊕((Int×Int)×Rdr))) (cond ((!a1)) (Option.bind (Qo3 b) (Sum.elim (λ(r4:Rdr×Unit)=>some (.inl (r4.1.l,r4.1.n))) (λ(e5:(Int×Int)×Rdr)=>some (.inr (.inr ((e5.1.1,e5.1.2),e5.2)))))) (some (.inl (b.l,b.n)))) (Sum.elim (λ(v3:(List Tkn)×Int)=>some (.inl ((Rdr.mk v3.1 v3.2),()))) (λ(o6:(Rdr×Unit)⊕((Int×Int)×Rdr))=>some o6))
def k77:PF UV:=⟨.stc 127 .t127,[.bool],[],.p2 69,λb v=>Qeb b v⟩
def J9t:Hints UV:=⟨[(1,⟨[([.at 0 0],.sl .t132),([.at 0 1],.int .i64)],[],true⟩)],[]⟩
theorem Q5r:Uk DV W0 prog 77 k77:=Wg (C:=Jc5) rfl Qx Qj (Qw (tb:=[]) Qj trivial) (Ku (tb:=[(124,k124)]) Qj ⟨Qlk,trivial⟩) func77 J67 J9t k77 rfl rfl (λb v=>by kernel_rfl)
theorem J65:Qb prog 79:=enters_of func79 (by kernel_rfl) rfl
def Qrq(b:Rdr)(a1:List UInt8):Option ((Rdr×Unit)⊕((Int×Int)×Rdr)):=Option.bind (Zz (Qrt b)) λ(r1:Rdr×((List UInt8)))=>Option.bind (Qeb r1.1 (r1.2==a1)) (Sum.elim (λ(r3:Rdr×Unit)=>some (.inl ((Rdr.mk r3.1.l (Qm (r3.1.n+1))),()))) (λ(e4:(Int×Int)×Rdr)=>some (.inr ((e4.1.1,e4.1.2),e4.2))))
def k79:PF UV:=⟨.stc 127 .t127,[.str],[],.p2 69,λb v=>Qrq b v⟩
def J9r:Hints UV:=⟨[],[]⟩
theorem J1d:Uk DV W0 prog 79 k79:=Wg (C:=Jc5) rfl Qx Qj (Qw (tb:=[]) Qj trivial) (GA (Kt (tb:=[(74,k74)]) Qj ⟨UY,trivial⟩) (Ku (tb:=[(77,k77)]) Qj ⟨Q5r,trivial⟩)) func79 J65 J9r k79 rfl rfl (λb v=>by kernel_rfl)
theorem J68:Qb prog 76:=enters_of func76 (by kernel_rfl) rfl
def J0d(b:Rdr):Option ((Rdr×((List UInt8)))⊕((Int×Int)×Rdr)):=Option.bind (Zz (Qrt b)) λ(r1:Rdr×((List UInt8)))=>Option.bind (Q13 r1.2) λ(x3:Bool)=>Option.bind (Qeb r1.1 x3) (Sum.elim (λ(r4:Rdr×Unit)=>some (.inl ((Rdr.mk r4.1.l (Qm (r4.1.n+1))),r1.2))) (λ(e5:(Int×Int)×Rdr)=>some (.inr ((e5.1.1,e5.1.2),e5.2))))
def k76:PF UV:=⟨.stc 127 .t127,[],[.str],.p2 69,λb v=>J0d b⟩
def J9u:Hints UV:=⟨[],[]⟩
theorem Qsj:Uk DV W0 prog 76 k76:=Wg (C:=Jc5) rfl Qx Qj (Qw (tb:=[(110,k110)]) Qj ⟨Qxm,trivial⟩) (GA (Kt (tb:=[(74,k74)]) Qj ⟨UY,trivial⟩) (Ku (tb:=[(77,k77)]) Qj ⟨Q5r,trivial⟩)) func76 J68 J9u k76 rfl rfl (λb v=>by kernel_rfl)
theorem J69:Qb prog 75:=enters_of func75 (by kernel_rfl) rfl
def J0e(b:Rdr):Option ((Rdr×Lvl)⊕((Int×Int)×Rdr)):=Option.bind (Zz (Qrt b)) λ(r1:Rdr×((List UInt8)))=>Option.bind (J5e r1.2 ([91]:List UInt8)) λ(x3:Bool)=>Option.bind (Qeb r1.1 x3) (Sum.elim (λ(r4:Rdr×Unit)=>Q7 (cond (decide (0<=(1:Int))) (cond (Nat.ble (1:Int).toNat (Qm ((r1.2.length:Int)-1)).toNat) (inB (Qm ((r1.2.length:Int)-1)) r1.2.length) false) false) (Option.bind (DF (List.drop (1:Int).toNat (List.take (Qm ((r1.2.length:Int)-1)).toNat r1.2))) λ(x6:Lvl×Int)=>Option.bind (Qeb r4.1 (x6.2==0)) (Sum.elim (λ(r7:Rdr×Unit)=>some (.inl ((Rdr.mk r7.1.l (Qm (r7.1.n+1))),x6.1))) (λ(e8:(Int×Int)×Rdr)=>some (.inr ((e8.1.1,e8.1.2),e8.2)))))) (λ(e5:(Int×Int)×Rdr)=>some (.inr ((e5.1.1,e5.1.2),e5.2))))
def k75:PF UV:=⟨.stc 127 .t127,[],[.stc .t82],.p2 69,λb v=>J0e b⟩
def J9v:Hints UV:=⟨[],[]⟩
theorem J1e:Uk DV W0 prog 75 k75:=Wg (C:=Jc5) rfl Qx Qj (Qw (tb:=[(126,k126),(127,k127)]) Qj ⟨Qxk,Qxj,trivial⟩) (GA (Kt (tb:=[(74,k74)]) Qj ⟨UY,trivial⟩) (Ku (tb:=[(77,k77)]) Qj ⟨Q5r,trivial⟩)) func75 J69 J9v k75 rfl rfl (λb v=>by kernel_rfl)
theorem J6b:Qb prog 73:=enters_of func73 (by kernel_rfl) rfl
def J56(b:Rdr):Option ((Rdr×Tm)⊕((Int×Int)×Rdr)):=Option.bind (Zz (Qrt b)) λ(r1:Rdr×((List UInt8)))=>Option.bind (α:=((List Tkn)×Int)⊕((Rdr×Tm)⊕((Int×Int)×Rdr))) (cond ((r1.2==([]:List UInt8))) (Option.bind (Qo3 r1.1) (Sum.elim (λ(r13:Rdr×Unit)=>some (.inl (r13.1.l,r13.1.n))) (λ(e14:(Int×Int)×Rdr)=>some (.inr (.inr ((e14.1.1,e14.1.2),e14.2)))))) (cond ((r1.2==([112,114,111,112]:List UInt8))) (some (.inr (.inl ((Rdr.mk r1.1.l (Qm (r1.1.n+1))),(Tm.mk 1 0 ([]:List UInt8) ([]) ([])))))) (Option.bind (Option.bind (QT r1.2 0) λ(x18:UInt8)=>cond (((x18.toNat:Int)==35)) (some true) (Option.bind (QT r1.2 0) λ(x19:UInt8)=>some ((x19.toNat:Int)==63))) λ(v17:Bool)=>cond v17 (Q7 (inB (1:Int) r1.2.length) (Option.bind (Q5h (List.drop (1:Int).toNat r1.2)) λ(x20:Int×Bool)=>Option.bind (QT r1.2 0) λ(x21:UInt8)=>cond (((x21.toNat:Int)==63)) (some (.inr (.inl ((Rdr.mk r1.1.l (Qm (r1.1.n+1))),(Tm.mk 12 x20.1 ([]:List UInt8) ([]) ([])))))) (some (.inr (.inl ((Rdr.mk r1.1.l (Qm (r1.1.n+1))),(Tm.mk 0 x20.1 ([]:List UInt8) ([]) ([])))))))) (some (.inl (r1.1.l,r1.1.n)))))) (Sum.elim (λ(v12:(List Tkn)×Int)=>Option.bind (J0d (Rdr.mk v12.1 v12.2)) (Sum.elim (λ(r23:Rdr×((List UInt8)))=>some (.inl (r23.1,(Tm.mk 3 0 r23.2 ([]) ([]))))) (λ(e24:(Int×Int)×Rdr)=>some (.inr ((e24.1.1,e24.1.2),e24.2))))) (λ(o22:(Rdr×Tm)⊕((Int×Int)×Rdr))=>some o22))
def k73:PF UV:=⟨.stc 127 .t127,[],[.stc .t25],.p2 69,λb v=>J56 b⟩
def J9x:Hints UV:=⟨[(4,⟨[([.at 0 0],.sl .t132),([.at 0 1],.int .i64)],[],true⟩),(10,⟨[([.reg 24],.bool)],[],false⟩)],[]⟩
theorem J1f:Uk DV W0 prog 73 k73:=Wg (C:=Jc5) rfl Qx Qj (Qw (tb:=[(125,k125)]) Qj ⟨Qlj,trivial⟩) (GA (Kt (tb:=[(74,k74)]) Qj ⟨UY,trivial⟩) (Ku (tb:=[(76,k76),(124,k124)]) Qj ⟨Qsj,Qlk,trivial⟩)) func73 J6b J9x k73 rfl rfl (λb v=>by kernel_rfl)
theorem J6n:Qb prog 36:=enters_of func36 (by kernel_rfl) rfl
theorem Qti:Qb prog 64:=enters_of func64 (by kernel_rfl) rfl
def J3o:IH UV:=⟨f64,⟨[],[]⟩,.st⟩
def Qrz(rc:Rdr×Unit->Option ((Rdr×Tm)⊕((Int×Int)×Rdr)))(b:Rdr):Option ((Rdr×Tm)⊕((Int×Int)×Rdr)):=Option.bind (Zz (J43 b ([40]:List UInt8))) λ(r1:Rdr×Bool)=>cond ((!r1.2)) (Option.bind (J56 r1.1) (Sum.elim (λ(r3:Rdr×Tm)=>some (.inl (r3.1,r3.2))) (λ(e4:(Int×Int)×Rdr)=>some (.inr ((e4.1.1,e4.1.2),e4.2))))) (Option.bind (Zz (Qrt (Rdr.mk r1.1.l (Qm (r1.1.n+1))))) λ(r5:Rdr×((List UInt8)))=>cond ((r5.2==([115,111,114,116]:List UInt8))) (Option.bind (J0e (Rdr.mk r5.1.l (Qm (r5.1.n+1)))) (Sum.elim (λ(r7:Rdr×Lvl)=>Option.bind (Qrq r7.1 ([41]:List UInt8)) (Sum.elim (λ(r9:Rdr×Unit)=>some (.inl (r9.1,(Tm.mk 2 0 ([]:List UInt8) ([r7.2]:List Lvl) ([]))))) (λ(e10:(Int×Int)×Rdr)=>some (.inr ((e10.1.1,e10.1.2),e10.2))))) (λ(e8:(Int×Int)×Rdr)=>some (.inr ((e8.1.1,e8.1.2),e8.2))))) (cond ((r5.2==([99,111,110,115,116]:List UInt8))) (Option.bind (J0d (Rdr.mk r5.1.l (Qm (r5.1.n+1)))) (Sum.elim (λ(r11:Rdr×((List UInt8)))=>Option.bind (Qa (σ:=(List Tkn)×Int×(List Lvl)) (β:=((List Tkn)×Int×(List Lvl))⊕((Rdr×Tm)⊕((Int×Int)×Rdr))) (λs25=>Option.bind (Zz (J43 (Rdr.mk s25.1 s25.2.1) ([41]:List UInt8))) λ(r27:Rdr×Bool)=>cond ((!r27.2)) (Option.bind (J0e r27.1) (Sum.elim (λ(r29:Rdr×Lvl)=>Q7 (Nat.ble (s25.2.2.length+([r29.2]:List Lvl).length) 1000000000) (some (.next (r29.1.l,r29.1.n,(s25.2.2++([r29.2]:List Lvl)))))) (λ(e30:(Int×Int)×Rdr)=>some (.done (.inr (.inr ((e30.1.1,e30.1.2),e30.2))))))) (some (.done (.inl (r27.1.l,r27.1.n,s25.2.2))))) Qd (r11.1.l,r11.1.n,([]:List Lvl))) (Sum.elim (λ(v26:(List Tkn)×Int×(List Lvl))=>Option.bind (Qrq (Rdr.mk v26.1 v26.2.1) ([41]:List UInt8)) (Sum.elim (λ(r31:Rdr×Unit)=>some (.inl (r31.1,(Tm.mk 3 0 r11.2 v26.2.2 ([]))))) (λ(e32:(Int×Int)×Rdr)=>some (.inr ((e32.1.1,e32.1.2),e32.2))))) (λ(o33:(Rdr×Tm)⊕((Int×Int)×Rdr))=>some o33))) (λ(e12:(Int×Int)×Rdr)=>some (.inr ((e12.1.1,e12.1.2),e12.2))))) (Option.bind (Qa (σ:=Int×Int) (β:=Int) (λs40=>cond ((decide (s40.1<8))) (Option.bind (QT ([([97,112,112]:List UInt8),([108,97,109]:List UInt8),([112,105]:List UInt8),([115,105,103,109,97]:List UInt8),([112,97,105,114]:List UInt8),([102,115,116]:List UInt8),([115,110,100]:List UInt8),([108,101,116]:List UInt8)]:List (List UInt8)) s40.1) λ(x42:List UInt8)=>Option.bind (cond ((x42==r5.2)) (some (Qm (4+s40.1))) (some s40.2)) λ(v43:Int)=>some (.next ((Qm (s40.1+1)),v43))) (some (.done s40.2))) Qd (0,0)) λ(v41:Int)=>Option.bind (Qeb r5.1 (v41 != 0)) (Sum.elim (λ(r44:Rdr×Unit)=>Option.bind (J55 v41) λ(x46:Int)=>Option.bind (Qa (σ:=Int×(List Tkn)×Int×(List Tm)) (β:=((List Tkn)×Int×(List Tm))⊕((Rdr×Tm)⊕((Int×Int)×Rdr))) (λs53=>cond ((decide (s53.1<x46))) (Option.bind (rc ((Rdr.mk s53.2.1 s53.2.2.1),())) (Sum.elim (λ(r55:Rdr×Tm)=>Q7 (Nat.ble (s53.2.2.2.length+([r55.2]:List Tm).length) 1000000000) (some (.next ((Qm (s53.1+1)),r55.1.l,r55.1.n,(s53.2.2.2++([r55.2]:List Tm)))))) (λ(e56:(Int×Int)×Rdr)=>some (.done (.inr (.inr ((e56.1.1,e56.1.2),e56.2))))))) (some (.done (.inl (s53.2.1,s53.2.2.1,s53.2.2.2))))) Qd (0,r44.1.l,(Qm (r44.1.n+1)),([]:List Tm))) (Sum.elim (λ(v54:(List Tkn)×Int×(List Tm))=>Option.bind (Qrq (Rdr.mk v54.1 v54.2.1) ([41]:List UInt8)) (Sum.elim (λ(r57:Rdr×Unit)=>some (.inl (r57.1,(Tm.mk v41 0 ([]:List UInt8) ([]) v54.2.2)))) (λ(e58:(Int×Int)×Rdr)=>some (.inr ((e58.1.1,e58.1.2),e58.2))))) (λ(o59:(Rdr×Tm)⊕((Int×Int)×Rdr))=>some o59))) (λ(e45:(Int×Int)×Rdr)=>some (.inr ((e45.1.1,e45.1.2),e45.2)))))))
def J87:Rdr×Unit->Option ((Rdr×Tm)⊕((Int×Int)×Rdr)):=Jo (λrc v=>Qrz rc v.1) Qd
def J7n(b:Rdr):Option ((Rdr×Tm)⊕((Int×Int)×Rdr)):=J87 (b,())
def k36:PF UV:=⟨.stc 127 .t127,[],[.stc .t25],.p2 69,λb v=>J7n b⟩
def Ja2:Hints UV:=⟨[(17,⟨[([.at 0 0],.sl .t132),([.at 0 1],.int .i64),([.at 3 3],.app 82 .t82)],[([.at 0 0],.sl .t132),([.at 0 1],.int .i64),([.at 3 3],.app 82 .t82)],true⟩),(23,⟨[([.reg 24],.int .i64),([.at 3 0],.int .i64)],[([.at 3 0],.int .i64)],false⟩),(29,⟨[([.at 3 0],.int .i64)],[],false⟩),(35,⟨[([.reg 50],.int .i64),([.at 0 0],.sl .t132),([.at 0 1],.int .i64),([.at 3 4],.app 25 .t25)],[([.at 0 0],.sl .t132),([.at 0 1],.int .i64),([.at 3 4],.app 25 .t25)],true⟩)],[(21,[3,4,5,7]),(39,[3,4,5,7])]⟩
theorem Qxd(rc:Rdr×Unit->Option ((Rdr×Tm)⊕((Int×Int)×Rdr)))(H:∀(u:Rdr×Unit)(r:(Rdr×Tm)⊕((Int×Int)×Rdr)),rc u=some r->CallO W0 prog 36 (.one (.ptr 0 0)::QE DV k36.args u.2) ((Q7r k36.bx u.1).er DV) (Qr3 DV k36.bx k36.res k36.pk r)):Uk DV W0 prog 36 ⟨k36.bx,k36.args,k36.res,k36.pk,λb v=>Qrz rc b⟩:=Wg (C:=Jc5) rfl Qx Qj (Qw (tb:=[(78,k78)]) Qj ⟨Qsi,trivial⟩) (Gr (C:=Jc5) rfl Qx Qj (Qw (tb:=[(78,k78)]) Qj ⟨Qsi,trivial⟩) (GA (Kt (tb:=[(72,k72),(74,k74)]) Qj ⟨J1g,UY,trivial⟩) (Ku (tb:=[(36,(⟨k36.bx,k36.args,k36.res,k36.pk,λb v=>rc (b,v)⟩:PF UV)),(73,k73),(75,k75),(76,k76),(77,k77),(79,k79)]) Qj ⟨⟨⟨rfl,rfl⟩,λb v y h=>H (b,v) y h⟩,J1f,J1e,Qsj,Q5r,J1d,trivial⟩)) (I:=[(64,J3o)]) ⟨⟨func64,Qti⟩,trivial⟩ 8) func36 J6n Ja2 _ rfl rfl (λb v=>by kernel_rfl)
theorem J1i:Uk DV W0 prog 36 k36:=⟨⟨rfl,rfl⟩,λb v r h=>KY (C:=λ(u:Rdr×Unit)(r:(Rdr×Tm)⊕((Int×Int)×Rdr))=>CallO W0 prog 36 (.one (.ptr 0 0)::QE DV k36.args u.2) ((Q7r k36.bx u.1).er DV) (Qr3 DV k36.bx k36.res k36.pk r)) (λrc H u r h=>(Qxd rc H).2 u.1 u.2 r h) Qd (b,v) r h⟩
theorem J6m:Qb prog 37:=enters_of func37 (by kernel_rfl) rfl
def J59(b:Rdr)(a1:List UInt8):Option ((Rdr×Unit)⊕((Int×Int)×Rdr)):=Option.bind (α:=((List Tkn)×Int)⊕((Rdr×Unit)⊕((Int×Int)×Rdr))) (Option.bind (Zz (Qrt b)) λ(r9:Rdr×((List UInt8)))=>cond ((r9.2==([]:List UInt8))) (Option.bind (QT r9.1.l r9.1.n) λ(x11:Tkn)=>Option.bind (Qeb r9.1 (x11.at_==(a1.length:Int))) (Sum.elim (λ(r12:Rdr×Unit)=>some (.inl (r12.1.l,r12.1.n))) (λ(e13:(Int×Int)×Rdr)=>some (.inr (.inr ((e13.1.1,e13.1.2),e13.2)))))) (Option.bind (Qeb r9.1 false) (Sum.elim (λ(r14:Rdr×Unit)=>some (.inl (r14.1.l,r14.1.n))) (λ(e15:(Int×Int)×Rdr)=>some (.inr (.inr ((e15.1.1,e15.1.2),e15.2))))))) (Sum.elim (λ(v8:(List Tkn)×Int)=>some (.inl ((Rdr.mk v8.1 v8.2),()))) (λ(o16:(Rdr×Unit)⊕((Int×Int)×Rdr))=>some o16))
def k37:PF UV:=⟨.stc 127 .t127,[.str],[],.p2 69,λb v=>J59 b v⟩
def Ja1:Hints UV:=⟨[(0,⟨[([.at 0 0],.sl .t132),([.at 0 1],.int .i64)],[],true⟩)],[(0,[2,20])]⟩
theorem J1h:Uk DV W0 prog 37 k37:=Wg (C:=Jc5) rfl Qx Qj (Qw (tb:=[]) Qj trivial) (GA (Kt (tb:=[(74,k74)]) Qj ⟨UY,trivial⟩) (Ku (tb:=[(77,k77)]) Qj ⟨Q5r,trivial⟩)) func37 J6m Ja1 k37 rfl rfl (λb v=>by kernel_rfl)
theorem J2h:Qb prog 139:=enters_of func139 (by kernel_rfl) rfl
def Qho(a0:List UInt8)(a1:Int)(a2:Int):Option ((List UInt8)):=Option.bind (Qrw a1) λ(x1:(List UInt8))=>Q7 (Nat.ble (a0.length+x1.length) 1000000000) (Option.bind (cond ((decide (0<a2))) (Option.bind (Qrw a2) λ(x4:(List UInt8))=>Q7 (Nat.ble (([32,43,32]:List UInt8).length+x4.length) 1000000000) (Q7 (Nat.ble ((a0++x1).length+(([32,43,32]:List UInt8)++x4).length) 1000000000) (some ((a0++x1)++(([32,43,32]:List UInt8)++x4))))) (some (a0++x1))) λ(v3:(List UInt8))=>some v3)
def k139:KF UV:=⟨[.str,.int .i64,.int .i64],[.str],λv=>Qho v.1 v.2.1 v.2.2⟩
def J91:Hints UV:=⟨[(3,⟨[([.reg 7],.str)],[],false⟩)],[]⟩
theorem Qlh:JY DV W0 prog 139 k139:=Yj (C:=Jc5) rfl Qx Qj (Qw (tb:=[(62,k62)]) Qj ⟨UZ,trivial⟩) Jx func139 J2h J91 k139 rfl (λv=>by kernel_rfl)
theorem J2r:Qb prog 114:=enters_of func114 (by kernel_rfl) rfl
theorem J2g:Qb prog 140:=enters_of func140 (by kernel_rfl) rfl
theorem J26:Qb prog 163:=enters_of func163 (by kernel_rfl) rfl
def Qv3:IH UV:=⟨f140,⟨[],[]⟩,.st⟩
def Qv2:IH UV:=⟨f163,⟨[(1,⟨[([.reg 3],.int .i64),([.fat 0 4 0],.app 9 .t9)],[([.fat 0 4 0],.app 9 .t9)],false⟩),(4,⟨[([.fat 0 4 0],.app 9 .t9)],[],false⟩)],[]⟩,.st⟩
def Qx1(a0:Lvl):Option ((List UInt8)×Int):=Option.bind (Q7l a0) λ(x1:Bool)=>cond ((!x1)) (some (([]:List UInt8),3)) (Option.bind (cond ((decide (0<a0.c))) (some true) (some ((a0.vs.length:Int)==0))) λ(v2:Bool)=>Option.bind (cond v2 (Option.bind (Qrw a0.c) λ(x5:(List UInt8))=>Q7 (Nat.ble (([]:List ((List UInt8))).length+([x5]:List ((List UInt8))).length) 1000000000) (some (([]:List ((List UInt8)))++([x5]:List ((List UInt8)))))) (some ([]:List ((List UInt8))))) λ(v4:(List ((List UInt8))))=>Option.bind (Qa (σ:=Int×(List ((List UInt8)))) (β:=(List ((List UInt8)))) (λs12=>cond ((decide (s12.1<(a0.vs.length:Int)))) (Option.bind (QT a0.vs s12.1) λ(x14:Jc0)=>cond ((decide (0<=x14.1))) (Option.bind (Qho ([117]:List UInt8) x14.1 x14.2) λ(x15:(List UInt8))=>Q7 (Nat.ble (s12.2.length+([x15]:List ((List UInt8))).length) 1000000000) (some (.next ((Qm (s12.1+1)),(s12.2++([x15]:List ((List UInt8)))))))) (some (.next ((Qm (s12.1+1)),s12.2)))) (some (.done s12.2))) Qd (0,v4)) λ(v13:(List ((List UInt8))))=>Option.bind (Qa (σ:=Int×(List ((List UInt8)))) (β:=(List ((List UInt8)))) (λs31=>cond ((decide (0<=s31.1))) (Option.bind (Option.bind (QT a0.vs s31.1) λ(x36:Jc0)=>cond ((decide (x36.1<0))) (Option.bind (Qho ([63]:List UInt8) (Qm ((-1)-x36.1)) x36.2) λ(x37:(List UInt8))=>Q7 (Nat.ble (s31.2.length+([x37]:List ((List UInt8))).length) 1000000000) (some (s31.2++([x37]:List ((List UInt8)))))) (some s31.2)) λ(v35:(List ((List UInt8))))=>some (.next ((Qm (s31.1-1)),v35))) (some (.done s31.2))) Qd ((Qm ((a0.vs.length:Int)-1)),v13)) λ(v32:(List ((List UInt8))))=>cond (((v32.length:Int)==1)) (Option.bind (QT v32 0) λ(x38:(List UInt8))=>some (x38,0)) (Option.bind (J5d v32 ([44,32]:List UInt8)) λ(x39:(List UInt8))=>Q7 (Nat.ble (([109,97,120,40]:List UInt8).length+x39.length) 1000000000) (Q7 (Nat.ble ((([109,97,120,40]:List UInt8)++x39).length+([41]:List UInt8).length) 1000000000) (some (((([109,97,120,40]:List UInt8)++x39)++([41]:List UInt8)),0)))))
def k114:KF UV:=⟨[.stc .t82],[.str,.int .i64],λv=>Qx1 v⟩
def J95:Hints UV:=⟨[(5,⟨[([.reg 20],.bool)],[],false⟩),(6,⟨[([.at 4 0],.app 9 .t9)],[],false⟩),(9,⟨[([.reg 30],.int .i64),([.at 4 0],.app 9 .t9)],[([.at 4 0],.app 9 .t9)],false⟩)],[(7,[4,5,6]),(16,[6,7,8]),(24,[7,8,9])]⟩
theorem Qxl:JY DV W0 prog 114 k114:=Yj (C:=Jc5) rfl Qx Qj (Qw (tb:=[(62,k62),(136,k136),(139,k139),(141,k141)]) Qj ⟨UZ,Qli,Qlh,Qlg,trivial⟩) (Gr (C:=Jc5) rfl Qx Qj (Qw (tb:=[(62,k62),(136,k136),(139,k139),(141,k141)]) Qj ⟨UZ,Qli,Qlh,Qlg,trivial⟩) Jx (I:=[(140,Qv3),(163,Qv2)]) ⟨⟨func140,J2g⟩,⟨func163,J26⟩,trivial⟩ 8) func114 J2r J95 k114 rfl (λv=>by kernel_rfl)
theorem J6e:Qb prog 63:=enters_of func63 (by kernel_rfl) rfl
def Qz1(a0:Lvl):Option ((List UInt8)):=Option.bind (Qx1 a0) λ(x1:(List UInt8)×Int)=>Q7 (Nat.ble (([91]:List UInt8).length+x1.1.length) 1000000000) (Q7 (Nat.ble ((([91]:List UInt8)++x1.1).length+([93]:List UInt8).length) 1000000000) (some ((([91]:List UInt8)++x1.1)++([93]:List UInt8))))
def k63:KF UV:=⟨[.stc .t82],[.str],λv=>Qz1 v⟩
def J9z:Hints UV:=⟨[],[]⟩
theorem Qbo:JY DV W0 prog 63 k63:=Yj (C:=Jc5) rfl Qx Qj (Qw (tb:=[(114,k114)]) Qj ⟨Qxl,trivial⟩) Jx func63 J6e J9z k63 rfl (λv=>by kernel_rfl)
theorem Qz8:Qb prog 28:=enters_of func28 (by kernel_rfl) rfl
theorem Qz7:Qb prog 61:=enters_of func61 (by kernel_rfl) rfl
def J3r:IH UV:=⟨f61,⟨[],[]⟩,.st⟩
def J3p:IH UV:=⟨f64,⟨[],[]⟩,.st⟩
def Qhe(rc:(List Byt)×Tm->Option (((List Byt)×Unit)⊕(Unit×(List Byt))))(b:List Byt)(a1:Tm):Option (((List Byt)×Unit)⊕(Unit×(List Byt))):=Option.bind (α:=((List Byt))⊕(((List Byt)×Unit)⊕(Unit×(List Byt)))) (cond ((a1.kind==0)) (Option.bind (Qrw a1.index) λ(x467:(List UInt8))=>Q7 (Nat.ble (([35]:List UInt8).length+x467.length) 1000000000) (Q7 (Nat.ble (b.length+(([35]:List UInt8)++x467).length) 1000000000) (some (.inl (b++(List.map (λb:UInt8=>(⟨b.toNat⟩:Byt)) (([35]:List UInt8)++x467))))))) (Option.bind (α:=((List Byt))⊕(((List Byt)×Unit)⊕(Unit×(List Byt)))) (cond ((a1.kind==12)) (Option.bind (Qrw a1.index) λ(x700:(List UInt8))=>Q7 (Nat.ble (([63]:List UInt8).length+x700.length) 1000000000) (Q7 (Nat.ble (b.length+(([63]:List UInt8)++x700).length) 1000000000) (some (.inl (b++(List.map (λb:UInt8=>(⟨b.toNat⟩:Byt)) (([63]:List UInt8)++x700))))))) (Option.bind (α:=((List Byt))⊕(((List Byt)×Unit)⊕(Unit×(List Byt)))) (cond ((a1.kind==1)) (Q7 (Nat.ble (b.length+([112,114,111,112]:List UInt8).length) 1000000000) (some (.inl (b++(List.map (λb:UInt8=>(⟨b.toNat⟩:Byt)) ([112,114,111,112]:List UInt8)))))) (Option.bind (α:=((List Byt))⊕(((List Byt)×Unit)⊕(Unit×(List Byt)))) (cond ((a1.kind==2)) (Option.bind (QT a1.levels 0) λ(x873:Lvl)=>Option.bind (Qz1 x873) λ(x874:(List UInt8))=>Q7 (Nat.ble (([40,115,111,114,116,32]:List UInt8).length+x874.length) 1000000000) (Q7 (Nat.ble ((([40,115,111,114,116,32]:List UInt8)++x874).length+([41]:List UInt8).length) 1000000000) (Q7 (Nat.ble (b.length+((([40,115,111,114,116,32]:List UInt8)++x874)++([41]:List UInt8)).length) 1000000000) (some (.inl (b++(List.map (λb:UInt8=>(⟨b.toNat⟩:Byt)) ((([40,115,111,114,116,32]:List UInt8)++x874)++([41]:List UInt8))))))))) (Option.bind (α:=((List Byt))⊕(((List Byt)×Unit)⊕(Unit×(List Byt)))) (cond ((a1.kind==3)) (Option.bind (cond (((a1.levels.length:Int)==0)) (some (!(a1.name==([112,114,111,112]:List UInt8)))) (some false)) λ(v902:Bool)=>cond v902 (Q7 (Nat.ble (b.length+a1.name.length) 1000000000) (some (.inr (.inl ((b++(List.map (λb:UInt8=>(⟨b.toNat⟩:Byt)) a1.name)),()))))) (Q7 (Nat.ble (([40,99,111,110,115,116,32]:List UInt8).length+a1.name.length) 1000000000) (Q7 (Nat.ble (b.length+(([40,99,111,110,115,116,32]:List UInt8)++a1.name).length) 1000000000) (Option.bind (Qa (σ:=Int×(List Byt)) (β:=(List Byt)) (λs909=>cond ((decide (s909.1<(a1.levels.length:Int)))) (Option.bind (QT a1.levels s909.1) λ(x911:Lvl)=>Option.bind (Qz1 x911) λ(x912:(List UInt8))=>Q7 (Nat.ble (([32]:List UInt8).length+x912.length) 1000000000) (Q7 (Nat.ble (s909.2.length+(([32]:List UInt8)++x912).length) 1000000000) (some (.next ((Qm (s909.1+1)),(s909.2++(List.map (λb:UInt8=>(⟨b.toNat⟩:Byt)) (([32]:List UInt8)++x912)))))))) (some (.done s909.2))) Qd (0,(b++(List.map (λb:UInt8=>(⟨b.toNat⟩:Byt)) (([40,99,111,110,115,116,32]:List UInt8)++a1.name))))) λ(v910:(List Byt))=>Q7 (Nat.ble (v910.length+([41]:List UInt8).length) 1000000000) (some (.inl (v910++(List.map (λb:UInt8=>(⟨b.toNat⟩:Byt)) ([41]:List UInt8))))))))) (Option.bind (QT ([([97,112,112]:List UInt8),([108,97,109]:List UInt8),([112,105]:List UInt8),([115,105,103,109,97]:List UInt8),([112,97,105,114]:List UInt8),([102,115,116]:List UInt8),([115,110,100]:List UInt8),([108,101,116]:List UInt8)]:List (List UInt8)) (Qm (a1.kind-4))) λ(x913:List UInt8)=>Q7 (Nat.ble (([40]:List UInt8).length+x913.length) 1000000000) (Q7 (Nat.ble (b.length+(([40]:List UInt8)++x913).length) 1000000000) (Option.bind (Qa (σ:=Int×(List Byt)) (β:=(List Byt)) (λs923=>cond ((decide (s923.1<(a1.kids.length:Int)))) (Option.bind (QT a1.kids s923.1) λ(x925:Tm)=>Q7 (Nat.ble (s923.2.length+([32]:List UInt8).length) 1000000000) (Option.bind (Zz (rc ((s923.2++(List.map (λb:UInt8=>(⟨b.toNat⟩:Byt)) ([32]:List UInt8))),x925))) λ(r926:(List Byt)×Unit)=>some (.next ((Qm (s923.1+1)),r926.1)))) (some (.done s923.2))) Qd (0,(b++(List.map (λb:UInt8=>(⟨b.toNat⟩:Byt)) (([40]:List UInt8)++x913))))) λ(v924:(List Byt))=>Q7 (Nat.ble (v924.length+([41]:List UInt8).length) 1000000000) (some (.inl (v924++(List.map (λb:UInt8=>(⟨b.toNat⟩:Byt)) ([41]:List UInt8))))))))) (Sum.elim (λ(v901:(List Byt))=>some (.inl v901)) (λ(o928:((List Byt)×Unit)⊕(Unit×(List Byt)))=>some (.inr o928))))) (Sum.elim (λ(v872:(List Byt))=>some (.inl v872)) (λ(o929:((List Byt)×Unit)⊕(Unit×(List Byt)))=>some (.inr o929))))) (Sum.elim (λ(v815:(List Byt))=>some (.inl v815)) (λ(o930:((List Byt)×Unit)⊕(Unit×(List Byt)))=>some (.inr o930))))) (Sum.elim (λ(v699:(List Byt))=>some (.inl v699)) (λ(o931:((List Byt)×Unit)⊕(Unit×(List Byt)))=>some (.inr o931))))) (Sum.elim (λ(v466:(List Byt))=>some (.inl (v466,()))) (λ(o932:((List Byt)×Unit)⊕(Unit×(List Byt)))=>some o932))
def J5b:(List Byt)×Tm->Option (((List Byt)×Unit)⊕(Unit×(List Byt))):=Jo (λrc v=>Qhe rc v.1 v.2) Qd
def J8a(b:List Byt)(a1:Tm):Option (((List Byt)×Unit)⊕(Unit×(List Byt))):=J5b (b,a1)
def k28:PF UV:=⟨.bld 62 5 .t5,[.stc .t25],[],.p0 62,λb v=>J8a b v⟩
def Ja3:Hints UV:=⟨[(4,⟨[([.at 0 1],.app 5 .t5)],[],true⟩),(7,⟨[([.at 0 1],.app 5 .t5)],[],true⟩),(10,⟨[([.at 0 1],.app 5 .t5)],[],true⟩),(13,⟨[([.at 0 1],.app 5 .t5)],[],true⟩),(16,⟨[([.at 0 1],.app 5 .t5)],[],true⟩),(17,⟨[([.reg 74],.bool)],[],false⟩),(22,⟨[([.reg 87],.int .i64),([.at 0 1],.app 5 .t5)],[([.at 0 1],.app 5 .t5)],false⟩),(32,⟨[([.reg 21],.int .i64),([.at 0 1],.app 5 .t5)],[([.at 0 1],.app 5 .t5)],false⟩)],[(30,[1,7])]⟩
theorem Qxe(rc:(List Byt)×Tm->Option (((List Byt)×Unit)⊕(Unit×(List Byt))))(H:∀(u:(List Byt)×Tm)(r:((List Byt)×Unit)⊕(Unit×(List Byt))),rc u=some r->CallO W0 prog 28 (.one (.ptr 0 0)::QE DV k28.args u.2) ((Q7r k28.bx u.1).er DV) (Qr3 DV k28.bx k28.res k28.pk r)):Uk DV W0 prog 28 ⟨k28.bx,k28.args,k28.res,k28.pk,λb v=>Qhe rc b v⟩:=Wg (C:=Jc5) rfl Qx Qj (Qw (tb:=[(62,k62),(63,k63)]) Qj ⟨UZ,Qbo,trivial⟩) (Gr (C:=Jc5) rfl Qx Qj (Qw (tb:=[(62,k62),(63,k63)]) Qj ⟨UZ,Qbo,trivial⟩) (GA Qzc (Kt (tb:=[(28,(⟨k28.bx,k28.args,k28.res,k28.pk,λb v=>rc (b,v)⟩:PF UV))]) Qj ⟨⟨⟨rfl,rfl⟩,λb v y h=>H (b,v) y h⟩,trivial⟩)) (I:=[(61,J3r),(64,J3p)]) ⟨⟨func61,Qz7⟩,⟨func64,Qti⟩,trivial⟩ 8) func28 Qz8 Ja3 _ rfl rfl (λb v=>by kernel_rfl)
theorem J1j:Uk DV W0 prog 28 k28:=⟨⟨rfl,rfl⟩,λb v r h=>KY (C:=λ(u:(List Byt)×Tm)(r:((List Byt)×Unit)⊕(Unit×(List Byt)))=>CallO W0 prog 28 (.one (.ptr 0 0)::QE DV k28.args u.2) ((Q7r k28.bx u.1).er DV) (Qr3 DV k28.bx k28.res k28.pk r)) (λrc H u r h=>(Qxe rc H).2 u.1 u.2 r h) Qd (b,v) r h⟩
theorem J6y:Qb prog 13:=enters_of func13 (by kernel_rfl) rfl
theorem J6s:Qb prog 29:=enters_of func29 (by kernel_rfl) rfl
def J3z:IH UV:=⟨f28,⟨[(17,⟨[([.reg 74],.bool)],[],false⟩),(22,⟨[([.reg 87],.int .i64),([.at 0 1],.app 5 .t5)],[([.at 0 1],.app 5 .t5)],false⟩),(32,⟨[([.reg 21],.int .i64),([.at 0 1],.app 5 .t5)],[([.at 0 1],.app 5 .t5)],false⟩)],[(30,[1,7])]⟩,.st⟩
def J3y:IH UV:=⟨f29,⟨[],[]⟩,.lab [([.reg 2],.int .i64)]⟩
def J3s:IH UV:=⟨f61,⟨[],[]⟩,.st⟩
def J3q:IH UV:=⟨f64,⟨[],[]⟩,.st⟩
def Qs5(a0:Tm):Option ((List UInt8)×Int):=Option.bind (J0x a0 1000000 1000000 1000000 1000000) λ(x1:Int)=>cond ((x1 != 0)) (some (([]:List UInt8),x1)) (cond ((a0.kind==0)) (Option.bind (Qrw a0.index) λ(x2:(List UInt8))=>Q7 (Nat.ble (([35]:List UInt8).length+x2.length) 1000000000) (Q7 (Nat.ble (([35]:List UInt8)++x2).length 1000000000) (Option.bind (some ((List.map (λb:UInt8=>(⟨b.toNat⟩:Byt)) (([35]:List UInt8)++x2)).length:Int)) λ(v3:Int)=>cond ((decide (65536<v3))) (some (([]:List UInt8),5)) (Q7 (cond (List.all (List.map (λb:UInt8=>(⟨b.toNat⟩:Byt)) (([35]:List UInt8)++x2)) (λx:Byt=>cond (decide (0<=x.n)) (decide (x.n<256)) false)) (!(List.isEmpty (List.map (λb:UInt8=>(⟨b.toNat⟩:Byt)) (([35]:List UInt8)++x2)))) false) (some ((List.map Byt.u8 (List.map (λb:UInt8=>(⟨b.toNat⟩:Byt)) (([35]:List UInt8)++x2))),0)))))) (cond ((a0.kind==12)) (Option.bind (Qrw a0.index) λ(x4:(List UInt8))=>Q7 (Nat.ble (([63]:List UInt8).length+x4.length) 1000000000) (Q7 (Nat.ble (([63]:List UInt8)++x4).length 1000000000) (Option.bind (some ((List.map (λb:UInt8=>(⟨b.toNat⟩:Byt)) (([63]:List UInt8)++x4)).length:Int)) λ(v5:Int)=>cond ((decide (65536<v5))) (some (([]:List UInt8),5)) (Q7 (cond (List.all (List.map (λb:UInt8=>(⟨b.toNat⟩:Byt)) (([63]:List UInt8)++x4)) (λx:Byt=>cond (decide (0<=x.n)) (decide (x.n<256)) false)) (!(List.isEmpty (List.map (λb:UInt8=>(⟨b.toNat⟩:Byt)) (([63]:List UInt8)++x4)))) false) (some ((List.map Byt.u8 (List.map (λb:UInt8=>(⟨b.toNat⟩:Byt)) (([63]:List UInt8)++x4))),0)))))) (cond ((a0.kind==1)) (Q7 (Nat.ble ([112,114,111,112]:List UInt8).length 1000000000) (Option.bind (some ((List.map (λb:UInt8=>(⟨b.toNat⟩:Byt)) ([112,114,111,112]:List UInt8)).length:Int)) λ(v6:Int)=>cond ((decide (65536<v6))) (some (([]:List UInt8),5)) (Q7 (cond (List.all (List.map (λb:UInt8=>(⟨b.toNat⟩:Byt)) ([112,114,111,112]:List UInt8)) (λx:Byt=>cond (decide (0<=x.n)) (decide (x.n<256)) false)) (!(List.isEmpty (List.map (λb:UInt8=>(⟨b.toNat⟩:Byt)) ([112,114,111,112]:List UInt8)))) false) (some ((List.map Byt.u8 (List.map (λb:UInt8=>(⟨b.toNat⟩:Byt)) ([112,114,111,112]:List UInt8))),0))))) (cond ((a0.kind==2)) (Option.bind (QT a0.levels 0) λ(x7:Lvl)=>Option.bind (Qz1 x7) λ(x8:(List UInt8))=>Q7 (Nat.ble (([40,115,111,114,116,32]:List UInt8).length+x8.length) 1000000000) (Q7 (Nat.ble ((([40,115,111,114,116,32]:List UInt8)++x8).length+([41]:List UInt8).length) 1000000000) (Q7 (Nat.ble ((([40,115,111,114,116,32]:List UInt8)++x8)++([41]:List UInt8)).length 1000000000) (Option.bind (some ((List.map (λb:UInt8=>(⟨b.toNat⟩:Byt)) ((([40,115,111,114,116,32]:List UInt8)++x8)++([41]:List UInt8))).length:Int)) λ(v9:Int)=>cond ((decide (65536<v9))) (some (([]:List UInt8),5)) (Q7 (cond (List.all (List.map (λb:UInt8=>(⟨b.toNat⟩:Byt)) ((([40,115,111,114,116,32]:List UInt8)++x8)++([41]:List UInt8))) (λx:Byt=>cond (decide (0<=x.n)) (decide (x.n<256)) false)) (!(List.isEmpty (List.map (λb:UInt8=>(⟨b.toNat⟩:Byt)) ((([40,115,111,114,116,32]:List UInt8)++x8)++([41]:List UInt8))))) false) (some ((List.map Byt.u8 (List.map (λb:UInt8=>(⟨b.toNat⟩:Byt)) ((([40,115,111,114,116,32]:List UInt8)++x8)++([41]:List UInt8)))),0))))))) (cond ((a0.kind==3)) (Option.bind (cond (((a0.levels.length:Int)==0)) (some (!(a0.name==([112,114,111,112]:List UInt8)))) (some false)) λ(v10:Bool)=>cond v10 (Q7 (Nat.ble a0.name.length 1000000000) (Option.bind (some ((List.map (λb:UInt8=>(⟨b.toNat⟩:Byt)) a0.name).length:Int)) λ(v11:Int)=>cond ((decide (65536<v11))) (some (([]:List UInt8),5)) (Q7 (cond (List.all (List.map (λb:UInt8=>(⟨b.toNat⟩:Byt)) a0.name) (λx:Byt=>cond (decide (0<=x.n)) (decide (x.n<256)) false)) (!(List.isEmpty (List.map (λb:UInt8=>(⟨b.toNat⟩:Byt)) a0.name))) false) (some ((List.map Byt.u8 (List.map (λb:UInt8=>(⟨b.toNat⟩:Byt)) a0.name)),0))))) (Q7 (Nat.ble (([40,99,111,110,115,116,32]:List UInt8).length+a0.name.length) 1000000000) (Q7 (Nat.ble (([40,99,111,110,115,116,32]:List UInt8)++a0.name).length 1000000000) (Option.bind (Qa (σ:=Int×(List Byt)) (β:=(List Byt)) (λs18=>cond ((decide (s18.1<(a0.levels.length:Int)))) (Option.bind (QT a0.levels s18.1) λ(x20:Lvl)=>Option.bind (Qz1 x20) λ(x21:(List UInt8))=>Q7 (Nat.ble (([32]:List UInt8).length+x21.length) 1000000000) (Q7 (Nat.ble (s18.2.length+(([32]:List UInt8)++x21).length) 1000000000) (some (.next ((Qm (s18.1+1)),(s18.2++(List.map (λb:UInt8=>(⟨b.toNat⟩:Byt)) (([32]:List UInt8)++x21)))))))) (some (.done s18.2))) Qd (0,(List.map (λb:UInt8=>(⟨b.toNat⟩:Byt)) (([40,99,111,110,115,116,32]:List UInt8)++a0.name)))) λ(v19:(List Byt))=>Q7 (Nat.ble (v19.length+([41]:List UInt8).length) 1000000000) (Option.bind (some ((v19++(List.map (λb:UInt8=>(⟨b.toNat⟩:Byt)) ([41]:List UInt8))).length:Int)) λ(v22:Int)=>cond ((decide (65536<v22))) (some (([]:List UInt8),5)) (Q7 (cond (List.all (v19++(List.map (λb:UInt8=>(⟨b.toNat⟩:Byt)) ([41]:List UInt8))) (λx:Byt=>cond (decide (0<=x.n)) (decide (x.n<256)) false)) (!(List.isEmpty (v19++(List.map (λb:UInt8=>(⟨b.toNat⟩:Byt)) ([41]:List UInt8))))) false) (some ((List.map Byt.u8 (v19++(List.map (λb:UInt8=>(⟨b.toNat⟩:Byt)) ([41]:List UInt8)))),0)))))))) (Option.bind (QT ([([97,112,112]:List UInt8),([108,97,109]:List UInt8),([112,105]:List UInt8),([115,105,103,109,97]:List UInt8),([112,97,105,114]:List UInt8),([102,115,116]:List UInt8),([115,110,100]:List UInt8),([108,101,116]:List UInt8)]:List (List UInt8)) (Qm (a0.kind-4))) λ(x23:List UInt8)=>Q7 (Nat.ble (([40]:List UInt8).length+x23.length) 1000000000) (Q7 (Nat.ble (([40]:List UInt8)++x23).length 1000000000) (Option.bind (Qa (σ:=Int×(List Byt)) (β:=(List Byt)) (λs33=>cond ((decide (s33.1<(a0.kids.length:Int)))) (Option.bind (QT a0.kids s33.1) λ(x35:Tm)=>Q7 (Nat.ble (s33.2.length+([32]:List UInt8).length) 1000000000) (Option.bind (Zz (J8a (s33.2++(List.map (λb:UInt8=>(⟨b.toNat⟩:Byt)) ([32]:List UInt8))) x35)) λ(r36:(List Byt)×Unit)=>some (.next ((Qm (s33.1+1)),r36.1)))) (some (.done s33.2))) Qd (0,(List.map (λb:UInt8=>(⟨b.toNat⟩:Byt)) (([40]:List UInt8)++x23)))) λ(v34:(List Byt))=>Q7 (Nat.ble (v34.length+([41]:List UInt8).length) 1000000000) (Option.bind (some ((v34++(List.map (λb:UInt8=>(⟨b.toNat⟩:Byt)) ([41]:List UInt8))).length:Int)) λ(v38:Int)=>cond ((decide (65536<v38))) (some (([]:List UInt8),5)) (Q7 (cond (List.all (v34++(List.map (λb:UInt8=>(⟨b.toNat⟩:Byt)) ([41]:List UInt8))) (λx:Byt=>cond (decide (0<=x.n)) (decide (x.n<256)) false)) (!(List.isEmpty (v34++(List.map (λb:UInt8=>(⟨b.toNat⟩:Byt)) ([41]:List UInt8))))) false) (some ((List.map Byt.u8 (v34++(List.map (λb:UInt8=>(⟨b.toNat⟩:Byt)) ([41]:List UInt8)))),0))))))))))))
def k13:KF UV:=⟨[.stc .t25],[.str,.int .i64],λv=>Qs5 v⟩
def Ja8:Hints UV:=⟨[],[]⟩
theorem Qbp:JY DV W0 prog 13 k13:=Yj (C:=Jc5) rfl Qx Qj (Qw (tb:=[(27,k27),(62,k62),(63,k63)]) Qj ⟨Qsl,UZ,Qbo,trivial⟩) (Gr (C:=Jc5) rfl Qx Qj (Qw (tb:=[(27,k27),(62,k62),(63,k63)]) Qj ⟨Qsl,UZ,Qbo,trivial⟩) (GA Qzc (GA J4o (Kt (tb:=[(28,k28)]) Qj ⟨J1j,trivial⟩))) (I:=[(28,J3z),(29,J3y),(61,J3s),(64,J3q)]) ⟨⟨func28,Qz8⟩,⟨func29,J6s⟩,⟨func61,Qz7⟩,⟨func64,Qti⟩,trivial⟩ 8) func13 J6y Ja8 k13 rfl (λv=>by kernel_rfl)
theorem J6x:Qb prog 15:=enters_of func15 (by kernel_rfl) rfl
theorem J6q:Qb prog 33:=enters_of func33 (by kernel_rfl) rfl
theorem J6p:Qb prog 34:=enters_of func34 (by kernel_rfl) rfl
theorem J6o:Qb prog 35:=enters_of func35 (by kernel_rfl) rfl
theorem J6d:Qb prog 71:=enters_of func71 (by kernel_rfl) rfl
theorem J2q:Qb prog 121:=enters_of func121 (by kernel_rfl) rfl
def J3x:IH UV:=⟨Tryz.f33,⟨[],[(4,[5,6,7])]⟩,.st⟩
def J3w:IH UV:=⟨Tryz.f34,⟨[],[]⟩,.st⟩
def J3v:IH UV:=⟨Tryz.f35,⟨[],[(6,[6,7,10])]⟩,.st⟩
def J3n:IH UV:=⟨f71,⟨[],[]⟩,.st⟩
def Qyp:IH UV:=⟨f121,⟨[(1,⟨[([.reg 3],.int .i64),([.fat 0 6 0],.app 132 .t132)],[],true⟩),(3,⟨[([.reg 3],.int .i64)],[([.reg 3],.int .i64)],false⟩),(4,⟨[([.reg 15],.bool)],[],false⟩),(10,⟨[([.reg 4],.int .i64)],[],false⟩)],[]⟩,.lab [([.fat 0 6 0],.app 132 .t132)]⟩
def Qcv(a0:List UInt8):Option (Tm×Int×Int):=cond ((decide (65536<(a0.length:Int)))) (some ((Tm.mk 0 0 ([]:List UInt8) ([]) ([])),0,5)) (Option.bind (Option.bind (Qa (σ:=Int×(List Tkn)) (β:=Unit⊕((List Tkn))) (λs42=>Option.bind (Qa (σ:=Int) (β:=Int) (λs54=>Option.bind (cond ((decide (s54<(a0.length:Int)))) (Option.bind (QT a0 s54) λ(x59:UInt8)=>Option.bind (Qhq ([32,9,13,10]:List UInt8) (x59.toNat:Int)) λ(x60:Int)=>some (decide (0<=x60))) (some false)) λ(v58:Bool)=>cond v58 (some (.next (Qm (s54+1)))) (some (.done s54))) Qd s42.1) λ(v55:Int)=>Option.bind (cond ((decide (v55<(a0.length:Int)))) (Option.bind (Qo4 a0 v55) λ(x63:Int)=>some x63) (some v55)) λ(v62:Int)=>Q7 (cond (decide (0<=v55)) (cond (Nat.ble v55.toNat v62.toNat) (inB v62 a0.length) false) false) (Q7 (Nat.ble (s42.2.length+([(Tkn.mk (List.drop v55.toNat (List.take v62.toNat a0)) v55)]:List Tkn).length) 1000000000) (cond ((v62==v55)) (some (.done (.inr (s42.2++([(Tkn.mk (List.drop v55.toNat (List.take v62.toNat a0)) v55)]:List Tkn))))) (some (.next (v62,(s42.2++([(Tkn.mk (List.drop v55.toNat (List.take v62.toNat a0)) v55)]:List Tkn)))))))) Qd (0,([]:List Tkn))) (Sum.elim (λ(v43:Unit)=>some ([]:List Tkn)) (λ(o64:(List Tkn))=>some o64))) λ(v1:(List Tkn))=>Option.bind (J7n (Rdr.mk v1 0)) (Sum.elim (λ(r65:Rdr×Tm)=>Option.bind (J59 r65.1 a0) (Sum.elim (λ(r67:Rdr×Unit)=>Option.bind (Qs5 r65.2) λ(x69:(List UInt8)×Int)=>cond ((x69.2 != 0)) (some ((Tm.mk 0 0 ([]:List UInt8) ([]) ([])),0,x69.2)) (some (r65.2,0,0))) (λ(e68:(Int×Int)×Rdr)=>some ((Tm.mk 0 0 ([]:List UInt8) ([]) ([])),e68.1.2,e68.1.1)))) (λ(e66:(Int×Int)×Rdr)=>some ((Tm.mk 0 0 ([]:List UInt8) ([]) ([])),e66.1.2,e66.1.1))))
def k15:KF UV:=⟨[.str],[.stc .t25,.int .i64,.int .i64],λv=>Qcv v⟩
def Ja7:Hints UV:=⟨[],[]⟩
theorem Qsm:JY DV W0 prog 15 k15:=Yj (C:=Jc5) rfl Qx Qj (Qw (tb:=[(13,k13),(122,k122),(123,k123)]) Qj ⟨Qbp,Qbq,Qll,trivial⟩) (Gr (C:=Jc5) rfl Qx Qj (Qw (tb:=[(13,k13),(122,k122),(123,k123)]) Qj ⟨Qbp,Qbq,Qll,trivial⟩) (Ku (tb:=[(36,k36),(37,k37)]) Qj ⟨J1i,J1h,trivial⟩) (I:=[(33,J3x),(34,J3w),(35,J3v),(71,J3n),(121,Qyp)]) ⟨⟨func33,J6q⟩,⟨func34,J6p⟩,⟨func35,J6o⟩,⟨func71,J6d⟩,⟨func121,J2q⟩,trivial⟩ 8) func15 J6x Ja7 k15 rfl (λv=>by kernel_rfl)
end
section
open Go.RowKit Go.Shelf
def J10(a0:Byt):Option Bool:=Option.bind (cond (decide (97<=a0.n)) (cond (decide (a0.n<=122)) (some true) (cond (decide (65<=a0.n)) (cond (decide (a0.n<=90)) (some true) (some (a0.n==95))) (some (a0.n==95)))) (cond (decide (65<=a0.n)) (cond (decide (a0.n<=90)) (some true) (some (a0.n==95))) (some (a0.n==95)))) (λ(v1:Bool)=>some v1)
def Q5b(a0:Jc6)(s1:Bool×Int):Option (LO (Bool×Int) (Bool⊕Bool)):=
 cond (decide (s1.2<(a0.length:Int))) (Option.bind (QT a0 s1.2) λ(x5:UInt8)=>
 cond s1.1 (Option.bind (J10 (⟨(x5.toNat:Int)⟩:Byt)) λ(x7:Bool)=>
 cond (!x7) (some (.done (.inr false))) (some (.next (false,(Qm (s1.2+1)))))) (cond ((x5.toNat:Int)==46) (some (.next (true,(Qm (s1.2+1))))) (Option.bind (Option.bind (J10 (⟨(x5.toNat:Int)⟩:Byt)) λ(x11:Bool)=>
 cond (!x11) (cond ((x5.toNat:Int)!=39) (cond (decide ((x5.toNat:Int)<48)) (some true) (some (decide (57<(x5.toNat:Int))))) (some false)) (some false)) (λ(v10:Bool)=>cond v10 (some (.done (.inr false))) (some (.next (s1.1,(Qm (s1.2+1))))))))) (some (.done (.inl s1.1)))
def J7k(a0:Jc6):Option Bool:=Option.bind (cond (a0==([]:List UInt8)) (some true) (some (decide (64<(a0.length:Int))))) (λ(v1:Bool)=>cond v1 (some false) (Option.bind (Qa (Q5b a0) Qd (true,0)) (Sum.elim (λ(o3:Bool)=>some (!o3)) (λo=>some o))))
def Qwp(p0_:Bool)(p1_:Int):Option Int:=cond p0_ (some 2) (Option.bind (cond (p1_==8) (some (p1_==8)) (some (p1_==11))) (λ(b0_:Bool)=>cond b0_ (some 3) (cond (p1_==9) (cond (p1_==9) (some 1) (some 0)) (cond (p1_==10) (some 1) (some 0)))))
def J8d(a0:Int):Option Int:=Option.bind (cond (a0==4) (some (a0==4)) (cond (a0==5) (some (a0==5)) (cond (a0==6) (some (a0==6)) (some (a0==7))))) (λ(v1:Bool)=>Qwp v1 a0)
def Qwz(p0_:Bool)(p1_:Tm):Option Bool:=cond p0_ (some false) (Option.bind (cond (!(p1_.name==([]:List UInt8))) (some (p1_.kind != 3)) (some false)) (λ(b0_:Bool)=>cond b0_ (some false) (cond (p1_.kind==2) (some ((p1_.levels.length:Int)==1)) (Option.bind (cond ((p1_.levels.length:Int)==0) (some true) (some (p1_.kind==3))) (λ(b1_:Bool)=>some b1_)))))
def Qo5(a0:Tm):Option Bool:=
 Option.bind (cond (decide (a0.kind<0)) (some true) (cond (decide (13<=a0.kind)) (some true) (Option.bind (J8d a0.kind) λ(x4:Int)=>
 some ((a0.kids.length:Int)!=x4)))) (λ(v1:Bool)=>cond v1 (some false) (Option.bind (cond (a0.index != 0) (cond (a0.kind != 0) (some (a0.kind != 12)) (some false)) (some false)) (λ(v3:Bool)=>Qwz v3 a0)))
def Qb9(a0:Int)(a1:Int):Option Int:=Option.bind (cond (a1==1) (cond (a0==5) (some true) (cond (a0==6) (some true) (cond (a0==7) (some true) (cond (a1==2) (some (a0==11)) (some false))))) (cond (a1==2) (some (a0==11)) (some false))) (λ(v1:Bool)=>cond v1 (some 1) (some 0))
def Ql4(p0_:Bool)(p1_:Int)(p2_:Lvl)(p3_:Jc0):Option (LO Int (Unit⊕Bool)):=
 cond p0_ (some (.done (.inr false))) (Option.bind (cond (decide (0<p1_)) (Option.bind (QT p2_.vs (Qm (p1_-1))) λ(b0_:Jc0)=>
 some (decide (p3_.1<=b0_.1))) (some false)) (λ(b1_:Bool)=>cond b1_ (some (.done (.inr false))) (Option.bind (cond (decide (0<p2_.c)) (some (decide (p2_.c<=p3_.2))) (some false)) (λ(b2_:Bool)=>cond b2_ (some (.done (.inr false))) (some (.next (Qm (p1_+1))))))))
def DG(a0:Lvl)(s1:Int):Option (LO Int (Unit⊕Bool)):=
 cond (decide (s1<(a0.vs.length:Int))) (Option.bind (QT a0.vs s1) λ(x5:Jc0)=>
 Option.bind (cond (decide (x5.1<(-65536))) (some true) (cond (decide (8<=x5.1)) (some true) (cond (decide (x5.2<0)) (some true) (some (decide (100<x5.2)))))) (λ(v6:Bool)=>Ql4 v6 s1 a0 x5)) (some (.done (.inl ())))
def Qs6(a0:Lvl):Option Bool:=Option.bind (cond (decide (a0.c<0)) (some true) (some (decide (100<a0.c)))) (λ(v1:Bool)=>cond v1 (some false) (Option.bind (Qa (DG a0) Qd 0) (Sum.elim (λ(o3:Unit)=>some true) (λo=>some o))))
def DJ(a0:Lvl)(a1:Int)(s1:Int):Option (LO Int (Unit⊕Int)):=
 cond (decide (s1<(a0.vs.length:Int))) (Option.bind (Option.bind (QT a0.vs s1) λ(x6:Jc0)=>
 cond (decide (0<=x6.1)) (Option.bind (QT a0.vs s1) λ(x8:Jc0)=>
 some (decide (a1<=x8.1))) (some false)) (λ(v5:Bool)=>cond v5 (some (.done (.inr 15))) (some (.next (Qm (s1+1)))))) (some (.done (.inl ())))
def DH(a0:Lvl)(a2:Int)(s1:Int):Option (LO Int (Unit⊕Int)):=
 cond (decide (s1<(a0.vs.length:Int))) (Option.bind (Option.bind (QT a0.vs s1) λ(x7:Jc0)=>
 cond (decide (x7.1<0)) (Option.bind (QT a0.vs s1) λ(x9:Jc0)=>
 some (decide (a2<=(Qm ((-1)-x9.1))))) (some false)) (λ(v6:Bool)=>cond v6 (some (.done (.inr 23))) (some (.next (Qm (s1+1)))))) (some (.done (.inl ())))
def Qs7(a0:Lvl)(a1:Int)(a2:Int):Option Int:=
 Option.bind (Qs6 a0) λ(x1:Bool)=>
 cond (!x1) (some 3) (Option.bind (Qa (DJ a0 a1) Qd 0) (Sum.elim (λ(o3:Unit)=>Option.bind (Qa (DH a0 a2) Qd 0) (Sum.elim (λ(o4:Unit)=>some 0) (λo=>some o))) (λo=>some o)))
def UP(a0:Tm)(a3:Int)(a5:Int)(s1:Int):Option (LO Int (Unit⊕Int)):=
 cond (decide (s1<(a0.levels.length:Int))) (Option.bind (QT a0.levels s1) λ(x8:Lvl)=>
 Option.bind (Qs7 x8 a3 a5) λ(x9:Int)=>
 cond (x9 != 0) (some (.done (.inr x9))) (some (.next (Qm (s1+1))))) (some (.done (.inl ())))
def G4(a0:Tm)(rc:Tm×Int×Int×Int×Int×Int->Option Int)(a1:Int)(a2:Int)(a3:Int)(a4:Int)(a5:Int)(s1:Int):Option (LO Int (Unit⊕Int)):=
 cond (decide (s1<(a0.kids.length:Int))) (Option.bind (QT a0.kids s1) λ(x13:Tm)=>
 Option.bind (Qb9 a0.kind s1) λ(x14:Int)=>
 Option.bind (rc (x13,(Qm (a1+x14)),a2,a3,a4,a5)) λ(x15:Int)=>
 cond (x15 != 0) (some (.done (.inr x15))) (some (.next (Qm (s1+1))))) (some (.done (.inl ())))
def UQ(p0_:Bool)(p1_:Tm)(p2_:Int)(p3_:Tm×Int×Int×Int×Int×Int->Option Int)(p4_:Int)(p5_:Int)(p6_:Int)(p7_:Int):Option Int:=cond p0_ (some 24) (Option.bind (cond (p1_.kind==12) (cond (decide (p1_.index<0)) (some true) (some (decide (p2_<=p1_.index)))) (some false)) (λ(b0_:Bool)=>cond b0_ (some 23) (Option.bind (Qa (G4 p1_ p3_ p4_ p5_ p6_ p2_ p7_) Qd 0) (Sum.elim (λ(b1_:Unit)=>some 0) (λo=>some o)))))
def J0j(p0_:Bool)(p1_:Tm)(p2_:Int)(p3_:Int)(p4_:Int)(p5_:Int)(p6_:Int)(p7_:Tm×Int×Int×Int×Int×Int->Option Int):Option Int:=cond p0_ (some 29) (cond (decide (8<(p1_.levels.length:Int))) (some 6) (Option.bind (Qa (UP p1_ p2_ p3_) Qd 0) (Sum.elim (λ(b0_:Unit)=>Option.bind (cond (p1_.kind==0) (cond (decide (p1_.index<0)) (some true) (some (decide (p4_<=(Qm (p1_.index-p5_)))))) (some false)) (λ(b1_:Bool)=>UQ b1_ p1_ p6_ p7_ p5_ p4_ p2_ p3_)) (λo=>some o))))
def Qrv(rc:Tm×Int×Int×Int×Int×Int->Option Int)(a0:Tm)(a1:Int)(a2:Int)(a3:Int)(a4:Int)(a5:Int):Option Int:=
 Option.bind (Qo5 a0) λ(x1:Bool)=>
 cond (!x1) (some 3) (Option.bind (cond (a0.kind==3) (Option.bind (J7k a0.name) λ(x5:Bool)=>
 some (!x5)) (some false)) (λ(v3:Bool)=>J0j v3 a0 a3 a5 a2 a1 a4 rc))
def Q5e(rc:Tm×Int×Int×Int×Int×Int->Option Int)(u:Tm×Int×Int×Int×Int×Int):Option Int:=Qrv rc u.1 u.2.1 u.2.2.1 u.2.2.2.1 u.2.2.2.2.1 u.2.2.2.2.2
def J85(a0:Tm)(a1:Int)(a2:Int)(a3:Int)(a4:Int)(a5:Int):Option Int:=Jo Q5e Qd (a0,a1,a2,a3,a4,a5)
def Q5d(a0:Tm)(rc:Tm->Option Int)(s1:Int×Int):Option (LO (Int×Int) Int):=
 cond (decide (s1.2<(a0.kids.length:Int))) (Option.bind (QT a0.kids s1.2) λ(x3:Tm)=>
 Option.bind (rc x3) λ(x4:Int)=>
 some (.next ((Qm (s1.1+x4)),(Qm (s1.2+1))))) (some (.done s1.1))
def J0i(rc:Tm->Option Int)(a0:Tm):Option Int:=Option.bind (Qa (Q5d a0 rc) Qd (1,0)) (λ(o1:Int)=>some o1)
def Qru(rc:Tm->Option Int)(u:Tm):Option Int:=J0i rc u
def J9c(a0:Tm):Option Int:=Jo Qru Qd a0
def Qb3(a0:Tm)(rc:Tm->Option Int)(s1:Int×Int):Option (LO (Int×Int) Int):=
 cond (decide (s1.2<(a0.kids.length:Int))) (Option.bind (QT a0.kids s1.2) λ(x3:Tm)=>
 Option.bind (rc x3) λ(x4:Int)=>
 some (.next ((max s1.1 x4),(Qm (s1.2+1))))) (some (.done s1.1))
def J0h(rc:Tm->Option Int)(a0:Tm):Option Int:=Option.bind (Qa (Qb3 a0 rc) Qd (0,0)) (λ(o1:Int)=>some (Qm (o1+1)))
def Qwi(rc:Tm->Option Int)(u:Tm):Option Int:=J0h rc u
def m67(a0:Tm):Option Int:=Jo Qwi Qd a0
def J5a(a0:Tm)(a1:Int)(a2:Int)(a3:Int)(a4:Int):Option Int:=
 Option.bind (J85 a0 0 (max a1 0) a2 a3 a4) λ(x1:Int)=>
 cond (x1 != 0) (some x1) (Option.bind (J9c a0) λ(x3:Int)=>
 cond (decide (4096<x3)) (some 5) (Option.bind (m67 a0) λ(x5:Int)=>
 cond (decide (200<x5)) (some 7) (some 0)))
end
section
open Go.RowKit Go.Shelf
theorem J7{n:Int}(h1:-9223372036854775808<=n)(h2:n<=9223372036854775807):Qm n=n:=IntWalk.i64_in n ⟨h1,h2⟩
theorem Gz{k:Nat}(h:k<=1000000000):Qm ((k:Int)+1)=((k+1:Nat):Int):=by rw[J7 (by omega) (by omega)];rfl
theorem Yu{α:Type}(a:List α)(x:α)(b:List α):QT (a++x::b) (a.length:Int)=some x:=by show(a++x::b)[a.length]?=some x;simp
theorem ZM{α:Type}(a:List α)(x:α)(b:List α):decide ((a.length:Int)<((a++x::b).length:Int))=true:=by rw[CS,C3,C2];omega
theorem J0a{α:Type}{l a b:List α}{x:α}(h:l=a++x::b):a.length<l.length:=by rw[h,C3,C2];omega
theorem ZQ(a b:Int):(a==b)=decide (a=b):=by by_cases h:a=b;rw[C7 h];exact CN.2 h;rw[C8 h,Bool.eq_false_iff];exact λh'=>h (CN.1 h')
theorem Jb{α:Type}(a:List α):decide ((a.length:Int)<(a.length:Int))=false:=by simp
theorem DT{α:Type}{a b:Nat}{x:Option α}(h:a<=b):Q7 (Nat.ble a b) x=x:=by rw[Cb h];rfl
theorem Jm{α σ τ β:Type}{step:τ->Option (LO τ β)}(l:List α)(mk:Int->σ->τ)(I:List α->σ->Prop)(Q:β->Prop)(hlen:l.length<=900000000)(hin:∀(a:List α)(x:α)(b:List α)(s:σ),l=a++x::b->I a s -> (∃r,step (mk (a.length:Int) s)=some (.done r)/\Q r)\/∃s',step (mk (a.length:Int) s)=some (.next (mk (Qm ((a.length:Int)+1)) s'))/\I (a++[x]) s')(hout:∀s,I l s->∃r,step (mk (l.length:Int) s)=some (.done r)/\Q r)(s0:σ)(h0:I [] s0):∃r,Qa step Qd (mk 0 s0)=some r/\Q r:=by
 have key:∀(b a:List α)(s:σ)(n:Nat),l=a++b->b.length<n->I a s->∃r,Qa step n (mk (a.length:Int) s)=some r/\Q r:=by intro b;induction b with|nil=>(intro a s n hl hn hI;rw[Cy]at hl;subst hl;obtain⟨r,h1,h2⟩:=hout s hI;cases n with|zero=>omega|succ n=>exact⟨r,by simp only[Qa,h1],h2⟩)|cons x b ih=>intro a s n hl hn hI;cases n with|zero=>omega|succ n=>rcases hin a x b s hl hI with⟨r,h1,h2⟩|⟨s',h1,h2⟩;exact⟨r,by simp only[Qa,h1],h2⟩;(have hal:a.length<=900000000:=by rw[hl,C3]at hlen;omega);rw[Gz (by omega)]at h1;obtain⟨r,h3,h4⟩:=ih (a++[x]) s' n (by rw[hl,Ct];rfl) (by simp only[C2]at hn;omega) h2;refine⟨r,?_,h4⟩;simp only[Qa,h1];rw[C3]at h3;exact h3
 exact key l [] s0 Qd rfl (by unfold Qd;omega) h0
theorem WW{α:Type}(f:α->Nat){x:α}:∀{l:List α},x∈l->f x<=(l.map f).sum|y::l,h=>by rw[CH,PE];rcases Co.1 h with rfl|h;omega;have:=WW f h;omega
def lvz(l:Lvl):Nat:=1+(l.vs.map λ_=>1).sum
def Jb3(n:Int):Nat:=if -9223372036854775808<=n/\n<=9223372036854775807 then 0 else 10000000000
theorem J5n{n:Int}(h:Jb3 n<=1000000000):-9223372036854775808<=n/\n<=9223372036854775807:=by unfold Jb3 at h;split at h;assumption;omega
def Tm.size:Tm->Nat|.mk _ i n ls ks=>1+Jb3 i+n.length+(ls.map lvz).sum+(ks.attach.map λk=>Tm.size k.1).sum
termination_by t=>SizeOf.sizeOf t
decreasing_by
 have:=Pi k.2
 simp only[Tm.mk.sizeOf_spec];omega
theorem Tm.size_eq(t:Tm):t.size=1+Jb3 t.index+t.name.length+(t.levels.map lvz).sum+(t.kids.map Tm.size).sum:=by cases t;rw[Tm.size,Sf];rfl
theorem J4{t k:Tm}(h:k∈t.kids):k.size<t.size:=by have:=WW Tm.size h;rw[t.size_eq];omega
theorem Qut{C:Tm->Prop}(h:∀t:Tm,(∀k∈t.kids,C k)->C t)(t:Tm):C t:=by
 have:∀n (t:Tm),t.size<=n->C t:=by intro n;induction n with|zero=>intro t ht;rw[t.size_eq]at ht;omega|succ n ih=>exact λt ht=>h t λk hk=>ih k (by have:=J4 hk;omega)
 exact this _ t (Ck _)
theorem K6(t:Tm):t.kids.length<t.size:=by
 rw[t.size_eq];have:∀l:List Tm,l.length<=(l.map Tm.size).sum:=by intro l;induction l with|nil=>exact Ck _|cons x l ih=>rw[CH,PE,C2];have:=x.size_eq;omega
 have:=this t.kids;omega
theorem Qmy{α:Type}(f:α->Nat)(a:List α)(x:α)(b:List α):((a++x::b).map f).sum=(a.map f).sum+f x+(b.map f).sum:=by simp;omega
theorem J76(a b:Jc6):(a==b)=decide (a=b):=by by_cases h:a=b;rw[C7 h];exact CN.2 h;rw[C8 h,Bool.eq_false_iff];exact λh'=>h (CN.1 h')
theorem DP{α:Type}(g:α->Nat)(hg:∀x,1<=g x):∀l:List α,l.length<=(l.map g).sum|[]=>Ck _|x::l=>by rw[CH,PE,C2];have:=hg x;have:=DP g hg l;omega
theorem Qs9{α σ τ β:Type}{step:τ->Option (LO τ β)}(l:List α)(mk:Int->σ->τ)(hlen:l.length<=900000000)(hin:∀(a:List α)(x:α)(b:List α)(s:σ),l=a++x::b->(∃r,step (mk (a.length:Int) s)=some (.done r))\/∃s',step (mk (a.length:Int) s)=some (.next (mk (Qm ((a.length:Int)+1)) s')))(hout:∀s,∃r,step (mk (l.length:Int) s)=some (.done r))(s0:σ):∃r,Qa step Qd (mk 0 s0)=some r:=by obtain⟨r,h,-⟩:=Jm l mk (λ_ _=>True) (λ_=>True) hlen (λa x b s e _=>(hin a x b s e).elim (λ⟨r,h⟩=>.inl ⟨r,h,trivial⟩) (λ⟨s',h⟩=>.inr ⟨s',h,trivial⟩)) (λs _=>let⟨r,h⟩:=hout s;⟨r,h,trivial⟩) s0 trivial;exact⟨r,h⟩
theorem Q6h:∀(n:Nat)(t:Tm),t.size<=n->t.size<=900000000->∃r,Jo Qwi n t=some r|0,t,h,_=>by rw[t.size_eq]at h;omega|n+1,t,h,h2=>by show ∃r,J0h (Jo Qwi n) t=some r;unfold J0h;have hl:=K6 t;obtain⟨r,e⟩:=Qs9 (step:=Qb3 t (Jo Qwi n)) t.kids (λi (s:Int)=>(s,i)) (by omega) (λa x b s e=>by have hx:=J4 (t:=t) (k:=x) (by rw[e];simp);obtain⟨r,hr⟩:=Q6h n x (by omega) (by omega);refine .inr ⟨max s r,?_⟩;unfold Qb3;dsimp only;rw[e,ZM,Yu];simp only[C9,C0];rw[hr];rfl) (λs=>⟨s,by unfold Qb3;dsimp only;rw[Jb];rfl⟩) 0;rw[e];exact⟨_,rfl⟩
end
section
open Go.RowKit Go.Shelf
def Qg7{α σ β:Type}(f:σ->α->σ⊕β)(e:σ->β):List α->σ->β|[],s=>e s|x::l,s=>Sum.elim (λs'=>Qg7 f e l s') (λr=>r) (f s x)
theorem Ql8{α σ τ β:Type}{step:τ->Option (LO τ β)}(l:List α)(mk:Int->σ->τ)(f:σ->α->σ⊕β)(e:σ->β)(I:List α->σ->Prop)(hlen:l.length<=900000000)(hin:∀(a:List α)(x:α)(b:List α)(s:σ),l=a++x::b->I a s->step (mk (a.length:Int) s)=some (Sum.elim (λs'=>.next (mk (Qm ((a.length:Int)+1)) s')) .done (f s x))/\∀s',f s x=.inl s'->I (a++[x]) s')(hout:∀s,I l s->step (mk (l.length:Int) s)=some (.done (e s)))(s0:σ)(h0:I [] s0):Qa step Qd (mk 0 s0)=some (Qg7 f e l s0):=by
 obtain⟨r,h1,h2⟩:=Jm (step:=step) l mk (λa s=>I a s/\∀b,l=a++b->Qg7 f e l s0=Qg7 f e b s) (λr=>r=Qg7 f e l s0) hlen (λa x b s hl hI=>by
   obtain⟨h3,h4⟩:=hin a x b s hl hI.1
   have h5:=hI.2 (x::b) hl
   cases hf:f s x with
   |inl s'=>
    refine .inr ⟨s',by rw[h3,hf];rfl,h4 s' hf,λb' hb=>?_⟩
    have:b'=b:=by
     rw[hl,Ct]at hb
     exact(Pc (List.append_cancel_left hb)).2.symm
    rw[this,h5,Qg7,hf];rfl
   |inr r=>exact .inl ⟨r,by rw[h3,hf];rfl,by rw[h5,Qg7,hf];rfl⟩)
  (λs hI=>⟨e s,hout s hI.1,by rw[hI.2 [] (by simp)];rfl⟩) s0 ⟨h0,λb hb=>by rw[P3]at hb;rw[hb]⟩
 rw[h1,h2]
theorem Q5k{α β:Type}{step:Int->Option (LO Int β)}(l:List α)(bad:List α->α->Prop)(r0 r1:β)(hlen:l.length<=900000000)(hin:∀(a:List α)(x:α)(b:List α),l=a++x::b->(bad a x->step (a.length:Int)=some (.done r0))/\(¬bad a x->step (a.length:Int)=some (.next (Qm ((a.length:Int)+1)))))(hout:step (l.length:Int)=some (.done r1)):∃r,Qa step Qd 0=some r/\((r=r1/\∀a x b,l=a++x::b->¬bad a x)\/(r=r0/\∃a x b,l=a++x::b/\bad a x)):=by
 refine Jm (step:=step) l (λi (_:Unit)=>i) (λa _=>∀a' x b',a=a'++x::b'->¬bad a' x) (λr=>(r=r1/\∀a x b,l=a++x::b->¬bad a x)\/(r=r0/\∃a x b,l=a++x::b/\bad a x)) hlen (λa x b s hl hI=>?_) (λs hI=>⟨r1,hout,.inl ⟨rfl,hI⟩⟩) () (λa' x b' h=>by cases a' <;> cases h);by_cases hb:bad a x;exact .inl ⟨r0,(hin a x b hl).1 hb,.inr ⟨rfl,a,x,b,hl,hb⟩⟩;refine .inr ⟨(),(hin a x b hl).2 hb,λa' y b' h=>?_⟩;rcases List.append_eq_append_iff.1 h with⟨c,h1,h2⟩|⟨c,h1,h2⟩;cases c with|nil=>rw[P3]at h2;cases h2;rw[Cy]at h1;rw[h1];exact hb|cons z c=>exfalso;have:=congrArg List.length h2;simp at this
 cases c with|nil=>rw[P3]at h2;cases h2;rw[Cy]at h1;rw[<-h1];exact hb|cons z c=>rw[P5]at h2;cases h2;exact hI a' y c h1
def Kj(c:Int):Bool:=(decide (97<=c)&&decide (c<=122))||(decide (65<=c)&&decide (c<=90))||(c==95)
theorem Qky(c:Int):Qhp ⟨c⟩=some (Kj c):=by unfold Qhp Kj;cases decide (97<=c) <;> cases decide (c<=122) <;> cases decide (65<=c) <;> cases decide (c<=90) <;> rfl
theorem Qws(c:Int):J10 ⟨c⟩=some (Kj c):=Qky c
def Qkp(st:Bool)(b:UInt8):Bool⊕(Bool⊕Bool):=if Kj (b.toNat:Int)=true then .inl false else if st=true then .inr (.inr false)else if(b.toNat:Int)=46 then .inl true else if(b.toNat:Int)<48\/57<(b.toNat:Int)then(if(b.toNat:Int)=39 then .inl st else .inr (.inr false))else .inl st
def Qz0(s:Jc6):Bool⊕Bool:=Qg7 Qkp .inl s true
theorem Qhr(s:Jc6)(h:s.length<=900000000):Qa (Xz s) Qd (true,0)=some (Qz0 s):=by refine Ql8 (step:=Xz s) s (λi (st:Bool)=>(st,i)) Qkp .inl (λ_ _=>True) h (λa x b st e _=>⟨?_,λ_ _=>trivial⟩) (λst _=>by unfold Xz;dsimp only;rw[Jb];rfl) true trivial;unfold Xz Qkp;dsimp only;rw[e,ZM,Yu];simp only[C9,C0];rw[Qky,C0];cases Kj (x.toNat:Int)with|true=>rfl|false=>cases st with|true=>rfl|false=>simp only[Cf,ZQ,P6,if_false];by_cases h1:(x.toNat:Int)=46;rw[C7 h1,Ca h1];rfl;rw[C8 h1,C4 h1,Cf];by_cases h2:(x.toNat:Int)<48;rw[C7 h2,Ca (Or.inl h2)];by_cases h4:(x.toNat:Int)=39;rw[Ca h4,h4];rfl;rw[C4 h4];have:((x.toNat:Int)!=39)=true:=Sz.2 h4;simp only[C9,C0,this];rfl;rw[C8 h2];by_cases h3:57<(x.toNat:Int);rw[C7 h3,Ca (Or.inr h3)];by_cases h4:(x.toNat:Int)=39;omega;rw[C4 h4];have:((x.toNat:Int)!=39)=true:=Sz.2 h4;simp only[C9,Cf,C0,this];rfl;rw[C8 h3,C4 (by omega)];rfl
theorem Qni(s:Jc6)(h:s.length<=900000000):Qa (Q5b s) Qd (true,0)=some (Qz0 s):=by refine Ql8 (step:=Q5b s) s (λi (st:Bool)=>(st,i)) Qkp .inl (λ_ _=>True) h (λa x b st e _=>⟨?_,λ_ _=>trivial⟩) (λst _=>by unfold Q5b;dsimp only;rw[Jb];rfl) true trivial;unfold Q5b Qkp;dsimp only;rw[e,ZM,Yu];simp only[C9,C0];rw[Qws,C0];cases st with|true=>cases Kj (x.toNat:Int) <;> rfl|false=>simp only[Cf,ZQ,P6,if_false];by_cases h1:(x.toNat:Int)=46;rw[C7 h1,Ca h1,C4 (by rw[h1];decide)];rfl;rw[C8 h1,C4 h1,Cf];cases Kj (x.toNat:Int)with|true=>rfl|false=>rw[C0,C4 (by decide)];simp only[Sc,C9];by_cases h4:(x.toNat:Int)=39;(have:((x.toNat:Int)!=39)=false:=by rw[h4];rfl);simp only[Cf,C0,this,Ca h4];split <;> rfl;have:((x.toNat:Int)!=39)=true:=Sz.2 h4;simp only[C9,this,C4 h4];by_cases h2:(x.toNat:Int)<48;rw[C7 h2,Ca (Or.inl h2)];rfl;rw[C8 h2];by_cases h3:57<(x.toNat:Int);rw[C7 h3,Ca (Or.inr h3)];rfl;rw[C8 h3,C4 (by omega)];rfl
theorem Q58:∀(s:Jc6)(st b:Bool),Qg7 Qkp .inl s st=.inr b->b=false
 |[],st,b,h=>by cases h
 |x::s,st,b,h=>by
  rw[Qg7]at h;cases hf:Qkp st x with
  |inl st'=>rw[hf]at h;exact Q58 s st' b h
  |inr r=>
   rw[hf]at h;unfold Qkp at hf;have:r=.inr false:=by
    revert hf
    repeat' split
    all_goals intro hf;cases hf;try rfl
   rw[this]at h;cases h;rfl
def JL(s:Jc6):Bool:=Sum.elim (λst=>!st&&decide ((s.length:Int)<=64)) (λb=>b) (Qz0 s)
theorem Qba(s:Jc6)(h:s.length<=900000000):Q13 s=some (JL s):=by unfold Q13 JL;rw[Qhr s h,C0];cases Qz0 s with|inl st=>cases st <;> rfl|inr b=>rfl
theorem J0b(s:Jc6)(h:s.length<=900000000):J7k s=some (JL s):=by
 unfold J7k JL;rw[J76,Qni s h];by_cases h0:s=[];subst h0;rfl;rw[C8 h0,Cf];by_cases h1:64<(s.length:Int);rw[C7 h1,C8 (by omega)];cases hn:Qz0 s with|inl st=>cases st <;> rfl|inr b=>have:=Q58 s true b hn;subst this;rfl
 rw[C8 h1,C7 (by omega)];cases hn:Qz0 s with|inl st=>cases st <;> rfl|inr b=>rfl
end
section
open Go.RowKit Go.Shelf
theorem Qss{α:Type}{l:List α}{i:Int}(h0:0<=i)(h1:i<(l.length:Int)):∃x,QT l i=some x:=by cases i with|ofNat k=>exact⟨l[k]'(by have:(Int.ofNat k)<(l.length:Int):=h1;simp at this;omega),Cq _⟩|negSucc k=>omega
def Q5j(l:Lvl)(a:List Jc0)(x:Jc0):Prop:=x.1 < -65536\/7<x.1\/x.2<0\/100<x.2\/(0<a.length/\∃y,QT l.vs (Qm ((a.length:Int)-1))=some y/\x.1<=y.1)
theorem Q87{l:List Jc0}{a:List Jc0}{x:Jc0}{b:List Jc0}(h:l.length<=900000000)(e:l=a++x::b)(ha:0<a.length):∃y,QT l (Qm ((a.length:Int)-1))=some y:=by have:=J0a e;rw[J7 (by omega) (by omega)];exact Qss (by omega) (by omega)
theorem Qwn(l:List Jc0)(u:Lvl)(h:l.length<=900000000):∃b,Qhm l u=some b/\(b=true↔∃x∈l,u.c<=x.2):=by
 have h1:∃r,Qa (KI l u) Qd 0=some r/\((r=.inl ())/\(∀x∈l,¬u.c<=x.2)\/∃k:Nat,r=.inr (k:Int)/\∃x∈l,u.c<=x.2):=by refine Jm (step:=KI l u) l (λi (_:Unit)=>i) (λa _=>∀x∈a,¬u.c<=x.2) (λr=>((r=.inl ())/\(∀x∈l,¬u.c<=x.2)\/∃k:Nat,r=.inr (k:Int)/\∃x∈l,u.c<=x.2)) h (λa x b s e hI=>?_) (λs hI=>⟨.inl (),by unfold KI;rw[Jb];rfl,.inl ⟨rfl,hI⟩⟩) () (λx hx=>by cases hx);by_cases hx:u.c<=x.2;refine .inl ⟨.inr (a.length:Int),?_,.inr ⟨a.length,rfl,x,by rw[e];simp,hx⟩⟩;unfold KI;rw[e,ZM,Yu];show cond (decide (u.c<=x.2)) _ _=_;rw[C7 hx];rfl;refine .inr ⟨(),?_,λy hy=>?_⟩;unfold KI;rw[e,ZM,Yu];show cond (decide (u.c<=x.2)) _ _=_;rw[C8 hx];rfl;rcases Cz.1 hy with hy|hy;exact hI y hy;rw[Cw.1 hy];exact hx
 obtain⟨r,h2,h3⟩:=h1;unfold Qhm Qs0;rw[h2];rcases h3 with⟨rfl,h4⟩|⟨k,rfl,h4⟩;exact⟨false,rfl,⟨λh=>(by cases h),λ⟨x,hx,h⟩=>(h4 x hx h).elim⟩⟩;refine⟨true,?_,⟨λ_=>h4,λ_=>rfl⟩⟩;show some (decide ((0:Int)<=(k:Int)))=_;rw[C7 (by omega)]
def DM(l:Lvl):Prop:=0<=l.c/\l.c<=100/\(0<l.c->∀x∈l.vs,¬l.c<=x.2)/\∀a x b,l.vs=a++x::b->¬Q5j l a x
theorem Qb8(l:Lvl)(h:l.vs.length<=900000000):∃b,Q7l l=some b/\(b=true↔DM l):=by
 have hloop:=Q5k (β:=Unit⊕Bool) (step:=Xy l) l.vs (Q5j l) (.inr false) (.inl ()) h (λa x b e=>by have hprev:=λha=>Q87 (x:=x) (b:=b) h e ha;(have:Xy l (a.length:Int)=Option.bind (cond (decide (x.1<(-65536))) (some true) (cond (decide (7<x.1)) (some true) (cond (decide (x.2<0)) (some true) (cond (decide (100<x.2)) (some true) (cond (decide (0<(a.length:Int))) (Option.bind (QT l.vs (Qm ((a.length:Int)-1))) λ(x12:Jc0)=>some (decide (x.1<=x12.1))) (some false)))))) (λ(v6:Bool)=>cond v6 (some (.done (.inr false))) (some (.next (Qm ((a.length:Int)+1))))):=by unfold Xy;have e2:l.vs=a++x::b:=e;rw[show decide ((a.length:Int)<(l.vs.length:Int))=true from by rw[e2];exact ZM a x b,show QT l.vs (a.length:Int)=some x from by rw[e2];exact Yu a x b];rfl);rw[this];unfold Q5j;by_cases c1:x.1 < -65536;rw[C7 c1];exact⟨λ_=>rfl,λh=>(h (.inl c1)).elim⟩;rw[C8 c1,Cf];by_cases c2:7<x.1;rw[C7 c2];exact⟨λ_=>rfl,λh=>(h (.inr (.inl c2))).elim⟩;rw[C8 c2,Cf];by_cases c3:x.2<0;rw[C7 c3];exact⟨λ_=>rfl,λh=>(h (.inr (.inr (.inl c3)))).elim⟩;rw[C8 c3,Cf];by_cases c4:100<x.2;rw[C7 c4];exact⟨λ_=>rfl,λh=>(h (.inr (.inr (.inr (.inl c4))))).elim⟩;rw[C8 c4,Cf];by_cases c5:0<a.length;rw[C7 (show 0<(a.length:Int) by omega),C9];obtain⟨y,hy⟩:=hprev c5;rw[hy,C0];by_cases c6:x.1<=y.1;rw[C7 c6];exact⟨λ_=>rfl,λh=>(h (.inr (.inr (.inr (.inr ⟨c5,y,rfl,c6⟩))))).elim⟩;rw[C8 c6];refine⟨λh=>?_,λ_=>rfl⟩;rcases h with h|h|h|h|⟨-,z,hz,h⟩;exact(c1 h).elim;exact(c2 h).elim;exact(c3 h).elim;exact(c4 h).elim;cases hz;exact(c6 h).elim;rw[C8 (show ¬0<(a.length:Int) by omega)];refine⟨λh=>?_,λ_=>rfl⟩;rcases h with h|h|h|h|⟨h,-⟩;exact(c1 h).elim;exact(c2 h).elim;exact(c3 h).elim;exact(c4 h).elim;exact(c5 h).elim) (by unfold Xy;rw[Jb];rfl);obtain⟨r,h1,h2⟩:=hloop;obtain⟨b,h3,h4⟩:=Qwn l.vs l h;unfold Q7l;rw[h3,h1];by_cases c1:l.c<0;rw[C7 c1];exact⟨false,rfl,⟨λh=>(Cl h).elim,λh=>by have:=h.1;omega⟩⟩;rw[C8 c1,Cf];by_cases c2:100<l.c;rw[C7 c2];exact⟨false,rfl,⟨λh=>(Cl h).elim,λh=>by have:=h.2.1;omega⟩⟩;rw[C8 c2,Cf];have key:(∃x,(0<l.c/\(∃x∈l.vs,l.c<=x.2)->x=false)/\(¬(0<l.c/\∃x∈l.vs,l.c<=x.2)->Option.bind (some r) (Sum.elim (λ(o3:Unit)=>some true) (λo=>some o))=some x)/\cond (decide (0<l.c)) (Option.bind (Option.bind (some b) λ(x7:Bool)=>some x7) (λ(y5:Bool)=>some y5)) (some false)=some (decide (0<l.c/\∃x∈l.vs,l.c<=x.2))/\(x=true->r=.inl ())/\(¬(0<l.c/\∃x∈l.vs,l.c<=x.2)->r=.inl ()->x=true)):=by by_cases c3:0<l.c;rw[C7 c3];(cases b with|true=>have h5:=h4.1 rfl;exact⟨false,λ_=>rfl,λh=>(h ⟨c3,h5⟩).elim,by rw[C7 ⟨c3,h5⟩];rfl,λh=>(by cases h),λh=>(h ⟨c3,h5⟩).elim⟩|false=>(have h5:¬ ∃x∈l.vs,l.c<=x.2:=λh=>by have:=h4.2 h;cases this);rcases h2 with⟨rfl,-⟩|⟨rfl,-⟩;exact⟨true,λh=>(h5 h.2).elim,λ_=>rfl,by rw[C8 λh=>h5 h.2];rfl,λ_=>rfl,λ_ _=>rfl⟩;exact⟨false,λh=>(h5 h.2).elim,λ_=>rfl,by rw[C8 λh=>h5 h.2];rfl,λh=>(by cases h),λ_ h=>by cases h⟩);rw[C8 c3];rcases h2 with⟨rfl,-⟩|⟨rfl,-⟩;exact⟨true,λh=>(c3 h.1).elim,λ_=>rfl,by rw[C8 λh=>c3 h.1];rfl,λ_=>rfl,λ_ _=>rfl⟩;exact⟨false,λh=>(c3 h.1).elim,λ_=>rfl,by rw[C8 λh=>c3 h.1];rfl,λh=>(by cases h),λ_ h=>by cases h⟩
 obtain⟨x,k1,k2,Jb0,k4,k5⟩:=key;rw[Jb0,C0];by_cases c4:0<l.c/\∃x∈l.vs,l.c<=x.2;rw[C7 c4];refine⟨false,Z,λh=>(Cl h).elim,λh=>?_⟩;obtain⟨y,hy,hy2⟩:=c4.2;exact(h.2.2.1 c4.1 y hy hy2).elim;rw[C8 c4];refine⟨x,k2 c4,λh=>?_,λh=>?_⟩;have h6:=k4 h;rcases h2 with⟨-,h7⟩|⟨h7,-⟩;exact⟨by omega,by omega,λh8 y hy h9=>c4 ⟨h8,y,hy,h9⟩,h7⟩;rw[h7]at h6;cases h6;refine k5 c4 ?_;rcases h2 with⟨h7,-⟩|⟨-,a,y,c,h7,h8⟩;exact h7;exact(h.2.2.2 a y c h7 h8).elim
theorem Qwy(l:Lvl)(h:l.vs.length<=900000000):∃b,Qs6 l=some b/\(b=true↔DM l):=by
 have hloop:=Q5k (β:=Unit⊕Bool) (step:=DG l) l.vs (λa x=>Q5j l a x\/(0<l.c/\l.c<=x.2)) (.inr false) (.inl ()) h (λa x b e=>by
  have hprev:=λha=>Q87 (x:=x) (b:=b) h e ha;have:DG l (a.length:Int)=Option.bind (cond (decide (x.1<(-65536))) (some true) (cond (decide (8<=x.1)) (some true) (cond (decide (x.2<0)) (some true) (some (decide (100<x.2)))))) (λ(v6:Bool)=>Ql4 v6 (a.length:Int) l x):=by unfold DG;have e2:l.vs=a++x::b:=e;rw[show decide ((a.length:Int)<(l.vs.length:Int))=true from by rw[e2];exact ZM a x b,show QT l.vs (a.length:Int)=some x from by rw[e2];exact Yu a x b];rfl
  rw[this];unfold Q5j;by_cases c1:x.1 < -65536;rw[C7 c1];exact⟨λ_=>rfl,λh=>(h (.inl (.inl c1))).elim⟩;rw[C8 c1,Cf];by_cases c2:7<x.1;rw[C7 (show 8<=x.1 by omega)];exact⟨λ_=>rfl,λh=>(h (.inl (.inr (.inl c2)))).elim⟩;rw[C8 (show ¬8<=x.1 by omega),Cf];by_cases c3:x.2<0;rw[C7 c3];exact⟨λ_=>rfl,λh=>(h (.inl (.inr (.inr (.inl c3))))).elim⟩;rw[C8 c3,Cf];by_cases c4:100<x.2;rw[C7 c4];exact⟨λ_=>rfl,λh=>(h (.inl (.inr (.inr (.inr (.inl c4)))))).elim⟩;rw[C8 c4,C0];show(_->Option.bind (cond (decide (0<(a.length:Int))) (Option.bind (QT l.vs (Qm ((a.length:Int)-1))) λ(b0_:Jc0)=>some (decide (x.1<=b0_.1))) (some false)) _=_)/\(_->Option.bind (cond (decide (0<(a.length:Int))) (Option.bind (QT l.vs (Qm ((a.length:Int)-1))) λ(b0_:Jc0)=>some (decide (x.1<=b0_.1))) (some false)) _=_);have hlast:∀(hno:¬(0<a.length/\∃y,QT l.vs (Qm ((a.length:Int)-1))=some y/\x.1<=y.1)),((((x.1 < -65536\/7<x.1\/x.2<0\/100<x.2\/(0<a.length/\∃y,QT l.vs (Qm ((a.length:Int)-1))=some y/\x.1<=y.1)))\/(0<l.c/\l.c<=x.2))->Option.bind (cond (decide (0<l.c)) (some (decide (l.c<=x.2))) (some false)) (λ(b2_:Bool)=>(cond b2_ (some (.done (.inr false))) (some (.next (Qm ((a.length:Int)+1)))):Option (LO Int (Unit⊕Bool))))=some (.done (.inr false:Unit⊕Bool)))/\(¬(((x.1 < -65536\/7<x.1\/x.2<0\/100<x.2\/(0<a.length/\∃y,QT l.vs (Qm ((a.length:Int)-1))=some y/\x.1<=y.1)))\/(0<l.c/\l.c<=x.2))->Option.bind (cond (decide (0<l.c)) (some (decide (l.c<=x.2))) (some false)) (λ(b2_:Bool)=>(cond b2_ (some (.done (.inr false))) (some (.next (Qm ((a.length:Int)+1)))):Option (LO Int (Unit⊕Bool))))=some (.next (β:=Unit⊕Bool) (Qm ((a.length:Int)+1)))):=by intro hno;by_cases c7:0<l.c;rw[C7 c7];by_cases c8:l.c<=x.2;rw[C7 c8];exact⟨λ_=>rfl,λh=>(h (.inr ⟨c7,c8⟩)).elim⟩;rw[C8 c8];refine⟨λh=>?_,λ_=>rfl⟩;rcases h with(h|h|h|h|h)|⟨-,h⟩;exact(c1 h).elim;exact(c2 h).elim;exact(c3 h).elim;exact(c4 h).elim;exact(hno h).elim;exact(c8 h).elim;rw[C8 c7];refine⟨λh=>?_,λ_=>rfl⟩;rcases h with(h|h|h|h|h)|⟨h,-⟩;exact(c1 h).elim;exact(c2 h).elim;exact(c3 h).elim;exact(c4 h).elim;exact(hno h).elim;exact(c7 h).elim
  by_cases c5:0<a.length;rw[C7 (show 0<(a.length:Int) by omega),C9];obtain⟨y,hy⟩:=hprev c5;rw[hy,C0];rw[hy]at hlast;by_cases c6:x.1<=y.1;rw[C7 c6];exact⟨λ_=>rfl,λh=>(h (.inl (.inr (.inr (.inr (.inr ⟨c5,y,rfl,c6⟩)))))).elim⟩;rw[C8 c6];exact hlast λ⟨_,z,hz,h⟩=>by cases hz;exact c6 h
  rw[C8 (show ¬0<(a.length:Int) by omega)];exact hlast λh=>c5 h.1) (by unfold DG;rw[Jb];rfl)
 obtain⟨r,h1,h2⟩:=hloop;unfold Qs6;rw[h1];by_cases c1:l.c<0;rw[C7 c1];exact⟨false,rfl,⟨λh=>(Cl h).elim,λh=>by have:=h.1;omega⟩⟩;rw[C8 c1,Cf];by_cases c2:100<l.c;rw[C7 c2];exact⟨false,rfl,⟨λh=>(Cl h).elim,λh=>by have:=h.2.1;omega⟩⟩;rw[C8 c2,C0,Cf];rcases h2 with⟨rfl,h3⟩|⟨rfl,a,x,b,e,h3⟩;refine⟨true,rfl,λ_=>⟨by omega,by omega,λh4 y hy h5=>?_,λa x b e h4=>h3 a x b e (.inl h4)⟩,λ_=>rfl⟩;obtain⟨a,b,e⟩:=List.append_of_mem hy;exact h3 a y b e (.inr ⟨h4,h5⟩);refine⟨false,rfl,λh=>(Cl h).elim,λh4=>?_⟩;rcases h3 with h3|⟨h3,h5⟩;exact(h4.2.2.2 a x b e h3).elim;exact(h4.2.2.1 h3 x (by rw[e];simp) h5).elim
theorem Qx4(l:Lvl)(h:l.vs.length<=900000000):∃b,Q7l l=some b/\Qs6 l=some b/\(b=true->DM l):=by obtain⟨b,h1,h2⟩:=Qb8 l h;obtain⟨c,h3,h4⟩:=Qwy l h;have:b=c:=Bool.eq_iff_iff.2 (h2.trans h4.symm);exact⟨b,h1,by rw[this];exact h3,h2.1⟩
end
section
open Go.RowKit Go.Shelf
theorem Qz2{α σ1 τ1 β1 σ2 τ2 β2:Type}{step1:τ1->Option (LO τ1 β1)}{step2:τ2->Option (LO τ2 β2)}(l:List α)(mk1:Int->σ1->τ1)(mk2:Int->σ2->τ2)(I:List α->σ1->σ2->Prop)(Q:β1->β2->Prop)(hlen:l.length<=900000000)(hin:∀(a:List α)(x:α)(b:List α)(s1:σ1)(s2:σ2),l=a++x::b->I a s1 s2 -> (∃r1 r2,step1 (mk1 (a.length:Int) s1)=some (.done r1)/\step2 (mk2 (a.length:Int) s2)=some (.done r2)/\Q r1 r2) \/ ∃s1' s2',step1 (mk1 (a.length:Int) s1)=some (.next (mk1 (Qm ((a.length:Int)+1)) s1'))/\step2 (mk2 (a.length:Int) s2)=some (.next (mk2 (Qm ((a.length:Int)+1)) s2'))/\I (a++[x]) s1' s2')(hout:∀s1 s2,I l s1 s2->∃r1 r2,step1 (mk1 (l.length:Int) s1)=some (.done r1)/\step2 (mk2 (l.length:Int) s2)=some (.done r2)/\Q r1 r2)(s1:σ1)(s2:σ2)(h0:I [] s1 s2):∃r1 r2,Qa step1 Qd (mk1 0 s1)=some r1/\Qa step2 Qd (mk2 0 s2)=some r2/\Q r1 r2:=by
 have key:∀(b a:List α)(s1:σ1)(s2:σ2)(n:Nat),l=a++b->b.length<n->I a s1 s2->∃r1 r2,Qa step1 n (mk1 (a.length:Int) s1)=some r1/\Qa step2 n (mk2 (a.length:Int) s2)=some r2/\Q r1 r2:=by intro b;induction b with|nil=>(intro a s1 s2 n hl hn hI;rw[Cy]at hl;subst hl;obtain⟨r1,r2,h1,h2,h3⟩:=hout s1 s2 hI;cases n with|zero=>omega|succ n=>exact⟨r1,r2,by simp only[Qa,h1],by simp only[Qa,h2],h3⟩)|cons x b ih=>intro a s1 s2 n hl hn hI;cases n with|zero=>omega|succ n=>rcases hin a x b s1 s2 hl hI with⟨r1,r2,h1,h2,h3⟩|⟨s1',s2',h1,h2,h3⟩;exact⟨r1,r2,by simp only[Qa,h1],by simp only[Qa,h2],h3⟩;(have hal:a.length<=900000000:=by rw[hl,C3]at hlen;omega);rw[Gz (by omega)]at h1 h2;obtain⟨r1,r2,h4,h5,h6⟩:=ih (a++[x]) s1' s2' n (by rw[hl,Ct];rfl) (by simp only[C2]at hn;omega) h3;rw[C3]at h4 h5;exact⟨r1,r2,by simp only[Qa,h1];exact h4,by simp only[Qa,h2];exact h5,h6⟩
 exact key l [] s1 s2 Qd rfl (by unfold Qd;omega) h0
theorem UT{α β1 β2:Type}{step1:Int->Option (LO Int β1)}{step2:Int->Option (LO Int β2)}(l:List α)(z1:β1)(z2:β2)(g1:Int->β1)(Jb9:Int->β2)(hlen:l.length<=900000000)(hin:∀(a:List α)(x:α)(b:List α),l=a++x::b->∃e:Int,(e=0->step1 (a.length:Int)=some (.next (Qm ((a.length:Int)+1)))/\step2 (a.length:Int)=some (.next (Qm ((a.length:Int)+1))))/\(e≠0->step1 (a.length:Int)=some (.done (g1 e))/\step2 (a.length:Int)=some (.done (Jb9 e))))(hout1:step1 (l.length:Int)=some (.done z1))(hout2:step2 (l.length:Int)=some (.done z2)):∃e:Int,(e=0->Qa step1 Qd 0=some z1/\Qa step2 Qd 0=some z2)/\(e≠0->Qa step1 Qd 0=some (g1 e)/\Qa step2 Qd 0=some (Jb9 e)):=by
 obtain⟨r1,r2,h1,h2,e,h3,h4⟩:=Qz2 (step1:=step1) (step2:=step2) l (λi (_:Unit)=>i) (λi (_:Unit)=>i) (λ_ _ _=>True) (λr1 r2=>∃e:Int,(e=0->r1=z1/\r2=z2)/\(e≠0->r1=g1 e/\r2=Jb9 e)) hlen (λa x b _ _ hl _=>by
   obtain⟨e,h1,h2⟩:=hin a x b hl
   by_cases he:e=0
   ·exact .inr ⟨(),(),(h1 he).1,(h1 he).2,trivial⟩
   ·exact .inl ⟨_,_,(h2 he).1,(h2 he).2,e,λh=>(he h).elim,λ_=>⟨rfl,rfl⟩⟩)
  (λ_ _ _=>⟨z1,z2,hout1,hout2,0,λ_=>⟨rfl,rfl⟩,λh=>(h rfl).elim⟩) () () trivial
 refine⟨e,λhe=>?_,λhe=>?_⟩;rw[h1,h2,(h3 he).1,(h3 he).2];exact⟨rfl,rfl⟩;rw[h1,h2,(h4 he).1,(h4 he).2];exact⟨rfl,rfl⟩
theorem ZR{α:Type}{l a b:List α}{x:α}(e:l=a++x::b):decide ((a.length:Int)<(l.length:Int))=true/\QT l (a.length:Int)=some x:=by rw[e];exact⟨ZM a x b,Yu a x b⟩
def Qlw(ix nm ln A N L K:Bool):Option Bool:=Option.bind (cond ix (cond nm (cond ln (some K) (cond L (some K) (some false))) (cond N (cond ln (some K) (cond L (some K) (some false))) (some false))) (cond A (cond nm (cond ln (some K) (cond L (some K) (some false))) (cond N (cond ln (some K) (cond L (some K) (some false))) (some false))) (some false))) (λb=>some b)
theorem Qer(ix nm ln A N L K:Bool):Qlw ix nm ln A N L K=some ((ix||A)&&(nm||N)&&(ln||L)&&K):=by cases ix <;> cases nm <;> cases ln <;> cases A <;> cases N <;> cases L <;> cases K <;> rfl
def Qz6(k0 k12 Jb0 k2 A N L0 L1 K:Bool):Option Bool:=cond (!K) (some false) (Option.bind (cond (!A) (cond (!k0) (some (!k12)) (some false)) (some false)) (λv3=>cond v3 (some false) (Option.bind (cond (!N) (some (!Jb0)) (some false)) (λb0_=>cond b0_ (some false) (cond k2 (some L1) (Option.bind (cond L0 (some true) (some Jb0)) (λb1_=>some b1_)))))))
theorem Qt3(k0 k12 Jb0 k2 A N L0 L1 K:Bool):Qz6 k0 k12 Jb0 k2 A N L0 L1 K=some (((k0||k12)||A)&&(Jb0||N)&&(cond k2 L1 (L0||Jb0))&&K):=by cases k0 <;> cases k12 <;> cases Jb0 <;> cases k2 <;> cases A <;> cases N <;> cases L0 <;> cases L1 <;> cases K <;> rfl
theorem Qlv(t:Tm):∃b,Uj t=some b/\Qo5 t=some b/\(b=true->0<=t.kind/\t.kind<13/\(t.kind≠3->(t.levels.length:Int)<=1)):=by
 by_cases h1:t.kind<0;exact⟨false,by unfold Uj;rw[C7 h1];rfl,by unfold Qo5;rw[C7 h1];rfl,λh=>by cases h⟩;by_cases h2:13<=t.kind;exact⟨false,by unfold Uj;rw[C8 h1,C7 h2];rfl,by unfold Qo5;rw[C8 h1,C7 h2];rfl,λh=>by cases h⟩;have hk:t.kind=0\/t.kind=1\/t.kind=2\/t.kind=3\/t.kind=4\/t.kind=5\/t.kind=6\/t.kind=7\/t.kind=8\/t.kind=9\/t.kind=10\/t.kind=11\/t.kind=12:=by omega
 have fin:∀(ix nm ln:Bool)(lv kd:Int)(k0 k12 Jb0 k2:Bool),Uj t=Qlw ix nm ln (t.index==0) (t.name==[]) ((t.levels.length:Int)==lv) ((t.kids.length:Int)==kd) -> Qo5 t=Qz6 k0 k12 Jb0 k2 (t.index==0) (t.name==[]) ((t.levels.length:Int)==0) ((t.levels.length:Int)==1) ((t.kids.length:Int)==kd) -> ix=(k0||k12)->nm=Jb0->(ln||(t.levels.length:Int)==lv)=(cond k2 ((t.levels.length:Int)==1) ((t.levels.length:Int)==0||Jb0))->(Jb0=false->ln=false/\lv<=1)->(t.kind≠3->Jb0=false) -> ∃b,Uj t=some b/\Qo5 t=some b/\(b=true->0<=t.kind/\t.kind<13/\(t.kind≠3->(t.levels.length:Int)<=1)):=by intro ix nm ln lv kd k0 k12 Jb0 k2 e1 e2 e3 e4 e5 e6 e7;rw[Qer]at e1;rw[Qt3,<-e5,<-e3,<-e4]at e2;refine⟨_,e1,e2,λh=>⟨by omega,by omega,λh3=>?_⟩⟩;obtain⟨h4,h5⟩:=e6 (e7 h3);rw[h4,Bool.false_or,CD,CD]at h;have h6:=eq_of_beq h.1.2;omega
 obtain⟨k,i,n,ls,ks⟩:=t;dsimp only[Tm.kind,Tm.index,Tm.name,Tm.levels,Tm.kids]at *;rcases hk with hk|hk|hk|hk|hk|hk|hk|hk|hk|hk|hk|hk|hk <;> subst hk;exact fin true false false 0 0 true false false false rfl rfl rfl rfl (by cases((ls.length:Int)==0) <;> rfl) (λ_=>⟨rfl,by omega⟩) (λ_=>rfl);exact fin false false false 0 0 false false false false rfl rfl rfl rfl (by cases((ls.length:Int)==0) <;> rfl) (λ_=>⟨rfl,by omega⟩) (λ_=>rfl);exact fin false false false 1 0 false false false true rfl rfl rfl rfl rfl (λ_=>⟨rfl,by omega⟩) (λ_=>rfl);exact fin false true true (-1) 0 false false true false rfl rfl rfl rfl (by cases((ls.length:Int)==0) <;> rfl) (λh=>by cases h) (λh=>(h rfl).elim);exact fin false false false 0 2 false false false false rfl rfl rfl rfl (by cases((ls.length:Int)==0) <;> rfl) (λ_=>⟨rfl,by omega⟩) (λ_=>rfl);exact fin false false false 0 2 false false false false rfl rfl rfl rfl (by cases((ls.length:Int)==0) <;> rfl) (λ_=>⟨rfl,by omega⟩) (λ_=>rfl);exact fin false false false 0 2 false false false false rfl rfl rfl rfl (by cases((ls.length:Int)==0) <;> rfl) (λ_=>⟨rfl,by omega⟩) (λ_=>rfl);exact fin false false false 0 2 false false false false rfl rfl rfl rfl (by cases((ls.length:Int)==0) <;> rfl) (λ_=>⟨rfl,by omega⟩) (λ_=>rfl);exact fin false false false 0 3 false false false false rfl rfl rfl rfl (by cases((ls.length:Int)==0) <;> rfl) (λ_=>⟨rfl,by omega⟩) (λ_=>rfl);exact fin false false false 0 1 false false false false rfl rfl rfl rfl (by cases((ls.length:Int)==0) <;> rfl) (λ_=>⟨rfl,by omega⟩) (λ_=>rfl);exact fin false false false 0 1 false false false false rfl rfl rfl rfl (by cases((ls.length:Int)==0) <;> rfl) (λ_=>⟨rfl,by omega⟩) (λ_=>rfl);exact fin false false false 0 3 false false false false rfl rfl rfl rfl (by cases((ls.length:Int)==0) <;> rfl) (λ_=>⟨rfl,by omega⟩) (λ_=>rfl);exact fin true false false 0 0 false true false false rfl rfl rfl rfl (by cases((ls.length:Int)==0) <;> rfl) (λ_=>⟨rfl,by omega⟩) (λ_=>rfl)
def Yv(V P:Int):Scp:=⟨max V 0,max P 0,1000000,1000000⟩
theorem Ql7(V P:Int)(x:Lvl)(h:x.vs.length<=900000000):∃e,Q5i (Yv V P) x=some e/\Qs7 x P 1000000=some e:=by
 obtain⟨b,h1,h2,-⟩:=Qx4 x h;unfold Q5i Qs7;rw[h1,h2];cases b with
 |false=>exact⟨3,rfl,rfl⟩
 |true=>
  show ∃e,Option.bind (Qa (DL x (Yv V P)) Qd 0) _=_/\Option.bind (Qa (DJ x P) Qd 0) _=_;obtain⟨e,h3,h4⟩:=UT (β1:=Unit⊕Int) (β2:=Unit⊕Int) (step1:=DL x (Yv V P)) (step2:=DJ x P) x.vs (.inl ()) (.inl ()) .inr .inr h (λa y b e=>by
   obtain⟨q1,q2⟩:=ZR e;unfold DL DJ;rw[q1,q2];show ∃e:Int,(_->cond (decide (max P 0<=y.1)) _ _=_/\Option.bind (cond (decide (0<=y.1)) (some (decide (P<=y.1))) (some false)) _=_)/\(_->cond (decide (max P 0<=y.1)) _ _=_/\Option.bind (cond (decide (0<=y.1)) (some (decide (P<=y.1))) (some false)) _=_);by_cases c:max P 0<=y.1;rw[C7 c,C7 (show 0<=y.1 by omega),C7 (show P<=y.1 by omega)];exact⟨15,λh=>by omega,λ_=>⟨rfl,rfl⟩⟩;rw[C8 c];refine⟨0,λ_=>⟨Z,?_⟩,λh=>(h Z).elim⟩;by_cases c2:0<=y.1;rw[C7 c2,C8 (show ¬P<=y.1 by omega)];rfl;rw[C8 c2];rfl)
   (by unfold DL;rw[Jb];rfl) (by unfold DJ;rw[Jb];rfl)
  by_cases he:e=0;obtain⟨e1,e2⟩:=h3 he;rw[e1,e2];show ∃e,Option.bind (Qa (DK x (Yv V P)) Qd 0) _=_/\Option.bind (Qa (DH x 1000000) Qd 0) _=_;obtain⟨e',h5,h6⟩:=UT (β1:=Unit⊕Int) (β2:=Unit⊕Int) (step1:=DK x (Yv V P)) (step2:=DH x 1000000) x.vs (.inl ()) (.inl ()) .inr .inr h (λa y b e=>by
   obtain⟨q1,q2⟩:=ZR e;unfold DK DH;rw[q1,q2];show ∃e:Int,(_->Option.bind (cond (decide (y.1<0)) (some (decide (1000000<=(Qm ((-1)-y.1))))) (some false)) _=_/\Option.bind (cond (decide (y.1<0)) (some (decide (1000000<=(Qm ((-1)-y.1))))) (some false)) _=_)/\(_->Option.bind (cond (decide (y.1<0)) (some (decide (1000000<=(Qm ((-1)-y.1))))) (some false)) _=_/\Option.bind (cond (decide (y.1<0)) (some (decide (1000000<=(Qm ((-1)-y.1))))) (some false)) _=_);cases decide (y.1<0)with
   |false=>exact⟨0,λ_=>⟨rfl,rfl⟩,λh=>(h rfl).elim⟩
   |true=>
    cases decide (1000000<=(Qm ((-1)-y.1)))with
    |false=>exact⟨0,λ_=>⟨rfl,rfl⟩,λh=>(h rfl).elim⟩
    |true=>exact⟨23,λh=>by omega,λ_=>⟨rfl,rfl⟩⟩)
   (by unfold DK;rw[Jb];rfl) (by unfold DH;rw[Jb];rfl)
  by_cases he':e'=0;obtain⟨e1,e2⟩:=h5 he';rw[e1,e2];exact⟨0,rfl,rfl⟩;obtain⟨e1,e2⟩:=h6 he';rw[e1,e2];exact⟨e',rfl,rfl⟩;obtain⟨e1,e2⟩:=h4 he;rw[e1,e2];exact⟨e,rfl,rfl⟩
theorem XB(t:Tm):(t.levels.map lvz).sum<t.size:=by rw[t.size_eq];omega
theorem Qbc(l:Lvl):l.vs.length<lvz l:=by have:=DP (λ_:Jc0=>1) (λ_=>Ck 1) l.vs;unfold lvz;omega
theorem Qfg{e:Int}(h:e≠0):(e != 0)=true:=Sz.2 h
theorem Qir{α:Type}{e:Int}(he:e≠0)(x:Int->Option α)(y:Option α):Option.bind (some e) (λv=>cond (v != 0) (x v) y)=x e:=by rw[C0,Qfg he];rfl
def Q94(rc:Tm×Int×Int×Int×Int×Int->Option Int)(t:Tm)(dep V P:Int):Option Int:=Option.bind (Qa (G4 t rc dep V P 1000000 1000000) Qd 0) (Sum.elim (λ(b1_:Unit)=>some 0) (λo=>some o))
theorem Qnf(t:Tm)(dep V P:Int)(h:t.size<=900000000):∃e,Option.bind (Qa (Zd t (Yv V P)) Qd 0) (Sum.elim (λ(o7:Unit)=>GB t (Yv V P) dep) (λo=>some o))=some e /\ ∀rc,(Option.bind (Qa (UP t P 1000000) Qd 0) (Sum.elim (λ(b0_:Unit)=>Option.bind (cond (t.kind==0) (cond (decide (t.index<0)) (some true) (some (decide (max V 0<=(Qm (t.index-dep)))))) (some false)) (λ(b1_:Bool)=>UQ b1_ t 1000000 rc dep (max V 0) P 1000000)) (λo=>some o)))=if e=0 then Q94 rc t dep (max V 0) P else some e:=by
 have hl:=XB t;have hl2:=DP lvz (λl=>by unfold lvz;omega) t.levels;obtain⟨e,h3,h4⟩:=UT (β1:=Unit⊕Int) (β2:=Unit⊕Int) (step1:=Zd t (Yv V P)) (step2:=UP t P 1000000) t.levels (.inl ()) (.inl ()) .inr .inr (by omega) (λa y b e=>by
  obtain⟨q1,q2⟩:=ZR e;have hy:y.vs.length<=900000000:=by have:=Qbc y;have:=WW lvz (show y∈t.levels from by rw[e];simp);omega
  obtain⟨e,h1,h2⟩:=Ql7 V P y hy;unfold Zd UP;rw[q1,q2];show ∃e:Int,(_->Option.bind (Q5i (Yv V P) y) _=_/\Option.bind (Qs7 y P 1000000) _=_)/\(_->Option.bind (Q5i (Yv V P) y) _=_/\Option.bind (Qs7 y P 1000000) _=_);rw[h1,h2];refine⟨e,λhe=>?_,λhe=>?_⟩;subst he;exact⟨rfl,rfl⟩;exact⟨Qir he _ _,Qir he _ _⟩)
  (by unfold Zd;rw[Jb];rfl) (by unfold UP;rw[Jb];rfl)
 by_cases he:e=0;obtain⟨e1,e2⟩:=h3 he;rw[e1,e2];show ∃e,GB t (Yv V P) dep=some e/\∀rc,Option.bind (cond (t.kind==0) (cond (decide (t.index<0)) (some true) (some (decide (max V 0<=(Qm (t.index-dep)))))) (some false)) (λ(b1_:Bool)=>UQ b1_ t 1000000 rc dep (max V 0) P 1000000)=if e=0 then Q94 rc t dep (max V 0) P else some e
 unfold GB;show ∃e,Option.bind (cond (t.kind==0) (cond (decide (t.index<0)) (some true) (some (decide (max V 0<=(Qm (t.index-dep)))))) (some false)) _=some e/\_;obtain⟨v,hv⟩:∃v,cond (t.kind==0) (cond (decide (t.index<0)) (some true) (some (decide (max V 0<=(Qm (t.index-dep)))))) (some false)=some v:=by cases(t.kind==0) <;> cases decide (t.index<0) <;> exact⟨_,rfl⟩
 rw[hv];cases v with|true=>exact⟨24,rfl,λrc=>rfl⟩|false=>show ∃e,Option.bind (cond (t.kind==12) (cond (decide (t.index<0)) (some true) (some (decide ((1000000:Int)<=t.index)))) (some false)) _=some e/\∀rc,UQ false t 1000000 rc dep (max V 0) P 1000000=_;unfold UQ;simp only[Cf];cases t.kind==12 with|false=>exact⟨0,rfl,λrc=>rfl⟩|true=>cases decide (t.index<0)with|true=>exact⟨23,rfl,λrc=>rfl⟩|false=>cases decide ((1000000:Int)<=t.index)with|true=>exact⟨23,rfl,λrc=>rfl⟩|false=>exact⟨0,rfl,λrc=>rfl⟩
 obtain⟨e1,e2⟩:=h4 he;rw[e1,e2];exact⟨e,rfl,λrc=>by rw[C4 he];rfl⟩
theorem Qko(t:Tm)(dep V P:Int)(h:t.size<=900000000):∃e,Qwj (Yv V P) t dep=some e/\(∀rc,Qrv rc t dep (max V 0) P 1000000 1000000=if e=0 then Q94 rc t dep (max V 0) P else some e)/\(e=0->0<=t.kind/\t.kind<13):=by obtain⟨b,h1,h2,h3⟩:=Qlv t;unfold Qwj Qrv;rw[h1,h2];cases b with|false=>exact⟨3,rfl,λrc=>rfl,λh=>by omega⟩|true=>obtain⟨k1,k2,Jb0⟩:=h3 rfl;obtain⟨e,h4,h5⟩:=Qnf t dep V P h;(have hn:t.name.length<=900000000:=by have:=t.size_eq;omega);show ∃e,cond (t.kind==3) (Option.bind (Q13 t.name) _) _=some e/\(∀rc,Option.bind (cond (t.kind==3) (Option.bind (J7k t.name) _) _) _=_)/\_;rw[Qba _ hn,J0b _ hn,ZQ];by_cases hk:t.kind=3;rw[C7 hk];(cases JL t.name with|false=>exact⟨29,rfl,λrc=>rfl,λh=>by omega⟩|true=>show ∃e,cond (decide (8<(t.levels.length:Int))) (some 6) (Option.bind (Qa (Zd t (Yv V P)) Qd 0) (Sum.elim (λ(o7:Unit)=>GB t (Yv V P) dep) (λo=>some o)))=some e/\(∀rc,cond (decide (8<(t.levels.length:Int))) (some 6) (Option.bind (Qa (UP t P 1000000) Qd 0) (Sum.elim (λ(b0_:Unit)=>Option.bind (cond (t.kind==0) (cond (decide (t.index<0)) (some true) (some (decide (max V 0<=(Qm (t.index-dep)))))) (some false)) (λ(b1_:Bool)=>UQ b1_ t 1000000 rc dep (max V 0) P 1000000)) (λo=>some o)))=_)/\_;cases decide (8<(t.levels.length:Int))with|true=>exact⟨6,rfl,λrc=>rfl,λh=>by omega⟩|false=>exact⟨e,h4,h5,λ_=>⟨k1,k2⟩⟩);rw[C8 hk];show ∃e,Option.bind (Qa (Zd t (Yv V P)) Qd 0) (Sum.elim (λ(o7:Unit)=>GB t (Yv V P) dep) (λo=>some o))=some e/\(∀rc,cond (decide (8<(t.levels.length:Int))) (some 6) (Option.bind (Qa (UP t P 1000000) Qd 0) (Sum.elim (λ(b0_:Unit)=>Option.bind (cond (t.kind==0) (cond (decide (t.index<0)) (some true) (some (decide (max V 0<=(Qm (t.index-dep)))))) (some false)) (λ(b1_:Bool)=>UQ b1_ t 1000000 rc dep (max V 0) P 1000000)) (λo=>some o)))=_)/\_;rw[C8 (show ¬8<(t.levels.length:Int) by have:=Jb0 hk;omega)];exact⟨e,h4,h5,λ_=>⟨k1,k2⟩⟩
end
section
open Go.RowKit Go.Shelf
def Tm.num:Tm->Nat|.mk _ _ _ _ ks=>1+(ks.attach.map λk=>Tm.num k.1).sum
termination_by t=>SizeOf.sizeOf t
decreasing_by
 have:=Pi k.2
 simp only[Tm.mk.sizeOf_spec];omega
theorem Tm.num_eq(t:Tm):t.num=1+(t.kids.map Tm.num).sum:=by cases t;rw[Tm.num,Sf];rfl
theorem Qaf{α:Type}(f g:α->Nat):∀l:List α,(∀x∈l,f x<=g x)->(l.map f).sum<=(l.map g).sum|[],_=>Ck _|x::l,h=>by rw[CH,PE,CH,PE];have h1:=h x (Cd ..);have h2:=Qaf f g l λy hy=>h y (Cg _ hy);omega
theorem Tm.num_le(t:Tm):t.num<=t.size:=by induction t using Qut with|h t ih=>rw[t.num_eq,t.size_eq];have:=Qaf Tm.num Tm.size t.kids ih;omega
theorem Qav{t:Tm}{a b:List Tm}{x:Tm}(e:t.kids=a++x::b):(a.map Tm.num).sum+x.size<t.size/\(a.map Tm.num).sum+x.num<t.num:=by have h1:=t.size_eq;have h2:=t.num_eq;rw[e,Qmy]at h1 h2;have h3:=Qaf Tm.num Tm.size a λx _=>x.num_le;constructor <;> omega
theorem Qe5:∀(n:Nat)(t:Tm),t.size<=n->t.size<=900000000->Jo Qru n t=some (t.num:Int)
 |0,t,h,_=>by rw[t.size_eq]at h;omega
 |n+1,t,h,h2=>by
  show J0i (Jo Qru n) t=_;unfold J0i;have hl:=K6 t;have hn:=t.num_le;obtain⟨r,e1,e2⟩:=Jm (step:=Q5d t (Jo Qru n)) t.kids (λi (s:Nat)=>((s:Int),i)) (λa s=>s=1+(a.map Tm.num).sum) (λr=>r=(t.num:Int)) (by omega) (λa x b s e hI=>by
    have hx:=J4 (t:=t) (k:=x) (by rw[e];simp)
    have hr:=Qe5 n x (by omega) (by omega)
    have h3:=Qav e
    obtain⟨q1,q2⟩:=ZR e
    refine .inr ⟨s+x.num,?_,?_⟩
    ·unfold Q5d
     dsimp only
     rw[q1,q2]
     simp only[C9,C0]
     rw[hr]
     simp only[C0]
     rw[J7 (n:=(s:Int)+(x.num:Int)) (by omega) (by omega)]
     rfl
    ·rw[hI,Cp,List.sum_append];simp;omega)
   (λs hI=>⟨(s:Int),by unfold Q5d;dsimp only;rw[Jb];rfl,by rw[hI,t.num_eq]⟩) 1 rfl
  have e3:Qa (Q5d t (Jo Qru n)) Qd (1,0)=some r:=e1;rw[e3,e2];rfl
theorem J0m:J7m=m67:=rfl
theorem Qmi(k:Int)(h0:0<=k)(h1:k<13):∃v,QT ([(-1),(-1),(-1),(-1),(-1),1,1,1,(-1),(-1),(-1),2,(-1)]:List Int) k=some v/\∀j:Nat,Qb9 k (j:Int)=some (if(j:Int)=v then 1 else 0):=by
 have hk:k=0\/k=1\/k=2\/k=3\/k=4\/k=5\/k=6\/k=7\/k=8\/k=9\/k=10\/k=11\/k=12:=by omega
 have no:∀(c:Bool->Option Int)(j:Nat),Qb9 k (j:Int)=some 0->Qb9 k (j:Int)=some (if(j:Int) = -1 then 1 else 0):=λ_ j h=>by rw[h,C4 (by omega)]
 rcases hk with hk|hk|hk|hk|hk|hk|hk|hk|hk|hk|hk|hk|hk <;> subst hk;case inr.inr.inr.inr.inr.inl=>exact⟨1,rfl,λj=>by unfold Qb9;rw[ZQ (j:Int) 1,ZQ (j:Int) 2];by_cases h:(j:Int)=1;rw[C7 h,Ca h];rfl;rw[C8 h,C4 h];cases decide ((j:Int)=2) <;> rfl⟩
 case inr.inr.inr.inr.inr.inr.inl=>exact⟨1,rfl,λj=>by unfold Qb9;rw[ZQ (j:Int) 1,ZQ (j:Int) 2];by_cases h:(j:Int)=1;rw[C7 h,Ca h];rfl;rw[C8 h,C4 h];cases decide ((j:Int)=2) <;> rfl⟩
 case inr.inr.inr.inr.inr.inr.inr.inl=>exact⟨1,rfl,λj=>by unfold Qb9;rw[ZQ (j:Int) 1,ZQ (j:Int) 2];by_cases h:(j:Int)=1;rw[C7 h,Ca h];rfl;rw[C8 h,C4 h];cases decide ((j:Int)=2) <;> rfl⟩
 case inr.inr.inr.inr.inr.inr.inr.inr.inr.inr.inr.inl=>exact⟨2,rfl,λj=>by unfold Qb9;rw[ZQ (j:Int) 1,ZQ (j:Int) 2];by_cases h:(j:Int)=2;rw[C7 h,Ca h,C8 (show ¬(j:Int)=1 by omega)];rfl;rw[C8 h,C4 h];cases decide ((j:Int)=1) <;> rfl⟩
 all_goals exact⟨-1,rfl,λj=>no (λ_=>none) j (by unfold Qb9;rw[ZQ (j:Int) 1,ZQ (j:Int) 2];cases decide ((j:Int)=1) <;> cases decide ((j:Int)=2) <;> rfl)⟩
theorem Q3l(V P:Int)(root:Tm):∀(n:Nat)(t:Tm)(dep cnt:Nat),t.size<=n->dep+t.size<=900000000->cnt+t.size<=900000000 -> ∃e:Int,Jo Q5e n (t,(dep:Int),max V 0,P,1000000,1000000)=some e/\(e=0->Jo Zf n (t,(dep:Int),root,0,Yv V P,(cnt:Int),root)=some (.inr (true,((cnt+t.num:Nat):Int)))) /\ (e≠0->∃c,Jo Zf n (t,(dep:Int),root,0,Yv V P,(cnt:Int),root)=some (.inl (e,c)))
 |0,t,_,_,h,_,_=>by rw[t.size_eq]at h;omega
 |n+1,t,dep,cnt,h,hd,hc=>by
  show ∃e:Int,Qrv (Jo Q5e n) t (dep:Int) (max V 0) P 1000000 1000000=some e/\(e=0->U3 (Jo Zf n) t (dep:Int) root 0 (Yv V P) (cnt:Int) root=_)/\(e≠0->∃c,U3 (Jo Zf n) t (dep:Int) root 0 (Yv V P) (cnt:Int) root=some (.inl (e,c)));obtain⟨e,h1,h2,h3⟩:=Qko t (dep:Int) V P (by omega);have hl:=K6 t;have hnum:=t.num_le;rw[h2];unfold U3;rw[h1];by_cases he:e=0;subst he;obtain⟨k0,k1⟩:=h3 rfl;obtain⟨v,hv,hj⟩:=Qmi t.kind k0 k1;rw[Ca rfl];rw[C7 k0,C7 k1];show ∃e:Int,Q94 (Jo Q5e n) t (dep:Int) (max V 0) P=some e/\(e=0->KL true t (dep:Int) (Jo Zf n) root 0 (Yv V P) root (cnt:Int)=_)/\(e≠0->∃c,KL true t (dep:Int) (Jo Zf n) root 0 (Yv V P) root (cnt:Int)=some (.inl (e,c)));have hg:Q7 (cond (decide (0<=t.kind)) (Nat.blt t.kind.toNat 13) false) (some v)=some v:=by rw[C7 k0,C9,show Nat.blt t.kind.toNat 13=true from Cb (by omega)];rfl
  unfold KL Q94;rw[hv];simp only[C9,C0];rw[hg,C0,Gz (by omega)];obtain⟨r1,r2,e1,e2,e3⟩:=Qz2 (β1:=Unit⊕Int) (β2:=Int⊕((Int×Int)⊕(Bool×Int))) (step1:=G4 t (Jo Q5e n) (dep:Int) (max V 0) P 1000000 1000000) (step2:=Z3 t v (dep:Int) (Jo Zf n) root 0 (Yv V P) root) t.kids (λi (_:Unit)=>i) (λi (c:Nat)=>(i,(c:Int))) (λa _ c=>c=cnt+1+(a.map Tm.num).sum) (λr1 r2=>(r1=.inl ()/\r2=.inl ((cnt+t.num:Nat):Int))\/∃e c,e≠0/\r1=.inr e/\r2=.inr (.inl (e,c))) (by omega) (λa x b _ c e hI=>by
    obtain⟨q1,q2⟩:=ZR e
    have hx:=Qav e
    have hxs:=J4 (t:=t) (k:=x) (by rw[e];simp)
    unfold G4 Z3
    dsimp only
    rw[q1,q2]
    simp only[C9,C0]
    rw[hj a.length,ZQ]
    obtain⟨d',hd1,hd2,hd3⟩:∃d':Nat,Qm ((dep:Int)+(if(a.length:Int)=v then 1 else 0))=(d':Int)/\(cond (decide ((a.length:Int)=v)) (some (Qm ((dep:Int)+1))) (some (dep:Int)))=some (d':Int)/\d'<=dep+1:=by
     by_cases hh:(a.length:Int)=v
     ·rw[Ca hh,C7 hh,Gz (by omega)];exact⟨dep+1,rfl,rfl,Ck _⟩
     ·rw[C4 hh,C8 hh,J7 (by omega) (by omega)];exact⟨dep,by omega,rfl,by omega⟩
    rw[hd2]
    simp only[C0]
    rw[hd1]
    obtain⟨e',w1,w2,w3⟩:=Q3l V P root n x d' c (by omega) (by omega) (by omega)
    unfold U4
    rw[w1]
    simp only[C0]
    by_cases he':e'=0
    ·rw[w2 he']
     subst he'
     refine .inr ⟨(),c+x.num,Z,Z,?_⟩
     rw[hI,Cp,List.sum_append];simp;omega
    ·obtain⟨c',w4⟩:=w3 he'
     rw[w4,Qfg he']
     exact .inl ⟨_,_,Z,Z,.inr ⟨e',c',he',Z,Z⟩⟩)
   (λ_ c hI=>⟨_,_,by unfold G4;rw[Jb];rfl,by unfold Z3;dsimp only;rw[Jb];rfl,.inl ⟨rfl,by rw[hI,t.num_eq];congr 2;omega⟩⟩) () (cnt+1) (by simp)
  have e1':Qa (G4 t (Jo Q5e n) (dep:Int) (max V 0) P 1000000 1000000) Qd 0=some r1:=e1;have e2':Qa (Z3 t v (dep:Int) (Jo Zf n) root 0 (Yv V P) root) Qd (0,((cnt+1:Nat):Int))=some r2:=e2;rw[e1',e2'];rcases e3 with⟨rfl,rfl⟩|⟨e',c',he',rfl,rfl⟩;exact⟨0,rfl,λ_=>rfl,λh=>(h rfl).elim⟩;exact⟨e',rfl,λh=>(he' h).elim,λ_=>⟨c',rfl⟩⟩;rw[C4 he];refine⟨e,Z,λh=>(he h).elim,λ_=>⟨(cnt:Int),?_⟩⟩;simp only[C0,Qfg he,C9];rfl
theorem J0w(t:Tm)(V P:Int)(h:t.size<=900000000):∃e,J5a t V P 1000000 1000000=some e/\J0x t V P 1000000 1000000=some e:=by
 obtain⟨e,h1,h2,h3⟩:=Q3l V P t Qd t 0 0 (by unfold Qd;omega) (by omega) (by omega);obtain⟨d,h4⟩:=Q6h Qd t (by unfold Qd;omega) h;have h5:J9c t=some (t.num:Int):=Qe5 Qd t (by unfold Qd;omega) h;have h6:m67 t=some d:=h4;have h1':J85 t 0 (max V 0) P 1000000 1000000=some e:=h1;have h7:∀r,Jo Zf Qd (t,((0:Nat):Int),t,0,Yv V P,((0:Nat):Int),t)=some r->Qhw t 0 t 0 (⟨(max V 0),(max P 0),(max 1000000 0),(max 1000000 0)⟩:Scp) 0 t=some r:=λr h=>h;unfold J5a J0x;rw[h1',J0m,h5,h6];by_cases he:e=0;have h8:=h7 _ (h2 he);rw[h8];subst he;show ∃e,cond (decide (4096<(t.num:Int))) (some 5) (cond (decide (200<d)) (some 7) (some 0))=some e/\cond (decide (4096<((0+t.num:Nat):Int))) (some 5) (cond (decide (200<d)) (some 7) (some 0))=some e;rw[CY];cases decide (4096<(t.num:Int))with|true=>exact⟨5,rfl,rfl⟩|false=>cases decide (200<d) <;> exact⟨_,rfl,rfl⟩
 obtain⟨c,h9⟩:=h3 he;rw[h7 _ h9];simp only[C0,Qfg he,C9];exact⟨e,Z,Z⟩
end
section
open Go.RowKit
set_option maxRecDepth 100000
def J5g(rc:Int->Option ((List UInt8)))(a0:Int):Option ((List UInt8)):=cond ((decide (a0<10))) (some (List.map Byt.u8 ([(Byt.mk (IntKind.wrap .u8 (48+(IntKind.wrap .u8 a0))))]:List Byt))) (Option.bind (rc (Qm (Int.tdiv a0 10))) λ(x1:(List UInt8))=>Q7 (!(10==0)) (Q7 (Nat.ble (x1.length+(List.map Byt.u8 ([(Byt.mk (IntKind.wrap .u8 (48+(IntKind.wrap .u8 (Int.tmod a0 10)))))]:List Byt)).length) 1000000000) (some (x1++(List.map Byt.u8 ([(Byt.mk (IntKind.wrap .u8 (48+(IntKind.wrap .u8 (Int.tmod a0 10)))))]:List Byt))))))
def J5h:Int->Option ((List UInt8)):=Jo (λrc v=>J5g rc v) Qd
def J11(a0:Int):Option ((List UInt8)):=J5h a0
def J5f(a0:List UInt8)(a1:Int)(a2:Int):Option ((List UInt8)):=Option.bind (J11 a1) λ(x1:(List UInt8))=>Q7 (Nat.ble (a0.length+x1.length) 1000000000) (Option.bind (cond ((decide (0<a2))) (Option.bind (J11 a2) λ(x4:(List UInt8))=>Q7 (Nat.ble (([32,43,32]:List UInt8).length+x4.length) 1000000000) (Q7 (Nat.ble ((a0++x1).length+(([32,43,32]:List UInt8)++x4).length) 1000000000) (some ((a0++x1)++(([32,43,32]:List UInt8)++x4))))) (some (a0++x1))) λ(v3:(List UInt8))=>some v3)
def J9a(a0:Lvl):Option ((List UInt8)×Int):=Option.bind (Qs6 a0) λ(x1:Bool)=>cond ((!x1)) (some (([]:List UInt8),3)) (Option.bind (cond ((decide (0<a0.c))) (some true) (some ((a0.vs.length:Int)==0))) λ(v2:Bool)=>Option.bind (cond v2 (Option.bind (J11 a0.c) λ(x5:(List UInt8))=>Q7 (Nat.ble (([]:List ((List UInt8))).length+([x5]:List ((List UInt8))).length) 1000000000) (some (([]:List ((List UInt8)))++([x5]:List ((List UInt8)))))) (some ([]:List ((List UInt8))))) λ(v4:(List ((List UInt8))))=>Option.bind (Qa (σ:=(List ((List UInt8)))×Int) (β:=(List ((List UInt8)))) (λs14=>cond ((decide (s14.2<(a0.vs.length:Int)))) (Option.bind (QT a0.vs s14.2) λ(x16:Jc0)=>cond ((decide (0<=x16.1))) (Option.bind (QT a0.vs s14.2) λ(x17:Jc0)=>Option.bind (QT a0.vs s14.2) λ(x18:Jc0)=>Option.bind (J5f ([117]:List UInt8) x17.1 x18.2) λ(x19:(List UInt8))=>Q7 (Nat.ble (s14.1.length+([x19]:List ((List UInt8))).length) 1000000000) (some (.next ((s14.1++([x19]:List ((List UInt8)))),(Qm (s14.2+1)))))) (some (.next (s14.1,(Qm (s14.2+1)))))) (some (.done s14.1))) Qd (v4,0)) λ(v15:(List ((List UInt8))))=>Option.bind (Qa (σ:=(List ((List UInt8)))×Int) (β:=(List ((List UInt8)))) (λs28=>cond ((decide (0<=s28.2))) (Option.bind (QT a0.vs s28.2) λ(x30:Jc0)=>cond ((decide (x30.1<0))) (Option.bind (QT a0.vs s28.2) λ(x31:Jc0)=>Option.bind (QT a0.vs s28.2) λ(x32:Jc0)=>Option.bind (J5f ([63]:List UInt8) (Qm ((-1)-x31.1)) x32.2) λ(x33:(List UInt8))=>Q7 (Nat.ble (s28.1.length+([x33]:List ((List UInt8))).length) 1000000000) (some (.next ((s28.1++([x33]:List ((List UInt8)))),(Qm (s28.2-1)))))) (some (.next (s28.1,(Qm (s28.2-1)))))) (some (.done s28.1))) Qd (v15,(Qm ((a0.vs.length:Int)-1)))) λ(v29:(List ((List UInt8))))=>cond (((v29.length:Int)==1)) (Option.bind (QT v29 0) λ(x34:(List UInt8))=>some (x34,0)) (Option.bind (Qa (σ:=(List UInt8)×Int) (β:=(List UInt8)) (λs39=>cond ((decide (s39.2<(v29.length:Int)))) (Option.bind (cond ((decide (0<s39.2))) (Q7 (Nat.ble (s39.1.length+([44,32]:List UInt8).length) 1000000000) (some (s39.1++([44,32]:List UInt8)))) (some s39.1)) λ(v41:(List UInt8))=>Option.bind (QT v29 s39.2) λ(x42:(List UInt8))=>Q7 (Nat.ble (v41.length+x42.length) 1000000000) (some (.next ((v41++x42),(Qm (s39.2+1)))))) (some (.done s39.1))) Qd (([109,97,120,40]:List UInt8),0)) λ(v40:(List UInt8))=>Q7 (Nat.ble (v40.length+([41]:List UInt8).length) 1000000000) (some ((v40++([41]:List UInt8)),0))))
def J83(rc:Int->Option ((List UInt8)))(a0:Int):Option ((List UInt8)):=cond ((decide (a0<10))) (Q7 (cond (decide (0<=a0)) (cond (Nat.ble a0.toNat (Qm (a0+1)).toNat) (inB (Qm (a0+1)) ([48,49,50,51,52,53,54,55,56,57]:List UInt8).length) false) false) (some (List.drop a0.toNat (List.take (Qm (a0+1)).toNat ([48,49,50,51,52,53,54,55,56,57]:List UInt8))))) (Option.bind (rc (Qm (Int.tdiv a0 10))) λ(x1:(List UInt8))=>Q7 (!(10==0)) (Option.bind (rc (Int.tmod a0 10)) λ(x2:(List UInt8))=>Q7 (Nat.ble (x1.length+x2.length) 1000000000) (some (x1++x2))))
def J84:Int->Option ((List UInt8)):=Jo (λrc v=>J83 rc v) Qd
def J9b(a0:Int):Option ((List UInt8)):=J84 a0
def J9l(a0:Int):Option ((List UInt8)):=Option.bind (cond ((decide (a0<4))) (some true) (some (decide (11<a0)))) λ(v1:Bool)=>cond v1 (some ([]:List UInt8)) (Option.bind (QT ([([97,112,112]:List UInt8),([108,97,109]:List UInt8),([112,105]:List UInt8),([115,105,103,109,97]:List UInt8),([112,97,105,114]:List UInt8),([102,115,116]:List UInt8),([115,110,100]:List UInt8),([108,101,116]:List UInt8)]:List ((List UInt8))) (Qm (a0-4))) λ(x2:(List UInt8))=>some x2)
def J88(rc:Tm->Option ((List UInt8)))(a0:Tm):Option ((List UInt8)):=cond ((a0.kind==0)) (Option.bind (J9b a0.index) λ(x1:(List UInt8))=>Q7 (Nat.ble (([35]:List UInt8).length+x1.length) 1000000000) (some (([35]:List UInt8)++x1))) (cond ((a0.kind==12)) (Option.bind (J9b a0.index) λ(x2:(List UInt8))=>Q7 (Nat.ble (([63]:List UInt8).length+x2.length) 1000000000) (some (([63]:List UInt8)++x2))) (cond ((a0.kind==1)) (some ([112,114,111,112]:List UInt8)) (cond ((a0.kind==2)) (Option.bind (QT a0.levels 0) λ(x3:Lvl)=>Option.bind (J9a x3) λ(x4:(List UInt8)×Int)=>Q7 (Nat.ble (([40,115,111,114,116,32,91]:List UInt8).length+x4.1.length) 1000000000) (Q7 (Nat.ble ((([40,115,111,114,116,32,91]:List UInt8)++x4.1).length+([93,41]:List UInt8).length) 1000000000) (some ((([40,115,111,114,116,32,91]:List UInt8)++x4.1)++([93,41]:List UInt8))))) (cond ((a0.kind==3)) (Option.bind (cond (((a0.levels.length:Int)==0)) (some (!(a0.name==([112,114,111,112]:List UInt8)))) (some false)) λ(v5:Bool)=>cond v5 (some a0.name) (Q7 (Nat.ble (([40,99,111,110,115,116,32]:List UInt8).length+a0.name.length) 1000000000) (Option.bind (Qa (σ:=(List UInt8)×Int) (β:=(List UInt8)) (λs10=>cond ((decide (s10.2<(a0.levels.length:Int)))) (Option.bind (QT a0.levels s10.2) λ(x12:Lvl)=>Option.bind (J9a x12) λ(x13:(List UInt8)×Int)=>Q7 (Nat.ble (([32,91]:List UInt8).length+x13.1.length) 1000000000) (Q7 (Nat.ble ((([32,91]:List UInt8)++x13.1).length+([93]:List UInt8).length) 1000000000) (Q7 (Nat.ble (s10.1.length+((([32,91]:List UInt8)++x13.1)++([93]:List UInt8)).length) 1000000000) (some (.next ((s10.1++((([32,91]:List UInt8)++x13.1)++([93]:List UInt8))),(Qm (s10.2+1)))))))) (some (.done s10.1))) Qd ((([40,99,111,110,115,116,32]:List UInt8)++a0.name),0)) λ(v11:(List UInt8))=>Q7 (Nat.ble (v11.length+([41]:List UInt8).length) 1000000000) (some (v11++([41]:List UInt8)))))) (Option.bind (J9l a0.kind) λ(x14:(List UInt8))=>Q7 (Nat.ble (([40]:List UInt8).length+x14.length) 1000000000) (Option.bind (Qa (σ:=(List UInt8)×Int) (β:=(List UInt8)) (λs19=>cond ((decide (s19.2<(a0.kids.length:Int)))) (Option.bind (QT a0.kids s19.2) λ(x21:Tm)=>Option.bind (rc x21) λ(x22:(List UInt8))=>Q7 (Nat.ble (([32]:List UInt8).length+x22.length) 1000000000) (Q7 (Nat.ble (s19.1.length+(([32]:List UInt8)++x22).length) 1000000000) (some (.next ((s19.1++(([32]:List UInt8)++x22)),(Qm (s19.2+1))))))) (some (.done s19.1))) Qd ((([40]:List UInt8)++x14),0)) λ(v20:(List UInt8))=>Q7 (Nat.ble (v20.length+([41]:List UInt8).length) 1000000000) (some (v20++([41]:List UInt8)))))))))
def J89:Tm->Option ((List UInt8)):=Jo (λrc v=>J88 rc v) Qd
def J9m(a0:Tm):Option ((List UInt8)):=J89 a0
def J9n(a0:Tm):Option ((List UInt8)×Int):=Option.bind (J5a a0 1000000 1000000 1000000 1000000) λ(x1:Int)=>cond ((x1 != 0)) (some (([]:List UInt8),x1)) (Option.bind (J9m a0) λ(x2:(List UInt8))=>cond ((decide (65536<(x2.length:Int)))) (some (([]:List UInt8),5)) (some (x2,0)))
end
section
open Go.RowKit Go.Shelf
theorem KN{σ β:Type}{step:σ->Option (LO σ β)}(I:σ->Prop)(μ:σ->Nat)(spec:σ->β)(h:∀s,I s->(step s=some (.done (spec s)))\/(∃s',step s=some (.next s')/\I s'/\μ s'<μ s/\spec s'=spec s)):∀(n:Nat)(s:σ),I s->μ s<n->Qa step n s=some (spec s)|0,_,_,h0=>absurd h0 (PR _)|n+1,s,hs,hn=>by rcases h s hs with h1|⟨s',h1,h2,h3,h4⟩;simp only[Qa,h1];simp only[Qa,h1];rw[KN I μ spec h n s' h2 (by omega),h4]
theorem Q40{α:Type}{l:List α}{i:Int}{x:α}(h0:0<=i)(hx:l[i.toNat]?=some x):QT l i=some x:=by obtain⟨k,rfl⟩:=Sm h0;simpa[QT]using hx
theorem Qd2{k n:Nat}(h:k<n)(hn:n<=1000000000):Qm ((k:Int)+1)=((k+1:Nat):Int):=by rw[J7 (by omega) (by omega)];rfl
theorem Qv8{n:Int}(h:-65536<=n/\n<=7):Qm (-1-n) = -1-n:=J7 (by omega) (by omega)
def Qwa(v:Jc0):Prop:=-65536<=v.1/\v.1<=7/\0<=v.2/\v.2<=100
theorem ZH{l:Lvl}(h:DM l){x:Jc0}(hx:x∈l.vs):Qwa x:=by obtain⟨a,b,e⟩:=List.append_of_mem hx;have:=h.2.2.2 a x b e;unfold Q5j at this;simp only[not_or,Int.not_lt]at this;exact⟨this.1,this.2.1,this.2.2.1,this.2.2.2.1⟩
theorem Quh{l:Lvl}(h:DM l)(hn:l.vs.length<=900000000):∀(k:Nat)(x:Jc0),l.vs[k]?=some x->-65536+(k:Int)<=x.1|0,x,hx=>by have:=(ZH h (Cr hx)).1;omega|k+1,x,hx=>by obtain⟨hk,e⟩:=Ce.1 hx;obtain⟨y,hy⟩:∃y,l.vs[k]?=some y:=⟨_,Cq (by omega)⟩;have ih:=Quh h hn k y hy;(have e1:l.vs=l.vs.take (k+1)++x::l.vs.drop (k+2):=by conv=>lhs;rw[<-PO (k+1) l.vs,PQ hk,e]);have h1:=h.2.2.2 _ _ _ e1;unfold Q5j at h1;simp only[not_or]at h1;(have hl:(l.vs.take (k+1)).length=k+1:=by rw[CP];omega);rw[hl]at h1;have h2:=h1.2.2.2.2;by_cases hc:x.1<=y.1;refine(h2 ⟨by omega,y,?_,hc⟩).elim;rw[J7 (by omega) (by omega),show((k+1:Nat):Int)-1=(k:Int) by omega];exact hy;omega
theorem Qc7{l:Lvl}(h:DM l)(hn:l.vs.length<=900000000):l.vs.length<=65544:=by rcases S0 l.vs.length with h0|h0;omega;obtain⟨x,hx⟩:∃x,l.vs[l.vs.length-1]?=some x:=⟨_,Cq (by omega)⟩;have h1:=Quh h hn _ x hx;have h2:=(ZH h (Cr hx)).2.1;omega
abbrev JO(n:Nat):Jc6:=Lib.decDigits n
theorem Gd{n:Nat}(h:n<10):JO n=[UInt8.ofNat (48+n)]:=by unfold JO Lib.decDigits;rw[dif_pos h]
theorem Zm{n:Nat}(h:¬n<10):JO n=JO (n / 10)++[UInt8.ofNat (48+n%10)]:=by show Lib.decDigits n=_;rw[Lib.decDigits,dif_neg h]
theorem ZZ{k:Nat}(h:k<10):(UInt8.ofNat (48+k)).toNat=48+k:=by rw[UInt8.toNat_ofNat'];omega
theorem Q02:∀(k n:Nat),n<10 ^ (k+1)->(JO n).length<=k+1|0,n,h=>by rw[Gd (by omega)];exact Ck _|k+1,n,h=>by by_cases h1:n<10;rw[Gd h1];exact Nat.succ_le_succ (Cs _);rw[Zm h1,C3];have:=Q02 k (n / 10) (by rw[Nat.pow_succ]at h;omega);simp;omega
theorem Q01(n:Nat):0<(JO n).length:=by by_cases h:n<10;rw[Gd h];exact Nat.zero_lt_one;rw[Zm h,C3];simp
def G1(p:Int):Jc6:=if 0<p then[32,43,32]++JO p.toNat else[]
def Q0k(c:UInt8)(n:Nat)(p:Int):Jc6:=c::(JO n++G1 p)
def W6(x:Jc0):Jc6:=if 0<=x.1 then Q0k 117 x.1.toNat x.2 else Q0k 63 (-1-x.1).toNat x.2
def Zv:List Jc6->Jc6|[]=>[]|[x]=>x|x::y::r=>x++([44,32]++Zv (y::r))
theorem Qv{α:Type}{b:Bool}{x:Option α}(h:b=true):Q7 b x=x:=by unfold Q7;rw[h];rfl
theorem Qln{a:Int}(h0:0<=a):Lib.itoa a=JO a.toNat:=by unfold Lib.itoa;rw[C4 (by omega)]
theorem KS{a:Int}(h1:a<1000000):(JO a.toNat).length<=6:=Q02 5 _ (by omega)
theorem Qhd{a:Int}(h0:0<=a)(h1:a<1000000):Qrw a=some (JO a.toNat):=by unfold Qrw;rw[Qv (by rw[C7 (by omega),C7 (by omega)];rfl),Qln h0]
theorem Qkx{c:UInt8}{a p:Int}(h0:0<=a)(h1:a<1000000)(p0:0<=p)(p1:p<=100):Qho [c] a p=some (Q0k c a.toNat p):=by have la:=KS h1;have lp:=KS (a:=p) (by omega);unfold Qho Q0k G1;rw[Qhd h0 h1,C0];rw[Qv (Cb (by simp only[C2,Ci];omega))];by_cases hp:0<p;rw[C7 hp,C9,Ca hp,Qhd p0 (by omega),C0];rw[Qv (Cb (by simp only[C2,Ci];omega)),Qv (Cb (by simp only[C3,C2,Ci];omega))];simp;rw[C8 hp,Cf,C4 hp];simp
theorem Qq1{x:Jc0}(h:0<=x.1):W6 x=Q0k 117 x.1.toNat x.2:=by unfold W6;rw[Ca h]
theorem Qq2{x:Jc0}(h:x.1<0):W6 x=Q0k 63 (-1-x.1).toNat x.2:=by unfold W6;rw[C4 (by omega)]
abbrev Qaq(vs:List Jc0):List Jc6:=(vs.filter λx=>decide (0<=x.1)).map W6
abbrev Qaz(vs:List Jc0):List Jc6:=(vs.filter λx=>decide (x.1<0)).map W6
theorem Qn6(x:Jc0)(vs:List Jc0):Qaq (x::vs)=(if 0<=x.1 then[W6 x]else[])++Qaq vs:=by unfold Qaq;rw[CI];by_cases h:0<=x.1;rw[Ca (C7 h),Ca h];rfl;rw[C4 (by simpa using h),C4 h];rfl
theorem Qng(x:Jc0)(vs:List Jc0):Qaz (x::vs)=(if x.1<0 then[W6 x]else[])++Qaz vs:=by unfold Qaz;rw[CI];by_cases h:x.1<0;rw[Ca (C7 h),Ca h];rfl;rw[C4 (by simpa using h),C4 h];rfl
theorem Qih{α:Type}{l:List α}{k:Nat}{x:α}(h:l[k]?=some x):l.drop k=x::l.drop (k+1):=by obtain⟨hk,e⟩:=Ce.1 h;rw[PQ hk,e]
theorem Qvj{α:Type}{l:List α}{k:Nat}{x:α}(h:l[k]?=some x):(l.take (k+1)).reverse=x::(l.take k).reverse:=by obtain⟨hk,e⟩:=Ce.1 h;rw[SC,h,List.reverse_append];rfl
def J7i(a0:Lvl):(Int×(List ((List UInt8))))->Option (LO (Int×(List ((List UInt8)))) ((List ((List UInt8))))):=(λs12=>cond ((decide (s12.1<(a0.vs.length:Int)))) (Option.bind (QT a0.vs s12.1) λ(x14:Jc0)=>cond ((decide (0<=x14.1))) (Option.bind (Qho ([117]:List UInt8) x14.1 x14.2) λ(x15:(List UInt8))=>Q7 (Nat.ble (s12.2.length+([x15]:List ((List UInt8))).length) 1000000000) (some (.next ((Qm (s12.1+1)),(s12.2++([x15]:List ((List UInt8)))))))) (some (.next ((Qm (s12.1+1)),s12.2)))) (some (.done s12.2)))
def J7h(a0:Lvl):(Int×(List ((List UInt8))))->Option (LO (Int×(List ((List UInt8)))) ((List ((List UInt8))))):=(λs31=>cond ((decide (0<=s31.1))) (Option.bind (Option.bind (QT a0.vs s31.1) λ(x36:Jc0)=>cond ((decide (x36.1<0))) (Option.bind (Qho ([63]:List UInt8) (Qm ((-1)-x36.1)) x36.2) λ(x37:(List UInt8))=>Q7 (Nat.ble (s31.2.length+([x37]:List ((List UInt8))).length) 1000000000) (some (s31.2++([x37]:List ((List UInt8)))))) (some s31.2)) λ(v35:(List ((List UInt8))))=>some (.next ((Qm (s31.1-1)),v35))) (some (.done s31.2)))
section
variable{l:Lvl}(hv:DM l)(hl:l.vs.length<=65544)
include hv hl
theorem Qvg(k:Nat)(acc:List Jc6)(hk:k<=l.vs.length)(ha:acc.length<=20+k):Qa (J7i l) Qd ((k:Int),acc)=some (acc++Qaq (l.vs.drop k)):=by refine(KN (step:=J7i l) (λs=>∃j:Nat,s.1=(j:Int)/\j<=l.vs.length/\s.2.length<=20+j) (λs=>l.vs.length-s.1.toNat) (λs=>s.2++Qaq (l.vs.drop s.1.toNat)) ?_ Qd ((k:Int),acc) ⟨k,rfl,hk,ha⟩ ?_).trans (by rw[CT]);rintro⟨i,ac⟩ ⟨j,rfl,hj,hb⟩;dsimp only at hb⊢;rw[CT];by_cases hlt:j<l.vs.length;refine .inr ?_;obtain⟨x,hx⟩:∃x,l.vs[j]?=some x:=⟨_,Cq hlt⟩;have ok:=ZH hv (Cr hx);obtain⟨o1,o2,o3,o4⟩:=ok;unfold J7i;rw[C7 (by omega:(j:Int)<l.vs.length),C9,Q40 (S2 _) (by simpa using hx),C0,Qd2 hlt (by omega),Qih hx,Qn6];by_cases h0:0<=x.1;rw[C7 h0,C9,Qkx h0 (by omega) o3 o4,C0,Qv (Cb (by simp only[C2,Ci];omega)),Ca h0,Qq1 h0];exact⟨_,rfl,⟨j+1,rfl,hlt,by simp only[C3,C2,Ci];omega⟩,by simp only[CT];omega,by simp only[CT];simp⟩;rw[C8 h0,Cf,C4 h0];exact⟨_,rfl,⟨j+1,rfl,hlt,by dsimp only;omega⟩,by simp only[CT];omega,by simp only[CT];simp⟩;refine .inl ?_;unfold J7i;rw[C8 (by omega),Cf,List.drop_eq_nil_of_le (by omega)];simp;simp only[CT];unfold Qd;omega
theorem Qvf(acc:List Jc6)(ha:acc.length<=100000):Qa (J7h l) Qd ((l.vs.length:Int)-1,acc)=some (acc++Qaz l.vs.reverse):=by
 refine(KN (step:=J7h l) (λs=>∃j:Nat,s.1=(j:Int)-1/\j<=l.vs.length/\s.2.length+j<=200000) (λs=>(s.1+1).toNat) (λs=>s.2++Qaz (l.vs.take (s.1+1).toNat).reverse) ?_ Qd ((l.vs.length:Int)-1,acc) ⟨l.vs.length,rfl,Ck _,by dsimp only;omega⟩ ?_).trans (by rw[show((l.vs.length:Int)-1+1).toNat=l.vs.length by omega,List.take_length]);rintro⟨i,ac⟩ ⟨j,rfl,hj,hb⟩;dsimp only at hb⊢;rw[show((j:Int)-1+1).toNat=j by omega];cases j with|zero=>refine .inl ?_;unfold J7h;rw[C8 (by dsimp only;omega),Cf];simp|succ k=>refine .inr ?_;rw[show((k+1:Nat):Int)-1=(k:Int) by omega];obtain⟨x,hx⟩:∃x,l.vs[k]?=some x:=⟨_,Cq (by omega)⟩;have ok:=ZH hv (Cr hx);obtain⟨o1,o2,o3,o4⟩:=ok;unfold J7h;dsimp only;rw[C7 (by omega:(0:Int)<=(k:Int)),C9,Q40 (S2 _) (by simpa using hx),C0,J7 (n:=(k:Int)-1) (by omega) (by omega),Qvj hx,Qng];by_cases h0:x.1<0;rw[C7 h0,C9,Qv8 ⟨o1,o2⟩,Qkx (by omega) (by omega) o3 o4,C0,Qv (Cb (by simp only[C2,Ci];omega)),C0,Ca h0,Qq2 h0];exact⟨_,rfl,⟨k,rfl,by omega,by simp only[C3,C2,Ci];omega⟩,by dsimp only;omega,by dsimp only;rw[show((k:Int)-1+1).toNat=k by omega];simp⟩;rw[C8 h0,Cf,C0,C4 h0];exact⟨_,rfl,⟨k,rfl,by omega,by dsimp only;omega⟩,by dsimp only;omega,by dsimp only;rw[show((k:Int)-1+1).toNat=k by omega];simp⟩
 dsimp only;unfold Qd;omega
end
def Q9d(r:List Jc6):Jc6:=(r.map ([44,32]++·)).flatten
theorem WY(x:Jc6):∀r:List Jc6,Zv (x::r)=x++Q9d r|[]=>by simp[Zv,Q9d]|y::r=>by have:=WY y r;simp only[Zv]at this⊢;rw[this];simp[Q9d]
theorem Qn2(r:List Jc6):Lib.join r [44,32]=Zv r:=by cases r with|nil=>rfl|cons x r=>rw[WY,Lib.join_cons];rfl
theorem Q9c:∀(r:List Jc6),(∀x∈r,x.length<=16)->(Q9d r).length<=18*r.length|[],h=>Cs _|x::r,h=>by have:=Q9c r λy hy=>h y (Cg _ hy);have hx:=h x Cd;unfold Q9d at this⊢;simp only[CH,PH,C3,C2,Ci]at this⊢;omega
theorem Qk3(r:List Jc6)(h:∀x∈r,x.length<=16):(Zv r).length<=18*r.length:=by cases r with|nil=>exact Cs _|cons x r=>rw[WY,C3];have:=Q9c r λy hy=>h y (Cg _ hy);have:=h x Cd;simp only[C2];omega
def JJ(l:Lvl):List Jc6:=(if 0<l.c\/l.vs=[]then[JO l.c.toNat]else[])++Qaq l.vs++Qaz l.vs.reverse
theorem Qjr{x:Jc0}(h:Qwa x):(W6 x).length<=16:=by
 obtain⟨h1,h2,h3,h4⟩:=h;have hp:(G1 x.2).length<=9:=by unfold G1;split;have:=KS (a:=x.2) (by omega);simp only[C3,C2,Ci];omega;exact Cs _
 unfold W6 Q0k;split;have:=KS (a:=x.1) (by omega);simp only[C2,C3];omega;have:=KS (a:=-1-x.1) (by omega);simp only[C2,C3];omega
theorem Qds{l:Lvl}(h:DM l):∀x∈JJ l,x.length<=16:=by intro x hx;unfold JJ Qaq Qaz at hx;rcases Cz.1 hx with hx|hx;rcases Cz.1 hx with hx|hx;split at hx;rw[Cw.1 hx];have:=KS (a:=l.c) (by have:=h.2.1;omega);omega;cases hx;obtain⟨y,hy,rfl⟩:=Cu.1 hx;exact Qjr (ZH h (Pq.1 hy).1);obtain⟨y,hy,rfl⟩:=Cu.1 hx;exact Qjr (ZH h (List.mem_reverse.1 (Pq.1 hy).1))
theorem Q88(l:Lvl):(JJ l).length<=2*l.vs.length+1:=by unfold JJ Qaq Qaz;have h1:=S8 (λx:Jc0=>decide (0<=x.1)) l.vs;have h2:=S8 (λx:Jc0=>decide (x.1<0)) l.vs.reverse;rw[Pw]at h2;simp only[C3,Cn];split <;> simp only[C2,Ci] <;> omega
def Zx(l:Lvl):Jc6:=if(JJ l).length=1 then Zv (JJ l)else[109,97,120,40]++Zv (JJ l)++[41]
theorem Q2a(l:Lvl):Zx l=(if(JJ l).length=1 then Zv (JJ l)else[109,97,120,40]++Zv (JJ l)++[41]):=rfl
theorem Q0l{l:Lvl}(h:DM l):(Zx l).length<=36*l.vs.length+23:=by rw[Q2a];have h1:=Qk3 _ (Qds h);have h2:=Q88 l;split;omega;simp only[C3,C2,Ci];omega
theorem Qeu(l:Lvl):(cond (decide (0<l.c)) (some true) (some ((l.vs.length:Int)==0)))=some (decide (0<l.c\/l.vs=[])):=by by_cases h0:0<l.c;rw[C7 h0,C9,C7 (.inl h0)];rw[C8 h0,Cf];cases hl:l.vs with|nil=>simp|cons x r=>simp[h0];omega
theorem Qw9{o:List Jc6}(h:o.length=1):QT o 0=some (Zv o):=by match o,h with|[x],_=>rfl
theorem Jh{α β:Type}{x:Option α}{k:α->Option β}(a:α)(h:x=some a){r:Option β}(h2:k a=r):Option.bind x k=r:=by rw[h];exact h2
theorem Qx0{l:Lvl}(hv:DM l)(hn:l.vs.length<=900000000):Qx1 l=some (Zx l,0):=by
 have hl:=Qc7 hv hn;obtain⟨b,hb1,hb2⟩:=Qb8 l hn;have hb:b=true:=hb2.2 hv;subst hb;have hc:0<=l.c/\l.c<=100:=⟨hv.1,hv.2.1⟩;unfold Qx1;rw[hb1];refine Jh _ (Qeu l) ?_;have l0:(if 0<l.c\/l.vs=[]then[JO l.c.toNat]else[]).length<=1:=by split <;> simp
 refine Jh (if 0<l.c\/l.vs=[]then[JO l.c.toNat]else[]) ?_ ?_;by_cases h:0<l.c\/l.vs=[];rw[C7 h,C9,Ca h,Qhd hc.1 (by omega)];rfl;rw[C8 h,Cf,C4 h];refine Jh _ (Qvg hv hl 0 _ (Cs _) (by omega)) ?_;rw[PM];have l1:=S8 (λx:Jc0=>decide (0<=x.1)) l.vs;rw[J7 (by omega) (by omega)];refine Jh _ (Qvf hv hl _ (by rw[C3,Cn];omega)) ?_;have ep:(if 0<l.c\/l.vs=[]then[JO l.c.toNat]else[])++Qaq l.vs++Qaz l.vs.reverse=JJ l:=rfl;rw[ep];have h16:=Qds hv;have hn:=Q88 l;have hs:=Qk3 _ h16;rw[Q2a];by_cases h1:(JJ l).length=1;rw[Ca h1,show(((JJ l).length:Int)==1)=true by rw[h1];rfl,C9,Qw9 h1,C0];rw[C4 h1,show(((JJ l).length:Int)==1)=false by rw[P4];omega,Cf];unfold J5d;rw[Qn2,Qv (by rw[Cb (by omega),Cb (by omega)];rfl),C0,Qv (Cb (by simp only[C2,Ci];omega)),Qv (Cb (by simp only[C3,C2,Ci];omega))]
end
end
end Go.Proofs.YtjcfppnjamjjhaaGreatDoor
