/- The statement UniverseRefutesUpto is proved here: for every list of bounds and every bound the law returns true, and what it is given reads behind the call as it did before; condition: the arguments are of bulk at most 1048576 (the second form). -/
import Derived.Test.YtkimijmiphkddaaK63
import Derived.Deep.Slices
import Derived.ChangeSame
import Derived.Test.YtkimijmiphkddaaRows
import Derived.Test.YtkimijmiphkddaaProg
import Derived.Test.YtkimijmiphkddaaChecked
import Derived.ProofKit
import Derived.Carry
import Derived.JoinedCond
set_option maxRecDepth 100000
set_option maxHeartbeats 2000000
set_option linter.unusedSimpArgs false
set_option linter.unusedVariables false
set_option linter.unusedSectionVars false
namespace Go.Proofs.Ytkimijmiphkddaa
open Go.RowKit Go.Shelf
theorem en_15:Enters Try.prog 15:=enters_of Try.func15 (by kernel_rfl) rfl
theorem en_31:Enters Try.prog 31:=enters_of Try.func31 (by kernel_rfl) rfl
def m31f10_l0 (x1:(Int×Int×(List LV))) (a1:Bnd) (a0:Nat) (s2:Int×(List Lvl)×Bool):Option (LO (Int×(List Lvl)×Bool) (((List Lvl)×Bool)⊕((Bool×(List Lvl))⊕(Bool×(List Lvl))))) :=
 cond (decide (s2.1 < (x1.2.2.length:Int)))
   (Option.bind (idx x1.2.2 s2.1) fun (x13:LV) =>
 Option.bind (Option.bind (m48f11 a1.hi a0 s2.2.1) fun (x19:(Int×Int×(List LV))) =>
 cond (x19.1 != 0)
   (some (.inr ()))
   (Option.bind (m49f18 0 ([x13]) (⟨x19.2.1,x19.2.2⟩:Lvl)) fun (x21:Bool) =>
 cond x21
   (some (.inl (s2.2.2,s2.2.1)))
   (Option.bind (m54 a1.hi) fun (x23:Int×Int) =>
 cond (decide (x23.1 < 0))
   (some (.inr ()))
   (Option.bind (idx s2.2.1 x23.1) fun (x25:Lvl) =>
 guardO (Nat.beq s2.2.1.length a0)
 (Option.bind (m56 (⟨0,[x13]⟩:Lvl) x23.2) fun (x27:Lvl) =>
 Option.bind (m55 x25 x27) fun (x28:Lvl×Int) =>
 cond (x28.2 != 0)
   (some (.inr ()))
   (Option.bind (idx s2.2.1 x23.1) fun (x30:Lvl) =>
 guardO (Nat.beq s2.2.1.length a0)
 (some (.inl (true,(s2.2.1.set x23.1.toNat x28.1)))))))))) (Sum.elim (fun (y14:Bool×(List Lvl))=>some (.next ((w64 (s2.1+1)),y14.2,y14.1))) (fun (y15:Unit)=>some (.done (.inr (.inr (s2.2.2,s2.2.1)))))))
   (some (.done (.inl (s2.2.1,s2.2.2))))
def m31f10_l1 (x17:(Int×Int×(List LV))) (s5:Int×Int):Option (LO (Int×Int) Int) :=
 cond (decide (s5.2 < (x17.2.2.length:Int)))
   (Option.bind (idx x17.2.2 s5.2) fun (x25:LV) =>
 some (.next ((max s5.1 x25.2),(w64 (s5.2+1)))))
   (some (.done s5.1))
def m31f10_l2 (x17:(Int×Int×(List LV))) (s5:Int):Option (LO Int (Unit⊕Bool)) :=
 cond (decide (s5 < (([]:List LV).length:Int)))
   (Option.bind (idx ([]:List LV) s5) fun (x27:LV) =>
 Option.bind (m70f15 x17.2.2 x27) fun (x28:Bool) =>
 cond (!x28)
   (some (.done (.inr false)))
   (some (.next (w64 (s5+1)))))
   (some (.done (.inl ())))
noncomputable abbrev m31f10_h0 (p0_:Nat) (p1_:Bnd):List (Nat×HB) :=
 [(1,.cells 31 [.osl 0 0 p0_ p0_]),(2,.cells 41 (cE p1_)),(3,.cells 4 [dB false]),(4,.cells 25 [dI 0])]
noncomputable abbrev m31f10_h1 (p0_:List Lvl) (p1_:Nat) (p2_:Bnd) (p3_:(Int×Int×(List LV))):List (Nat×HB) :=
 [(0,.cells 39 (flatE p0_)),(1,.cells 31 [.osl 0 0 p1_ p1_]),(2,.cells 41 (cE p2_)),(3,.cells 4 [dB false]),(4,.cells 25 [dI 0]),(6,.cells 39 [dI p3_.2.1,dS p3_.2.2]),(7,.cells 39 [dI p3_.2.1,dS p3_.2.2]),(8,.cells 4 [dB false])]
noncomputable abbrev m31f10_h2 (p0_:List Lvl) (p1_:Nat) (p2_:Bnd) (p3_:(Int×Int×(List LV))):List (Nat×HB) :=
 [(0,.cells 39 (flatE p0_)),(1,.cells 31 [.osl 0 0 p1_ p1_]),(2,.cells 41 (cE p2_)),(3,.cells 4 [dB false]),(4,.cells 25 [dI 0]),(6,.cells 39 [dI p3_.2.1,dS p3_.2.2]),(7,.cells 39 [dI p3_.2.1,dS p3_.2.2]),(8,.cells 4 [dB false]),(9,.cells 39 [dI p3_.2.1,dS p3_.2.2])]
noncomputable abbrev m31f10_h3 :HB :=
 .loop .ready none [(2,.v (.one (.ptr 1 0))),(3,.v (.one (.ptr 2 0))),(4,.v (.one (.ptr 3 0))),(5,.v (.one (.ptr 4 0))),(8,.v (.one (.ptr 8 0))),(25,.v (.one (.fn 62 [(9,0)])))] 65 #[26] m31f10_c0 m31f10_c1 10
noncomputable abbrev m31f10_h4 (p0_:Bool×(List Lvl)) (p1_:Nat) (p2_:Bnd) (p3_:(Int×Int×(List LV))):List (Nat×HB) :=
 [(0,.cells 39 (flatE p0_.2)),(1,.cells 31 [.osl 0 0 p1_ p1_]),(2,.cells 41 (cE p2_)),(3,.cells 4 [dB false]),(4,.cells 25 [dI 0]),(6,.cells 39 [dI p3_.2.1,dS p3_.2.2]),(7,.cells 39 [dI p3_.2.1,dS p3_.2.2]),(8,.cells 4 [dB p0_.1]),(9,.cells 39 [dI p3_.2.1,dS p3_.2.2]),(10,.obj (.deferred (some []))),(11,m31f10_h3)]
noncomputable abbrev m31f10_h5 :HB :=
 .loop .done (some .ret) [(2,.v (.one (.ptr 1 0))),(3,.v (.one (.ptr 2 0))),(4,.v (.one (.ptr 3 0))),(5,.v (.one (.ptr 4 0))),(8,.v (.one (.ptr 8 0))),(25,.v (.one (.fn 62 [(9,0)])))] 65 #[26] m31f10_c0 m31f10_c1 10
noncomputable abbrev m31f10_h6 (p0_:Bool×(List Lvl)) (p1_:Nat) (p2_:Bnd) (p3_:(Int×Int×(List LV))):List (Nat×HB) :=
 [(0,.cells 39 (flatE p0_.2)),(1,.cells 31 [.osl 0 0 p1_ p1_]),(2,.cells 41 (cE p2_)),(3,.cells 4 [dB false]),(4,.cells 25 [dI 15]),(6,.cells 39 [dI p3_.2.1,dS p3_.2.2]),(7,.cells 39 [dI p3_.2.1,dS p3_.2.2]),(8,.cells 4 [dB p0_.1]),(9,.cells 39 [dI p3_.2.1,dS p3_.2.2]),(10,.obj (.deferred (some []))),(11,m31f10_h5)]
noncomputable abbrev m31f10_h7 (p0_:List Lvl) (p1_:Nat) (p2_:Bnd) (p3_:(Int×Int×(List LV))):List (Nat×HB) :=
 [(0,.cells 39 (flatE p0_)),(1,.cells 31 [.osl 0 0 p1_ p1_]),(2,.cells 41 (cE p2_)),(3,.cells 4 [dB false]),(4,.cells 25 [dI 15]),(6,.cells 39 [dI p3_.2.1,dS p3_.2.2]),(7,.cells 39 [dI p3_.2.1,dS p3_.2.2]),(8,.cells 4 [dB false]),(9,.cells 39 [dI p3_.2.1,dS p3_.2.2]),(10,.obj (.deferred (some []))),(11,m31f10_h5)]
noncomputable abbrev m31f10_h8 (p0_:List Lvl) (p1_:Nat) (p2_:Bnd) (p3_:(Int×Int×(List LV))):List (Nat×HB) :=
 [(0,.cells 39 (flatE p0_)),(1,.cells 31 [.osl 0 0 p1_ p1_]),(2,.cells 41 (cE p2_)),(3,.cells 4 [dB false]),(4,.cells 25 [dI 0]),(6,.cells 39 [dI p3_.2.1,dS p3_.2.2]),(7,.cells 39 [dI p3_.2.1,dS p3_.2.2]),(8,.cells 4 [dB false]),(9,.cells 39 [dI p3_.2.1,dS p3_.2.2]),(10,.obj (.deferred (some []))),(11,m31f10_h3)]
noncomputable abbrev m31f10_h9 :HB :=
 .loop .busy none [(2,.v (.one (.ptr 1 0))),(3,.v (.one (.ptr 2 0))),(4,.v (.one (.ptr 3 0))),(5,.v (.one (.ptr 4 0))),(8,.v (.one (.ptr 8 0))),(25,.v (.one (.fn 62 [(9,0)])))] 65 #[26] m31f10_c0 m31f10_c1 10
noncomputable abbrev m31f10_h10 (p0_:List Lvl) (p1_:Nat) (p2_:Bnd) (p3_:(Int×Int×(List LV))):List (Nat×HB) :=
 [(0,.cells 39 (flatE p0_)),(1,.cells 31 [.osl 0 0 p1_ p1_]),(2,.cells 41 (cE p2_)),(3,.cells 4 [dB false]),(4,.cells 25 [dI 0]),(6,.cells 39 [dI p3_.2.1,dS p3_.2.2]),(7,.cells 39 [dI p3_.2.1,dS p3_.2.2]),(8,.cells 4 [dB false]),(9,.cells 39 [dI p3_.2.1,dS p3_.2.2]),(10,.obj (.deferred (some []))),(11,m31f10_h9),(12,.cells 39 [dI p3_.2.1,dN])]
noncomputable abbrev m31f10_h11 (p0_:List Lvl) (p1_:Nat) (p2_:Bnd) (p3_:(Int×Int×(List LV))):List (Nat×HB) :=
 [(0,.cells 39 (flatE p0_)),(1,.cells 31 [.osl 0 0 p1_ p1_]),(2,.cells 41 (cE p2_)),(3,.cells 4 [dB false]),(4,.cells 25 [dI 0]),(6,.cells 39 [dI p3_.2.1,dS p3_.2.2]),(7,.cells 39 [dI p3_.2.1,dS p3_.2.2]),(8,.cells 4 [dB false]),(9,.cells 39 [dI p3_.2.1,dS p3_.2.2]),(10,.obj (.deferred (some []))),(11,m31f10_h3),(12,.cells 39 [dI p3_.2.1,dN])]
noncomputable abbrev m31f10_h12 (p0_:Bool×(List Lvl)) (p1_:Nat) (p2_:Bnd) (p3_:(Int×Int×(List LV))):List (Nat×HB) :=
 [(0,.cells 39 (flatE p0_.2)),(1,.cells 31 [.osl 0 0 p1_ p1_]),(2,.cells 41 (cE p2_)),(3,.cells 4 [dB false]),(4,.cells 25 [dI 0]),(6,.cells 39 [dI p3_.2.1,dS p3_.2.2]),(7,.cells 39 [dI p3_.2.1,dS p3_.2.2]),(8,.cells 4 [dB p0_.1]),(9,.cells 39 [dI p3_.2.1,dS p3_.2.2]),(10,.obj (.deferred (some []))),(11,m31f10_h9)]
noncomputable abbrev m31f10_h13 (p0_:List Lvl) (p1_:Nat) (p2_:Bnd) (p3_:(Int×Int×(List LV))):List (Nat×HB) :=
 [(0,.cells 39 (flatE p0_)),(1,.cells 31 [.osl 0 0 p1_ p1_]),(2,.cells 41 (cE p2_)),(3,.cells 4 [dB false]),(4,.cells 25 [dI 15]),(6,.cells 39 [dI p3_.2.1,dS p3_.2.2]),(7,.cells 39 [dI p3_.2.1,dS p3_.2.2]),(8,.cells 4 [dB false]),(9,.cells 39 [dI p3_.2.1,dS p3_.2.2]),(10,.obj (.deferred (some []))),(11,m31f10_h9)]
noncomputable abbrev m31f10_h14 (p0_:Nat) (p1_:Bnd) (p2_:(Int×Int×(List LV))):List (Nat×HB) :=
 [(1,.cells 31 [.osl 0 0 p0_ p0_]),(2,.cells 41 (cE p1_)),(3,.cells 4 [dB false]),(4,.cells 25 [dI 0]),(6,.cells 39 [dI p2_.2.1,dS p2_.2.2]),(7,.cells 39 [dI p2_.2.1,dS p2_.2.2]),(8,.cells 4 [dB false]),(9,.cells 39 [dI p2_.2.1,dS p2_.2.2]),(10,.obj (.deferred (some []))),(11,m31f10_h9),(12,.cells 39 [dI p2_.2.1,dN])]
noncomputable abbrev m31f10_h15 (p0_:List Lvl) (p1_:Nat) (p2_:Bnd) (p3_:(Int×Int×(List LV))) (p4_:(Int×Int×(List LV))):List (Nat×HB) :=
 [(0,.cells 39 (flatE p0_)),(1,.cells 31 [.osl 0 0 p1_ p1_]),(2,.cells 41 (cE p2_)),(3,.cells 4 [dB false]),(4,.cells 25 [dI 0]),(6,.cells 39 [dI p3_.2.1,dS p3_.2.2]),(7,.cells 39 [dI p3_.2.1,dS p3_.2.2]),(8,.cells 4 [dB false]),(9,.cells 39 [dI p3_.2.1,dS p3_.2.2]),(10,.obj (.deferred (some []))),(11,m31f10_h9),(12,.cells 39 [dI p3_.2.1,dN]),(14,.cells 39 [dI p4_.2.1,dS p4_.2.2]),(15,.cells 39 [dI p4_.2.1,dS p4_.2.2])]
noncomputable abbrev m31f10_h16 (p0_:List Lvl) (p1_:Nat) (p2_:Bnd) (p3_:(Int×Int×(List LV))) (p4_:(Int×Int×(List LV))):List (Nat×HB) :=
 [(0,.cells 39 (flatE p0_)),(1,.cells 31 [.osl 0 0 p1_ p1_]),(2,.cells 41 (cE p2_)),(3,.cells 4 [dB false]),(4,.cells 25 [dI 0]),(6,.cells 39 [dI p3_.2.1,dS p3_.2.2]),(7,.cells 39 [dI p3_.2.1,dS p3_.2.2]),(8,.cells 4 [dB false]),(9,.cells 39 [dI p3_.2.1,dS p3_.2.2]),(10,.obj (.deferred (some []))),(11,m31f10_h9),(12,.cells 39 [dI p3_.2.1,dN]),(14,.cells 39 [dI p4_.2.1,dS p4_.2.2]),(15,.cells 39 [dI p4_.2.1,dS p4_.2.2]),(16,.cells 39 [dI p3_.2.1,dN]),(17,.cells 39 [dI p4_.2.1,dS p4_.2.2])]
noncomputable abbrev m31f10_h17 (p0_:List Lvl) (p1_:Nat) (p2_:Bnd) (p3_:(Int×Int×(List LV))):List (Nat×HB) :=
 [(0,.cells 39 (flatE p0_)),(1,.cells 31 [.osl 0 0 p1_ p1_]),(2,.cells 41 (cE p2_)),(3,.cells 4 [dB false]),(4,.cells 25 [dI 0]),(6,.cells 39 [dI p3_.2.1,dS p3_.2.2]),(7,.cells 39 [dI p3_.2.1,dS p3_.2.2]),(8,.cells 4 [dB false]),(9,.cells 39 [dI p3_.2.1,dS p3_.2.2]),(10,.obj (.deferred (some []))),(11,m31f10_h9)]
noncomputable abbrev m31f10_h18 (p0_:List Lvl) (p1_:Nat) (p2_:Bnd) (p3_:(Int×Int×(List LV))) (p4_:(Int×Int×(List LV))) (p5_:Lvl×Int):List (Nat×HB) :=
 [(0,.cells 39 (flatE p0_)),(1,.cells 31 [.osl 0 0 p1_ p1_]),(2,.cells 41 (cE p2_)),(3,.cells 4 [dB false]),(4,.cells 25 [dI 0]),(6,.cells 39 [dI p3_.2.1,dS p3_.2.2]),(7,.cells 39 [dI p3_.2.1,dS p3_.2.2]),(8,.cells 4 [dB false]),(9,.cells 39 [dI p3_.2.1,dS p3_.2.2]),(10,.obj (.deferred (some []))),(11,m31f10_h9),(12,.cells 39 [dI p3_.2.1,dN]),(14,.cells 39 [dI p4_.2.1,dS p4_.2.2]),(15,.cells 39 [dI p4_.2.1,dS p4_.2.2]),(18,.cells 39 (cE p5_.1))]
noncomputable abbrev m31f10_h19 (p0_:List Lvl) (p1_:Int×Int) (p2_:Lvl×Int) (p3_:Nat) (p4_:Bnd) (p5_:(Int×Int×(List LV))):List (Nat×HB) :=
 [(0,.cells 39 (flatE ((p0_.set p1_.1.toNat p2_.1):List Lvl))),(1,.cells 31 [.osl 0 0 p3_ p3_]),(2,.cells 41 (cE p4_)),(3,.cells 4 [dB false]),(4,.cells 25 [dI 0]),(6,.cells 39 [dI p5_.2.1,dS p5_.2.2]),(7,.cells 39 [dI p5_.2.1,dS p5_.2.2]),(8,.cells 4 [dB true]),(9,.cells 39 [dI p5_.2.1,dS p5_.2.2]),(10,.obj (.deferred (some []))),(11,m31f10_h9)]
noncomputable abbrev m31f10_h20 (p0_:Int×(List Lvl)×Bool) (p1_:Nat) (p2_:Bnd) (p3_:(Int×Int×(List LV))) (p4_:LV):List (Nat×HB) :=
 [(0,.cells 39 (flatE p0_.2.1)),(1,.cells 31 [.osl 0 0 p1_ p1_]),(2,.cells 41 (cE p2_)),(3,.cells 4 [dB false]),(4,.cells 25 [dI 0]),(6,.cells 39 [dI p3_.2.1,dS p3_.2.2]),(7,.cells 39 [dI p3_.2.1,dS p3_.2.2]),(8,.cells 4 [dB p0_.2.2]),(9,.cells 39 [dI p3_.2.1,dS p3_.2.2]),(10,.obj (.deferred (some []))),(11,m31f10_h3),(12,.cells 59 (cE p4_))]
noncomputable abbrev m31f10_h21 (p0_:Int×(List Lvl)×Bool) (p1_:Nat) (p2_:Bnd) (p3_:(Int×Int×(List LV))) (p4_:LV):List (Nat×HB) :=
 [(0,.cells 39 (flatE p0_.2.1)),(1,.cells 31 [.osl 0 0 p1_ p1_]),(2,.cells 41 (cE p2_)),(3,.cells 4 [dB false]),(4,.cells 25 [dI 0]),(6,.cells 39 [dI p3_.2.1,dS p3_.2.2]),(7,.cells 39 [dI p3_.2.1,dS p3_.2.2]),(8,.cells 4 [dB p0_.2.2]),(9,.cells 39 [dI p3_.2.1,dS p3_.2.2]),(10,.obj (.deferred (some []))),(11,m31f10_h9),(12,.cells 59 (cE p4_)),(14,.cells 39 [dI 0,dA 13 ([p4_]:List LV)])]
noncomputable abbrev m31f10_h22 (p0_:Int×(List Lvl)×Bool) (p1_:Nat) (p2_:Bnd) (p3_:(Int×Int×(List LV))) (p4_:LV):List (Nat×HB) :=
 [(0,.cells 39 (flatE p0_.2.1)),(1,.cells 31 [.osl 0 0 p1_ p1_]),(2,.cells 41 (cE p2_)),(3,.cells 4 [dB false]),(4,.cells 25 [dI 0]),(6,.cells 39 [dI p3_.2.1,dS p3_.2.2]),(7,.cells 39 [dI p3_.2.1,dS p3_.2.2]),(8,.cells 4 [dB p0_.2.2]),(9,.cells 39 [dI p3_.2.1,dS p3_.2.2]),(10,.obj (.deferred (some []))),(11,m31f10_h3),(12,.cells 59 (cE p4_)),(14,.cells 39 [dI 0,dA 13 ([p4_]:List LV)])]
noncomputable abbrev m31f10_h23 (p0_:Bool×(List Lvl)) (p1_:Nat) (p2_:Bnd) (p3_:(Int×Int×(List LV))) (p4_:LV):List (Nat×HB) :=
 [(0,.cells 39 (flatE p0_.2)),(1,.cells 31 [.osl 0 0 p1_ p1_]),(2,.cells 41 (cE p2_)),(3,.cells 4 [dB false]),(4,.cells 25 [dI 0]),(6,.cells 39 [dI p3_.2.1,dS p3_.2.2]),(7,.cells 39 [dI p3_.2.1,dS p3_.2.2]),(8,.cells 4 [dB p0_.1]),(9,.cells 39 [dI p3_.2.1,dS p3_.2.2]),(10,.obj (.deferred (some []))),(11,m31f10_h9),(12,.cells 59 (cE p4_))]
noncomputable abbrev m31f10_h24 (p0_:Int×(List Lvl)×Bool) (p1_:Nat) (p2_:Bnd) (p3_:(Int×Int×(List LV))) (p4_:LV):List (Nat×HB) :=
 [(0,.cells 39 (flatE p0_.2.1)),(1,.cells 31 [.osl 0 0 p1_ p1_]),(2,.cells 41 (cE p2_)),(3,.cells 4 [dB false]),(4,.cells 25 [dI 15]),(6,.cells 39 [dI p3_.2.1,dS p3_.2.2]),(7,.cells 39 [dI p3_.2.1,dS p3_.2.2]),(8,.cells 4 [dB p0_.2.2]),(9,.cells 39 [dI p3_.2.1,dS p3_.2.2]),(10,.obj (.deferred (some []))),(11,m31f10_h9),(12,.cells 59 (cE p4_))]
noncomputable abbrev m31f10_h25 (p0_:Nat) (p1_:Bnd) (p2_:(Int×Int×(List LV))) (p3_:Int×(List Lvl)×Bool) (p4_:LV):List (Nat×HB) :=
 [(1,.cells 31 [.osl 0 0 p0_ p0_]),(2,.cells 41 (cE p1_)),(3,.cells 4 [dB false]),(4,.cells 25 [dI 0]),(6,.cells 39 [dI p2_.2.1,dS p2_.2.2]),(7,.cells 39 [dI p2_.2.1,dS p2_.2.2]),(8,.cells 4 [dB p3_.2.2]),(9,.cells 39 [dI p2_.2.1,dS p2_.2.2]),(10,.obj (.deferred (some []))),(11,m31f10_h9),(12,.cells 59 (cE p4_)),(14,.cells 39 [dI 0,dA 13 ([p4_]:List LV)])]
noncomputable abbrev m31f10_h26 (p0_:Int×(List Lvl)×Bool) (p1_:Nat) (p2_:Bnd) (p3_:(Int×Int×(List LV))) (p4_:LV) (p5_:(Int×Int×(List LV))):List (Nat×HB) :=
 [(0,.cells 39 (flatE p0_.2.1)),(1,.cells 31 [.osl 0 0 p1_ p1_]),(2,.cells 41 (cE p2_)),(3,.cells 4 [dB false]),(4,.cells 25 [dI 0]),(6,.cells 39 [dI p3_.2.1,dS p3_.2.2]),(7,.cells 39 [dI p3_.2.1,dS p3_.2.2]),(8,.cells 4 [dB p0_.2.2]),(9,.cells 39 [dI p3_.2.1,dS p3_.2.2]),(10,.obj (.deferred (some []))),(11,m31f10_h9),(12,.cells 59 (cE p4_)),(14,.cells 39 [dI 0,dA 13 ([p4_]:List LV)]),(16,.cells 39 [dI p5_.2.1,dS p5_.2.2]),(17,.cells 39 [dI p5_.2.1,dS p5_.2.2])]
noncomputable abbrev m31f10_h27 (p0_:Int×(List Lvl)×Bool) (p1_:Nat) (p2_:Bnd) (p3_:(Int×Int×(List LV))) (p4_:LV):List (Nat×HB) :=
 [(0,.cells 39 (flatE p0_.2.1)),(1,.cells 31 [.osl 0 0 p1_ p1_]),(2,.cells 41 (cE p2_)),(3,.cells 4 [dB false]),(4,.cells 25 [dI 0]),(6,.cells 39 [dI p3_.2.1,dS p3_.2.2]),(7,.cells 39 [dI p3_.2.1,dS p3_.2.2]),(8,.cells 4 [dB p0_.2.2]),(9,.cells 39 [dI p3_.2.1,dS p3_.2.2]),(10,.obj (.deferred (some []))),(11,m31f10_h9),(12,.cells 59 (cE p4_))]
noncomputable abbrev m31f10_h28 (p0_:Int×(List Lvl)×Bool) (p1_:Nat) (p2_:Bnd) (p3_:(Int×Int×(List LV))) (p4_:LV) (p5_:(Int×Int×(List LV))) (p6_:Lvl×Int):List (Nat×HB) :=
 [(0,.cells 39 (flatE p0_.2.1)),(1,.cells 31 [.osl 0 0 p1_ p1_]),(2,.cells 41 (cE p2_)),(3,.cells 4 [dB false]),(4,.cells 25 [dI 0]),(6,.cells 39 [dI p3_.2.1,dS p3_.2.2]),(7,.cells 39 [dI p3_.2.1,dS p3_.2.2]),(8,.cells 4 [dB p0_.2.2]),(9,.cells 39 [dI p3_.2.1,dS p3_.2.2]),(10,.obj (.deferred (some []))),(11,m31f10_h9),(12,.cells 59 (cE p4_)),(14,.cells 39 [dI 0,dA 13 ([p4_]:List LV)]),(16,.cells 39 [dI p5_.2.1,dS p5_.2.2]),(17,.cells 39 [dI p5_.2.1,dS p5_.2.2]),(20,.cells 39 (cE p6_.1))]
noncomputable abbrev m31f10_h29 (p0_:Int×(List Lvl)×Bool) (p1_:Int×Int) (p2_:Lvl×Int):HB :=
 .cells 39 (flatE ((p0_.2.1.set p1_.1.toNat p2_.1):List Lvl))
noncomputable abbrev m31f10_h30 (p0_:Int×(List Lvl)×Bool) (p1_:Int×Int) (p2_:Lvl×Int) (p3_:Nat) (p4_:Bnd) (p5_:(Int×Int×(List LV))) (p6_:LV):List (Nat×HB) :=
 [(0,m31f10_h29 p0_ p1_ p2_),(1,.cells 31 [.osl 0 0 p3_ p3_]),(2,.cells 41 (cE p4_)),(3,.cells 4 [dB false]),(4,.cells 25 [dI 0]),(6,.cells 39 [dI p5_.2.1,dS p5_.2.2]),(7,.cells 39 [dI p5_.2.1,dS p5_.2.2]),(8,.cells 4 [dB true]),(9,.cells 39 [dI p5_.2.1,dS p5_.2.2]),(10,.obj (.deferred (some []))),(11,m31f10_h9),(12,.cells 59 (cE p6_))]
noncomputable abbrev m31f10_h31 (p0_:Int×(List Lvl)×Bool) (p1_:Nat) (p2_:Bnd) (p3_:(Int×Int×(List LV))):List (Nat×HB) :=
 [(0,.cells 39 (flatE p0_.2.1)),(1,.cells 31 [.osl 0 0 p1_ p1_]),(2,.cells 41 (cE p2_)),(3,.cells 4 [dB false]),(4,.cells 25 [dI 15]),(6,.cells 39 [dI p3_.2.1,dS p3_.2.2]),(7,.cells 39 [dI p3_.2.1,dS p3_.2.2]),(8,.cells 4 [dB p0_.2.2]),(9,.cells 39 [dI p3_.2.1,dS p3_.2.2]),(10,.obj (.deferred (some []))),(11,m31f10_h5)]
noncomputable abbrev m31f10_h32 (p0_:(List Lvl)×Bool) (p1_:Nat) (p2_:Bnd) (p3_:(Int×Int×(List LV))):List (Nat×HB) :=
 [(0,.cells 39 (flatE p0_.1)),(1,.cells 31 [.osl 0 0 p1_ p1_]),(2,.cells 41 (cE p2_)),(3,.cells 4 [dB false]),(4,.cells 25 [dI 0]),(6,.cells 39 [dI p3_.2.1,dS p3_.2.2]),(7,.cells 39 [dI p3_.2.1,dS p3_.2.2]),(8,.cells 4 [dB p0_.2]),(9,.cells 39 [dI p3_.2.1,dS p3_.2.2]),(10,.obj (.deferred (some []))),(11,m31f10_h3)]
noncomputable abbrev m31f10_h33 (p0_:(Bool×Int×(List Lvl))):List (Nat×HB) :=
 [(0,.cells 39 (flatE p0_.2.2)),(3,.cells 4 [dB p0_.1]),(4,.cells 25 [dI p0_.2.1])]
def m31f10 (a0:Nat) (a1:Bnd) (a2:List Lvl):Option ((Bool×Int×(List Lvl))) :=
 Option.bind (m48f11 a1.lo a0 a2) fun (x1:(Int×Int×(List LV))) =>
 cond (x1.1 != 0)
   (some (false,15,a2))
   (Option.bind (some ()) (fun (y3:Unit)=>Option.bind (Option.bind (cond (decide (0 < x1.2.1))
   (Option.bind (Option.bind (m48f11 a1.hi a0 a2) fun (x17:(Int×Int×(List LV))) =>
 cond (x17.1 != 0)
   (some (.inr ()))
   (Option.bind (Option.bind (Option.bind (m28 (⟨x1.2.1,([]:List LV)⟩:Lvl)) fun (x22:Bool) =>
 cond (!x22)
   (some true)
   (Option.bind (m28 (⟨x17.2.1,x17.2.2⟩:Lvl)) fun (x24:Bool) =>
 some (!x24))) (fun (v21:Bool)=>cond v21
   (some false)
   (Option.bind (loopN (m31f10_l1 x17) FUEL (x17.2.1,0)) (fun (o23:Int)=>cond (decide (o23 < x1.2.1))
   (some false)
   (Option.bind (loopN (m31f10_l2 x17) FUEL 0) (Sum.elim (fun (o25:Unit)=>some true) (fun o=>some o))))))) (fun (y19:Bool)=>cond y19
   (some (.inl (false,a2)))
   (Option.bind (m54 a1.hi) fun (x38:Int×Int) =>
 cond (decide (x38.1 < 0))
   (some (.inr ()))
   (Option.bind (idx a2 x38.1) fun (x40:Lvl) =>
 guardO (Nat.beq a2.length a0)
 (Option.bind (m56 (⟨x1.2.1,([]:List LV)⟩:Lvl) x38.2) fun (x42:Lvl) =>
 Option.bind (m55 x40 x42) fun (x43:Lvl×Int) =>
 cond (x43.2 != 0)
   (some (.inr ()))
   (Option.bind (idx a2 x38.1) fun (x45:Lvl) =>
 guardO (Nat.beq a2.length a0)
 (some (.inl (true,(a2.set x38.1.toNat x43.1))))))))))) (Sum.elim (fun (y12:Bool×(List Lvl))=>some (.inl (y12.1,y12.2))) (fun (y13:Unit)=>some (.inr ()))))
   (cond ((x1.2.2.length:Int)==0)
   (Option.bind (Option.bind (m48f11 a1.hi a0 a2) fun (x53:(Int×Int×(List LV))) =>
 cond (x53.1 != 0)
   (some (.inr ()))
   (Option.bind (Option.bind (Option.bind (m28 (⟨x1.2.1,([]:List LV)⟩:Lvl)) fun (x58:Bool) =>
 cond (!x58)
   (some true)
   (Option.bind (m28 (⟨x53.2.1,x53.2.2⟩:Lvl)) fun (x60:Bool) =>
 some (!x60))) (fun (v57:Bool)=>cond v57
   (some false)
   (Option.bind (loopN (m31f10_l1 x53) FUEL (x53.2.1,0)) (fun (o59:Int)=>cond (decide (o59 < x1.2.1))
   (some false)
   (Option.bind (loopN (m31f10_l2 x53) FUEL 0) (Sum.elim (fun (o61:Unit)=>some true) (fun o=>some o))))))) (fun (y55:Bool)=>cond y55
   (some (.inl (false,a2)))
   (Option.bind (m54 a1.hi) fun (x74:Int×Int) =>
 cond (decide (x74.1 < 0))
   (some (.inr ()))
   (Option.bind (idx a2 x74.1) fun (x76:Lvl) =>
 guardO (Nat.beq a2.length a0)
 (Option.bind (m56 (⟨x1.2.1,([]:List LV)⟩:Lvl) x74.2) fun (x78:Lvl) =>
 Option.bind (m55 x76 x78) fun (x79:Lvl×Int) =>
 cond (x79.2 != 0)
   (some (.inr ()))
   (Option.bind (idx a2 x74.1) fun (x81:Lvl) =>
 guardO (Nat.beq a2.length a0)
 (some (.inl (true,(a2.set x74.1.toNat x79.1))))))))))) (Sum.elim (fun (y48:Bool×(List Lvl))=>some (.inl (y48.1,y48.2))) (fun (y49:Unit)=>some (.inr ()))))
   (some (.inl (false,a2))))) (Sum.elim (fun (v9:Bool×(List Lvl))=>Option.bind (loopN (m31f10_l0 x1 a1 a0) FUEL (0,v9.2,v9.1)) (Sum.elim (fun (o11:(List Lvl)×Bool)=>some (.inl (o11.2,o11.1))) (fun o=>some o))) (fun (v10:Unit)=>some (.inr (false,a2))))) (Sum.elim (fun (y5:Bool×(List Lvl))=>some (y5.1,0,y5.2)) (fun (y6:Bool×(List Lvl))=>some (false,15,y6.2)))))
theorem m31f10_ok (a0:Nat) (a1:Bnd) (a2:List Lvl) (r:(Bool×Int×(List Lvl))) (h0:m31f10 a0 a1 a2=some r):CallM Try.prog 31 [.one (.osl 0 0 a0 a0),.agg (cE a1)] ⟨[(0,.cells 39 (flatE a2))],[],1⟩ (resOf [.one (dB r.1),.one (dI r.2.1)]) ⟨m31f10_h33 r,[],8⟩:=by
 unfold m31f10 at h0
 refine CallM.of_bodyD ⟨[(4,.v (.one (.ptr 3 0))),(5,.v (.one (.ptr 4 0)))],m31f10_h33 r,[],8,65,[]⟩ Z Z en_31 (lb Z) Z (RAs.cell ag_4 Z Z Z (RAs.cell ag_25 Z Z Z .nil)) (fun w0 M V0 Q hv0 hQ0=>?_)
 simp only [entry]
 refine XC.seq<|XC.region<|XL.put Z Z (lb Z) (OpOK.box Z)<|XL.put Z Z (lb Z) (OpOK.box Z)<|XL.put Z Z (lb Z) (OpOK.alloc z_4 Z)<|XL.put Z Z (lb Z) (OpOK.alloc z_25 Z)<|XL.nil<|XQ.seq<|XC.seq<|XC.region<|rR Z Z Z (RO.fieldOwn fo_41_0 Z)<|rR Z Z Z (RO.loadOwnAgg ag_39 Z Z Z Z)<|rR Z Z Z (RO.loadOwn ag_31 Z Z Z) ?_
 refine bindK h0 (fun x1 hx1 h0=>?_)
 refine XL.put Z Z (lb Z) (OpOK.callG (hp1':=[(0,.cells 39 (flatE a2)),(6,.cells 39 [dI x1.2.1,dS x1.2.2])]) (tk1':=[]) (hpF:=m31f10_h0 a0 a1) (tkF:=[]) (res2:=resOf [.agg [dI x1.2.1,dS x1.2.2],.one (dI x1.1)]) (nx2:=7) [0] Z Z (m48f11_ok a1.lo a0 a2 x1 hx1) Z Z (qF Z (qB Z Z qZ)) Z Z (gF Z gZ) jZ (hA Z) kZ Z Z Z Z Z (bF Z bZ) Z Z Z Z)<|rM Z Z Z<|rR Z Z Z (RO.extract Z Z)<|rR Z Z Z (RO.extract Z Z)<|XL.put Z Z (lb Z) (OpOK.alloc z_39 Z)<|XL.eff Z Z (OpOK.store ag_39 Z Z Z Z (lb Z) Z)<|rA Z Z Z<|XL.nil<|XQ.seq<|XC.seq<|XC.seq<|XC.region<|rM Z Z Z<|rR Z Z Z (RO.binInt Z Z Z) ?_
 refine XL.nil<|XQ.seq ?_
 refine XC.cond (b:=(x1.1 != 0)) Z (fun c2=>?_) (fun c2=>?_)
 replace h0:=condT c2 h0
 refine XC.seq<|XC.region<|XL.eff Z Z (OpOK.store ag_4 Z Z Z Z (lb Z) Z)<|XL.eff Z Z (OpOK.store ag_25 Z Z Z Z (lb Z) Z)<|XL.nil<|XQ.seq<|XC.ret ?_
 have e:=sI h0;subst e
 exact hQ0 _ _ _ (.inr Z) Z (stle (tA Z) (hA Z) kZ Z (Nat.le_trans hv0 (lb Z)) Z Z Z (bF Z (bA Z)) Z Z)
 replace h0:=condF c2 h0
 refine XC.skip<|XQ.seq<|XC.seq<|XC.region<|XL.put Z Z (lb Z) (OpOK.alloc z_4 Z)<|XL.eff Z Z (OpOK.store ag_4 Z Z Z Z (lb Z) Z)<|XL.nil<|XQ.seq<|XC.seq<|XC.seq<|XC.region<|rR Z Z Z (RO.loadOwnAgg ag_39 Z Z Z Z) ?_
 refine bindK h0 (fun y3 h1 h0=>?_)
 have hc4:CallM Try.prog 40 [.agg [dI x1.2.1,dS x1.2.2]] ⟨m31f10_h1 a2 a0 a1 x1,[],9⟩ (resOf [.one (.fn 62 [(9,0)])]) ⟨m31f10_h2 a2 a0 a1 x1,[],10⟩:=by
  refine CallM.of_bodyD ⟨[(2,.v (.one (.fn 62 [(9,0)])))],m31f10_h2 a2 a0 a1 x1,[],10,4,[]⟩ Z Z en_40 (lb Z) Z (RAs.tmp Z .nil) (fun w0 M V0 Q hv1 hQ1=>?_)
  simp only [entry]
  refine XC.seq<|XC.region<|XL.put Z Z (lb Z) (OpOK.box Z)<|rA Z Z Z<|XL.nil<|XQ.seq<|XC.seq<|XC.region<|rR Z Z Z (RO.makeFunc1 Z)<|rA Z Z Z<|XL.nil<|XQ.seq<|XC.ret ?_
  have e:=sI h1;subst e
  exact hQ1 _ _ _ (.inr Z) Z (stle (tA Z) (hA Z) kZ Z (Nat.le_trans hv1 (lb Z)) Z Z Z (bF Z (bA Z)) Z Z)
 refine XL.put Z Z (lb Z) (OpOK.callW Z Z Z hc4 Z (hA Z) kZ)<|XL.nil<|XQ.seq<|XC.block<|XC.less (st':=⟨[(2,.v (.one (.ptr 1 0))),(3,.v (.one (.ptr 2 0))),(4,.v (.one (.ptr 3 0))),(5,.v (.one (.ptr 4 0))),(8,.v (.one (.ptr 8 0))),(25,.v (.one (.fn 62 [(9,0)])))],m31f10_h2 a2 a0 a1 x1,[],10,65,[]⟩) (stle (tA Z) (hA Z) kZ Z (Nat.le_trans hv0 (lb Z)) Z Z Z (bF Z (bA Z)) Z Z) ?_
 refine bindK h0 (fun y8 h1 h0=>?_)
 have hc7:CallM Try.prog 62 [.one (.yld 11),.one (.ptr 9 0)] ⟨[(11,.loop .ready none [(2,.v (.one (.ptr 1 0))),(3,.v (.one (.ptr 2 0))),(4,.v (.one (.ptr 3 0))),(5,.v (.one (.ptr 4 0))),(8,.v (.one (.ptr 8 0))),(25,.v (.one (.fn 62 [(9,0)])))] 65 #[26] m31f10_c0 m31f10_c1 10),(10,.obj (.deferred (some []))),(0,.cells 39 (flatE a2)),(1,.cells 31 [.osl 0 0 a0 a0]),(2,.cells 41 (cE a1)),(3,.cells 4 [dB false]),(4,.cells 25 [dI 0]),(6,.cells 39 [dI x1.2.1,dS x1.2.2]),(7,.cells 39 [dI x1.2.1,dS x1.2.2]),(8,.cells 4 [dB false]),(9,.cells 39 [dI x1.2.1,dS x1.2.2])],[],12⟩ (resOf []) ⟨(((Sum.elim (fun (y5:Bool×(List Lvl))=>(⟨[],m31f10_h4 y5 a0 a1 x1,[],12,36,[]⟩:St)) (fun (y6:Bool×(List Lvl))=>(⟨[],m31f10_h6 y6 a0 a1 x1,[],16,36,[]⟩:St)))) y8).hp,(((Sum.elim (fun (y5:Bool×(List Lvl))=>(⟨[],m31f10_h4 y5 a0 a1 x1,[],12,36,[]⟩:St)) (fun (y6:Bool×(List Lvl))=>(⟨[],m31f10_h6 y6 a0 a1 x1,[],16,36,[]⟩:St)))) y8).tk,(((Sum.elim (fun (y5:Bool×(List Lvl))=>(⟨[],m31f10_h4 y5 a0 a1 x1,[],12,36,[]⟩:St)) (fun (y6:Bool×(List Lvl))=>(⟨[],m31f10_h6 y6 a0 a1 x1,[],16,36,[]⟩:St)))) y8).nx⟩:=by
  refine CallM.of_bodyS y8 ((Sum.elim (fun (y5:Bool×(List Lvl))=>(⟨[],m31f10_h4 y5 a0 a1 x1,[],12,36,[]⟩:St)) (fun (y6:Bool×(List Lvl))=>(⟨[],m31f10_h6 y6 a0 a1 x1,[],16,36,[]⟩:St)))) rfl rfl en_62 (lb rfl) (fun z_=>by cases z_ <;> rfl) (fun z_=>.nil) (fun w0 M V0 Q hv1 hQ1=>?_)
  simp only [entry]
  refine XC.seq<|XC.seq ?_
  refine XC.joinR2 (fun (v9:Bool×(List Lvl))=>⟨[(0,.v (.one (.yld 11))),(1,.v (.one (.ptr 9 0))),(21,.v (.one (dB false)))],[(0,.cells 39 (flatE v9.2)),(1,.cells 31 [.osl 0 0 a0 a0]),(2,.cells 41 (cE a1)),(3,.cells 4 [dB false]),(4,.cells 25 [dI 0]),(6,.cells 39 [dI x1.2.1,dS x1.2.2]),(7,.cells 39 [dI x1.2.1,dS x1.2.2]),(8,.cells 4 [dB v9.1]),(9,.cells 39 [dI x1.2.1,dS x1.2.2]),(10,.obj (.deferred (some []))),(11,m31f10_h3)],[],12,36,[]⟩) (fun (v10:Unit)=>⟨[(0,.v (.one (.yld 11))),(1,.v (.one (.ptr 9 0))),(21,.v (.one (dB true)))],m31f10_h7 a2 a0 a1 x1,[],16,36,[]⟩) (fun (v9:Bool×(List Lvl))=>(Option.bind (loopN (m31f10_l0 x1 a1 a0) FUEL (0,v9.2,v9.1)) (Sum.elim (fun (o11:(List Lvl)×Bool)=>some (.inl (o11.2,o11.1))) (fun o=>some o)))=some y8) (fun (v10:Unit)=>(some (.inr (false,a2)))=some y8) ?_ ?_ ?_
  refine bindK h1 (fun w2_ h2 h1=>?_)
  refine XC.region<|rR Z Z Z (RO.fieldOwn fo_39_0 Z)<|rR Z Z Z (RO.loadOwn ag_3 Z Z Z)<|rR Z Z Z (RO.binInt Z Z Z)<|rM Z Z Z ?_
  refine XL.case (d:=8) (c:=(decide (0 < x1.2.1))) Z (fun c11=>?_) (fun c11=>?_)
  replace h2:=condT c11 h2
  refine XL.no Z Z<|XL.no Z Z<|XL.no Z Z<|XL.no Z Z<|rR Z Z Z (RO.pickT Z Z)<|rM Z Z Z<|rM Z Z Z<|rR Z Z Z (RO.fieldOwn fo_39_0 Z)<|rR Z Z Z (RO.loadOwn ag_3 Z Z Z)<|rR Z Z Z (RO.build1 bd_39 Z Z Z) ?_
  refine bindK h2 (fun y14 h3 h2=>?_)
  have ha15:ExecOK Try.prog (some 11) m31f10_c0 ⟨[(2,.v (.one (.ptr 1 0))),(3,.v (.one (.ptr 2 0))),(4,.v (.one (.ptr 3 0))),(5,.v (.one (.ptr 4 0))),(8,.v (.one (.ptr 8 0))),(25,.v (.one (.fn 62 [(9,0)]))),(26,.v (.agg [dI x1.2.1,dN]))],m31f10_h8 a2 a0 a1 x1,[],12,65,[]⟩ .normal ⟨[(2,.v (.one (.ptr 1 0))),(3,.v (.one (.ptr 2 0))),(4,.v (.one (.ptr 3 0))),(5,.v (.one (.ptr 4 0))),(8,.v (.one (.ptr 8 0))),(9,.v (.one (.ptr 12 0)))],m31f10_h11 a2 a0 a1 x1,[],13,65,[]⟩:=by
   refine ExecOK.walk (fun w0 M V0 ro n Q hv3 hro3 hQn3=>?_)
   refine XC.region<|XL.put Z Z (lb Z) (OpOK.alloc z_39 Z)<|XL.eff Z Z (OpOK.store ag_39 Z Z Z Z (lb Z) Z)<|XL.nil ?_
   exact XQ.of hQn3 (stle (tA Z) (hA Z) kZ Z (Nat.le_trans hv3 (lb Z)) Z Z Z (bF Z (bA Z)) Z Z)
  have hb16:ExecOK Try.prog (some 11) m31f10_c1 ⟨[(2,.v (.one (.ptr 1 0))),(3,.v (.one (.ptr 2 0))),(4,.v (.one (.ptr 3 0))),(5,.v (.one (.ptr 4 0))),(8,.v (.one (.ptr 8 0))),(9,.v (.one (.ptr 12 0)))],m31f10_h10 a2 a0 a1 x1,[],13,65,[]⟩ ((Sum.elim (fun (_:Bool×(List Lvl))=>(.normal:Exit)) (fun (_:Unit)=>(.ret:Exit))) y14) ((Sum.elim (fun (y12:Bool×(List Lvl))=>(⟨[],m31f10_h12 y12 a0 a1 x1,[],18,65,[]⟩:St)) (fun (y13:Unit)=>(⟨[],m31f10_h13 a2 a0 a1 x1,[],16,65,[]⟩:St))) y14):=by
   refine ExecOK.walk (fun w0 M V0 ro n Q hv3 hro3 hQn3=>?_)
   refine XC.block<|XC.seq<|XC.region<|rR Z Z Z (RO.fieldOwn fo_41_1 Z)<|rR Z Z Z (RO.loadOwnAgg ag_39 Z Z Z Z)<|rR Z Z Z (RO.loadOwn ag_31 Z Z Z) ?_
   refine bindK h3 (fun x17 hx17 h3=>?_)
   refine XL.put Z Z (lb Z) (OpOK.callG (hp1':=[(0,.cells 39 (flatE a2)),(14,.cells 39 [dI x17.2.1,dS x17.2.2])]) (tk1':=[]) (hpF:=m31f10_h14 a0 a1 x1) (tkF:=[]) (res2:=resOf [.agg [dI x17.2.1,dS x17.2.2],.one (dI x17.1)]) (nx2:=15) [0] Z Z (m48f11_ok a1.hi a0 a2 x17 hx17) Z Z (qF Z (qB Z Z qZ)) Z Z (gF Z gZ) jZ (hA Z) kZ Z Z Z Z Z (bF Z bZ) Z Z Z Z)<|rM Z Z Z<|rR Z Z Z (RO.extract Z Z)<|rR Z Z Z (RO.extract Z Z)<|XL.put Z Z (lb Z) (OpOK.alloc z_39 Z)<|XL.eff Z Z (OpOK.store ag_39 Z Z Z Z (lb Z) Z)<|rA Z Z Z<|XL.nil<|XQ.seq<|XC.seq<|XC.seq<|XC.region<|rM Z Z Z<|rR Z Z Z (RO.binInt Z Z Z) ?_
   refine XL.nil<|XQ.seq ?_
   refine XC.cond (b:=(x17.1 != 0)) Z (fun c18=>?_) (fun c18=>?_)
   replace h3:=condT c18 h3
   refine XC.seq<|XC.region<|XL.eff Z Z (OpOK.store ag_4 Z Z Z Z (lb Z) Z)<|XL.eff Z Z (OpOK.store ag_25 Z Z Z Z (lb Z) Z)<|XL.nil<|XQ.seq<|XC.ret ?_
   have e:=sI h3;subst e
   exact XQ.of (e:=.ret) (st':=⟨[],m31f10_h13 a2 a0 a1 x1,[],16,65,[]⟩) hQn3 (stle tZ (hA Z) kZ Z (Nat.le_trans hv3 (lb Z)) Z Z Z (bF Z (bA Z)) Z Z)
   replace h3:=condF c18 h3
   refine XC.skip<|XQ.seq<|XC.seq<|XC.seq<|XC.region<|rR Z Z Z (RO.loadOwnAgg ag_39 Z Z Z Z)<|rR Z Z Z (RO.loadOwnAgg ag_39 Z Z Z Z) ?_
   refine bindK h3 (fun y19 h4 h3=>?_)
   have hc20:CallM Try.prog 49 [.agg [dI x1.2.1,dN],.agg [dI x17.2.1,dS x17.2.2]] ⟨m31f10_h15 a2 a0 a1 x1 x17,[],16⟩ (resOf [.one (dB y19)]) ⟨m31f10_h15 a2 a0 a1 x1 x17,[],18⟩:=by
    refine CallM.of_bodyD ⟨[(4,.v (.one (dB y19)))],m31f10_h15 a2 a0 a1 x1 x17,[],18,49,[]⟩ Z Z en_49 (lb Z) Z (RAs.tmp Z .nil) (fun w0 M V0 Q hv4 hQ4=>?_)
    simp only [entry]
    refine XC.seq<|XC.region<|XL.put Z Z (lb Z) (OpOK.box Z)<|XL.put Z Z (lb Z) (OpOK.box Z)<|rA Z Z Z<|XL.nil<|XQ.seq<|XC.seq<|XC.seq ?_
    refine XC.joinR (fun (v21:Bool)=>⟨[(2,.v (.one (.ptr 16 0))),(3,.v (.one (.ptr 17 0))),(17,.v (.one (dB v21)))],m31f10_h16 a2 a0 a1 x1 x17,[],18,49,[]⟩) (fun (v21:Bool)=>(cond v21
        (some false)
        (Option.bind (loopN (m31f10_l1 x17) FUEL (x17.2.1,0)) (fun (o23:Int)=>cond (decide (o23 < x1.2.1))
        (some false)
        (Option.bind (loopN (m31f10_l2 x17) FUEL 0) (Sum.elim (fun (o25:Unit)=>some true) (fun o=>some o))))))=some y19) ?_ ?_
    refine bindK h4 (fun w5_ h5 h4=>?_)
    refine XC.region<|rR Z Z Z (RO.loadOwnAgg ag_39 Z Z Z Z) ?_
    refine bindK h5 (fun x22 hx22 h5=>?_)
    refine XL.put Z Z (lb Z) (OpOK.callFun (m28_ok (⟨x1.2.1,([]:List LV)⟩:Lvl) x22 hx22) Z (.cons (.agg (.cons (.d _) (.cons (.nil _) .nil))) .nil))<|rR Z Z Z (RO.not Z)<|rM Z Z Z ?_
    refine XL.case (d:=13) (c:=(!x22)) Z (fun c23=>?_) (fun c23=>?_)
    replace h5:=condT c23 h5
    refine XL.no Z Z<|XL.no Z Z<|XL.no Z Z<|rR Z Z Z (RO.pickT Z Z)<|XL.nil ?_
    have e:=sI h5;subst e
    exact XQ.joinR true (stle (tA Z) (hA Z) kZ Z (Nat.le_trans hv4 (lb Z)) Z Z Z (bF Z (bA Z)) Z Z) h4
    replace h5:=condF c23 h5
    refine rR Z Z Z (RO.loadOwnAgg ag_39 Z Z Z Z) ?_
    refine bindK h5 (fun x24 hx24 h5=>?_)
    refine XL.put Z Z (lb Z) (OpOK.callFun (m28_ok (⟨x17.2.1,x17.2.2⟩:Lvl) x24 hx24) Z (.cons (.agg (.cons (.d _) (.cons (.d _) .nil))) .nil))<|rR Z Z Z (RO.not Z)<|rR Z Z Z (RO.pickF Z Z)<|XL.nil ?_
    have e:=sI h5;subst e
    exact XQ.joinR (!x24) (stle (tA Z) (hA Z) kZ Z (Nat.le_trans hv4 (lb Z)) Z Z Z (bF Z (bA Z)) Z Z) h4
    intro v21 h4
    refine XQ.seq ?_
    refine XC.cond (b:=v21) Z (fun c25=>?_) (fun c25=>?_)
    replace h4:=condT c25 h4
    refine XC.seq<|XC.region<|rA Z Z Z<|XL.nil<|XQ.seq<|XC.ret ?_
    have e:=sI h4;subst e
    exact hQ4 _ _ _ (.inr Z) Z (stle (tA Z) (hA Z) kZ Z (Nat.le_trans hv4 (lb Z)) Z Z Z (bF Z (bA Z)) Z Z)
    replace h4:=condF c25 h4
    refine XC.skip<|XQ.seq<|XC.seq<|XC.region<|rR Z Z Z (RO.fieldOwn fo_39_0 Z)<|rR Z Z Z (RO.loadOwn ag_3 Z Z Z)<|rA Z Z Z<|XL.nil<|XQ.seq<|XC.seq<|XC.seq<|XC.region<|rR Z Z Z (RO.fieldOwn fo_39_1 Z)<|rR Z Z Z (RO.loadOwn ag_37 Z Z Z) ?_
    refine rR Z Z Z (RO.lenE (α:=LV) sl_37 Z (.d _))<|rM Z Z Z<|XL.nil<|XQ.seq<|XC.block ?_
    refine XC.joinX 0 (fun (o26:Int)=>⟨[(2,.v (.one (.ptr 16 0))),(3,.v (.one (.ptr 17 0))),(5,.v (.one (dI o26)))],m31f10_h16 a2 a0 a1 x1 x17,[],18,49,[]⟩) (fun (o26:Int)=>(cond (decide (o26 < x1.2.1))
        (some false)
        (Option.bind (loopN (m31f10_l2 x17) FUEL 0) (Sum.elim (fun (o28:Unit)=>some true) (fun o=>some o))))=some y19) ?_ ?_
    refine bindK h4 (fun o27 hl5 h4=>?_)
    refine XC.loopM (m31f10_l1 x17) (fun s5=>⟨[(2,.v (.one (.ptr 16 0))),(3,.v (.one (.ptr 17 0))),(5,.v (.one (dI s5.1))),(21,.v (.one (dS x17.2.2))),(22,.v (.one (dI (x17.2.2.length:Int)))),(23,.v (.one (dI s5.2)))],m31f10_h16 a2 a0 a1 x1 x17,[],18,49,[]⟩) (x17.2.1,0) o27 (stle (tA Z) (hA Z) kZ Z (Nat.le_trans hv4 (lb Z)) Z Z Z (bF Z (bA Z)) Z Z) hl5 (fun s5 n5 oo5 h5 ho5=>?_)
    unfold m31f10_l1 at h5
    refine XC.seq<|XC.region<|rR Z Z Z (RO.binInt Z Z Z)<|XL.nil<|XQ.seq<|XC.seq ?_
    refine XC.cond (b:=(decide (s5.2 < (x17.2.2.length:Int)))) Z (fun c28=>?_) (fun c28=>?_)
    replace h5:=condT c28 h5
    refine XC.skip<|XQ.seq<|XC.seq<|XC.block<|XC.seq<|XC.region ?_
    refine bindK h5 (fun x29 hx29 h5=>?_)
    refine rR Z Z Z (RO.indexE (α:=LV) sl_37 Z (.d _) Z hx29)<|rR Z Z Z (RO.loadPelCE (x29:LV) ag_59 Z)<|XL.put Z Z (lb Z) (OpOK.alloc z_59 Z)<|XL.eff Z Z (OpOK.storeCE (x29:LV) ag_59 Z Z Z Z Z)<|XL.nil<|XQ.seq<|XC.region<|rM Z Z Z<|rR Z Z Z (RO.fieldOwn fo_59_1 Z)<|rR Z Z Z (RO.loadOwn ag_3 Z Z Z)<|rR Z Z Z (RO.max2 Z Z)<|rA Z Z Z<|XL.nil<|XQ.inBlock ?_
    refine XQ.seq<|XC.region<|rR Z Z Z (RO.binInt Z Z Z)<|rM Z Z Z<|XL.nil ?_
    have e:=sI h5;subst e
    refine XQ.nextM ((max s5.1 x29.2),(w64 (s5.2+1))) (stle (tA Z) (hA Z) kZ Z (Nat.le_trans hv4 (lb Z)) Z Z Z (bF Z (bA Z)) Z Z) ho5
    replace h5:=condF c28 h5
    refine XC.exit<|XQ.thenE<|XQ.thenE ?_
    have e:=sI h5;subst e
    have e_:_=_:=ho5
    subst e_
    exact XQ.joinX s5.1 (stle (tA Z) (hA Z) kZ Z (Nat.le_trans hv4 (lb Z)) Z Z Z (bF Z (bA Z)) Z Z) h4
    intro o26 h4
    refine XQ.blockX<|XQ.seq<|XC.seq<|XC.seq<|XC.region<|rR Z Z Z (RO.fieldOwn fo_39_0 Z)<|rR Z Z Z (RO.loadOwn ag_3 Z Z Z)<|rM Z Z Z<|rR Z Z Z (RO.binInt Z Z Z)<|XL.nil<|XQ.seq ?_
    refine XC.cond (b:=(decide (o26 < x1.2.1))) Z (fun c30=>?_) (fun c30=>?_)
    replace h4:=condT c30 h4
    refine XC.seq<|XC.region<|rA Z Z Z<|XL.nil<|XQ.seq<|XC.ret ?_
    have e:=sI h4;subst e
    exact hQ4 _ _ _ (.inr Z) Z (stle (tA Z) (hA Z) kZ Z (Nat.le_trans hv4 (lb Z)) Z Z Z (bF Z (bA Z)) Z Z)
    replace h4:=condF c30 h4
    refine XC.skip<|XQ.seq<|XC.seq<|XC.seq<|XC.region<|rR Z Z Z (RO.fieldOwn fo_39_1 Z)<|rR Z Z Z (RO.loadOwn ag_37 Z Z Z)<|rR Z Z Z (RO.lenE (α:=LV) sl_37 Z .nil)<|rM Z Z Z<|XL.nil<|XQ.seq<|XC.block ?_
    refine XC.joinX 2 (fun (o31:Unit)=>⟨[],m31f10_h16 a2 a0 a1 x1 x17,[],18,49,[]⟩) (fun (o31:Unit)=>(some true)=some y19) ?_ ?_
    refine bindK h4 (fun o32 hl5 h4=>?_)
    refine XC.loopM (m31f10_l2 x17) (fun s5=>⟨[(3,.v (.one (.ptr 17 0))),(37,.v (.one (dN))),(38,.v (.one (dI (([]:List LV).length:Int)))),(39,.v (.one (dI s5)))],m31f10_h16 a2 a0 a1 x1 x17,[],18,49,[]⟩) 0 o32 (stle (tA Z) (hA Z) kZ Z (Nat.le_trans hv4 (lb Z)) Z Z Z (bF Z (bA Z)) Z Z) hl5 (fun s5 n5 oo5 h5 ho5=>?_)
    unfold m31f10_l2 at h5
    refine XC.seq<|XC.region<|rR Z Z Z (RO.binInt Z Z Z)<|XL.nil<|XQ.seq<|XC.seq ?_
    refine XC.cond (b:=(decide (s5 < (([]:List LV).length:Int)))) Z (fun c33=>?_) (fun c33=>?_)
    replace h5:=condT c33 h5
    refine XC.skip<|XQ.seq<|XC.seq<|XC.block<|XC.seq<|XC.region ?_
    refine bindK h5 (fun x34 hx34 h5=>?_)
    refine rR Z Z Z (RO.indexE (α:=LV) sl_37 Z .nil Z hx34)<|rR Z Z Z (RO.loadPelCE (x34:LV) ag_59 Z)<|XL.put Z Z (lb Z) (OpOK.alloc z_59 Z)<|XL.eff Z Z (OpOK.storeCE (x34:LV) ag_59 Z Z Z Z Z)<|XL.nil<|XQ.seq<|XC.seq<|XC.region<|rR Z Z Z (RO.fieldOwn fo_39_1 Z)<|rR Z Z Z (RO.loadOwn ag_37 Z Z Z)<|rR Z Z Z (RO.makeFunc1 Z) ?_
    refine bindK h5 (fun x35 hx35 h5=>?_)
    refine XL.put Z Z (lb Z) (OpOK.callG (hp1':=[(18,.cells 59 (cE x34))]) (tk1':=[]) (hpF:=m31f10_h16 a2 a0 a1 x1 x17) (tkF:=[]) (res2:=resOf [.one (dB x35)]) (nx2:=19) [18] Z Z (m70f15_ok x17.2.2 x34 x35 hx35) Z Z (qB Z Z qZ) Z Z (gR Z gZ) jZ (hA Z) kZ Z Z Z Z Z (bA Z) Z Z Z Z)<|rR Z Z Z (RO.not Z)<|XL.nil<|XQ.seq ?_
    refine XC.cond (b:=(!x35)) Z (fun c36=>?_) (fun c36=>?_)
    replace h5:=condT c36 h5
    refine XC.seq<|XC.region<|rA Z Z Z<|XL.nil<|XQ.seq<|XC.ret ?_
    have e:=sI h5;subst e
    have e_:_=_:=ho5
    subst e_
    try dsimp only [Sum.elim_inl,Sum.elim_inr] at h4
    have e:=sI h4;subst e
    exact hQ4 _ _ _ (.inr Z) Z (stle (tA Z) (hA Z) kZ Z (Nat.le_trans hv4 (lb Z)) Z Z Z (bF Z (bA Z)) Z Z)
    replace h5:=condF c36 h5
    refine XC.skip<|XQ.inBlock<|XQ.seq<|XC.region<|rR Z Z Z (RO.binInt Z Z Z)<|rM Z Z Z<|XL.nil ?_
    have e:=sI h5;subst e
    refine XQ.nextM (w64 (s5+1)) (stle (tA Z) (hA Z) kZ Z (Nat.le_trans hv4 (lb Z)) Z Z Z (bF Z (bA Z)) Z Z) ho5
    replace h5:=condF c33 h5
    refine XC.exit<|XQ.thenE<|XQ.thenE ?_
    have e:=sI h5;subst e
    have e_:_=_:=ho5
    subst e_
    exact XQ.joinX () (stle tZ (hA Z) kZ Z (Nat.le_trans hv4 (lb Z)) Z Z Z (bF Z (bA Z)) Z Z) h4
    intro o31 h4
    refine XQ.blockX<|XQ.seq<|XC.seq<|XC.region<|rA Z Z Z<|XL.nil<|XQ.seq<|XC.ret ?_
    have e:=sI h4;subst e
    exact hQ4 _ _ _ (.inr Z) Z (stle (tA Z) (hA Z) kZ Z (Nat.le_trans hv4 (lb Z)) Z Z Z (bF Z (bA Z)) Z Z)
   refine XL.put Z Z (lb Z) (OpOK.callW Z Z Z hc20 Z (hA Z) kZ)<|XL.nil<|XQ.seq ?_
   refine XC.cond (b:=y19) Z (fun c37=>?_) (fun c37=>?_)
   replace h3:=condT c37 h3
   refine XC.exit<|XQ.thenE<|XQ.blockX ?_
   have e:=sI h3;subst e
   exact XQ.of (e:=.normal) (st':=⟨[],m31f10_h17 a2 a0 a1 x1,[],18,65,[]⟩) hQn3 (stle tZ (hA Z) kZ Z (Nat.le_trans hv3 (lb Z)) Z Z Z (bF Z (bA Z)) Z Z)
   replace h3:=condF c37 h3
   refine XC.skip<|XQ.seq<|XC.seq<|XC.region<|rR Z Z Z (RO.fieldOwn fo_41_1 Z)<|rR Z Z Z (RO.loadOwnAgg ag_39 Z Z Z Z) ?_
   refine bindK h3 (fun x38 hx38 h3=>?_)
   refine XL.put Z Z (lb Z) (OpOK.callFun (m54_ok a1.hi x38 hx38) Z (.cons (.agg (.cons (.d _) (.cons (.d _) .nil))) .nil))<|rM Z Z Z<|rR Z Z Z (RO.extract Z Z)<|rR Z Z Z (RO.extract Z Z)<|rA Z Z Z<|rA Z Z Z<|XL.nil<|XQ.seq<|XC.seq<|XC.seq<|XC.region<|rM Z Z Z<|rR Z Z Z (RO.binInt Z Z Z)<|XL.nil ?_
   refine XQ.seq ?_
   refine XC.cond (b:=(decide (x38.1 < 0))) Z (fun c39=>?_) (fun c39=>?_)
   replace h3:=condT c39 h3
   refine XC.seq<|XC.region<|XL.eff Z Z (OpOK.store ag_4 Z Z Z Z (lb Z) Z)<|XL.eff Z Z (OpOK.store ag_25 Z Z Z Z (lb Z) Z)<|XL.nil<|XQ.seq<|XC.ret ?_
   have e:=sI h3;subst e
   exact XQ.of (e:=.ret) (st':=⟨[],m31f10_h13 a2 a0 a1 x1,[],16,65,[]⟩) hQn3 (stle tZ (hA Z) kZ Z (Nat.le_trans hv3 (lb Z)) Z Z Z (bF Z (bA Z)) Z Z)
   replace h3:=condF c39 h3
   refine XC.skip<|XQ.seq<|XC.seq ?_
   refine XC.anyRun [11,12] [(0,1),(1,1),(2,1),(3,1),(4,1),(5,1),(6,1),(7,1),(8,1),(9,1),(10,1),(10,2)] mixed (by kernel_rfl) (by kernel_rfl) (by kernel_rfl) ?_
   refine RunA.rd Z Z Z (OpOK.of_ro (RO.loadOwn ag_31 Z Z Z)) Z<|RunA.rd Z Z Z (OpOK.of_ro (RO.move Z)) Z ?_
   refine bindK h3 (fun x40 hx40 h3=>?_)
   refine guardK h3 (fun g41 h3=>?_)
   refine RunA.rd Z Z Z (OpOK.of_ro (RO.indexO (α:=Lvl) sl_31 Z Z hx40 g41)) Z<|RunA.rd Z Z Z (OpOK.of_ro (RO.loadOE (α:=Lvl) (ys:=[dI x40.c,dS x40.vs]) ag_39 Z Z hx40 Z)) Z<|RunA.rd Z Z Z (OpOK.of_ro (RO.loadOwnAgg ag_39 Z Z Z Z)) Z<|RunA.rd Z Z Z (OpOK.of_ro (RO.move Z)) Z ?_
   refine bindK h3 (fun x42 hx42 h3=>?_)
   refine RunA.rd Z Z Z (OpOK.callFun (m56_ok (⟨x1.2.1,([]:List LV)⟩:Lvl) x38.2 x42 hx42) Z (.cons (.agg (.cons (.d _) (.cons (.nil _) .nil))) (.cons (.one (.d _)) .nil))) Z ?_
   refine bindK h3 (fun x43 hx43 h3=>?_)
   refine RunA.rd Z Z Z (OpOK.callFun (m55_ok x40 x42 x43 hx43) Z (.cons (.agg (.cons (.d _) (.cons (.d _) .nil))) (.cons (.agg (.cons (.d _) (.cons (.d _) .nil))) .nil))) Z<|RunA.rd Z Z Z (OpOK.of_ro (RO.move Z)) Z<|RunA.rd Z Z Z (OpOK.of_ro (RO.extract Z Z)) Z<|RunA.rd Z Z Z (OpOK.of_ro (RO.extract Z Z)) Z<|RunA.eff Z Z Z (OpOK.alloc z_39 Z) Z<|RunA.eff Z Z Z (OpOK.storeCE (x43.1:Lvl) ag_39 Z Z Z Z Z) Z<|RunA.rd Z Z Z (OpOK.of_ro (RO.assign Z)) Z ?_
   refine RunA.nil ⟨?ex,_,_,Z,?_⟩
   case ex=>exact ⟨⟨_,rfl,_,_,rfl,rfl,rfl,.inl ⟨rfl,_,OpOK.of_ro (RO.loadOwn ag_31 rfl rfl rfl),rfl⟩⟩,⟨_,rfl,_,_,rfl,rfl,rfl,.inl ⟨rfl,_,OpOK.of_ro (RO.move rfl),rfl⟩⟩,⟨_,rfl,_,_,rfl,rfl,rfl,.inl ⟨rfl,_,OpOK.of_ro (RO.indexO (α:=Lvl) sl_31 rfl rfl hx40 g41),rfl⟩⟩,⟨_,rfl,_,_,rfl,rfl,rfl,.inl ⟨rfl,_,OpOK.of_ro (RO.loadOE (α:=Lvl) (ys:=[dI x40.c,dS x40.vs]) ag_39 rfl rfl hx40 rfl),rfl⟩⟩,⟨_,rfl,_,_,rfl,rfl,rfl,.inl ⟨rfl,_,OpOK.of_ro (RO.loadOwnAgg ag_39 rfl rfl rfl rfl),rfl⟩⟩,⟨_,rfl,_,_,rfl,rfl,rfl,.inl ⟨rfl,_,OpOK.of_ro (RO.move rfl),rfl⟩⟩,⟨_,rfl,_,_,rfl,rfl,rfl,.inl ⟨rfl,_,OpOK.callFun (m56_ok (⟨x1.2.1,([]:List LV)⟩:Lvl) x38.2 x42 hx42) rfl (.cons (.agg (.cons (.d _) (.cons (.nil _) .nil))) (.cons (.one (.d _)) .nil)),rfl⟩⟩,⟨_,rfl,_,_,rfl,rfl,rfl,.inl ⟨rfl,_,OpOK.callFun (m55_ok x40 x42 x43 hx43) rfl (.cons (.agg (.cons (.d _) (.cons (.d _) .nil))) (.cons (.agg (.cons (.d _) (.cons (.d _) .nil))) .nil)),rfl⟩⟩,⟨_,rfl,_,_,rfl,rfl,rfl,.inl ⟨rfl,_,OpOK.of_ro (RO.move rfl),rfl⟩⟩,⟨_,rfl,_,_,rfl,rfl,rfl,.inl ⟨rfl,_,OpOK.of_ro (RO.extract rfl rfl),rfl⟩⟩,⟨_,rfl,_,_,rfl,rfl,rfl,.inl ⟨rfl,_,OpOK.of_ro (RO.extract rfl rfl),rfl⟩⟩,⟨_,rfl,_,_,rfl,rfl,rfl,.inl ⟨rfl,_,OpOK.of_ro (RO.extract rfl rfl),rfl⟩⟩,trivial⟩
   refine XQ.less (st':=⟨[(2,.v (.one (.ptr 1 0))),(4,.v (.one (.ptr 3 0))),(5,.v (.one (.ptr 4 0))),(8,.v (.one (.ptr 8 0))),(11,.v (.one (dI x43.2))),(12,.v (.one (dI x38.1))),(14,.v (.one (.ptr 18 0)))],m31f10_h18 a2 a0 a1 x1 x17 x43,[],19,65,[]⟩) (stle (tA Z) (hA Z) kZ Z (Nat.le_trans hv3 (lb Z)) Z Z Z (bF Z (bA Z)) Z Z)<|XQ.seq<|XC.seq<|XC.seq<|XC.region<|rM Z Z Z<|rR Z Z Z (RO.binInt Z Z Z)<|XL.nil<|XQ.seq ?_
   refine XC.cond (b:=(x43.2 != 0)) Z (fun c44=>?_) (fun c44=>?_)
   replace h3:=condT c44 h3
   refine XC.seq<|XC.region<|XL.eff Z Z (OpOK.store ag_4 Z Z Z Z (lb Z) Z)<|XL.eff Z Z (OpOK.store ag_25 Z Z Z Z (lb Z) Z)<|XL.nil<|XQ.seq<|XC.ret ?_
   have e:=sI h3;subst e
   exact XQ.of (e:=.ret) (st':=⟨[],m31f10_h13 a2 a0 a1 x1,[],16,65,[]⟩) hQn3 (stle tZ (hA Z) kZ Z (Nat.le_trans hv3 (lb Z)) Z Z Z (bF Z (bA Z)) Z Z)
   replace h3:=condF c44 h3
   refine XC.skip<|XQ.seq<|XC.region<|rR Z Z Z (RO.loadOwn ag_31 Z Z Z)<|rM Z Z Z<|rR Z Z Z (RO.loadCE (x43.1:Lvl) ag_39 Z Z) ?_
   refine bindK h3 (fun x45 hx45 h3=>?_)
   refine guardK h3 (fun g46 h3=>?_)
   refine rR Z Z Z (RO.indexO (α:=Lvl) sl_31 Z Z hx45 g46)<|XL.eff Z Z (OpOK.storeOE (α:=Lvl) (y':=.agg [dI x43.1.c,dS x43.1.vs]) (v:=x43.1) ag_39 Z Z (.agg (.cons (.d _) (.cons (.d _) .nil))) Z Z hx45 Z)<|XL.eff Z Z (OpOK.store ag_4 Z Z Z Z (lb Z) Z)<|XL.nil<|XQ.inBlock ?_
   have e:=sI h3;subst e
   exact XQ.of (e:=.normal) (st':=⟨[],m31f10_h19 a2 x38 x43 a0 a1 x1,[],18,65,[]⟩) hQn3 (stle tZ (hA Z) kZ Z (Nat.le_trans hv3 (lb Z)) Z Z Z (bF Z (bA Z)) Z Z)
  refine sumK (C:=fun q_=>ExecOK Try.prog (some 11) m31f10_c1 ⟨[(2,.v (.one (.ptr 1 0))),(3,.v (.one (.ptr 2 0))),(4,.v (.one (.ptr 3 0))),(5,.v (.one (.ptr 4 0))),(8,.v (.one (.ptr 8 0))),(9,.v (.one (.ptr 12 0)))],m31f10_h10 a2 a0 a1 x1,[],13,65,[]⟩ ((Sum.elim (fun (_:Bool×(List Lvl))=>(.normal:Exit)) (fun (_:Unit)=>(.ret:Exit))) q_) ((Sum.elim (fun (y12:Bool×(List Lvl))=>(⟨[],m31f10_h12 y12 a0 a1 x1,[],18,65,[]⟩:St)) (fun (y13:Unit)=>(⟨[],m31f10_h13 a2 a0 a1 x1,[],16,65,[]⟩:St))) q_)) hb16 h2 (fun y12 hb16 h2=>?_) (fun y13 hb16 h2=>?_)
  replace hb16:ExecOK Try.prog (some 11) m31f10_c1 ⟨[(2,.v (.one (.ptr 1 0))),(3,.v (.one (.ptr 2 0))),(4,.v (.one (.ptr 3 0))),(5,.v (.one (.ptr 4 0))),(8,.v (.one (.ptr 8 0))),(9,.v (.one (.ptr 12 0)))],m31f10_h10 a2 a0 a1 x1,[],13,65,[]⟩ .normal ⟨[],m31f10_h12 y12 a0 a1 x1,[],18,65,[]⟩:=hb16
  refine XL.put Z Z (lb Z) (OpOK.yield (jump:=none) Z Z Z Z Z (ExecOK.from ha15 (fun E hv=>(stle (tA Z) (hA Z) kZ Z (Nat.le_trans hv (lb Z)) Z Z Z (bF Z (bA Z)) Z Z))) Z (ExecOK.from hb16 (fun E hv=>(stle (tA Z) (hA Z) kZ Z (Nat.le_trans hv (lb Z)) Z Z Z (bF Z (bA Z)) Z Z))) Z Z) ?_
  refine rR Z Z Z (RO.not Z)<|rR Z Z Z (RO.pickT Z Z)<|XL.nil ?_
  have e:=sI h2;subst e
  exact XQ.joinRl (y12.1,y12.2) (stle (tA Z) (hA Z) kZ Z (Nat.le_trans hv1 (lb Z)) Z Z Z (bF Z (bA Z)) Z Z) h1
  replace hb16:ExecOK Try.prog (some 11) m31f10_c1 ⟨[(2,.v (.one (.ptr 1 0))),(3,.v (.one (.ptr 2 0))),(4,.v (.one (.ptr 3 0))),(5,.v (.one (.ptr 4 0))),(8,.v (.one (.ptr 8 0))),(9,.v (.one (.ptr 12 0)))],m31f10_h10 a2 a0 a1 x1,[],13,65,[]⟩ .ret ⟨[],m31f10_h13 a2 a0 a1 x1,[],16,65,[]⟩:=hb16
  refine XL.put Z Z (lb Z) (OpOK.yield (jump:=(some .ret)) Z Z Z Z Z (ExecOK.from ha15 (fun E hv=>(stle (tA Z) (hA Z) kZ Z (Nat.le_trans hv (lb Z)) Z Z Z (bF Z (bA Z)) Z Z))) Z (ExecOK.from hb16 (fun E hv=>(stle (tA Z) (hA Z) kZ Z (Nat.le_trans hv (lb Z)) Z Z Z (bF Z (bA Z)) Z Z))) Z Z) ?_
  refine rR Z Z Z (RO.not Z)<|rR Z Z Z (RO.pickT Z Z)<|XL.nil ?_
  have e:=sI h2;subst e
  exact XQ.joinRr () (stle (tA Z) (hA Z) kZ Z (Nat.le_trans hv1 (lb Z)) Z Z Z (bF Z (bA Z)) Z Z) h1
  replace h2:=condF c11 h2
  refine rR Z Z Z (RO.fieldOwn fo_39_1 Z)<|rR Z Z Z (RO.loadOwn ag_37 Z Z Z)<|rR Z Z Z (RO.lenE (α:=LV) sl_37 Z (.d _))<|rR Z Z Z (RO.binInt Z Z Z)<|rR Z Z Z (RO.pickF Z Z)<|rM Z Z Z ?_
  refine XL.case (d:=14) (c:=((x1.2.2.length:Int)==0)) Z (fun c47=>?_) (fun c47=>?_)
  replace h2:=condT c47 h2
  refine rM Z Z Z<|rR Z Z Z (RO.fieldOwn fo_39_0 Z)<|rR Z Z Z (RO.loadOwn ag_3 Z Z Z)<|rR Z Z Z (RO.build1 bd_39 Z Z Z) ?_
  refine bindK h2 (fun y50 h3 h2=>?_)
  have ha51:ExecOK Try.prog (some 11) m31f10_c0 ⟨[(2,.v (.one (.ptr 1 0))),(3,.v (.one (.ptr 2 0))),(4,.v (.one (.ptr 3 0))),(5,.v (.one (.ptr 4 0))),(8,.v (.one (.ptr 8 0))),(25,.v (.one (.fn 62 [(9,0)]))),(26,.v (.agg [dI x1.2.1,dN]))],m31f10_h8 a2 a0 a1 x1,[],12,65,[]⟩ .normal ⟨[(2,.v (.one (.ptr 1 0))),(3,.v (.one (.ptr 2 0))),(4,.v (.one (.ptr 3 0))),(5,.v (.one (.ptr 4 0))),(8,.v (.one (.ptr 8 0))),(9,.v (.one (.ptr 12 0)))],m31f10_h11 a2 a0 a1 x1,[],13,65,[]⟩:=by
   refine ExecOK.walk (fun w0 M V0 ro n Q hv3 hro3 hQn3=>?_)
   refine XC.region<|XL.put Z Z (lb Z) (OpOK.alloc z_39 Z)<|XL.eff Z Z (OpOK.store ag_39 Z Z Z Z (lb Z) Z)<|XL.nil ?_
   exact XQ.of hQn3 (stle (tA Z) (hA Z) kZ Z (Nat.le_trans hv3 (lb Z)) Z Z Z (bF Z (bA Z)) Z Z)
  have hb52:ExecOK Try.prog (some 11) m31f10_c1 ⟨[(2,.v (.one (.ptr 1 0))),(3,.v (.one (.ptr 2 0))),(4,.v (.one (.ptr 3 0))),(5,.v (.one (.ptr 4 0))),(8,.v (.one (.ptr 8 0))),(9,.v (.one (.ptr 12 0)))],m31f10_h10 a2 a0 a1 x1,[],13,65,[]⟩ ((Sum.elim (fun (_:Bool×(List Lvl))=>(.normal:Exit)) (fun (_:Unit)=>(.ret:Exit))) y50) ((Sum.elim (fun (y48:Bool×(List Lvl))=>(⟨[],m31f10_h12 y48 a0 a1 x1,[],18,65,[]⟩:St)) (fun (y49:Unit)=>(⟨[],m31f10_h13 a2 a0 a1 x1,[],16,65,[]⟩:St))) y50):=by
   refine ExecOK.walk (fun w0 M V0 ro n Q hv3 hro3 hQn3=>?_)
   refine XC.block<|XC.seq<|XC.region<|rR Z Z Z (RO.fieldOwn fo_41_1 Z)<|rR Z Z Z (RO.loadOwnAgg ag_39 Z Z Z Z)<|rR Z Z Z (RO.loadOwn ag_31 Z Z Z) ?_
   refine bindK h3 (fun x53 hx53 h3=>?_)
   refine XL.put Z Z (lb Z) (OpOK.callG (hp1':=[(0,.cells 39 (flatE a2)),(14,.cells 39 [dI x53.2.1,dS x53.2.2])]) (tk1':=[]) (hpF:=m31f10_h14 a0 a1 x1) (tkF:=[]) (res2:=resOf [.agg [dI x53.2.1,dS x53.2.2],.one (dI x53.1)]) (nx2:=15) [0] Z Z (m48f11_ok a1.hi a0 a2 x53 hx53) Z Z (qF Z (qB Z Z qZ)) Z Z (gF Z gZ) jZ (hA Z) kZ Z Z Z Z Z (bF Z bZ) Z Z Z Z)<|rM Z Z Z<|rR Z Z Z (RO.extract Z Z)<|rR Z Z Z (RO.extract Z Z)<|XL.put Z Z (lb Z) (OpOK.alloc z_39 Z)<|XL.eff Z Z (OpOK.store ag_39 Z Z Z Z (lb Z) Z)<|rA Z Z Z<|XL.nil<|XQ.seq<|XC.seq<|XC.seq<|XC.region<|rM Z Z Z<|rR Z Z Z (RO.binInt Z Z Z) ?_
   refine XL.nil<|XQ.seq ?_
   refine XC.cond (b:=(x53.1 != 0)) Z (fun c54=>?_) (fun c54=>?_)
   replace h3:=condT c54 h3
   refine XC.seq<|XC.region<|XL.eff Z Z (OpOK.store ag_4 Z Z Z Z (lb Z) Z)<|XL.eff Z Z (OpOK.store ag_25 Z Z Z Z (lb Z) Z)<|XL.nil<|XQ.seq<|XC.ret ?_
   have e:=sI h3;subst e
   exact XQ.of (e:=.ret) (st':=⟨[],m31f10_h13 a2 a0 a1 x1,[],16,65,[]⟩) hQn3 (stle tZ (hA Z) kZ Z (Nat.le_trans hv3 (lb Z)) Z Z Z (bF Z (bA Z)) Z Z)
   replace h3:=condF c54 h3
   refine XC.skip<|XQ.seq<|XC.seq<|XC.seq<|XC.region<|rR Z Z Z (RO.loadOwnAgg ag_39 Z Z Z Z)<|rR Z Z Z (RO.loadOwnAgg ag_39 Z Z Z Z) ?_
   refine bindK h3 (fun y55 h4 h3=>?_)
   have hc56:CallM Try.prog 49 [.agg [dI x1.2.1,dN],.agg [dI x53.2.1,dS x53.2.2]] ⟨m31f10_h15 a2 a0 a1 x1 x53,[],16⟩ (resOf [.one (dB y55)]) ⟨m31f10_h15 a2 a0 a1 x1 x53,[],18⟩:=by
    refine CallM.of_bodyD ⟨[(4,.v (.one (dB y55)))],m31f10_h15 a2 a0 a1 x1 x53,[],18,49,[]⟩ Z Z en_49 (lb Z) Z (RAs.tmp Z .nil) (fun w0 M V0 Q hv4 hQ4=>?_)
    simp only [entry]
    refine XC.seq<|XC.region<|XL.put Z Z (lb Z) (OpOK.box Z)<|XL.put Z Z (lb Z) (OpOK.box Z)<|rA Z Z Z<|XL.nil<|XQ.seq<|XC.seq<|XC.seq ?_
    refine XC.joinR (fun (v57:Bool)=>⟨[(2,.v (.one (.ptr 16 0))),(3,.v (.one (.ptr 17 0))),(17,.v (.one (dB v57)))],m31f10_h16 a2 a0 a1 x1 x53,[],18,49,[]⟩) (fun (v57:Bool)=>(cond v57
        (some false)
        (Option.bind (loopN (m31f10_l1 x53) FUEL (x53.2.1,0)) (fun (o59:Int)=>cond (decide (o59 < x1.2.1))
        (some false)
        (Option.bind (loopN (m31f10_l2 x53) FUEL 0) (Sum.elim (fun (o61:Unit)=>some true) (fun o=>some o))))))=some y55) ?_ ?_
    refine bindK h4 (fun w5_ h5 h4=>?_)
    refine XC.region<|rR Z Z Z (RO.loadOwnAgg ag_39 Z Z Z Z) ?_
    refine bindK h5 (fun x58 hx58 h5=>?_)
    refine XL.put Z Z (lb Z) (OpOK.callFun (m28_ok (⟨x1.2.1,([]:List LV)⟩:Lvl) x58 hx58) Z (.cons (.agg (.cons (.d _) (.cons (.nil _) .nil))) .nil))<|rR Z Z Z (RO.not Z)<|rM Z Z Z ?_
    refine XL.case (d:=13) (c:=(!x58)) Z (fun c59=>?_) (fun c59=>?_)
    replace h5:=condT c59 h5
    refine XL.no Z Z<|XL.no Z Z<|XL.no Z Z<|rR Z Z Z (RO.pickT Z Z)<|XL.nil ?_
    have e:=sI h5;subst e
    exact XQ.joinR true (stle (tA Z) (hA Z) kZ Z (Nat.le_trans hv4 (lb Z)) Z Z Z (bF Z (bA Z)) Z Z) h4
    replace h5:=condF c59 h5
    refine rR Z Z Z (RO.loadOwnAgg ag_39 Z Z Z Z) ?_
    refine bindK h5 (fun x60 hx60 h5=>?_)
    refine XL.put Z Z (lb Z) (OpOK.callFun (m28_ok (⟨x53.2.1,x53.2.2⟩:Lvl) x60 hx60) Z (.cons (.agg (.cons (.d _) (.cons (.d _) .nil))) .nil))<|rR Z Z Z (RO.not Z)<|rR Z Z Z (RO.pickF Z Z)<|XL.nil ?_
    have e:=sI h5;subst e
    exact XQ.joinR (!x60) (stle (tA Z) (hA Z) kZ Z (Nat.le_trans hv4 (lb Z)) Z Z Z (bF Z (bA Z)) Z Z) h4
    intro v57 h4
    refine XQ.seq ?_
    refine XC.cond (b:=v57) Z (fun c61=>?_) (fun c61=>?_)
    replace h4:=condT c61 h4
    refine XC.seq<|XC.region<|rA Z Z Z<|XL.nil<|XQ.seq<|XC.ret ?_
    have e:=sI h4;subst e
    exact hQ4 _ _ _ (.inr Z) Z (stle (tA Z) (hA Z) kZ Z (Nat.le_trans hv4 (lb Z)) Z Z Z (bF Z (bA Z)) Z Z)
    replace h4:=condF c61 h4
    refine XC.skip<|XQ.seq<|XC.seq<|XC.region<|rR Z Z Z (RO.fieldOwn fo_39_0 Z)<|rR Z Z Z (RO.loadOwn ag_3 Z Z Z)<|rA Z Z Z<|XL.nil<|XQ.seq<|XC.seq<|XC.seq<|XC.region<|rR Z Z Z (RO.fieldOwn fo_39_1 Z)<|rR Z Z Z (RO.loadOwn ag_37 Z Z Z) ?_
    refine rR Z Z Z (RO.lenE (α:=LV) sl_37 Z (.d _))<|rM Z Z Z<|XL.nil<|XQ.seq<|XC.block ?_
    refine XC.joinX 0 (fun (o62:Int)=>⟨[(2,.v (.one (.ptr 16 0))),(3,.v (.one (.ptr 17 0))),(5,.v (.one (dI o62)))],m31f10_h16 a2 a0 a1 x1 x53,[],18,49,[]⟩) (fun (o62:Int)=>(cond (decide (o62 < x1.2.1))
        (some false)
        (Option.bind (loopN (m31f10_l2 x53) FUEL 0) (Sum.elim (fun (o64:Unit)=>some true) (fun o=>some o))))=some y55) ?_ ?_
    refine bindK h4 (fun o63 hl5 h4=>?_)
    refine XC.loopM (m31f10_l1 x53) (fun s5=>⟨[(2,.v (.one (.ptr 16 0))),(3,.v (.one (.ptr 17 0))),(5,.v (.one (dI s5.1))),(21,.v (.one (dS x53.2.2))),(22,.v (.one (dI (x53.2.2.length:Int)))),(23,.v (.one (dI s5.2)))],m31f10_h16 a2 a0 a1 x1 x53,[],18,49,[]⟩) (x53.2.1,0) o63 (stle (tA Z) (hA Z) kZ Z (Nat.le_trans hv4 (lb Z)) Z Z Z (bF Z (bA Z)) Z Z) hl5 (fun s5 n5 oo5 h5 ho5=>?_)
    unfold m31f10_l1 at h5
    refine XC.seq<|XC.region<|rR Z Z Z (RO.binInt Z Z Z)<|XL.nil<|XQ.seq<|XC.seq ?_
    refine XC.cond (b:=(decide (s5.2 < (x53.2.2.length:Int)))) Z (fun c64=>?_) (fun c64=>?_)
    replace h5:=condT c64 h5
    refine XC.skip<|XQ.seq<|XC.seq<|XC.block<|XC.seq<|XC.region ?_
    refine bindK h5 (fun x65 hx65 h5=>?_)
    refine rR Z Z Z (RO.indexE (α:=LV) sl_37 Z (.d _) Z hx65)<|rR Z Z Z (RO.loadPelCE (x65:LV) ag_59 Z)<|XL.put Z Z (lb Z) (OpOK.alloc z_59 Z)<|XL.eff Z Z (OpOK.storeCE (x65:LV) ag_59 Z Z Z Z Z)<|XL.nil<|XQ.seq<|XC.region<|rM Z Z Z<|rR Z Z Z (RO.fieldOwn fo_59_1 Z)<|rR Z Z Z (RO.loadOwn ag_3 Z Z Z)<|rR Z Z Z (RO.max2 Z Z)<|rA Z Z Z<|XL.nil<|XQ.inBlock ?_
    refine XQ.seq<|XC.region<|rR Z Z Z (RO.binInt Z Z Z)<|rM Z Z Z<|XL.nil ?_
    have e:=sI h5;subst e
    refine XQ.nextM ((max s5.1 x65.2),(w64 (s5.2+1))) (stle (tA Z) (hA Z) kZ Z (Nat.le_trans hv4 (lb Z)) Z Z Z (bF Z (bA Z)) Z Z) ho5
    replace h5:=condF c64 h5
    refine XC.exit<|XQ.thenE<|XQ.thenE ?_
    have e:=sI h5;subst e
    have e_:_=_:=ho5
    subst e_
    exact XQ.joinX s5.1 (stle (tA Z) (hA Z) kZ Z (Nat.le_trans hv4 (lb Z)) Z Z Z (bF Z (bA Z)) Z Z) h4
    intro o62 h4
    refine XQ.blockX<|XQ.seq<|XC.seq<|XC.seq<|XC.region<|rR Z Z Z (RO.fieldOwn fo_39_0 Z)<|rR Z Z Z (RO.loadOwn ag_3 Z Z Z)<|rM Z Z Z<|rR Z Z Z (RO.binInt Z Z Z)<|XL.nil<|XQ.seq ?_
    refine XC.cond (b:=(decide (o62 < x1.2.1))) Z (fun c66=>?_) (fun c66=>?_)
    replace h4:=condT c66 h4
    refine XC.seq<|XC.region<|rA Z Z Z<|XL.nil<|XQ.seq<|XC.ret ?_
    have e:=sI h4;subst e
    exact hQ4 _ _ _ (.inr Z) Z (stle (tA Z) (hA Z) kZ Z (Nat.le_trans hv4 (lb Z)) Z Z Z (bF Z (bA Z)) Z Z)
    replace h4:=condF c66 h4
    refine XC.skip<|XQ.seq<|XC.seq<|XC.seq<|XC.region<|rR Z Z Z (RO.fieldOwn fo_39_1 Z)<|rR Z Z Z (RO.loadOwn ag_37 Z Z Z)<|rR Z Z Z (RO.lenE (α:=LV) sl_37 Z .nil)<|rM Z Z Z<|XL.nil<|XQ.seq<|XC.block ?_
    refine XC.joinX 2 (fun (o67:Unit)=>⟨[],m31f10_h16 a2 a0 a1 x1 x53,[],18,49,[]⟩) (fun (o67:Unit)=>(some true)=some y55) ?_ ?_
    refine bindK h4 (fun o68 hl5 h4=>?_)
    refine XC.loopM (m31f10_l2 x53) (fun s5=>⟨[(3,.v (.one (.ptr 17 0))),(37,.v (.one (dN))),(38,.v (.one (dI (([]:List LV).length:Int)))),(39,.v (.one (dI s5)))],m31f10_h16 a2 a0 a1 x1 x53,[],18,49,[]⟩) 0 o68 (stle (tA Z) (hA Z) kZ Z (Nat.le_trans hv4 (lb Z)) Z Z Z (bF Z (bA Z)) Z Z) hl5 (fun s5 n5 oo5 h5 ho5=>?_)
    unfold m31f10_l2 at h5
    refine XC.seq<|XC.region<|rR Z Z Z (RO.binInt Z Z Z)<|XL.nil<|XQ.seq<|XC.seq ?_
    refine XC.cond (b:=(decide (s5 < (([]:List LV).length:Int)))) Z (fun c69=>?_) (fun c69=>?_)
    replace h5:=condT c69 h5
    refine XC.skip<|XQ.seq<|XC.seq<|XC.block<|XC.seq<|XC.region ?_
    refine bindK h5 (fun x70 hx70 h5=>?_)
    refine rR Z Z Z (RO.indexE (α:=LV) sl_37 Z .nil Z hx70)<|rR Z Z Z (RO.loadPelCE (x70:LV) ag_59 Z)<|XL.put Z Z (lb Z) (OpOK.alloc z_59 Z)<|XL.eff Z Z (OpOK.storeCE (x70:LV) ag_59 Z Z Z Z Z)<|XL.nil<|XQ.seq<|XC.seq<|XC.region<|rR Z Z Z (RO.fieldOwn fo_39_1 Z)<|rR Z Z Z (RO.loadOwn ag_37 Z Z Z)<|rR Z Z Z (RO.makeFunc1 Z) ?_
    refine bindK h5 (fun x71 hx71 h5=>?_)
    refine XL.put Z Z (lb Z) (OpOK.callG (hp1':=[(18,.cells 59 (cE x70))]) (tk1':=[]) (hpF:=m31f10_h16 a2 a0 a1 x1 x53) (tkF:=[]) (res2:=resOf [.one (dB x71)]) (nx2:=19) [18] Z Z (m70f15_ok x53.2.2 x70 x71 hx71) Z Z (qB Z Z qZ) Z Z (gR Z gZ) jZ (hA Z) kZ Z Z Z Z Z (bA Z) Z Z Z Z)<|rR Z Z Z (RO.not Z)<|XL.nil<|XQ.seq ?_
    refine XC.cond (b:=(!x71)) Z (fun c72=>?_) (fun c72=>?_)
    replace h5:=condT c72 h5
    refine XC.seq<|XC.region<|rA Z Z Z<|XL.nil<|XQ.seq<|XC.ret ?_
    have e:=sI h5;subst e
    have e_:_=_:=ho5
    subst e_
    try dsimp only [Sum.elim_inl,Sum.elim_inr] at h4
    have e:=sI h4;subst e
    exact hQ4 _ _ _ (.inr Z) Z (stle (tA Z) (hA Z) kZ Z (Nat.le_trans hv4 (lb Z)) Z Z Z (bF Z (bA Z)) Z Z)
    replace h5:=condF c72 h5
    refine XC.skip<|XQ.inBlock<|XQ.seq<|XC.region<|rR Z Z Z (RO.binInt Z Z Z)<|rM Z Z Z<|XL.nil ?_
    have e:=sI h5;subst e
    refine XQ.nextM (w64 (s5+1)) (stle (tA Z) (hA Z) kZ Z (Nat.le_trans hv4 (lb Z)) Z Z Z (bF Z (bA Z)) Z Z) ho5
    replace h5:=condF c69 h5
    refine XC.exit<|XQ.thenE<|XQ.thenE ?_
    have e:=sI h5;subst e
    have e_:_=_:=ho5
    subst e_
    exact XQ.joinX () (stle tZ (hA Z) kZ Z (Nat.le_trans hv4 (lb Z)) Z Z Z (bF Z (bA Z)) Z Z) h4
    intro o67 h4
    refine XQ.blockX<|XQ.seq<|XC.seq<|XC.region<|rA Z Z Z<|XL.nil<|XQ.seq<|XC.ret ?_
    have e:=sI h4;subst e
    exact hQ4 _ _ _ (.inr Z) Z (stle (tA Z) (hA Z) kZ Z (Nat.le_trans hv4 (lb Z)) Z Z Z (bF Z (bA Z)) Z Z)
   refine XL.put Z Z (lb Z) (OpOK.callW Z Z Z hc56 Z (hA Z) kZ)<|XL.nil<|XQ.seq ?_
   refine XC.cond (b:=y55) Z (fun c73=>?_) (fun c73=>?_)
   replace h3:=condT c73 h3
   refine XC.exit<|XQ.thenE<|XQ.blockX ?_
   have e:=sI h3;subst e
   exact XQ.of (e:=.normal) (st':=⟨[],m31f10_h17 a2 a0 a1 x1,[],18,65,[]⟩) hQn3 (stle tZ (hA Z) kZ Z (Nat.le_trans hv3 (lb Z)) Z Z Z (bF Z (bA Z)) Z Z)
   replace h3:=condF c73 h3
   refine XC.skip<|XQ.seq<|XC.seq<|XC.region<|rR Z Z Z (RO.fieldOwn fo_41_1 Z)<|rR Z Z Z (RO.loadOwnAgg ag_39 Z Z Z Z) ?_
   refine bindK h3 (fun x74 hx74 h3=>?_)
   refine XL.put Z Z (lb Z) (OpOK.callFun (m54_ok a1.hi x74 hx74) Z (.cons (.agg (.cons (.d _) (.cons (.d _) .nil))) .nil))<|rM Z Z Z<|rR Z Z Z (RO.extract Z Z)<|rR Z Z Z (RO.extract Z Z)<|rA Z Z Z<|rA Z Z Z<|XL.nil<|XQ.seq<|XC.seq<|XC.seq<|XC.region<|rM Z Z Z<|rR Z Z Z (RO.binInt Z Z Z)<|XL.nil ?_
   refine XQ.seq ?_
   refine XC.cond (b:=(decide (x74.1 < 0))) Z (fun c75=>?_) (fun c75=>?_)
   replace h3:=condT c75 h3
   refine XC.seq<|XC.region<|XL.eff Z Z (OpOK.store ag_4 Z Z Z Z (lb Z) Z)<|XL.eff Z Z (OpOK.store ag_25 Z Z Z Z (lb Z) Z)<|XL.nil<|XQ.seq<|XC.ret ?_
   have e:=sI h3;subst e
   exact XQ.of (e:=.ret) (st':=⟨[],m31f10_h13 a2 a0 a1 x1,[],16,65,[]⟩) hQn3 (stle tZ (hA Z) kZ Z (Nat.le_trans hv3 (lb Z)) Z Z Z (bF Z (bA Z)) Z Z)
   replace h3:=condF c75 h3
   refine XC.skip<|XQ.seq<|XC.seq ?_
   refine XC.anyRun [11,12] [(0,1),(1,1),(2,1),(3,1),(4,1),(5,1),(6,1),(7,1),(8,1),(9,1),(10,1),(10,2)] mixed (by kernel_rfl) (by kernel_rfl) (by kernel_rfl) ?_
   refine RunA.rd Z Z Z (OpOK.of_ro (RO.loadOwn ag_31 Z Z Z)) Z<|RunA.rd Z Z Z (OpOK.of_ro (RO.move Z)) Z ?_
   refine bindK h3 (fun x76 hx76 h3=>?_)
   refine guardK h3 (fun g77 h3=>?_)
   refine RunA.rd Z Z Z (OpOK.of_ro (RO.indexO (α:=Lvl) sl_31 Z Z hx76 g77)) Z<|RunA.rd Z Z Z (OpOK.of_ro (RO.loadOE (α:=Lvl) (ys:=[dI x76.c,dS x76.vs]) ag_39 Z Z hx76 Z)) Z<|RunA.rd Z Z Z (OpOK.of_ro (RO.loadOwnAgg ag_39 Z Z Z Z)) Z<|RunA.rd Z Z Z (OpOK.of_ro (RO.move Z)) Z ?_
   refine bindK h3 (fun x78 hx78 h3=>?_)
   refine RunA.rd Z Z Z (OpOK.callFun (m56_ok (⟨x1.2.1,([]:List LV)⟩:Lvl) x74.2 x78 hx78) Z (.cons (.agg (.cons (.d _) (.cons (.nil _) .nil))) (.cons (.one (.d _)) .nil))) Z ?_
   refine bindK h3 (fun x79 hx79 h3=>?_)
   refine RunA.rd Z Z Z (OpOK.callFun (m55_ok x76 x78 x79 hx79) Z (.cons (.agg (.cons (.d _) (.cons (.d _) .nil))) (.cons (.agg (.cons (.d _) (.cons (.d _) .nil))) .nil))) Z<|RunA.rd Z Z Z (OpOK.of_ro (RO.move Z)) Z<|RunA.rd Z Z Z (OpOK.of_ro (RO.extract Z Z)) Z<|RunA.rd Z Z Z (OpOK.of_ro (RO.extract Z Z)) Z<|RunA.eff Z Z Z (OpOK.alloc z_39 Z) Z<|RunA.eff Z Z Z (OpOK.storeCE (x79.1:Lvl) ag_39 Z Z Z Z Z) Z<|RunA.rd Z Z Z (OpOK.of_ro (RO.assign Z)) Z ?_
   refine RunA.nil ⟨?ex,_,_,Z,?_⟩
   case ex=>exact ⟨⟨_,rfl,_,_,rfl,rfl,rfl,.inl ⟨rfl,_,OpOK.of_ro (RO.loadOwn ag_31 rfl rfl rfl),rfl⟩⟩,⟨_,rfl,_,_,rfl,rfl,rfl,.inl ⟨rfl,_,OpOK.of_ro (RO.move rfl),rfl⟩⟩,⟨_,rfl,_,_,rfl,rfl,rfl,.inl ⟨rfl,_,OpOK.of_ro (RO.indexO (α:=Lvl) sl_31 rfl rfl hx76 g77),rfl⟩⟩,⟨_,rfl,_,_,rfl,rfl,rfl,.inl ⟨rfl,_,OpOK.of_ro (RO.loadOE (α:=Lvl) (ys:=[dI x76.c,dS x76.vs]) ag_39 rfl rfl hx76 rfl),rfl⟩⟩,⟨_,rfl,_,_,rfl,rfl,rfl,.inl ⟨rfl,_,OpOK.of_ro (RO.loadOwnAgg ag_39 rfl rfl rfl rfl),rfl⟩⟩,⟨_,rfl,_,_,rfl,rfl,rfl,.inl ⟨rfl,_,OpOK.of_ro (RO.move rfl),rfl⟩⟩,⟨_,rfl,_,_,rfl,rfl,rfl,.inl ⟨rfl,_,OpOK.callFun (m56_ok (⟨x1.2.1,([]:List LV)⟩:Lvl) x74.2 x78 hx78) rfl (.cons (.agg (.cons (.d _) (.cons (.nil _) .nil))) (.cons (.one (.d _)) .nil)),rfl⟩⟩,⟨_,rfl,_,_,rfl,rfl,rfl,.inl ⟨rfl,_,OpOK.callFun (m55_ok x76 x78 x79 hx79) rfl (.cons (.agg (.cons (.d _) (.cons (.d _) .nil))) (.cons (.agg (.cons (.d _) (.cons (.d _) .nil))) .nil)),rfl⟩⟩,⟨_,rfl,_,_,rfl,rfl,rfl,.inl ⟨rfl,_,OpOK.of_ro (RO.move rfl),rfl⟩⟩,⟨_,rfl,_,_,rfl,rfl,rfl,.inl ⟨rfl,_,OpOK.of_ro (RO.extract rfl rfl),rfl⟩⟩,⟨_,rfl,_,_,rfl,rfl,rfl,.inl ⟨rfl,_,OpOK.of_ro (RO.extract rfl rfl),rfl⟩⟩,⟨_,rfl,_,_,rfl,rfl,rfl,.inl ⟨rfl,_,OpOK.of_ro (RO.extract rfl rfl),rfl⟩⟩,trivial⟩
   refine XQ.less (st':=⟨[(2,.v (.one (.ptr 1 0))),(4,.v (.one (.ptr 3 0))),(5,.v (.one (.ptr 4 0))),(8,.v (.one (.ptr 8 0))),(11,.v (.one (dI x79.2))),(12,.v (.one (dI x74.1))),(14,.v (.one (.ptr 18 0)))],m31f10_h18 a2 a0 a1 x1 x53 x79,[],19,65,[]⟩) (stle (tA Z) (hA Z) kZ Z (Nat.le_trans hv3 (lb Z)) Z Z Z (bF Z (bA Z)) Z Z)<|XQ.seq<|XC.seq<|XC.seq<|XC.region<|rM Z Z Z<|rR Z Z Z (RO.binInt Z Z Z)<|XL.nil<|XQ.seq ?_
   refine XC.cond (b:=(x79.2 != 0)) Z (fun c80=>?_) (fun c80=>?_)
   replace h3:=condT c80 h3
   refine XC.seq<|XC.region<|XL.eff Z Z (OpOK.store ag_4 Z Z Z Z (lb Z) Z)<|XL.eff Z Z (OpOK.store ag_25 Z Z Z Z (lb Z) Z)<|XL.nil<|XQ.seq<|XC.ret ?_
   have e:=sI h3;subst e
   exact XQ.of (e:=.ret) (st':=⟨[],m31f10_h13 a2 a0 a1 x1,[],16,65,[]⟩) hQn3 (stle tZ (hA Z) kZ Z (Nat.le_trans hv3 (lb Z)) Z Z Z (bF Z (bA Z)) Z Z)
   replace h3:=condF c80 h3
   refine XC.skip<|XQ.seq<|XC.region<|rR Z Z Z (RO.loadOwn ag_31 Z Z Z)<|rM Z Z Z<|rR Z Z Z (RO.loadCE (x79.1:Lvl) ag_39 Z Z) ?_
   refine bindK h3 (fun x81 hx81 h3=>?_)
   refine guardK h3 (fun g82 h3=>?_)
   refine rR Z Z Z (RO.indexO (α:=Lvl) sl_31 Z Z hx81 g82)<|XL.eff Z Z (OpOK.storeOE (α:=Lvl) (y':=.agg [dI x79.1.c,dS x79.1.vs]) (v:=x79.1) ag_39 Z Z (.agg (.cons (.d _) (.cons (.d _) .nil))) Z Z hx81 Z)<|XL.eff Z Z (OpOK.store ag_4 Z Z Z Z (lb Z) Z)<|XL.nil<|XQ.inBlock ?_
   have e:=sI h3;subst e
   exact XQ.of (e:=.normal) (st':=⟨[],m31f10_h19 a2 x74 x79 a0 a1 x1,[],18,65,[]⟩) hQn3 (stle tZ (hA Z) kZ Z (Nat.le_trans hv3 (lb Z)) Z Z Z (bF Z (bA Z)) Z Z)
  refine sumK (C:=fun q_=>ExecOK Try.prog (some 11) m31f10_c1 ⟨[(2,.v (.one (.ptr 1 0))),(3,.v (.one (.ptr 2 0))),(4,.v (.one (.ptr 3 0))),(5,.v (.one (.ptr 4 0))),(8,.v (.one (.ptr 8 0))),(9,.v (.one (.ptr 12 0)))],m31f10_h10 a2 a0 a1 x1,[],13,65,[]⟩ ((Sum.elim (fun (_:Bool×(List Lvl))=>(.normal:Exit)) (fun (_:Unit)=>(.ret:Exit))) q_) ((Sum.elim (fun (y48:Bool×(List Lvl))=>(⟨[],m31f10_h12 y48 a0 a1 x1,[],18,65,[]⟩:St)) (fun (y49:Unit)=>(⟨[],m31f10_h13 a2 a0 a1 x1,[],16,65,[]⟩:St))) q_)) hb52 h2 (fun y48 hb52 h2=>?_) (fun y49 hb52 h2=>?_)
  replace hb52:ExecOK Try.prog (some 11) m31f10_c1 ⟨[(2,.v (.one (.ptr 1 0))),(3,.v (.one (.ptr 2 0))),(4,.v (.one (.ptr 3 0))),(5,.v (.one (.ptr 4 0))),(8,.v (.one (.ptr 8 0))),(9,.v (.one (.ptr 12 0)))],m31f10_h10 a2 a0 a1 x1,[],13,65,[]⟩ .normal ⟨[],m31f10_h12 y48 a0 a1 x1,[],18,65,[]⟩:=hb52
  refine XL.put Z Z (lb Z) (OpOK.yield (jump:=none) Z Z Z Z Z (ExecOK.from ha51 (fun E hv=>(stle (tA Z) (hA Z) kZ Z (Nat.le_trans hv (lb Z)) Z Z Z (bF Z (bA Z)) Z Z))) Z (ExecOK.from hb52 (fun E hv=>(stle (tA Z) (hA Z) kZ Z (Nat.le_trans hv (lb Z)) Z Z Z (bF Z (bA Z)) Z Z))) Z Z) ?_
  refine rR Z Z Z (RO.not Z)<|rR Z Z Z (RO.pickT Z Z)<|XL.nil ?_
  have e:=sI h2;subst e
  exact XQ.joinRl (y48.1,y48.2) (stle (tA Z) (hA Z) kZ Z (Nat.le_trans hv1 (lb Z)) Z Z Z (bF Z (bA Z)) Z Z) h1
  replace hb52:ExecOK Try.prog (some 11) m31f10_c1 ⟨[(2,.v (.one (.ptr 1 0))),(3,.v (.one (.ptr 2 0))),(4,.v (.one (.ptr 3 0))),(5,.v (.one (.ptr 4 0))),(8,.v (.one (.ptr 8 0))),(9,.v (.one (.ptr 12 0)))],m31f10_h10 a2 a0 a1 x1,[],13,65,[]⟩ .ret ⟨[],m31f10_h13 a2 a0 a1 x1,[],16,65,[]⟩:=hb52
  refine XL.put Z Z (lb Z) (OpOK.yield (jump:=(some .ret)) Z Z Z Z Z (ExecOK.from ha51 (fun E hv=>(stle (tA Z) (hA Z) kZ Z (Nat.le_trans hv (lb Z)) Z Z Z (bF Z (bA Z)) Z Z))) Z (ExecOK.from hb52 (fun E hv=>(stle (tA Z) (hA Z) kZ Z (Nat.le_trans hv (lb Z)) Z Z Z (bF Z (bA Z)) Z Z))) Z Z) ?_
  refine rR Z Z Z (RO.not Z)<|rR Z Z Z (RO.pickT Z Z)<|XL.nil ?_
  have e:=sI h2;subst e
  exact XQ.joinRr () (stle (tA Z) (hA Z) kZ Z (Nat.le_trans hv1 (lb Z)) Z Z Z (bF Z (bA Z)) Z Z) h1
  replace h2:=condF c47 h2
  refine XL.no Z Z<|XL.no Z Z<|XL.no Z Z<|XL.no Z Z<|XL.no Z Z<|XL.no Z Z<|rR Z Z Z (RO.pickF Z Z)<|XL.nil ?_
  have e:=sI h2;subst e
  exact XQ.joinRl (false,a2) (stle (tA Z) (hA Z) kZ Z (Nat.le_trans hv1 (lb Z)) Z Z Z (bF Z (bA Z)) Z Z) h1
  intro v9 h1
  refine XQ.seq ?_
  refine XC.cond Z (fun h=>nomatch h) (fun _=>?_)
  refine XC.skip<|XQ.seq<|XC.seq<|XC.region<|rR Z Z Z (RO.fieldOwn fo_39_1 Z)<|rR Z Z Z (RO.loadOwn ag_37 Z Z Z)<|rR Z Z Z (RO.lenE (α:=LV) sl_37 Z (.d _))<|rM Z Z Z<|XL.nil<|XQ.seq<|XC.block ?_
  refine XC.joinX 0 (fun (o83:(List Lvl)×Bool)=>⟨[],[(0,.cells 39 (flatE o83.1)),(1,.cells 31 [.osl 0 0 a0 a0]),(2,.cells 41 (cE a1)),(3,.cells 4 [dB false]),(4,.cells 25 [dI 0]),(6,.cells 39 [dI x1.2.1,dS x1.2.2]),(7,.cells 39 [dI x1.2.1,dS x1.2.2]),(8,.cells 4 [dB o83.2]),(9,.cells 39 [dI x1.2.1,dS x1.2.2]),(10,.obj (.deferred (some []))),(11,m31f10_h3)],[],12,36,[]⟩) (fun (o83:(List Lvl)×Bool)=>(some (.inl (o83.2,o83.1)))=some y8) ?_ ?_
  refine bindK h1 (fun o84 hl2 h1=>?_)
  refine XC.loopM (m31f10_l0 x1 a1 a0) (fun s2=>⟨[(0,.v (.one (.yld 11))),(23,.v (.one (dS x1.2.2))),(24,.v (.one (dI (x1.2.2.length:Int)))),(25,.v (.one (dI s2.1)))],[(0,.cells 39 (flatE s2.2.1)),(1,.cells 31 [.osl 0 0 a0 a0]),(2,.cells 41 (cE a1)),(3,.cells 4 [dB false]),(4,.cells 25 [dI 0]),(6,.cells 39 [dI x1.2.1,dS x1.2.2]),(7,.cells 39 [dI x1.2.1,dS x1.2.2]),(8,.cells 4 [dB s2.2.2]),(9,.cells 39 [dI x1.2.1,dS x1.2.2]),(10,.obj (.deferred (some []))),(11,m31f10_h3)],[],12,36,[]⟩) (0,v9.2,v9.1) o84 (stle (tA Z) (hA Z) kZ Z (Nat.le_trans hv1 (lb Z)) Z Z Z (bF Z (bA Z)) Z Z) hl2 (fun s2 n2 oo2 h2 ho2=>?_)
  unfold m31f10_l0 at h2
  refine XC.seq<|XC.region<|rR Z Z Z (RO.binInt Z Z Z)<|XL.nil<|XQ.seq<|XC.seq ?_
  refine XC.cond (b:=(decide (s2.1 < (x1.2.2.length:Int)))) Z (fun c85=>?_) (fun c85=>?_)
  replace h2:=condT c85 h2
  refine XC.skip<|XQ.seq<|XC.seq<|XC.block<|XC.seq<|XC.region ?_
  refine bindK h2 (fun x86 hx86 h2=>?_)
  refine rR Z Z Z (RO.indexE (α:=LV) sl_37 Z (.d _) Z hx86)<|rR Z Z Z (RO.loadPelCE (x86:LV) ag_59 Z)<|XL.put Z Z (lb Z) (OpOK.alloc z_59 Z)<|XL.eff Z Z (OpOK.storeCE (x86:LV) ag_59 Z Z Z Z Z)<|XL.nil<|XQ.seq<|XC.seq<|XC.region<|rM Z Z Z<|rR Z Z Z (RO.loadCE (x86:LV) ag_59 Z Z)<|XL.put Z Z (lb Z) (OpOK.lit1E (α:=LV) (x86) sl_37 z_59 Z Z (lb Z) (lb Z) Z Z (.cons (.d _) (.cons (.d _) .nil)) Z)<|rR Z Z Z (RO.build1 bd_39 Z Z Z) ?_
  refine bindK h2 (fun y89 h3 h2=>?_)
  have ha90:ExecOK Try.prog (some 11) m31f10_c0 ⟨[(2,.v (.one (.ptr 1 0))),(3,.v (.one (.ptr 2 0))),(4,.v (.one (.ptr 3 0))),(5,.v (.one (.ptr 4 0))),(8,.v (.one (.ptr 8 0))),(25,.v (.one (.fn 62 [(9,0)]))),(26,.v (.agg [dI 0,dA 13 ([x86]:List LV)]))],m31f10_h20 s2 a0 a1 x1 x86,[(13,some ⟨59,2,(Enc.encL ([x86]:List LV)).length,[]⟩)],14,65,[]⟩ .normal ⟨[(2,.v (.one (.ptr 1 0))),(3,.v (.one (.ptr 2 0))),(4,.v (.one (.ptr 3 0))),(5,.v (.one (.ptr 4 0))),(8,.v (.one (.ptr 8 0))),(9,.v (.one (.ptr 14 0)))],m31f10_h22 s2 a0 a1 x1 x86,[(13,some ⟨59,2,(Enc.encL ([x86]:List LV)).length,[]⟩)],15,65,[]⟩:=by
   refine ExecOK.walk (fun w0 M V0 ro n Q hv3 hro3 hQn3=>?_)
   refine XC.region<|XL.put Z Z (lb Z) (OpOK.alloc z_39 Z)<|XL.eff Z Z (OpOK.store ag_39 Z Z Z Z (lb Z) Z)<|XL.nil ?_
   exact XQ.of hQn3 (stle (tA Z) (hA Z) (kA Z) Z (Nat.le_trans hv3 (lb Z)) Z Z Z (bF Z (bA Z)) Z Z)
  have hb91:ExecOK Try.prog (some 11) m31f10_c1 ⟨[(2,.v (.one (.ptr 1 0))),(3,.v (.one (.ptr 2 0))),(4,.v (.one (.ptr 3 0))),(5,.v (.one (.ptr 4 0))),(8,.v (.one (.ptr 8 0))),(9,.v (.one (.ptr 14 0)))],m31f10_h21 s2 a0 a1 x1 x86,[(13,some ⟨59,2,(Enc.encL ([x86]:List LV)).length,[]⟩)],15,65,[]⟩ ((Sum.elim (fun (_:Bool×(List Lvl))=>(.normal:Exit)) (fun (_:Unit)=>(.ret:Exit))) y89) ((Sum.elim (fun (y87:Bool×(List Lvl))=>(⟨[],m31f10_h23 y87 a0 a1 x1 x86,[(13,some ⟨59,2,(Enc.encL ([x86]:List LV)).length,[]⟩)],20,65,[]⟩:St)) (fun (y88:Unit)=>(⟨[],m31f10_h24 s2 a0 a1 x1 x86,[(13,some ⟨59,2,(Enc.encL ([x86]:List LV)).length,[]⟩)],18,65,[]⟩:St))) y89):=by
   refine ExecOK.walk (fun w0 M V0 ro n Q hv3 hro3 hQn3=>?_)
   refine XC.block<|XC.seq<|XC.region<|rR Z Z Z (RO.fieldOwn fo_41_1 Z)<|rR Z Z Z (RO.loadOwnAgg ag_39 Z Z Z Z)<|rR Z Z Z (RO.loadOwn ag_31 Z Z Z) ?_
   refine bindK h3 (fun x92 hx92 h3=>?_)
   refine XL.put Z Z (lb Z) (OpOK.callG (hp1':=[(0,.cells 39 (flatE s2.2.1)),(16,.cells 39 [dI x92.2.1,dS x92.2.2])]) (tk1':=[]) (hpF:=m31f10_h25 a0 a1 x1 s2 x86) (tkF:=[(13,some ⟨59,2,(Enc.encL ([x86]:List LV)).length,[]⟩)]) (res2:=resOf [.agg [dI x92.2.1,dS x92.2.2],.one (dI x92.1)]) (nx2:=17) [0] Z Z (m48f11_ok a1.hi a0 s2.2.1 x92 hx92) Z Z (qF Z (qB Z Z qZ)) Z Z (gF Z gZ) jZ (hA Z) (kA Z) Z Z Z Z Z (bF Z bZ) Z Z Z Z)<|rM Z Z Z<|rR Z Z Z (RO.extract Z Z)<|rR Z Z Z (RO.extract Z Z)<|XL.put Z Z (lb Z) (OpOK.alloc z_39 Z)<|XL.eff Z Z (OpOK.store ag_39 Z Z Z Z (lb Z) Z)<|rA Z Z Z<|XL.nil<|XQ.seq<|XC.seq<|XC.seq<|XC.region<|rM Z Z Z<|rR Z Z Z (RO.binInt Z Z Z) ?_
   refine XL.nil<|XQ.seq ?_
   refine XC.cond (b:=(x92.1 != 0)) Z (fun c93=>?_) (fun c93=>?_)
   replace h3:=condT c93 h3
   refine XC.seq<|XC.region<|XL.eff Z Z (OpOK.store ag_4 Z Z Z Z (lb Z) Z)<|XL.eff Z Z (OpOK.store ag_25 Z Z Z Z (lb Z) Z)<|XL.nil<|XQ.seq<|XC.ret ?_
   have e:=sI h3;subst e
   exact XQ.of (e:=.ret) (st':=⟨[],m31f10_h24 s2 a0 a1 x1 x86,[(13,some ⟨59,2,(Enc.encL ([x86]:List LV)).length,[]⟩)],18,65,[]⟩) hQn3 (stle tZ (hA Z) (kA Z) Z (Nat.le_trans hv3 (lb Z)) Z Z Z (bF Z (bA Z)) Z Z)
   replace h3:=condF c93 h3
   refine XC.skip<|XQ.seq<|XC.seq<|XC.seq<|XC.region<|rR Z Z Z (RO.loadOwnAgg ag_39 Z Z Z Z)<|rR Z Z Z (RO.loadOwnAgg ag_39 Z Z Z Z) ?_
   refine bindK h3 (fun x94 hx94 h3=>?_)
   refine XL.put Z Z (lb Z) (OpOK.callG (hp1':=[]) (tk1':=[(13,some ⟨59,2,(Enc.encL ([x86]:List LV)).length,[]⟩)]) (hpF:=m31f10_h26 s2 a0 a1 x1 x86 x92) (tkF:=[]) (res2:=resOf [.one (dB x94)]) (nx2:=20) [13] Z Z (m49f18_ok 0 ([x86]) (⟨x92.2.1,x92.2.2⟩:Lvl) x94 hx94) Z Z qZ Z Z gZ (jR Z jZ) (hA Z) kZ Z Z Z Z Z bZ Z Z Z Z)<|XL.nil<|XQ.seq ?_
   refine XC.cond (b:=x94) Z (fun c95=>?_) (fun c95=>?_)
   replace h3:=condT c95 h3
   refine XC.exit<|XQ.thenE<|XQ.blockX ?_
   have e:=sI h3;subst e
   exact XQ.of (e:=.normal) (st':=⟨[],m31f10_h27 s2 a0 a1 x1 x86,[(13,some ⟨59,2,(Enc.encL ([x86]:List LV)).length,[]⟩)],20,65,[]⟩) hQn3 (stle tZ (hA Z) (kA Z) Z (Nat.le_trans hv3 (lb Z)) Z Z Z (bF Z (bA Z)) Z Z)
   replace h3:=condF c95 h3
   refine XC.skip<|XQ.seq<|XC.seq<|XC.region<|rR Z Z Z (RO.fieldOwn fo_41_1 Z)<|rR Z Z Z (RO.loadOwnAgg ag_39 Z Z Z Z) ?_
   refine bindK h3 (fun x96 hx96 h3=>?_)
   refine XL.put Z Z (lb Z) (OpOK.callFun (m54_ok a1.hi x96 hx96) Z (.cons (.agg (.cons (.d _) (.cons (.d _) .nil))) .nil))<|rM Z Z Z<|rR Z Z Z (RO.extract Z Z)<|rR Z Z Z (RO.extract Z Z)<|rA Z Z Z<|rA Z Z Z<|XL.nil<|XQ.seq<|XC.seq<|XC.seq<|XC.region<|rM Z Z Z<|rR Z Z Z (RO.binInt Z Z Z)<|XL.nil ?_
   refine XQ.seq ?_
   refine XC.cond (b:=(decide (x96.1 < 0))) Z (fun c97=>?_) (fun c97=>?_)
   replace h3:=condT c97 h3
   refine XC.seq<|XC.region<|XL.eff Z Z (OpOK.store ag_4 Z Z Z Z (lb Z) Z)<|XL.eff Z Z (OpOK.store ag_25 Z Z Z Z (lb Z) Z)<|XL.nil<|XQ.seq<|XC.ret ?_
   have e:=sI h3;subst e
   exact XQ.of (e:=.ret) (st':=⟨[],m31f10_h24 s2 a0 a1 x1 x86,[(13,some ⟨59,2,(Enc.encL ([x86]:List LV)).length,[]⟩)],18,65,[]⟩) hQn3 (stle tZ (hA Z) (kA Z) Z (Nat.le_trans hv3 (lb Z)) Z Z Z (bF Z (bA Z)) Z Z)
   replace h3:=condF c97 h3
   refine XC.skip<|XQ.seq<|XC.seq ?_
   refine XC.anyRun [11,12] [(0,1),(1,1),(2,1),(3,1),(4,1),(5,1),(6,1),(7,1),(8,1),(9,1),(10,1),(10,2)] mixed (by kernel_rfl) (by kernel_rfl) (by kernel_rfl) ?_
   refine RunA.rd Z Z Z (OpOK.of_ro (RO.loadOwn ag_31 Z Z Z)) Z<|RunA.rd Z Z Z (OpOK.of_ro (RO.move Z)) Z ?_
   refine bindK h3 (fun x98 hx98 h3=>?_)
   refine guardK h3 (fun g99 h3=>?_)
   refine RunA.rd Z Z Z (OpOK.of_ro (RO.indexO (α:=Lvl) sl_31 Z Z hx98 g99)) Z<|RunA.rd Z Z Z (OpOK.of_ro (RO.loadOE (α:=Lvl) (ys:=[dI x98.c,dS x98.vs]) ag_39 Z Z hx98 Z)) Z<|RunA.rd Z Z Z (OpOK.of_ro (RO.loadOwnAgg ag_39 Z Z Z Z)) Z<|RunA.rd Z Z Z (OpOK.of_ro (RO.move Z)) Z ?_
   refine bindK h3 (fun x100 hx100 h3=>?_)
   refine RunA.rd Z Z Z (OpOK.callFun (m56_ok (⟨0,[x86]⟩:Lvl) x96.2 x100 hx100) Z (.cons (.agg (.cons (.d _) (.cons (.app _ _ _) .nil))) (.cons (.one (.d _)) .nil))) Z ?_
   refine bindK h3 (fun x101 hx101 h3=>?_)
   refine RunA.rd Z Z Z (OpOK.callFun (m55_ok x98 x100 x101 hx101) Z (.cons (.agg (.cons (.d _) (.cons (.d _) .nil))) (.cons (.agg (.cons (.d _) (.cons (.d _) .nil))) .nil))) Z<|RunA.rd Z Z Z (OpOK.of_ro (RO.move Z)) Z<|RunA.rd Z Z Z (OpOK.of_ro (RO.extract Z Z)) Z<|RunA.rd Z Z Z (OpOK.of_ro (RO.extract Z Z)) Z<|RunA.eff Z Z Z (OpOK.alloc z_39 Z) Z<|RunA.eff Z Z Z (OpOK.storeCE (x101.1:Lvl) ag_39 Z Z Z Z Z) Z<|RunA.rd Z Z Z (OpOK.of_ro (RO.assign Z)) Z ?_
   refine RunA.nil ⟨?ex,_,_,Z,?_⟩
   case ex=>exact ⟨⟨_,rfl,_,_,rfl,rfl,rfl,.inl ⟨rfl,_,OpOK.of_ro (RO.loadOwn ag_31 rfl rfl rfl),rfl⟩⟩,⟨_,rfl,_,_,rfl,rfl,rfl,.inl ⟨rfl,_,OpOK.of_ro (RO.move rfl),rfl⟩⟩,⟨_,rfl,_,_,rfl,rfl,rfl,.inl ⟨rfl,_,OpOK.of_ro (RO.indexO (α:=Lvl) sl_31 rfl rfl hx98 g99),rfl⟩⟩,⟨_,rfl,_,_,rfl,rfl,rfl,.inl ⟨rfl,_,OpOK.of_ro (RO.loadOE (α:=Lvl) (ys:=[dI x98.c,dS x98.vs]) ag_39 rfl rfl hx98 rfl),rfl⟩⟩,⟨_,rfl,_,_,rfl,rfl,rfl,.inl ⟨rfl,_,OpOK.of_ro (RO.loadOwnAgg ag_39 rfl rfl rfl rfl),rfl⟩⟩,⟨_,rfl,_,_,rfl,rfl,rfl,.inl ⟨rfl,_,OpOK.of_ro (RO.move rfl),rfl⟩⟩,⟨_,rfl,_,_,rfl,rfl,rfl,.inl ⟨rfl,_,OpOK.callFun (m56_ok (⟨0,[x86]⟩:Lvl) x96.2 x100 hx100) rfl (.cons (.agg (.cons (.d _) (.cons (.app _ _ _) .nil))) (.cons (.one (.d _)) .nil)),rfl⟩⟩,⟨_,rfl,_,_,rfl,rfl,rfl,.inl ⟨rfl,_,OpOK.callFun (m55_ok x98 x100 x101 hx101) rfl (.cons (.agg (.cons (.d _) (.cons (.d _) .nil))) (.cons (.agg (.cons (.d _) (.cons (.d _) .nil))) .nil)),rfl⟩⟩,⟨_,rfl,_,_,rfl,rfl,rfl,.inl ⟨rfl,_,OpOK.of_ro (RO.move rfl),rfl⟩⟩,⟨_,rfl,_,_,rfl,rfl,rfl,.inl ⟨rfl,_,OpOK.of_ro (RO.extract rfl rfl),rfl⟩⟩,⟨_,rfl,_,_,rfl,rfl,rfl,.inl ⟨rfl,_,OpOK.of_ro (RO.extract rfl rfl),rfl⟩⟩,⟨_,rfl,_,_,rfl,rfl,rfl,.inl ⟨rfl,_,OpOK.of_ro (RO.extract rfl rfl),rfl⟩⟩,trivial⟩
   refine XQ.less (st':=⟨[(2,.v (.one (.ptr 1 0))),(4,.v (.one (.ptr 3 0))),(5,.v (.one (.ptr 4 0))),(8,.v (.one (.ptr 8 0))),(11,.v (.one (dI x101.2))),(12,.v (.one (dI x96.1))),(14,.v (.one (.ptr 20 0)))],m31f10_h28 s2 a0 a1 x1 x86 x92 x101,[(13,some ⟨59,2,(Enc.encL ([x86]:List LV)).length,[]⟩)],21,65,[]⟩) (stle (tA Z) (hA Z) (kA Z) Z (Nat.le_trans hv3 (lb Z)) Z Z Z (bF Z (bA Z)) Z Z)<|XQ.seq<|XC.seq<|XC.seq<|XC.region<|rM Z Z Z<|rR Z Z Z (RO.binInt Z Z Z)<|XL.nil<|XQ.seq ?_
   refine XC.cond (b:=(x101.2 != 0)) Z (fun c102=>?_) (fun c102=>?_)
   replace h3:=condT c102 h3
   refine XC.seq<|XC.region<|XL.eff Z Z (OpOK.store ag_4 Z Z Z Z (lb Z) Z)<|XL.eff Z Z (OpOK.store ag_25 Z Z Z Z (lb Z) Z)<|XL.nil<|XQ.seq<|XC.ret ?_
   have e:=sI h3;subst e
   exact XQ.of (e:=.ret) (st':=⟨[],m31f10_h24 s2 a0 a1 x1 x86,[(13,some ⟨59,2,(Enc.encL ([x86]:List LV)).length,[]⟩)],18,65,[]⟩) hQn3 (stle tZ (hA Z) (kA Z) Z (Nat.le_trans hv3 (lb Z)) Z Z Z (bF Z (bA Z)) Z Z)
   replace h3:=condF c102 h3
   refine XC.skip<|XQ.seq<|XC.region<|rR Z Z Z (RO.loadOwn ag_31 Z Z Z)<|rM Z Z Z<|rR Z Z Z (RO.loadCE (x101.1:Lvl) ag_39 Z Z) ?_
   refine bindK h3 (fun x103 hx103 h3=>?_)
   refine guardK h3 (fun g104 h3=>?_)
   refine rR Z Z Z (RO.indexO (α:=Lvl) sl_31 Z Z hx103 g104)<|XL.eff Z Z (OpOK.storeOE (α:=Lvl) (y':=.agg [dI x101.1.c,dS x101.1.vs]) (v:=x101.1) ag_39 Z Z (.agg (.cons (.d _) (.cons (.d _) .nil))) Z Z hx103 Z)<|XL.eff Z Z (OpOK.store ag_4 Z Z Z Z (lb Z) Z)<|XL.nil<|XQ.inBlock ?_
   have e:=sI h3;subst e
   exact XQ.of (e:=.normal) (st':=⟨[],m31f10_h30 s2 x96 x101 a0 a1 x1 x86,[(13,some ⟨59,2,(Enc.encL ([x86]:List LV)).length,[]⟩)],20,65,[]⟩) hQn3 (stle tZ (hA Z) (kA Z) Z (Nat.le_trans hv3 (lb Z)) Z Z Z (bF Z (bA Z)) Z Z)
  refine sumK (C:=fun q_=>ExecOK Try.prog (some 11) m31f10_c1 ⟨[(2,.v (.one (.ptr 1 0))),(3,.v (.one (.ptr 2 0))),(4,.v (.one (.ptr 3 0))),(5,.v (.one (.ptr 4 0))),(8,.v (.one (.ptr 8 0))),(9,.v (.one (.ptr 14 0)))],m31f10_h21 s2 a0 a1 x1 x86,[(13,some ⟨59,2,(Enc.encL ([x86]:List LV)).length,[]⟩)],15,65,[]⟩ ((Sum.elim (fun (_:Bool×(List Lvl))=>(.normal:Exit)) (fun (_:Unit)=>(.ret:Exit))) q_) ((Sum.elim (fun (y87:Bool×(List Lvl))=>(⟨[],m31f10_h23 y87 a0 a1 x1 x86,[(13,some ⟨59,2,(Enc.encL ([x86]:List LV)).length,[]⟩)],20,65,[]⟩:St)) (fun (y88:Unit)=>(⟨[],m31f10_h24 s2 a0 a1 x1 x86,[(13,some ⟨59,2,(Enc.encL ([x86]:List LV)).length,[]⟩)],18,65,[]⟩:St))) q_)) hb91 h2 (fun y87 hb91 h2=>?_) (fun y88 hb91 h2=>?_)
  replace hb91:ExecOK Try.prog (some 11) m31f10_c1 ⟨[(2,.v (.one (.ptr 1 0))),(3,.v (.one (.ptr 2 0))),(4,.v (.one (.ptr 3 0))),(5,.v (.one (.ptr 4 0))),(8,.v (.one (.ptr 8 0))),(9,.v (.one (.ptr 14 0)))],m31f10_h21 s2 a0 a1 x1 x86,[(13,some ⟨59,2,(Enc.encL ([x86]:List LV)).length,[]⟩)],15,65,[]⟩ .normal ⟨[],m31f10_h23 y87 a0 a1 x1 x86,[(13,some ⟨59,2,(Enc.encL ([x86]:List LV)).length,[]⟩)],20,65,[]⟩:=hb91
  refine XL.put Z Z (lb Z) (OpOK.yield (jump:=none) Z Z Z Z Z (ExecOK.from ha90 (fun E hv=>(stle (tA Z) (hA Z) (kA Z) Z (Nat.le_trans hv (lb Z)) Z Z Z (bF Z (bA Z)) Z Z))) Z (ExecOK.from hb91 (fun E hv=>(stle (tA Z) (hA Z) (kA Z) Z (Nat.le_trans hv (lb Z)) Z Z Z (bF Z (bA Z)) Z Z))) Z Z) ?_
  refine rR Z Z Z (RO.not Z)<|XL.nil<|XQ.seq ?_
  refine XC.cond Z (fun h=>nomatch h) (fun _=>?_)
  refine XC.skip<|XQ.inBlock<|XQ.seq<|XC.region<|rR Z Z Z (RO.binInt Z Z Z)<|rM Z Z Z<|XL.nil ?_
  have e:=sI h2;subst e
  refine XQ.nextM ((w64 (s2.1+1)),y87.2,y87.1) (stle (tA Z) (hA Z) kZ Z (Nat.le_trans hv1 (lb Z)) Z Z Z (bF Z (bA Z)) Z Z) ho2
  replace hb91:ExecOK Try.prog (some 11) m31f10_c1 ⟨[(2,.v (.one (.ptr 1 0))),(3,.v (.one (.ptr 2 0))),(4,.v (.one (.ptr 3 0))),(5,.v (.one (.ptr 4 0))),(8,.v (.one (.ptr 8 0))),(9,.v (.one (.ptr 14 0)))],m31f10_h21 s2 a0 a1 x1 x86,[(13,some ⟨59,2,(Enc.encL ([x86]:List LV)).length,[]⟩)],15,65,[]⟩ .ret ⟨[],m31f10_h24 s2 a0 a1 x1 x86,[(13,some ⟨59,2,(Enc.encL ([x86]:List LV)).length,[]⟩)],18,65,[]⟩:=hb91
  refine XL.put Z Z (lb Z) (OpOK.yield (jump:=(some .ret)) Z Z Z Z Z (ExecOK.from ha90 (fun E hv=>(stle (tA Z) (hA Z) (kA Z) Z (Nat.le_trans hv (lb Z)) Z Z Z (bF Z (bA Z)) Z Z))) Z (ExecOK.from hb91 (fun E hv=>(stle (tA Z) (hA Z) (kA Z) Z (Nat.le_trans hv (lb Z)) Z Z Z (bF Z (bA Z)) Z Z))) Z Z) ?_
  refine rR Z Z Z (RO.not Z)<|XL.nil<|XQ.seq ?_
  refine XC.cond Z (fun _=>?_) (fun h=>nomatch h)
  refine XC.ret ?_
  have e:=sI h2;subst e
  have e_:_=_:=ho2
  subst e_
  try dsimp only [Sum.elim_inl,Sum.elim_inr] at h1
  have e:=sI h1;subst e
  exact hQ1 _ _ _ (.inr Z) Z (show StLe _ _ ⟨[],m31f10_h31 s2 a0 a1 x1,[],16,36,[]⟩ from (stle tZ (hA Z) kZ Z (Nat.le_trans hv1 (lb Z)) Z Z Z (bF Z (bA Z)) Z Z))
  replace h2:=condF c85 h2
  refine XC.exit<|XQ.thenE<|XQ.thenE ?_
  have e:=sI h2;subst e
  have e_:_=_:=ho2
  subst e_
  exact XQ.joinX (s2.2.1,s2.2.2) (stle tZ (hA Z) kZ Z (Nat.le_trans hv1 (lb Z)) Z Z Z (bF Z (bA Z)) Z Z) h1
  intro o83 h1
  refine XQ.blockX ?_
  have e:=sI h1;subst e
  exact hQ1 _ _ _ (.inl Z) Z (show StLe _ _ ⟨[],m31f10_h32 o83 a0 a1 x1,[],12,36,[]⟩ from (stle tZ (hA Z) kZ Z (Nat.le_trans hv1 (lb Z)) Z Z Z (bF Z (bA Z)) Z Z))
  intro v10 h1
  refine XQ.seq ?_
  refine XC.cond Z (fun _=>?_) (fun h=>nomatch h)
  refine XC.ret ?_
  have e:=sI h1;subst e
  exact hQ1 _ _ _ (.inr Z) Z (show StLe _ _ ⟨[],m31f10_h7 a2 a0 a1 x1,[],16,36,[]⟩ from (stle tZ (hA Z) kZ Z (Nat.le_trans hv1 (lb Z)) Z Z Z (bF Z (bA Z)) Z Z))
 refine sumK (C:=fun q_=>CallM Try.prog 62 [.one (.yld 11),.one (.ptr 9 0)] ⟨[(11,.loop .ready none [(2,.v (.one (.ptr 1 0))),(3,.v (.one (.ptr 2 0))),(4,.v (.one (.ptr 3 0))),(5,.v (.one (.ptr 4 0))),(8,.v (.one (.ptr 8 0))),(25,.v (.one (.fn 62 [(9,0)])))] 65 #[26] m31f10_c0 m31f10_c1 10),(10,.obj (.deferred (some []))),(0,.cells 39 (flatE a2)),(1,.cells 31 [.osl 0 0 a0 a0]),(2,.cells 41 (cE a1)),(3,.cells 4 [dB false]),(4,.cells 25 [dI 0]),(6,.cells 39 [dI x1.2.1,dS x1.2.2]),(7,.cells 39 [dI x1.2.1,dS x1.2.2]),(8,.cells 4 [dB false]),(9,.cells 39 [dI x1.2.1,dS x1.2.2])],[],12⟩ (resOf []) ⟨(((Sum.elim (fun (y5:Bool×(List Lvl))=>(⟨[],m31f10_h4 y5 a0 a1 x1,[],12,36,[]⟩:St)) (fun (y6:Bool×(List Lvl))=>(⟨[],m31f10_h6 y6 a0 a1 x1,[],16,36,[]⟩:St)))) q_).hp,(((Sum.elim (fun (y5:Bool×(List Lvl))=>(⟨[],m31f10_h4 y5 a0 a1 x1,[],12,36,[]⟩:St)) (fun (y6:Bool×(List Lvl))=>(⟨[],m31f10_h6 y6 a0 a1 x1,[],16,36,[]⟩:St)))) q_).tk,(((Sum.elim (fun (y5:Bool×(List Lvl))=>(⟨[],m31f10_h4 y5 a0 a1 x1,[],12,36,[]⟩:St)) (fun (y6:Bool×(List Lvl))=>(⟨[],m31f10_h6 y6 a0 a1 x1,[],16,36,[]⟩:St)))) q_).nx⟩) hc7 h0 (fun y5 hc7 h0=>?_) (fun y6 hc7 h0=>?_)
 replace hc7:CallM Try.prog 62 [.one (.yld 11),.one (.ptr 9 0)] ⟨[(11,.loop .ready none [(2,.v (.one (.ptr 1 0))),(3,.v (.one (.ptr 2 0))),(4,.v (.one (.ptr 3 0))),(5,.v (.one (.ptr 4 0))),(8,.v (.one (.ptr 8 0))),(25,.v (.one (.fn 62 [(9,0)])))] 65 #[26] m31f10_c0 m31f10_c1 10),(10,.obj (.deferred (some []))),(0,.cells 39 (flatE a2)),(1,.cells 31 [.osl 0 0 a0 a0]),(2,.cells 41 (cE a1)),(3,.cells 4 [dB false]),(4,.cells 25 [dI 0]),(6,.cells 39 [dI x1.2.1,dS x1.2.2]),(7,.cells 39 [dI x1.2.1,dS x1.2.2]),(8,.cells 4 [dB false]),(9,.cells 39 [dI x1.2.1,dS x1.2.2])],[],12⟩ (resOf []) ⟨m31f10_h4 y5 a0 a1 x1,[],12⟩:=hc7
 refine XC.exec (rangeFunc_out (e:=.normal) rfl hc7 rfl rfl (by intro h;cases h) rfl) rfl ?_
 refine XQ.inBlock<|XQ.seq<|XC.seq<|XC.region<|rR Z Z Z (RO.loadOwn ag_4 Z Z Z)<|XL.eff Z Z (OpOK.store ag_4 Z Z Z Z (lb Z) Z)<|XL.eff Z Z (OpOK.store ag_25 Z Z Z Z (lb Z) Z)<|XL.nil<|XQ.seq<|XC.ret ?_
 have e:=sI h0;subst e
 exact hQ0 _ _ _ (.inr Z) Z (stle (tA Z) (hA Z) kZ Z (Nat.le_trans hv0 (lb Z)) Z Z Z (bF Z (bA Z)) Z Z)
 replace hc7:CallM Try.prog 62 [.one (.yld 11),.one (.ptr 9 0)] ⟨[(11,.loop .ready none [(2,.v (.one (.ptr 1 0))),(3,.v (.one (.ptr 2 0))),(4,.v (.one (.ptr 3 0))),(5,.v (.one (.ptr 4 0))),(8,.v (.one (.ptr 8 0))),(25,.v (.one (.fn 62 [(9,0)])))] 65 #[26] m31f10_c0 m31f10_c1 10),(10,.obj (.deferred (some []))),(0,.cells 39 (flatE a2)),(1,.cells 31 [.osl 0 0 a0 a0]),(2,.cells 41 (cE a1)),(3,.cells 4 [dB false]),(4,.cells 25 [dI 0]),(6,.cells 39 [dI x1.2.1,dS x1.2.2]),(7,.cells 39 [dI x1.2.1,dS x1.2.2]),(8,.cells 4 [dB false]),(9,.cells 39 [dI x1.2.1,dS x1.2.2])],[],12⟩ (resOf []) ⟨m31f10_h6 y6 a0 a1 x1,[],16⟩:=hc7
 refine XC.exec (rangeFunc_out (e:=.ret) rfl hc7 rfl rfl (by intro h;cases h) rfl) rfl ?_
 have e:=sI h0;subst e
 exact hQ0 _ _ _ (.inr Z) Z (stle (tA Z) (hA Z) kZ Z (Nat.le_trans hv0 (lb Z)) Z Z Z (bF Z (bA Z)) Z Z)
def m15_l0 (a1:List Bnd) (a0:Int) (s2:Bool×Int×(List Lvl)):Option (LO (Bool×Int×(List Lvl)) ((Bool×(List Lvl))⊕((List Lvl)×Int×Int))) :=
 cond (decide (s2.2.1 < (a1.length:Int)))
   (Option.bind (idx a1 s2.2.1) fun (x7:Bnd) =>
 Option.bind (m31f10 a0.toNat x7 s2.2.2) fun (x8:(Bool×Int×(List Lvl))) =>
 cond (x8.2.1 != 0)
   (some (.done (.inr (([]:List Lvl),s2.2.1,x8.2.1))))
   (Option.bind (cond s2.1
   (some true)
   (some x8.1)) (fun (v10:Bool)=>some (.next (v10,(w64 (s2.2.1+1)),x8.2.2)))))
   (some (.done (.inl (s2.1,s2.2.2))))
def m15_l1 (a1:List Bnd) (a0:Int) (s1:(List Lvl)):Option (LO ((List Lvl)) (((List Lvl))⊕((List Lvl)×Int×Int))) :=
 Option.bind (loopN (m15_l0 a1 a0) FUEL (false,0,s1)) (Sum.elim (fun (o5:Bool×(List Lvl))=>cond (!o5.1)
   (some (.done (.inl o5.2)))
   (some (.next o5.2))) (fun o=>some (.done (.inr o))))
noncomputable abbrev m15_h0 (p0_:(Bool×Int×(List Lvl))) (p1_:Bnd):List (Nat×HB) :=
 [(0,.cells 39 (flatE p0_.2.2)),(1,.cells 41 (cE p1_)),(4,.cells 4 [dB p0_.1]),(5,.cells 25 [dI p0_.2.1])]
def m15 (a0:Int) (a1:List Bnd):Option ((List Lvl)×Int×Int) :=
 Option.bind (m13 a0 a1) fun (x1:Int×Int) =>
 cond (x1.2 != 0)
   (some (([]:List Lvl),x1.1,x1.2))
   (guardO (cond (decide (0≤a0)) (Nat.ble (32 * a0.toNat) 281474976710656) false)
 (Option.bind (loopN (m15_l1 a1 a0) FUEL (List.replicate a0.toNat (⟨0,([]:List LV)⟩:Lvl))) (Sum.elim (fun (o4:(List Lvl))=>guardO (Nat.beq o4.length a0.toNat)
 (some (o4,0,0))) (fun o=>some o))))
theorem m15_ok (a0:Int) (a1:List Bnd) (r:(List Lvl)×Int×Int) (h0:m15 a0 a1=some r):Fun Try.prog 15 [.one (dI a0),.one (dS a1)] (resOf [.one (dS r.1),.one (dI r.2.1),.one (dI r.2.2)]):=by
 unfold m15 at h0
 refine Fun.of_bodyM 9 52 Try.func15 Z en_15 Z (lb Z) (fun S w=>?_)
 simp only [entry]
 refine XC.seq<|XC.region<|rA Z Z Z<|rA Z Z Z<|rA Z Z Z<|XL.nil<|XQ.seq<|XC.scope<|XC.seq<|XC.seq<|XC.region<|rM Z Z Z<|rM Z Z Z ?_
 refine bindK h0 (fun x1 hx1 h0=>?_)
 refine XL.put Z Z (lb Z) (OpOK.callFun (m13_ok a0 a1 x1 hx1) Z (.cons (.one (.d _)) (.cons (.one (.d _)) .nil)))<|rM Z Z Z<|rR Z Z Z (RO.extract Z Z)<|rR Z Z Z (RO.extract Z Z)<|rA Z Z Z<|rA Z Z Z<|XL.nil<|XQ.seq<|XC.seq<|XC.region<|rM Z Z Z<|rR Z Z Z (RO.binInt Z Z Z)<|XL.nil<|XQ.seq ?_
 refine XC.cond (b:=(x1.2 != 0)) Z (fun c2=>?_) (fun c2=>?_)
 replace h0:=condT c2 h0
 refine XC.seq<|XC.region<|rM Z Z Z<|rM Z Z Z<|rA Z Z Z<|rA Z Z Z<|rA Z Z Z<|XL.nil<|XQ.seq<|XC.ret ?_
 have e:=sI h0;subst e
 exact XQ.retF (fun _ _ h=>h) Z (RAs.tmp Z (RAs.tmp Z (RAs.tmp Z .nil))) (.cons (.one (.nil _)) (.cons (.one (.d _)) (.cons (.one (.d _)) .nil)))
 replace h0:=condF c2 h0
 refine XC.skip<|XQ.seq<|XC.seq<|XC.region<|rM Z Z Z ?_
 refine guardK h0 (fun g3 h0=>?_)
 refine XL.put rfl rfl (lb rfl) (OpOK.makeO (α:=Lvl) (z:=(⟨0,([]:List LV)⟩:Lvl)) sl_31 z_39 rfl rfl el_39 rfl rfl g3 rfl (by repeat (first | exact CLs.nil | refine CLs.cons (by first | exact .refl _ | exact .sub (.app _ _ _) | exact .sub (.nil _)) ?_))) ?_
 refine rA Z Z Z<|XL.nil<|XQ.seq<|XC.seq<|XC.label<|XQ.seq<|XC.seq<|XC.block ?_
 refine XC.joinX 0 (fun (o4:(List Lvl))=>⟨[(9,.v (.one (.osl 0 0 a0.toNat a0.toNat)))],[(0,.cells 39 (flatE o4))],[],1,52,[]⟩) (fun (o4:(List Lvl))=>(guardO (Nat.beq o4.length a0.toNat)
   (some (o4,0,0)))=some r) ?_ ?_
 refine bindK h0 (fun o5 hl1 h0=>?_)
 refine XC.loopM (m15_l1 a1 a0) (fun s1=>⟨[(1,.v (.one (dS a1))),(9,.v (.one (.osl 0 0 a0.toNat a0.toNat)))],[(0,.cells 39 (flatE s1))],[],1,52,[]⟩) (List.replicate a0.toNat (⟨0,([]:List LV)⟩:Lvl)) o5 (stle (tA Z) (hA Z) kZ Z (Nat.zero_le _) Z Z Z (bF Z bZ) Z Z) hl1 (fun s1 n1 oo1 h1 ho1=>?_)
 unfold m15_l1 at h1
 refine XC.block<|XC.seq<|XC.region<|rA Z Z Z<|XL.nil<|XQ.seq<|XC.seq<|XC.seq<|XC.region<|rM Z Z Z<|rR Z Z Z (RO.lenE (α:=Bnd) sl_22 Z (.d _))<|rM Z Z Z<|XL.nil<|XQ.seq ?_
 refine XC.block ?_
 refine XC.joinX 2 (fun (o6:Bool×(List Lvl))=>⟨[(1,.v (.one (dS a1))),(9,.v (.one (.osl 0 0 a0.toNat a0.toNat))),(10,.v (.one (dB o6.1)))],[(0,.cells 39 (flatE o6.2))],[],1,52,[]⟩) (fun (o6:Bool×(List Lvl))=>(cond (!o6.1)
     (some (.done (.inl o6.2)))
     (some (.next o6.2)))=some oo1) ?_ ?_
 refine bindK h1 (fun o7 hl2 h1=>?_)
 refine XC.loopM (m15_l0 a1 a0) (fun s2=>⟨[(1,.v (.one (dS a1))),(9,.v (.one (.osl 0 0 a0.toNat a0.toNat))),(10,.v (.one (dB s2.1))),(27,.v (.one (dS a1))),(28,.v (.one (dI (a1.length:Int)))),(29,.v (.one (dI s2.2.1)))],[(0,.cells 39 (flatE s2.2.2))],[],1,52,[]⟩) (false,0,s1) o7 (stle (tA Z) (hA Z) kZ Z (Nat.zero_le _) Z Z Z (bF Z bZ) Z Z) hl2 (fun s2 n2 oo2 h2 ho2=>?_)
 unfold m15_l0 at h2
 refine XC.seq<|XC.region<|rR Z Z Z (RO.binInt Z Z Z)<|XL.nil<|XQ.seq<|XC.seq ?_
 refine XC.cond (b:=(decide (s2.2.1 < (a1.length:Int)))) Z (fun c8=>?_) (fun c8=>?_)
 replace h2:=condT c8 h2
 refine XC.skip<|XQ.seq<|XC.seq<|XC.block<|XC.seq<|XC.region<|rM Z Z Z ?_
 refine bindK h2 (fun x9 hx9 h2=>?_)
 refine rR Z Z Z (RO.indexE (α:=Bnd) sl_22 Z (.d _) Z hx9)<|rR Z Z Z (RO.loadPelCE (x9:Bnd) ag_41 Z)<|XL.put Z Z (lb Z) (OpOK.alloc z_41 Z)<|rA Z Z Z<|XL.eff Z Z (OpOK.storeCE (x9:Bnd) ag_41 Z Z Z Z Z)<|XL.nil<|XQ.seq<|XC.seq<|XC.region<|rM Z Z Z<|rR Z Z Z (RO.loadCE (x9:Bnd) ag_41 Z Z) ?_
 refine bindK h2 (fun x10 hx10 h2=>?_)
 refine XL.put Z Z (lb Z) (OpOK.callG (hp1':=[(0,.cells 39 (flatE x10.2.2)),(4,.cells 4 [dB x10.1]),(5,.cells 25 [dI x10.2.1])]) (tk1':=[]) (hpF:=[(1,.cells 41 (cE x9))]) (tkF:=[]) (res2:=resOf [.one (dB x10.1),.one (dI x10.2.1)]) (nx2:=9) [0] Z Z (m31f10_ok a0.toNat x9 s2.2.2 x10 hx10) Z Z (qF Z (qB Z Z (qB Z Z qZ))) Z Z (gF Z gZ) jZ (hA Z) kZ Z Z Z Z Z (bF Z bZ) Z Z Z Z)<|rM Z Z Z<|rR Z Z Z (RO.extract Z Z)<|rR Z Z Z (RO.extract Z Z)<|rA Z Z Z<|rA Z Z Z<|XL.nil<|XQ.seq<|XC.seq<|XC.seq<|XC.region<|rM Z Z Z<|rR Z Z Z (RO.binInt Z Z Z)<|XL.nil ?_
 refine XQ.seq ?_
 refine XC.cond (b:=(x10.2.1 != 0)) Z (fun c11=>?_) (fun c11=>?_)
 replace h2:=condT c11 h2
 refine XC.seq<|XC.region<|rM Z Z Z<|rM Z Z Z<|rA Z Z Z<|rA Z Z Z<|rA Z Z Z<|XL.nil<|XQ.seq<|XC.ret ?_
 have e:=sI h2;subst e
 have e_:_=_:=ho2
 subst e_
 try dsimp only [Sum.elim_inl,Sum.elim_inr] at h1
 have e:=sI h1;subst e
 have e_:_=_:=ho1
 subst e_
 try dsimp only [Sum.elim_inl,Sum.elim_inr] at h0
 have e:=sI h0;subst e
 exact XQ.retF (fun _ _ h=>h) Z (RAs.tmp Z (RAs.tmp Z (RAs.tmp Z .nil))) (.cons (.one (.nil _)) (.cons (.one (.d _)) (.cons (.one (.d _)) .nil)))
 replace h2:=condF c11 h2
 refine XC.skip<|XQ.seq ?_
 refine XC.joinR (fun (v12:Bool)=>⟨[(1,.v (.one (dS a1))),(9,.v (.one (.osl 0 0 a0.toNat a0.toNat))),(10,.v (.one (dB v12))),(27,.v (.one (dS a1))),(28,.v (.one (dI (a1.length:Int)))),(29,.v (.one (dI s2.2.1)))],m15_h0 x10 x9,[],9,52,[]⟩) (fun (v12:Bool)=>(some (.next (v12,(w64 (s2.2.1+1)),x10.2.2)))=some oo2) ?_ ?_
 refine bindK h2 (fun w3_ h3 h2=>?_)
 refine XC.region<|rM Z Z Z<|rM Z Z Z ?_
 refine XL.case (d:=45) (c:=s2.1) Z (fun c13=>?_) (fun c13=>?_)
 replace h3:=condT c13 h3
 refine XL.no Z Z<|rR Z Z Z (RO.pickT Z Z)<|rA Z Z Z<|XL.nil ?_
 have e:=sI h3;subst e
 exact XQ.joinR true (stle (tA Z) (hA Z) kZ Z (Nat.zero_le _) Z Z Z (bF Z (bA Z)) Z Z) h2
 replace h3:=condF c13 h3
 refine rM Z Z Z<|rR Z Z Z (RO.pickF Z Z)<|rA Z Z Z<|XL.nil ?_
 have e:=sI h3;subst e
 exact XQ.joinR x10.1 (stle (tA Z) (hA Z) kZ Z (Nat.zero_le _) Z Z Z (bF Z (bA Z)) Z Z) h2
 intro v12 h2
 refine XQ.inBlock<|XQ.seq<|XC.region<|rR Z Z Z (RO.binInt Z Z Z)<|rM Z Z Z<|XL.nil ?_
 have e:=sI h2;subst e
 refine XQ.nextM (v12,(w64 (s2.2.1+1)),x10.2.2) (stle (tA Z) (hA Z) kZ Z (Nat.zero_le _) Z Z Z (bF Z bZ) Z Z) ho2
 replace h2:=condF c8 h2
 refine XC.exit<|XQ.thenE<|XQ.thenE ?_
 have e:=sI h2;subst e
 have e_:_=_:=ho2
 subst e_
 exact XQ.joinX (s2.1,s2.2.2) (stle (tA Z) (hA Z) kZ Z (Nat.zero_le _) Z Z Z (bF Z bZ) Z Z) h1
 intro o6 h1
 refine XQ.blockX<|XQ.seq<|XC.seq<|XC.region<|rM Z Z Z<|rR Z Z Z (RO.not Z)<|XL.nil<|XQ.seq ?_
 refine XC.cond (b:=(!o6.1)) Z (fun c14=>?_) (fun c14=>?_)
 replace h1:=condT c14 h1
 refine XC.exit ?_
 refine XQ.blockE (by decide) ?_
 refine XQ.thenE ?_
 have e:=sI h1;subst e
 have e_:_=_:=ho1
 subst e_
 exact XQ.joinX o6.2 (stle (tA Z) (hA Z) kZ Z (Nat.zero_le _) Z Z Z (bF Z bZ) Z Z) h0
 replace h1:=condF c14 h1
 refine XC.skip<|XQ.inBlock ?_
 have e:=sI h1;subst e
 refine XQ.nextM o6.2 (stle (tA Z) (hA Z) kZ Z (Nat.zero_le _) Z Z Z (bF Z bZ) Z Z) ho1
 intro o4 h0
 refine XQ.blockX<|XQ.seq<|XC.seq<|XC.region<|rM Z Z Z<|rA Z Z Z<|rA Z Z Z<|rA Z Z Z<|XL.nil<|XQ.seq<|XC.ret ?_
 refine guardK h0 (fun g15 h0=>?_)
 have e:=sI h0;subst e
 refine XQ.freezeT (α:=Lvl) (t:=4) Z Z g15 ?_
 exact XQ.retF (fun _ _ h=>h) Z (RAs.tmp Z (RAs.tmp Z (RAs.tmp Z .nil))) (.cons (.one (.d _)) (.cons (.one (.d _)) (.cons (.one (.d _)) .nil)))
end Go.Proofs.Ytkimijmiphkddaa
namespace Go.Proofs.Ytkimijmiphkddaa
open Go.RowKit Go.Shelf
theorem bd_41:IsStruct Try.prog 41 [(0,2),(2,2)] [.int .i64 0,.slice none 0 0,.int .i64 0,.slice none 0 0]:=⟨by kernel_rfl,by kernel_rfl⟩
theorem ip_59:isPairTy Try.prog 59=true:=by kernel_rfl
theorem en_12:Enters Try.prog 12:=enters_of Try.func12 (by kernel_rfl) rfl
theorem en_17:Enters Try.prog 17:=enters_of Try.func17 (by kernel_rfl) rfl
theorem en_27:Enters Try.prog 27:=enters_of Try.func27 (by kernel_rfl) rfl
theorem en_33:Enters Try.prog 33:=enters_of Try.func33 (by kernel_rfl) rfl
def m33_l0 (a0:Lvl) (a1:Lvl) (s1:Int):Option (LO Int (Unit⊕Bool)) :=
 cond (decide (s1 < (a0.vs.length:Int)))
   (Option.bind (idx a0.vs s1) fun (x5:LV) =>
 Option.bind (idx a1.vs s1) fun (x6:LV) =>
 cond (!((x5.1==x6.1)&&(x5.2==x6.2)))
   (some (.done (.inr false)))
   (some (.next (w64 (s1+1)))))
   (some (.done (.inl ())))
def m33 (a0:Lvl) (a1:Lvl):Option Bool :=
 Option.bind (cond (a0.c != a1.c)
   (some true)
   (some ((a0.vs.length:Int) != (a1.vs.length:Int)))) (fun (v1:Bool)=>cond v1
   (some false)
   (Option.bind (loopN (m33_l0 a0 a1) FUEL 0) (Sum.elim (fun (o3:Unit)=>some true) (fun o=>some o))))
theorem m33_ok (a0:Lvl) (a1:Lvl) (r:Bool) (h0:m33 a0 a1=some r):Fun Try.prog 33 [.agg (cE a0),.agg (cE a1)] (resOf [.one (dB r)]):=by
 unfold m33 at h0
 refine Fun.of_bodyM 9 38 Try.func33 Z en_33 Z (lb Z) (fun S w=>?_)
 simp only [entry]
 refine XC.seq<|XC.region<|XL.put Z Z (lb Z) (OpOK.box Z)<|XL.put Z Z (lb Z) (OpOK.box Z)<|rA Z Z Z<|XL.nil<|XQ.seq<|XC.seq<|XC.seq ?_
 refine XC.joinR (fun (v1:Bool)=>⟨[(2,.v (.one (.ptr 0 0))),(3,.v (.one (.ptr 1 0))),(19,.v (.one (dB v1)))],[(0,.cells 39 (cE a0)),(1,.cells 39 (cE a1))],[],2,38,[]⟩) (fun (v1:Bool)=>(cond v1
     (some false)
     (Option.bind (loopN (m33_l0 a0 a1) FUEL 0) (Sum.elim (fun (o3:Unit)=>some true) (fun o=>some o))))=some r) ?_ ?_
 refine bindK h0 (fun w1_ h1 h0=>?_)
 refine XC.region<|rR Z Z Z (RO.fieldOwn fo_39_0 Z)<|rR Z Z Z (RO.loadOwn ag_3 Z Z Z)<|rR Z Z Z (RO.fieldOwn fo_39_0 Z)<|rR Z Z Z (RO.loadOwn ag_3 Z Z Z)<|rR Z Z Z (RO.binInt Z Z Z)<|rM Z Z Z ?_
 refine XL.case (d:=11) (c:=(a0.c != a1.c)) Z (fun c2=>?_) (fun c2=>?_)
 replace h1:=condT c2 h1
 refine XL.no Z Z<|XL.no Z Z<|XL.no Z Z<|XL.no Z Z<|XL.no Z Z<|XL.no Z Z<|XL.no Z Z<|rR Z Z Z (RO.pickT Z Z)<|XL.nil ?_
 have e:=sI h1;subst e
 exact XQ.joinR true (sL (Nat.zero_le _) Z Z Z Z Z) h0
 replace h1:=condF c2 h1
 refine rR Z Z Z (RO.fieldOwn fo_39_1 Z)<|rR Z Z Z (RO.loadOwn ag_37 Z Z Z)<|rR Z Z Z (RO.lenE (α:=LV) sl_37 Z (.d _))<|rR Z Z Z (RO.fieldOwn fo_39_1 Z)<|rR Z Z Z (RO.loadOwn ag_37 Z Z Z)<|rR Z Z Z (RO.lenE (α:=LV) sl_37 Z (.d _))<|rR Z Z Z (RO.binInt Z Z Z)<|rR Z Z Z (RO.pickF Z Z)<|XL.nil ?_
 have e:=sI h1;subst e
 exact XQ.joinR ((a0.vs.length:Int) != (a1.vs.length:Int)) (sL (Nat.zero_le _) Z Z Z Z Z) h0
 intro v1 h0
 refine XQ.seq ?_
 refine XC.cond (b:=v1) Z (fun c3=>?_) (fun c3=>?_)
 replace h0:=condT c3 h0
 refine XC.seq<|XC.region<|rA Z Z Z<|XL.nil<|XQ.seq<|XC.ret ?_
 have e:=sI h0;subst e
 exact XQ.retF (fun _ _ h=>h) Z (RAs.tmp Z .nil) (.cons (.one (.d _)) .nil)
 replace h0:=condF c3 h0
 refine XC.skip<|XQ.seq<|XC.seq<|XC.seq<|XC.region<|rA Z Z Z<|XL.nil<|XQ.seq<|XC.block ?_
 refine XC.joinX 0 (fun (o4:Unit)=>⟨[],[(0,.cells 39 (cE a0)),(1,.cells 39 (cE a1))],[],2,38,[]⟩) (fun (o4:Unit)=>(some true)=some r) ?_ ?_
 refine bindK h0 (fun o5 hl1 h0=>?_)
 refine XC.loopM (m33_l0 a0 a1) (fun s1=>⟨[(2,.v (.one (.ptr 0 0))),(3,.v (.one (.ptr 1 0))),(5,.v (.one (dI s1)))],[(0,.cells 39 (cE a0)),(1,.cells 39 (cE a1))],[],2,38,[]⟩) 0 o5 (sL (Nat.zero_le _) Z Z Z Z Z) hl1 (fun s1 n1 oo1 h1 ho1=>?_)
 unfold m33_l0 at h1
 refine XC.seq<|XC.seq<|XC.region<|rM Z Z Z<|rR Z Z Z (RO.fieldOwn fo_39_1 Z)<|rR Z Z Z (RO.loadOwn ag_37 Z Z Z)<|rR Z Z Z (RO.lenE (α:=LV) sl_37 Z (.d _))<|rR Z Z Z (RO.binInt Z Z Z)<|XL.nil<|XQ.seq ?_
 refine XC.cond (b:=(decide (s1 < (a0.vs.length:Int)))) Z (fun c6=>?_) (fun c6=>?_)
 replace h1:=condT c6 h1
 refine XC.skip<|XQ.seq<|XC.seq<|XC.block<|XC.seq ?_
 refine XC.anyRun [] [] mixed (by kernel_rfl) (by kernel_rfl) (by kernel_rfl) ?_
 refine RunA.rd Z Z Z (OpOK.of_ro (RO.fieldOwn fo_39_1 Z)) Z<|RunA.rd Z Z Z (OpOK.of_ro (RO.loadOwn ag_37 Z Z Z)) Z<|RunA.rd Z Z Z (OpOK.of_ro (RO.move Z)) Z ?_
 refine bindK h1 (fun x7 hx7 h1=>?_)
 refine RunA.rd Z Z Z (OpOK.of_ro (RO.indexE (α:=LV) sl_37 Z (.d _) Z hx7)) Z<|RunA.rd Z Z Z (OpOK.of_ro (RO.loadPelCE (x7:LV) ag_59 Z)) Z<|RunA.rd Z Z Z (OpOK.of_ro (RO.fieldOwn fo_39_1 Z)) Z<|RunA.rd Z Z Z (OpOK.of_ro (RO.loadOwn ag_37 Z Z Z)) Z<|RunA.rd Z Z Z (OpOK.of_ro (RO.move Z)) Z ?_
 refine bindK h1 (fun x8 hx8 h1=>?_)
 refine RunA.rd Z Z Z (OpOK.of_ro (RO.indexE (α:=LV) sl_37 Z (.d _) Z hx8)) Z<|RunA.rd Z Z Z (OpOK.of_ro (RO.loadPelCE (x8:LV) ag_59 Z)) Z<|RunA.rd Z Z Z (OpOK.of_ro (RO.neqPair ip_59 Z Z)) Z ?_
 refine RunA.nil ⟨?ex,_,_,Z,?_⟩
 case ex=>exact trivial
 refine XQ.less (st':=⟨[(2,.v (.one (.ptr 0 0))),(3,.v (.one (.ptr 1 0))),(5,.v (.one (dI s1))),(37,.v (.one (dB (!((x7.1==x8.1)&&(x7.2==x8.2))))))],[(0,.cells 39 (cE a0)),(1,.cells 39 (cE a1))],[],2,38,[]⟩) (sL (Nat.zero_le _) Z Z Z Z Z)<|XQ.seq ?_
 refine XC.cond (b:=(!((x7.1==x8.1)&&(x7.2==x8.2)))) Z (fun c9=>?_) (fun c9=>?_)
 replace h1:=condT c9 h1
 refine XC.seq<|XC.region<|rA Z Z Z<|XL.nil<|XQ.seq<|XC.ret ?_
 have e:=sI h1;subst e
 have e_:_=_:=ho1
 subst e_
 try dsimp only [Sum.elim_inl,Sum.elim_inr] at h0
 have e:=sI h0;subst e
 exact XQ.retF (fun _ _ h=>h) Z (RAs.tmp Z .nil) (.cons (.one (.d _)) .nil)
 replace h1:=condF c9 h1
 refine XC.skip<|XQ.inBlock<|XQ.seq<|XC.region<|rM Z Z Z<|rR Z Z Z (RO.binInt Z Z Z)<|rA Z Z Z<|XL.nil ?_
 have e:=sI h1;subst e
 refine XQ.nextM (w64 (s1+1)) (sL (Nat.zero_le _) Z Z Z Z Z) ho1
 replace h1:=condF c6 h1
 refine XC.exit<|XQ.thenE<|XQ.thenE ?_
 have e:=sI h1;subst e
 have e_:_=_:=ho1
 subst e_
 exact XQ.joinX () (sL (Nat.zero_le _) Z Z Z Z Z) h0
 intro o4 h0
 refine XQ.blockX<|XQ.seq<|XC.seq<|XC.region<|rA Z Z Z<|XL.nil<|XQ.seq<|XC.ret ?_
 have e:=sI h0;subst e
 exact XQ.retF (fun _ _ h=>h) Z (RAs.tmp Z .nil) (.cons (.one (.d _)) .nil)
def m17_l0 (a0:List Lvl) (a1:List Lvl) (s1:Int):Option (LO Int (Unit⊕Bool)) :=
 cond (decide (s1 < (a0.length:Int)))
   (Option.bind (idx a0 s1) fun (x4:Lvl) =>
 Option.bind (idx a1 s1) fun (x5:Lvl) =>
 Option.bind (m33 x4 x5) fun (x6:Bool) =>
 cond (!x6)
   (some (.done (.inr false)))
   (some (.next (w64 (s1+1)))))
   (some (.done (.inl ())))
def m17 (a0:List Lvl) (a1:List Lvl):Option Bool :=
 cond ((a0.length:Int) != (a1.length:Int))
   (some false)
   (Option.bind (loopN (m17_l0 a0 a1) FUEL 0) (Sum.elim (fun (o2:Unit)=>some true) (fun o=>some o)))
theorem m17_ok (a0:List Lvl) (a1:List Lvl) (r:Bool) (h0:m17 a0 a1=some r):Fun Try.prog 17 [.one (dS a0),.one (dS a1)] (resOf [.one (dB r)]):=by
 unfold m17 at h0
 refine Fun.of_bodyM 9 27 Try.func17 Z en_17 Z (lb Z) (fun S w=>?_)
 simp only [entry]
 refine XC.seq<|XC.region<|rA Z Z Z<|XL.nil<|XQ.seq<|XC.seq<|XC.seq<|XC.region<|rM Z Z Z<|rR Z Z Z (RO.lenE (α:=Lvl) sl_31 Z (.d _))<|rM Z Z Z<|rR Z Z Z (RO.lenE (α:=Lvl) sl_31 Z (.d _))<|rR Z Z Z (RO.binInt Z Z Z)<|XL.nil ?_
 refine XQ.seq ?_
 refine XC.cond (b:=((a0.length:Int) != (a1.length:Int))) Z (fun c1=>?_) (fun c1=>?_)
 replace h0:=condT c1 h0
 refine XC.seq<|XC.region<|rA Z Z Z<|XL.nil<|XQ.seq<|XC.ret ?_
 have e:=sI h0;subst e
 exact XQ.retF (fun _ _ h=>h) Z (RAs.tmp Z .nil) (.cons (.one (.d _)) .nil)
 replace h0:=condF c1 h0
 refine XC.skip<|XQ.seq<|XC.seq<|XC.seq<|XC.region<|rA Z Z Z<|XL.nil<|XQ.seq<|XC.block ?_
 refine XC.joinX 0 (fun (o2:Unit)=>⟨[],[],[],0,27,[]⟩) (fun (o2:Unit)=>(some true)=some r) ?_ ?_
 refine bindK h0 (fun o3 hl1 h0=>?_)
 refine XC.loopM (m17_l0 a0 a1) (fun s1=>⟨[(0,.v (.one (dS a0))),(1,.v (.one (dS a1))),(5,.v (.one (dI s1)))],[],[],0,27,[]⟩) 0 o3 (sL (Nat.zero_le _) Z Z Z Z Z) hl1 (fun s1 n1 oo1 h1 ho1=>?_)
 unfold m17_l0 at h1
 refine XC.seq<|XC.seq<|XC.region<|rM Z Z Z<|rM Z Z Z<|rR Z Z Z (RO.lenE (α:=Lvl) sl_31 Z (.d _))<|rR Z Z Z (RO.binInt Z Z Z)<|XL.nil<|XQ.seq ?_
 refine XC.cond (b:=(decide (s1 < (a0.length:Int)))) Z (fun c4=>?_) (fun c4=>?_)
 replace h1:=condT c4 h1
 refine XC.skip<|XQ.seq<|XC.seq<|XC.block<|XC.seq ?_
 refine XC.anyRun [] [] mixed (by kernel_rfl) (by kernel_rfl) (by kernel_rfl) ?_
 refine RunA.rd Z Z Z (OpOK.of_ro (RO.move Z)) Z<|RunA.rd Z Z Z (OpOK.of_ro (RO.move Z)) Z ?_
 refine bindK h1 (fun x5 hx5 h1=>?_)
 refine RunA.rd Z Z Z (OpOK.of_ro (RO.indexE (α:=Lvl) sl_31 Z (.d _) Z hx5)) Z<|RunA.rd Z Z Z (OpOK.of_ro (RO.loadPelCE (x5:Lvl) ag_39 Z)) Z<|RunA.rd Z Z Z (OpOK.of_ro (RO.move Z)) Z<|RunA.rd Z Z Z (OpOK.of_ro (RO.move Z)) Z ?_
 refine bindK h1 (fun x6 hx6 h1=>?_)
 refine RunA.rd Z Z Z (OpOK.of_ro (RO.indexE (α:=Lvl) sl_31 Z (.d _) Z hx6)) Z<|RunA.rd Z Z Z (OpOK.of_ro (RO.loadPelCE (x6:Lvl) ag_39 Z)) Z ?_
 refine bindK h1 (fun x7 hx7 h1=>?_)
 refine RunA.rd Z Z Z (OpOK.callFun (m33_ok x5 x6 x7 hx7) Z (.cons (.agg (.cons (.d _) (.cons (.d _) .nil))) (.cons (.agg (.cons (.d _) (.cons (.d _) .nil))) .nil))) Z<|RunA.rd Z Z Z (OpOK.of_ro (RO.not Z)) Z ?_
 refine RunA.nil ⟨?ex,_,_,Z,?_⟩
 case ex=>exact trivial
 refine XQ.less (st':=⟨[(0,.v (.one (dS a0))),(1,.v (.one (dS a1))),(5,.v (.one (dI s1))),(26,.v (.one (dB (!x7))))],[],[],0,27,[]⟩) (sL (Nat.zero_le _) Z Z Z Z Z)<|XQ.seq ?_
 refine XC.cond (b:=(!x7)) Z (fun c8=>?_) (fun c8=>?_)
 replace h1:=condT c8 h1
 refine XC.seq<|XC.region<|rA Z Z Z<|XL.nil<|XQ.seq<|XC.ret ?_
 have e:=sI h1;subst e
 have e_:_=_:=ho1
 subst e_
 try dsimp only [Sum.elim_inl,Sum.elim_inr] at h0
 have e:=sI h0;subst e
 exact XQ.retF (fun _ _ h=>h) Z (RAs.tmp Z .nil) (.cons (.one (.d _)) .nil)
 replace h1:=condF c8 h1
 refine XC.skip<|XQ.inBlock<|XQ.seq<|XC.region<|rM Z Z Z<|rR Z Z Z (RO.binInt Z Z Z)<|rA Z Z Z<|XL.nil ?_
 have e:=sI h1;subst e
 refine XQ.nextM (w64 (s1+1)) (sL (Nat.zero_le _) Z Z Z Z Z) ho1
 replace h1:=condF c4 h1
 refine XC.exit<|XQ.thenE<|XQ.thenE ?_
 have e:=sI h1;subst e
 have e_:_=_:=ho1
 subst e_
 exact XQ.joinX () (sL (Nat.zero_le _) Z Z Z Z Z) h0
 intro o2 h0
 refine XQ.blockX<|XQ.seq<|XC.seq<|XC.region<|rA Z Z Z<|XL.nil<|XQ.seq<|XC.ret ?_
 have e:=sI h0;subst e
 exact XQ.retF (fun _ _ h=>h) Z (RAs.tmp Z .nil) (.cons (.one (.d _)) .nil)
def m27 (a0:Int) (a1:Int):Option Lvl :=
 some (⟨0,[(a0,a1)]⟩:Lvl)
theorem m27_ok (a0:Int) (a1:Int) (r:Lvl) (h0:m27 a0 a1=some r):Fun Try.prog 27 [.one (dI a0),.one (dI a1)] (resOf [.agg (cE r)]):=by
 unfold m27 at h0
 refine Fun.of_bodyM 9 10 Try.func27 Z en_27 Z (lb Z) (fun S w=>?_)
 simp only [entry]
 refine XC.seq<|XC.region<|XL.put Z Z (lb Z) (OpOK.alloc z_39 Z)<|XL.nil<|XQ.seq<|XC.seq<|XC.region<|rM Z Z Z<|rM Z Z Z<|rR Z Z Z (RO.build2 bd_59 Z Z Z Z)<|XL.put Z Z (lb Z) (OpOK.lit1E (α:=LV) ((a0,a1)) sl_37 z_59 Z Z (lb Z) (lb Z) Z Z (.cons (.d _) (.cons (.d _) .nil)) Z)<|rR Z Z Z (RO.build1 bd_39 Z Z Z)<|XL.eff Z Z (OpOK.store ag_39 Z Z Z Z (lb Z) Z)<|XL.nil ?_
 refine XQ.seq<|XC.ret ?_
 have e:=sI h0;subst e
 exact XQ.retF (fun _ _ h=>h) Z (RAs.agg ag_39 Z Z Z Z .nil) (.cons (.agg (.cons (.d _) (.cons (.app _ _ _) .nil))) .nil)
def m12 :Option Bool :=
 Option.bind (m27 0 0) fun (x1:Lvl) =>
 Option.bind (m27 (-1) 0) fun (x2:Lvl) =>
 Option.bind (m27 (-1) 1) fun (x3:Lvl) =>
 Option.bind (m27 (-1) 1) fun (x4:Lvl) =>
 Option.bind (m27 (-2) 0) fun (x5:Lvl) =>
 Option.bind (m15 2 ([(⟨x1,x2⟩:Bnd),(⟨(⟨2,([]:List LV)⟩:Lvl),x3⟩:Bnd),(⟨x4,x5⟩:Bnd)])) fun (x6:(List Lvl)×Int×Int) =>
 guardO (Nat.ble (([]:List Bnd).length+([(⟨x1,x2⟩:Bnd),(⟨(⟨2,([]:List LV)⟩:Lvl),x3⟩:Bnd),(⟨x4,x5⟩:Bnd)]).length) 1000000000)
 (Option.bind (m27 (-2) 0) fun (x8:Lvl) =>
 guardO (Nat.ble ((([]:List Bnd)++([(⟨x1,x2⟩:Bnd),(⟨(⟨2,([]:List LV)⟩:Lvl),x3⟩:Bnd),(⟨x4,x5⟩:Bnd)])).length+([(⟨x8,(⟨1,([]:List LV)⟩:Lvl)⟩:Bnd)]).length) 1000000000)
 (Option.bind (m15 2 ((([]:List Bnd)++([(⟨x1,x2⟩:Bnd),(⟨(⟨2,([]:List LV)⟩:Lvl),x3⟩:Bnd),(⟨x4,x5⟩:Bnd)]))++([(⟨x8,(⟨1,([]:List LV)⟩:Lvl)⟩:Bnd)]))) fun (x10:(List Lvl)×Int×Int) =>
 Option.bind (m27 (-1) 1) fun (x11:Lvl) =>
 Option.bind (m27 (-1) 0) fun (x12:Lvl) =>
 Option.bind (m15 1 ([(⟨x11,x12⟩:Bnd)])) fun (x13:(List Lvl)×Int×Int) =>
 Option.bind (m27 0 1) fun (x14:Lvl) =>
 Option.bind (m27 1 0) fun (x15:Lvl) =>
 Option.bind (m27 1 0) fun (x16:Lvl) =>
 Option.bind (m27 0 0) fun (x17:Lvl) =>
 Option.bind (m18 ([(⟨x14,x15⟩:Bnd),(⟨x16,(⟨3,([]:List LV)⟩:Lvl)⟩:Bnd)]) (⟨x17,(⟨2,([]:List LV)⟩:Lvl)⟩:Bnd)) fun (x18:Bool×Int) =>
 Option.bind (m27 0 0) fun (x19:Lvl) =>
 Option.bind (m18 ([(⟨x14,x15⟩:Bnd),(⟨x16,(⟨3,([]:List LV)⟩:Lvl)⟩:Bnd)]) (⟨x19,(⟨1,([]:List LV)⟩:Lvl)⟩:Bnd)) fun (x20:Bool×Int) =>
 Option.bind (cond (x6.2.2==0)
   (Option.bind (m17 x6.1 ([(⟨1,[(0,0)]⟩:Lvl),(⟨2,[(0,1)]⟩:Lvl)])) fun (x23:Bool) =>
 cond x23
   (cond (x10.2.1==3)
   (cond (x10.2.2==15)
   (cond (x13.2.1==0)
   (cond (x13.2.2==15)
   (cond x18.1
   (cond (x18.2==0)
   (cond (!x20.1)
   (some (x20.2==0))
   (some false))
   (some false))
   (some false))
   (some false))
   (some false))
   (some false))
   (some false))
   (some false))
   (some false)) (fun (v21:Bool)=>some v21)))
theorem m12_ok  (r:Bool) (h0:m12 =some r):Fun Try.prog 12 [] (resOf [.one (dB r)]):=by
 unfold m12 at h0
 refine Fun.of_bodyM 9 123 Try.func12 Z en_12 Z (lb Z) (fun S w=>?_)
 simp only [entry]
 refine XC.seq<|XC.region<|rA Z Z Z<|XL.nil<|XQ.seq<|XC.seq<|XC.region ?_
 refine bindK h0 (fun x1 hx1 h0=>?_)
 refine XL.put Z Z (lb Z) (OpOK.callFun (m27_ok 0 0 x1 hx1) Z (.cons (.one (.d _)) (.cons (.one (.d _)) .nil))) ?_
 refine bindK h0 (fun x2 hx2 h0=>?_)
 refine XL.put Z Z (lb Z) (OpOK.callFun (m27_ok (-1) 0 x2 hx2) Z (.cons (.one (.d _)) (.cons (.one (.d _)) .nil)))<|rR Z Z Z (RO.build2 bd_41 Z Z Z Z)<|rR Z Z Z (RO.build1 bd_39 Z Z Z) ?_
 refine bindK h0 (fun x3 hx3 h0=>?_)
 refine XL.put Z Z (lb Z) (OpOK.callFun (m27_ok (-1) 1 x3 hx3) Z (.cons (.one (.d _)) (.cons (.one (.d _)) .nil)))<|rR Z Z Z (RO.build2 bd_41 Z Z Z Z) ?_
 refine bindK h0 (fun x4 hx4 h0=>?_)
 refine XL.put Z Z (lb Z) (OpOK.callFun (m27_ok (-1) 1 x4 hx4) Z (.cons (.one (.d _)) (.cons (.one (.d _)) .nil))) ?_
 refine bindK h0 (fun x5 hx5 h0=>?_)
 refine XL.put Z Z (lb Z) (OpOK.callFun (m27_ok (-2) 0 x5 hx5) Z (.cons (.one (.d _)) (.cons (.one (.d _)) .nil)))<|rR Z Z Z (RO.build2 bd_41 Z Z Z Z)<|XL.put Z Z (lb Z) (OpOK.lit3E (α:=Bnd) (⟨x1,x2⟩:Bnd) (⟨(⟨2,([]:List LV)⟩:Lvl),x3⟩:Bnd) (⟨x4,x5⟩:Bnd) sl_22 z_41 Z Z (lb Z) (lb Z) Z Z Z Z (.cons (.d _) (.cons (.d _) (.cons (.d _) (.cons (.d _) (.cons (.d _) (.cons (.nil _) (.cons (.d _) (.cons (.d _) (.cons (.d _) (.cons (.d _) (.cons (.d _) (.cons (.d _) .nil)))))))))))) ⟨Z,Z,Z⟩)<|rA Z Z Z<|XL.nil<|XQ.seq<|XC.seq<|XC.region<|rM Z Z Z ?_
 refine bindK h0 (fun x6 hx6 h0=>?_)
 refine XL.put Z Z (lb Z) (OpOK.callFun (m15_ok 2 ([(⟨x1,x2⟩:Bnd),(⟨(⟨2,([]:List LV)⟩:Lvl),x3⟩:Bnd),(⟨x4,x5⟩:Bnd)]) x6 hx6) Z (.cons (.one (.d _)) (.cons (.one (.app _ _ _)) .nil)))<|rM Z Z Z<|rR Z Z Z (RO.extract Z Z)<|rR Z Z Z (RO.extract Z Z)<|rR Z Z Z (RO.extract Z Z)<|rA Z Z Z<|rA Z Z Z<|rA Z Z Z<|XL.nil<|XQ.seq<|XC.seq<|XC.region<|rR Z Z Z (RO.build1 bd_59 Z Z Z)<|XL.put Z Z (lb Z) (OpOK.lit1E (α:=LV) ((0,0)) sl_37 z_59 Z Z (lb Z) (lb Z) Z Z (.cons (.d _) (.cons (.d _) .nil)) Z) ?_
 refine rR Z Z Z (RO.build2 bd_39 Z Z Z Z)<|rR Z Z Z (RO.build2 bd_59 Z Z Z Z)<|XL.put Z Z (lb Z) (OpOK.lit1E (α:=LV) ((0,1)) sl_37 z_59 Z Z (lb Z) (lb Z) Z Z (.cons (.d _) (.cons (.d _) .nil)) Z)<|rR Z Z Z (RO.build2 bd_39 Z Z Z Z)<|XL.put Z Z (lb Z) (OpOK.lit2E (α:=Lvl) (⟨1,[(0,0)]⟩:Lvl) (⟨2,[(0,1)]⟩:Lvl) sl_31 z_39 Z Z (lb Z) (lb Z) Z Z Z (.cons (.d _) (.cons (.app _ _ _) (.cons (.d _) (.cons (.app _ _ _) .nil)))) ⟨Z,Z⟩)<|rA Z Z Z<|XL.nil<|XQ.seq<|XC.seq<|XC.region<|XL.put Z Z (lb Z) (OpOK.lit0E (α:=Bnd) sl_22 z_41 Z Z (lb Z))<|rM Z Z Z ?_
 refine guardK h0 (fun g7 h0=>?_)
 refine XL.put Z Z (lb Z) (OpOK.appendE (α:=Bnd) sl_22 el_41 Z Z Z Z Z (.app _ _) g7) ?_
 refine bindK h0 (fun x8 hx8 h0=>?_)
 refine XL.put Z Z (lb Z) (OpOK.callFun (m27_ok (-2) 0 x8 hx8) Z (.cons (.one (.d _)) (.cons (.one (.d _)) .nil)))<|rR Z Z Z (RO.build1 bd_39 Z Z Z)<|rR Z Z Z (RO.build2 bd_41 Z Z Z Z)<|XL.put Z Z (lb Z) (OpOK.lit1E (α:=Bnd) ((⟨x8,(⟨1,([]:List LV)⟩:Lvl)⟩:Bnd)) sl_22 z_41 Z Z (lb Z) (lb Z) Z Z (.cons (.d _) (.cons (.d _) (.cons (.d _) (.cons (.nil _) .nil)))) Z) ?_
 refine guardK h0 (fun g9 h0=>?_)
 refine XL.put Z Z (lb Z) (OpOK.appendE (α:=Bnd) sl_22 el_41 Z Z Z Z Z (.app _ _) g9) ?_
 refine bindK h0 (fun x10 hx10 h0=>?_)
 refine XL.put Z Z (lb Z) (OpOK.callFun (m15_ok 2 ((([]:List Bnd)++([(⟨x1,x2⟩:Bnd),(⟨(⟨2,([]:List LV)⟩:Lvl),x3⟩:Bnd),(⟨x4,x5⟩:Bnd)]))++([(⟨x8,(⟨1,([]:List LV)⟩:Lvl)⟩:Bnd)])) x10 hx10) Z (.cons (.one (.d _)) (.cons (.one (.app _ _ _)) .nil)))<|rM Z Z Z<|rR Z Z Z (RO.extract Z Z)<|rR Z Z Z (RO.extract Z Z)<|rR Z Z Z (RO.extract Z Z)<|rA Z Z Z<|rA Z Z Z<|rA Z Z Z<|XL.nil<|XQ.seq<|XC.seq<|XC.region ?_
 refine bindK h0 (fun x11 hx11 h0=>?_)
 refine XL.put Z Z (lb Z) (OpOK.callFun (m27_ok (-1) 1 x11 hx11) Z (.cons (.one (.d _)) (.cons (.one (.d _)) .nil))) ?_
 refine bindK h0 (fun x12 hx12 h0=>?_)
 refine XL.put Z Z (lb Z) (OpOK.callFun (m27_ok (-1) 0 x12 hx12) Z (.cons (.one (.d _)) (.cons (.one (.d _)) .nil)))<|rR Z Z Z (RO.build2 bd_41 Z Z Z Z)<|XL.put Z Z (lb Z) (OpOK.lit1E (α:=Bnd) ((⟨x11,x12⟩:Bnd)) sl_22 z_41 Z Z (lb Z) (lb Z) Z Z (.cons (.d _) (.cons (.d _) (.cons (.d _) (.cons (.d _) .nil)))) Z) ?_
 refine bindK h0 (fun x13 hx13 h0=>?_)
 refine XL.put Z Z (lb Z) (OpOK.callFun (m15_ok 1 ([(⟨x11,x12⟩:Bnd)]) x13 hx13) Z (.cons (.one (.d _)) (.cons (.one (.app _ _ _)) .nil)))<|rM Z Z Z<|rR Z Z Z (RO.extract Z Z)<|rR Z Z Z (RO.extract Z Z)<|rR Z Z Z (RO.extract Z Z)<|rA Z Z Z<|rA Z Z Z<|rA Z Z Z<|XL.nil<|XQ.seq<|XC.seq<|XC.region ?_
 refine bindK h0 (fun x14 hx14 h0=>?_)
 refine XL.put Z Z (lb Z) (OpOK.callFun (m27_ok 0 1 x14 hx14) Z (.cons (.one (.d _)) (.cons (.one (.d _)) .nil))) ?_
 refine bindK h0 (fun x15 hx15 h0=>?_)
 refine XL.put Z Z (lb Z) (OpOK.callFun (m27_ok 1 0 x15 hx15) Z (.cons (.one (.d _)) (.cons (.one (.d _)) .nil)))<|rR Z Z Z (RO.build2 bd_41 Z Z Z Z) ?_
 refine bindK h0 (fun x16 hx16 h0=>?_)
 refine XL.put Z Z (lb Z) (OpOK.callFun (m27_ok 1 0 x16 hx16) Z (.cons (.one (.d _)) (.cons (.one (.d _)) .nil)))<|rR Z Z Z (RO.build1 bd_39 Z Z Z)<|rR Z Z Z (RO.build2 bd_41 Z Z Z Z)<|XL.put Z Z (lb Z) (OpOK.lit2E (α:=Bnd) (⟨x14,x15⟩:Bnd) (⟨x16,(⟨3,([]:List LV)⟩:Lvl)⟩:Bnd) sl_22 z_41 Z Z (lb Z) (lb Z) Z Z Z (.cons (.d _) (.cons (.d _) (.cons (.d _) (.cons (.d _) (.cons (.d _) (.cons (.d _) (.cons (.d _) (.cons (.nil _) .nil)))))))) ⟨Z,Z⟩)<|rA Z Z Z<|XL.nil<|XQ.seq<|XC.seq<|XC.region<|rM Z Z Z ?_
 refine bindK h0 (fun x17 hx17 h0=>?_)
 refine XL.put Z Z (lb Z) (OpOK.callFun (m27_ok 0 0 x17 hx17) Z (.cons (.one (.d _)) (.cons (.one (.d _)) .nil)))<|rR Z Z Z (RO.build1 bd_39 Z Z Z)<|rR Z Z Z (RO.build2 bd_41 Z Z Z Z) ?_
 refine bindK h0 (fun x18 hx18 h0=>?_)
 refine XL.put Z Z (lb Z) (OpOK.callFun (m18_ok ([(⟨x14,x15⟩:Bnd),(⟨x16,(⟨3,([]:List LV)⟩:Lvl)⟩:Bnd)]) (⟨x17,(⟨2,([]:List LV)⟩:Lvl)⟩:Bnd) x18 hx18) Z (.cons (.one (.app _ _ _)) (.cons (.agg (.cons (.d _) (.cons (.d _) (.cons (.d _) (.cons (.nil _) .nil))))) .nil)))<|rM Z Z Z<|rR Z Z Z (RO.extract Z Z)<|rR Z Z Z (RO.extract Z Z)<|rA Z Z Z<|rA Z Z Z<|XL.nil<|XQ.seq<|XC.seq<|XC.region<|rM Z Z Z ?_
 refine bindK h0 (fun x19 hx19 h0=>?_)
 refine XL.put Z Z (lb Z) (OpOK.callFun (m27_ok 0 0 x19 hx19) Z (.cons (.one (.d _)) (.cons (.one (.d _)) .nil)))<|rR Z Z Z (RO.build1 bd_39 Z Z Z)<|rR Z Z Z (RO.build2 bd_41 Z Z Z Z) ?_
 refine bindK h0 (fun x20 hx20 h0=>?_)
 refine XL.put Z Z (lb Z) (OpOK.callFun (m18_ok ([(⟨x14,x15⟩:Bnd),(⟨x16,(⟨3,([]:List LV)⟩:Lvl)⟩:Bnd)]) (⟨x19,(⟨1,([]:List LV)⟩:Lvl)⟩:Bnd) x20 hx20) Z (.cons (.one (.app _ _ _)) (.cons (.agg (.cons (.d _) (.cons (.d _) (.cons (.d _) (.cons (.nil _) .nil))))) .nil)))<|rM Z Z Z<|rR Z Z Z (RO.extract Z Z)<|rR Z Z Z (RO.extract Z Z)<|rA Z Z Z<|rA Z Z Z<|XL.nil<|XQ.seq<|XC.seq ?_
 refine XC.joinR (fun (v21:Bool)=>⟨[(0,.v (.one (dB v21)))],[],[(0,some ⟨41,4,(Enc.encL ([(⟨x1,x2⟩:Bnd),(⟨(⟨2,([]:List LV)⟩:Lvl),x3⟩:Bnd),(⟨x4,x5⟩:Bnd)]:List Bnd)).length,[]⟩),(1,some ⟨59,2,(Enc.encL ([(0,0)]:List LV)).length,[]⟩),(2,some ⟨59,2,(Enc.encL ([(0,1)]:List LV)).length,[]⟩),(3,some ⟨39,2,(Enc.encL ([(⟨1,[(0,0)]⟩:Lvl),(⟨2,[(0,1)]⟩:Lvl)]:List Lvl)).length,[]⟩),(4,some ⟨41,4,(Enc.encL (((([]:List Bnd)++([(⟨x1,x2⟩:Bnd),(⟨(⟨2,([]:List LV)⟩:Lvl),x3⟩:Bnd),(⟨x4,x5⟩:Bnd)]))++([(⟨x8,(⟨1,([]:List LV)⟩:Lvl)⟩:Bnd)])):List Bnd)).length,[]⟩),(5,some ⟨41,4,(Enc.encL ([(⟨x8,(⟨1,([]:List LV)⟩:Lvl)⟩:Bnd)]:List Bnd)).length,[]⟩),(6,some ⟨41,4,(Enc.encL ([(⟨x11,x12⟩:Bnd)]:List Bnd)).length,[]⟩),(7,some ⟨41,4,(Enc.encL ([(⟨x14,x15⟩:Bnd),(⟨x16,(⟨3,([]:List LV)⟩:Lvl)⟩:Bnd)]:List Bnd)).length,[]⟩)],8,123,[]⟩) (fun (v21:Bool)=>(some v21)=some r) ?_ ?_
 refine bindK h0 (fun w1_ h1 h0=>?_)
 refine XC.region<|rM Z Z Z<|rR Z Z Z (RO.binInt Z Z Z)<|rM Z Z Z ?_
 refine XL.case (d:=87) (c:=(x6.2.2==0)) Z (fun c22=>?_) (fun c22=>?_)
 replace h1:=condT c22 h1
 refine rM Z Z Z<|rM Z Z Z ?_
 refine bindK h1 (fun x23 hx23 h1=>?_)
 refine XL.put Z Z (lb Z) (OpOK.callFun (m17_ok x6.1 ([(⟨1,[(0,0)]⟩:Lvl),(⟨2,[(0,1)]⟩:Lvl)]) x23 hx23) Z (.cons (.one (.d _)) (.cons (.one (.app _ _ _)) .nil)))<|rR Z Z Z (RO.pickT Z Z)<|rM Z Z Z ?_
 refine XL.case (d:=92) (c:=x23) Z (fun c24=>?_) (fun c24=>?_)
 replace h1:=condT c24 h1
 refine rM Z Z Z<|rR Z Z Z (RO.binInt Z Z Z)<|rR Z Z Z (RO.pickT Z Z)<|rM Z Z Z ?_
 refine XL.case (d:=96) (c:=(x10.2.1==3)) Z (fun c25=>?_) (fun c25=>?_)
 replace h1:=condT c25 h1
 refine rM Z Z Z<|rR Z Z Z (RO.binInt Z Z Z)<|rR Z Z Z (RO.pickT Z Z)<|rM Z Z Z ?_
 refine XL.case (d:=100) (c:=(x10.2.2==15)) Z (fun c26=>?_) (fun c26=>?_)
 replace h1:=condT c26 h1
 refine rM Z Z Z<|rR Z Z Z (RO.binInt Z Z Z)<|rR Z Z Z (RO.pickT Z Z)<|rM Z Z Z ?_
 refine XL.case (d:=104) (c:=(x13.2.1==0)) Z (fun c27=>?_) (fun c27=>?_)
 replace h1:=condT c27 h1
 refine rM Z Z Z<|rR Z Z Z (RO.binInt Z Z Z)<|rR Z Z Z (RO.pickT Z Z)<|rM Z Z Z ?_
 refine XL.case (d:=108) (c:=(x13.2.2==15)) Z (fun c28=>?_) (fun c28=>?_)
 replace h1:=condT c28 h1
 refine rM Z Z Z<|rR Z Z Z (RO.pickT Z Z)<|rM Z Z Z ?_
 refine XL.case (d:=111) (c:=x18.1) Z (fun c29=>?_) (fun c29=>?_)
 replace h1:=condT c29 h1
 refine rM Z Z Z<|rR Z Z Z (RO.binInt Z Z Z)<|rR Z Z Z (RO.pickT Z Z)<|rM Z Z Z ?_
 refine XL.case (d:=115) (c:=(x18.2==0)) Z (fun c30=>?_) (fun c30=>?_)
 replace h1:=condT c30 h1
 refine rM Z Z Z<|rR Z Z Z (RO.not Z)<|rR Z Z Z (RO.pickT Z Z)<|rM Z Z Z ?_
 refine XL.case (d:=119) (c:=(!x20.1)) Z (fun c31=>?_) (fun c31=>?_)
 replace h1:=condT c31 h1
 refine rM Z Z Z<|rR Z Z Z (RO.binInt Z Z Z)<|rR Z Z Z (RO.pickT Z Z)<|rA Z Z Z<|XL.nil ?_
 have e:=sI h1;subst e
 exact XQ.joinR (x20.2==0) (sL (Nat.zero_le _) Z Z Z Z Z) h0
 replace h1:=condF c31 h1
 refine XL.no Z Z<|XL.no Z Z<|rR Z Z Z (RO.pickF Z Z)<|rA Z Z Z<|XL.nil ?_
 have e:=sI h1;subst e
 exact XQ.joinR false (sL (Nat.zero_le _) Z Z Z Z Z) h0
 replace h1:=condF c30 h1
 refine XL.no Z Z<|XL.no Z Z<|rR Z Z Z (RO.pickF Z Z)<|rM Z Z Z<|XL.no Z Z<|XL.no Z Z<|rR Z Z Z (RO.pickF Z Z)<|rA Z Z Z<|XL.nil ?_
 have e:=sI h1;subst e
 exact XQ.joinR false (sL (Nat.zero_le _) Z Z Z Z Z) h0
 replace h1:=condF c29 h1
 refine XL.no Z Z<|XL.no Z Z<|rR Z Z Z (RO.pickF Z Z)<|rM Z Z Z<|XL.no Z Z<|XL.no Z Z<|rR Z Z Z (RO.pickF Z Z)<|rM Z Z Z<|XL.no Z Z<|XL.no Z Z<|rR Z Z Z (RO.pickF Z Z)<|rA Z Z Z<|XL.nil ?_
 have e:=sI h1;subst e
 exact XQ.joinR false (sL (Nat.zero_le _) Z Z Z Z Z) h0
 replace h1:=condF c28 h1
 refine XL.no Z Z<|rR Z Z Z (RO.pickF Z Z)<|rM Z Z Z<|XL.no Z Z<|XL.no Z Z<|rR Z Z Z (RO.pickF Z Z)<|rM Z Z Z<|XL.no Z Z<|XL.no Z Z<|rR Z Z Z (RO.pickF Z Z)<|rM Z Z Z<|XL.no Z Z<|XL.no Z Z<|rR Z Z Z (RO.pickF Z Z) ?_
 refine rA Z Z Z<|XL.nil ?_
 have e:=sI h1;subst e
 exact XQ.joinR false (sL (Nat.zero_le _) Z Z Z Z Z) h0
 replace h1:=condF c27 h1
 refine XL.no Z Z<|XL.no Z Z<|rR Z Z Z (RO.pickF Z Z)<|rM Z Z Z<|XL.no Z Z<|rR Z Z Z (RO.pickF Z Z)<|rM Z Z Z<|XL.no Z Z<|XL.no Z Z<|rR Z Z Z (RO.pickF Z Z)<|rM Z Z Z<|XL.no Z Z<|XL.no Z Z<|rR Z Z Z (RO.pickF Z Z) ?_
 refine rM Z Z Z<|XL.no Z Z<|XL.no Z Z<|rR Z Z Z (RO.pickF Z Z)<|rA Z Z Z<|XL.nil ?_
 have e:=sI h1;subst e
 exact XQ.joinR false (sL (Nat.zero_le _) Z Z Z Z Z) h0
 replace h1:=condF c26 h1
 refine XL.no Z Z<|XL.no Z Z<|rR Z Z Z (RO.pickF Z Z)<|rM Z Z Z<|XL.no Z Z<|XL.no Z Z<|rR Z Z Z (RO.pickF Z Z)<|rM Z Z Z<|XL.no Z Z<|rR Z Z Z (RO.pickF Z Z)<|rM Z Z Z<|XL.no Z Z<|XL.no Z Z<|rR Z Z Z (RO.pickF Z Z) ?_
 refine rM Z Z Z<|XL.no Z Z<|XL.no Z Z<|rR Z Z Z (RO.pickF Z Z)<|rM Z Z Z<|XL.no Z Z<|XL.no Z Z<|rR Z Z Z (RO.pickF Z Z)<|rA Z Z Z<|XL.nil ?_
 have e:=sI h1;subst e
 exact XQ.joinR false (sL (Nat.zero_le _) Z Z Z Z Z) h0
 replace h1:=condF c25 h1
 refine XL.no Z Z<|XL.no Z Z<|rR Z Z Z (RO.pickF Z Z)<|rM Z Z Z<|XL.no Z Z<|XL.no Z Z<|rR Z Z Z (RO.pickF Z Z)<|rM Z Z Z<|XL.no Z Z<|XL.no Z Z<|rR Z Z Z (RO.pickF Z Z)<|rM Z Z Z<|XL.no Z Z<|rR Z Z Z (RO.pickF Z Z) ?_
 refine rM Z Z Z<|XL.no Z Z<|XL.no Z Z<|rR Z Z Z (RO.pickF Z Z)<|rM Z Z Z<|XL.no Z Z<|XL.no Z Z<|rR Z Z Z (RO.pickF Z Z)<|rM Z Z Z<|XL.no Z Z<|XL.no Z Z<|rR Z Z Z (RO.pickF Z Z)<|rA Z Z Z<|XL.nil ?_
 have e:=sI h1;subst e
 exact XQ.joinR false (sL (Nat.zero_le _) Z Z Z Z Z) h0
 replace h1:=condF c24 h1
 refine XL.no Z Z<|XL.no Z Z<|rR Z Z Z (RO.pickF Z Z)<|rM Z Z Z<|XL.no Z Z<|XL.no Z Z<|rR Z Z Z (RO.pickF Z Z)<|rM Z Z Z<|XL.no Z Z<|XL.no Z Z<|rR Z Z Z (RO.pickF Z Z)<|rM Z Z Z<|XL.no Z Z<|XL.no Z Z ?_
 refine rR Z Z Z (RO.pickF Z Z)<|rM Z Z Z<|XL.no Z Z<|rR Z Z Z (RO.pickF Z Z)<|rM Z Z Z<|XL.no Z Z<|XL.no Z Z<|rR Z Z Z (RO.pickF Z Z)<|rM Z Z Z<|XL.no Z Z<|XL.no Z Z<|rR Z Z Z (RO.pickF Z Z)<|rM Z Z Z<|XL.no Z Z ?_
 refine XL.no Z Z<|rR Z Z Z (RO.pickF Z Z)<|rA Z Z Z<|XL.nil ?_
 have e:=sI h1;subst e
 exact XQ.joinR false (sL (Nat.zero_le _) Z Z Z Z Z) h0
 replace h1:=condF c22 h1
 refine XL.no Z Z<|XL.no Z Z<|XL.no Z Z<|rR Z Z Z (RO.pickF Z Z)<|rM Z Z Z<|XL.no Z Z<|XL.no Z Z<|rR Z Z Z (RO.pickF Z Z)<|rM Z Z Z<|XL.no Z Z<|XL.no Z Z<|rR Z Z Z (RO.pickF Z Z)<|rM Z Z Z<|XL.no Z Z ?_
 refine XL.no Z Z<|rR Z Z Z (RO.pickF Z Z)<|rM Z Z Z<|XL.no Z Z<|XL.no Z Z<|rR Z Z Z (RO.pickF Z Z)<|rM Z Z Z<|XL.no Z Z<|rR Z Z Z (RO.pickF Z Z)<|rM Z Z Z<|XL.no Z Z<|XL.no Z Z<|rR Z Z Z (RO.pickF Z Z)<|rM Z Z Z ?_
 refine XL.no Z Z<|XL.no Z Z<|rR Z Z Z (RO.pickF Z Z)<|rM Z Z Z<|XL.no Z Z<|XL.no Z Z<|rR Z Z Z (RO.pickF Z Z)<|rA Z Z Z<|XL.nil ?_
 have e:=sI h1;subst e
 exact XQ.joinR false (sL (Nat.zero_le _) Z Z Z Z Z) h0
 intro v21 h0
 refine XQ.seq<|XC.ret ?_
 have e:=sI h0;subst e
 exact XQ.retF (fun _ _ h=>h) Z (RAs.tmp Z .nil) (.cons (.one (.d _)) .nil)
theorem m12_true:m12=some true:=by kernel_rfl
theorem awake_fun:Fun Try.prog 12 [] (resOf [.one (dB true)]):=m12_ok true m12_true
end Go.Proofs.Ytkimijmiphkddaa
namespace Go.Proofs.Ytkimijmiphkddaa
open Go.RowKit Go.Shelf
theorem ag_48:tyAgg Try.prog 48=some (true,3):=by kernel_rfl
theorem z_48:tyZero Try.prog 48=some [.int .i64 0,.int .i64 0,.int .i64 0]:=by kernel_rfl
theorem bd_48:IsStruct Try.prog 48 [(0,1),(1,1),(2,1)] [.int .i64 0,.int .i64 0,.int .i64 0]:=⟨by kernel_rfl,by kernel_rfl⟩
theorem arr_48:tyArr Try.prog 48=some (3,1):=by kernel_rfl
theorem en_6:Enters Try.prog 6:=enters_of Try.func6 (by kernel_rfl) rfl
theorem en_20:Enters Try.prog 20:=enters_of Try.func20 (by kernel_rfl) rfl
theorem en_21:Enters Try.prog 21:=enters_of Try.func21 (by kernel_rfl) rfl
theorem en_30:Enters Try.prog 30:=enters_of Try.func30 (by kernel_rfl) rfl
def m30_l0 (a0:Lvl) (s1:Int):Option (LO Int (Unit⊕Bool)) :=
 cond (decide (s1 < (a0.vs.length:Int)))
   (Option.bind (idx a0.vs s1) fun (x5:LV) =>
 Option.bind (cond (decide (x5.1 < (-65536)))
   (some true)
   (cond (decide (8≤x5.1))
   (some true)
   (cond (decide (x5.2 < 0))
   (some true)
   (some (decide (100 < x5.2)))))) (fun (v6:Bool)=>cond v6
   (some (.done (.inr false)))
   (Option.bind (cond (decide (0 < s1))
   (Option.bind (idx a0.vs (w64 (s1 - 1))) fun (x10:LV) =>
 some (decide (x5.1≤x10.1)))
   (some false)) (fun (v8:Bool)=>cond v8
   (some (.done (.inr false)))
   (Option.bind (cond (decide (0 < a0.c))
   (some (decide (a0.c≤x5.2)))
   (some false)) (fun (v10:Bool)=>cond v10
   (some (.done (.inr false)))
   (some (.next (w64 (s1+1))))))))))
   (some (.done (.inl ())))
def m30 (a0:Lvl):Option Bool :=
 Option.bind (cond (decide (a0.c < 0))
   (some true)
   (some (decide (100 < a0.c)))) (fun (v1:Bool)=>cond v1
   (some false)
   (Option.bind (loopN (m30_l0 a0) FUEL 0) (Sum.elim (fun (o3:Unit)=>some true) (fun o=>some o))))
theorem m30_ok (a0:Lvl) (r:Bool) (h0:m30 a0=some r):Fun Try.prog 30 [.agg (cE a0)] (resOf [.one (dB r)]):=by
 unfold m30 at h0
 refine Fun.of_bodyM 9 67 Try.func30 Z en_30 Z (lb Z) (fun S w=>?_)
 simp only [entry]
 refine XC.seq<|XC.region<|XL.put Z Z (lb Z) (OpOK.box Z)<|rA Z Z Z<|XL.nil<|XQ.seq<|XC.seq<|XC.seq ?_
 refine XC.joinR (fun (v1:Bool)=>⟨[(1,.v (.one (.ptr 0 0))),(12,.v (.one (dB v1)))],[(0,.cells 39 (cE a0))],[],1,67,[]⟩) (fun (v1:Bool)=>(cond v1
     (some false)
     (Option.bind (loopN (m30_l0 a0) FUEL 0) (Sum.elim (fun (o3:Unit)=>some true) (fun o=>some o))))=some r) ?_ ?_
 refine bindK h0 (fun w1_ h1 h0=>?_)
 refine XC.region<|rR Z Z Z (RO.fieldOwn fo_39_0 Z)<|rR Z Z Z (RO.loadOwn ag_3 Z Z Z)<|rR Z Z Z (RO.binInt Z Z Z)<|rM Z Z Z ?_
 refine XL.case (d:=8) (c:=(decide (a0.c < 0))) Z (fun c2=>?_) (fun c2=>?_)
 replace h1:=condT c2 h1
 refine XL.no Z Z<|XL.no Z Z<|XL.no Z Z<|rR Z Z Z (RO.pickT Z Z)<|XL.nil ?_
 have e:=sI h1;subst e
 exact XQ.joinR true (sL (Nat.zero_le _) Z Z Z Z Z) h0
 replace h1:=condF c2 h1
 refine rR Z Z Z (RO.fieldOwn fo_39_0 Z)<|rR Z Z Z (RO.loadOwn ag_3 Z Z Z)<|rR Z Z Z (RO.binInt Z Z Z)<|rR Z Z Z (RO.pickF Z Z)<|XL.nil ?_
 have e:=sI h1;subst e
 exact XQ.joinR (decide (100 < a0.c)) (sL (Nat.zero_le _) Z Z Z Z Z) h0
 intro v1 h0
 refine XQ.seq ?_
 refine XC.cond (b:=v1) Z (fun c3=>?_) (fun c3=>?_)
 replace h0:=condT c3 h0
 refine XC.seq<|XC.region<|rA Z Z Z<|XL.nil<|XQ.seq<|XC.ret ?_
 have e:=sI h0;subst e
 exact XQ.retF (fun _ _ h=>h) Z (RAs.tmp Z .nil) (.cons (.one (.d _)) .nil)
 replace h0:=condF c3 h0
 refine XC.skip<|XQ.seq<|XC.seq<|XC.seq<|XC.region<|rA Z Z Z<|XL.nil<|XQ.seq<|XC.block ?_
 refine XC.joinX 0 (fun (o4:Unit)=>⟨[],[(0,.cells 39 (cE a0))],[],1,67,[]⟩) (fun (o4:Unit)=>(some true)=some r) ?_ ?_
 refine bindK h0 (fun o5 hl1 h0=>?_)
 refine XC.loopM (m30_l0 a0) (fun s1=>⟨[(1,.v (.one (.ptr 0 0))),(3,.v (.one (dI s1)))],[(0,.cells 39 (cE a0))],[],1,67,[]⟩) 0 o5 (sL (Nat.zero_le _) Z Z Z Z Z) hl1 (fun s1 n1 oo1 h1 ho1=>?_)
 unfold m30_l0 at h1
 refine XC.seq<|XC.seq<|XC.region<|rM Z Z Z<|rR Z Z Z (RO.fieldOwn fo_39_1 Z)<|rR Z Z Z (RO.loadOwn ag_37 Z Z Z)<|rR Z Z Z (RO.lenE (α:=LV) sl_37 Z (.d _))<|rR Z Z Z (RO.binInt Z Z Z)<|XL.nil<|XQ.seq ?_
 refine XC.cond (b:=(decide (s1 < (a0.vs.length:Int)))) Z (fun c6=>?_) (fun c6=>?_)
 replace h1:=condT c6 h1
 refine XC.skip<|XQ.seq<|XC.seq<|XC.block<|XC.seq<|XC.region<|rR Z Z Z (RO.fieldOwn fo_39_1 Z)<|rR Z Z Z (RO.loadOwn ag_37 Z Z Z)<|rM Z Z Z ?_
 refine bindK h1 (fun x7 hx7 h1=>?_)
 refine rR Z Z Z (RO.indexE (α:=LV) sl_37 Z (.d _) Z hx7)<|rR Z Z Z (RO.loadPelCE (x7:LV) ag_59 Z)<|XL.put Z Z (lb Z) (OpOK.alloc z_59 Z)<|XL.eff Z Z (OpOK.storeCE (x7:LV) ag_59 Z Z Z Z Z)<|XL.nil<|XQ.seq<|XC.seq<|XC.seq ?_
 refine XC.joinR (fun (v8:Bool)=>⟨[(1,.v (.one (.ptr 0 0))),(3,.v (.one (dI s1))),(4,.v (.one (.ptr 1 0))),(42,.v (.one (dB v8)))],[(0,.cells 39 (cE a0)),(1,.cells 59 (cE x7))],[],2,67,[]⟩) (fun (v8:Bool)=>(cond v8
     (some (.done (.inr false)))
     (Option.bind (cond (decide (0 < s1))
     (Option.bind (idx a0.vs (w64 (s1 - 1))) fun (x12:LV) =>
   some (decide (x7.1≤x12.1)))
     (some false)) (fun (v10:Bool)=>cond v10
     (some (.done (.inr false)))
     (Option.bind (cond (decide (0 < a0.c))
     (some (decide (a0.c≤x7.2)))
     (some false)) (fun (v12:Bool)=>cond v12
     (some (.done (.inr false)))
     (some (.next (w64 (s1+1)))))))))=some oo1) ?_ ?_
 refine bindK h1 (fun w2_ h2 h1=>?_)
 refine XC.region<|rR Z Z Z (RO.fieldOwn fo_59_0 Z)<|rR Z Z Z (RO.loadOwn ag_3 Z Z Z)<|rR Z Z Z (RO.binInt Z Z Z)<|rM Z Z Z ?_
 refine XL.case (d:=28) (c:=(decide (x7.1 < (-65536)))) Z (fun c9=>?_) (fun c9=>?_)
 replace h2:=condT c9 h2
 refine XL.no Z Z<|XL.no Z Z<|XL.no Z Z<|rR Z Z Z (RO.pickT Z Z)<|rM Z Z Z<|XL.no Z Z<|XL.no Z Z<|XL.no Z Z<|rR Z Z Z (RO.pickT Z Z)<|rM Z Z Z<|XL.no Z Z<|XL.no Z Z<|XL.no Z Z<|rR Z Z Z (RO.pickT Z Z) ?_
 refine XL.nil ?_
 have e:=sI h2;subst e
 exact XQ.joinR true (sL (Nat.zero_le _) Z Z Z Z Z) h1
 replace h2:=condF c9 h2
 refine rR Z Z Z (RO.fieldOwn fo_59_0 Z)<|rR Z Z Z (RO.loadOwn ag_3 Z Z Z)<|rR Z Z Z (RO.binInt Z Z Z)<|rR Z Z Z (RO.pickF Z Z)<|rM Z Z Z ?_
 refine XL.case (d:=33) (c:=(decide (8≤x7.1))) Z (fun c10=>?_) (fun c10=>?_)
 replace h2:=condT c10 h2
 refine XL.no Z Z<|XL.no Z Z<|XL.no Z Z<|rR Z Z Z (RO.pickT Z Z)<|rM Z Z Z<|XL.no Z Z<|XL.no Z Z<|XL.no Z Z<|rR Z Z Z (RO.pickT Z Z)<|XL.nil ?_
 have e:=sI h2;subst e
 exact XQ.joinR true (sL (Nat.zero_le _) Z Z Z Z Z) h1
 replace h2:=condF c10 h2
 refine rR Z Z Z (RO.fieldOwn fo_59_1 Z)<|rR Z Z Z (RO.loadOwn ag_3 Z Z Z)<|rR Z Z Z (RO.binInt Z Z Z)<|rR Z Z Z (RO.pickF Z Z)<|rM Z Z Z ?_
 refine XL.case (d:=38) (c:=(decide (x7.2 < 0))) Z (fun c11=>?_) (fun c11=>?_)
 replace h2:=condT c11 h2
 refine XL.no Z Z<|XL.no Z Z<|XL.no Z Z<|rR Z Z Z (RO.pickT Z Z)<|XL.nil ?_
 have e:=sI h2;subst e
 exact XQ.joinR true (sL (Nat.zero_le _) Z Z Z Z Z) h1
 replace h2:=condF c11 h2
 refine rR Z Z Z (RO.fieldOwn fo_59_1 Z)<|rR Z Z Z (RO.loadOwn ag_3 Z Z Z)<|rR Z Z Z (RO.binInt Z Z Z)<|rR Z Z Z (RO.pickF Z Z)<|XL.nil ?_
 have e:=sI h2;subst e
 exact XQ.joinR (decide (100 < x7.2)) (sL (Nat.zero_le _) Z Z Z Z Z) h1
 intro v8 h1
 refine XQ.seq ?_
 refine XC.cond (b:=v8) Z (fun c12=>?_) (fun c12=>?_)
 replace h1:=condT c12 h1
 refine XC.seq<|XC.region<|rA Z Z Z<|XL.nil<|XQ.seq<|XC.ret ?_
 have e:=sI h1;subst e
 have e_:_=_:=ho1
 subst e_
 try dsimp only [Sum.elim_inl,Sum.elim_inr] at h0
 have e:=sI h0;subst e
 exact XQ.retF (fun _ _ h=>h) Z (RAs.tmp Z .nil) (.cons (.one (.d _)) .nil)
 replace h1:=condF c12 h1
 refine XC.skip<|XQ.seq<|XC.seq<|XC.seq ?_
 refine XC.joinR (fun (v13:Bool)=>⟨[(1,.v (.one (.ptr 0 0))),(3,.v (.one (dI s1))),(4,.v (.one (.ptr 1 0))),(56,.v (.one (dB v13)))],[(0,.cells 39 (cE a0)),(1,.cells 59 (cE x7))],[],2,67,[]⟩) (fun (v13:Bool)=>(cond v13
     (some (.done (.inr false)))
     (Option.bind (cond (decide (0 < a0.c))
     (some (decide (a0.c≤x7.2)))
     (some false)) (fun (v15:Bool)=>cond v15
     (some (.done (.inr false)))
     (some (.next (w64 (s1+1)))))))=some oo1) ?_ ?_
 refine bindK h1 (fun w2_ h2 h1=>?_)
 refine XC.anyRun [] [] mixed (by kernel_rfl) (by kernel_rfl) (by kernel_rfl) ?_
 refine RunA.rd Z Z Z (OpOK.of_ro (RO.move Z)) Z<|RunA.rd Z Z Z (OpOK.of_ro (RO.binInt Z Z Z)) Z ?_
 refine RunA.case (c:=(decide (0 < s1))) Z Z Z (OpOK.of_ro (RO.move Z)) Z (fun c14=>?_) (fun c14=>?_)
 replace h2:=condT c14 h2
 refine RunA.rd Z Z Z (OpOK.of_ro (RO.fieldOwn fo_39_1 Z)) Z<|RunA.rd Z Z Z (OpOK.of_ro (RO.loadOwn ag_37 Z Z Z)) Z<|RunA.rd Z Z Z (OpOK.of_ro (RO.move Z)) Z<|RunA.rd Z Z Z (OpOK.of_ro (RO.binInt Z Z Z)) Z ?_
 refine bindK h2 (fun x15 hx15 h2=>?_)
 refine RunA.rd Z Z Z (OpOK.of_ro (RO.indexE (α:=LV) sl_37 Z (.d _) Z hx15)) Z<|RunA.rd Z Z Z (OpOK.of_ro (RO.fieldPel fo_59_0 Z)) Z<|RunA.rd Z Z Z (OpOK.of_ro (RO.loadPel ag_3 Z Z)) Z<|RunA.rd Z Z Z (OpOK.of_ro (RO.fieldOwn fo_59_0 Z)) Z<|RunA.rd Z Z Z (OpOK.of_ro (RO.loadOwn ag_3 Z Z Z)) Z<|RunA.rd Z Z Z (OpOK.of_ro (RO.binInt Z Z Z)) Z<|RunA.rd Z Z Z (OpOK.of_ro (RO.pickT Z Z)) Z ?_
 refine RunA.nil ⟨?ex,_,_,Z,?_⟩
 case ex=>exact trivial
 have e:=sI h2;subst e
 exact XQ.joinR (decide (x7.1≤x15.1)) (sL (Nat.zero_le _) Z Z Z Z Z) h1
 replace h2:=condF c14 h2
 refine RunA.no Z Z Z Z<|RunA.no Z Z Z Z<|RunA.no Z Z Z Z<|RunA.no Z Z Z Z<|RunA.no Z Z Z Z<|RunA.no Z Z Z Z<|RunA.no Z Z Z Z<|RunA.no Z Z Z Z<|RunA.no Z Z Z Z<|RunA.no Z Z Z Z<|RunA.rd Z Z Z (OpOK.of_ro (RO.pickF Z Z)) Z ?_
 refine RunA.nil ⟨?ex,_,_,Z,?_⟩
 case ex=>exact trivial
 have e:=sI h2;subst e
 exact XQ.joinR false (sL (Nat.zero_le _) Z Z Z Z Z) h1
 intro v13 h1
 refine XQ.seq ?_
 refine XC.cond (b:=v13) Z (fun c16=>?_) (fun c16=>?_)
 replace h1:=condT c16 h1
 refine XC.seq<|XC.region<|rA Z Z Z<|XL.nil<|XQ.seq<|XC.ret ?_
 have e:=sI h1;subst e
 have e_:_=_:=ho1
 subst e_
 try dsimp only [Sum.elim_inl,Sum.elim_inr] at h0
 have e:=sI h0;subst e
 exact XQ.retF (fun _ _ h=>h) Z (RAs.tmp Z .nil) (.cons (.one (.d _)) .nil)
 replace h1:=condF c16 h1
 refine XC.skip<|XQ.seq<|XC.seq ?_
 refine XC.joinR (fun (v17:Bool)=>⟨[(1,.v (.one (.ptr 0 0))),(3,.v (.one (dI s1))),(66,.v (.one (dB v17)))],[(0,.cells 39 (cE a0)),(1,.cells 59 (cE x7))],[],2,67,[]⟩) (fun (v17:Bool)=>(cond v17
     (some (.done (.inr false)))
     (some (.next (w64 (s1+1)))))=some oo1) ?_ ?_
 refine bindK h1 (fun w2_ h2 h1=>?_)
 refine XC.region<|rR Z Z Z (RO.fieldOwn fo_39_0 Z)<|rR Z Z Z (RO.loadOwn ag_3 Z Z Z)<|rR Z Z Z (RO.binInt Z Z Z)<|rM Z Z Z ?_
 refine XL.case (d:=60) (c:=(decide (0 < a0.c))) Z (fun c18=>?_) (fun c18=>?_)
 replace h2:=condT c18 h2
 refine rR Z Z Z (RO.fieldOwn fo_59_1 Z)<|rR Z Z Z (RO.loadOwn ag_3 Z Z Z)<|rR Z Z Z (RO.fieldOwn fo_39_0 Z)<|rR Z Z Z (RO.loadOwn ag_3 Z Z Z)<|rR Z Z Z (RO.binInt Z Z Z)<|rR Z Z Z (RO.pickT Z Z)<|XL.nil ?_
 have e:=sI h2;subst e
 exact XQ.joinR (decide (a0.c≤x7.2)) (sL (Nat.zero_le _) Z Z Z Z Z) h1
 replace h2:=condF c18 h2
 refine XL.no Z Z<|XL.no Z Z<|XL.no Z Z<|XL.no Z Z<|XL.no Z Z<|rR Z Z Z (RO.pickF Z Z)<|XL.nil ?_
 have e:=sI h2;subst e
 exact XQ.joinR false (sL (Nat.zero_le _) Z Z Z Z Z) h1
 intro v17 h1
 refine XQ.seq ?_
 refine XC.cond (b:=v17) Z (fun c19=>?_) (fun c19=>?_)
 replace h1:=condT c19 h1
 refine XC.seq<|XC.region<|rA Z Z Z<|XL.nil<|XQ.seq<|XC.ret ?_
 have e:=sI h1;subst e
 have e_:_=_:=ho1
 subst e_
 try dsimp only [Sum.elim_inl,Sum.elim_inr] at h0
 have e:=sI h0;subst e
 exact XQ.retF (fun _ _ h=>h) Z (RAs.tmp Z .nil) (.cons (.one (.d _)) .nil)
 replace h1:=condF c19 h1
 refine XC.skip<|XQ.inBlock<|XQ.seq<|XC.region<|rM Z Z Z<|rR Z Z Z (RO.binInt Z Z Z)<|rA Z Z Z<|XL.nil ?_
 have e:=sI h1;subst e
 refine XQ.nextM (w64 (s1+1)) (sL (Nat.zero_le _) Z Z Z Z Z) ho1
 replace h1:=condF c6 h1
 refine XC.exit<|XQ.thenE<|XQ.thenE ?_
 have e:=sI h1;subst e
 have e_:_=_:=ho1
 subst e_
 exact XQ.joinX () (sL (Nat.zero_le _) Z Z Z Z Z) h0
 intro o4 h0
 refine XQ.blockX<|XQ.seq<|XC.seq<|XC.region<|rA Z Z Z<|XL.nil<|XQ.seq<|XC.ret ?_
 have e:=sI h0;subst e
 exact XQ.retF (fun _ _ h=>h) Z (RAs.tmp Z .nil) (.cons (.one (.d _)) .nil)
def m20_l0 (x3:Lvl) (s2:Int):Option (LO Int (Unit⊕Bool)) :=
 cond (decide (s2 < (x3.vs.length:Int)))
   (Option.bind (Option.bind (idx x3.vs s2) fun (x9:LV) =>
 cond (decide (x9.1 < 0))
   (some true)
   (Option.bind (idx x3.vs s2) fun (x11:LV) =>
 cond (decide (2 < x11.1))
   (some true)
   (Option.bind (idx x3.vs s2) fun (x13:LV) =>
 some (decide (3 < x13.2))))) (fun (v8:Bool)=>cond v8
   (some (.done (.inr false)))
   (some (.next (w64 (s2+1))))))
   (some (.done (.inl ())))
def m20_l1 (a0:Bnd) (s1:Int):Option (LO Int (Unit⊕Bool)) :=
 cond (decide (s1 < (([a0.lo,a0.hi]).length:Int)))
   (Option.bind (idx ([a0.lo,a0.hi]) s1) fun (x3:Lvl) =>
 Option.bind (Option.bind (m30 x3) fun (x5:Bool) =>
 cond (!x5)
   (some true)
   (some (decide (3 < x3.c)))) (fun (v4:Bool)=>cond v4
   (some (.done (.inr false)))
   (Option.bind (loopN (m20_l0 x3) FUEL 0) (Sum.elim (fun (o6:Unit)=>some (.next (w64 (s1+1)))) (fun o=>some (.done (.inr o)))))))
   (some (.done (.inl ())))
def m20 (a0:Bnd):Option Bool :=
 Option.bind (loopN (m20_l1 a0) FUEL 0) (Sum.elim (fun (o1:Unit)=>some true) (fun o=>some o))
theorem m20_ok (a0:Bnd) (r:Bool) (h0:m20 a0=some r):Fun Try.prog 20 [.agg (cE a0)] (resOf [.one (dB r)]):=by
 unfold m20 at h0
 refine Fun.of_bodyM 9 57 Try.func20 Z en_20 Z (lb Z) (fun S w=>?_)
 simp only [entry]
 refine XC.seq<|XC.region<|XL.put Z Z (lb Z) (OpOK.box Z)<|rA Z Z Z<|XL.nil<|XQ.seq<|XC.seq<|XC.seq<|XC.region<|rR Z Z Z (RO.fieldOwn fo_41_0 Z)<|rR Z Z Z (RO.loadOwnAgg ag_39 Z Z Z Z)<|rR Z Z Z (RO.fieldOwn fo_41_1 Z)<|rR Z Z Z (RO.loadOwnAgg ag_39 Z Z Z Z)<|XL.put Z Z (lb Z) (OpOK.lit2E (α:=Lvl) a0.lo a0.hi sl_31 z_39 Z Z (lb Z) (lb Z) Z Z Z (.cons (.d _) (.cons (.d _) (.cons (.d _) (.cons (.d _) .nil)))) ⟨Z,Z⟩) ?_
 refine rR Z Z Z (RO.lenE (α:=Lvl) sl_31 Z (.app _ _))<|rM Z Z Z<|XL.nil<|XQ.seq<|XC.block ?_
 refine XC.joinX 0 (fun (o1:Unit)=>⟨[],[(0,.cells 41 (cE a0))],[(1,some ⟨39,2,(Enc.encL ([a0.lo,a0.hi]:List Lvl)).length,[]⟩)],2,57,[]⟩) (fun (o1:Unit)=>(some true)=some r) ?_ ?_
 refine bindK h0 (fun o2 hl1 h0=>?_)
 refine XC.loopM (m20_l1 a0) (fun s1=>⟨[(10,.v (.one (dA 1 ([a0.lo,a0.hi]:List Lvl)))),(11,.v (.one (dI (([a0.lo,a0.hi]).length:Int)))),(12,.v (.one (dI s1)))],[(0,.cells 41 (cE a0))],[(1,some ⟨39,2,(Enc.encL ([a0.lo,a0.hi]:List Lvl)).length,[]⟩)],2,57,[]⟩) 0 o2 (sL (Nat.zero_le _) Z Z Z Z Z) hl1 (fun s1 n1 oo1 h1 ho1=>?_)
 unfold m20_l1 at h1
 refine XC.seq<|XC.region<|rR Z Z Z (RO.binInt Z Z Z)<|XL.nil<|XQ.seq<|XC.seq ?_
 refine XC.cond (b:=(decide (s1 < (([a0.lo,a0.hi]).length:Int)))) Z (fun c3=>?_) (fun c3=>?_)
 replace h1:=condT c3 h1
 refine XC.skip<|XQ.seq<|XC.seq<|XC.block<|XC.seq<|XC.region ?_
 refine bindK h1 (fun x4 hx4 h1=>?_)
 refine rR Z Z Z (RO.indexE (α:=Lvl) sl_31 Z (.app _ _) Z hx4)<|rR Z Z Z (RO.loadPelCE (x4:Lvl) ag_39 Z)<|XL.put Z Z (lb Z) (OpOK.alloc z_39 Z)<|XL.eff Z Z (OpOK.storeCE (x4:Lvl) ag_39 Z Z Z Z Z)<|XL.nil<|XQ.seq<|XC.seq<|XC.seq ?_
 refine XC.joinR (fun (v5:Bool)=>⟨[(4,.v (.one (.ptr 2 0))),(10,.v (.one (dA 1 ([a0.lo,a0.hi]:List Lvl)))),(11,.v (.one (dI (([a0.lo,a0.hi]).length:Int)))),(12,.v (.one (dI s1))),(23,.v (.one (dB v5)))],[(0,.cells 41 (cE a0)),(2,.cells 39 (cE x4))],[(1,some ⟨39,2,(Enc.encL ([a0.lo,a0.hi]:List Lvl)).length,[]⟩)],3,57,[]⟩) (fun (v5:Bool)=>(cond v5
     (some (.done (.inr false)))
     (Option.bind (loopN (m20_l0 x4) FUEL 0) (Sum.elim (fun (o7:Unit)=>some (.next (w64 (s1+1)))) (fun o=>some (.done (.inr o))))))=some oo1) ?_ ?_
 refine bindK h1 (fun w2_ h2 h1=>?_)
 refine XC.region<|rR Z Z Z (RO.loadCE (x4:Lvl) ag_39 Z Z) ?_
 refine bindK h2 (fun x6 hx6 h2=>?_)
 refine XL.put Z Z (lb Z) (OpOK.callFun (m30_ok x4 x6 hx6) Z (.cons (.agg (.cons (.d _) (.cons (.d _) .nil))) .nil))<|rR Z Z Z (RO.not Z)<|rM Z Z Z ?_
 refine XL.case (d:=19) (c:=(!x6)) Z (fun c7=>?_) (fun c7=>?_)
 replace h2:=condT c7 h2
 refine XL.no Z Z<|XL.no Z Z<|XL.no Z Z<|rR Z Z Z (RO.pickT Z Z)<|XL.nil ?_
 have e:=sI h2;subst e
 exact XQ.joinR true (sL (Nat.zero_le _) Z Z Z Z Z) h1
 replace h2:=condF c7 h2
 refine rR Z Z Z (RO.fieldOwn fo_39_0 Z)<|rR Z Z Z (RO.loadOwn ag_3 Z Z Z)<|rR Z Z Z (RO.binInt Z Z Z)<|rR Z Z Z (RO.pickF Z Z)<|XL.nil ?_
 have e:=sI h2;subst e
 exact XQ.joinR (decide (3 < x4.c)) (sL (Nat.zero_le _) Z Z Z Z Z) h1
 intro v5 h1
 refine XQ.seq ?_
 refine XC.cond (b:=v5) Z (fun c8=>?_) (fun c8=>?_)
 replace h1:=condT c8 h1
 refine XC.seq<|XC.region<|rA Z Z Z<|XL.nil<|XQ.seq<|XC.ret ?_
 have e:=sI h1;subst e
 have e_:_=_:=ho1
 subst e_
 try dsimp only [Sum.elim_inl,Sum.elim_inr] at h0
 have e:=sI h0;subst e
 exact XQ.retF (fun _ _ h=>h) Z (RAs.tmp Z .nil) (.cons (.one (.d _)) .nil)
 replace h1:=condF c8 h1
 refine XC.skip<|XQ.seq<|XC.seq<|XC.region<|rA Z Z Z<|XL.nil<|XQ.seq<|XC.block ?_
 refine XC.joinX 2 (fun (o9:Unit)=>⟨[(10,.v (.one (dA 1 ([a0.lo,a0.hi]:List Lvl)))),(11,.v (.one (dI (([a0.lo,a0.hi]).length:Int)))),(12,.v (.one (dI s1)))],[(0,.cells 41 (cE a0)),(2,.cells 39 (cE x4))],[(1,some ⟨39,2,(Enc.encL ([a0.lo,a0.hi]:List Lvl)).length,[]⟩)],3,57,[]⟩) (fun (o9:Unit)=>(some (.next (w64 (s1+1))))=some oo1) ?_ ?_
 refine bindK h1 (fun o10 hl2 h1=>?_)
 refine XC.loopM (m20_l0 x4) (fun s2=>⟨[(4,.v (.one (.ptr 2 0))),(5,.v (.one (dI s2))),(10,.v (.one (dA 1 ([a0.lo,a0.hi]:List Lvl)))),(11,.v (.one (dI (([a0.lo,a0.hi]).length:Int)))),(12,.v (.one (dI s1)))],[(0,.cells 41 (cE a0)),(2,.cells 39 (cE x4))],[(1,some ⟨39,2,(Enc.encL ([a0.lo,a0.hi]:List Lvl)).length,[]⟩)],3,57,[]⟩) 0 o10 (sL (Nat.zero_le _) Z Z Z Z Z) hl2 (fun s2 n2 oo2 h2 ho2=>?_)
 unfold m20_l0 at h2
 refine XC.seq<|XC.seq<|XC.region<|rM Z Z Z<|rR Z Z Z (RO.fieldOwn fo_39_1 Z)<|rR Z Z Z (RO.loadOwn ag_37 Z Z Z)<|rR Z Z Z (RO.lenE (α:=LV) sl_37 Z (.d _))<|rR Z Z Z (RO.binInt Z Z Z)<|XL.nil<|XQ.seq ?_
 refine XC.cond (b:=(decide (s2 < (x4.vs.length:Int)))) Z (fun c11=>?_) (fun c11=>?_)
 replace h2:=condT c11 h2
 refine XC.skip<|XQ.seq<|XC.seq<|XC.block<|XC.seq ?_
 refine XC.joinR (fun (v12:Bool)=>⟨[(4,.v (.one (.ptr 2 0))),(5,.v (.one (dI s2))),(10,.v (.one (dA 1 ([a0.lo,a0.hi]:List Lvl)))),(11,.v (.one (dI (([a0.lo,a0.hi]).length:Int)))),(12,.v (.one (dI s1))),(55,.v (.one (dB v12)))],[(0,.cells 41 (cE a0)),(2,.cells 39 (cE x4))],[(1,some ⟨39,2,(Enc.encL ([a0.lo,a0.hi]:List Lvl)).length,[]⟩)],3,57,[]⟩) (fun (v12:Bool)=>(cond v12
     (some (.done (.inr false)))
     (some (.next (w64 (s2+1)))))=some oo2) ?_ ?_
 refine bindK h2 (fun w3_ h3 h2=>?_)
 refine XC.region<|rR Z Z Z (RO.fieldOwn fo_39_1 Z)<|rR Z Z Z (RO.loadOwn ag_37 Z Z Z)<|rM Z Z Z ?_
 refine bindK h3 (fun x13 hx13 h3=>?_)
 refine rR Z Z Z (RO.indexE (α:=LV) sl_37 Z (.d _) Z hx13)<|rR Z Z Z (RO.fieldPel fo_59_0 Z)<|rR Z Z Z (RO.loadPel ag_3 Z Z)<|rR Z Z Z (RO.binInt Z Z Z)<|rM Z Z Z ?_
 refine XL.case (d:=38) (c:=(decide (x13.1 < 0))) Z (fun c14=>?_) (fun c14=>?_)
 replace h3:=condT c14 h3
 refine XL.no Z Z<|XL.no Z Z<|XL.no Z Z<|XL.no Z Z<|XL.no Z Z<|XL.no Z Z<|XL.no Z Z<|rR Z Z Z (RO.pickT Z Z)<|rM Z Z Z<|XL.no Z Z<|XL.no Z Z<|XL.no Z Z<|XL.no Z Z<|XL.no Z Z ?_
 refine XL.no Z Z<|XL.no Z Z<|rR Z Z Z (RO.pickT Z Z)<|XL.nil ?_
 have e:=sI h3;subst e
 exact XQ.joinR true (sL (Nat.zero_le _) Z Z Z Z Z) h2
 replace h3:=condF c14 h3
 refine rR Z Z Z (RO.fieldOwn fo_39_1 Z)<|rR Z Z Z (RO.loadOwn ag_37 Z Z Z)<|rM Z Z Z ?_
 refine bindK h3 (fun x15 hx15 h3=>?_)
 refine rR Z Z Z (RO.indexE (α:=LV) sl_37 Z (.d _) Z hx15)<|rR Z Z Z (RO.fieldPel fo_59_0 Z)<|rR Z Z Z (RO.loadPel ag_3 Z Z)<|rR Z Z Z (RO.binInt Z Z Z)<|rR Z Z Z (RO.pickF Z Z)<|rM Z Z Z ?_
 refine XL.case (d:=47) (c:=(decide (2 < x15.1))) Z (fun c16=>?_) (fun c16=>?_)
 replace h3:=condT c16 h3
 refine XL.no Z Z<|XL.no Z Z<|XL.no Z Z<|XL.no Z Z<|XL.no Z Z<|XL.no Z Z<|XL.no Z Z<|rR Z Z Z (RO.pickT Z Z)<|XL.nil ?_
 have e:=sI h3;subst e
 exact XQ.joinR true (sL (Nat.zero_le _) Z Z Z Z Z) h2
 replace h3:=condF c16 h3
 refine rR Z Z Z (RO.fieldOwn fo_39_1 Z)<|rR Z Z Z (RO.loadOwn ag_37 Z Z Z)<|rM Z Z Z ?_
 refine bindK h3 (fun x17 hx17 h3=>?_)
 refine rR Z Z Z (RO.indexE (α:=LV) sl_37 Z (.d _) Z hx17)<|rR Z Z Z (RO.fieldPel fo_59_1 Z)<|rR Z Z Z (RO.loadPel ag_3 Z Z)<|rR Z Z Z (RO.binInt Z Z Z)<|rR Z Z Z (RO.pickF Z Z)<|XL.nil ?_
 have e:=sI h3;subst e
 exact XQ.joinR (decide (3 < x17.2)) (sL (Nat.zero_le _) Z Z Z Z Z) h2
 intro v12 h2
 refine XQ.seq ?_
 refine XC.cond (b:=v12) Z (fun c18=>?_) (fun c18=>?_)
 replace h2:=condT c18 h2
 refine XC.seq<|XC.region<|rA Z Z Z<|XL.nil<|XQ.seq<|XC.ret ?_
 have e:=sI h2;subst e
 have e_:_=_:=ho2
 subst e_
 try dsimp only [Sum.elim_inl,Sum.elim_inr] at h1
 have e:=sI h1;subst e
 have e_:_=_:=ho1
 subst e_
 try dsimp only [Sum.elim_inl,Sum.elim_inr] at h0
 have e:=sI h0;subst e
 exact XQ.retF (fun _ _ h=>h) Z (RAs.tmp Z .nil) (.cons (.one (.d _)) .nil)
 replace h2:=condF c18 h2
 refine XC.skip<|XQ.inBlock<|XQ.seq<|XC.region<|rM Z Z Z<|rR Z Z Z (RO.binInt Z Z Z)<|rA Z Z Z<|XL.nil ?_
 have e:=sI h2;subst e
 refine XQ.nextM (w64 (s2+1)) (sL (Nat.zero_le _) Z Z Z Z Z) ho2
 replace h2:=condF c11 h2
 refine XC.exit<|XQ.thenE<|XQ.thenE ?_
 have e:=sI h2;subst e
 have e_:_=_:=ho2
 subst e_
 exact XQ.joinX () (sL (Nat.zero_le _) Z Z Z Z Z) h1
 intro o9 h1
 refine XQ.blockX<|XQ.inBlock<|XQ.seq<|XC.region<|rR Z Z Z (RO.binInt Z Z Z)<|rM Z Z Z<|XL.nil ?_
 have e:=sI h1;subst e
 refine XQ.nextM (w64 (s1+1)) (sL (Nat.zero_le _) Z Z Z Z Z) ho1
 replace h1:=condF c3 h1
 refine XC.exit<|XQ.thenE<|XQ.thenE ?_
 have e:=sI h1;subst e
 have e_:_=_:=ho1
 subst e_
 exact XQ.joinX () (sL (Nat.zero_le _) Z Z Z Z Z) h0
 intro o1 h0
 refine XQ.blockX<|XQ.seq<|XC.seq<|XC.region<|rA Z Z Z<|XL.nil<|XQ.seq<|XC.ret ?_
 have e:=sI h0;subst e
 exact XQ.retF (fun _ _ h=>h) Z (RAs.tmp Z .nil) (.cons (.one (.d _)) .nil)
def m21_l0 (a0:Lvl) (a1:List Int) (s1:Int×Int):Option (LO (Int×Int) Int) :=
 cond (decide (s1.2 < (a0.vs.length:Int)))
   (Option.bind (idx a0.vs s1.2) fun (x3:LV) =>
 Option.bind (idx a0.vs s1.2) fun (x4:LV) =>
 Option.bind (cond (decide (x4.1 < 3))
   (Option.bind (idx a0.vs s1.2) fun (x7:LV) =>
 guardO (cond (decide (0≤x7.1)) (Nat.blt x7.1.toNat 3) false)
 (Option.bind (a1[0+x7.1.toNat * 1]?) fun (x9:Int) =>
 some (w64 (x3.2+x9))))
   (some x3.2)) (fun (v5:Int)=>some (.next ((max s1.1 v5),(w64 (s1.2+1))))))
   (some (.done s1.1))
def m21 (a0:Lvl) (a1:List Int):Option Int :=
 Option.bind (loopN (m21_l0 a0 a1) FUEL (a0.c,0)) (fun (o1:Int)=>some o1)
theorem m21_ok (a0:Lvl) (a1:List Int) (r:Int) (h0:m21 a0 a1=some r):Fun Try.prog 21 [.agg (cE a0),.agg (flatE (a1:List Int))] (resOf [.one (dI r)]):=by
 unfold m21 at h0
 refine Fun.of_bodyM 9 44 Try.func21 Z en_21 Z (lb Z) (fun S w=>?_)
 simp only [entry]
 refine XC.seq<|XC.region<|XL.put Z Z (lb Z) (OpOK.box Z)<|XL.put Z Z (lb Z) (OpOK.box Z)<|rA Z Z Z<|XL.nil<|XQ.seq<|XC.seq<|XC.region<|rR Z Z Z (RO.fieldOwn fo_39_0 Z)<|rR Z Z Z (RO.loadOwn ag_3 Z Z Z)<|rA Z Z Z<|XL.nil<|XQ.seq ?_
 refine XC.seq<|XC.seq<|XC.region<|rA Z Z Z<|XL.nil<|XQ.seq<|XC.block ?_
 refine XC.joinX 0 (fun (o1:Int)=>⟨[(5,.v (.one (dI o1)))],[(0,.cells 39 (cE a0)),(1,.cells 48 (flatE a1))],[],2,44,[]⟩) (fun (o1:Int)=>(some o1)=some r) ?_ ?_
 refine bindK h0 (fun o2 hl1 h0=>?_)
 refine XC.loopM (m21_l0 a0 a1) (fun s1=>⟨[(2,.v (.one (.ptr 0 0))),(3,.v (.one (.ptr 1 0))),(5,.v (.one (dI s1.1))),(6,.v (.one (dI s1.2)))],[(0,.cells 39 (cE a0)),(1,.cells 48 (flatE a1))],[],2,44,[]⟩) (a0.c,0) o2 (stle (tA Z) (hA Z) kZ Z (Nat.zero_le _) Z Z Z (bB Z Z (bF Z bZ)) Z Z) hl1 (fun s1 n1 oo1 h1 ho1=>?_)
 unfold m21_l0 at h1
 refine XC.seq<|XC.seq<|XC.region<|rM Z Z Z<|rR Z Z Z (RO.fieldOwn fo_39_1 Z)<|rR Z Z Z (RO.loadOwn ag_37 Z Z Z)<|rR Z Z Z (RO.lenE (α:=LV) sl_37 Z (.d _))<|rR Z Z Z (RO.binInt Z Z Z)<|XL.nil<|XQ.seq ?_
 refine XC.cond (b:=(decide (s1.2 < (a0.vs.length:Int)))) Z (fun c3=>?_) (fun c3=>?_)
 replace h1:=condT c3 h1
 refine XC.skip<|XQ.seq<|XC.seq<|XC.block<|XC.seq<|XC.region<|rR Z Z Z (RO.fieldOwn fo_39_1 Z)<|rR Z Z Z (RO.loadOwn ag_37 Z Z Z)<|rM Z Z Z ?_
 refine bindK h1 (fun x4 hx4 h1=>?_)
 refine rR Z Z Z (RO.indexE (α:=LV) sl_37 Z (.d _) Z hx4)<|rR Z Z Z (RO.fieldPel fo_59_1 Z)<|rR Z Z Z (RO.loadPel ag_3 Z Z)<|rA Z Z Z<|XL.nil<|XQ.seq<|XC.seq<|XC.seq<|XC.region<|rR Z Z Z (RO.fieldOwn fo_39_1 Z)<|rR Z Z Z (RO.loadOwn ag_37 Z Z Z)<|rM Z Z Z ?_
 refine bindK h1 (fun x5 hx5 h1=>?_)
 refine rR Z Z Z (RO.indexE (α:=LV) sl_37 Z (.d _) Z hx5)<|rR Z Z Z (RO.fieldPel fo_59_0 Z)<|rR Z Z Z (RO.loadPel ag_3 Z Z)<|rR Z Z Z (RO.binInt Z Z Z)<|XL.nil<|XQ.seq ?_
 refine XC.joinR (fun (v6:Int)=>⟨[(2,.v (.one (.ptr 0 0))),(3,.v (.one (.ptr 1 0))),(5,.v (.one (dI s1.1))),(6,.v (.one (dI s1.2))),(7,.v (.one (dI v6)))],[(0,.cells 39 (cE a0)),(1,.cells 48 (flatE a1))],[],2,44,[]⟩) (fun (v6:Int)=>(some (.next ((max s1.1 v6),(w64 (s1.2+1)))))=some oo1) ?_ ?_
 refine bindK h1 (fun w2_ h2 h1=>?_)
 refine XC.cond (b:=(decide (x5.1 < 3))) Z (fun c7=>?_) (fun c7=>?_)
 replace h2:=condT c7 h2
 refine XC.region<|rM Z Z Z<|rR Z Z Z (RO.fieldOwn fo_39_1 Z)<|rR Z Z Z (RO.loadOwn ag_37 Z Z Z)<|rM Z Z Z ?_
 refine bindK h2 (fun x8 hx8 h2=>?_)
 refine rR Z Z Z (RO.indexE (α:=LV) sl_37 Z (.d _) Z hx8)<|rR Z Z Z (RO.fieldPel fo_59_0 Z)<|rR Z Z Z (RO.loadPel ag_3 Z Z) ?_
 refine guardK h2 (fun g9 h2=>?_)
 refine rR Z Z Z (RO.indexA arr_48 Z Z g9) ?_
 refine bindK h2 (fun x10 hx10 h2=>?_)
 refine rR Z Z Z (RO.loadA ag_3 Z Z hx10)<|rR Z Z Z (RO.binInt Z Z Z)<|rA Z Z Z<|XL.nil ?_
 have e:=sI h2;subst e
 exact XQ.joinR (w64 (x4.2+x10)) (stle (tA Z) (hA Z) kZ Z (Nat.zero_le _) Z Z Z (bB Z Z (bF Z bZ)) Z Z) h1
 replace h2:=condF c7 h2
 refine XC.skip ?_
 have e:=sI h2;subst e
 exact XQ.joinR x4.2 (stle (tA Z) (hA Z) kZ Z (Nat.zero_le _) Z Z Z (bB Z Z (bF Z bZ)) Z Z) h1
 intro v6 h1
 refine XQ.seq<|XC.region<|rM Z Z Z<|rM Z Z Z<|rR Z Z Z (RO.max2 Z Z)<|rA Z Z Z<|XL.nil<|XQ.inBlock<|XQ.seq<|XC.region<|rM Z Z Z<|rR Z Z Z (RO.binInt Z Z Z)<|rA Z Z Z<|XL.nil ?_
 have e:=sI h1;subst e
 refine XQ.nextM ((max s1.1 v6),(w64 (s1.2+1))) (stle (tA Z) (hA Z) kZ Z (Nat.zero_le _) Z Z Z (bB Z Z (bF Z bZ)) Z Z) ho1
 replace h1:=condF c3 h1
 refine XC.exit<|XQ.thenE<|XQ.thenE ?_
 have e:=sI h1;subst e
 have e_:_=_:=ho1
 subst e_
 exact XQ.joinX s1.1 (stle (tA Z) (hA Z) kZ Z (Nat.zero_le _) Z Z Z (bB Z Z (bF Z bZ)) Z Z) h0
 intro o1 h0
 refine XQ.blockX<|XQ.seq<|XC.seq<|XC.region<|rM Z Z Z<|rA Z Z Z<|XL.nil<|XQ.seq<|XC.ret ?_
 have e:=sI h0;subst e
 exact XQ.retF (fun _ _ h=>h) Z (RAs.tmp Z .nil) (.cons (.one (.d _)) .nil)
def m6_l0 (a0:List Bnd) (s1:Int):Option (LO Int (Unit⊕Bool)) :=
 cond (decide (s1 < (a0.length:Int)))
   (Option.bind (idx a0 s1) fun (x5:Bnd) =>
 Option.bind (m20 x5) fun (x6:Bool) =>
 cond (!x6)
   (some (.done (.inr true)))
   (some (.next (w64 (s1+1)))))
   (some (.done (.inl ())))
def m6_l1 (a0:List Bnd) (s1:Int) (s2:Bool×Int):Option (LO (Bool×Int) Bool) :=
 Option.bind (cond (decide (s2.2 < (a0.length:Int)))
   (some s2.1)
   (some false)) (fun (v15:Bool)=>cond v15
   (Option.bind (idx a0 s2.2) fun (x17:Bnd) =>
 guardO (Nat.beq ([(Int.tmod s1 17),(Int.tmod (w64 (Int.tdiv s1 17)) 17),(w64 (Int.tdiv s1 289))]:List Int).length 3)
 (Option.bind (m21 x17.lo ([(Int.tmod s1 17),(Int.tmod (w64 (Int.tdiv s1 17)) 17),(w64 (Int.tdiv s1 289))]:List Int)) fun (x19:Int) =>
 Option.bind (idx a0 s2.2) fun (x20:Bnd) =>
 guardO (Nat.beq ([(Int.tmod s1 17),(Int.tmod (w64 (Int.tdiv s1 17)) 17),(w64 (Int.tdiv s1 289))]:List Int).length 3)
 (Option.bind (m21 x20.hi ([(Int.tmod s1 17),(Int.tmod (w64 (Int.tdiv s1 17)) 17),(w64 (Int.tdiv s1 289))]:List Int)) fun (x22:Int) =>
 some (.next ((decide (x19≤x22)),(w64 (s2.2+1)))))))
   (some (.done s2.1)))
def m6_l2 (a1:Bnd) (a0:List Bnd) (x4:Bool×Int) (s1:Int):Option (LO Int (Unit⊕Bool)) :=
 cond (decide (s1 < 4913))
   (guardO (Nat.beq (List.replicate 3 (0:Int)).length 3)
 (guardO (Nat.beq ([(Int.tmod s1 17),(Int.tmod (w64 (Int.tdiv s1 17)) 17),(w64 (Int.tdiv s1 289))]:List Int).length 3)
 (guardO (Nat.beq ([(Int.tmod s1 17),(Int.tmod (w64 (Int.tdiv s1 17)) 17),(w64 (Int.tdiv s1 289))]:List Int).length 3)
 (Option.bind (m21 a1.lo ([(Int.tmod s1 17),(Int.tmod (w64 (Int.tdiv s1 17)) 17),(w64 (Int.tdiv s1 289))]:List Int)) fun (x11:Int) =>
 guardO (Nat.beq ([(Int.tmod s1 17),(Int.tmod (w64 (Int.tdiv s1 17)) 17),(w64 (Int.tdiv s1 289))]:List Int).length 3)
 (Option.bind (m21 a1.hi ([(Int.tmod s1 17),(Int.tmod (w64 (Int.tdiv s1 17)) 17),(w64 (Int.tdiv s1 289))]:List Int)) fun (x13:Int) =>
 Option.bind (loopN (m6_l1 a0 s1) FUEL ((decide (x13 < x11)),0)) (fun (o14:Bool)=>cond o14
   (some (.done (.inr (!x4.1))))
   (some (.next (w64 (s1+1))))))))))
   (some (.done (.inl ())))
def m6 (a0:List Bnd) (a1:Bnd):Option Bool :=
 Option.bind (cond (decide (4 < (a0.length:Int)))
   (some true)
   (Option.bind (m20 a1) fun (x3:Bool) =>
 some (!x3))) (fun (v1:Bool)=>cond v1
   (some true)
   (Option.bind (loopN (m6_l0 a0) FUEL 0) (Sum.elim (fun (o3:Unit)=>Option.bind (m18 a0 a1) fun (x4:Bool×Int) =>
 cond (x4.2 != 0)
   (some (x4.2==1))
   (Option.bind (loopN (m6_l2 a1 a0 x4) FUEL 0) (Sum.elim (fun (o6:Unit)=>some x4.1) (fun o=>some o)))) (fun o=>some o))))
theorem m6_ok (a0:List Bnd) (a1:Bnd) (r:Bool) (h0:m6 a0 a1=some r):Fun Try.prog 6 [.one (dS a0),.agg (cE a1)] (resOf [.one (dB r)]):=by
 unfold m6 at h0
 refine Fun.of_bodyM 9 102 Try.func6 Z en_6 Z (lb Z) (fun S w=>?_)
 simp only [entry]
 refine XC.seq<|XC.region<|XL.put Z Z (lb Z) (OpOK.box Z)<|rA Z Z Z<|XL.nil<|XQ.seq<|XC.seq<|XC.seq ?_
 refine XC.joinR (fun (v1:Bool)=>⟨[(0,.v (.one (dS a0))),(3,.v (.one (.ptr 0 0))),(19,.v (.one (dB v1)))],[(0,.cells 41 (cE a1))],[],1,102,[]⟩) (fun (v1:Bool)=>(cond v1
     (some true)
     (Option.bind (loopN (m6_l0 a0) FUEL 0) (Sum.elim (fun (o3:Unit)=>Option.bind (m18 a0 a1) fun (x4:Bool×Int) =>
   cond (x4.2 != 0)
     (some (x4.2==1))
     (Option.bind (loopN (m6_l2 a1 a0 x4) FUEL 0) (Sum.elim (fun (o6:Unit)=>some x4.1) (fun o=>some o)))) (fun o=>some o))))=some r) ?_ ?_
 refine bindK h0 (fun w1_ h1 h0=>?_)
 refine XC.region<|rM Z Z Z<|rR Z Z Z (RO.lenE (α:=Bnd) sl_22 Z (.d _))<|rR Z Z Z (RO.binInt Z Z Z)<|rM Z Z Z ?_
 refine XL.case (d:=15) (c:=(decide (4 < (a0.length:Int)))) Z (fun c2=>?_) (fun c2=>?_)
 replace h1:=condT c2 h1
 refine XL.no Z Z<|XL.no Z Z<|XL.no Z Z<|rR Z Z Z (RO.pickT Z Z)<|XL.nil ?_
 have e:=sI h1;subst e
 exact XQ.joinR true (sL (Nat.zero_le _) Z Z Z Z Z) h0
 replace h1:=condF c2 h1
 refine rR Z Z Z (RO.loadCE (a1:Bnd) ag_41 Z Z) ?_
 refine bindK h1 (fun x3 hx3 h1=>?_)
 refine XL.put Z Z (lb Z) (OpOK.callFun (m20_ok a1 x3 hx3) Z (.cons (.agg (.cons (.d _) (.cons (.d _) (.cons (.d _) (.cons (.d _) .nil))))) .nil))<|rR Z Z Z (RO.not Z)<|rR Z Z Z (RO.pickF Z Z)<|XL.nil ?_
 have e:=sI h1;subst e
 exact XQ.joinR (!x3) (sL (Nat.zero_le _) Z Z Z Z Z) h0
 intro v1 h0
 refine XQ.seq ?_
 refine XC.cond (b:=v1) Z (fun c4=>?_) (fun c4=>?_)
 replace h0:=condT c4 h0
 refine XC.seq<|XC.region<|XL.put Z Z (lb Z) (OpOK.callFun (awake_fun) Z .nil)<|rA Z Z Z<|XL.nil<|XQ.seq<|XC.ret ?_
 have e:=sI h0;subst e
 exact XQ.retF (fun _ _ h=>h) Z (RAs.tmp Z .nil) (.cons (.one (.d _)) .nil)
 replace h0:=condF c4 h0
 refine XC.skip<|XQ.seq<|XC.seq<|XC.seq<|XC.region<|rA Z Z Z<|XL.nil<|XQ.seq<|XC.block ?_
 refine XC.joinX 0 (fun (o5:Unit)=>⟨[(0,.v (.one (dS a0))),(3,.v (.one (.ptr 0 0)))],[(0,.cells 41 (cE a1))],[],1,102,[]⟩) (fun (o5:Unit)=>(Option.bind (m18 a0 a1) fun (x6:Bool×Int) =>
   cond (x6.2 != 0)
     (some (x6.2==1))
     (Option.bind (loopN (m6_l2 a1 a0 x6) FUEL 0) (Sum.elim (fun (o8:Unit)=>some x6.1) (fun o=>some o))))=some r) ?_ ?_
 refine bindK h0 (fun o6 hl1 h0=>?_)
 refine XC.loopM (m6_l0 a0) (fun s1=>⟨[(0,.v (.one (dS a0))),(3,.v (.one (.ptr 0 0))),(5,.v (.one (dI s1)))],[(0,.cells 41 (cE a1))],[],1,102,[]⟩) 0 o6 (sL (Nat.zero_le _) Z Z Z Z Z) hl1 (fun s1 n1 oo1 h1 ho1=>?_)
 unfold m6_l0 at h1
 refine XC.seq<|XC.seq<|XC.region<|rM Z Z Z<|rM Z Z Z<|rR Z Z Z (RO.lenE (α:=Bnd) sl_22 Z (.d _))<|rR Z Z Z (RO.binInt Z Z Z)<|XL.nil<|XQ.seq ?_
 refine XC.cond (b:=(decide (s1 < (a0.length:Int)))) Z (fun c7=>?_) (fun c7=>?_)
 replace h1:=condT c7 h1
 refine XC.skip<|XQ.seq<|XC.seq<|XC.block<|XC.seq<|XC.region<|rM Z Z Z<|rM Z Z Z ?_
 refine bindK h1 (fun x8 hx8 h1=>?_)
 refine rR Z Z Z (RO.indexE (α:=Bnd) sl_22 Z (.d _) Z hx8)<|rR Z Z Z (RO.loadPelCE (x8:Bnd) ag_41 Z) ?_
 refine bindK h1 (fun x9 hx9 h1=>?_)
 refine XL.put Z Z (lb Z) (OpOK.callFun (m20_ok x8 x9 hx9) Z (.cons (.agg (.cons (.d _) (.cons (.d _) (.cons (.d _) (.cons (.d _) .nil))))) .nil))<|rR Z Z Z (RO.not Z)<|XL.nil<|XQ.seq ?_
 refine XC.cond (b:=(!x9)) Z (fun c10=>?_) (fun c10=>?_)
 replace h1:=condT c10 h1
 refine XC.seq<|XC.region<|XL.put Z Z (lb Z) (OpOK.callFun (awake_fun) Z .nil)<|rA Z Z Z<|XL.nil<|XQ.seq<|XC.ret ?_
 have e:=sI h1;subst e
 have e_:_=_:=ho1
 subst e_
 try dsimp only [Sum.elim_inl,Sum.elim_inr] at h0
 have e:=sI h0;subst e
 exact XQ.retF (fun _ _ h=>h) Z (RAs.tmp Z .nil) (.cons (.one (.d _)) .nil)
 replace h1:=condF c10 h1
 refine XC.skip<|XQ.inBlock<|XQ.seq<|XC.region<|rM Z Z Z<|rR Z Z Z (RO.binInt Z Z Z)<|rA Z Z Z<|XL.nil ?_
 have e:=sI h1;subst e
 refine XQ.nextM (w64 (s1+1)) (sL (Nat.zero_le _) Z Z Z Z Z) ho1
 replace h1:=condF c7 h1
 refine XC.exit<|XQ.thenE<|XQ.thenE ?_
 have e:=sI h1;subst e
 have e_:_=_:=ho1
 subst e_
 exact XQ.joinX () (sL (Nat.zero_le _) Z Z Z Z Z) h0
 intro o5 h0
 refine XQ.blockX<|XQ.seq<|XC.seq<|XC.region<|rM Z Z Z<|rR Z Z Z (RO.loadCE (a1:Bnd) ag_41 Z Z) ?_
 refine bindK h0 (fun x11 hx11 h0=>?_)
 refine XL.put Z Z (lb Z) (OpOK.callFun (m18_ok a0 a1 x11 hx11) Z (.cons (.one (.d _)) (.cons (.agg (.cons (.d _) (.cons (.d _) (.cons (.d _) (.cons (.d _) .nil))))) .nil)))<|rM Z Z Z<|rR Z Z Z (RO.extract Z Z)<|rR Z Z Z (RO.extract Z Z)<|rA Z Z Z<|rA Z Z Z<|XL.nil<|XQ.seq<|XC.seq<|XC.seq<|XC.region<|rM Z Z Z<|rR Z Z Z (RO.binInt Z Z Z)<|XL.nil ?_
 refine XQ.seq ?_
 refine XC.cond (b:=(x11.2 != 0)) Z (fun c12=>?_) (fun c12=>?_)
 replace h0:=condT c12 h0
 refine XC.seq<|XC.region<|XL.put Z Z (lb Z) (OpOK.callFun (awake_fun) Z .nil)<|rM Z Z Z<|rM Z Z Z<|rR Z Z Z (RO.binInt Z Z Z)<|rR Z Z Z (RO.pickT Z Z)<|rA Z Z Z<|XL.nil<|XQ.seq<|XC.ret ?_
 have e:=sI h0;subst e
 exact XQ.retF (fun _ _ h=>h) Z (RAs.tmp Z .nil) (.cons (.one (.d _)) .nil)
 replace h0:=condF c12 h0
 refine XC.skip<|XQ.seq<|XC.seq<|XC.seq<|XC.region<|rA Z Z Z<|XL.nil<|XQ.seq<|XC.block ?_
 refine XC.joinX 2 (fun (o13:Unit)=>⟨[(6,.v (.one (dB x11.1)))],[(0,.cells 41 (cE a1))],[],1,102,[]⟩) (fun (o13:Unit)=>(some x11.1)=some r) ?_ ?_
 refine bindK h0 (fun o14 hl1 h0=>?_)
 refine XC.loopM (m6_l2 a1 a0 x11) (fun s1=>⟨[(0,.v (.one (dS a0))),(3,.v (.one (.ptr 0 0))),(6,.v (.one (dB x11.1))),(8,.v (.one (dI s1)))],[(0,.cells 41 (cE a1))],[],1,102,[]⟩) 0 o14 (sL (Nat.zero_le _) Z Z Z Z Z) hl1 (fun s1 n1 oo1 h1 ho1=>?_)
 unfold m6_l2 at h1
 refine XC.seq<|XC.seq<|XC.region<|rM Z Z Z<|rR Z Z Z (RO.binInt Z Z Z)<|XL.nil<|XQ.seq ?_
 refine XC.cond (b:=(decide (s1 < 4913))) Z (fun c15=>?_) (fun c15=>?_)
 replace h1:=condT c15 h1
 refine XC.skip<|XQ.seq<|XC.seq<|XC.block<|XC.seq<|XC.region<|rM Z Z Z<|rR Z Z Z (RO.binInt Z Z Z)<|rM Z Z Z<|rR Z Z Z (RO.binInt Z Z Z)<|rR Z Z Z (RO.binInt Z Z Z)<|rM Z Z Z<|rR Z Z Z (RO.binInt Z Z Z)<|rR Z Z Z (RO.build3 bd_48 Z Z Z Z Z) ?_
 refine XL.put Z Z (lb Z) (OpOK.allocA (l:=(List.replicate 3 (0:Int))) z_48 Z Z) ?_
 refine guardK h1 (fun g16 h1=>?_)
 refine guardK h1 (fun g17 h1=>?_)
 refine XL.eff Z Z (OpOK.storeArr (l:=([(Int.tmod s1 17),(Int.tmod (w64 (Int.tdiv s1 17)) 17),(w64 (Int.tdiv s1 289))]:List Int)) ag_48 Z Z Z g16 g17 Z)<|XL.nil<|XQ.seq<|XC.seq ?_
 refine XC.anyRun [] [] mixed (by kernel_rfl) (by kernel_rfl) (by kernel_rfl) ?_
 refine RunA.rd Z Z Z (OpOK.of_ro (RO.fieldOwn fo_41_0 Z)) Z<|RunA.rd Z Z Z (OpOK.of_ro (RO.loadOwnAgg ag_39 Z Z Z Z)) Z ?_
 refine guardK h1 (fun g18 h1=>?_)
 refine RunA.rd Z Z Z (OpOK.of_ro (RO.loadArr ag_48 Z Z g18)) Z ?_
 refine bindK h1 (fun x19 hx19 h1=>?_)
 refine RunA.rd Z Z Z (OpOK.callFun (m21_ok a1.lo ([(Int.tmod s1 17),(Int.tmod (w64 (Int.tdiv s1 17)) 17),(w64 (Int.tdiv s1 289))]:List Int) x19 hx19) Z (.cons (.agg (.cons (.d _) (.cons (.d _) .nil))) (.cons (.agg (lsub_flat _)) .nil))) Z<|RunA.rd Z Z Z (OpOK.of_ro (RO.fieldOwn fo_41_1 Z)) Z<|RunA.rd Z Z Z (OpOK.of_ro (RO.loadOwnAgg ag_39 Z Z Z Z)) Z ?_
 refine guardK h1 (fun g20 h1=>?_)
 refine RunA.rd Z Z Z (OpOK.of_ro (RO.loadArr ag_48 Z Z g20)) Z ?_
 refine bindK h1 (fun x21 hx21 h1=>?_)
 refine RunA.rd Z Z Z (OpOK.callFun (m21_ok a1.hi ([(Int.tmod s1 17),(Int.tmod (w64 (Int.tdiv s1 17)) 17),(w64 (Int.tdiv s1 289))]:List Int) x21 hx21) Z (.cons (.agg (.cons (.d _) (.cons (.d _) .nil))) (.cons (.agg (lsub_flat _)) .nil))) Z<|RunA.rd Z Z Z (OpOK.of_ro (RO.binInt Z Z Z)) Z<|RunA.rd Z Z Z (OpOK.of_ro (RO.assign Z)) Z ?_
 refine RunA.nil ⟨?ex,_,_,Z,?_⟩
 case ex=>exact trivial
 refine XQ.less (st':=⟨[(0,.v (.one (dS a0))),(3,.v (.one (.ptr 0 0))),(6,.v (.one (dB x11.1))),(8,.v (.one (dI s1))),(9,.v (.one (.ptr 1 0))),(10,.v (.one (dB (decide (x21 < x19)))))],[(0,.cells 41 (cE a1)),(1,.cells 48 (flatE (([(Int.tmod s1 17),(Int.tmod (w64 (Int.tdiv s1 17)) 17),(w64 (Int.tdiv s1 289))]:List Int):List Int)))],[],2,102,[]⟩) (stle (tA Z) (hA Z) kZ Z (Nat.zero_le _) Z Z Z (bB Z Z (bF Z bZ)) Z Z)<|XQ.seq<|XC.seq<|XC.seq<|XC.region<|rA Z Z Z<|XL.nil<|XQ.seq<|XC.block ?_
 refine XC.joinX 4 (fun (o22:Bool)=>⟨[(0,.v (.one (dS a0))),(3,.v (.one (.ptr 0 0))),(6,.v (.one (dB x11.1))),(8,.v (.one (dI s1))),(10,.v (.one (dB o22)))],[(0,.cells 41 (cE a1)),(1,.cells 48 (flatE (([(Int.tmod s1 17),(Int.tmod (w64 (Int.tdiv s1 17)) 17),(w64 (Int.tdiv s1 289))]:List Int):List Int)))],[],2,102,[]⟩) (fun (o22:Bool)=>(cond o22
     (some (.done (.inr (!x11.1))))
     (some (.next (w64 (s1+1)))))=some oo1) ?_ ?_
 refine bindK h1 (fun o23 hl2 h1=>?_)
 refine XC.loopM (m6_l1 a0 s1) (fun s2=>⟨[(0,.v (.one (dS a0))),(3,.v (.one (.ptr 0 0))),(6,.v (.one (dB x11.1))),(8,.v (.one (dI s1))),(9,.v (.one (.ptr 1 0))),(10,.v (.one (dB s2.1))),(11,.v (.one (dI s2.2)))],[(0,.cells 41 (cE a1)),(1,.cells 48 (flatE (([(Int.tmod s1 17),(Int.tmod (w64 (Int.tdiv s1 17)) 17),(w64 (Int.tdiv s1 289))]:List Int):List Int)))],[],2,102,[]⟩) ((decide (x21 < x19)),0) o23 (stle (tA Z) (hA Z) kZ Z (Nat.zero_le _) Z Z Z (bB Z Z (bF Z bZ)) Z Z) hl2 (fun s2 n2 oo2 h2 ho2=>?_)
 unfold m6_l1 at h2
 refine XC.seq<|XC.seq ?_
 refine XC.joinR (fun (v24:Bool)=>⟨[(0,.v (.one (dS a0))),(3,.v (.one (.ptr 0 0))),(6,.v (.one (dB x11.1))),(8,.v (.one (dI s1))),(9,.v (.one (.ptr 1 0))),(10,.v (.one (dB s2.1))),(11,.v (.one (dI s2.2))),(74,.v (.one (dB v24)))],[(0,.cells 41 (cE a1)),(1,.cells 48 (flatE (([(Int.tmod s1 17),(Int.tmod (w64 (Int.tdiv s1 17)) 17),(w64 (Int.tdiv s1 289))]:List Int):List Int)))],[],2,102,[]⟩) (fun (v24:Bool)=>(cond v24
     (Option.bind (idx a0 s2.2) fun (x26:Bnd) =>
   guardO (Nat.beq ([(Int.tmod s1 17),(Int.tmod (w64 (Int.tdiv s1 17)) 17),(w64 (Int.tdiv s1 289))]:List Int).length 3)
   (Option.bind (m21 x26.lo ([(Int.tmod s1 17),(Int.tmod (w64 (Int.tdiv s1 17)) 17),(w64 (Int.tdiv s1 289))]:List Int)) fun (x28:Int) =>
   Option.bind (idx a0 s2.2) fun (x29:Bnd) =>
   guardO (Nat.beq ([(Int.tmod s1 17),(Int.tmod (w64 (Int.tdiv s1 17)) 17),(w64 (Int.tdiv s1 289))]:List Int).length 3)
   (Option.bind (m21 x29.hi ([(Int.tmod s1 17),(Int.tmod (w64 (Int.tdiv s1 17)) 17),(w64 (Int.tdiv s1 289))]:List Int)) fun (x31:Int) =>
   some (.next ((decide (x28≤x31)),(w64 (s2.2+1)))))))
     (some (.done s2.1)))=some oo2) ?_ ?_
 refine bindK h2 (fun w3_ h3 h2=>?_)
 refine XC.region<|rM Z Z Z<|rM Z Z Z<|rR Z Z Z (RO.lenE (α:=Bnd) sl_22 Z (.d _))<|rR Z Z Z (RO.binInt Z Z Z)<|rM Z Z Z ?_
 refine XL.case (d:=72) (c:=(decide (s2.2 < (a0.length:Int)))) Z (fun c25=>?_) (fun c25=>?_)
 replace h3:=condT c25 h3
 refine rM Z Z Z<|rR Z Z Z (RO.pickT Z Z)<|XL.nil ?_
 have e:=sI h3;subst e
 exact XQ.joinR s2.1 (stle (tA Z) (hA Z) kZ Z (Nat.zero_le _) Z Z Z (bB Z Z (bF Z bZ)) Z Z) h2
 replace h3:=condF c25 h3
 refine XL.no Z Z<|rR Z Z Z (RO.pickF Z Z)<|XL.nil ?_
 have e:=sI h3;subst e
 exact XQ.joinR false (stle (tA Z) (hA Z) kZ Z (Nat.zero_le _) Z Z Z (bB Z Z (bF Z bZ)) Z Z) h2
 intro v24 h2
 refine XQ.seq ?_
 refine XC.cond (b:=v24) Z (fun c26=>?_) (fun c26=>?_)
 replace h2:=condT c26 h2
 refine XC.skip<|XQ.seq<|XC.seq<|XC.block ?_
 refine XC.anyRun [] [] mixed (by kernel_rfl) (by kernel_rfl) (by kernel_rfl) ?_
 refine RunA.rd Z Z Z (OpOK.of_ro (RO.move Z)) Z<|RunA.rd Z Z Z (OpOK.of_ro (RO.move Z)) Z ?_
 refine bindK h2 (fun x27 hx27 h2=>?_)
 refine RunA.rd Z Z Z (OpOK.of_ro (RO.indexE (α:=Bnd) sl_22 Z (.d _) Z hx27)) Z<|RunA.rd Z Z Z (OpOK.of_ro (RO.fieldPel fo_41_0 Z)) Z<|RunA.rd Z Z Z (OpOK.of_ro (RO.loadPelAgg ag_39 Z Z Z)) Z ?_
 refine guardK h2 (fun g28 h2=>?_)
 refine RunA.rd Z Z Z (OpOK.of_ro (RO.loadArr ag_48 Z Z g28)) Z ?_
 refine bindK h2 (fun x29 hx29 h2=>?_)
 refine RunA.rd Z Z Z (OpOK.callFun (m21_ok x27.lo ([(Int.tmod s1 17),(Int.tmod (w64 (Int.tdiv s1 17)) 17),(w64 (Int.tdiv s1 289))]:List Int) x29 hx29) Z (.cons (.agg (.cons (.d _) (.cons (.d _) .nil))) (.cons (.agg (lsub_flat _)) .nil))) Z<|RunA.rd Z Z Z (OpOK.of_ro (RO.move Z)) Z<|RunA.rd Z Z Z (OpOK.of_ro (RO.move Z)) Z ?_
 refine bindK h2 (fun x30 hx30 h2=>?_)
 refine RunA.rd Z Z Z (OpOK.of_ro (RO.indexE (α:=Bnd) sl_22 Z (.d _) Z hx30)) Z<|RunA.rd Z Z Z (OpOK.of_ro (RO.fieldPel fo_41_1 Z)) Z<|RunA.rd Z Z Z (OpOK.of_ro (RO.loadPelAgg ag_39 Z Z Z)) Z ?_
 refine guardK h2 (fun g31 h2=>?_)
 refine RunA.rd Z Z Z (OpOK.of_ro (RO.loadArr ag_48 Z Z g31)) Z ?_
 refine bindK h2 (fun x32 hx32 h2=>?_)
 refine RunA.rd Z Z Z (OpOK.callFun (m21_ok x30.hi ([(Int.tmod s1 17),(Int.tmod (w64 (Int.tdiv s1 17)) 17),(w64 (Int.tdiv s1 289))]:List Int) x32 hx32) Z (.cons (.agg (.cons (.d _) (.cons (.d _) .nil))) (.cons (.agg (lsub_flat _)) .nil))) Z<|RunA.rd Z Z Z (OpOK.of_ro (RO.binInt Z Z Z)) Z<|RunA.rd Z Z Z (OpOK.of_ro (RO.assign Z)) Z ?_
 refine RunA.nil ⟨?ex,_,_,Z,?_⟩
 case ex=>exact trivial
 refine XQ.less (st':=⟨[(0,.v (.one (dS a0))),(3,.v (.one (.ptr 0 0))),(6,.v (.one (dB x11.1))),(8,.v (.one (dI s1))),(9,.v (.one (.ptr 1 0))),(10,.v (.one (dB (decide (x29≤x32))))),(11,.v (.one (dI s2.2)))],[(0,.cells 41 (cE a1)),(1,.cells 48 (flatE (([(Int.tmod s1 17),(Int.tmod (w64 (Int.tdiv s1 17)) 17),(w64 (Int.tdiv s1 289))]:List Int):List Int)))],[],2,102,[]⟩) (stle (tA Z) (hA Z) kZ Z (Nat.zero_le _) Z Z Z (bB Z Z (bF Z bZ)) Z Z)<|XQ.inBlock<|XQ.seq<|XC.region<|rM Z Z Z<|rR Z Z Z (RO.binInt Z Z Z)<|rA Z Z Z<|XL.nil ?_
 have e:=sI h2;subst e
 refine XQ.nextM ((decide (x29≤x32)),(w64 (s2.2+1))) (stle (tA Z) (hA Z) kZ Z (Nat.zero_le _) Z Z Z (bB Z Z (bF Z bZ)) Z Z) ho2
 replace h2:=condF c26 h2
 refine XC.exit<|XQ.thenE<|XQ.thenE ?_
 have e:=sI h2;subst e
 have e_:_=_:=ho2
 subst e_
 exact XQ.joinX s2.1 (stle (tA Z) (hA Z) kZ Z (Nat.zero_le _) Z Z Z (bB Z Z (bF Z bZ)) Z Z) h1
 intro o22 h1
 refine XQ.blockX<|XQ.seq<|XC.seq<|XC.region<|rM Z Z Z<|XL.nil<|XQ.seq ?_
 refine XC.cond (b:=o22) Z (fun c33=>?_) (fun c33=>?_)
 replace h1:=condT c33 h1
 refine XC.seq<|XC.region<|XL.put Z Z (lb Z) (OpOK.callFun (awake_fun) Z .nil)<|rM Z Z Z<|rM Z Z Z<|rR Z Z Z (RO.not Z)<|rR Z Z Z (RO.pickT Z Z)<|rA Z Z Z<|XL.nil<|XQ.seq<|XC.ret ?_
 have e:=sI h1;subst e
 have e_:_=_:=ho1
 subst e_
 try dsimp only [Sum.elim_inl,Sum.elim_inr] at h0
 have e:=sI h0;subst e
 exact XQ.retF (fun _ _ h=>h) Z (RAs.tmp Z .nil) (.cons (.one (.d _)) .nil)
 replace h1:=condF c33 h1
 refine XC.skip<|XQ.inBlock<|XQ.seq<|XC.region<|rM Z Z Z<|rR Z Z Z (RO.binInt Z Z Z)<|rA Z Z Z<|XL.nil ?_
 have e:=sI h1;subst e
 refine XQ.nextM (w64 (s1+1)) (sL (Nat.zero_le _) Z Z Z Z Z) ho1
 replace h1:=condF c15 h1
 refine XC.exit<|XQ.thenE<|XQ.thenE ?_
 have e:=sI h1;subst e
 have e_:_=_:=ho1
 subst e_
 exact XQ.joinX () (sL (Nat.zero_le _) Z Z Z Z Z) h0
 intro o13 h0
 refine XQ.blockX<|XQ.seq<|XC.seq<|XC.region<|XL.put Z Z (lb Z) (OpOK.callFun (awake_fun) Z .nil)<|rM Z Z Z<|rM Z Z Z<|rR Z Z Z (RO.pickT Z Z)<|rA Z Z Z<|XL.nil<|XQ.seq<|XC.ret ?_
 have e:=sI h0;subst e
 exact XQ.retF (fun _ _ h=>h) Z (RAs.tmp Z .nil) (.cons (.one (.d _)) .nil)
end Go.Proofs.Ytkimijmiphkddaa
namespace Go.Proofs.Ytkimijmiphkddaa
open Go.RowKit Go.Shelf
theorem loop_bad {α β:Type} {step:Int→Option (LO Int β)} (l:List α) (bad:List α→α→Prop) (r0 r1:β) (hlen:l.length≤900000000)
  (hin:∀ (a:List α) (x:α) (b:List α),l=a++x::b→(bad a x→step (a.length:Int)=some (.done r0))∧(¬ bad a x→step (a.length:Int)=some (.next (w64 ((a.length:Int)+1)))))
  (hout:step (l.length:Int)=some (.done r1)):∃ r,loopN step FUEL 0=some r∧((r=r1∧∀ a x b,l=a++x::b→¬ bad a x)∨(r=r0∧∃ a x b,l=a++x::b∧bad a x)):=by
 refine loop_all (step:=step) l (fun i (_:Unit)=>i) (fun a _=>∀ a' x b',a=a'++x::b'→¬ bad a' x) (fun r=>(r=r1∧∀ a x b,l=a++x::b→¬ bad a x)∨(r=r0∧∃ a x b,l=a++x::b∧bad a x)) hlen
  (fun a x b s hl hI=>?_) (fun s hI=>⟨r1,hout,.inl ⟨rfl,hI⟩⟩) () (fun a' x b' h=>by cases a' <;> cases h)
 by_cases hb:bad a x
 ·exact .inl ⟨r0,(hin a x b hl).1 hb,.inr ⟨rfl,a,x,b,hl,hb⟩⟩
 ·refine .inr ⟨(),(hin a x b hl).2 hb,fun a' y b' h=>?_⟩
  rcases List.append_eq_append_iff.1 h with ⟨c,h1,h2⟩ | ⟨c,h1,h2⟩
  ·cases c with
   | nil =>
    rw [List.nil_append] at h2
    cases h2
    rw [List.append_nil] at h1
    rw [h1];exact hb
   | cons z c =>
    exfalso
    have:=congrArg List.length h2
    simp at this
  ·cases c with
   | nil =>
    rw [List.nil_append] at h2
    cases h2
    rw [List.append_nil] at h1
    rw [← h1];exact hb
   | cons z c =>
    rw [List.cons_append] at h2
    cases h2
    exact hI a' y c h1
theorem idx_some {α:Type} {l:List α} {i:Int} (h0:0≤i) (h1:i < (l.length:Int)):∃ x,idx l i=some x:=by
 cases i with
 | ofNat k=>exact ⟨l[k]'(by have:(Int.ofNat k) < (l.length:Int):=h1;simp at this;omega),List.getElem?_eq_getElem _⟩
 | negSucc k=>omega
def lvBad (l:Lvl) (a:List LV) (x:LV):Prop:=x.1 < -65536∨7 < x.1∨x.2 < 0∨100 < x.2∨(0 < a.length∧∃ y,idx l.vs (w64 ((a.length:Int) - 1))=some y∧x.1≤y.1)
theorem prev_some {l:List LV} {a:List LV} {x:LV} {b:List LV} (h:l.length≤900000000) (e:l=a++x::b) (ha:0 < a.length):∃ y,idx l (w64 ((a.length:Int) - 1))=some y:=by
 have:=mid_lt e
 rw [w64_id (by omega) (by omega)]
 exact idx_some (by omega) (by omega)
theorem m84_eq (l:List LV) (u:Lvl) (h:l.length≤900000000):∃ b,m70f0 l u=some b∧(b=true↔∃ x∈l,u.c≤x.2):=by
 have h1:∃ r,loopN (m84f1_l0 l u) FUEL 0=some r∧((r=.inl ())∧(∀ x∈l,¬ u.c≤x.2)∨∃ k:Nat,r=.inr (k:Int)∧∃ x∈l,u.c≤x.2):=by
  refine loop_all (step:=m84f1_l0 l u) l (fun i (_:Unit)=>i) (fun a _=>∀ x∈a,¬ u.c≤x.2) (fun r=>((r=.inl ())∧(∀ x∈l,¬ u.c≤x.2)∨∃ k:Nat,r=.inr (k:Int)∧∃ x∈l,u.c≤x.2)) h
   (fun a x b s e hI=>?_) (fun s hI=>⟨.inl (),by unfold m84f1_l0;rw [lt_end];rfl,.inl ⟨rfl,hI⟩⟩) () (fun x hx=>by cases hx)
  by_cases hx:u.c≤x.2
  ·refine .inl ⟨.inr (a.length:Int),?_,.inr ⟨a.length,rfl,x,by rw [e];simp,hx⟩⟩
   unfold m84f1_l0
   rw [e,lt_mid,idx_mid]
   show cond (decide (u.c≤x.2)) _ _=_
   rw [decide_eq_true hx];rfl
  ·refine .inr ⟨(),?_,fun y hy=>?_⟩
   ·unfold m84f1_l0
    rw [e,lt_mid,idx_mid]
    show cond (decide (u.c≤x.2)) _ _=_
    rw [decide_eq_false hx];rfl
   ·rcases List.mem_append.1 hy with hy | hy
    ·exact hI y hy
    ·rw [List.mem_singleton.1 hy];exact hx
 obtain ⟨r,h2,h3⟩:=h1
 unfold m70f0 m84f1
 rw [h2]
 rcases h3 with ⟨rfl,h4⟩ | ⟨k,rfl,h4⟩
 ·exact ⟨false,rfl,⟨fun h=>(by cases h),fun ⟨x,hx,h⟩=>(h4 x hx h).elim⟩⟩
 ·refine ⟨true,?_,⟨fun _=>h4,fun _=>rfl⟩⟩
  show some (decide ((0:Int)≤(k:Int)))=_
  rw [decide_eq_true (by omega)]
def lvP (l:Lvl):Prop:=0≤l.c∧l.c≤100∧(0 < l.c→∀ x∈l.vs,¬ l.c≤x.2)∧∀ a x b,l.vs=a++x::b→¬ lvBad l a x
theorem m28_eq (l:Lvl) (h:l.vs.length≤900000000):∃ b,m28 l=some b∧(b=true↔lvP l):=by
 have hloop:=loop_bad (β:=Unit⊕Bool) (step:=m28_l0 l) l.vs (lvBad l) (.inr false) (.inl ()) h (fun a x b e=>by
  have hprev:=fun ha=>prev_some (x:=x) (b:=b) h e ha
  have:m28_l0 l (a.length:Int)=Option.bind (cond (decide (x.1 < (-65536))) (some true) (cond (decide (7 < x.1)) (some true) (cond (decide (x.2 < 0)) (some true) (cond (decide (100 < x.2)) (some true)
    (cond (decide (0 < (a.length:Int))) (Option.bind (idx l.vs (w64 ((a.length:Int) - 1))) fun (x12:LV)=>some (decide (x.1≤x12.1))) (some false)))))) (fun (v6:Bool)=>cond v6 (some (.done (.inr false))) (some (.next (w64 ((a.length:Int)+1))))):=by
   unfold m28_l0
   have e2:l.vs=a++x::b:=e
   rw [show decide ((a.length:Int) < (l.vs.length:Int))=true from by rw [e2];exact lt_mid a x b,show idx l.vs (a.length:Int)=some x from by rw [e2];exact idx_mid a x b]
   rfl
  rw [this]
  unfold lvBad
  by_cases c1:x.1 < -65536
  ·rw [decide_eq_true c1];exact ⟨fun _=>rfl,fun h=>(h (.inl c1)).elim⟩
  rw [decide_eq_false c1,cond_false]
  by_cases c2:7 < x.1
  ·rw [decide_eq_true c2];exact ⟨fun _=>rfl,fun h=>(h (.inr (.inl c2))).elim⟩
  rw [decide_eq_false c2,cond_false]
  by_cases c3:x.2 < 0
  ·rw [decide_eq_true c3];exact ⟨fun _=>rfl,fun h=>(h (.inr (.inr (.inl c3)))).elim⟩
  rw [decide_eq_false c3,cond_false]
  by_cases c4:100 < x.2
  ·rw [decide_eq_true c4];exact ⟨fun _=>rfl,fun h=>(h (.inr (.inr (.inr (.inl c4))))).elim⟩
  rw [decide_eq_false c4,cond_false]
  by_cases c5:0 < a.length
  ·rw [decide_eq_true (show 0 < (a.length:Int) by omega),cond_true]
   obtain ⟨y,hy⟩:=hprev c5
   rw [hy,Option.bind_some]
   by_cases c6:x.1≤y.1
   ·rw [decide_eq_true c6];exact ⟨fun _=>rfl,fun h=>(h (.inr (.inr (.inr (.inr ⟨c5,y,rfl,c6⟩))))).elim⟩
   ·rw [decide_eq_false c6]
    refine ⟨fun h=>?_,fun _=>rfl⟩
    rcases h with h | h | h | h | ⟨-,z,hz,h⟩
    ·exact (c1 h).elim
    ·exact (c2 h).elim
    ·exact (c3 h).elim
    ·exact (c4 h).elim
    ·cases hz;exact (c6 h).elim
  ·rw [decide_eq_false (show ¬ 0 < (a.length:Int) by omega)]
   refine ⟨fun h=>?_,fun _=>rfl⟩
   rcases h with h | h | h | h | ⟨h,-⟩
   ·exact (c1 h).elim
   ·exact (c2 h).elim
   ·exact (c3 h).elim
   ·exact (c4 h).elim
   ·exact (c5 h).elim) (by unfold m28_l0;rw [lt_end];rfl)
 obtain ⟨r,h1,h2⟩:=hloop
 obtain ⟨b,h3,h4⟩:=m84_eq l.vs l h
 unfold m28
 rw [h3,h1]
 by_cases c1:l.c < 0
 ·rw [decide_eq_true c1];exact ⟨false,rfl,⟨fun h=>(Bool.false_ne_true h).elim,fun h=>by have:=h.1;omega⟩⟩
 rw [decide_eq_false c1,cond_false]
 by_cases c2:100 < l.c
 ·rw [decide_eq_true c2];exact ⟨false,rfl,⟨fun h=>(Bool.false_ne_true h).elim,fun h=>by have:=h.2.1;omega⟩⟩
 rw [decide_eq_false c2,cond_false]
 have key:(∃ x,(0 < l.c∧(∃ x∈l.vs,l.c≤x.2)→x=false)∧(¬ (0 < l.c∧∃ x∈l.vs,l.c≤x.2)→Option.bind (some r) (Sum.elim (fun (o3:Unit)=>some true) (fun o=>some o))=some x)∧cond (decide (0 < l.c)) (Option.bind (Option.bind (some b) fun (x7:Bool)=>some x7) (fun (y5:Bool)=>some y5)) (some false)=some (decide (0 < l.c∧∃ x∈l.vs,l.c≤x.2))∧(x=true→r=.inl ())∧(¬ (0 < l.c∧∃ x∈l.vs,l.c≤x.2)→r=.inl ()→x=true)):=by
  by_cases c3:0 < l.c
  ·rw [decide_eq_true c3]
   cases b with
   | true =>
    have h5:=h4.1 rfl
    exact ⟨false,fun _=>rfl,fun h=>(h ⟨c3,h5⟩).elim,by rw [decide_eq_true ⟨c3,h5⟩];rfl,fun h=>(by cases h),fun h=>(h ⟨c3,h5⟩).elim⟩
   | false =>
    have h5:¬ ∃ x∈l.vs,l.c≤x.2:=fun h=>by have:=h4.2 h;cases this
    rcases h2 with ⟨rfl,-⟩ | ⟨rfl,-⟩
    ·exact ⟨true,fun h=>(h5 h.2).elim,fun _=>rfl,by rw [decide_eq_false fun h=>h5 h.2];rfl,fun _=>rfl,fun _ _=>rfl⟩
    ·exact ⟨false,fun h=>(h5 h.2).elim,fun _=>rfl,by rw [decide_eq_false fun h=>h5 h.2];rfl,fun h=>(by cases h),fun _ h=>by cases h⟩
  ·rw [decide_eq_false c3]
   rcases h2 with ⟨rfl,-⟩ | ⟨rfl,-⟩
   ·exact ⟨true,fun h=>(c3 h.1).elim,fun _=>rfl,by rw [decide_eq_false fun h=>c3 h.1];rfl,fun _=>rfl,fun _ _=>rfl⟩
   ·exact ⟨false,fun h=>(c3 h.1).elim,fun _=>rfl,by rw [decide_eq_false fun h=>c3 h.1];rfl,fun h=>(by cases h),fun _ h=>by cases h⟩
 obtain ⟨x,k1,k2,k3,k4,k5⟩:=key
 rw [k3,Option.bind_some]
 by_cases c4:0 < l.c∧∃ x∈l.vs,l.c≤x.2
 ·rw [decide_eq_true c4]
  refine ⟨false,Z,fun h=>(Bool.false_ne_true h).elim,fun h=>?_⟩
  obtain ⟨y,hy,hy2⟩:=c4.2
  exact (h.2.2.1 c4.1 y hy hy2).elim
 ·rw [decide_eq_false c4]
  refine ⟨x,k2 c4,fun h=>?_,fun h=>?_⟩
  ·have h6:=k4 h
   rcases h2 with ⟨-,h7⟩ | ⟨h7,-⟩
   ·exact ⟨by omega,by omega,fun h8 y hy h9=>c4 ⟨h8,y,hy,h9⟩,h7⟩
   ·rw [h7] at h6;cases h6
  ·refine k5 c4 ?_
   rcases h2 with ⟨h7,-⟩ | ⟨-,a,y,c,h7,h8⟩
   ·exact h7
   ·exact (h.2.2.2 a y c h7 h8).elim
theorem m30_eq (l:Lvl) (h:l.vs.length≤900000000):∃ b,m30 l=some b∧(b=true↔lvP l):=by
 have hloop:=loop_bad (β:=Unit⊕Bool) (step:=m30_l0 l) l.vs (fun a x=>lvBad l a x∨(0 < l.c∧l.c≤x.2)) (.inr false) (.inl ()) h (fun a x b e=>by
  have hprev:=fun ha=>prev_some (x:=x) (b:=b) h e ha
  have:m30_l0 l (a.length:Int)=Option.bind (cond (decide (x.1 < (-65536))) (some true) (cond (decide (8≤x.1)) (some true) (cond (decide (x.2 < 0)) (some true) (some (decide (100 < x.2)))))) (fun (v6:Bool)=>cond v6 (some (.done (.inr false))) (Option.bind (cond (decide (0 < (a.length:Int))) (Option.bind (idx l.vs (w64 ((a.length:Int) - 1))) fun (x10:LV)=>some (decide (x.1≤x10.1))) (some false)) (fun (v8:Bool)=>cond v8 (some (.done (.inr false))) (Option.bind (cond (decide (0 < l.c)) (some (decide (l.c≤x.2))) (some false)) (fun (v10:Bool)=>cond v10 (some (.done (.inr false))) (some (.next (w64 ((a.length:Int)+1))))))))):=by
   unfold m30_l0
   have e2:l.vs=a++x::b:=e
   rw [show decide ((a.length:Int) < (l.vs.length:Int))=true from by rw [e2];exact lt_mid a x b,show idx l.vs (a.length:Int)=some x from by rw [e2];exact idx_mid a x b]
   rfl
  rw [this]
  unfold lvBad
  by_cases c1:x.1 < -65536
  ·rw [decide_eq_true c1];exact ⟨fun _=>rfl,fun h=>(h (.inl (.inl c1))).elim⟩
  rw [decide_eq_false c1,cond_false]
  by_cases c2:7 < x.1
  ·rw [decide_eq_true (show 8≤x.1 by omega)];exact ⟨fun _=>rfl,fun h=>(h (.inl (.inr (.inl c2)))).elim⟩
  rw [decide_eq_false (show ¬ 8≤x.1 by omega),cond_false]
  by_cases c3:x.2 < 0
  ·rw [decide_eq_true c3];exact ⟨fun _=>rfl,fun h=>(h (.inl (.inr (.inr (.inl c3))))).elim⟩
  rw [decide_eq_false c3,cond_false]
  by_cases c4:100 < x.2
  ·rw [decide_eq_true c4];exact ⟨fun _=>rfl,fun h=>(h (.inl (.inr (.inr (.inr (.inl c4)))))).elim⟩
  rw [decide_eq_false c4,Option.bind_some]
  show (_→Option.bind (cond (decide (0 < (a.length:Int))) (Option.bind (idx l.vs (w64 ((a.length:Int) - 1))) fun (b0_:LV)=>some (decide (x.1≤b0_.1))) (some false)) _=_)∧(_→Option.bind (cond (decide (0 < (a.length:Int))) (Option.bind (idx l.vs (w64 ((a.length:Int) - 1))) fun (b0_:LV)=>some (decide (x.1≤b0_.1))) (some false)) _=_)
  have hlast:∀ (hno:¬ (0 < a.length∧∃ y,idx l.vs (w64 ((a.length:Int) - 1))=some y∧x.1≤y.1)),((((x.1 < -65536∨7 < x.1∨x.2 < 0∨100 < x.2∨(0 < a.length∧∃ y,idx l.vs (w64 ((a.length:Int) - 1))=some y∧x.1≤y.1)))∨(0 < l.c∧l.c≤x.2))→Option.bind (cond (decide (0 < l.c)) (some (decide (l.c≤x.2))) (some false)) (fun (b2_:Bool)=>(cond b2_ (some (.done (.inr false))) (some (.next (w64 ((a.length:Int)+1)))):Option (LO Int (Unit⊕Bool))))=some (.done (.inr false:Unit⊕Bool)))∧(¬ (((x.1 < -65536∨7 < x.1∨x.2 < 0∨100 < x.2∨(0 < a.length∧∃ y,idx l.vs (w64 ((a.length:Int) - 1))=some y∧x.1≤y.1)))∨(0 < l.c∧l.c≤x.2))→Option.bind (cond (decide (0 < l.c)) (some (decide (l.c≤x.2))) (some false)) (fun (b2_:Bool)=>(cond b2_ (some (.done (.inr false))) (some (.next (w64 ((a.length:Int)+1)))):Option (LO Int (Unit⊕Bool))))=some (.next (β:=Unit⊕Bool) (w64 ((a.length:Int)+1)))):=by
   intro hno
   by_cases c7:0 < l.c
   ·rw [decide_eq_true c7]
    by_cases c8:l.c≤x.2
    ·rw [decide_eq_true c8];exact ⟨fun _=>rfl,fun h=>(h (.inr ⟨c7,c8⟩)).elim⟩
    ·rw [decide_eq_false c8]
     refine ⟨fun h=>?_,fun _=>rfl⟩
     rcases h with (h | h | h | h | h) | ⟨-,h⟩
     ·exact (c1 h).elim
     ·exact (c2 h).elim
     ·exact (c3 h).elim
     ·exact (c4 h).elim
     ·exact (hno h).elim
     ·exact (c8 h).elim
   ·rw [decide_eq_false c7]
    refine ⟨fun h=>?_,fun _=>rfl⟩
    rcases h with (h | h | h | h | h) | ⟨h,-⟩
    ·exact (c1 h).elim
    ·exact (c2 h).elim
    ·exact (c3 h).elim
    ·exact (c4 h).elim
    ·exact (hno h).elim
    ·exact (c7 h).elim
  by_cases c5:0 < a.length
  ·rw [decide_eq_true (show 0 < (a.length:Int) by omega),cond_true]
   obtain ⟨y,hy⟩:=hprev c5
   rw [hy,Option.bind_some]
   rw [hy] at hlast
   by_cases c6:x.1≤y.1
   ·rw [decide_eq_true c6];exact ⟨fun _=>rfl,fun h=>(h (.inl (.inr (.inr (.inr (.inr ⟨c5,y,rfl,c6⟩)))))).elim⟩
   ·rw [decide_eq_false c6]
    exact hlast fun ⟨_,z,hz,h⟩=>by cases hz;exact c6 h
  ·rw [decide_eq_false (show ¬ 0 < (a.length:Int) by omega)]
   exact hlast fun h=>c5 h.1) (by unfold m30_l0;rw [lt_end];rfl)
 obtain ⟨r,h1,h2⟩:=hloop
 unfold m30
 rw [h1]
 by_cases c1:l.c < 0
 ·rw [decide_eq_true c1];exact ⟨false,rfl,⟨fun h=>(Bool.false_ne_true h).elim,fun h=>by have:=h.1;omega⟩⟩
 rw [decide_eq_false c1,cond_false]
 by_cases c2:100 < l.c
 ·rw [decide_eq_true c2];exact ⟨false,rfl,⟨fun h=>(Bool.false_ne_true h).elim,fun h=>by have:=h.2.1;omega⟩⟩
 rw [decide_eq_false c2,Option.bind_some,cond_false]
 rcases h2 with ⟨rfl,h3⟩ | ⟨rfl,a,x,b,e,h3⟩
 ·refine ⟨true,rfl,fun _=>⟨by omega,by omega,fun h4 y hy h5=>?_,fun a x b e h4=>h3 a x b e (.inl h4)⟩,fun _=>rfl⟩
  obtain ⟨a,b,e⟩:=List.append_of_mem hy
  exact h3 a y b e (.inr ⟨h4,h5⟩)
 ·refine ⟨false,rfl,fun h=>(Bool.false_ne_true h).elim,fun h4=>?_⟩
  rcases h3 with h3 | ⟨h3,h5⟩
  ·exact (h4.2.2.2 a x b e h3).elim
  ·exact (h4.2.2.1 h3 x (by rw [e];simp) h5).elim
theorem lv_same (l:Lvl) (h:l.vs.length≤900000000):∃ b,m28 l=some b∧m30 l=some b∧(b=true→lvP l):=by
 obtain ⟨b,h1,h2⟩:=m28_eq l h
 obtain ⟨c,h3,h4⟩:=m30_eq l h
 have:b=c:=Bool.eq_iff_iff.2 (h2.trans h4.symm)
 exact ⟨b,h1,by rw [this];exact h3,h2.1⟩
end Go.Proofs.Ytkimijmiphkddaa
namespace Go.Proofs.Ytkimijmiphkddaa
open Go.RowKit Go.Shelf
theorem metas_nil (L:Lvl) (h:∀ v∈L.vs,0≤v.1) (hl:L.vs.length≤900000000):∀ (k n:Nat),k≤L.vs.length→k < n→loopN (m38_l0 L) n ((k:Int) - 1,[])=some []
 | 0,n,_,hn=>by
  cases n with
  | zero=>omega
  | succ n =>
   have:m38_l0 L (((0:Nat):Int) - 1,[])=some (.done []):=by unfold m38_l0;rfl
   simp only [loopN,this]
 | k+1,n,hk,hn=>by
  cases n with
  | zero=>omega
  | succ n =>
   have hx:L.vs[k]?=some L.vs[k]:=List.getElem?_eq_getElem (by omega)
   have h0:=h L.vs[k] (List.getElem_mem (by omega))
   have e1:((k+1:Nat):Int) - 1=(k:Int):=by omega
   have:m38_l0 L (((k+1:Nat):Int) - 1,[])=some (.next ((k:Int) - 1,[])):=by
    unfold m38_l0
    dsimp only
    rw [e1,decide_eq_true (show (0:Int)≤(k:Int) by omega),cond_true,idx_at hx,Option.bind_some,decide_eq_false (by omega)]
    show some (LO.next (w64 ((k:Int) - 1),([]:List Int)))=_
    rw [w64_id (by omega) (by omega)]
   simp only [loopN,this]
   exact metas_nil L h hl k n (by omega) (by omega)
theorem m38_eq (L:Lvl) (hv:m28 L=some true) (h:∀ v∈L.vs,0≤v.1) (hl:L.vs.length≤900000000):m38 L=some []:=by
 unfold m38
 rw [hv]
 simp only [Option.bind_some,cond_true,bs]
 rw [w64_id (by omega) (by omega)]
 exact metas_nil L h hl L.vs.length FUEL (Nat.le_refl _) (by unfold FUEL;omega)
structure BdE (bd:Bnd):Prop where
 v:BdV bd
 lo:m28 bd.lo=some true
 hi:m28 bd.hi=some true
theorem none_eq {l:List Bnd} (hl:l.length≤900000000) (h:∀ bd∈l,BdE bd):m35f19 l=some false∧m35f21 l=some false:=by
 have h1:loopN (m59f20_l0 l) FUEL 0=some (.inl ()):=by
  obtain ⟨r,e1,e2⟩:=loop_all (step:=m59f20_l0 l) l (fun i (_:Unit)=>i) (fun _ _=>True) (fun r=>r=.inl ()) hl (fun a bd b s e _=>by
   have hb:=h bd (by rw [e];simp)
   refine .inr ⟨(),?_,trivial⟩
   unfold m59f20_l0
   rw [e,lt_mid,idx_mid]
   simp only [cond_true,Option.bind_some]
   rw [hb.lo,hb.hi];rfl) (fun s _=>⟨_,by unfold m59f20_l0;rw [lt_end];rfl,rfl⟩) () trivial
  rw [← e2];exact e1
 have h2:loopN (m59f22_l0 l) FUEL 0=some (.inl ()):=by
  obtain ⟨r,e1,e2⟩:=loop_all (step:=m59f22_l0 l) l (fun i (_:Unit)=>i) (fun _ _=>True) (fun r=>r=.inl ()) hl (fun a bd b s e _=>by
   have hb:=h bd (by rw [e];simp)
   refine .inr ⟨(),?_,trivial⟩
   unfold m59f22_l0
   rw [e,lt_mid,idx_mid]
   simp only [cond_true,Option.bind_some]
   rw [m38_eq _ hb.lo (fun v hv=>(hb.v.lo.2.2 v hv).1) hb.v.ll,m38_eq _ hb.hi (fun v hv=>(hb.v.hi.2.2 v hv).1) hb.v.lh];rfl) (fun s _=>⟨_,by unfold m59f22_l0;rw [lt_end];rfl,rfl⟩) () trivial
  rw [← e2];exact e1
 unfold m35f19 m59f20 m35f21 m59f22
 rw [h1,h2]
 exact ⟨Z,Z⟩
def Refp (a0:List Bnd) (b:Bnd) (p:Lvl):Prop:=∃ x,Nt x∧(∀ bd∈a0,holdsB x bd)∧∀ o∈partsL b.hi,pv x o+1≤pv x p
theorem entails_eq (a0:List Bnd) (a1:Bnd) (hl:a0.length≤800000000) (h0:∀ bd∈a0,BdE bd) (h1:BdE a1):∃ r,m18 a0 a1=some r ∧
  ((r=(false,1)∧¬ ∀ bd∈a0,one1 bd)∨((∀ bd∈a0,one1 bd)∧∃ b:Bool,r=(b,0)∧(b=false↔∃ p∈partsL a1.lo,Refp a0 a1 p))):=by
 obtain ⟨n1,n2⟩:=none_eq (l:=a0++[a1]) (by rw [List.length_append,List.length_singleton];omega) (fun bd hb=>by
  rcases List.mem_append.1 hb with hb | hb
  ·exact h0 bd hb
  ·rw [List.mem_singleton.1 hb];exact h1)
 obtain ⟨r,e1,e2⟩:=bounds_eq a0 (by omega) (fun bd hb=>(h0 bd hb).v)
 unfold m18
 rw [guard_le (by show 0+a0.length≤_;omega),guard_le (by rw [List.length_singleton];omega),n1,n2]
 simp only [Option.bind_some,cond_false]
 rw [init_eq,Option.bind_some,e1,Option.bind_some]
 rcases e2 with ⟨rfl,e3⟩ | ⟨s,rfl,e3,e4,e5⟩
 ·exact ⟨_,rfl,.inl ⟨rfl,e3⟩⟩
 ·have hhi:=h1.v.hi
  have hlo:=h1.v.lo
  have hll:=h1.v.ll
  have hlh:=h1.v.lh
  have ref:∀ {p:Lvl} {b:Bool},(b=true↔∃ x,Nt x∧Sol x s∧∀ o∈partsL a1.hi,pv x o+1≤pv x p)→(b=true↔Refp a0 a1 p):=by
   intro p b hb
   refine hb.trans ⟨fun ⟨x,q1,q2,q3⟩=>⟨x,q1,((e5 x).1 q2).2,q3⟩,fun ⟨x,q1,q2,q3⟩=>⟨x,q1,(e5 x).2 ⟨M0_sol q1,q2⟩,q3⟩⟩
  have vars:∃ r,loopN (m18_l5 a1 s) FUEL 0=some r∧((r=.inl ()∧∀ v∈a1.lo.vs,¬ Refp a0 a1 ⟨0,[v]⟩)∨(r=.inr (.inr ())∧∃ v∈a1.lo.vs,Refp a0 a1 ⟨0,[v]⟩)):=by
   refine loop_all (step:=m18_l5 a1 s) a1.lo.vs (fun i (_:Unit)=>i) (fun a _=>∀ v∈a,¬ Refp a0 a1 ⟨0,[v]⟩) (fun r=>(r=.inl ()∧∀ v∈a1.lo.vs,¬ Refp a0 a1 ⟨0,[v]⟩)∨(r=.inr (.inr ())∧∃ v∈a1.lo.vs,Refp a0 a1 ⟨0,[v]⟩)) hll
    (fun a v b s0 e hI=>?_) (fun s0 hI=>⟨.inl (),by unfold m18_l5;rw [lt_end];rfl,.inl ⟨rfl,hI⟩⟩) () (fun v hv=>by cases hv)
   have hvm:v∈a1.lo.vs:=by rw [e];simp
   obtain ⟨b',g1,g2⟩:=ref_gen a1.hi ⟨0,[v]⟩ hhi (hlo.var hvm) hlh (step:=m18_l4 a1 v) (fun a u b s' e=>by
    unfold m18_l4
    dsimp only
    rw [e,lt_mid,idx_mid]
    simp only [cond_true,Option.bind_some,bs]
    rfl) (fun s'=>by unfold m18_l4;dsimp only;rw [lt_end];rfl) s e4
   have hstep:m18_l5 a1 s (a.length:Int)=some (cond b' (.done (.inr (.inr ()))) (.next (w64 ((a.length:Int)+1)))):=by
    unfold m18_l5
    rw [show decide ((a.length:Int) < (a1.lo.vs.length:Int))=true from by rw [e];exact lt_mid a v b,show idx a1.lo.vs (a.length:Int)=some v from by rw [e];exact idx_mid a v b]
    simp only [cond_true,Option.bind_some,bs]
    have g1':=g1
    simp only [← dem29] at g1'
    rw [g1']
    cases b' <;> rfl
   cases hb':b' with
   | true =>
    rw [hb'] at hstep
    exact .inl ⟨_,hstep,.inr ⟨Z,v,hvm,(ref g2).1 hb'⟩⟩
   | false =>
    rw [hb'] at hstep
    refine .inr ⟨(),hstep,fun u hu=>?_⟩
    rcases List.mem_append.1 hu with hu | hu
    ·exact hI u hu
    ·rw [List.mem_singleton.1 hu]
     intro hr
     have:=(ref g2).2 hr
     rw [hb'] at this
     cases this
  obtain ⟨rv,v1,v2⟩:=vars
  obtain ⟨bc,c1,c2⟩:=ref_gen a1.hi ⟨a1.lo.c,[]⟩ hhi (.inl ⟨rfl,hlo.1,hlo.2.1⟩) hlh (step:=m18_l6 a1) (fun a u b s' e=>by
    unfold m18_l6
    dsimp only
    rw [e,lt_mid,idx_mid]
    simp only [cond_true,Option.bind_some,bs]
    rfl) (fun s'=>by unfold m18_l6;dsimp only;rw [lt_end];rfl) s e4
  have c1':=c1
  simp only [← dem27] at c1'
  simp only [Sum.elim_inl,bs,Option.bind_some]
  rw [c1',len0 a1.lo.vs]
  have fin:∀ X:Unit⊕Unit,(X=.inr ()→∃ p∈partsL a1.lo,Refp a0 a1 p)→(X=.inl ()→∀ p∈partsL a1.lo,Refp a0 a1 p→∃ v∈a1.lo.vs,p=⟨0,[v]⟩) →
    ∃ r,Option.bind (Option.bind (some X) (Sum.elim (fun (v15:Unit)=>Option.bind (loopN (m18_l5 a1 s) FUEL 0) (Sum.elim (fun (o17:Unit)=>some (.inl ())) (fun o=>some o))) (fun (v16:Unit)=>some (.inr ())))) (Sum.elim (fun (y11:Unit)=>some (true,(0:Int))) (fun (y12:Unit)=>some (false,0)))=some r ∧
     ((r=(false,1)∧¬ ∀ bd∈a0,one1 bd)∨((∀ bd∈a0,one1 bd)∧∃ b:Bool,r=(b,0)∧(b=false↔∃ p∈partsL a1.lo,Refp a0 a1 p))):=by
   intro X hX1 hX2
   cases X with
   | inr u=>exact ⟨_,rfl,.inr ⟨e3,false,rfl,fun _=>hX1 rfl,fun _=>rfl⟩⟩
   | inl u =>
    simp only [Option.bind_some,Sum.elim_inl]
    rw [v1,Option.bind_some]
    rcases v2 with ⟨rfl,v3⟩ | ⟨rfl,v,v3,v4⟩
    ·refine ⟨_,rfl,.inr ⟨e3,true,rfl,fun h=>(by cases h),fun ⟨p,hp,hr⟩=>?_⟩⟩
     obtain ⟨v,hv,rfl⟩:=hX2 rfl p hp hr
     exact (v3 v hv hr).elim
    ·exact ⟨_,rfl,.inr ⟨e3,false,rfl,fun _=>⟨_,by unfold partsL;exact List.mem_append_right _ (List.mem_map.2 ⟨v,v3,rfl⟩),v4⟩,fun _=>rfl⟩⟩
  have hvar:∀ p,p∈a1.lo.vs.map (fun v=>(⟨0,[v]⟩:Lvl))→∃ v∈a1.lo.vs,p=⟨0,[v]⟩:=fun p hp=>by
   obtain ⟨v,hv,rfl⟩:=List.mem_map.1 hp
   exact ⟨v,hv,Z⟩
  have hconst:(0 < a1.lo.c∨a1.lo.vs=[])→∃ r,Option.bind (Option.bind (Option.bind (some (cond bc (Sum.inr ():Unit⊕Unit) (Sum.inl ()))) (Sum.elim (fun (y18:Unit)=>some (Sum.inl ():Unit⊕Unit)) (fun (y19:Unit)=>some (Sum.inr ())))) (Sum.elim (fun (v15:Unit)=>Option.bind (loopN (m18_l5 a1 s) FUEL 0) (Sum.elim (fun (o17:Unit)=>some (.inl ())) (fun o=>some o))) (fun (v16:Unit)=>some (.inr ())))) (Sum.elim (fun (y11:Unit)=>some (true,(0:Int))) (fun (y12:Unit)=>some (false,0)))=some r ∧
     ((r=(false,1)∧¬ ∀ bd∈a0,one1 bd)∨((∀ bd∈a0,one1 bd)∧∃ b:Bool,r=(b,0)∧(b=false↔∃ p∈partsL a1.lo,Refp a0 a1 p))):=by
   intro hc
   have hmem:(⟨a1.lo.c,[]⟩:Lvl)∈partsL a1.lo:=by unfold partsL;rw [if_pos hc];simp
   cases hb:bc with
   | true=>exact fin (.inr ()) (fun _=>⟨_,hmem,(ref c2).1 hb⟩) (fun h=>by cases h)
   | false =>
    refine fin (.inl ()) (fun h=>by cases h) (fun _ p hp hr=>?_)
    unfold partsL at hp
    rw [if_pos hc] at hp
    rcases List.mem_append.1 hp with hp | hp
    ·rw [List.mem_singleton.1 hp] at hr
     have:=(ref c2).2 hr
     rw [hb] at this
     cases this
    ·exact hvar p hp
  by_cases hc1:0 < a1.lo.c
  ·rw [decide_eq_true hc1]
   exact hconst (.inl hc1)
  ·rw [decide_eq_false hc1]
   by_cases hc2:a1.lo.vs=[]
   ·rw [decide_eq_true hc2]
    exact hconst (.inr hc2)
   ·rw [decide_eq_false hc2]
    refine fin (.inl ()) (fun h=>by cases h) (fun _ p hp _=>?_)
    unfold partsL at hp
    rw [if_neg (by rintro (h | h) <;> contradiction)] at hp
    exact hvar p hp
end Go.Proofs.Ytkimijmiphkddaa
namespace Go.Proofs.Ytkimijmiphkddaa
open Go.RowKit Go.Shelf
def val (x:Nat→Int) (L:Lvl):Int:=L.vs.foldl (fun m v=>max m (v.2+x (v.1.toNat+1))) L.c
theorem fold_le (f:LV→Int) (t:Int):∀ (l:List LV) (c:Int),l.foldl (fun m v=>max m (f v)) c≤t↔c≤t∧∀ v∈l,f v≤t
 | [],c=>⟨fun h=>⟨h,fun v hv=>by cases hv⟩,fun h=>h.1⟩
 | v::l,c=>by
  rw [List.foldl_cons,fold_le f t l]
  constructor
  ·rintro ⟨h1,h2⟩
   refine ⟨by omega,fun u hu=>?_⟩
   rcases List.mem_cons.1 hu with rfl | hu
   ·omega
   ·exact h2 u hu
  ·rintro ⟨h1,h2⟩
   have:=h2 v (List.mem_cons_self ..)
   exact ⟨by omega,fun u hu=>h2 u (List.mem_cons_of_mem _ hu)⟩
theorem val_le {x:Nat→Int} {L:Lvl} {t:Int} (hx:Nt x) (hL:LvV L):(∀ p∈partsL L,pv x p≤t)↔val x L≤t:=by
 unfold val
 rw [fold_le]
 have hv:∀ v:LV,pv x ⟨0,[v]⟩=v.2+x (v.1.toNat+1):=fun v=>rfl
 have hc:pv x ⟨L.c,[]⟩=L.c:=by show L.c+x 0=L.c;rw [hx.1];omega
 constructor
 ·intro h
  have h2:∀ v∈L.vs,v.2+x (v.1.toNat+1)≤t:=fun v hvm=>by
   have:=h ⟨0,[v]⟩ (by unfold partsL;exact List.mem_append_right _ (List.mem_map.2 ⟨v,hvm,rfl⟩))
   rw [hv] at this;exact this
  refine ⟨?_,h2⟩
  by_cases c:0 < L.c∨L.vs=[]
  ·have:=h ⟨L.c,[]⟩ (by unfold partsL;rw [if_pos c];simp)
   rw [hc] at this;exact this
  ·cases hvs:L.vs with
   | nil=>exact (c (.inr hvs)).elim
   | cons v l =>
    have hvm:v∈L.vs:=by rw [hvs];exact List.mem_cons_self ..
    have h3:=h2 v hvm
    obtain ⟨a1,a2,a3,a4⟩:=hL.2.2 v hvm
    have h4:=hx.2 (v.1.toNat+1) (by omega)
    have h5:=hL.1
    omega
 ·rintro ⟨h1,h2⟩ p hp
  unfold partsL at hp
  rcases List.mem_append.1 hp with hp | hp
  ·split at hp
   ·rw [List.mem_singleton.1 hp,hc];exact h1
   ·cases hp
  ·obtain ⟨v,hvm,rfl⟩:=List.mem_map.1 hp
   rw [hv];exact h2 v hvm
theorem holds_val {x:Nat→Int} {bd:Bnd} (hx:Nt x) (hl:LvV bd.lo) (hh:LvV bd.hi) (h1:one1 bd):holdsB x bd↔val x bd.lo≤val x bd.hi:=by
 obtain ⟨h,hp⟩:∃ h,partsL bd.hi=[h]:=List.length_eq_one_iff.1 h1
 have e:val x bd.hi=pv x h:=by
  have e1:=(val_le (t:=pv x h) hx hh).1 (fun p hp'=>by rw [hp] at hp';rw [List.mem_singleton.1 hp'];omega)
  have e2:=(val_le (t:=val x bd.hi) hx hh).2 (Int.le_refl _) h (by rw [hp];simp)
  omega
 rw [e,← val_le hx hl]
 unfold holdsB
 rw [hp]
 exact ⟨fun h2 p hp'=>h2 h (by simp) p hp',fun h2 h' hh' p hp'=>by rw [List.mem_singleton.1 hh'];exact h2 p hp'⟩
theorem ref_val {x:Nat→Int} {b:Bnd} (hx:Nt x) (hl:LvV b.lo) (hh:LvV b.hi):(∃ p∈partsL b.lo,∀ o∈partsL b.hi,pv x o+1≤pv x p)↔val x b.hi < val x b.lo:=by
 constructor
 ·rintro ⟨p,hp,h⟩
  have e1:=(val_le (t:=pv x p - 1) hx hh).1 (fun o ho=>by have:=h o ho;omega)
  have e2:=(val_le (t:=val x b.lo) hx hl).2 (Int.le_refl _) p hp
  omega
 ·intro h
  refine Classical.byContradiction fun hn=>?_
  have:val x b.lo≤val x b.hi:=(val_le hx hl).1 fun p hp=>Int.not_lt.1 fun hlt=>hn ⟨p,hp,fun o ho=>by
   have:=(val_le (t:=val x b.hi) hx hh).2 (Int.le_refl _) o ho
   omega⟩
  omega
def LvS (L:Lvl):Prop:=0≤L.c∧L.c≤3∧∀ v∈L.vs,0≤v.1∧v.1≤2∧0≤v.2∧v.2≤3
theorem LvS.v {L:Lvl} (h:LvS L):LvV L:=⟨h.1,by have:=h.2.1;omega,fun v hv=>by have:=h.2.2 v hv;omega⟩
theorem LvS.pt {L:Lvl} (h:LvS L) {p:Lvl} (hp:p∈partsL L):ptI p < 4∧0≤ptP p∧ptP p≤3:=by
 unfold partsL at hp
 rcases List.mem_append.1 hp with hp | hp
 ·split at hp
  ·rw [List.mem_singleton.1 hp];exact ⟨by show 0 < 4;omega,h.1,h.2.1⟩
  ·cases hp
 ·obtain ⟨v,hv,rfl⟩:=List.mem_map.1 hp
  obtain ⟨h1,h2,h3,h4⟩:=h.2.2 v hv
  exact ⟨by show v.1.toNat+1 < 4;omega,h3,h4⟩
def cntS (a b c:Nat):Nat→Nat
 | 0=>0
 | n+1=>cntS a b c n+(if n < 5∨(a≤n∧n < a+5)∨(b≤n∧n < b+5)∨(c≤n∧n < c+5) then 1 else 0)
theorem cntS_le (a b c n:Nat):∀ k,cntS a b c n≤cntS a b c (n+k)∧cntS a b c (n+k)≤cntS a b c n+k
 | 0=>⟨Nat.le_refl _,Nat.le_refl _⟩
 | k+1=>by
  obtain ⟨h1,h2⟩:=cntS_le a b c n k
  show _≤cntS a b c (n+k)+_∧cntS a b c (n+k)+_≤_
  split <;> omega
theorem cntS_run (a b c n:Nat) (hn:n=0∨n=a∨n=b∨n=c):∀ k,k≤5→cntS a b c (n+k)=cntS a b c n+k
 | 0,_=>rfl
 | k+1,hk=>by
  have h1:=cntS_run a b c n hn k (by omega)
  have h2:n+k < 5∨(a≤n+k∧n+k < a+5)∨(b≤n+k∧n+k < b+5)∨(c≤n+k∧n+k < c+5):=by
   rcases hn with h | h | h | h
   ·exact .inl (by omega)
   ·exact .inr (.inl (by omega))
   ·exact .inr (.inr (.inl (by omega)))
   ·exact .inr (.inr (.inr (by omega)))
  show cntS a b c (n+k)+(if n+k < 5∨(a≤n+k∧n+k < a+5)∨(b≤n+k∧n+k < b+5)∨(c≤n+k∧n+k < c+5) then 1 else 0)=_
  rw [if_pos h2,h1];rfl
def mn5 (a n:Nat):Nat:=if n≤a then 0 else if n < a+5 then n - a else 5
theorem mn5_le (a n:Nat):mn5 a n≤mn5 a (n+1):=by unfold mn5;split <;> split <;> (try split) <;> (try split) <;> omega
theorem mn5_in (a n:Nat) (h1:a≤n) (h2:n < a+5):mn5 a (n+1)=mn5 a n+1:=by unfold mn5;split <;> split <;> (try split) <;> (try split) <;> omega
theorem mn5_5 (a n:Nat):mn5 a n≤5:=by unfold mn5;split <;> (try split) <;> omega
theorem mn5_0 (a:Nat):mn5 a a=0:=by unfold mn5;rw [if_pos (Nat.le_refl _)]
theorem cntS_bd (a b c:Nat):∀ n,cntS a b c n≤mn5 0 n+mn5 a n+mn5 b n+mn5 c n
 | 0=>Nat.zero_le _
 | n+1=>by
  have h1:=cntS_bd a b c n
  have m0:=mn5_le 0 n
  have ma:=mn5_le a n
  have mb:=mn5_le b n
  have mc:=mn5_le c n
  show cntS a b c n+_≤_
  split
  ·rename_i h
   rcases h with h | h | h | h
   ·have:=mn5_in 0 n (by omega) (by omega);omega
   ·have:=mn5_in a n h.1 h.2;omega
   ·have:=mn5_in b n h.1 h.2;omega
   ·have:=mn5_in c n h.1 h.2;omega
  ·omega
def xN (x:Nat→Int) (i:Nat):Nat:=(x i).toNat
def yS (x:Nat→Int) (i:Nat):Int:=if i < 4 then (cntS (xN x 1) (xN x 2) (xN x 3) (xN x i):Int) else 0
theorem yS_diff {x:Nat→Int} (hx:Nt x) {i j:Nat} (hi:i < 4) (hj:j < 4) {w:Int} (h0:-4≤w) (h1:w≤3) (h:x i - x j≤w):yS x i - yS x j≤w:=by
 have ei:x i=(xN x i:Int):=by have:=hx.2 i (by omega);unfold xN;omega
 have ej:x j=(xN x j:Int):=by have:=hx.2 j (by omega);unfold xN;omega
 have e0:xN x 0=0:=by unfold xN;rw [hx.1];rfl
 have hn:xN x i=0∨xN x i=xN x 1∨xN x i=xN x 2∨xN x i=xN x 3:=by
  have:i=0∨i=1∨i=2∨i=3:=by omega
  rcases this with rfl | rfl | rfl | rfl
  ·exact .inl e0
  ·exact .inr (.inl rfl)
  ·exact .inr (.inr (.inl rfl))
  ·exact .inr (.inr (.inr rfl))
 unfold yS
 rw [if_pos hi,if_pos hj]
 by_cases c:xN x j≤xN x i
 ·obtain ⟨k,hk⟩:=Nat.exists_eq_add_of_le c
  have:=cntS_le (xN x 1) (xN x 2) (xN x 3) (xN x j) k
  rw [← hk] at this
  omega
 ·obtain ⟨k,hk⟩:=Nat.exists_eq_add_of_le (show xN x i≤xN x j by omega)
  have t1:=cntS_le (xN x 1) (xN x 2) (xN x 3) (xN x i) k
  rw [← hk] at t1
  by_cases c5:k≤5
  ·have t2:=cntS_run (xN x 1) (xN x 2) (xN x 3) (xN x i) hn k c5
   rw [← hk] at t2
   omega
  ·have t2:=cntS_run (xN x 1) (xN x 2) (xN x 3) (xN x i) hn 5 (by omega)
   have t3:=cntS_le (xN x 1) (xN x 2) (xN x 3) (xN x i+5) (k - 5)
   rw [show xN x i+5+(k - 5)=xN x j by omega] at t3
   omega
theorem yS_nt {x:Nat→Int} (hx:Nt x):Nt (yS x)∧∀ i,1≤i→i < 4→yS x i≤15:=by
 have e0:xN x 0=0:=by unfold xN;rw [hx.1];rfl
 refine ⟨⟨?_,fun i _=>?_⟩,fun i h1 h4=>?_⟩
 ·unfold yS
  rw [if_pos (by omega),e0];rfl
 ·unfold yS
  split
  ·omega
  ·omega
 ·unfold yS
  rw [if_pos h4]
  have:=cntS_bd (xN x 1) (xN x 2) (xN x 3) (xN x i)
  have q0:=mn5_5 0 (xN x i)
  have q1:=mn5_5 (xN x 1) (xN x i)
  have q2:=mn5_5 (xN x 2) (xN x i)
  have q3:=mn5_5 (xN x 3) (xN x i)
  have z1:=mn5_0 (xN x 1)
  have z2:=mn5_0 (xN x 2)
  have z3:=mn5_0 (xN x 3)
  have:i=1∨i=2∨i=3:=by omega
  rcases this with rfl | rfl | rfl <;> omega
theorem yS_holds {x:Nat→Int} (hx:Nt x) {bd:Bnd} (hl:LvS bd.lo) (hh:LvS bd.hi) (h:holdsB x bd):holdsB (yS x) bd:=by
 intro o ho p hp
 have h1:=h o ho p hp
 obtain ⟨a1,a2,a3⟩:=hl.pt hp
 obtain ⟨b1,b2,b3⟩:=hh.pt ho
 unfold pv at h1 ⊢
 have:=yS_diff hx a1 b1 (w:=ptP o - ptP p) (by omega) (by omega) (by omega)
 omega
theorem yS_ref {x:Nat→Int} (hx:Nt x) {bd:Bnd} (hl:LvS bd.lo) (hh:LvS bd.hi) {p:Lvl} (hp:p∈partsL bd.lo) (h:∀ o∈partsL bd.hi,pv x o+1≤pv x p):∀ o∈partsL bd.hi,pv (yS x) o+1≤pv (yS x) p:=by
 intro o ho
 have h1:=h o ho
 obtain ⟨a1,a2,a3⟩:=hl.pt hp
 obtain ⟨b1,b2,b3⟩:=hh.pt ho
 unfold pv at h1 ⊢
 have:=yS_diff hx b1 a1 (w:=ptP p - ptP o - 1) (by omega) (by omega) (by omega)
 omega
end Go.Proofs.Ytkimijmiphkddaa
namespace Go.Proofs.Ytkimijmiphkddaa
open Go.RowKit Go.Shelf
def xs (l:List Int):Nat→Int
 | 0=>0
 | i+1=>(l[i]?).getD 0
theorem xs_get {l:List Int} {i:Nat} (h:i < l.length):l[0+i * 1]?=some (xs l (i+1)):=by
 rw [show 0+i * 1=i by omega]
 show _=some ((l[i]?).getD 0)
 rw [List.getElem?_eq_getElem h];rfl
theorem xs_nt {l:List Int} (h:∀ a∈l,0≤a):Nt (xs l):=by
 refine ⟨Z,fun i _=>?_⟩
 cases i with
 | zero=>exact Int.le_refl _
 | succ i =>
  show 0≤(l[i]?).getD 0
  cases e:l[i]? with
  | none=>exact Int.le_refl _
  | some a=>exact h a (List.mem_of_getElem? e)
theorem xs_le {l:List Int} {t:Int} (ht:0≤t) (h:∀ a∈l,a≤t) (i:Nat):xs l i≤t:=by
 cases i with
 | zero=>exact ht
 | succ i =>
  show (l[i]?).getD 0≤t
  cases e:l[i]? with
  | none=>exact ht
  | some a=>exact h a (List.mem_of_getElem? e)
theorem m21_eq (L:Lvl) (p:List Int) (hp:p.length=3) (h0:∀ a∈p,0≤a) (h1:∀ a∈p,a≤100) (hL:LvS L) (hl:L.vs.length≤900000000):m21 L p=some (val (xs p) L):=by
 unfold m21
 rw [loop_fold (step:=m21_l0 L p) L.vs (fun i (m:Int)=>(m,i)) (fun m v=>max m (v.2+xs p (v.1.toNat+1))) L.c (val (xs p) L) hl (fun a v b e=>by
  have hv:=hL.2.2 v (by rw [e];simp)
  unfold m21_l0
  dsimp only
  rw [e,lt_mid,idx_mid]
  simp only [cond_true,Option.bind_some]
  rw [decide_eq_true (show v.1 < 3 by omega),decide_eq_true hv.1]
  simp only [cond_true]
  have hb:Nat.blt v.1.toNat 3=true:=Nat.ble_eq_true_of_le (by omega)
  rw [hb,xs_get (by omega)]
  show some (LO.next (max _ (w64 (v.2+xs p (v.1.toNat+1))),w64 ((a.length:Int)+1)))=_
  have q1:=(xs_nt h0).2 (v.1.toNat+1) (by omega)
  have q2:=xs_le (by omega) h1 (v.1.toNat+1)
  rw [w64_id (n:=v.2+_) (by omega) (by omega)]) (by unfold m21_l0;dsimp only;rw [lt_end];rfl)]
 rfl
theorem m20_in (L:Lvl) (hl:L.vs.length≤900000000):∃ r,loopN (m20_l0 L) FUEL 0=some r∧(r=.inr false∨(r=.inl ()∧∀ v∈L.vs,0≤v.1∧v.1≤2∧v.2≤3)):=by
 refine loop_all (step:=m20_l0 L) L.vs (fun i (_:Unit)=>i) (fun a _=>∀ v∈a,0≤v.1∧v.1≤2∧v.2≤3) (fun r=>r=.inr false∨(r=.inl ()∧∀ v∈L.vs,0≤v.1∧v.1≤2∧v.2≤3)) hl
  (fun a v b s e hI=>?_) (fun s hI=>⟨_,by unfold m20_l0;rw [lt_end];rfl,.inr ⟨rfl,hI⟩⟩) () (fun v hv=>by cases hv)
 have hs:m20_l0 L (a.length:Int)=Option.bind (cond (decide (v.1 < 0)) (some true) (cond (decide (2 < v.1)) (some true) (some (decide (3 < v.2))))) (fun (v8:Bool)=>cond v8 (some (.done (.inr false))) (some (.next (w64 ((a.length:Int)+1))))):=by
  unfold m20_l0
  rw [show decide ((a.length:Int) < (L.vs.length:Int))=true from by rw [e];exact lt_mid a v b,show idx L.vs (a.length:Int)=some v from by rw [e];exact idx_mid a v b]
  rfl
 by_cases c1:v.1 < 0
 ·exact .inl ⟨.inr false,by rw [hs,decide_eq_true c1];rfl,.inl rfl⟩
 by_cases c2:2 < v.1
 ·exact .inl ⟨.inr false,by rw [hs,decide_eq_false c1,decide_eq_true c2];rfl,.inl rfl⟩
 by_cases c3:3 < v.2
 ·exact .inl ⟨.inr false,by rw [hs,decide_eq_false c1,decide_eq_false c2,decide_eq_true c3];rfl,.inl rfl⟩
 refine .inr ⟨(),by rw [hs,decide_eq_false c1,decide_eq_false c2,decide_eq_false c3];rfl,fun u hu=>?_⟩
 rcases List.mem_append.1 hu with hu | hu
 ·exact hI u hu
 ·rw [List.mem_singleton.1 hu];omega
structure Sm (L:Lvl):Prop where
 s:LvS L
 v:m28 L=some true
theorem m20_eq (b:Bnd) (h0:b.lo.vs.length≤900000000) (h1:b.hi.vs.length≤900000000):∃ c:Bool,m20 b=some c∧(c=true→Sm b.lo∧Sm b.hi):=by
 have hloop:∃ r,loopN (m20_l1 b) FUEL 0=some r∧(r=.inr false∨(r=.inl ()∧∀ L∈[b.lo,b.hi],Sm L)):=by
  refine loop_all (step:=m20_l1 b) [b.lo,b.hi] (fun i (_:Unit)=>i) (fun a _=>∀ L∈a,Sm L) (fun r=>r=.inr false∨(r=.inl ()∧∀ L∈[b.lo,b.hi],Sm L)) (by show 2≤_;omega)
   (fun a L t s e hI=>?_) (fun s hI=>⟨_,by unfold m20_l1;rw [lt_end];rfl,.inr ⟨rfl,hI⟩⟩) () (fun L hL=>by cases hL)
  have hll:L.vs.length≤900000000:=by
   have:L∈[b.lo,b.hi]:=by rw [e];simp
   rcases List.mem_cons.1 this with rfl | this
   ·exact h0
   ·rw [List.mem_singleton.1 this];exact h1
  obtain ⟨v,e28,e30,hv⟩:=lv_same L hll
  obtain ⟨r,i1,i2⟩:=m20_in L hll
  have hs:m20_l1 b (a.length:Int)=Option.bind (cond (!v) (some true) (some (decide (3 < L.c)))) (fun (v4:Bool)=>cond v4 (some (.done (.inr false))) (Option.bind (some r) (Sum.elim (fun (o6:Unit)=>some (.next (w64 ((a.length:Int)+1)))) (fun o=>some (.done (.inr o)))))):=by
   unfold m20_l1
   rw [show decide ((a.length:Int) < (([b.lo,b.hi]).length:Int))=true from by rw [e];exact lt_mid a L t,show idx [b.lo,b.hi] (a.length:Int)=some L from by rw [e];exact idx_mid a L t]
   simp only [cond_true,Option.bind_some]
   rw [e30,i1];rfl
  cases v with
  | false=>exact .inl ⟨.inr false,by rw [hs];rfl,.inl rfl⟩
  | true =>
   by_cases c1:3 < L.c
   ·exact .inl ⟨.inr false,by rw [hs,decide_eq_true c1];rfl,.inl rfl⟩
   rw [decide_eq_false c1] at hs
   rcases i2 with rfl | ⟨rfl,i3⟩
   ·exact .inl ⟨.inr false,by rw [hs];rfl,.inl rfl⟩
   refine .inr ⟨(),by rw [hs];rfl,fun M hM=>?_⟩
   rcases List.mem_append.1 hM with hM | hM
   ·exact hI M hM
   rw [List.mem_singleton.1 hM]
   have hp:=hv rfl
   refine ⟨⟨hp.1,by omega,fun u hu=>?_⟩,e28⟩
   obtain ⟨q1,q2,q3⟩:=i3 u hu
   obtain ⟨a',b',e'⟩:=List.append_of_mem hu
   have:=hp.2.2.2 a' u b' e'
   unfold lvBad at this
   exact ⟨q1,q2,Int.not_lt.1 fun h=>this (.inr (.inr (.inl h))),q3⟩
 obtain ⟨r,h2,h3⟩:=hloop
 unfold m20
 rw [h2]
 rcases h3 with rfl | ⟨rfl,h4⟩
 ·exact ⟨false,rfl,fun h=>by cases h⟩
 ·exact ⟨true,rfl,fun _=>⟨h4 b.lo (by simp),h4 b.hi (by simp)⟩⟩
def BdL (b:Bnd):Prop:=b.lo.vs.length≤900000000∧b.hi.vs.length≤900000000
theorem smalls_eq (a0:List Bnd) (hl:a0.length≤900000000) (h:∀ b∈a0,BdL b):∃ r,loopN (m6_l0 a0) FUEL 0=some r∧(r=.inr true∨(r=.inl ()∧∀ b∈a0,Sm b.lo∧Sm b.hi)):=by
 refine loop_all (step:=m6_l0 a0) a0 (fun i (_:Unit)=>i) (fun a _=>∀ b∈a,Sm b.lo∧Sm b.hi) (fun r=>r=.inr true∨(r=.inl ()∧∀ b∈a0,Sm b.lo∧Sm b.hi)) hl
  (fun a x b s e hI=>?_) (fun s hI=>⟨_,by unfold m6_l0;rw [lt_end];rfl,.inr ⟨rfl,hI⟩⟩) () (fun v hv=>by cases hv)
 have hx:=h x (by rw [e];simp)
 obtain ⟨c,e1,e2⟩:=m20_eq x hx.1 hx.2
 have hs:m6_l0 a0 (a.length:Int)=cond (!c) (some (.done (.inr true))) (some (.next (w64 ((a.length:Int)+1)))):=by
  unfold m6_l0
  rw [show decide ((a.length:Int) < (a0.length:Int))=true from by rw [e];exact lt_mid a x b,show idx a0 (a.length:Int)=some x from by rw [e];exact idx_mid a x b]
  simp only [cond_true,Option.bind_some]
  rw [e1];rfl
 cases c with
 | false=>exact .inl ⟨.inr true,by rw [hs];rfl,.inl rfl⟩
 | true =>
  refine .inr ⟨(),by rw [hs];rfl,fun y hy=>?_⟩
  rcases List.mem_append.1 hy with hy | hy
  ·exact hI y hy
  ·rw [List.mem_singleton.1 hy];exact e2 rfl
def pN (k:Nat):List Int:=[((k % 17:Nat):Int),((k / 17 % 17:Nat):Int),((k / 289:Nat):Int)]
theorem pN_len (k:Nat):(pN k).length=3:=rfl
theorem pN_eq {k:Nat} (h:k < 4913):([(Int.tmod (k:Int) 17),(Int.tmod (w64 (Int.tdiv (k:Int) 17)) 17),(w64 (Int.tdiv (k:Int) 289))]:List Int)=pN k:=by
 have e1:Int.tdiv (k:Int) 17=((k / 17:Nat):Int):=rfl
 have e2:Int.tdiv (k:Int) 289=((k / 289:Nat):Int):=rfl
 have h1:=Nat.div_le_self k 17
 have h2:=Nat.div_le_self k 289
 rw [e1,e2,w64_id (n:=((k / 17:Nat):Int)) (by omega) (by omega),w64_id (n:=((k / 289:Nat):Int)) (by omega) (by omega)]
 rfl
theorem pN_bd {k:Nat} (h:k < 4913):∀ a∈pN k,0≤a∧a≤16:=by
 intro a ha
 unfold pN at ha
 simp only [List.mem_cons,List.mem_nil_iff,or_false] at ha
 rcases ha with rfl | rfl | rfl <;> omega
def Goodk (a0:List Bnd) (a1:Bnd) (k:Nat):Prop:=val (xs (pN k)) a1.hi < val (xs (pN k)) a1.lo∧∀ bd∈a0,val (xs (pN k)) bd.lo≤val (xs (pN k)) bd.hi
structure SmB (b:Bnd):Prop where
 lo:LvS b.lo
 hi:LvS b.hi
 l:BdL b
theorem trial_eq (a0:List Bnd) (a1:Bnd) (hl:a0.length≤900000000) (h0:∀ b∈a0,SmB b) (h1:SmB a1) (k:Nat) (hk:k < 4913) (ini:Bool) (P:Prop) (hi:ini=true↔P) :
  ∃ r:Bool,loopN (m6_l1 a0 (k:Int)) FUEL (ini,0)=some r∧(r=true↔(P∧∀ bd∈a0,val (xs (pN k)) bd.lo≤val (xs (pN k)) bd.hi)):=by
 have hb:=pN_bd hk
 refine loop_all (step:=m6_l1 a0 (k:Int)) a0 (fun i (s:Bool)=>(s,i)) (fun a s=>s=true↔(P∧∀ bd∈a,val (xs (pN k)) bd.lo≤val (xs (pN k)) bd.hi)) (fun r=>r=true↔(P∧∀ bd∈a0,val (xs (pN k)) bd.lo≤val (xs (pN k)) bd.hi)) hl
  (fun a x b s e hI=>?_) (fun s hI=>⟨s,by unfold m6_l1;dsimp only;rw [lt_end];rfl,hI⟩) ini (hi.trans ⟨fun h=>⟨h,fun bd hbd=>by cases hbd⟩,fun h=>h.1⟩)
 have hx:=h0 x (by rw [e];simp)
 have hs:m6_l1 a0 (k:Int) (s,(a.length:Int))=cond s (some (.next (decide (val (xs (pN k)) x.lo≤val (xs (pN k)) x.hi),w64 ((a.length:Int)+1)))) (some (.done s)):=by
  unfold m6_l1
  dsimp only
  rw [show decide ((a.length:Int) < (a0.length:Int))=true from by rw [e];exact lt_mid a x b,show idx a0 (a.length:Int)=some x from by rw [e];exact idx_mid a x b]
  simp only [cond_true,Option.bind_some]
  rw [pN_eq hk,guard_eq (pN_len k),m21_eq x.lo (pN k) rfl (fun a ha=>(hb a ha).1) (fun a ha=>by have:=(hb a ha).2;omega) hx.lo hx.l.1,Option.bind_some,guard_eq (pN_len k),m21_eq x.hi (pN k) rfl (fun a ha=>(hb a ha).1) (fun a ha=>by have:=(hb a ha).2;omega) hx.hi hx.l.2]
  rfl
 cases s with
 | false =>
  refine .inl ⟨false,by rw [hs];rfl,⟨fun h=>(by cases h),fun h=>hI.2 ⟨h.1,fun bd hbd=>h.2 bd (by rw [e];exact List.mem_append_left _ hbd)⟩⟩⟩
 | true =>
  refine .inr ⟨_,by rw [hs];rfl,?_⟩
  rw [decide_eq_true_eq]
  constructor
  ·intro h
   refine ⟨(hI.1 Z).1,fun bd hbd=>?_⟩
   rcases List.mem_append.1 hbd with hbd | hbd
   ·exact (hI.1 rfl).2 bd hbd
   ·rw [List.mem_singleton.1 hbd];exact h
  ·intro h
   exact h.2 x (by simp)
theorem search_eq (a0:List Bnd) (a1:Bnd) (x4:Bool×Int) (hl:a0.length≤900000000) (h0:∀ b∈a0,SmB b) (h1:SmB a1) :
  ∃ r,loopN (m6_l2 a1 a0 x4) FUEL 0=some r∧((r=.inr (!x4.1)∧∃ k,k < 4913∧Goodk a0 a1 k)∨(r=.inl ()∧∀ k,k < 4913→¬ Goodk a0 a1 k)):=by
 refine loop_all (step:=m6_l2 a1 a0 x4) (List.range 4913) (fun i (_:Unit)=>i) (fun a _=>∀ k,k < a.length→¬ Goodk a0 a1 k) (fun r=>((r=.inr (!x4.1)∧∃ k,k < 4913∧Goodk a0 a1 k)∨(r=.inl ()∧∀ k,k < 4913→¬ Goodk a0 a1 k))) (by rw [List.length_range];omega)
  (fun a x b s e hI=>?_) (fun s hI=>⟨.inl (),by rw [List.length_range];rfl,.inr ⟨rfl,fun k hk=>hI k (by rw [List.length_range];exact hk)⟩⟩) () (fun k hk=>by cases hk)
 have hk:a.length < 4913:=by have:=mid_lt e;rw [List.length_range] at this;exact this
 have hb:=pN_bd hk
 obtain ⟨r,t1,t2⟩:=trial_eq a0 a1 hl h0 h1 a.length hk (decide (val (xs (pN a.length)) a1.hi < val (xs (pN a.length)) a1.lo)) _ decide_eq_true_iff
 have hs:m6_l2 a1 a0 x4 (a.length:Int)=cond r (some (.done (.inr (!x4.1)))) (some (.next (w64 ((a.length:Int)+1)))):=by
  unfold m6_l2
  rw [decide_eq_true (show (a.length:Int) < 4913 by omega),cond_true,guard_eq (by rw [List.length_replicate]),pN_eq hk,guard_eq (pN_len _),guard_eq (pN_len _),m21_eq a1.lo (pN a.length) rfl (fun a ha=>(hb a ha).1) (fun a ha=>by have:=(hb a ha).2;omega) h1.lo h1.l.1,Option.bind_some,guard_eq (pN_len _),m21_eq a1.hi (pN a.length) rfl (fun a ha=>(hb a ha).1) (fun a ha=>by have:=(hb a ha).2;omega) h1.hi h1.l.2,Option.bind_some,t1]
  rfl
 cases r with
 | true=>exact .inl ⟨.inr (!x4.1),by rw [hs];rfl,.inl ⟨rfl,a.length,hk,t2.1 rfl⟩⟩
 | false =>
  refine .inr ⟨(),by rw [hs];rfl,fun k hk'=>?_⟩
  rw [List.length_append,List.length_singleton] at hk'
  by_cases c:k=a.length
  ·rw [c]
   intro hg
   have:=t2.2 hg
   cases this
  ·exact hI k (by omega)
theorem pN_of (y:Nat→Int) (hy:Nt y) (h:∀ i,1≤i→i < 4→y i≤15):∃ k,k < 4913∧∀ i,i < 4→xs (pN k) i=y i:=by
 have n1:=hy.2 1 (by omega)
 have n2:=hy.2 2 (by omega)
 have n3:=hy.2 3 (by omega)
 have b1:=h 1 (by omega) (by omega)
 have b2:=h 2 (by omega) (by omega)
 have b3:=h 3 (by omega) (by omega)
 obtain ⟨k1,e1⟩:∃ k:Nat,y 1=k:=⟨(y 1).toNat,by omega⟩
 obtain ⟨k2,e2⟩:∃ k:Nat,y 2=k:=⟨(y 2).toNat,by omega⟩
 obtain ⟨k3,e3⟩:∃ k:Nat,y 3=k:=⟨(y 3).toNat,by omega⟩
 refine ⟨k1+17 * k2+289 * k3,by omega,fun i hi=>?_⟩
 have:i=0∨i=1∨i=2∨i=3:=by omega
 rcases this with rfl | rfl | rfl | rfl
 ·exact hy.1.symm
 ·rw [e1];show (((k1+17 * k2+289 * k3) % 17:Nat):Int)=_;omega
 ·rw [e2];show (((k1+17 * k2+289 * k3) / 17 % 17:Nat):Int)=_;omega
 ·rw [e3];show (((k1+17 * k2+289 * k3) / 289:Nat):Int)=_;omega
theorem fold_cg (f g:LV→Int):∀ (l:List LV) (c:Int),(∀ v∈l,f v=g v)→l.foldl (fun m v=>max m (f v)) c=l.foldl (fun m v=>max m (g v)) c
 | [],c,_=>rfl
 | v::l,c,h=>by
  rw [List.foldl_cons,List.foldl_cons,h v (List.mem_cons_self ..)]
  exact fold_cg f g l _ (fun u hu=>h u (List.mem_cons_of_mem _ hu))
theorem val_cg {x y:Nat→Int} {L:Lvl} (hL:LvS L) (h:∀ i,i < 4→x i=y i):val x L=val y L:=by
 unfold val
 exact fold_cg _ _ L.vs L.c (fun v hv=>by have:=hL.2.2 v hv;rw [h _ (by omega)])
theorem good_iff (a0:List Bnd) (a1:Bnd) (h0:∀ b∈a0,SmB b) (h1:SmB a1) (hone:∀ bd∈a0,one1 bd):(∃ k,k < 4913∧Goodk a0 a1 k)↔∃ p∈partsL a1.lo,Refp a0 a1 p:=by
 constructor
 ·rintro ⟨k,hk,g1,g2⟩
  have hn:=xs_nt (fun a ha=>(pN_bd hk a ha).1)
  obtain ⟨p,hp,h2⟩:=(ref_val hn h1.lo.v h1.hi.v).2 g1
  exact ⟨p,hp,_,hn,fun bd hbd=>(holds_val hn (h0 bd hbd).lo.v (h0 bd hbd).hi.v (hone bd hbd)).2 (g2 bd hbd),h2⟩
 ·rintro ⟨p,hp,x,hx,h2,h3⟩
  obtain ⟨y1,y2⟩:=yS_nt hx
  obtain ⟨k,hk,e⟩:=pN_of (yS x) y1 y2
  refine ⟨k,hk,?_,fun bd hbd=>?_⟩
  ·rw [val_cg h1.lo e,val_cg h1.hi e]
   exact (ref_val y1 h1.lo.v h1.hi.v).1 ⟨p,hp,yS_ref hx h1.lo h1.hi hp h3⟩
  ·have hb:=h0 bd hbd
   rw [val_cg hb.lo e,val_cg hb.hi e]
   exact (holds_val y1 hb.lo.v hb.hi.v (hone bd hbd)).1 (yS_holds hx hb.lo hb.hi (h2 bd hbd))
theorem m6_true (a0:List Bnd) (a1:Bnd) (h0:∀ b∈a0,BdL b) (h1:BdL a1):m6 a0 a1=some true:=by
 unfold m6
 by_cases c:4 < (a0.length:Int)
 ·rw [decide_eq_true c];rfl
 rw [decide_eq_false c]
 have hl:a0.length≤900000000:=by omega
 obtain ⟨b,e1,e2⟩:=m20_eq a1 h1.1 h1.2
 rw [cond_false,e1,Option.bind_some]
 cases b with
 | false=>rfl
 | true =>
  obtain ⟨r,e3,e4⟩:=smalls_eq a0 hl h0
  rw [e3]
  rcases e4 with rfl | ⟨rfl,e5⟩
  ·rfl
  ·have q:∀ b,BdL b→Sm b.lo∧Sm b.hi→BdE b∧SmB b:=fun b hb hs=>⟨⟨⟨hs.1.s.v,hs.2.s.v,hb.1,hb.2⟩,hs.1.v,hs.2.v⟩,⟨hs.1.s,hs.2.s,hb⟩⟩
   have q1:=q a1 h1 (e2 rfl)
   obtain ⟨x4,f1,f2⟩:=entails_eq a0 a1 (by omega) (fun bd hb=>(q bd (h0 bd hb) (e5 bd hb)).1) q1.1
   obtain ⟨rs,s1,s2⟩:=search_eq a0 a1 x4 hl (fun bd hb=>(q bd (h0 bd hb) (e5 bd hb)).2) q1.2
   simp only [Option.bind_some,Bool.not_true,cond_false,Sum.elim_inl]
   rw [f1,Option.bind_some]
   rcases f2 with ⟨rfl,_⟩ | ⟨hone,b,rfl,hb⟩
   ·rfl
   ·have hg:=good_iff a0 a1 (fun bd hb=>(q bd (h0 bd hb) (e5 bd hb)).2) q1.2 hone
    show Option.bind (loopN (m6_l2 a1 a0 (b,0)) FUEL 0) _=_
    rw [s1,Option.bind_some]
    rcases s2 with ⟨rfl,s3⟩ | ⟨rfl,s3⟩
    ·have:b=false:=hb.2 (hg.1 s3)
     rw [this];rfl
    ·cases b with
     | true=>rfl
     | false =>
      obtain ⟨k,hk,g⟩:=hg.2 (hb.1 rfl)
      exact (s3 k hk g).elim
end Go.Proofs.Ytkimijmiphkddaa
namespace Go.Proofs.Ytkimijmiphkddaa
open Go.RowKit Go.ChangeShapes Go.WideShapes
def allS (w:World):Nat→Nat→Prop:=fun b _=>b < w.heap.size
def RC (w:World) (e:List C) (cs:List Value):Prop:=cs.length=e.length∧∀ (j:Nat) (c:C),e[j]?=some c→∃ u,cs[j]?=some u∧Reads (allS w) w c u
theorem RC.app {w:World} {e0 e1:List C} {cs:List Value} (h0:RC w e0 (cs.take e0.length)) (h1:RC w e1 (cs.drop e0.length)) (hl:cs.length=e0.length+e1.length):RC w (e0++e1) cs:=by
 refine ⟨by rw [hl,List.length_append],fun j c hj=>?_⟩
 rcases Nat.lt_or_ge j e0.length with h | h
 ·rw [List.getElem?_append_left h] at hj
  obtain ⟨u,h2,h3⟩:=h0.2 j c hj
  rw [List.getElem?_take,if_pos h] at h2
  exact ⟨u,h2,h3⟩
 ·rw [List.getElem?_append_right h] at hj
  obtain ⟨u,h2,h3⟩:=h1.2 _ c hj
  rw [List.getElem?_drop,show e0.length+(j - e0.length)=j by omega] at h2
  exact ⟨u,h2,h3⟩
section
variable {H:Type} (enc:TypeId×Value→H) (P:Program) (w:World)
end
section
variable {H:Type} {enc:TypeId×Value→H} {P:Program} {w:World}
end
end Go.Proofs.Ytkimijmiphkddaa
namespace Go.Proofs.Ytkimijmiphkddaa
open Go.RowKit Go.ChangeShapes Go.WideShapes
theorem bulk_pos {H:Type} (d:DataW H):1≤Rows.uptoBulk d:=by
 cases d with
 | lit l=>cases l <;> simp [Rows.uptoBulk]
 | nil=>simp [Rows.uptoBulk]
 | ptr d=>simp [Rows.uptoBulk]
 | slice elems spare=>simp [Rows.uptoBulk]
 | agg parts=>simp [Rows.uptoBulk]
 | iface t d=>simp [Rows.uptoBulk]
 | map entries=>simp [Rows.uptoBulk]
 | held h=>simp [Rows.uptoBulk]
theorem bulk_all {H:Type}:∀ l:List (DataW H),Rows.uptoBulkAll l=(l.map Rows.uptoBulk).sum
 | []=>by simp [Rows.uptoBulkAll]
 | x::l=>by simp only [Rows.uptoBulkAll,List.map_cons,List.sum_cons,bulk_all l]
theorem RC.nil {w:World} {cs:List Value}:RC w [] (cs.take 0):=⟨by simp,fun j c h=>by cases h⟩
theorem RC.snoc {w:World} {e0 e1:List C} {cs:List Value} {m k:Nat} (h0:RC w e0 (cs.take m)) (h1:RC w e1 ((cs.drop m).take k)) (hm:e0.length=m):RC w (e0++e1) (cs.take (m+k)):=by
 have h2:=h0.1
 have h3:=h1.1
 refine RC.app ?_ ?_ ?_
 ·rw [List.take_take,hm,Nat.min_eq_left (by omega)];exact h0
 ·rw [hm,List.drop_take,Nat.add_sub_cancel_left];exact h1
 ·rw [← h3,hm]
  simp only [List.length_take,List.length_drop] at h2 ⊢
  omega
theorem sum_mem {α:Type} (f:α→Nat) {x:α}:∀ {l:List α},x∈l→f x≤(l.map f).sum
 | y::l,h=>by
  rw [List.map_cons,List.sum_cons]
  rcases List.mem_cons.1 h with rfl | h
  ·omega
  ·have:=sum_mem f h;omega
section
variable {H:Type} (enc:TypeId×Value→H) (P:Program) (w:World)
def OpensZ (N:Nat) (t:TypeId) (α:Type) [Enc α] (μ:α→Nat):Prop:=∀ (fuel:Nat) (cs:List Value) (x:DataW H×List MemPlace),DataW.trod enc P w 0 (fun _=>true) true fuel t cs=some x→Rows.uptoBulk x.1≤N→∃ v:α,RC w (Enc.enc v) cs∧μ v≤Rows.uptoBulk x.1
end
section
variable {H:Type} {enc:TypeId×Value→H} {P:Program} {w:World} {N:Nat}
theorem z_int {t:TypeId} (ht:P.underlying t=some (.int .i64)):OpensZ enc P w N t Int (fun _=>1):=by
 intro fuel cs x h hb
 obtain ⟨n,rfl,rfl,-⟩:=DataW.trod_int ht h
 refine ⟨n,⟨Z,fun j c hj=>?_⟩,bulk_pos _⟩
 cases j with
 | zero=>cases hj;exact ⟨_,rfl,Reads.v _ rfl⟩
 | succ j=>cases hj
theorem z_slice {α:Type} [Enc α] [EncLen α] {μ:α→Nat} {t e:TypeId} (ht:P.underlying t=some (.slice e)) (hc:P.cellsOf e=Enc.sz α) (ho:OpensZ enc P w N e α μ):OpensZ enc P w N t (List α) (fun l=>1+(l.map μ).sum):=by
 intro fuel cs x h hb
 rcases Deep.open_slice ht h with ⟨rfl,rfl⟩ | ⟨a,len,cap,m,n,D,Pl,rfl,-,hlc,-,hm,rfl,hel⟩
 ·refine ⟨[],⟨rfl,fun j c hj=>?_⟩,by simp [Rows.uptoBulk]⟩
  cases j with
  | zero =>
   cases hj
   refine ⟨_,Z,?_⟩
   rw [Enc.nil]
   exact .sl _ [] none 0 0 0 (fun _ _=>undef) (Nat.le_refl _) (fun h=>absurd rfl h) (fun i e h=>by simp at h) (fun i e j c h=>by simp at h) (fun i e j c h=>by simp at h) (fun i e j c h=>by simp at h)
  | succ j=>cases hj
 ·have hm':m=cap:=by rw [hm];rfl
  have hbk:((List.range len).map fun i=>Rows.uptoBulk (D i)).sum+1≤Rows.uptoBulk (DataW.slice (H:=H) ((List.range len).map D) ((List.range (m - len)).map fun j=>D (len+j))):=by
   simp only [Rows.uptoBulk,bulk_all,List.map_map]
   have:(List.map (Rows.uptoBulk ∘ D) (List.range len)).sum=((List.range len).map fun i=>Rows.uptoBulk (D i)).sum:=rfl
   omega
  dsimp only at hb
  have hD:∀ k,k < len→Rows.uptoBulk (D k)≤N:=fun k hk=>by
   have:=sum_mem (fun i=>Rows.uptoBulk (D i)) (List.mem_range.2 hk)
   omega
  have hall:∀ k,k≤len→∃ l:List α,l.length=k∧(l.map μ).sum≤((List.range k).map fun i=>Rows.uptoBulk (D i)).sum∧∀ (i:Nat) (v:α),l[i]?=some v→∃ cs',w.cells? 0 (a.add (i * Enc.sz α)) (Enc.sz α)=some cs'∧RC w (Enc.enc v) cs':=by
   intro k
   induction k with
   | zero=>intro _;exact ⟨[],rfl,Nat.le_refl _,fun i v h=>by simp at h⟩
   | succ k ih =>
    intro hk
    obtain ⟨l,h1,hsum,h2⟩:=ih (by omega)
    obtain ⟨cs',h3,h4⟩:=hel k (by omega)
    rw [hc] at h3
    obtain ⟨v,hv,hμ⟩:=ho _ _ _ h4 (hD k (by omega))
    refine ⟨l++[v],by simp [h1],?_,fun i v' hi=>?_⟩
    ·rw [List.range_succ]
     simp only [List.map_append,List.map_cons,List.map_nil,List.sum_append,List.sum_cons,List.sum_nil]
     dsimp only at hμ
     omega
    rcases Nat.lt_or_ge i l.length with h | h
    ·rw [List.getElem?_append_left h] at hi;exact h2 i v' hi
    ·rw [List.getElem?_append_right h] at hi
     have hi0:i - l.length=0:=by
      rcases Nat.eq_zero_or_pos (i - l.length) with h0 | h0
      ·exact h0
      ·rw [List.getElem?_eq_none (by simp only [List.length_singleton];omega)] at hi;cases hi
     have hik:i=k:=by omega
     rw [hi0] at hi;cases hi
     rw [hik];exact ⟨cs',h3,hv⟩
  obtain ⟨l,hl,hsum,hcells⟩:=hall len (Nat.le_refl _)
  have hpos:0 < Enc.sz α:=EncLen.pos
  have hspot:l ≠ []→a.spot=none∧a.block < w.heap.size:=by
   intro hne
   obtain ⟨v,r,rfl⟩:=List.exists_cons_of_ne_nil hne
   obtain ⟨cs',h1,h2⟩:=hcells 0 v rfl
   obtain ⟨-,h3,h4⟩:=World.cells?_some h1
   have h5:=h4 0 hpos
   rw [Nat.zero_mul,Deep.add_add,Nat.zero_add] at h5
   have h6:(cs'[0]?).isSome:=by rw [List.getElem?_eq_getElem (by omega)];rfl
   rw [← h5] at h6
   have h7:(a.add 0)=a:=by simp [Addr.add]
   rw [h7] at h6
   unfold World.cell? at h6
   split at h6
   ·rename_i c _ _ hb
    refine ⟨?_,(Array.getElem?_eq_some_iff.1 hb).1⟩
    split at h6
    ·cases h6
    ·rename_i hs
     cases hsp:a.spot with
     | none=>rfl
     | some q=>rw [hsp] at hs;exact absurd rfl hs
   ·cases h6
  have hadd:l ≠ []→∀ k,a.add k=⟨a.block,a.off+k,none⟩:=by
   intro hne k
   have h1:=(hspot hne).1
   unfold Addr.add
   split
   ·rename_i h0;subst h0
    obtain ⟨b,o,sp⟩:=a
    simp only at h1;subst h1;rfl
   ·rfl
  have hcell:∀ (i:Nat) (e':List C) (j:Nat) (c:C),(Enc.encL l)[i]?=some e'→e'[j]?=some c→∃ u,w.cell? ⟨a.block,a.off+i * Enc.sz α+j,none⟩=some u∧Reads (allS w) w c u:=by
   intro i e' j c hi hj
   rw [Enc.map,List.getElem?_map] at hi
   cases hx:l[i]? with
   | none=>rw [hx] at hi;cases hi
   | some v =>
    rw [hx] at hi;cases hi
    have hne:l ≠ []:=by intro h0;rw [h0] at hx;simp at hx
    obtain ⟨cs',h1,h2⟩:=hcells i v hx
    obtain ⟨u,h3,h4⟩:=h2.2 j c hj
    obtain ⟨-,h5,h6⟩:=World.cells?_some h1
    have hjl:j < Enc.sz α:=by have:=(List.getElem?_eq_some_iff.1 h3).1;omega
    have h7:=h6 j hjl
    rw [Deep.add_add,hadd hne,h3,← Nat.add_assoc] at h7
    exact ⟨u,h7,h4⟩
  refine ⟨l,⟨rfl,fun j c hj=>?_⟩,by dsimp only;omega⟩
  cases j with
  | succ j=>cases hj
  | zero =>
   cases hj
   refine ⟨_,Z,?_⟩
   have hR:=Reads.sl (S:=allS w) (w:=w) (Enc.sz α) (Enc.encL l) (some a) cap a.block a.off (fun i j=>(w.cell? ⟨a.block,a.off+i * Enc.sz α+j,none⟩).getD undef) (by rw [Enc.len,hl];exact hlc)
    (fun hne=>by
     have hne':l ≠ []:=by intro h0;rw [h0,Enc.nil] at hne;exact hne rfl
     have h7:(a.add 0)=a:=by simp [Addr.add]
     rw [← h7,hadd hne'])
    (fun i e' hi=>encL_lens l e' (List.mem_of_getElem? hi))
    (fun i e' j c hi hj=>by obtain ⟨u,h1,-⟩:=hcell i e' j c hi hj;rw [h1];rfl)
    (fun i e' j c hi hj=>by
     have hne:l ≠ []:=by intro h0;rw [h0,Enc.nil] at hi;simp at hi
     exact (hspot hne).2)
    (fun i e' j c hi hj=>by obtain ⟨u,h1,h2⟩:=hcell i e' j c hi hj;rw [h1];exact h2)
   rw [Enc.len,hl] at hR
   exact hR
theorem z_pos {α:Type} [Enc α] {μ:α→Nat} {t:TypeId} (h:∀ N,OpensZ enc P w N t α μ→OpensZ enc P w (N+1) t α μ):∀ N,OpensZ enc P w N t α μ
 | 0=>fun fuel cs x _ hb=>by have:=bulk_pos x.1;omega
 | N+1=>h N (z_pos h N)
end
def lvz (L:Lvl):Nat:=1+(L.vs.map fun _=>1).sum
def bdz (b:Bnd):Nat:=lvz b.lo+lvz b.hi
theorem ones {α:Type}:∀ l:List α,(l.map fun _=>1).sum=l.length
 | []=>rfl
 | x::l=>by rw [List.map_cons,List.sum_cons,ones l,List.length_cons];omega
theorem lvz_len (L:Lvl):L.vs.length≤lvz L:=by unfold lvz;rw [ones];omega
section
variable {H:Type} {enc:TypeId×Value→H} {w:World} {N:Nat}
theorem cells_3:Try.prog.cellsOf 3=1:=by kernel_rfl
theorem cells_37:Try.prog.cellsOf 37=1:=by kernel_rfl
theorem cells_39:Try.prog.cellsOf 39=2:=by kernel_rfl
theorem cells_41:Try.prog.cellsOf 41=4:=by kernel_rfl
theorem cells_59:Try.prog.cellsOf 59=2:=by kernel_rfl
theorem z_lv:OpensZ enc Try.prog w (N+1) 59 LV (fun _=>1):=by
 intro fuel cs x h hb
 obtain ⟨xs,n,_,rfl,hl,hlen,hf⟩:=DataW.trod_struct Try.underlying59 h
 match xs,hlen with
 | [y0,y1],_ =>
  have hb':Rows.uptoBulk y0.1+Rows.uptoBulk y1.1+1≤Rows.uptoBulk (DataW.agg (H:=H) [y0.1,y1.1]):=by simp only [Rows.uptoBulk,Rows.uptoBulkAll];omega
  have hb2:Rows.uptoBulk (DataW.agg (H:=H) [y0.1,y1.1])≤N+1:=hb
  obtain ⟨v0,r0,m0⟩:=(z_int Try.underlying3:OpensZ enc Try.prog w N _ _ _) n _ _ (hf 0 _ rfl) (by omega)
  change RC w (Enc.enc v0) ((cs.drop 0).take (Try.prog.cellsOf 3)) at r0
  rw [cells_3] at r0
  obtain ⟨v1,r1,m1⟩:=(z_int Try.underlying3:OpensZ enc Try.prog w N _ _ _) n _ _ (hf 1 _ rfl) (by omega)
  change RC w (Enc.enc v1) ((cs.drop 1).take (Try.prog.cellsOf 3)) at r1
  rw [cells_3] at r1
  have hcs:cs.take 2=cs:=List.take_of_length_le (by rw [hl];exact Nat.le_of_eq cells_59)
  have hR:=((((RC.nil).snoc (k:=1) r0 rfl)).snoc (k:=1) r1 rfl)
  refine ⟨(v0,v1),by rw [← hcs];exact hR,Nat.le_trans ?_ hb'⟩
  show 1≤_
  omega
theorem z_lv':OpensZ enc Try.prog w N 59 LV (fun _=>1):=z_pos (fun _ _=>z_lv) N
theorem z_lvl:OpensZ enc Try.prog w (N+1) 39 Lvl lvz:=by
 intro fuel cs x h hb
 obtain ⟨xs,n,_,rfl,hl,hlen,hf⟩:=DataW.trod_struct Try.underlying39 h
 match xs,hlen with
 | [y0,y1],_ =>
  have hb':Rows.uptoBulk y0.1+Rows.uptoBulk y1.1+1≤Rows.uptoBulk (DataW.agg (H:=H) [y0.1,y1.1]):=by simp only [Rows.uptoBulk,Rows.uptoBulkAll];omega
  have hb2:Rows.uptoBulk (DataW.agg (H:=H) [y0.1,y1.1])≤N+1:=hb
  obtain ⟨v0,r0,m0⟩:=(z_int Try.underlying3:OpensZ enc Try.prog w N _ _ _) n _ _ (hf 0 _ rfl) (by omega)
  change RC w (Enc.enc v0) ((cs.drop 0).take (Try.prog.cellsOf 3)) at r0
  rw [cells_3] at r0
  obtain ⟨v1,r1,m1⟩:=(z_slice Try.underlying37 (by kernel_rfl) z_lv':OpensZ enc Try.prog w N _ _ _) n _ _ (hf 1 _ rfl) (by omega)
  change RC w (Enc.enc v1) ((cs.drop 1).take (Try.prog.cellsOf 37)) at r1
  rw [cells_37] at r1
  have hcs:cs.take 2=cs:=List.take_of_length_le (by rw [hl];exact Nat.le_of_eq cells_39)
  have hR:=((((RC.nil).snoc (k:=1) r0 rfl)).snoc (k:=1) r1 rfl)
  refine ⟨⟨v0,v1⟩,by rw [← hcs];exact hR,Nat.le_trans ?_ hb'⟩
  show lvz ⟨v0,v1⟩≤_
  unfold lvz
  dsimp only at m0 m1 ⊢
  omega
theorem z_lvl':OpensZ enc Try.prog w N 39 Lvl lvz:=z_pos (fun _ _=>z_lvl) N
theorem z_bnd:OpensZ enc Try.prog w (N+1) 41 Bnd bdz:=by
 intro fuel cs x h hb
 obtain ⟨xs,n,_,rfl,hl,hlen,hf⟩:=DataW.trod_struct Try.underlying41 h
 match xs,hlen with
 | [y0,y1],_ =>
  have hb':Rows.uptoBulk y0.1+Rows.uptoBulk y1.1+1≤Rows.uptoBulk (DataW.agg (H:=H) [y0.1,y1.1]):=by simp only [Rows.uptoBulk,Rows.uptoBulkAll];omega
  have hb2:Rows.uptoBulk (DataW.agg (H:=H) [y0.1,y1.1])≤N+1:=hb
  obtain ⟨v0,r0,m0⟩:=(z_lvl':OpensZ enc Try.prog w N _ _ _) n _ _ (hf 0 _ rfl) (by omega)
  change RC w (Enc.enc v0) ((cs.drop 0).take (Try.prog.cellsOf 39)) at r0
  rw [cells_39] at r0
  obtain ⟨v1,r1,m1⟩:=(z_lvl':OpensZ enc Try.prog w N _ _ _) n _ _ (hf 1 _ rfl) (by omega)
  change RC w (Enc.enc v1) ((cs.drop 2).take (Try.prog.cellsOf 39)) at r1
  rw [cells_39] at r1
  have hcs:cs.take 4=cs:=List.take_of_length_le (by rw [hl];exact Nat.le_of_eq cells_41)
  have hR:=((((RC.nil).snoc (k:=2) r0 rfl)).snoc (k:=2) r1 rfl)
  refine ⟨⟨v0,v1⟩,by rw [← hcs];exact hR,Nat.le_trans ?_ hb'⟩
  show bdz ⟨v0,v1⟩≤_
  unfold bdz
  dsimp only at m0 m1 ⊢
  omega
theorem z_bnd':OpensZ enc Try.prog w N 41 Bnd bdz:=z_pos (fun _ _=>z_bnd) N
theorem z_bnds:OpensZ enc Try.prog w N 22 (List Bnd) (fun l=>1+(l.map bdz).sum):=z_slice Try.underlying22 (by kernel_rfl) z_bnd'
end
end Go.Proofs.Ytkimijmiphkddaa
namespace Go.Proofs.Ytkimijmiphkddaa
open Go.ChangeShapes Go.WideShapes Go.ChangeAt Go.RowKit Go.WideElems
theorem own:ownKnob Try.prog.godebug=none:=by kernel_rfl
theorem laidOut:laidOutB Try.prog=true:=by kernel_rfl
theorem slice_readsZ {H:Type} {enc:TypeId×Value→H} {α:Type} [Enc α] [EncLen α] {μ:List α→Nat} {W:World} {base:Nat} {t e:TypeId} {v:Value} {d:DataW H} {p:List MemPlace} (ht:Try.prog.underlying t=some (.slice e)) (ho:∀ N,OpensZ enc Try.prog W N t (List α) μ)
  (hval:Value.okWide Try.prog W .any base t v) (h:DataW.Trod enc Try.prog W 0 (fun _=>true) true t v d p):∃ l:List α,Reads (allS W) W (.sl (Enc.sz α) (Enc.encL l)) v∧μ l≤Rows.uptoBulk d:=by
 obtain ⟨fuel,hf⟩:=h
 obtain ⟨l,hl,hμ⟩:=ho _ _ _ _ hf (Nat.le_refl _)
 refine ⟨l,?_,hμ⟩
 obtain ⟨u,h2,h3⟩:=hl.2 0 _ rfl
 have h4:v.cells=#[v]:=by
  have h5:=hl.1
  cases v with
  | agg cs =>
   exfalso
   obtain ⟨s,n,c,h7⟩:=okWide_slice ht hval
   cases h7
  | _=>rfl
 rw [h4] at h2
 cases h2
 exact h3
theorem bnd_readsZ {H:Type} {enc:TypeId×Value→H} {W:World} {base:Nat} {v:Value} {d:DataW H} {p:List MemPlace}
  (hval:Value.okWide Try.prog W .any base 41 v) (h:DataW.Trod enc Try.prog W 0 (fun _=>true) true 41 v d p):∃ L:Bnd,(AV.agg (cE L)).rel (Vu.of (allS W)) W v∧bdz L≤Rows.uptoBulk d:=by
 obtain ⟨fuel,hf⟩:=h
 obtain ⟨L,hl,hμ⟩:=z_bnd' (N:=Rows.uptoBulk d) _ _ _ hf (Nat.le_refl _)
 obtain ⟨cs,rfl,-⟩:=okWide_struct Try.underlying41 hval
 have hc:(Value.agg cs).cells=cs:=rfl
 rw [hc] at hl
 refine ⟨L,⟨cs,Z,?_,fun i x hx=>?_⟩,hμ⟩
 ·have:=hl.1
  rw [Array.length_toList] at this
  rw [this,List.length_map]
 ·rw [List.getElem?_map] at hx
  cases hy:(Enc.enc L)[i]? with
  | none=>rw [hy] at hx;cases hx
  | some c =>
   rw [hy] at hx
   cases hx
   obtain ⟨u,hu,hr⟩:=hl.2 i c hy
   exact ⟨u,by simpa using hu,hr⟩
end Go.Proofs.Ytkimijmiphkddaa
namespace Go.Proofs.Ytkimijmiphkddaa
open Go.ChangeShapes Go.WideShapes Go.ChangeAt Go.RowKit Go.WideElems
theorem bdz_ok {b:Bnd} {n:Nat} (h:bdz b≤n) (hn:n≤1048576):BdL b:=by
 have h1:=lvz_len b.lo
 have h2:=lvz_len b.hi
 unfold bdz at h
 exact ⟨by omega,by omega⟩
theorem bdzs_ok {l:List Bnd} {n:Nat} (h:1+(l.map bdz).sum≤n) (hn:n≤1048576):∀ b∈l,BdL b:=fun b hb=>bdz_ok (n:=n) (by have:=sum_mem bdz hb;omega) hn
theorem law6 {W:World} (a0:List Bnd) (a1:Bnd) (h0:∀ b∈a0,BdL b) (h1:BdL a1) {v0:Value} (hv0:Reads (allS W) W (.sl 4 (Enc.encL a0)) v0) {v1:Value} (hv1:(AV.agg (cE a1)).rel (Vu.of (allS W)) W v1):Calls Try.prog 6 #[v0,v1] W fun e W'=>e=.returned (.bool true)∧Below W.heap.size W W':=by
 have hF:=m6_ok a0 a1 true (m6_true a0 a1 h0 h1)
 refine Calls.mono (hF.2 (allS W) W #[v0,v1] (fun b o h=>h) ⟨Z,fun i y hy=>?_⟩) ?_
 ·match i,hy with
  | 0,hy=>cases hy;exact ⟨_,rfl,hv0⟩
  | 1,hy=>cases hy;exact ⟨_,rfl,hv1⟩
 ·rintro e W' ⟨u,S',rfl,hx,-,-,hu⟩
  have e1:u=.bool true:=by cases hu;rfl
  rw [e1]
  exact ⟨Z,hx.os,hx.tape,hx.output,hx.size,fun k hk=>hx.block k hk (fun h=>h)⟩
theorem contract (H:Type) (enc:TypeId×Value→H) (W:World) (base:Nat) (args:Array Value) (ds gs:List (DataW H)) (before:List MemPlace) (hk:Rows.uptoSmall H (ds++gs)=true)
  (hval0:∀ (j:Nat) t v,Try.f6.params[j]?=some t→args[j]?=some v→Value.okWide Try.prog W .any base t v)
  (hW:DataW.Whole enc Try.prog Try.f6.params.toList Rows.universeRefutesSpec.vars false W args.toList ds gs before) :
  Calls Try.prog 6 args W fun e W'=>∃ v,e=.returned v∧Rows.universeRefutesSpec.post enc Try.prog Try.f6 false true false false W args v W':=by
 have hval:∀ (j:Nat) t v,Try.f6.params[j]?=some t→args[j]?=some v→Value.okWide Try.prog W .any base t v:=hval0
 have hW':=hW
 obtain ⟨p,q,hA0,hV,rfl,hfz,hnd⟩:=hW
 have hA:DataW.TrodAll enc Try.prog W 0 (fun _=>true) true Try.f6.params.toList args.toList ds p:=hA0
 rw [Try.params6] at hA hval
 obtain ⟨v0,v1,d0,d1,p0,p1,rfl,rfl,rfl,h0,h1⟩:=trodAll_two hA
 obtain ⟨rfl,rfl⟩:=trodVars_none hV
 have h0k:=h0
 have h1k:=h1
 obtain ⟨a0,hv0,hz⟩:=slice_readsZ Try.underlying22 (fun N=>z_bnds) (hval 0 22 v0 rfl rfl) h0
 obtain ⟨a1,hv1,hz1⟩:=bnd_readsZ (hval 1 41 v1 rfl rfl) h1
 have hbk:Rows.uptoBulkAll ([d0,d1]++([]:List (DataW H)))≤1048576:=of_decide_eq_true hk
 simp only [List.append_nil,Rows.uptoBulkAll] at hbk
 clear hA0 hval0
 simp only [List.append_nil] at hW'
 have hlt:∀ x∈p0++p1,x.block < W.heap.size:=fun x hx=>by simpa using hW'.lt x hx
 refine (law6 a0 a1 (bdzs_ok hz (by omega)) (bdz_ok hz1 (by omega)) hv0 hv1).mono fun e W' ⟨he,hb⟩=>?_
 subst he
 have hargs:∀ sp:Nat→Bool,(∀ x∈p0++p1,sp x.block=true)→DataW.TrodAll enc Try.prog W' 0 sp true [22,41] [v0,v1] [d0,d1] (p0++p1):=fun sp hsp =>
  trodAll_mk2 (WideElems.Trod_stays laidOut (by kernel_rfl) (of_decide_eq_true (by kernel_rfl)) h0k (fun x hx=>hb.same (hlt x (by simp [hx]))) (fun x hx=>hsp x (by simp [hx]))) (WideElems.Trod_stays laidOut (by kernel_rfl) (of_decide_eq_true (by kernel_rfl)) h1k (fun x hx=>hb.same (hlt x (by simp [hx]))) (fun x hx=>hsp x (by simp [hx])))
 exact ⟨_,rfl,_,_,_,[],p0++p1,[],hW',trodAll_mk1 (shut_bool Try.underlying4 true),hargs _ (fun x hx=>by simpa using hlt x hx),rfl,hb.frame _,fun h=>by cases h⟩
theorem lifted (os:Os) (started:os.Started) (H:Type) (enc:TypeId×Value→H) (F:Stop.Interp) :
  ReturnsInHanded {} Try.checked os 6 .any ((Rows.OpenSpec.upto Rows.universeRefutesSpec).pre6 enc Try.prog Try.f6 Rows.universeRefutesUptoRow.domain false) (((Rows.OpenSpec.upto Rows.universeRefutesSpec).at F).post enc Try.prog Try.f6 false true false false):=by
 refine returnsInHanded_of_cond (C:=Try.checked) (s:=Rows.OpenSpec.upto Rows.universeRefutesSpec) (k:=Rows.uptoSmall) rfl own started (by kernel_rfl) Try.func6
  (OpenSpec.witness (enc:=enc) (C:=Try.checked) (s:=Rows.OpenSpec.upto Rows.universeRefutesSpec) (k:=Rows.uptoSmall) rfl false ⟨#[],#[.slice none 0 0,.agg #[.int .i64 0,.slice none 0 0,.int .i64 0,.slice none 0 0]],[]⟩ 8 (by kernel_rfl) (by kernel_rfl) (by kernel_rfl)
   (x:=([.nil,.agg [.agg [.lit (.int .i64 0),.nil],.agg [.lit (.int .i64 0),.nil]]],[],[])) (by kernel_rfl) rfl (by kernel_rfl)) ?_
 intro W base args ds gs before hval hW _ hk _
 exact contract H enc W base args ds gs before hk hval hW
theorem over:Rows.universeRefutesUptoRow.holds Try.pinned (Rows.OpenSpec.upto Rows.universeRefutesSpec) :=
 OpenClaim.holds_of_cond 6 Try.f6 rfl rfl rfl rfl rfl rfl rfl ⟨rfl,rfl,rfl,rfl,rfl⟩ rfl rfl rfl rfl rfl (by kernel_rfl) Try.func6 (by kernel_rfl)
  (of_decide_eq_true (by kernel_rfl)) (by unfold Func.isWrapper;first | (rw [if_pos (by decide +kernel)];kernel_rfl) | (rw [if_neg (by decide +kernel)];exact ⟨rfl,rfl⟩))
  (fun os started H enc _ F=>lifted os started H enc F)
theorem universeRefutesUpto:Rows.UniverseRefutesUptoSaid:=over
#print axioms universeRefutesUpto
end Go.Proofs.Ytkimijmiphkddaa
