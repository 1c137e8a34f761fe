/- Part 4 of the proof: rules, mirrors and plain laws. The statement UniverseEntailsUpto is proved here: for every list of bounds and every bound the law returns true, and what it is given reads behind the call as it did before; condition: the arguments are of bulk at most 1048576 (the second form). -/
import Derived.Test.YtkimijmiphkddaaK53
set_option maxRecDepth 100000
set_option maxHeartbeats 2000000
set_option linter.unusedSimpArgs false
set_option linter.unusedVariables false
set_option linter.unusedSectionVars false
namespace Go.Proofs.Ytkimijmiphkddaa
open Go.RowKit Go.Shelf
theorem en_15:Enters Try.prog 15:=enters_of Try.func15 (by kernel_rfl) rfl
theorem en_31:Enters Try.prog 31:=enters_of Try.func31 (by kernel_rfl) rfl
def m31f10_l0 (x1:(Int×Int×(List LV))) (a1:Bnd) (a0:Nat) (s2:Int×(List Lvl)×Bool):Option (LO (Int×(List Lvl)×Bool) (((List Lvl)×Bool)⊕((Bool×(List Lvl))⊕(Bool×(List Lvl))))) :=
 cond (decide (s2.1 < (x1.2.2.length:Int)))
   (Option.bind (idx x1.2.2 s2.1) fun (x13:LV) =>
 Option.bind (Option.bind (m48f11 a1.hi a0 s2.2.1) fun (x19:(Int×Int×(List LV))) =>
 cond (x19.1 != 0)
   (some (.inr ()))
   (Option.bind (m49f18 0 ([x13]) (⟨x19.2.1,x19.2.2⟩:Lvl)) fun (x21:Bool) =>
 cond x21
   (some (.inl (s2.2.2,s2.2.1)))
   (Option.bind (m54 a1.hi) fun (x23:Int×Int) =>
 cond (decide (x23.1 < 0))
   (some (.inr ()))
   (Option.bind (idx s2.2.1 x23.1) fun (x25:Lvl) =>
 guardO (Nat.beq s2.2.1.length a0)
 (Option.bind (m56 (⟨0,[x13]⟩:Lvl) x23.2) fun (x27:Lvl) =>
 Option.bind (m55 x25 x27) fun (x28:Lvl×Int) =>
 cond (x28.2 != 0)
   (some (.inr ()))
   (Option.bind (idx s2.2.1 x23.1) fun (x30:Lvl) =>
 guardO (Nat.beq s2.2.1.length a0)
 (some (.inl (true,(s2.2.1.set x23.1.toNat x28.1)))))))))) (Sum.elim (fun (y14:Bool×(List Lvl))=>some (.next ((w64 (s2.1+1)),y14.2,y14.1))) (fun (y15:Unit)=>some (.done (.inr (.inr (s2.2.2,s2.2.1)))))))
   (some (.done (.inl (s2.2.1,s2.2.2))))
def m31f10_l1 (x17:(Int×Int×(List LV))) (s5:Int×Int):Option (LO (Int×Int) Int) :=
 cond (decide (s5.2 < (x17.2.2.length:Int)))
   (Option.bind (idx x17.2.2 s5.2) fun (x25:LV) =>
 some (.next ((max s5.1 x25.2),(w64 (s5.2+1)))))
   (some (.done s5.1))
def m31f10_l2 (x17:(Int×Int×(List LV))) (s5:Int):Option (LO Int (Unit⊕Bool)) :=
 cond (decide (s5 < (([]:List LV).length:Int)))
   (Option.bind (idx ([]:List LV) s5) fun (x27:LV) =>
 Option.bind (m70f15 x17.2.2 x27) fun (x28:Bool) =>
 cond (!x28)
   (some (.done (.inr false)))
   (some (.next (w64 (s5+1)))))
   (some (.done (.inl ())))
noncomputable abbrev m31f10_h0 (p0_:Nat) (p1_:Bnd):List (Nat×HB) :=
 [(1,.cells 31 [.osl 0 0 p0_ p0_]),(2,.cells 41 (cE p1_)),(3,.cells 4 [dB false]),(4,.cells 25 [dI 0])]
noncomputable abbrev m31f10_h1 (p0_:List Lvl) (p1_:Nat) (p2_:Bnd) (p3_:(Int×Int×(List LV))):List (Nat×HB) :=
 [(0,.cells 39 (flatE p0_)),(1,.cells 31 [.osl 0 0 p1_ p1_]),(2,.cells 41 (cE p2_)),(3,.cells 4 [dB false]),(4,.cells 25 [dI 0]),(6,.cells 39 [dI p3_.2.1,dS p3_.2.2]),(7,.cells 39 [dI p3_.2.1,dS p3_.2.2]),(8,.cells 4 [dB false])]
noncomputable abbrev m31f10_h2 (p0_:List Lvl) (p1_:Nat) (p2_:Bnd) (p3_:(Int×Int×(List LV))):List (Nat×HB) :=
 [(0,.cells 39 (flatE p0_)),(1,.cells 31 [.osl 0 0 p1_ p1_]),(2,.cells 41 (cE p2_)),(3,.cells 4 [dB false]),(4,.cells 25 [dI 0]),(6,.cells 39 [dI p3_.2.1,dS p3_.2.2]),(7,.cells 39 [dI p3_.2.1,dS p3_.2.2]),(8,.cells 4 [dB false]),(9,.cells 39 [dI p3_.2.1,dS p3_.2.2])]
noncomputable abbrev m31f10_h3 :HB :=
 .loop .ready none [(2,.v (.one (.ptr 1 0))),(3,.v (.one (.ptr 2 0))),(4,.v (.one (.ptr 3 0))),(5,.v (.one (.ptr 4 0))),(8,.v (.one (.ptr 8 0))),(25,.v (.one (.fn 62 [(9,0)])))] 65 #[26] m31f10_c0 m31f10_c1 10
noncomputable abbrev m31f10_h4 (p0_:Bool×(List Lvl)) (p1_:Nat) (p2_:Bnd) (p3_:(Int×Int×(List LV))):List (Nat×HB) :=
 [(0,.cells 39 (flatE p0_.2)),(1,.cells 31 [.osl 0 0 p1_ p1_]),(2,.cells 41 (cE p2_)),(3,.cells 4 [dB false]),(4,.cells 25 [dI 0]),(6,.cells 39 [dI p3_.2.1,dS p3_.2.2]),(7,.cells 39 [dI p3_.2.1,dS p3_.2.2]),(8,.cells 4 [dB p0_.1]),(9,.cells 39 [dI p3_.2.1,dS p3_.2.2]),(10,.obj (.deferred (some []))),(11,m31f10_h3)]
noncomputable abbrev m31f10_h5 :HB :=
 .loop .done (some .ret) [(2,.v (.one (.ptr 1 0))),(3,.v (.one (.ptr 2 0))),(4,.v (.one (.ptr 3 0))),(5,.v (.one (.ptr 4 0))),(8,.v (.one (.ptr 8 0))),(25,.v (.one (.fn 62 [(9,0)])))] 65 #[26] m31f10_c0 m31f10_c1 10
noncomputable abbrev m31f10_h6 (p0_:Bool×(List Lvl)) (p1_:Nat) (p2_:Bnd) (p3_:(Int×Int×(List LV))):List (Nat×HB) :=
 [(0,.cells 39 (flatE p0_.2)),(1,.cells 31 [.osl 0 0 p1_ p1_]),(2,.cells 41 (cE p2_)),(3,.cells 4 [dB false]),(4,.cells 25 [dI 15]),(6,.cells 39 [dI p3_.2.1,dS p3_.2.2]),(7,.cells 39 [dI p3_.2.1,dS p3_.2.2]),(8,.cells 4 [dB p0_.1]),(9,.cells 39 [dI p3_.2.1,dS p3_.2.2]),(10,.obj (.deferred (some []))),(11,m31f10_h5)]
noncomputable abbrev m31f10_h7 (p0_:List Lvl) (p1_:Nat) (p2_:Bnd) (p3_:(Int×Int×(List LV))):List (Nat×HB) :=
 [(0,.cells 39 (flatE p0_)),(1,.cells 31 [.osl 0 0 p1_ p1_]),(2,.cells 41 (cE p2_)),(3,.cells 4 [dB false]),(4,.cells 25 [dI 15]),(6,.cells 39 [dI p3_.2.1,dS p3_.2.2]),(7,.cells 39 [dI p3_.2.1,dS p3_.2.2]),(8,.cells 4 [dB false]),(9,.cells 39 [dI p3_.2.1,dS p3_.2.2]),(10,.obj (.deferred (some []))),(11,m31f10_h5)]
noncomputable abbrev m31f10_h8 (p0_:List Lvl) (p1_:Nat) (p2_:Bnd) (p3_:(Int×Int×(List LV))):List (Nat×HB) :=
 [(0,.cells 39 (flatE p0_)),(1,.cells 31 [.osl 0 0 p1_ p1_]),(2,.cells 41 (cE p2_)),(3,.cells 4 [dB false]),(4,.cells 25 [dI 0]),(6,.cells 39 [dI p3_.2.1,dS p3_.2.2]),(7,.cells 39 [dI p3_.2.1,dS p3_.2.2]),(8,.cells 4 [dB false]),(9,.cells 39 [dI p3_.2.1,dS p3_.2.2]),(10,.obj (.deferred (some []))),(11,m31f10_h3)]
noncomputable abbrev m31f10_h9 :HB :=
 .loop .busy none [(2,.v (.one (.ptr 1 0))),(3,.v (.one (.ptr 2 0))),(4,.v (.one (.ptr 3 0))),(5,.v (.one (.ptr 4 0))),(8,.v (.one (.ptr 8 0))),(25,.v (.one (.fn 62 [(9,0)])))] 65 #[26] m31f10_c0 m31f10_c1 10
noncomputable abbrev m31f10_h10 (p0_:List Lvl) (p1_:Nat) (p2_:Bnd) (p3_:(Int×Int×(List LV))):List (Nat×HB) :=
 [(0,.cells 39 (flatE p0_)),(1,.cells 31 [.osl 0 0 p1_ p1_]),(2,.cells 41 (cE p2_)),(3,.cells 4 [dB false]),(4,.cells 25 [dI 0]),(6,.cells 39 [dI p3_.2.1,dS p3_.2.2]),(7,.cells 39 [dI p3_.2.1,dS p3_.2.2]),(8,.cells 4 [dB false]),(9,.cells 39 [dI p3_.2.1,dS p3_.2.2]),(10,.obj (.deferred (some []))),(11,m31f10_h9),(12,.cells 39 [dI p3_.2.1,dN])]
noncomputable abbrev m31f10_h11 (p0_:List Lvl) (p1_:Nat) (p2_:Bnd) (p3_:(Int×Int×(List LV))):List (Nat×HB) :=
 [(0,.cells 39 (flatE p0_)),(1,.cells 31 [.osl 0 0 p1_ p1_]),(2,.cells 41 (cE p2_)),(3,.cells 4 [dB false]),(4,.cells 25 [dI 0]),(6,.cells 39 [dI p3_.2.1,dS p3_.2.2]),(7,.cells 39 [dI p3_.2.1,dS p3_.2.2]),(8,.cells 4 [dB false]),(9,.cells 39 [dI p3_.2.1,dS p3_.2.2]),(10,.obj (.deferred (some []))),(11,m31f10_h3),(12,.cells 39 [dI p3_.2.1,dN])]
noncomputable abbrev m31f10_h12 (p0_:Bool×(List Lvl)) (p1_:Nat) (p2_:Bnd) (p3_:(Int×Int×(List LV))):List (Nat×HB) :=
 [(0,.cells 39 (flatE p0_.2)),(1,.cells 31 [.osl 0 0 p1_ p1_]),(2,.cells 41 (cE p2_)),(3,.cells 4 [dB false]),(4,.cells 25 [dI 0]),(6,.cells 39 [dI p3_.2.1,dS p3_.2.2]),(7,.cells 39 [dI p3_.2.1,dS p3_.2.2]),(8,.cells 4 [dB p0_.1]),(9,.cells 39 [dI p3_.2.1,dS p3_.2.2]),(10,.obj (.deferred (some []))),(11,m31f10_h9)]
noncomputable abbrev m31f10_h13 (p0_:List Lvl) (p1_:Nat) (p2_:Bnd) (p3_:(Int×Int×(List LV))):List (Nat×HB) :=
 [(0,.cells 39 (flatE p0_)),(1,.cells 31 [.osl 0 0 p1_ p1_]),(2,.cells 41 (cE p2_)),(3,.cells 4 [dB false]),(4,.cells 25 [dI 15]),(6,.cells 39 [dI p3_.2.1,dS p3_.2.2]),(7,.cells 39 [dI p3_.2.1,dS p3_.2.2]),(8,.cells 4 [dB false]),(9,.cells 39 [dI p3_.2.1,dS p3_.2.2]),(10,.obj (.deferred (some []))),(11,m31f10_h9)]
noncomputable abbrev m31f10_h14 (p0_:Nat) (p1_:Bnd) (p2_:(Int×Int×(List LV))):List (Nat×HB) :=
 [(1,.cells 31 [.osl 0 0 p0_ p0_]),(2,.cells 41 (cE p1_)),(3,.cells 4 [dB false]),(4,.cells 25 [dI 0]),(6,.cells 39 [dI p2_.2.1,dS p2_.2.2]),(7,.cells 39 [dI p2_.2.1,dS p2_.2.2]),(8,.cells 4 [dB false]),(9,.cells 39 [dI p2_.2.1,dS p2_.2.2]),(10,.obj (.deferred (some []))),(11,m31f10_h9),(12,.cells 39 [dI p2_.2.1,dN])]
noncomputable abbrev m31f10_h15 (p0_:List Lvl) (p1_:Nat) (p2_:Bnd) (p3_:(Int×Int×(List LV))) (p4_:(Int×Int×(List LV))):List (Nat×HB) :=
 [(0,.cells 39 (flatE p0_)),(1,.cells 31 [.osl 0 0 p1_ p1_]),(2,.cells 41 (cE p2_)),(3,.cells 4 [dB false]),(4,.cells 25 [dI 0]),(6,.cells 39 [dI p3_.2.1,dS p3_.2.2]),(7,.cells 39 [dI p3_.2.1,dS p3_.2.2]),(8,.cells 4 [dB false]),(9,.cells 39 [dI p3_.2.1,dS p3_.2.2]),(10,.obj (.deferred (some []))),(11,m31f10_h9),(12,.cells 39 [dI p3_.2.1,dN]),(14,.cells 39 [dI p4_.2.1,dS p4_.2.2]),(15,.cells 39 [dI p4_.2.1,dS p4_.2.2])]
noncomputable abbrev m31f10_h16 (p0_:List Lvl) (p1_:Nat) (p2_:Bnd) (p3_:(Int×Int×(List LV))) (p4_:(Int×Int×(List LV))):List (Nat×HB) :=
 [(0,.cells 39 (flatE p0_)),(1,.cells 31 [.osl 0 0 p1_ p1_]),(2,.cells 41 (cE p2_)),(3,.cells 4 [dB false]),(4,.cells 25 [dI 0]),(6,.cells 39 [dI p3_.2.1,dS p3_.2.2]),(7,.cells 39 [dI p3_.2.1,dS p3_.2.2]),(8,.cells 4 [dB false]),(9,.cells 39 [dI p3_.2.1,dS p3_.2.2]),(10,.obj (.deferred (some []))),(11,m31f10_h9),(12,.cells 39 [dI p3_.2.1,dN]),(14,.cells 39 [dI p4_.2.1,dS p4_.2.2]),(15,.cells 39 [dI p4_.2.1,dS p4_.2.2]),(16,.cells 39 [dI p3_.2.1,dN]),(17,.cells 39 [dI p4_.2.1,dS p4_.2.2])]
noncomputable abbrev m31f10_h17 (p0_:List Lvl) (p1_:Nat) (p2_:Bnd) (p3_:(Int×Int×(List LV))):List (Nat×HB) :=
 [(0,.cells 39 (flatE p0_)),(1,.cells 31 [.osl 0 0 p1_ p1_]),(2,.cells 41 (cE p2_)),(3,.cells 4 [dB false]),(4,.cells 25 [dI 0]),(6,.cells 39 [dI p3_.2.1,dS p3_.2.2]),(7,.cells 39 [dI p3_.2.1,dS p3_.2.2]),(8,.cells 4 [dB false]),(9,.cells 39 [dI p3_.2.1,dS p3_.2.2]),(10,.obj (.deferred (some []))),(11,m31f10_h9)]
noncomputable abbrev m31f10_h18 (p0_:List Lvl) (p1_:Nat) (p2_:Bnd) (p3_:(Int×Int×(List LV))) (p4_:(Int×Int×(List LV))) (p5_:Lvl×Int):List (Nat×HB) :=
 [(0,.cells 39 (flatE p0_)),(1,.cells 31 [.osl 0 0 p1_ p1_]),(2,.cells 41 (cE p2_)),(3,.cells 4 [dB false]),(4,.cells 25 [dI 0]),(6,.cells 39 [dI p3_.2.1,dS p3_.2.2]),(7,.cells 39 [dI p3_.2.1,dS p3_.2.2]),(8,.cells 4 [dB false]),(9,.cells 39 [dI p3_.2.1,dS p3_.2.2]),(10,.obj (.deferred (some []))),(11,m31f10_h9),(12,.cells 39 [dI p3_.2.1,dN]),(14,.cells 39 [dI p4_.2.1,dS p4_.2.2]),(15,.cells 39 [dI p4_.2.1,dS p4_.2.2]),(18,.cells 39 (cE p5_.1))]
noncomputable abbrev m31f10_h19 (p0_:List Lvl) (p1_:Int×Int) (p2_:Lvl×Int) (p3_:Nat) (p4_:Bnd) (p5_:(Int×Int×(List LV))):List (Nat×HB) :=
 [(0,.cells 39 (flatE ((p0_.set p1_.1.toNat p2_.1):List Lvl))),(1,.cells 31 [.osl 0 0 p3_ p3_]),(2,.cells 41 (cE p4_)),(3,.cells 4 [dB false]),(4,.cells 25 [dI 0]),(6,.cells 39 [dI p5_.2.1,dS p5_.2.2]),(7,.cells 39 [dI p5_.2.1,dS p5_.2.2]),(8,.cells 4 [dB true]),(9,.cells 39 [dI p5_.2.1,dS p5_.2.2]),(10,.obj (.deferred (some []))),(11,m31f10_h9)]
noncomputable abbrev m31f10_h20 (p0_:Int×(List Lvl)×Bool) (p1_:Nat) (p2_:Bnd) (p3_:(Int×Int×(List LV))) (p4_:LV):List (Nat×HB) :=
 [(0,.cells 39 (flatE p0_.2.1)),(1,.cells 31 [.osl 0 0 p1_ p1_]),(2,.cells 41 (cE p2_)),(3,.cells 4 [dB false]),(4,.cells 25 [dI 0]),(6,.cells 39 [dI p3_.2.1,dS p3_.2.2]),(7,.cells 39 [dI p3_.2.1,dS p3_.2.2]),(8,.cells 4 [dB p0_.2.2]),(9,.cells 39 [dI p3_.2.1,dS p3_.2.2]),(10,.obj (.deferred (some []))),(11,m31f10_h3),(12,.cells 59 (cE p4_))]
noncomputable abbrev m31f10_h21 (p0_:Int×(List Lvl)×Bool) (p1_:Nat) (p2_:Bnd) (p3_:(Int×Int×(List LV))) (p4_:LV):List (Nat×HB) :=
 [(0,.cells 39 (flatE p0_.2.1)),(1,.cells 31 [.osl 0 0 p1_ p1_]),(2,.cells 41 (cE p2_)),(3,.cells 4 [dB false]),(4,.cells 25 [dI 0]),(6,.cells 39 [dI p3_.2.1,dS p3_.2.2]),(7,.cells 39 [dI p3_.2.1,dS p3_.2.2]),(8,.cells 4 [dB p0_.2.2]),(9,.cells 39 [dI p3_.2.1,dS p3_.2.2]),(10,.obj (.deferred (some []))),(11,m31f10_h9),(12,.cells 59 (cE p4_)),(14,.cells 39 [dI 0,dA 13 ([p4_]:List LV)])]
noncomputable abbrev m31f10_h22 (p0_:Int×(List Lvl)×Bool) (p1_:Nat) (p2_:Bnd) (p3_:(Int×Int×(List LV))) (p4_:LV):List (Nat×HB) :=
 [(0,.cells 39 (flatE p0_.2.1)),(1,.cells 31 [.osl 0 0 p1_ p1_]),(2,.cells 41 (cE p2_)),(3,.cells 4 [dB false]),(4,.cells 25 [dI 0]),(6,.cells 39 [dI p3_.2.1,dS p3_.2.2]),(7,.cells 39 [dI p3_.2.1,dS p3_.2.2]),(8,.cells 4 [dB p0_.2.2]),(9,.cells 39 [dI p3_.2.1,dS p3_.2.2]),(10,.obj (.deferred (some []))),(11,m31f10_h3),(12,.cells 59 (cE p4_)),(14,.cells 39 [dI 0,dA 13 ([p4_]:List LV)])]
noncomputable abbrev m31f10_h23 (p0_:Bool×(List Lvl)) (p1_:Nat) (p2_:Bnd) (p3_:(Int×Int×(List LV))) (p4_:LV):List (Nat×HB) :=
 [(0,.cells 39 (flatE p0_.2)),(1,.cells 31 [.osl 0 0 p1_ p1_]),(2,.cells 41 (cE p2_)),(3,.cells 4 [dB false]),(4,.cells 25 [dI 0]),(6,.cells 39 [dI p3_.2.1,dS p3_.2.2]),(7,.cells 39 [dI p3_.2.1,dS p3_.2.2]),(8,.cells 4 [dB p0_.1]),(9,.cells 39 [dI p3_.2.1,dS p3_.2.2]),(10,.obj (.deferred (some []))),(11,m31f10_h9),(12,.cells 59 (cE p4_))]
noncomputable abbrev m31f10_h24 (p0_:Int×(List Lvl)×Bool) (p1_:Nat) (p2_:Bnd) (p3_:(Int×Int×(List LV))) (p4_:LV):List (Nat×HB) :=
 [(0,.cells 39 (flatE p0_.2.1)),(1,.cells 31 [.osl 0 0 p1_ p1_]),(2,.cells 41 (cE p2_)),(3,.cells 4 [dB false]),(4,.cells 25 [dI 15]),(6,.cells 39 [dI p3_.2.1,dS p3_.2.2]),(7,.cells 39 [dI p3_.2.1,dS p3_.2.2]),(8,.cells 4 [dB p0_.2.2]),(9,.cells 39 [dI p3_.2.1,dS p3_.2.2]),(10,.obj (.deferred (some []))),(11,m31f10_h9),(12,.cells 59 (cE p4_))]
noncomputable abbrev m31f10_h25 (p0_:Nat) (p1_:Bnd) (p2_:(Int×Int×(List LV))) (p3_:Int×(List Lvl)×Bool) (p4_:LV):List (Nat×HB) :=
 [(1,.cells 31 [.osl 0 0 p0_ p0_]),(2,.cells 41 (cE p1_)),(3,.cells 4 [dB false]),(4,.cells 25 [dI 0]),(6,.cells 39 [dI p2_.2.1,dS p2_.2.2]),(7,.cells 39 [dI p2_.2.1,dS p2_.2.2]),(8,.cells 4 [dB p3_.2.2]),(9,.cells 39 [dI p2_.2.1,dS p2_.2.2]),(10,.obj (.deferred (some []))),(11,m31f10_h9),(12,.cells 59 (cE p4_)),(14,.cells 39 [dI 0,dA 13 ([p4_]:List LV)])]
noncomputable abbrev m31f10_h26 (p0_:Int×(List Lvl)×Bool) (p1_:Nat) (p2_:Bnd) (p3_:(Int×Int×(List LV))) (p4_:LV) (p5_:(Int×Int×(List LV))):List (Nat×HB) :=
 [(0,.cells 39 (flatE p0_.2.1)),(1,.cells 31 [.osl 0 0 p1_ p1_]),(2,.cells 41 (cE p2_)),(3,.cells 4 [dB false]),(4,.cells 25 [dI 0]),(6,.cells 39 [dI p3_.2.1,dS p3_.2.2]),(7,.cells 39 [dI p3_.2.1,dS p3_.2.2]),(8,.cells 4 [dB p0_.2.2]),(9,.cells 39 [dI p3_.2.1,dS p3_.2.2]),(10,.obj (.deferred (some []))),(11,m31f10_h9),(12,.cells 59 (cE p4_)),(14,.cells 39 [dI 0,dA 13 ([p4_]:List LV)]),(16,.cells 39 [dI p5_.2.1,dS p5_.2.2]),(17,.cells 39 [dI p5_.2.1,dS p5_.2.2])]
noncomputable abbrev m31f10_h27 (p0_:Int×(List Lvl)×Bool) (p1_:Nat) (p2_:Bnd) (p3_:(Int×Int×(List LV))) (p4_:LV):List (Nat×HB) :=
 [(0,.cells 39 (flatE p0_.2.1)),(1,.cells 31 [.osl 0 0 p1_ p1_]),(2,.cells 41 (cE p2_)),(3,.cells 4 [dB false]),(4,.cells 25 [dI 0]),(6,.cells 39 [dI p3_.2.1,dS p3_.2.2]),(7,.cells 39 [dI p3_.2.1,dS p3_.2.2]),(8,.cells 4 [dB p0_.2.2]),(9,.cells 39 [dI p3_.2.1,dS p3_.2.2]),(10,.obj (.deferred (some []))),(11,m31f10_h9),(12,.cells 59 (cE p4_))]
noncomputable abbrev m31f10_h28 (p0_:Int×(List Lvl)×Bool) (p1_:Nat) (p2_:Bnd) (p3_:(Int×Int×(List LV))) (p4_:LV) (p5_:(Int×Int×(List LV))) (p6_:Lvl×Int):List (Nat×HB) :=
 [(0,.cells 39 (flatE p0_.2.1)),(1,.cells 31 [.osl 0 0 p1_ p1_]),(2,.cells 41 (cE p2_)),(3,.cells 4 [dB false]),(4,.cells 25 [dI 0]),(6,.cells 39 [dI p3_.2.1,dS p3_.2.2]),(7,.cells 39 [dI p3_.2.1,dS p3_.2.2]),(8,.cells 4 [dB p0_.2.2]),(9,.cells 39 [dI p3_.2.1,dS p3_.2.2]),(10,.obj (.deferred (some []))),(11,m31f10_h9),(12,.cells 59 (cE p4_)),(14,.cells 39 [dI 0,dA 13 ([p4_]:List LV)]),(16,.cells 39 [dI p5_.2.1,dS p5_.2.2]),(17,.cells 39 [dI p5_.2.1,dS p5_.2.2]),(20,.cells 39 (cE p6_.1))]
noncomputable abbrev m31f10_h29 (p0_:Int×(List Lvl)×Bool) (p1_:Int×Int) (p2_:Lvl×Int):HB :=
 .cells 39 (flatE ((p0_.2.1.set p1_.1.toNat p2_.1):List Lvl))
noncomputable abbrev m31f10_h30 (p0_:Int×(List Lvl)×Bool) (p1_:Int×Int) (p2_:Lvl×Int) (p3_:Nat) (p4_:Bnd) (p5_:(Int×Int×(List LV))) (p6_:LV):List (Nat×HB) :=
 [(0,m31f10_h29 p0_ p1_ p2_),(1,.cells 31 [.osl 0 0 p3_ p3_]),(2,.cells 41 (cE p4_)),(3,.cells 4 [dB false]),(4,.cells 25 [dI 0]),(6,.cells 39 [dI p5_.2.1,dS p5_.2.2]),(7,.cells 39 [dI p5_.2.1,dS p5_.2.2]),(8,.cells 4 [dB true]),(9,.cells 39 [dI p5_.2.1,dS p5_.2.2]),(10,.obj (.deferred (some []))),(11,m31f10_h9),(12,.cells 59 (cE p6_))]
noncomputable abbrev m31f10_h31 (p0_:Int×(List Lvl)×Bool) (p1_:Nat) (p2_:Bnd) (p3_:(Int×Int×(List LV))):List (Nat×HB) :=
 [(0,.cells 39 (flatE p0_.2.1)),(1,.cells 31 [.osl 0 0 p1_ p1_]),(2,.cells 41 (cE p2_)),(3,.cells 4 [dB false]),(4,.cells 25 [dI 15]),(6,.cells 39 [dI p3_.2.1,dS p3_.2.2]),(7,.cells 39 [dI p3_.2.1,dS p3_.2.2]),(8,.cells 4 [dB p0_.2.2]),(9,.cells 39 [dI p3_.2.1,dS p3_.2.2]),(10,.obj (.deferred (some []))),(11,m31f10_h5)]
noncomputable abbrev m31f10_h32 (p0_:(List Lvl)×Bool) (p1_:Nat) (p2_:Bnd) (p3_:(Int×Int×(List LV))):List (Nat×HB) :=
 [(0,.cells 39 (flatE p0_.1)),(1,.cells 31 [.osl 0 0 p1_ p1_]),(2,.cells 41 (cE p2_)),(3,.cells 4 [dB false]),(4,.cells 25 [dI 0]),(6,.cells 39 [dI p3_.2.1,dS p3_.2.2]),(7,.cells 39 [dI p3_.2.1,dS p3_.2.2]),(8,.cells 4 [dB p0_.2]),(9,.cells 39 [dI p3_.2.1,dS p3_.2.2]),(10,.obj (.deferred (some []))),(11,m31f10_h3)]
noncomputable abbrev m31f10_h33 (p0_:(Bool×Int×(List Lvl))):List (Nat×HB) :=
 [(0,.cells 39 (flatE p0_.2.2)),(3,.cells 4 [dB p0_.1]),(4,.cells 25 [dI p0_.2.1])]
def m31f10 (a0:Nat) (a1:Bnd) (a2:List Lvl):Option ((Bool×Int×(List Lvl))) :=
 Option.bind (m48f11 a1.lo a0 a2) fun (x1:(Int×Int×(List LV))) =>
 cond (x1.1 != 0)
   (some (false,15,a2))
   (Option.bind (some ()) (fun (y3:Unit)=>Option.bind (Option.bind (cond (decide (0 < x1.2.1))
   (Option.bind (Option.bind (m48f11 a1.hi a0 a2) fun (x17:(Int×Int×(List LV))) =>
 cond (x17.1 != 0)
   (some (.inr ()))
   (Option.bind (Option.bind (Option.bind (m28 (⟨x1.2.1,([]:List LV)⟩:Lvl)) fun (x22:Bool) =>
 cond (!x22)
   (some true)
   (Option.bind (m28 (⟨x17.2.1,x17.2.2⟩:Lvl)) fun (x24:Bool) =>
 some (!x24))) (fun (v21:Bool)=>cond v21
   (some false)
   (Option.bind (loopN (m31f10_l1 x17) FUEL (x17.2.1,0)) (fun (o23:Int)=>cond (decide (o23 < x1.2.1))
   (some false)
   (Option.bind (loopN (m31f10_l2 x17) FUEL 0) (Sum.elim (fun (o25:Unit)=>some true) (fun o=>some o))))))) (fun (y19:Bool)=>cond y19
   (some (.inl (false,a2)))
   (Option.bind (m54 a1.hi) fun (x38:Int×Int) =>
 cond (decide (x38.1 < 0))
   (some (.inr ()))
   (Option.bind (idx a2 x38.1) fun (x40:Lvl) =>
 guardO (Nat.beq a2.length a0)
 (Option.bind (m56 (⟨x1.2.1,([]:List LV)⟩:Lvl) x38.2) fun (x42:Lvl) =>
 Option.bind (m55 x40 x42) fun (x43:Lvl×Int) =>
 cond (x43.2 != 0)
   (some (.inr ()))
   (Option.bind (idx a2 x38.1) fun (x45:Lvl) =>
 guardO (Nat.beq a2.length a0)
 (some (.inl (true,(a2.set x38.1.toNat x43.1))))))))))) (Sum.elim (fun (y12:Bool×(List Lvl))=>some (.inl (y12.1,y12.2))) (fun (y13:Unit)=>some (.inr ()))))
   (cond ((x1.2.2.length:Int)==0)
   (Option.bind (Option.bind (m48f11 a1.hi a0 a2) fun (x53:(Int×Int×(List LV))) =>
 cond (x53.1 != 0)
   (some (.inr ()))
   (Option.bind (Option.bind (Option.bind (m28 (⟨x1.2.1,([]:List LV)⟩:Lvl)) fun (x58:Bool) =>
 cond (!x58)
   (some true)
   (Option.bind (m28 (⟨x53.2.1,x53.2.2⟩:Lvl)) fun (x60:Bool) =>
 some (!x60))) (fun (v57:Bool)=>cond v57
   (some false)
   (Option.bind (loopN (m31f10_l1 x53) FUEL (x53.2.1,0)) (fun (o59:Int)=>cond (decide (o59 < x1.2.1))
   (some false)
   (Option.bind (loopN (m31f10_l2 x53) FUEL 0) (Sum.elim (fun (o61:Unit)=>some true) (fun o=>some o))))))) (fun (y55:Bool)=>cond y55
   (some (.inl (false,a2)))
   (Option.bind (m54 a1.hi) fun (x74:Int×Int) =>
 cond (decide (x74.1 < 0))
   (some (.inr ()))
   (Option.bind (idx a2 x74.1) fun (x76:Lvl) =>
 guardO (Nat.beq a2.length a0)
 (Option.bind (m56 (⟨x1.2.1,([]:List LV)⟩:Lvl) x74.2) fun (x78:Lvl) =>
 Option.bind (m55 x76 x78) fun (x79:Lvl×Int) =>
 cond (x79.2 != 0)
   (some (.inr ()))
   (Option.bind (idx a2 x74.1) fun (x81:Lvl) =>
 guardO (Nat.beq a2.length a0)
 (some (.inl (true,(a2.set x74.1.toNat x79.1))))))))))) (Sum.elim (fun (y48:Bool×(List Lvl))=>some (.inl (y48.1,y48.2))) (fun (y49:Unit)=>some (.inr ()))))
   (some (.inl (false,a2))))) (Sum.elim (fun (v9:Bool×(List Lvl))=>Option.bind (loopN (m31f10_l0 x1 a1 a0) FUEL (0,v9.2,v9.1)) (Sum.elim (fun (o11:(List Lvl)×Bool)=>some (.inl (o11.2,o11.1))) (fun o=>some o))) (fun (v10:Unit)=>some (.inr (false,a2))))) (Sum.elim (fun (y5:Bool×(List Lvl))=>some (y5.1,0,y5.2)) (fun (y6:Bool×(List Lvl))=>some (false,15,y6.2)))))
theorem m31f10_ok (a0:Nat) (a1:Bnd) (a2:List Lvl) (r:(Bool×Int×(List Lvl))) (h0:m31f10 a0 a1 a2=some r):CallM Try.prog 31 [.one (.osl 0 0 a0 a0),.agg (cE a1)] ⟨[(0,.cells 39 (flatE a2))],[],1⟩ (resOf [.one (dB r.1),.one (dI r.2.1)]) ⟨m31f10_h33 r,[],8⟩:=by
 unfold m31f10 at h0
 refine CallM.of_bodyD ⟨[(4,.v (.one (.ptr 3 0))),(5,.v (.one (.ptr 4 0)))],m31f10_h33 r,[],8,65,[]⟩ Z Z en_31 (lb Z) Z (RAs.cell ag_4 Z Z Z (RAs.cell ag_25 Z Z Z .nil)) (fun w0 M V0 Q hv0 hQ0=>?_)
 simp only [entry]
 refine XC.seq<|XC.region<|XL.put Z Z (lb Z) (OpOK.box Z)<|XL.put Z Z (lb Z) (OpOK.box Z)<|XL.put Z Z (lb Z) (OpOK.alloc z_4 Z)<|XL.put Z Z (lb Z) (OpOK.alloc z_25 Z)<|XL.nil<|XQ.seq<|XC.seq<|XC.region<|rR Z Z Z (RO.fieldOwn fo_41_0 Z)<|rR Z Z Z (RO.loadOwnAgg ag_39 Z Z Z Z)<|rR Z Z Z (RO.loadOwn ag_31 Z Z Z) ?_
 refine bindK h0 (fun x1 hx1 h0=>?_)
 refine XL.put Z Z (lb Z) (OpOK.callG (hp1':=[(0,.cells 39 (flatE a2)),(6,.cells 39 [dI x1.2.1,dS x1.2.2])]) (tk1':=[]) (hpF:=m31f10_h0 a0 a1) (tkF:=[]) (res2:=resOf [.agg [dI x1.2.1,dS x1.2.2],.one (dI x1.1)]) (nx2:=7) [0] Z Z (m48f11_ok a1.lo a0 a2 x1 hx1) Z Z (qF Z (qB Z Z qZ)) Z Z (gF Z gZ) jZ (hA Z) kZ Z Z Z Z Z (bF Z bZ) Z Z Z Z)<|rM Z Z Z<|rR Z Z Z (RO.extract Z Z)<|rR Z Z Z (RO.extract Z Z)<|XL.put Z Z (lb Z) (OpOK.alloc z_39 Z)<|XL.eff Z Z (OpOK.store ag_39 Z Z Z Z (lb Z) Z)<|rA Z Z Z<|XL.nil<|XQ.seq<|XC.seq<|XC.seq<|XC.region<|rM Z Z Z<|rR Z Z Z (RO.binInt Z Z Z) ?_
 refine XL.nil<|XQ.seq ?_
 refine XC.cond (b:=(x1.1 != 0)) Z (fun c2=>?_) (fun c2=>?_)
 replace h0:=condT c2 h0
 refine XC.seq<|XC.region<|XL.eff Z Z (OpOK.store ag_4 Z Z Z Z (lb Z) Z)<|XL.eff Z Z (OpOK.store ag_25 Z Z Z Z (lb Z) Z)<|XL.nil<|XQ.seq<|XC.ret ?_
 have e:=sI h0;subst e
 exact hQ0 _ _ _ (.inr Z) Z (stle (tA Z) (hA Z) kZ Z (Nat.le_trans hv0 (lb Z)) Z Z Z (bF Z (bA Z)) Z Z)
 replace h0:=condF c2 h0
 refine XC.skip<|XQ.seq<|XC.seq<|XC.region<|XL.put Z Z (lb Z) (OpOK.alloc z_4 Z)<|XL.eff Z Z (OpOK.store ag_4 Z Z Z Z (lb Z) Z)<|XL.nil<|XQ.seq<|XC.seq<|XC.seq<|XC.region<|rR Z Z Z (RO.loadOwnAgg ag_39 Z Z Z Z) ?_
 refine bindK h0 (fun y3 h1 h0=>?_)
 have hc4:CallM Try.prog 40 [.agg [dI x1.2.1,dS x1.2.2]] ⟨m31f10_h1 a2 a0 a1 x1,[],9⟩ (resOf [.one (.fn 62 [(9,0)])]) ⟨m31f10_h2 a2 a0 a1 x1,[],10⟩:=by
  refine CallM.of_bodyD ⟨[(2,.v (.one (.fn 62 [(9,0)])))],m31f10_h2 a2 a0 a1 x1,[],10,4,[]⟩ Z Z en_40 (lb Z) Z (RAs.tmp Z .nil) (fun w0 M V0 Q hv1 hQ1=>?_)
  simp only [entry]
  refine XC.seq<|XC.region<|XL.put Z Z (lb Z) (OpOK.box Z)<|rA Z Z Z<|XL.nil<|XQ.seq<|XC.seq<|XC.region<|rR Z Z Z (RO.makeFunc1 Z)<|rA Z Z Z<|XL.nil<|XQ.seq<|XC.ret ?_
  have e:=sI h1;subst e
  exact hQ1 _ _ _ (.inr Z) Z (stle (tA Z) (hA Z) kZ Z (Nat.le_trans hv1 (lb Z)) Z Z Z (bF Z (bA Z)) Z Z)
 refine XL.put Z Z (lb Z) (OpOK.callW Z Z Z hc4 Z (hA Z) kZ)<|XL.nil<|XQ.seq<|XC.block<|XC.less (st':=⟨[(2,.v (.one (.ptr 1 0))),(3,.v (.one (.ptr 2 0))),(4,.v (.one (.ptr 3 0))),(5,.v (.one (.ptr 4 0))),(8,.v (.one (.ptr 8 0))),(25,.v (.one (.fn 62 [(9,0)])))],m31f10_h2 a2 a0 a1 x1,[],10,65,[]⟩) (stle (tA Z) (hA Z) kZ Z (Nat.le_trans hv0 (lb Z)) Z Z Z (bF Z (bA Z)) Z Z) ?_
 refine bindK h0 (fun y8 h1 h0=>?_)
 have hc7:CallM Try.prog 62 [.one (.yld 11),.one (.ptr 9 0)] ⟨[(11,.loop .ready none [(2,.v (.one (.ptr 1 0))),(3,.v (.one (.ptr 2 0))),(4,.v (.one (.ptr 3 0))),(5,.v (.one (.ptr 4 0))),(8,.v (.one (.ptr 8 0))),(25,.v (.one (.fn 62 [(9,0)])))] 65 #[26] m31f10_c0 m31f10_c1 10),(10,.obj (.deferred (some []))),(0,.cells 39 (flatE a2)),(1,.cells 31 [.osl 0 0 a0 a0]),(2,.cells 41 (cE a1)),(3,.cells 4 [dB false]),(4,.cells 25 [dI 0]),(6,.cells 39 [dI x1.2.1,dS x1.2.2]),(7,.cells 39 [dI x1.2.1,dS x1.2.2]),(8,.cells 4 [dB false]),(9,.cells 39 [dI x1.2.1,dS x1.2.2])],[],12⟩ (resOf []) ⟨(((Sum.elim (fun (y5:Bool×(List Lvl))=>(⟨[],m31f10_h4 y5 a0 a1 x1,[],12,36,[]⟩:St)) (fun (y6:Bool×(List Lvl))=>(⟨[],m31f10_h6 y6 a0 a1 x1,[],16,36,[]⟩:St)))) y8).hp,(((Sum.elim (fun (y5:Bool×(List Lvl))=>(⟨[],m31f10_h4 y5 a0 a1 x1,[],12,36,[]⟩:St)) (fun (y6:Bool×(List Lvl))=>(⟨[],m31f10_h6 y6 a0 a1 x1,[],16,36,[]⟩:St)))) y8).tk,(((Sum.elim (fun (y5:Bool×(List Lvl))=>(⟨[],m31f10_h4 y5 a0 a1 x1,[],12,36,[]⟩:St)) (fun (y6:Bool×(List Lvl))=>(⟨[],m31f10_h6 y6 a0 a1 x1,[],16,36,[]⟩:St)))) y8).nx⟩:=by
  refine CallM.of_bodyS y8 ((Sum.elim (fun (y5:Bool×(List Lvl))=>(⟨[],m31f10_h4 y5 a0 a1 x1,[],12,36,[]⟩:St)) (fun (y6:Bool×(List Lvl))=>(⟨[],m31f10_h6 y6 a0 a1 x1,[],16,36,[]⟩:St)))) rfl rfl en_62 (lb rfl) (fun z_=>by cases z_ <;> rfl) (fun z_=>.nil) (fun w0 M V0 Q hv1 hQ1=>?_)
  simp only [entry]
  refine XC.seq<|XC.seq ?_
  refine XC.joinR2 (fun (v9:Bool×(List Lvl))=>⟨[(0,.v (.one (.yld 11))),(1,.v (.one (.ptr 9 0))),(21,.v (.one (dB false)))],[(0,.cells 39 (flatE v9.2)),(1,.cells 31 [.osl 0 0 a0 a0]),(2,.cells 41 (cE a1)),(3,.cells 4 [dB false]),(4,.cells 25 [dI 0]),(6,.cells 39 [dI x1.2.1,dS x1.2.2]),(7,.cells 39 [dI x1.2.1,dS x1.2.2]),(8,.cells 4 [dB v9.1]),(9,.cells 39 [dI x1.2.1,dS x1.2.2]),(10,.obj (.deferred (some []))),(11,m31f10_h3)],[],12,36,[]⟩) (fun (v10:Unit)=>⟨[(0,.v (.one (.yld 11))),(1,.v (.one (.ptr 9 0))),(21,.v (.one (dB true)))],m31f10_h7 a2 a0 a1 x1,[],16,36,[]⟩) (fun (v9:Bool×(List Lvl))=>(Option.bind (loopN (m31f10_l0 x1 a1 a0) FUEL (0,v9.2,v9.1)) (Sum.elim (fun (o11:(List Lvl)×Bool)=>some (.inl (o11.2,o11.1))) (fun o=>some o)))=some y8) (fun (v10:Unit)=>(some (.inr (false,a2)))=some y8) ?_ ?_ ?_
  refine bindK h1 (fun w2_ h2 h1=>?_)
  refine XC.region<|rR Z Z Z (RO.fieldOwn fo_39_0 Z)<|rR Z Z Z (RO.loadOwn ag_3 Z Z Z)<|rR Z Z Z (RO.binInt Z Z Z)<|rM Z Z Z ?_
  refine XL.case (d:=8) (c:=(decide (0 < x1.2.1))) Z (fun c11=>?_) (fun c11=>?_)
  replace h2:=condT c11 h2
  refine XL.no Z Z<|XL.no Z Z<|XL.no Z Z<|XL.no Z Z<|rR Z Z Z (RO.pickT Z Z)<|rM Z Z Z<|rM Z Z Z<|rR Z Z Z (RO.fieldOwn fo_39_0 Z)<|rR Z Z Z (RO.loadOwn ag_3 Z Z Z)<|rR Z Z Z (RO.build1 bd_39 Z Z Z) ?_
  refine bindK h2 (fun y14 h3 h2=>?_)
  have ha15:ExecOK Try.prog (some 11) m31f10_c0 ⟨[(2,.v (.one (.ptr 1 0))),(3,.v (.one (.ptr 2 0))),(4,.v (.one (.ptr 3 0))),(5,.v (.one (.ptr 4 0))),(8,.v (.one (.ptr 8 0))),(25,.v (.one (.fn 62 [(9,0)]))),(26,.v (.agg [dI x1.2.1,dN]))],m31f10_h8 a2 a0 a1 x1,[],12,65,[]⟩ .normal ⟨[(2,.v (.one (.ptr 1 0))),(3,.v (.one (.ptr 2 0))),(4,.v (.one (.ptr 3 0))),(5,.v (.one (.ptr 4 0))),(8,.v (.one (.ptr 8 0))),(9,.v (.one (.ptr 12 0)))],m31f10_h11 a2 a0 a1 x1,[],13,65,[]⟩:=by
   refine ExecOK.walk (fun w0 M V0 ro n Q hv3 hro3 hQn3=>?_)
   refine XC.region<|XL.put Z Z (lb Z) (OpOK.alloc z_39 Z)<|XL.eff Z Z (OpOK.store ag_39 Z Z Z Z (lb Z) Z)<|XL.nil ?_
   exact XQ.of hQn3 (stle (tA Z) (hA Z) kZ Z (Nat.le_trans hv3 (lb Z)) Z Z Z (bF Z (bA Z)) Z Z)
  have hb16:ExecOK Try.prog (some 11) m31f10_c1 ⟨[(2,.v (.one (.ptr 1 0))),(3,.v (.one (.ptr 2 0))),(4,.v (.one (.ptr 3 0))),(5,.v (.one (.ptr 4 0))),(8,.v (.one (.ptr 8 0))),(9,.v (.one (.ptr 12 0)))],m31f10_h10 a2 a0 a1 x1,[],13,65,[]⟩ ((Sum.elim (fun (_:Bool×(List Lvl))=>(.normal:Exit)) (fun (_:Unit)=>(.ret:Exit))) y14) ((Sum.elim (fun (y12:Bool×(List Lvl))=>(⟨[],m31f10_h12 y12 a0 a1 x1,[],18,65,[]⟩:St)) (fun (y13:Unit)=>(⟨[],m31f10_h13 a2 a0 a1 x1,[],16,65,[]⟩:St))) y14):=by
   refine ExecOK.walk (fun w0 M V0 ro n Q hv3 hro3 hQn3=>?_)
   refine XC.block<|XC.seq<|XC.region<|rR Z Z Z (RO.fieldOwn fo_41_1 Z)<|rR Z Z Z (RO.loadOwnAgg ag_39 Z Z Z Z)<|rR Z Z Z (RO.loadOwn ag_31 Z Z Z) ?_
   refine bindK h3 (fun x17 hx17 h3=>?_)
   refine XL.put Z Z (lb Z) (OpOK.callG (hp1':=[(0,.cells 39 (flatE a2)),(14,.cells 39 [dI x17.2.1,dS x17.2.2])]) (tk1':=[]) (hpF:=m31f10_h14 a0 a1 x1) (tkF:=[]) (res2:=resOf [.agg [dI x17.2.1,dS x17.2.2],.one (dI x17.1)]) (nx2:=15) [0] Z Z (m48f11_ok a1.hi a0 a2 x17 hx17) Z Z (qF Z (qB Z Z qZ)) Z Z (gF Z gZ) jZ (hA Z) kZ Z Z Z Z Z (bF Z bZ) Z Z Z Z)<|rM Z Z Z<|rR Z Z Z (RO.extract Z Z)<|rR Z Z Z (RO.extract Z Z)<|XL.put Z Z (lb Z) (OpOK.alloc z_39 Z)<|XL.eff Z Z (OpOK.store ag_39 Z Z Z Z (lb Z) Z)<|rA Z Z Z<|XL.nil<|XQ.seq<|XC.seq<|XC.seq<|XC.region<|rM Z Z Z<|rR Z Z Z (RO.binInt Z Z Z) ?_
   refine XL.nil<|XQ.seq ?_
   refine XC.cond (b:=(x17.1 != 0)) Z (fun c18=>?_) (fun c18=>?_)
   replace h3:=condT c18 h3
   refine XC.seq<|XC.region<|XL.eff Z Z (OpOK.store ag_4 Z Z Z Z (lb Z) Z)<|XL.eff Z Z (OpOK.store ag_25 Z Z Z Z (lb Z) Z)<|XL.nil<|XQ.seq<|XC.ret ?_
   have e:=sI h3;subst e
   exact XQ.of (e:=.ret) (st':=⟨[],m31f10_h13 a2 a0 a1 x1,[],16,65,[]⟩) hQn3 (stle tZ (hA Z) kZ Z (Nat.le_trans hv3 (lb Z)) Z Z Z (bF Z (bA Z)) Z Z)
   replace h3:=condF c18 h3
   refine XC.skip<|XQ.seq<|XC.seq<|XC.seq<|XC.region<|rR Z Z Z (RO.loadOwnAgg ag_39 Z Z Z Z)<|rR Z Z Z (RO.loadOwnAgg ag_39 Z Z Z Z) ?_
   refine bindK h3 (fun y19 h4 h3=>?_)
   have hc20:CallM Try.prog 49 [.agg [dI x1.2.1,dN],.agg [dI x17.2.1,dS x17.2.2]] ⟨m31f10_h15 a2 a0 a1 x1 x17,[],16⟩ (resOf [.one (dB y19)]) ⟨m31f10_h15 a2 a0 a1 x1 x17,[],18⟩:=by
    refine CallM.of_bodyD ⟨[(4,.v (.one (dB y19)))],m31f10_h15 a2 a0 a1 x1 x17,[],18,49,[]⟩ Z Z en_49 (lb Z) Z (RAs.tmp Z .nil) (fun w0 M V0 Q hv4 hQ4=>?_)
    simp only [entry]
    refine XC.seq<|XC.region<|XL.put Z Z (lb Z) (OpOK.box Z)<|XL.put Z Z (lb Z) (OpOK.box Z)<|rA Z Z Z<|XL.nil<|XQ.seq<|XC.seq<|XC.seq ?_
    refine XC.joinR (fun (v21:Bool)=>⟨[(2,.v (.one (.ptr 16 0))),(3,.v (.one (.ptr 17 0))),(17,.v (.one (dB v21)))],m31f10_h16 a2 a0 a1 x1 x17,[],18,49,[]⟩) (fun (v21:Bool)=>(cond v21
        (some false)
        (Option.bind (loopN (m31f10_l1 x17) FUEL (x17.2.1,0)) (fun (o23:Int)=>cond (decide (o23 < x1.2.1))
        (some false)
        (Option.bind (loopN (m31f10_l2 x17) FUEL 0) (Sum.elim (fun (o25:Unit)=>some true) (fun o=>some o))))))=some y19) ?_ ?_
    refine bindK h4 (fun w5_ h5 h4=>?_)
    refine XC.region<|rR Z Z Z (RO.loadOwnAgg ag_39 Z Z Z Z) ?_
    refine bindK h5 (fun x22 hx22 h5=>?_)
    refine XL.put Z Z (lb Z) (OpOK.callFun (m28_ok (⟨x1.2.1,([]:List LV)⟩:Lvl) x22 hx22) Z (.cons (.agg (.cons (.d _) (.cons (.nil _) .nil))) .nil))<|rR Z Z Z (RO.not Z)<|rM Z Z Z ?_
    refine XL.case (d:=13) (c:=(!x22)) Z (fun c23=>?_) (fun c23=>?_)
    replace h5:=condT c23 h5
    refine XL.no Z Z<|XL.no Z Z<|XL.no Z Z<|rR Z Z Z (RO.pickT Z Z)<|XL.nil ?_
    have e:=sI h5;subst e
    exact XQ.joinR true (stle (tA Z) (hA Z) kZ Z (Nat.le_trans hv4 (lb Z)) Z Z Z (bF Z (bA Z)) Z Z) h4
    replace h5:=condF c23 h5
    refine rR Z Z Z (RO.loadOwnAgg ag_39 Z Z Z Z) ?_
    refine bindK h5 (fun x24 hx24 h5=>?_)
    refine XL.put Z Z (lb Z) (OpOK.callFun (m28_ok (⟨x17.2.1,x17.2.2⟩:Lvl) x24 hx24) Z (.cons (.agg (.cons (.d _) (.cons (.d _) .nil))) .nil))<|rR Z Z Z (RO.not Z)<|rR Z Z Z (RO.pickF Z Z)<|XL.nil ?_
    have e:=sI h5;subst e
    exact XQ.joinR (!x24) (stle (tA Z) (hA Z) kZ Z (Nat.le_trans hv4 (lb Z)) Z Z Z (bF Z (bA Z)) Z Z) h4
    intro v21 h4
    refine XQ.seq ?_
    refine XC.cond (b:=v21) Z (fun c25=>?_) (fun c25=>?_)
    replace h4:=condT c25 h4
    refine XC.seq<|XC.region<|rA Z Z Z<|XL.nil<|XQ.seq<|XC.ret ?_
    have e:=sI h4;subst e
    exact hQ4 _ _ _ (.inr Z) Z (stle (tA Z) (hA Z) kZ Z (Nat.le_trans hv4 (lb Z)) Z Z Z (bF Z (bA Z)) Z Z)
    replace h4:=condF c25 h4
    refine XC.skip<|XQ.seq<|XC.seq<|XC.region<|rR Z Z Z (RO.fieldOwn fo_39_0 Z)<|rR Z Z Z (RO.loadOwn ag_3 Z Z Z)<|rA Z Z Z<|XL.nil<|XQ.seq<|XC.seq<|XC.seq<|XC.region<|rR Z Z Z (RO.fieldOwn fo_39_1 Z)<|rR Z Z Z (RO.loadOwn ag_37 Z Z Z) ?_
    refine rR Z Z Z (RO.lenE (α:=LV) sl_37 Z (.d _))<|rM Z Z Z<|XL.nil<|XQ.seq<|XC.block ?_
    refine XC.joinX 0 (fun (o26:Int)=>⟨[(2,.v (.one (.ptr 16 0))),(3,.v (.one (.ptr 17 0))),(5,.v (.one (dI o26)))],m31f10_h16 a2 a0 a1 x1 x17,[],18,49,[]⟩) (fun (o26:Int)=>(cond (decide (o26 < x1.2.1))
        (some false)
        (Option.bind (loopN (m31f10_l2 x17) FUEL 0) (Sum.elim (fun (o28:Unit)=>some true) (fun o=>some o))))=some y19) ?_ ?_
    refine bindK h4 (fun o27 hl5 h4=>?_)
    refine XC.loopM (m31f10_l1 x17) (fun s5=>⟨[(2,.v (.one (.ptr 16 0))),(3,.v (.one (.ptr 17 0))),(5,.v (.one (dI s5.1))),(21,.v (.one (dS x17.2.2))),(22,.v (.one (dI (x17.2.2.length:Int)))),(23,.v (.one (dI s5.2)))],m31f10_h16 a2 a0 a1 x1 x17,[],18,49,[]⟩) (x17.2.1,0) o27 (stle (tA Z) (hA Z) kZ Z (Nat.le_trans hv4 (lb Z)) Z Z Z (bF Z (bA Z)) Z Z) hl5 (fun s5 n5 oo5 h5 ho5=>?_)
    unfold m31f10_l1 at h5
    refine XC.seq<|XC.region<|rR Z Z Z (RO.binInt Z Z Z)<|XL.nil<|XQ.seq<|XC.seq ?_
    refine XC.cond (b:=(decide (s5.2 < (x17.2.2.length:Int)))) Z (fun c28=>?_) (fun c28=>?_)
    replace h5:=condT c28 h5
    refine XC.skip<|XQ.seq<|XC.seq<|XC.block<|XC.seq<|XC.region ?_
    refine bindK h5 (fun x29 hx29 h5=>?_)
    refine rR Z Z Z (RO.indexE (α:=LV) sl_37 Z (.d _) Z hx29)<|rR Z Z Z (RO.loadPelCE (x29:LV) ag_59 Z)<|XL.put Z Z (lb Z) (OpOK.alloc z_59 Z)<|XL.eff Z Z (OpOK.storeCE (x29:LV) ag_59 Z Z Z Z Z)<|XL.nil<|XQ.seq<|XC.region<|rM Z Z Z<|rR Z Z Z (RO.fieldOwn fo_59_1 Z)<|rR Z Z Z (RO.loadOwn ag_3 Z Z Z)<|rR Z Z Z (RO.max2 Z Z)<|rA Z Z Z<|XL.nil<|XQ.inBlock ?_
    refine XQ.seq<|XC.region<|rR Z Z Z (RO.binInt Z Z Z)<|rM Z Z Z<|XL.nil ?_
    have e:=sI h5;subst e
    refine XQ.nextM ((max s5.1 x29.2),(w64 (s5.2+1))) (stle (tA Z) (hA Z) kZ Z (Nat.le_trans hv4 (lb Z)) Z Z Z (bF Z (bA Z)) Z Z) ho5
    replace h5:=condF c28 h5
    refine XC.exit<|XQ.thenE<|XQ.thenE ?_
    have e:=sI h5;subst e
    have e_:_=_:=ho5
    subst e_
    exact XQ.joinX s5.1 (stle (tA Z) (hA Z) kZ Z (Nat.le_trans hv4 (lb Z)) Z Z Z (bF Z (bA Z)) Z Z) h4
    intro o26 h4
    refine XQ.blockX<|XQ.seq<|XC.seq<|XC.seq<|XC.region<|rR Z Z Z (RO.fieldOwn fo_39_0 Z)<|rR Z Z Z (RO.loadOwn ag_3 Z Z Z)<|rM Z Z Z<|rR Z Z Z (RO.binInt Z Z Z)<|XL.nil<|XQ.seq ?_
    refine XC.cond (b:=(decide (o26 < x1.2.1))) Z (fun c30=>?_) (fun c30=>?_)
    replace h4:=condT c30 h4
    refine XC.seq<|XC.region<|rA Z Z Z<|XL.nil<|XQ.seq<|XC.ret ?_
    have e:=sI h4;subst e
    exact hQ4 _ _ _ (.inr Z) Z (stle (tA Z) (hA Z) kZ Z (Nat.le_trans hv4 (lb Z)) Z Z Z (bF Z (bA Z)) Z Z)
    replace h4:=condF c30 h4
    refine XC.skip<|XQ.seq<|XC.seq<|XC.seq<|XC.region<|rR Z Z Z (RO.fieldOwn fo_39_1 Z)<|rR Z Z Z (RO.loadOwn ag_37 Z Z Z)<|rR Z Z Z (RO.lenE (α:=LV) sl_37 Z .nil)<|rM Z Z Z<|XL.nil<|XQ.seq<|XC.block ?_
    refine XC.joinX 2 (fun (o31:Unit)=>⟨[],m31f10_h16 a2 a0 a1 x1 x17,[],18,49,[]⟩) (fun (o31:Unit)=>(some true)=some y19) ?_ ?_
    refine bindK h4 (fun o32 hl5 h4=>?_)
    refine XC.loopM (m31f10_l2 x17) (fun s5=>⟨[(3,.v (.one (.ptr 17 0))),(37,.v (.one (dN))),(38,.v (.one (dI (([]:List LV).length:Int)))),(39,.v (.one (dI s5)))],m31f10_h16 a2 a0 a1 x1 x17,[],18,49,[]⟩) 0 o32 (stle (tA Z) (hA Z) kZ Z (Nat.le_trans hv4 (lb Z)) Z Z Z (bF Z (bA Z)) Z Z) hl5 (fun s5 n5 oo5 h5 ho5=>?_)
    unfold m31f10_l2 at h5
    refine XC.seq<|XC.region<|rR Z Z Z (RO.binInt Z Z Z)<|XL.nil<|XQ.seq<|XC.seq ?_
    refine XC.cond (b:=(decide (s5 < (([]:List LV).length:Int)))) Z (fun c33=>?_) (fun c33=>?_)
    replace h5:=condT c33 h5
    refine XC.skip<|XQ.seq<|XC.seq<|XC.block<|XC.seq<|XC.region ?_
    refine bindK h5 (fun x34 hx34 h5=>?_)
    refine rR Z Z Z (RO.indexE (α:=LV) sl_37 Z .nil Z hx34)<|rR Z Z Z (RO.loadPelCE (x34:LV) ag_59 Z)<|XL.put Z Z (lb Z) (OpOK.alloc z_59 Z)<|XL.eff Z Z (OpOK.storeCE (x34:LV) ag_59 Z Z Z Z Z)<|XL.nil<|XQ.seq<|XC.seq<|XC.region<|rR Z Z Z (RO.fieldOwn fo_39_1 Z)<|rR Z Z Z (RO.loadOwn ag_37 Z Z Z)<|rR Z Z Z (RO.makeFunc1 Z) ?_
    refine bindK h5 (fun x35 hx35 h5=>?_)
    refine XL.put Z Z (lb Z) (OpOK.callG (hp1':=[(18,.cells 59 (cE x34))]) (tk1':=[]) (hpF:=m31f10_h16 a2 a0 a1 x1 x17) (tkF:=[]) (res2:=resOf [.one (dB x35)]) (nx2:=19) [18] Z Z (m70f15_ok x17.2.2 x34 x35 hx35) Z Z (qB Z Z qZ) Z Z (gR Z gZ) jZ (hA Z) kZ Z Z Z Z Z (bA Z) Z Z Z Z)<|rR Z Z Z (RO.not Z)<|XL.nil<|XQ.seq ?_
    refine XC.cond (b:=(!x35)) Z (fun c36=>?_) (fun c36=>?_)
    replace h5:=condT c36 h5
    refine XC.seq<|XC.region<|rA Z Z Z<|XL.nil<|XQ.seq<|XC.ret ?_
    have e:=sI h5;subst e
    have e_:_=_:=ho5
    subst e_
    try dsimp only [Sum.elim_inl,Sum.elim_inr] at h4
    have e:=sI h4;subst e
    exact hQ4 _ _ _ (.inr Z) Z (stle (tA Z) (hA Z) kZ Z (Nat.le_trans hv4 (lb Z)) Z Z Z (bF Z (bA Z)) Z Z)
    replace h5:=condF c36 h5
    refine XC.skip<|XQ.inBlock<|XQ.seq<|XC.region<|rR Z Z Z (RO.binInt Z Z Z)<|rM Z Z Z<|XL.nil ?_
    have e:=sI h5;subst e
    refine XQ.nextM (w64 (s5+1)) (stle (tA Z) (hA Z) kZ Z (Nat.le_trans hv4 (lb Z)) Z Z Z (bF Z (bA Z)) Z Z) ho5
    replace h5:=condF c33 h5
    refine XC.exit<|XQ.thenE<|XQ.thenE ?_
    have e:=sI h5;subst e
    have e_:_=_:=ho5
    subst e_
    exact XQ.joinX () (stle tZ (hA Z) kZ Z (Nat.le_trans hv4 (lb Z)) Z Z Z (bF Z (bA Z)) Z Z) h4
    intro o31 h4
    refine XQ.blockX<|XQ.seq<|XC.seq<|XC.region<|rA Z Z Z<|XL.nil<|XQ.seq<|XC.ret ?_
    have e:=sI h4;subst e
    exact hQ4 _ _ _ (.inr Z) Z (stle (tA Z) (hA Z) kZ Z (Nat.le_trans hv4 (lb Z)) Z Z Z (bF Z (bA Z)) Z Z)
   refine XL.put Z Z (lb Z) (OpOK.callW Z Z Z hc20 Z (hA Z) kZ)<|XL.nil<|XQ.seq ?_
   refine XC.cond (b:=y19) Z (fun c37=>?_) (fun c37=>?_)
   replace h3:=condT c37 h3
   refine XC.exit<|XQ.thenE<|XQ.blockX ?_
   have e:=sI h3;subst e
   exact XQ.of (e:=.normal) (st':=⟨[],m31f10_h17 a2 a0 a1 x1,[],18,65,[]⟩) hQn3 (stle tZ (hA Z) kZ Z (Nat.le_trans hv3 (lb Z)) Z Z Z (bF Z (bA Z)) Z Z)
   replace h3:=condF c37 h3
   refine XC.skip<|XQ.seq<|XC.seq<|XC.region<|rR Z Z Z (RO.fieldOwn fo_41_1 Z)<|rR Z Z Z (RO.loadOwnAgg ag_39 Z Z Z Z) ?_
   refine bindK h3 (fun x38 hx38 h3=>?_)
   refine XL.put Z Z (lb Z) (OpOK.callFun (m54_ok a1.hi x38 hx38) Z (.cons (.agg (.cons (.d _) (.cons (.d _) .nil))) .nil))<|rM Z Z Z<|rR Z Z Z (RO.extract Z Z)<|rR Z Z Z (RO.extract Z Z)<|rA Z Z Z<|rA Z Z Z<|XL.nil<|XQ.seq<|XC.seq<|XC.seq<|XC.region<|rM Z Z Z<|rR Z Z Z (RO.binInt Z Z Z)<|XL.nil ?_
   refine XQ.seq ?_
   refine XC.cond (b:=(decide (x38.1 < 0))) Z (fun c39=>?_) (fun c39=>?_)
   replace h3:=condT c39 h3
   refine XC.seq<|XC.region<|XL.eff Z Z (OpOK.store ag_4 Z Z Z Z (lb Z) Z)<|XL.eff Z Z (OpOK.store ag_25 Z Z Z Z (lb Z) Z)<|XL.nil<|XQ.seq<|XC.ret ?_
   have e:=sI h3;subst e
   exact XQ.of (e:=.ret) (st':=⟨[],m31f10_h13 a2 a0 a1 x1,[],16,65,[]⟩) hQn3 (stle tZ (hA Z) kZ Z (Nat.le_trans hv3 (lb Z)) Z Z Z (bF Z (bA Z)) Z Z)
   replace h3:=condF c39 h3
   refine XC.skip<|XQ.seq<|XC.seq ?_
   refine XC.anyRun [11,12] [(0,1),(1,1),(2,1),(3,1),(4,1),(5,1),(6,1),(7,1),(8,1),(9,1),(10,1),(10,2)] mixed (by kernel_rfl) (by kernel_rfl) (by kernel_rfl) ?_
   refine RunA.rd Z Z Z (OpOK.of_ro (RO.loadOwn ag_31 Z Z Z)) Z<|RunA.rd Z Z Z (OpOK.of_ro (RO.move Z)) Z ?_
   refine bindK h3 (fun x40 hx40 h3=>?_)
   refine guardK h3 (fun g41 h3=>?_)
   refine RunA.rd Z Z Z (OpOK.of_ro (RO.indexO (α:=Lvl) sl_31 Z Z hx40 g41)) Z<|RunA.rd Z Z Z (OpOK.of_ro (RO.loadOE (α:=Lvl) (ys:=[dI x40.c,dS x40.vs]) ag_39 Z Z hx40 Z)) Z<|RunA.rd Z Z Z (OpOK.of_ro (RO.loadOwnAgg ag_39 Z Z Z Z)) Z<|RunA.rd Z Z Z (OpOK.of_ro (RO.move Z)) Z ?_
   refine bindK h3 (fun x42 hx42 h3=>?_)
   refine RunA.rd Z Z Z (OpOK.callFun (m56_ok (⟨x1.2.1,([]:List LV)⟩:Lvl) x38.2 x42 hx42) Z (.cons (.agg (.cons (.d _) (.cons (.nil _) .nil))) (.cons (.one (.d _)) .nil))) Z ?_
   refine bindK h3 (fun x43 hx43 h3=>?_)
   refine RunA.rd Z Z Z (OpOK.callFun (m55_ok x40 x42 x43 hx43) Z (.cons (.agg (.cons (.d _) (.cons (.d _) .nil))) (.cons (.agg (.cons (.d _) (.cons (.d _) .nil))) .nil))) Z<|RunA.rd Z Z Z (OpOK.of_ro (RO.move Z)) Z<|RunA.rd Z Z Z (OpOK.of_ro (RO.extract Z Z)) Z<|RunA.rd Z Z Z (OpOK.of_ro (RO.extract Z Z)) Z<|RunA.eff Z Z Z (OpOK.alloc z_39 Z) Z<|RunA.eff Z Z Z (OpOK.storeCE (x43.1:Lvl) ag_39 Z Z Z Z Z) Z<|RunA.rd Z Z Z (OpOK.of_ro (RO.assign Z)) Z ?_
   refine RunA.nil ⟨?ex,_,_,Z,?_⟩
   case ex=>exact ⟨⟨_,rfl,_,_,rfl,rfl,rfl,.inl ⟨rfl,_,OpOK.of_ro (RO.loadOwn ag_31 rfl rfl rfl),rfl⟩⟩,⟨_,rfl,_,_,rfl,rfl,rfl,.inl ⟨rfl,_,OpOK.of_ro (RO.move rfl),rfl⟩⟩,⟨_,rfl,_,_,rfl,rfl,rfl,.inl ⟨rfl,_,OpOK.of_ro (RO.indexO (α:=Lvl) sl_31 rfl rfl hx40 g41),rfl⟩⟩,⟨_,rfl,_,_,rfl,rfl,rfl,.inl ⟨rfl,_,OpOK.of_ro (RO.loadOE (α:=Lvl) (ys:=[dI x40.c,dS x40.vs]) ag_39 rfl rfl hx40 rfl),rfl⟩⟩,⟨_,rfl,_,_,rfl,rfl,rfl,.inl ⟨rfl,_,OpOK.of_ro (RO.loadOwnAgg ag_39 rfl rfl rfl rfl),rfl⟩⟩,⟨_,rfl,_,_,rfl,rfl,rfl,.inl ⟨rfl,_,OpOK.of_ro (RO.move rfl),rfl⟩⟩,⟨_,rfl,_,_,rfl,rfl,rfl,.inl ⟨rfl,_,OpOK.callFun (m56_ok (⟨x1.2.1,([]:List LV)⟩:Lvl) x38.2 x42 hx42) rfl (.cons (.agg (.cons (.d _) (.cons (.nil _) .nil))) (.cons (.one (.d _)) .nil)),rfl⟩⟩,⟨_,rfl,_,_,rfl,rfl,rfl,.inl ⟨rfl,_,OpOK.callFun (m55_ok x40 x42 x43 hx43) rfl (.cons (.agg (.cons (.d _) (.cons (.d _) .nil))) (.cons (.agg (.cons (.d _) (.cons (.d _) .nil))) .nil)),rfl⟩⟩,⟨_,rfl,_,_,rfl,rfl,rfl,.inl ⟨rfl,_,OpOK.of_ro (RO.move rfl),rfl⟩⟩,⟨_,rfl,_,_,rfl,rfl,rfl,.inl ⟨rfl,_,OpOK.of_ro (RO.extract rfl rfl),rfl⟩⟩,⟨_,rfl,_,_,rfl,rfl,rfl,.inl ⟨rfl,_,OpOK.of_ro (RO.extract rfl rfl),rfl⟩⟩,⟨_,rfl,_,_,rfl,rfl,rfl,.inl ⟨rfl,_,OpOK.of_ro (RO.extract rfl rfl),rfl⟩⟩,trivial⟩
   refine XQ.less (st':=⟨[(2,.v (.one (.ptr 1 0))),(4,.v (.one (.ptr 3 0))),(5,.v (.one (.ptr 4 0))),(8,.v (.one (.ptr 8 0))),(11,.v (.one (dI x43.2))),(12,.v (.one (dI x38.1))),(14,.v (.one (.ptr 18 0)))],m31f10_h18 a2 a0 a1 x1 x17 x43,[],19,65,[]⟩) (stle (tA Z) (hA Z) kZ Z (Nat.le_trans hv3 (lb Z)) Z Z Z (bF Z (bA Z)) Z Z)<|XQ.seq<|XC.seq<|XC.seq<|XC.region<|rM Z Z Z<|rR Z Z Z (RO.binInt Z Z Z)<|XL.nil<|XQ.seq ?_
   refine XC.cond (b:=(x43.2 != 0)) Z (fun c44=>?_) (fun c44=>?_)
   replace h3:=condT c44 h3
   refine XC.seq<|XC.region<|XL.eff Z Z (OpOK.store ag_4 Z Z Z Z (lb Z) Z)<|XL.eff Z Z (OpOK.store ag_25 Z Z Z Z (lb Z) Z)<|XL.nil<|XQ.seq<|XC.ret ?_
   have e:=sI h3;subst e
   exact XQ.of (e:=.ret) (st':=⟨[],m31f10_h13 a2 a0 a1 x1,[],16,65,[]⟩) hQn3 (stle tZ (hA Z) kZ Z (Nat.le_trans hv3 (lb Z)) Z Z Z (bF Z (bA Z)) Z Z)
   replace h3:=condF c44 h3
   refine XC.skip<|XQ.seq<|XC.region<|rR Z Z Z (RO.loadOwn ag_31 Z Z Z)<|rM Z Z Z<|rR Z Z Z (RO.loadCE (x43.1:Lvl) ag_39 Z Z) ?_
   refine bindK h3 (fun x45 hx45 h3=>?_)
   refine guardK h3 (fun g46 h3=>?_)
   refine rR Z Z Z (RO.indexO (α:=Lvl) sl_31 Z Z hx45 g46)<|XL.eff Z Z (OpOK.storeOE (α:=Lvl) (y':=.agg [dI x43.1.c,dS x43.1.vs]) (v:=x43.1) ag_39 Z Z (.agg (.cons (.d _) (.cons (.d _) .nil))) Z Z hx45 Z)<|XL.eff Z Z (OpOK.store ag_4 Z Z Z Z (lb Z) Z)<|XL.nil<|XQ.inBlock ?_
   have e:=sI h3;subst e
   exact XQ.of (e:=.normal) (st':=⟨[],m31f10_h19 a2 x38 x43 a0 a1 x1,[],18,65,[]⟩) hQn3 (stle tZ (hA Z) kZ Z (Nat.le_trans hv3 (lb Z)) Z Z Z (bF Z (bA Z)) Z Z)
  refine sumK (C:=fun q_=>ExecOK Try.prog (some 11) m31f10_c1 ⟨[(2,.v (.one (.ptr 1 0))),(3,.v (.one (.ptr 2 0))),(4,.v (.one (.ptr 3 0))),(5,.v (.one (.ptr 4 0))),(8,.v (.one (.ptr 8 0))),(9,.v (.one (.ptr 12 0)))],m31f10_h10 a2 a0 a1 x1,[],13,65,[]⟩ ((Sum.elim (fun (_:Bool×(List Lvl))=>(.normal:Exit)) (fun (_:Unit)=>(.ret:Exit))) q_) ((Sum.elim (fun (y12:Bool×(List Lvl))=>(⟨[],m31f10_h12 y12 a0 a1 x1,[],18,65,[]⟩:St)) (fun (y13:Unit)=>(⟨[],m31f10_h13 a2 a0 a1 x1,[],16,65,[]⟩:St))) q_)) hb16 h2 (fun y12 hb16 h2=>?_) (fun y13 hb16 h2=>?_)
  replace hb16:ExecOK Try.prog (some 11) m31f10_c1 ⟨[(2,.v (.one (.ptr 1 0))),(3,.v (.one (.ptr 2 0))),(4,.v (.one (.ptr 3 0))),(5,.v (.one (.ptr 4 0))),(8,.v (.one (.ptr 8 0))),(9,.v (.one (.ptr 12 0)))],m31f10_h10 a2 a0 a1 x1,[],13,65,[]⟩ .normal ⟨[],m31f10_h12 y12 a0 a1 x1,[],18,65,[]⟩:=hb16
  refine XL.put Z Z (lb Z) (OpOK.yield (jump:=none) Z Z Z Z Z (ExecOK.from ha15 (fun E hv=>(stle (tA Z) (hA Z) kZ Z (Nat.le_trans hv (lb Z)) Z Z Z (bF Z (bA Z)) Z Z))) Z (ExecOK.from hb16 (fun E hv=>(stle (tA Z) (hA Z) kZ Z (Nat.le_trans hv (lb Z)) Z Z Z (bF Z (bA Z)) Z Z))) Z Z) ?_
  refine rR Z Z Z (RO.not Z)<|rR Z Z Z (RO.pickT Z Z)<|XL.nil ?_
  have e:=sI h2;subst e
  exact XQ.joinRl (y12.1,y12.2) (stle (tA Z) (hA Z) kZ Z (Nat.le_trans hv1 (lb Z)) Z Z Z (bF Z (bA Z)) Z Z) h1
  replace hb16:ExecOK Try.prog (some 11) m31f10_c1 ⟨[(2,.v (.one (.ptr 1 0))),(3,.v (.one (.ptr 2 0))),(4,.v (.one (.ptr 3 0))),(5,.v (.one (.ptr 4 0))),(8,.v (.one (.ptr 8 0))),(9,.v (.one (.ptr 12 0)))],m31f10_h10 a2 a0 a1 x1,[],13,65,[]⟩ .ret ⟨[],m31f10_h13 a2 a0 a1 x1,[],16,65,[]⟩:=hb16
  refine XL.put Z Z (lb Z) (OpOK.yield (jump:=(some .ret)) Z Z Z Z Z (ExecOK.from ha15 (fun E hv=>(stle (tA Z) (hA Z) kZ Z (Nat.le_trans hv (lb Z)) Z Z Z (bF Z (bA Z)) Z Z))) Z (ExecOK.from hb16 (fun E hv=>(stle (tA Z) (hA Z) kZ Z (Nat.le_trans hv (lb Z)) Z Z Z (bF Z (bA Z)) Z Z))) Z Z) ?_
  refine rR Z Z Z (RO.not Z)<|rR Z Z Z (RO.pickT Z Z)<|XL.nil ?_
  have e:=sI h2;subst e
  exact XQ.joinRr () (stle (tA Z) (hA Z) kZ Z (Nat.le_trans hv1 (lb Z)) Z Z Z (bF Z (bA Z)) Z Z) h1
  replace h2:=condF c11 h2
  refine rR Z Z Z (RO.fieldOwn fo_39_1 Z)<|rR Z Z Z (RO.loadOwn ag_37 Z Z Z)<|rR Z Z Z (RO.lenE (α:=LV) sl_37 Z (.d _))<|rR Z Z Z (RO.binInt Z Z Z)<|rR Z Z Z (RO.pickF Z Z)<|rM Z Z Z ?_
  refine XL.case (d:=14) (c:=((x1.2.2.length:Int)==0)) Z (fun c47=>?_) (fun c47=>?_)
  replace h2:=condT c47 h2
  refine rM Z Z Z<|rR Z Z Z (RO.fieldOwn fo_39_0 Z)<|rR Z Z Z (RO.loadOwn ag_3 Z Z Z)<|rR Z Z Z (RO.build1 bd_39 Z Z Z) ?_
  refine bindK h2 (fun y50 h3 h2=>?_)
  have ha51:ExecOK Try.prog (some 11) m31f10_c0 ⟨[(2,.v (.one (.ptr 1 0))),(3,.v (.one (.ptr 2 0))),(4,.v (.one (.ptr 3 0))),(5,.v (.one (.ptr 4 0))),(8,.v (.one (.ptr 8 0))),(25,.v (.one (.fn 62 [(9,0)]))),(26,.v (.agg [dI x1.2.1,dN]))],m31f10_h8 a2 a0 a1 x1,[],12,65,[]⟩ .normal ⟨[(2,.v (.one (.ptr 1 0))),(3,.v (.one (.ptr 2 0))),(4,.v (.one (.ptr 3 0))),(5,.v (.one (.ptr 4 0))),(8,.v (.one (.ptr 8 0))),(9,.v (.one (.ptr 12 0)))],m31f10_h11 a2 a0 a1 x1,[],13,65,[]⟩:=by
   refine ExecOK.walk (fun w0 M V0 ro n Q hv3 hro3 hQn3=>?_)
   refine XC.region<|XL.put Z Z (lb Z) (OpOK.alloc z_39 Z)<|XL.eff Z Z (OpOK.store ag_39 Z Z Z Z (lb Z) Z)<|XL.nil ?_
   exact XQ.of hQn3 (stle (tA Z) (hA Z) kZ Z (Nat.le_trans hv3 (lb Z)) Z Z Z (bF Z (bA Z)) Z Z)
  have hb52:ExecOK Try.prog (some 11) m31f10_c1 ⟨[(2,.v (.one (.ptr 1 0))),(3,.v (.one (.ptr 2 0))),(4,.v (.one (.ptr 3 0))),(5,.v (.one (.ptr 4 0))),(8,.v (.one (.ptr 8 0))),(9,.v (.one (.ptr 12 0)))],m31f10_h10 a2 a0 a1 x1,[],13,65,[]⟩ ((Sum.elim (fun (_:Bool×(List Lvl))=>(.normal:Exit)) (fun (_:Unit)=>(.ret:Exit))) y50) ((Sum.elim (fun (y48:Bool×(List Lvl))=>(⟨[],m31f10_h12 y48 a0 a1 x1,[],18,65,[]⟩:St)) (fun (y49:Unit)=>(⟨[],m31f10_h13 a2 a0 a1 x1,[],16,65,[]⟩:St))) y50):=by
   refine ExecOK.walk (fun w0 M V0 ro n Q hv3 hro3 hQn3=>?_)
   refine XC.block<|XC.seq<|XC.region<|rR Z Z Z (RO.fieldOwn fo_41_1 Z)<|rR Z Z Z (RO.loadOwnAgg ag_39 Z Z Z Z)<|rR Z Z Z (RO.loadOwn ag_31 Z Z Z) ?_
   refine bindK h3 (fun x53 hx53 h3=>?_)
   refine XL.put Z Z (lb Z) (OpOK.callG (hp1':=[(0,.cells 39 (flatE a2)),(14,.cells 39 [dI x53.2.1,dS x53.2.2])]) (tk1':=[]) (hpF:=m31f10_h14 a0 a1 x1) (tkF:=[]) (res2:=resOf [.agg [dI x53.2.1,dS x53.2.2],.one (dI x53.1)]) (nx2:=15) [0] Z Z (m48f11_ok a1.hi a0 a2 x53 hx53) Z Z (qF Z (qB Z Z qZ)) Z Z (gF Z gZ) jZ (hA Z) kZ Z Z Z Z Z (bF Z bZ) Z Z Z Z)<|rM Z Z Z<|rR Z Z Z (RO.extract Z Z)<|rR Z Z Z (RO.extract Z Z)<|XL.put Z Z (lb Z) (OpOK.alloc z_39 Z)<|XL.eff Z Z (OpOK.store ag_39 Z Z Z Z (lb Z) Z)<|rA Z Z Z<|XL.nil<|XQ.seq<|XC.seq<|XC.seq<|XC.region<|rM Z Z Z<|rR Z Z Z (RO.binInt Z Z Z) ?_
   refine XL.nil<|XQ.seq ?_
   refine XC.cond (b:=(x53.1 != 0)) Z (fun c54=>?_) (fun c54=>?_)
   replace h3:=condT c54 h3
   refine XC.seq<|XC.region<|XL.eff Z Z (OpOK.store ag_4 Z Z Z Z (lb Z) Z)<|XL.eff Z Z (OpOK.store ag_25 Z Z Z Z (lb Z) Z)<|XL.nil<|XQ.seq<|XC.ret ?_
   have e:=sI h3;subst e
   exact XQ.of (e:=.ret) (st':=⟨[],m31f10_h13 a2 a0 a1 x1,[],16,65,[]⟩) hQn3 (stle tZ (hA Z) kZ Z (Nat.le_trans hv3 (lb Z)) Z Z Z (bF Z (bA Z)) Z Z)
   replace h3:=condF c54 h3
   refine XC.skip<|XQ.seq<|XC.seq<|XC.seq<|XC.region<|rR Z Z Z (RO.loadOwnAgg ag_39 Z Z Z Z)<|rR Z Z Z (RO.loadOwnAgg ag_39 Z Z Z Z) ?_
   refine bindK h3 (fun y55 h4 h3=>?_)
   have hc56:CallM Try.prog 49 [.agg [dI x1.2.1,dN],.agg [dI x53.2.1,dS x53.2.2]] ⟨m31f10_h15 a2 a0 a1 x1 x53,[],16⟩ (resOf [.one (dB y55)]) ⟨m31f10_h15 a2 a0 a1 x1 x53,[],18⟩:=by
    refine CallM.of_bodyD ⟨[(4,.v (.one (dB y55)))],m31f10_h15 a2 a0 a1 x1 x53,[],18,49,[]⟩ Z Z en_49 (lb Z) Z (RAs.tmp Z .nil) (fun w0 M V0 Q hv4 hQ4=>?_)
    simp only [entry]
    refine XC.seq<|XC.region<|XL.put Z Z (lb Z) (OpOK.box Z)<|XL.put Z Z (lb Z) (OpOK.box Z)<|rA Z Z Z<|XL.nil<|XQ.seq<|XC.seq<|XC.seq ?_
    refine XC.joinR (fun (v57:Bool)=>⟨[(2,.v (.one (.ptr 16 0))),(3,.v (.one (.ptr 17 0))),(17,.v (.one (dB v57)))],m31f10_h16 a2 a0 a1 x1 x53,[],18,49,[]⟩) (fun (v57:Bool)=>(cond v57
        (some false)
        (Option.bind (loopN (m31f10_l1 x53) FUEL (x53.2.1,0)) (fun (o59:Int)=>cond (decide (o59 < x1.2.1))
        (some false)
        (Option.bind (loopN (m31f10_l2 x53) FUEL 0) (Sum.elim (fun (o61:Unit)=>some true) (fun o=>some o))))))=some y55) ?_ ?_
    refine bindK h4 (fun w5_ h5 h4=>?_)
    refine XC.region<|rR Z Z Z (RO.loadOwnAgg ag_39 Z Z Z Z) ?_
    refine bindK h5 (fun x58 hx58 h5=>?_)
    refine XL.put Z Z (lb Z) (OpOK.callFun (m28_ok (⟨x1.2.1,([]:List LV)⟩:Lvl) x58 hx58) Z (.cons (.agg (.cons (.d _) (.cons (.nil _) .nil))) .nil))<|rR Z Z Z (RO.not Z)<|rM Z Z Z ?_
    refine XL.case (d:=13) (c:=(!x58)) Z (fun c59=>?_) (fun c59=>?_)
    replace h5:=condT c59 h5
    refine XL.no Z Z<|XL.no Z Z<|XL.no Z Z<|rR Z Z Z (RO.pickT Z Z)<|XL.nil ?_
    have e:=sI h5;subst e
    exact XQ.joinR true (stle (tA Z) (hA Z) kZ Z (Nat.le_trans hv4 (lb Z)) Z Z Z (bF Z (bA Z)) Z Z) h4
    replace h5:=condF c59 h5
    refine rR Z Z Z (RO.loadOwnAgg ag_39 Z Z Z Z) ?_
    refine bindK h5 (fun x60 hx60 h5=>?_)
    refine XL.put Z Z (lb Z) (OpOK.callFun (m28_ok (⟨x53.2.1,x53.2.2⟩:Lvl) x60 hx60) Z (.cons (.agg (.cons (.d _) (.cons (.d _) .nil))) .nil))<|rR Z Z Z (RO.not Z)<|rR Z Z Z (RO.pickF Z Z)<|XL.nil ?_
    have e:=sI h5;subst e
    exact XQ.joinR (!x60) (stle (tA Z) (hA Z) kZ Z (Nat.le_trans hv4 (lb Z)) Z Z Z (bF Z (bA Z)) Z Z) h4
    intro v57 h4
    refine XQ.seq ?_
    refine XC.cond (b:=v57) Z (fun c61=>?_) (fun c61=>?_)
    replace h4:=condT c61 h4
    refine XC.seq<|XC.region<|rA Z Z Z<|XL.nil<|XQ.seq<|XC.ret ?_
    have e:=sI h4;subst e
    exact hQ4 _ _ _ (.inr Z) Z (stle (tA Z) (hA Z) kZ Z (Nat.le_trans hv4 (lb Z)) Z Z Z (bF Z (bA Z)) Z Z)
    replace h4:=condF c61 h4
    refine XC.skip<|XQ.seq<|XC.seq<|XC.region<|rR Z Z Z (RO.fieldOwn fo_39_0 Z)<|rR Z Z Z (RO.loadOwn ag_3 Z Z Z)<|rA Z Z Z<|XL.nil<|XQ.seq<|XC.seq<|XC.seq<|XC.region<|rR Z Z Z (RO.fieldOwn fo_39_1 Z)<|rR Z Z Z (RO.loadOwn ag_37 Z Z Z) ?_
    refine rR Z Z Z (RO.lenE (α:=LV) sl_37 Z (.d _))<|rM Z Z Z<|XL.nil<|XQ.seq<|XC.block ?_
    refine XC.joinX 0 (fun (o62:Int)=>⟨[(2,.v (.one (.ptr 16 0))),(3,.v (.one (.ptr 17 0))),(5,.v (.one (dI o62)))],m31f10_h16 a2 a0 a1 x1 x53,[],18,49,[]⟩) (fun (o62:Int)=>(cond (decide (o62 < x1.2.1))
        (some false)
        (Option.bind (loopN (m31f10_l2 x53) FUEL 0) (Sum.elim (fun (o64:Unit)=>some true) (fun o=>some o))))=some y55) ?_ ?_
    refine bindK h4 (fun o63 hl5 h4=>?_)
    refine XC.loopM (m31f10_l1 x53) (fun s5=>⟨[(2,.v (.one (.ptr 16 0))),(3,.v (.one (.ptr 17 0))),(5,.v (.one (dI s5.1))),(21,.v (.one (dS x53.2.2))),(22,.v (.one (dI (x53.2.2.length:Int)))),(23,.v (.one (dI s5.2)))],m31f10_h16 a2 a0 a1 x1 x53,[],18,49,[]⟩) (x53.2.1,0) o63 (stle (tA Z) (hA Z) kZ Z (Nat.le_trans hv4 (lb Z)) Z Z Z (bF Z (bA Z)) Z Z) hl5 (fun s5 n5 oo5 h5 ho5=>?_)
    unfold m31f10_l1 at h5
    refine XC.seq<|XC.region<|rR Z Z Z (RO.binInt Z Z Z)<|XL.nil<|XQ.seq<|XC.seq ?_
    refine XC.cond (b:=(decide (s5.2 < (x53.2.2.length:Int)))) Z (fun c64=>?_) (fun c64=>?_)
    replace h5:=condT c64 h5
    refine XC.skip<|XQ.seq<|XC.seq<|XC.block<|XC.seq<|XC.region ?_
    refine bindK h5 (fun x65 hx65 h5=>?_)
    refine rR Z Z Z (RO.indexE (α:=LV) sl_37 Z (.d _) Z hx65)<|rR Z Z Z (RO.loadPelCE (x65:LV) ag_59 Z)<|XL.put Z Z (lb Z) (OpOK.alloc z_59 Z)<|XL.eff Z Z (OpOK.storeCE (x65:LV) ag_59 Z Z Z Z Z)<|XL.nil<|XQ.seq<|XC.region<|rM Z Z Z<|rR Z Z Z (RO.fieldOwn fo_59_1 Z)<|rR Z Z Z (RO.loadOwn ag_3 Z Z Z)<|rR Z Z Z (RO.max2 Z Z)<|rA Z Z Z<|XL.nil<|XQ.inBlock ?_
    refine XQ.seq<|XC.region<|rR Z Z Z (RO.binInt Z Z Z)<|rM Z Z Z<|XL.nil ?_
    have e:=sI h5;subst e
    refine XQ.nextM ((max s5.1 x65.2),(w64 (s5.2+1))) (stle (tA Z) (hA Z) kZ Z (Nat.le_trans hv4 (lb Z)) Z Z Z (bF Z (bA Z)) Z Z) ho5
    replace h5:=condF c64 h5
    refine XC.exit<|XQ.thenE<|XQ.thenE ?_
    have e:=sI h5;subst e
    have e_:_=_:=ho5
    subst e_
    exact XQ.joinX s5.1 (stle (tA Z) (hA Z) kZ Z (Nat.le_trans hv4 (lb Z)) Z Z Z (bF Z (bA Z)) Z Z) h4
    intro o62 h4
    refine XQ.blockX<|XQ.seq<|XC.seq<|XC.seq<|XC.region<|rR Z Z Z (RO.fieldOwn fo_39_0 Z)<|rR Z Z Z (RO.loadOwn ag_3 Z Z Z)<|rM Z Z Z<|rR Z Z Z (RO.binInt Z Z Z)<|XL.nil<|XQ.seq ?_
    refine XC.cond (b:=(decide (o62 < x1.2.1))) Z (fun c66=>?_) (fun c66=>?_)
    replace h4:=condT c66 h4
    refine XC.seq<|XC.region<|rA Z Z Z<|XL.nil<|XQ.seq<|XC.ret ?_
    have e:=sI h4;subst e
    exact hQ4 _ _ _ (.inr Z) Z (stle (tA Z) (hA Z) kZ Z (Nat.le_trans hv4 (lb Z)) Z Z Z (bF Z (bA Z)) Z Z)
    replace h4:=condF c66 h4
    refine XC.skip<|XQ.seq<|XC.seq<|XC.seq<|XC.region<|rR Z Z Z (RO.fieldOwn fo_39_1 Z)<|rR Z Z Z (RO.loadOwn ag_37 Z Z Z)<|rR Z Z Z (RO.lenE (α:=LV) sl_37 Z .nil)<|rM Z Z Z<|XL.nil<|XQ.seq<|XC.block ?_
    refine XC.joinX 2 (fun (o67:Unit)=>⟨[],m31f10_h16 a2 a0 a1 x1 x53,[],18,49,[]⟩) (fun (o67:Unit)=>(some true)=some y55) ?_ ?_
    refine bindK h4 (fun o68 hl5 h4=>?_)
    refine XC.loopM (m31f10_l2 x53) (fun s5=>⟨[(3,.v (.one (.ptr 17 0))),(37,.v (.one (dN))),(38,.v (.one (dI (([]:List LV).length:Int)))),(39,.v (.one (dI s5)))],m31f10_h16 a2 a0 a1 x1 x53,[],18,49,[]⟩) 0 o68 (stle (tA Z) (hA Z) kZ Z (Nat.le_trans hv4 (lb Z)) Z Z Z (bF Z (bA Z)) Z Z) hl5 (fun s5 n5 oo5 h5 ho5=>?_)
    unfold m31f10_l2 at h5
    refine XC.seq<|XC.region<|rR Z Z Z (RO.binInt Z Z Z)<|XL.nil<|XQ.seq<|XC.seq ?_
    refine XC.cond (b:=(decide (s5 < (([]:List LV).length:Int)))) Z (fun c69=>?_) (fun c69=>?_)
    replace h5:=condT c69 h5
    refine XC.skip<|XQ.seq<|XC.seq<|XC.block<|XC.seq<|XC.region ?_
    refine bindK h5 (fun x70 hx70 h5=>?_)
    refine rR Z Z Z (RO.indexE (α:=LV) sl_37 Z .nil Z hx70)<|rR Z Z Z (RO.loadPelCE (x70:LV) ag_59 Z)<|XL.put Z Z (lb Z) (OpOK.alloc z_59 Z)<|XL.eff Z Z (OpOK.storeCE (x70:LV) ag_59 Z Z Z Z Z)<|XL.nil<|XQ.seq<|XC.seq<|XC.region<|rR Z Z Z (RO.fieldOwn fo_39_1 Z)<|rR Z Z Z (RO.loadOwn ag_37 Z Z Z)<|rR Z Z Z (RO.makeFunc1 Z) ?_
    refine bindK h5 (fun x71 hx71 h5=>?_)
    refine XL.put Z Z (lb Z) (OpOK.callG (hp1':=[(18,.cells 59 (cE x70))]) (tk1':=[]) (hpF:=m31f10_h16 a2 a0 a1 x1 x53) (tkF:=[]) (res2:=resOf [.one (dB x71)]) (nx2:=19) [18] Z Z (m70f15_ok x53.2.2 x70 x71 hx71) Z Z (qB Z Z qZ) Z Z (gR Z gZ) jZ (hA Z) kZ Z Z Z Z Z (bA Z) Z Z Z Z)<|rR Z Z Z (RO.not Z)<|XL.nil<|XQ.seq ?_
    refine XC.cond (b:=(!x71)) Z (fun c72=>?_) (fun c72=>?_)
    replace h5:=condT c72 h5
    refine XC.seq<|XC.region<|rA Z Z Z<|XL.nil<|XQ.seq<|XC.ret ?_
    have e:=sI h5;subst e
    have e_:_=_:=ho5
    subst e_
    try dsimp only [Sum.elim_inl,Sum.elim_inr] at h4
    have e:=sI h4;subst e
    exact hQ4 _ _ _ (.inr Z) Z (stle (tA Z) (hA Z) kZ Z (Nat.le_trans hv4 (lb Z)) Z Z Z (bF Z (bA Z)) Z Z)
    replace h5:=condF c72 h5
    refine XC.skip<|XQ.inBlock<|XQ.seq<|XC.region<|rR Z Z Z (RO.binInt Z Z Z)<|rM Z Z Z<|XL.nil ?_
    have e:=sI h5;subst e
    refine XQ.nextM (w64 (s5+1)) (stle (tA Z) (hA Z) kZ Z (Nat.le_trans hv4 (lb Z)) Z Z Z (bF Z (bA Z)) Z Z) ho5
    replace h5:=condF c69 h5
    refine XC.exit<|XQ.thenE<|XQ.thenE ?_
    have e:=sI h5;subst e
    have e_:_=_:=ho5
    subst e_
    exact XQ.joinX () (stle tZ (hA Z) kZ Z (Nat.le_trans hv4 (lb Z)) Z Z Z (bF Z (bA Z)) Z Z) h4
    intro o67 h4
    refine XQ.blockX<|XQ.seq<|XC.seq<|XC.region<|rA Z Z Z<|XL.nil<|XQ.seq<|XC.ret ?_
    have e:=sI h4;subst e
    exact hQ4 _ _ _ (.inr Z) Z (stle (tA Z) (hA Z) kZ Z (Nat.le_trans hv4 (lb Z)) Z Z Z (bF Z (bA Z)) Z Z)
   refine XL.put Z Z (lb Z) (OpOK.callW Z Z Z hc56 Z (hA Z) kZ)<|XL.nil<|XQ.seq ?_
   refine XC.cond (b:=y55) Z (fun c73=>?_) (fun c73=>?_)
   replace h3:=condT c73 h3
   refine XC.exit<|XQ.thenE<|XQ.blockX ?_
   have e:=sI h3;subst e
   exact XQ.of (e:=.normal) (st':=⟨[],m31f10_h17 a2 a0 a1 x1,[],18,65,[]⟩) hQn3 (stle tZ (hA Z) kZ Z (Nat.le_trans hv3 (lb Z)) Z Z Z (bF Z (bA Z)) Z Z)
   replace h3:=condF c73 h3
   refine XC.skip<|XQ.seq<|XC.seq<|XC.region<|rR Z Z Z (RO.fieldOwn fo_41_1 Z)<|rR Z Z Z (RO.loadOwnAgg ag_39 Z Z Z Z) ?_
   refine bindK h3 (fun x74 hx74 h3=>?_)
   refine XL.put Z Z (lb Z) (OpOK.callFun (m54_ok a1.hi x74 hx74) Z (.cons (.agg (.cons (.d _) (.cons (.d _) .nil))) .nil))<|rM Z Z Z<|rR Z Z Z (RO.extract Z Z)<|rR Z Z Z (RO.extract Z Z)<|rA Z Z Z<|rA Z Z Z<|XL.nil<|XQ.seq<|XC.seq<|XC.seq<|XC.region<|rM Z Z Z<|rR Z Z Z (RO.binInt Z Z Z)<|XL.nil ?_
   refine XQ.seq ?_
   refine XC.cond (b:=(decide (x74.1 < 0))) Z (fun c75=>?_) (fun c75=>?_)
   replace h3:=condT c75 h3
   refine XC.seq<|XC.region<|XL.eff Z Z (OpOK.store ag_4 Z Z Z Z (lb Z) Z)<|XL.eff Z Z (OpOK.store ag_25 Z Z Z Z (lb Z) Z)<|XL.nil<|XQ.seq<|XC.ret ?_
   have e:=sI h3;subst e
   exact XQ.of (e:=.ret) (st':=⟨[],m31f10_h13 a2 a0 a1 x1,[],16,65,[]⟩) hQn3 (stle tZ (hA Z) kZ Z (Nat.le_trans hv3 (lb Z)) Z Z Z (bF Z (bA Z)) Z Z)
   replace h3:=condF c75 h3
   refine XC.skip<|XQ.seq<|XC.seq ?_
   refine XC.anyRun [11,12] [(0,1),(1,1),(2,1),(3,1),(4,1),(5,1),(6,1),(7,1),(8,1),(9,1),(10,1),(10,2)] mixed (by kernel_rfl) (by kernel_rfl) (by kernel_rfl) ?_
   refine RunA.rd Z Z Z (OpOK.of_ro (RO.loadOwn ag_31 Z Z Z)) Z<|RunA.rd Z Z Z (OpOK.of_ro (RO.move Z)) Z ?_
   refine bindK h3 (fun x76 hx76 h3=>?_)
   refine guardK h3 (fun g77 h3=>?_)
   refine RunA.rd Z Z Z (OpOK.of_ro (RO.indexO (α:=Lvl) sl_31 Z Z hx76 g77)) Z<|RunA.rd Z Z Z (OpOK.of_ro (RO.loadOE (α:=Lvl) (ys:=[dI x76.c,dS x76.vs]) ag_39 Z Z hx76 Z)) Z<|RunA.rd Z Z Z (OpOK.of_ro (RO.loadOwnAgg ag_39 Z Z Z Z)) Z<|RunA.rd Z Z Z (OpOK.of_ro (RO.move Z)) Z ?_
   refine bindK h3 (fun x78 hx78 h3=>?_)
   refine RunA.rd Z Z Z (OpOK.callFun (m56_ok (⟨x1.2.1,([]:List LV)⟩:Lvl) x74.2 x78 hx78) Z (.cons (.agg (.cons (.d _) (.cons (.nil _) .nil))) (.cons (.one (.d _)) .nil))) Z ?_
   refine bindK h3 (fun x79 hx79 h3=>?_)
   refine RunA.rd Z Z Z (OpOK.callFun (m55_ok x76 x78 x79 hx79) Z (.cons (.agg (.cons (.d _) (.cons (.d _) .nil))) (.cons (.agg (.cons (.d _) (.cons (.d _) .nil))) .nil))) Z<|RunA.rd Z Z Z (OpOK.of_ro (RO.move Z)) Z<|RunA.rd Z Z Z (OpOK.of_ro (RO.extract Z Z)) Z<|RunA.rd Z Z Z (OpOK.of_ro (RO.extract Z Z)) Z<|RunA.eff Z Z Z (OpOK.alloc z_39 Z) Z<|RunA.eff Z Z Z (OpOK.storeCE (x79.1:Lvl) ag_39 Z Z Z Z Z) Z<|RunA.rd Z Z Z (OpOK.of_ro (RO.assign Z)) Z ?_
   refine RunA.nil ⟨?ex,_,_,Z,?_⟩
   case ex=>exact ⟨⟨_,rfl,_,_,rfl,rfl,rfl,.inl ⟨rfl,_,OpOK.of_ro (RO.loadOwn ag_31 rfl rfl rfl),rfl⟩⟩,⟨_,rfl,_,_,rfl,rfl,rfl,.inl ⟨rfl,_,OpOK.of_ro (RO.move rfl),rfl⟩⟩,⟨_,rfl,_,_,rfl,rfl,rfl,.inl ⟨rfl,_,OpOK.of_ro (RO.indexO (α:=Lvl) sl_31 rfl rfl hx76 g77),rfl⟩⟩,⟨_,rfl,_,_,rfl,rfl,rfl,.inl ⟨rfl,_,OpOK.of_ro (RO.loadOE (α:=Lvl) (ys:=[dI x76.c,dS x76.vs]) ag_39 rfl rfl hx76 rfl),rfl⟩⟩,⟨_,rfl,_,_,rfl,rfl,rfl,.inl ⟨rfl,_,OpOK.of_ro (RO.loadOwnAgg ag_39 rfl rfl rfl rfl),rfl⟩⟩,⟨_,rfl,_,_,rfl,rfl,rfl,.inl ⟨rfl,_,OpOK.of_ro (RO.move rfl),rfl⟩⟩,⟨_,rfl,_,_,rfl,rfl,rfl,.inl ⟨rfl,_,OpOK.callFun (m56_ok (⟨x1.2.1,([]:List LV)⟩:Lvl) x74.2 x78 hx78) rfl (.cons (.agg (.cons (.d _) (.cons (.nil _) .nil))) (.cons (.one (.d _)) .nil)),rfl⟩⟩,⟨_,rfl,_,_,rfl,rfl,rfl,.inl ⟨rfl,_,OpOK.callFun (m55_ok x76 x78 x79 hx79) rfl (.cons (.agg (.cons (.d _) (.cons (.d _) .nil))) (.cons (.agg (.cons (.d _) (.cons (.d _) .nil))) .nil)),rfl⟩⟩,⟨_,rfl,_,_,rfl,rfl,rfl,.inl ⟨rfl,_,OpOK.of_ro (RO.move rfl),rfl⟩⟩,⟨_,rfl,_,_,rfl,rfl,rfl,.inl ⟨rfl,_,OpOK.of_ro (RO.extract rfl rfl),rfl⟩⟩,⟨_,rfl,_,_,rfl,rfl,rfl,.inl ⟨rfl,_,OpOK.of_ro (RO.extract rfl rfl),rfl⟩⟩,⟨_,rfl,_,_,rfl,rfl,rfl,.inl ⟨rfl,_,OpOK.of_ro (RO.extract rfl rfl),rfl⟩⟩,trivial⟩
   refine XQ.less (st':=⟨[(2,.v (.one (.ptr 1 0))),(4,.v (.one (.ptr 3 0))),(5,.v (.one (.ptr 4 0))),(8,.v (.one (.ptr 8 0))),(11,.v (.one (dI x79.2))),(12,.v (.one (dI x74.1))),(14,.v (.one (.ptr 18 0)))],m31f10_h18 a2 a0 a1 x1 x53 x79,[],19,65,[]⟩) (stle (tA Z) (hA Z) kZ Z (Nat.le_trans hv3 (lb Z)) Z Z Z (bF Z (bA Z)) Z Z)<|XQ.seq<|XC.seq<|XC.seq<|XC.region<|rM Z Z Z<|rR Z Z Z (RO.binInt Z Z Z)<|XL.nil<|XQ.seq ?_
   refine XC.cond (b:=(x79.2 != 0)) Z (fun c80=>?_) (fun c80=>?_)
   replace h3:=condT c80 h3
   refine XC.seq<|XC.region<|XL.eff Z Z (OpOK.store ag_4 Z Z Z Z (lb Z) Z)<|XL.eff Z Z (OpOK.store ag_25 Z Z Z Z (lb Z) Z)<|XL.nil<|XQ.seq<|XC.ret ?_
   have e:=sI h3;subst e
   exact XQ.of (e:=.ret) (st':=⟨[],m31f10_h13 a2 a0 a1 x1,[],16,65,[]⟩) hQn3 (stle tZ (hA Z) kZ Z (Nat.le_trans hv3 (lb Z)) Z Z Z (bF Z (bA Z)) Z Z)
   replace h3:=condF c80 h3
   refine XC.skip<|XQ.seq<|XC.region<|rR Z Z Z (RO.loadOwn ag_31 Z Z Z)<|rM Z Z Z<|rR Z Z Z (RO.loadCE (x79.1:Lvl) ag_39 Z Z) ?_
   refine bindK h3 (fun x81 hx81 h3=>?_)
   refine guardK h3 (fun g82 h3=>?_)
   refine rR Z Z Z (RO.indexO (α:=Lvl) sl_31 Z Z hx81 g82)<|XL.eff Z Z (OpOK.storeOE (α:=Lvl) (y':=.agg [dI x79.1.c,dS x79.1.vs]) (v:=x79.1) ag_39 Z Z (.agg (.cons (.d _) (.cons (.d _) .nil))) Z Z hx81 Z)<|XL.eff Z Z (OpOK.store ag_4 Z Z Z Z (lb Z) Z)<|XL.nil<|XQ.inBlock ?_
   have e:=sI h3;subst e
   exact XQ.of (e:=.normal) (st':=⟨[],m31f10_h19 a2 x74 x79 a0 a1 x1,[],18,65,[]⟩) hQn3 (stle tZ (hA Z) kZ Z (Nat.le_trans hv3 (lb Z)) Z Z Z (bF Z (bA Z)) Z Z)
  refine sumK (C:=fun q_=>ExecOK Try.prog (some 11) m31f10_c1 ⟨[(2,.v (.one (.ptr 1 0))),(3,.v (.one (.ptr 2 0))),(4,.v (.one (.ptr 3 0))),(5,.v (.one (.ptr 4 0))),(8,.v (.one (.ptr 8 0))),(9,.v (.one (.ptr 12 0)))],m31f10_h10 a2 a0 a1 x1,[],13,65,[]⟩ ((Sum.elim (fun (_:Bool×(List Lvl))=>(.normal:Exit)) (fun (_:Unit)=>(.ret:Exit))) q_) ((Sum.elim (fun (y48:Bool×(List Lvl))=>(⟨[],m31f10_h12 y48 a0 a1 x1,[],18,65,[]⟩:St)) (fun (y49:Unit)=>(⟨[],m31f10_h13 a2 a0 a1 x1,[],16,65,[]⟩:St))) q_)) hb52 h2 (fun y48 hb52 h2=>?_) (fun y49 hb52 h2=>?_)
  replace hb52:ExecOK Try.prog (some 11) m31f10_c1 ⟨[(2,.v (.one (.ptr 1 0))),(3,.v (.one (.ptr 2 0))),(4,.v (.one (.ptr 3 0))),(5,.v (.one (.ptr 4 0))),(8,.v (.one (.ptr 8 0))),(9,.v (.one (.ptr 12 0)))],m31f10_h10 a2 a0 a1 x1,[],13,65,[]⟩ .normal ⟨[],m31f10_h12 y48 a0 a1 x1,[],18,65,[]⟩:=hb52
  refine XL.put Z Z (lb Z) (OpOK.yield (jump:=none) Z Z Z Z Z (ExecOK.from ha51 (fun E hv=>(stle (tA Z) (hA Z) kZ Z (Nat.le_trans hv (lb Z)) Z Z Z (bF Z (bA Z)) Z Z))) Z (ExecOK.from hb52 (fun E hv=>(stle (tA Z) (hA Z) kZ Z (Nat.le_trans hv (lb Z)) Z Z Z (bF Z (bA Z)) Z Z))) Z Z) ?_
  refine rR Z Z Z (RO.not Z)<|rR Z Z Z (RO.pickT Z Z)<|XL.nil ?_
  have e:=sI h2;subst e
  exact XQ.joinRl (y48.1,y48.2) (stle (tA Z) (hA Z) kZ Z (Nat.le_trans hv1 (lb Z)) Z Z Z (bF Z (bA Z)) Z Z) h1
  replace hb52:ExecOK Try.prog (some 11) m31f10_c1 ⟨[(2,.v (.one (.ptr 1 0))),(3,.v (.one (.ptr 2 0))),(4,.v (.one (.ptr 3 0))),(5,.v (.one (.ptr 4 0))),(8,.v (.one (.ptr 8 0))),(9,.v (.one (.ptr 12 0)))],m31f10_h10 a2 a0 a1 x1,[],13,65,[]⟩ .ret ⟨[],m31f10_h13 a2 a0 a1 x1,[],16,65,[]⟩:=hb52
  refine XL.put Z Z (lb Z) (OpOK.yield (jump:=(some .ret)) Z Z Z Z Z (ExecOK.from ha51 (fun E hv=>(stle (tA Z) (hA Z) kZ Z (Nat.le_trans hv (lb Z)) Z Z Z (bF Z (bA Z)) Z Z))) Z (ExecOK.from hb52 (fun E hv=>(stle (tA Z) (hA Z) kZ Z (Nat.le_trans hv (lb Z)) Z Z Z (bF Z (bA Z)) Z Z))) Z Z) ?_
  refine rR Z Z Z (RO.not Z)<|rR Z Z Z (RO.pickT Z Z)<|XL.nil ?_
  have e:=sI h2;subst e
  exact XQ.joinRr () (stle (tA Z) (hA Z) kZ Z (Nat.le_trans hv1 (lb Z)) Z Z Z (bF Z (bA Z)) Z Z) h1
  replace h2:=condF c47 h2
  refine XL.no Z Z<|XL.no Z Z<|XL.no Z Z<|XL.no Z Z<|XL.no Z Z<|XL.no Z Z<|rR Z Z Z (RO.pickF Z Z)<|XL.nil ?_
  have e:=sI h2;subst e
  exact XQ.joinRl (false,a2) (stle (tA Z) (hA Z) kZ Z (Nat.le_trans hv1 (lb Z)) Z Z Z (bF Z (bA Z)) Z Z) h1
  intro v9 h1
  refine XQ.seq ?_
  refine XC.cond Z (fun h=>nomatch h) (fun _=>?_)
  refine XC.skip<|XQ.seq<|XC.seq<|XC.region<|rR Z Z Z (RO.fieldOwn fo_39_1 Z)<|rR Z Z Z (RO.loadOwn ag_37 Z Z Z)<|rR Z Z Z (RO.lenE (α:=LV) sl_37 Z (.d _))<|rM Z Z Z<|XL.nil<|XQ.seq<|XC.block ?_
  refine XC.joinX 0 (fun (o83:(List Lvl)×Bool)=>⟨[],[(0,.cells 39 (flatE o83.1)),(1,.cells 31 [.osl 0 0 a0 a0]),(2,.cells 41 (cE a1)),(3,.cells 4 [dB false]),(4,.cells 25 [dI 0]),(6,.cells 39 [dI x1.2.1,dS x1.2.2]),(7,.cells 39 [dI x1.2.1,dS x1.2.2]),(8,.cells 4 [dB o83.2]),(9,.cells 39 [dI x1.2.1,dS x1.2.2]),(10,.obj (.deferred (some []))),(11,m31f10_h3)],[],12,36,[]⟩) (fun (o83:(List Lvl)×Bool)=>(some (.inl (o83.2,o83.1)))=some y8) ?_ ?_
  refine bindK h1 (fun o84 hl2 h1=>?_)
  refine XC.loopM (m31f10_l0 x1 a1 a0) (fun s2=>⟨[(0,.v (.one (.yld 11))),(23,.v (.one (dS x1.2.2))),(24,.v (.one (dI (x1.2.2.length:Int)))),(25,.v (.one (dI s2.1)))],[(0,.cells 39 (flatE s2.2.1)),(1,.cells 31 [.osl 0 0 a0 a0]),(2,.cells 41 (cE a1)),(3,.cells 4 [dB false]),(4,.cells 25 [dI 0]),(6,.cells 39 [dI x1.2.1,dS x1.2.2]),(7,.cells 39 [dI x1.2.1,dS x1.2.2]),(8,.cells 4 [dB s2.2.2]),(9,.cells 39 [dI x1.2.1,dS x1.2.2]),(10,.obj (.deferred (some []))),(11,m31f10_h3)],[],12,36,[]⟩) (0,v9.2,v9.1) o84 (stle (tA Z) (hA Z) kZ Z (Nat.le_trans hv1 (lb Z)) Z Z Z (bF Z (bA Z)) Z Z) hl2 (fun s2 n2 oo2 h2 ho2=>?_)
  unfold m31f10_l0 at h2
  refine XC.seq<|XC.region<|rR Z Z Z (RO.binInt Z Z Z)<|XL.nil<|XQ.seq<|XC.seq ?_
  refine XC.cond (b:=(decide (s2.1 < (x1.2.2.length:Int)))) Z (fun c85=>?_) (fun c85=>?_)
  replace h2:=condT c85 h2
  refine XC.skip<|XQ.seq<|XC.seq<|XC.block<|XC.seq<|XC.region ?_
  refine bindK h2 (fun x86 hx86 h2=>?_)
  refine rR Z Z Z (RO.indexE (α:=LV) sl_37 Z (.d _) Z hx86)<|rR Z Z Z (RO.loadPelCE (x86:LV) ag_59 Z)<|XL.put Z Z (lb Z) (OpOK.alloc z_59 Z)<|XL.eff Z Z (OpOK.storeCE (x86:LV) ag_59 Z Z Z Z Z)<|XL.nil<|XQ.seq<|XC.seq<|XC.region<|rM Z Z Z<|rR Z Z Z (RO.loadCE (x86:LV) ag_59 Z Z)<|XL.put Z Z (lb Z) (OpOK.lit1E (α:=LV) (x86) sl_37 z_59 Z Z (lb Z) (lb Z) Z Z (.cons (.d _) (.cons (.d _) .nil)) Z)<|rR Z Z Z (RO.build1 bd_39 Z Z Z) ?_
  refine bindK h2 (fun y89 h3 h2=>?_)
  have ha90:ExecOK Try.prog (some 11) m31f10_c0 ⟨[(2,.v (.one (.ptr 1 0))),(3,.v (.one (.ptr 2 0))),(4,.v (.one (.ptr 3 0))),(5,.v (.one (.ptr 4 0))),(8,.v (.one (.ptr 8 0))),(25,.v (.one (.fn 62 [(9,0)]))),(26,.v (.agg [dI 0,dA 13 ([x86]:List LV)]))],m31f10_h20 s2 a0 a1 x1 x86,[(13,some ⟨59,2,(Enc.encL ([x86]:List LV)).length,[]⟩)],14,65,[]⟩ .normal ⟨[(2,.v (.one (.ptr 1 0))),(3,.v (.one (.ptr 2 0))),(4,.v (.one (.ptr 3 0))),(5,.v (.one (.ptr 4 0))),(8,.v (.one (.ptr 8 0))),(9,.v (.one (.ptr 14 0)))],m31f10_h22 s2 a0 a1 x1 x86,[(13,some ⟨59,2,(Enc.encL ([x86]:List LV)).length,[]⟩)],15,65,[]⟩:=by
   refine ExecOK.walk (fun w0 M V0 ro n Q hv3 hro3 hQn3=>?_)
   refine XC.region<|XL.put Z Z (lb Z) (OpOK.alloc z_39 Z)<|XL.eff Z Z (OpOK.store ag_39 Z Z Z Z (lb Z) Z)<|XL.nil ?_
   exact XQ.of hQn3 (stle (tA Z) (hA Z) (kA Z) Z (Nat.le_trans hv3 (lb Z)) Z Z Z (bF Z (bA Z)) Z Z)
  have hb91:ExecOK Try.prog (some 11) m31f10_c1 ⟨[(2,.v (.one (.ptr 1 0))),(3,.v (.one (.ptr 2 0))),(4,.v (.one (.ptr 3 0))),(5,.v (.one (.ptr 4 0))),(8,.v (.one (.ptr 8 0))),(9,.v (.one (.ptr 14 0)))],m31f10_h21 s2 a0 a1 x1 x86,[(13,some ⟨59,2,(Enc.encL ([x86]:List LV)).length,[]⟩)],15,65,[]⟩ ((Sum.elim (fun (_:Bool×(List Lvl))=>(.normal:Exit)) (fun (_:Unit)=>(.ret:Exit))) y89) ((Sum.elim (fun (y87:Bool×(List Lvl))=>(⟨[],m31f10_h23 y87 a0 a1 x1 x86,[(13,some ⟨59,2,(Enc.encL ([x86]:List LV)).length,[]⟩)],20,65,[]⟩:St)) (fun (y88:Unit)=>(⟨[],m31f10_h24 s2 a0 a1 x1 x86,[(13,some ⟨59,2,(Enc.encL ([x86]:List LV)).length,[]⟩)],18,65,[]⟩:St))) y89):=by
   refine ExecOK.walk (fun w0 M V0 ro n Q hv3 hro3 hQn3=>?_)
   refine XC.block<|XC.seq<|XC.region<|rR Z Z Z (RO.fieldOwn fo_41_1 Z)<|rR Z Z Z (RO.loadOwnAgg ag_39 Z Z Z Z)<|rR Z Z Z (RO.loadOwn ag_31 Z Z Z) ?_
   refine bindK h3 (fun x92 hx92 h3=>?_)
   refine XL.put Z Z (lb Z) (OpOK.callG (hp1':=[(0,.cells 39 (flatE s2.2.1)),(16,.cells 39 [dI x92.2.1,dS x92.2.2])]) (tk1':=[]) (hpF:=m31f10_h25 a0 a1 x1 s2 x86) (tkF:=[(13,some ⟨59,2,(Enc.encL ([x86]:List LV)).length,[]⟩)]) (res2:=resOf [.agg [dI x92.2.1,dS x92.2.2],.one (dI x92.1)]) (nx2:=17) [0] Z Z (m48f11_ok a1.hi a0 s2.2.1 x92 hx92) Z Z (qF Z (qB Z Z qZ)) Z Z (gF Z gZ) jZ (hA Z) (kA Z) Z Z Z Z Z (bF Z bZ) Z Z Z Z)<|rM Z Z Z<|rR Z Z Z (RO.extract Z Z)<|rR Z Z Z (RO.extract Z Z)<|XL.put Z Z (lb Z) (OpOK.alloc z_39 Z)<|XL.eff Z Z (OpOK.store ag_39 Z Z Z Z (lb Z) Z)<|rA Z Z Z<|XL.nil<|XQ.seq<|XC.seq<|XC.seq<|XC.region<|rM Z Z Z<|rR Z Z Z (RO.binInt Z Z Z) ?_
   refine XL.nil<|XQ.seq ?_
   refine XC.cond (b:=(x92.1 != 0)) Z (fun c93=>?_) (fun c93=>?_)
   replace h3:=condT c93 h3
   refine XC.seq<|XC.region<|XL.eff Z Z (OpOK.store ag_4 Z Z Z Z (lb Z) Z)<|XL.eff Z Z (OpOK.store ag_25 Z Z Z Z (lb Z) Z)<|XL.nil<|XQ.seq<|XC.ret ?_
   have e:=sI h3;subst e
   exact XQ.of (e:=.ret) (st':=⟨[],m31f10_h24 s2 a0 a1 x1 x86,[(13,some ⟨59,2,(Enc.encL ([x86]:List LV)).length,[]⟩)],18,65,[]⟩) hQn3 (stle tZ (hA Z) (kA Z) Z (Nat.le_trans hv3 (lb Z)) Z Z Z (bF Z (bA Z)) Z Z)
   replace h3:=condF c93 h3
   refine XC.skip<|XQ.seq<|XC.seq<|XC.seq<|XC.region<|rR Z Z Z (RO.loadOwnAgg ag_39 Z Z Z Z)<|rR Z Z Z (RO.loadOwnAgg ag_39 Z Z Z Z) ?_
   refine bindK h3 (fun x94 hx94 h3=>?_)
   refine XL.put Z Z (lb Z) (OpOK.callG (hp1':=[]) (tk1':=[(13,some ⟨59,2,(Enc.encL ([x86]:List LV)).length,[]⟩)]) (hpF:=m31f10_h26 s2 a0 a1 x1 x86 x92) (tkF:=[]) (res2:=resOf [.one (dB x94)]) (nx2:=20) [13] Z Z (m49f18_ok 0 ([x86]) (⟨x92.2.1,x92.2.2⟩:Lvl) x94 hx94) Z Z qZ Z Z gZ (jR Z jZ) (hA Z) kZ Z Z Z Z Z bZ Z Z Z Z)<|XL.nil<|XQ.seq ?_
   refine XC.cond (b:=x94) Z (fun c95=>?_) (fun c95=>?_)
   replace h3:=condT c95 h3
   refine XC.exit<|XQ.thenE<|XQ.blockX ?_
   have e:=sI h3;subst e
   exact XQ.of (e:=.normal) (st':=⟨[],m31f10_h27 s2 a0 a1 x1 x86,[(13,some ⟨59,2,(Enc.encL ([x86]:List LV)).length,[]⟩)],20,65,[]⟩) hQn3 (stle tZ (hA Z) (kA Z) Z (Nat.le_trans hv3 (lb Z)) Z Z Z (bF Z (bA Z)) Z Z)
   replace h3:=condF c95 h3
   refine XC.skip<|XQ.seq<|XC.seq<|XC.region<|rR Z Z Z (RO.fieldOwn fo_41_1 Z)<|rR Z Z Z (RO.loadOwnAgg ag_39 Z Z Z Z) ?_
   refine bindK h3 (fun x96 hx96 h3=>?_)
   refine XL.put Z Z (lb Z) (OpOK.callFun (m54_ok a1.hi x96 hx96) Z (.cons (.agg (.cons (.d _) (.cons (.d _) .nil))) .nil))<|rM Z Z Z<|rR Z Z Z (RO.extract Z Z)<|rR Z Z Z (RO.extract Z Z)<|rA Z Z Z<|rA Z Z Z<|XL.nil<|XQ.seq<|XC.seq<|XC.seq<|XC.region<|rM Z Z Z<|rR Z Z Z (RO.binInt Z Z Z)<|XL.nil ?_
   refine XQ.seq ?_
   refine XC.cond (b:=(decide (x96.1 < 0))) Z (fun c97=>?_) (fun c97=>?_)
   replace h3:=condT c97 h3
   refine XC.seq<|XC.region<|XL.eff Z Z (OpOK.store ag_4 Z Z Z Z (lb Z) Z)<|XL.eff Z Z (OpOK.store ag_25 Z Z Z Z (lb Z) Z)<|XL.nil<|XQ.seq<|XC.ret ?_
   have e:=sI h3;subst e
   exact XQ.of (e:=.ret) (st':=⟨[],m31f10_h24 s2 a0 a1 x1 x86,[(13,some ⟨59,2,(Enc.encL ([x86]:List LV)).length,[]⟩)],18,65,[]⟩) hQn3 (stle tZ (hA Z) (kA Z) Z (Nat.le_trans hv3 (lb Z)) Z Z Z (bF Z (bA Z)) Z Z)
   replace h3:=condF c97 h3
   refine XC.skip<|XQ.seq<|XC.seq ?_
   refine XC.anyRun [11,12] [(0,1),(1,1),(2,1),(3,1),(4,1),(5,1),(6,1),(7,1),(8,1),(9,1),(10,1),(10,2)] mixed (by kernel_rfl) (by kernel_rfl) (by kernel_rfl) ?_
   refine RunA.rd Z Z Z (OpOK.of_ro (RO.loadOwn ag_31 Z Z Z)) Z<|RunA.rd Z Z Z (OpOK.of_ro (RO.move Z)) Z ?_
   refine bindK h3 (fun x98 hx98 h3=>?_)
   refine guardK h3 (fun g99 h3=>?_)
   refine RunA.rd Z Z Z (OpOK.of_ro (RO.indexO (α:=Lvl) sl_31 Z Z hx98 g99)) Z<|RunA.rd Z Z Z (OpOK.of_ro (RO.loadOE (α:=Lvl) (ys:=[dI x98.c,dS x98.vs]) ag_39 Z Z hx98 Z)) Z<|RunA.rd Z Z Z (OpOK.of_ro (RO.loadOwnAgg ag_39 Z Z Z Z)) Z<|RunA.rd Z Z Z (OpOK.of_ro (RO.move Z)) Z ?_
   refine bindK h3 (fun x100 hx100 h3=>?_)
   refine RunA.rd Z Z Z (OpOK.callFun (m56_ok (⟨0,[x86]⟩:Lvl) x96.2 x100 hx100) Z (.cons (.agg (.cons (.d _) (.cons (.app _ _ _) .nil))) (.cons (.one (.d _)) .nil))) Z ?_
   refine bindK h3 (fun x101 hx101 h3=>?_)
   refine RunA.rd Z Z Z (OpOK.callFun (m55_ok x98 x100 x101 hx101) Z (.cons (.agg (.cons (.d _) (.cons (.d _) .nil))) (.cons (.agg (.cons (.d _) (.cons (.d _) .nil))) .nil))) Z<|RunA.rd Z Z Z (OpOK.of_ro (RO.move Z)) Z<|RunA.rd Z Z Z (OpOK.of_ro (RO.extract Z Z)) Z<|RunA.rd Z Z Z (OpOK.of_ro (RO.extract Z Z)) Z<|RunA.eff Z Z Z (OpOK.alloc z_39 Z) Z<|RunA.eff Z Z Z (OpOK.storeCE (x101.1:Lvl) ag_39 Z Z Z Z Z) Z<|RunA.rd Z Z Z (OpOK.of_ro (RO.assign Z)) Z ?_
   refine RunA.nil ⟨?ex,_,_,Z,?_⟩
   case ex=>exact ⟨⟨_,rfl,_,_,rfl,rfl,rfl,.inl ⟨rfl,_,OpOK.of_ro (RO.loadOwn ag_31 rfl rfl rfl),rfl⟩⟩,⟨_,rfl,_,_,rfl,rfl,rfl,.inl ⟨rfl,_,OpOK.of_ro (RO.move rfl),rfl⟩⟩,⟨_,rfl,_,_,rfl,rfl,rfl,.inl ⟨rfl,_,OpOK.of_ro (RO.indexO (α:=Lvl) sl_31 rfl rfl hx98 g99),rfl⟩⟩,⟨_,rfl,_,_,rfl,rfl,rfl,.inl ⟨rfl,_,OpOK.of_ro (RO.loadOE (α:=Lvl) (ys:=[dI x98.c,dS x98.vs]) ag_39 rfl rfl hx98 rfl),rfl⟩⟩,⟨_,rfl,_,_,rfl,rfl,rfl,.inl ⟨rfl,_,OpOK.of_ro (RO.loadOwnAgg ag_39 rfl rfl rfl rfl),rfl⟩⟩,⟨_,rfl,_,_,rfl,rfl,rfl,.inl ⟨rfl,_,OpOK.of_ro (RO.move rfl),rfl⟩⟩,⟨_,rfl,_,_,rfl,rfl,rfl,.inl ⟨rfl,_,OpOK.callFun (m56_ok (⟨0,[x86]⟩:Lvl) x96.2 x100 hx100) rfl (.cons (.agg (.cons (.d _) (.cons (.app _ _ _) .nil))) (.cons (.one (.d _)) .nil)),rfl⟩⟩,⟨_,rfl,_,_,rfl,rfl,rfl,.inl ⟨rfl,_,OpOK.callFun (m55_ok x98 x100 x101 hx101) rfl (.cons (.agg (.cons (.d _) (.cons (.d _) .nil))) (.cons (.agg (.cons (.d _) (.cons (.d _) .nil))) .nil)),rfl⟩⟩,⟨_,rfl,_,_,rfl,rfl,rfl,.inl ⟨rfl,_,OpOK.of_ro (RO.move rfl),rfl⟩⟩,⟨_,rfl,_,_,rfl,rfl,rfl,.inl ⟨rfl,_,OpOK.of_ro (RO.extract rfl rfl),rfl⟩⟩,⟨_,rfl,_,_,rfl,rfl,rfl,.inl ⟨rfl,_,OpOK.of_ro (RO.extract rfl rfl),rfl⟩⟩,⟨_,rfl,_,_,rfl,rfl,rfl,.inl ⟨rfl,_,OpOK.of_ro (RO.extract rfl rfl),rfl⟩⟩,trivial⟩
   refine XQ.less (st':=⟨[(2,.v (.one (.ptr 1 0))),(4,.v (.one (.ptr 3 0))),(5,.v (.one (.ptr 4 0))),(8,.v (.one (.ptr 8 0))),(11,.v (.one (dI x101.2))),(12,.v (.one (dI x96.1))),(14,.v (.one (.ptr 20 0)))],m31f10_h28 s2 a0 a1 x1 x86 x92 x101,[(13,some ⟨59,2,(Enc.encL ([x86]:List LV)).length,[]⟩)],21,65,[]⟩) (stle (tA Z) (hA Z) (kA Z) Z (Nat.le_trans hv3 (lb Z)) Z Z Z (bF Z (bA Z)) Z Z)<|XQ.seq<|XC.seq<|XC.seq<|XC.region<|rM Z Z Z<|rR Z Z Z (RO.binInt Z Z Z)<|XL.nil<|XQ.seq ?_
   refine XC.cond (b:=(x101.2 != 0)) Z (fun c102=>?_) (fun c102=>?_)
   replace h3:=condT c102 h3
   refine XC.seq<|XC.region<|XL.eff Z Z (OpOK.store ag_4 Z Z Z Z (lb Z) Z)<|XL.eff Z Z (OpOK.store ag_25 Z Z Z Z (lb Z) Z)<|XL.nil<|XQ.seq<|XC.ret ?_
   have e:=sI h3;subst e
   exact XQ.of (e:=.ret) (st':=⟨[],m31f10_h24 s2 a0 a1 x1 x86,[(13,some ⟨59,2,(Enc.encL ([x86]:List LV)).length,[]⟩)],18,65,[]⟩) hQn3 (stle tZ (hA Z) (kA Z) Z (Nat.le_trans hv3 (lb Z)) Z Z Z (bF Z (bA Z)) Z Z)
   replace h3:=condF c102 h3
   refine XC.skip<|XQ.seq<|XC.region<|rR Z Z Z (RO.loadOwn ag_31 Z Z Z)<|rM Z Z Z<|rR Z Z Z (RO.loadCE (x101.1:Lvl) ag_39 Z Z) ?_
   refine bindK h3 (fun x103 hx103 h3=>?_)
   refine guardK h3 (fun g104 h3=>?_)
   refine rR Z Z Z (RO.indexO (α:=Lvl) sl_31 Z Z hx103 g104)<|XL.eff Z Z (OpOK.storeOE (α:=Lvl) (y':=.agg [dI x101.1.c,dS x101.1.vs]) (v:=x101.1) ag_39 Z Z (.agg (.cons (.d _) (.cons (.d _) .nil))) Z Z hx103 Z)<|XL.eff Z Z (OpOK.store ag_4 Z Z Z Z (lb Z) Z)<|XL.nil<|XQ.inBlock ?_
   have e:=sI h3;subst e
   exact XQ.of (e:=.normal) (st':=⟨[],m31f10_h30 s2 x96 x101 a0 a1 x1 x86,[(13,some ⟨59,2,(Enc.encL ([x86]:List LV)).length,[]⟩)],20,65,[]⟩) hQn3 (stle tZ (hA Z) (kA Z) Z (Nat.le_trans hv3 (lb Z)) Z Z Z (bF Z (bA Z)) Z Z)
  refine sumK (C:=fun q_=>ExecOK Try.prog (some 11) m31f10_c1 ⟨[(2,.v (.one (.ptr 1 0))),(3,.v (.one (.ptr 2 0))),(4,.v (.one (.ptr 3 0))),(5,.v (.one (.ptr 4 0))),(8,.v (.one (.ptr 8 0))),(9,.v (.one (.ptr 14 0)))],m31f10_h21 s2 a0 a1 x1 x86,[(13,some ⟨59,2,(Enc.encL ([x86]:List LV)).length,[]⟩)],15,65,[]⟩ ((Sum.elim (fun (_:Bool×(List Lvl))=>(.normal:Exit)) (fun (_:Unit)=>(.ret:Exit))) q_) ((Sum.elim (fun (y87:Bool×(List Lvl))=>(⟨[],m31f10_h23 y87 a0 a1 x1 x86,[(13,some ⟨59,2,(Enc.encL ([x86]:List LV)).length,[]⟩)],20,65,[]⟩:St)) (fun (y88:Unit)=>(⟨[],m31f10_h24 s2 a0 a1 x1 x86,[(13,some ⟨59,2,(Enc.encL ([x86]:List LV)).length,[]⟩)],18,65,[]⟩:St))) q_)) hb91 h2 (fun y87 hb91 h2=>?_) (fun y88 hb91 h2=>?_)
  replace hb91:ExecOK Try.prog (some 11) m31f10_c1 ⟨[(2,.v (.one (.ptr 1 0))),(3,.v (.one (.ptr 2 0))),(4,.v (.one (.ptr 3 0))),(5,.v (.one (.ptr 4 0))),(8,.v (.one (.ptr 8 0))),(9,.v (.one (.ptr 14 0)))],m31f10_h21 s2 a0 a1 x1 x86,[(13,some ⟨59,2,(Enc.encL ([x86]:List LV)).length,[]⟩)],15,65,[]⟩ .normal ⟨[],m31f10_h23 y87 a0 a1 x1 x86,[(13,some ⟨59,2,(Enc.encL ([x86]:List LV)).length,[]⟩)],20,65,[]⟩:=hb91
  refine XL.put Z Z (lb Z) (OpOK.yield (jump:=none) Z Z Z Z Z (ExecOK.from ha90 (fun E hv=>(stle (tA Z) (hA Z) (kA Z) Z (Nat.le_trans hv (lb Z)) Z Z Z (bF Z (bA Z)) Z Z))) Z (ExecOK.from hb91 (fun E hv=>(stle (tA Z) (hA Z) (kA Z) Z (Nat.le_trans hv (lb Z)) Z Z Z (bF Z (bA Z)) Z Z))) Z Z) ?_
  refine rR Z Z Z (RO.not Z)<|XL.nil<|XQ.seq ?_
  refine XC.cond Z (fun h=>nomatch h) (fun _=>?_)
  refine XC.skip<|XQ.inBlock<|XQ.seq<|XC.region<|rR Z Z Z (RO.binInt Z Z Z)<|rM Z Z Z<|XL.nil ?_
  have e:=sI h2;subst e
  refine XQ.nextM ((w64 (s2.1+1)),y87.2,y87.1) (stle (tA Z) (hA Z) kZ Z (Nat.le_trans hv1 (lb Z)) Z Z Z (bF Z (bA Z)) Z Z) ho2
  replace hb91:ExecOK Try.prog (some 11) m31f10_c1 ⟨[(2,.v (.one (.ptr 1 0))),(3,.v (.one (.ptr 2 0))),(4,.v (.one (.ptr 3 0))),(5,.v (.one (.ptr 4 0))),(8,.v (.one (.ptr 8 0))),(9,.v (.one (.ptr 14 0)))],m31f10_h21 s2 a0 a1 x1 x86,[(13,some ⟨59,2,(Enc.encL ([x86]:List LV)).length,[]⟩)],15,65,[]⟩ .ret ⟨[],m31f10_h24 s2 a0 a1 x1 x86,[(13,some ⟨59,2,(Enc.encL ([x86]:List LV)).length,[]⟩)],18,65,[]⟩:=hb91
  refine XL.put Z Z (lb Z) (OpOK.yield (jump:=(some .ret)) Z Z Z Z Z (ExecOK.from ha90 (fun E hv=>(stle (tA Z) (hA Z) (kA Z) Z (Nat.le_trans hv (lb Z)) Z Z Z (bF Z (bA Z)) Z Z))) Z (ExecOK.from hb91 (fun E hv=>(stle (tA Z) (hA Z) (kA Z) Z (Nat.le_trans hv (lb Z)) Z Z Z (bF Z (bA Z)) Z Z))) Z Z) ?_
  refine rR Z Z Z (RO.not Z)<|XL.nil<|XQ.seq ?_
  refine XC.cond Z (fun _=>?_) (fun h=>nomatch h)
  refine XC.ret ?_
  have e:=sI h2;subst e
  have e_:_=_:=ho2
  subst e_
  try dsimp only [Sum.elim_inl,Sum.elim_inr] at h1
  have e:=sI h1;subst e
  exact hQ1 _ _ _ (.inr Z) Z (show StLe _ _ ⟨[],m31f10_h31 s2 a0 a1 x1,[],16,36,[]⟩ from (stle tZ (hA Z) kZ Z (Nat.le_trans hv1 (lb Z)) Z Z Z (bF Z (bA Z)) Z Z))
  replace h2:=condF c85 h2
  refine XC.exit<|XQ.thenE<|XQ.thenE ?_
  have e:=sI h2;subst e
  have e_:_=_:=ho2
  subst e_
  exact XQ.joinX (s2.2.1,s2.2.2) (stle tZ (hA Z) kZ Z (Nat.le_trans hv1 (lb Z)) Z Z Z (bF Z (bA Z)) Z Z) h1
  intro o83 h1
  refine XQ.blockX ?_
  have e:=sI h1;subst e
  exact hQ1 _ _ _ (.inl Z) Z (show StLe _ _ ⟨[],m31f10_h32 o83 a0 a1 x1,[],12,36,[]⟩ from (stle tZ (hA Z) kZ Z (Nat.le_trans hv1 (lb Z)) Z Z Z (bF Z (bA Z)) Z Z))
  intro v10 h1
  refine XQ.seq ?_
  refine XC.cond Z (fun _=>?_) (fun h=>nomatch h)
  refine XC.ret ?_
  have e:=sI h1;subst e
  exact hQ1 _ _ _ (.inr Z) Z (show StLe _ _ ⟨[],m31f10_h7 a2 a0 a1 x1,[],16,36,[]⟩ from (stle tZ (hA Z) kZ Z (Nat.le_trans hv1 (lb Z)) Z Z Z (bF Z (bA Z)) Z Z))
 refine sumK (C:=fun q_=>CallM Try.prog 62 [.one (.yld 11),.one (.ptr 9 0)] ⟨[(11,.loop .ready none [(2,.v (.one (.ptr 1 0))),(3,.v (.one (.ptr 2 0))),(4,.v (.one (.ptr 3 0))),(5,.v (.one (.ptr 4 0))),(8,.v (.one (.ptr 8 0))),(25,.v (.one (.fn 62 [(9,0)])))] 65 #[26] m31f10_c0 m31f10_c1 10),(10,.obj (.deferred (some []))),(0,.cells 39 (flatE a2)),(1,.cells 31 [.osl 0 0 a0 a0]),(2,.cells 41 (cE a1)),(3,.cells 4 [dB false]),(4,.cells 25 [dI 0]),(6,.cells 39 [dI x1.2.1,dS x1.2.2]),(7,.cells 39 [dI x1.2.1,dS x1.2.2]),(8,.cells 4 [dB false]),(9,.cells 39 [dI x1.2.1,dS x1.2.2])],[],12⟩ (resOf []) ⟨(((Sum.elim (fun (y5:Bool×(List Lvl))=>(⟨[],m31f10_h4 y5 a0 a1 x1,[],12,36,[]⟩:St)) (fun (y6:Bool×(List Lvl))=>(⟨[],m31f10_h6 y6 a0 a1 x1,[],16,36,[]⟩:St)))) q_).hp,(((Sum.elim (fun (y5:Bool×(List Lvl))=>(⟨[],m31f10_h4 y5 a0 a1 x1,[],12,36,[]⟩:St)) (fun (y6:Bool×(List Lvl))=>(⟨[],m31f10_h6 y6 a0 a1 x1,[],16,36,[]⟩:St)))) q_).tk,(((Sum.elim (fun (y5:Bool×(List Lvl))=>(⟨[],m31f10_h4 y5 a0 a1 x1,[],12,36,[]⟩:St)) (fun (y6:Bool×(List Lvl))=>(⟨[],m31f10_h6 y6 a0 a1 x1,[],16,36,[]⟩:St)))) q_).nx⟩) hc7 h0 (fun y5 hc7 h0=>?_) (fun y6 hc7 h0=>?_)
 replace hc7:CallM Try.prog 62 [.one (.yld 11),.one (.ptr 9 0)] ⟨[(11,.loop .ready none [(2,.v (.one (.ptr 1 0))),(3,.v (.one (.ptr 2 0))),(4,.v (.one (.ptr 3 0))),(5,.v (.one (.ptr 4 0))),(8,.v (.one (.ptr 8 0))),(25,.v (.one (.fn 62 [(9,0)])))] 65 #[26] m31f10_c0 m31f10_c1 10),(10,.obj (.deferred (some []))),(0,.cells 39 (flatE a2)),(1,.cells 31 [.osl 0 0 a0 a0]),(2,.cells 41 (cE a1)),(3,.cells 4 [dB false]),(4,.cells 25 [dI 0]),(6,.cells 39 [dI x1.2.1,dS x1.2.2]),(7,.cells 39 [dI x1.2.1,dS x1.2.2]),(8,.cells 4 [dB false]),(9,.cells 39 [dI x1.2.1,dS x1.2.2])],[],12⟩ (resOf []) ⟨m31f10_h4 y5 a0 a1 x1,[],12⟩:=hc7
 refine XC.exec (rangeFunc_out (e:=.normal) rfl hc7 rfl rfl (by intro h;cases h) rfl) rfl ?_
 refine XQ.inBlock<|XQ.seq<|XC.seq<|XC.region<|rR Z Z Z (RO.loadOwn ag_4 Z Z Z)<|XL.eff Z Z (OpOK.store ag_4 Z Z Z Z (lb Z) Z)<|XL.eff Z Z (OpOK.store ag_25 Z Z Z Z (lb Z) Z)<|XL.nil<|XQ.seq<|XC.ret ?_
 have e:=sI h0;subst e
 exact hQ0 _ _ _ (.inr Z) Z (stle (tA Z) (hA Z) kZ Z (Nat.le_trans hv0 (lb Z)) Z Z Z (bF Z (bA Z)) Z Z)
 replace hc7:CallM Try.prog 62 [.one (.yld 11),.one (.ptr 9 0)] ⟨[(11,.loop .ready none [(2,.v (.one (.ptr 1 0))),(3,.v (.one (.ptr 2 0))),(4,.v (.one (.ptr 3 0))),(5,.v (.one (.ptr 4 0))),(8,.v (.one (.ptr 8 0))),(25,.v (.one (.fn 62 [(9,0)])))] 65 #[26] m31f10_c0 m31f10_c1 10),(10,.obj (.deferred (some []))),(0,.cells 39 (flatE a2)),(1,.cells 31 [.osl 0 0 a0 a0]),(2,.cells 41 (cE a1)),(3,.cells 4 [dB false]),(4,.cells 25 [dI 0]),(6,.cells 39 [dI x1.2.1,dS x1.2.2]),(7,.cells 39 [dI x1.2.1,dS x1.2.2]),(8,.cells 4 [dB false]),(9,.cells 39 [dI x1.2.1,dS x1.2.2])],[],12⟩ (resOf []) ⟨m31f10_h6 y6 a0 a1 x1,[],16⟩:=hc7
 refine XC.exec (rangeFunc_out (e:=.ret) rfl hc7 rfl rfl (by intro h;cases h) rfl) rfl ?_
 have e:=sI h0;subst e
 exact hQ0 _ _ _ (.inr Z) Z (stle (tA Z) (hA Z) kZ Z (Nat.le_trans hv0 (lb Z)) Z Z Z (bF Z (bA Z)) Z Z)
def m15_l0 (a1:List Bnd) (a0:Int) (s2:Bool×Int×(List Lvl)):Option (LO (Bool×Int×(List Lvl)) ((Bool×(List Lvl))⊕((List Lvl)×Int×Int))) :=
 cond (decide (s2.2.1 < (a1.length:Int)))
   (Option.bind (idx a1 s2.2.1) fun (x7:Bnd) =>
 Option.bind (m31f10 a0.toNat x7 s2.2.2) fun (x8:(Bool×Int×(List Lvl))) =>
 cond (x8.2.1 != 0)
   (some (.done (.inr (([]:List Lvl),s2.2.1,x8.2.1))))
   (Option.bind (cond s2.1
   (some true)
   (some x8.1)) (fun (v10:Bool)=>some (.next (v10,(w64 (s2.2.1+1)),x8.2.2)))))
   (some (.done (.inl (s2.1,s2.2.2))))
def m15_l1 (a1:List Bnd) (a0:Int) (s1:(List Lvl)):Option (LO ((List Lvl)) (((List Lvl))⊕((List Lvl)×Int×Int))) :=
 Option.bind (loopN (m15_l0 a1 a0) FUEL (false,0,s1)) (Sum.elim (fun (o5:Bool×(List Lvl))=>cond (!o5.1)
   (some (.done (.inl o5.2)))
   (some (.next o5.2))) (fun o=>some (.done (.inr o))))
noncomputable abbrev m15_h0 (p0_:(Bool×Int×(List Lvl))) (p1_:Bnd):List (Nat×HB) :=
 [(0,.cells 39 (flatE p0_.2.2)),(1,.cells 41 (cE p1_)),(4,.cells 4 [dB p0_.1]),(5,.cells 25 [dI p0_.2.1])]
def m15 (a0:Int) (a1:List Bnd):Option ((List Lvl)×Int×Int) :=
 Option.bind (m13 a0 a1) fun (x1:Int×Int) =>
 cond (x1.2 != 0)
   (some (([]:List Lvl),x1.1,x1.2))
   (guardO (cond (decide (0≤a0)) (Nat.ble (32 * a0.toNat) 281474976710656) false)
 (Option.bind (loopN (m15_l1 a1 a0) FUEL (List.replicate a0.toNat (⟨0,([]:List LV)⟩:Lvl))) (Sum.elim (fun (o4:(List Lvl))=>guardO (Nat.beq o4.length a0.toNat)
 (some (o4,0,0))) (fun o=>some o))))
theorem m15_ok (a0:Int) (a1:List Bnd) (r:(List Lvl)×Int×Int) (h0:m15 a0 a1=some r):Fun Try.prog 15 [.one (dI a0),.one (dS a1)] (resOf [.one (dS r.1),.one (dI r.2.1),.one (dI r.2.2)]):=by
 unfold m15 at h0
 refine Fun.of_bodyM 9 52 Try.func15 Z en_15 Z (lb Z) (fun S w=>?_)
 simp only [entry]
 refine XC.seq<|XC.region<|rA Z Z Z<|rA Z Z Z<|rA Z Z Z<|XL.nil<|XQ.seq<|XC.scope<|XC.seq<|XC.seq<|XC.region<|rM Z Z Z<|rM Z Z Z ?_
 refine bindK h0 (fun x1 hx1 h0=>?_)
 refine XL.put Z Z (lb Z) (OpOK.callFun (m13_ok a0 a1 x1 hx1) Z (.cons (.one (.d _)) (.cons (.one (.d _)) .nil)))<|rM Z Z Z<|rR Z Z Z (RO.extract Z Z)<|rR Z Z Z (RO.extract Z Z)<|rA Z Z Z<|rA Z Z Z<|XL.nil<|XQ.seq<|XC.seq<|XC.region<|rM Z Z Z<|rR Z Z Z (RO.binInt Z Z Z)<|XL.nil<|XQ.seq ?_
 refine XC.cond (b:=(x1.2 != 0)) Z (fun c2=>?_) (fun c2=>?_)
 replace h0:=condT c2 h0
 refine XC.seq<|XC.region<|rM Z Z Z<|rM Z Z Z<|rA Z Z Z<|rA Z Z Z<|rA Z Z Z<|XL.nil<|XQ.seq<|XC.ret ?_
 have e:=sI h0;subst e
 exact XQ.retF (fun _ _ h=>h) Z (RAs.tmp Z (RAs.tmp Z (RAs.tmp Z .nil))) (.cons (.one (.nil _)) (.cons (.one (.d _)) (.cons (.one (.d _)) .nil)))
 replace h0:=condF c2 h0
 refine XC.skip<|XQ.seq<|XC.seq<|XC.region<|rM Z Z Z ?_
 refine guardK h0 (fun g3 h0=>?_)
 refine XL.put rfl rfl (lb rfl) (OpOK.makeO (α:=Lvl) (z:=(⟨0,([]:List LV)⟩:Lvl)) sl_31 z_39 rfl rfl el_39 rfl rfl g3 rfl (by repeat (first | exact CLs.nil | refine CLs.cons (by first | exact .refl _ | exact .sub (.app _ _ _) | exact .sub (.nil _)) ?_))) ?_
 refine rA Z Z Z<|XL.nil<|XQ.seq<|XC.seq<|XC.label<|XQ.seq<|XC.seq<|XC.block ?_
 refine XC.joinX 0 (fun (o4:(List Lvl))=>⟨[(9,.v (.one (.osl 0 0 a0.toNat a0.toNat)))],[(0,.cells 39 (flatE o4))],[],1,52,[]⟩) (fun (o4:(List Lvl))=>(guardO (Nat.beq o4.length a0.toNat)
   (some (o4,0,0)))=some r) ?_ ?_
 refine bindK h0 (fun o5 hl1 h0=>?_)
 refine XC.loopM (m15_l1 a1 a0) (fun s1=>⟨[(1,.v (.one (dS a1))),(9,.v (.one (.osl 0 0 a0.toNat a0.toNat)))],[(0,.cells 39 (flatE s1))],[],1,52,[]⟩) (List.replicate a0.toNat (⟨0,([]:List LV)⟩:Lvl)) o5 (stle (tA Z) (hA Z) kZ Z (Nat.zero_le _) Z Z Z (bF Z bZ) Z Z) hl1 (fun s1 n1 oo1 h1 ho1=>?_)
 unfold m15_l1 at h1
 refine XC.block<|XC.seq<|XC.region<|rA Z Z Z<|XL.nil<|XQ.seq<|XC.seq<|XC.seq<|XC.region<|rM Z Z Z<|rR Z Z Z (RO.lenE (α:=Bnd) sl_22 Z (.d _))<|rM Z Z Z<|XL.nil<|XQ.seq ?_
 refine XC.block ?_
 refine XC.joinX 2 (fun (o6:Bool×(List Lvl))=>⟨[(1,.v (.one (dS a1))),(9,.v (.one (.osl 0 0 a0.toNat a0.toNat))),(10,.v (.one (dB o6.1)))],[(0,.cells 39 (flatE o6.2))],[],1,52,[]⟩) (fun (o6:Bool×(List Lvl))=>(cond (!o6.1)
     (some (.done (.inl o6.2)))
     (some (.next o6.2)))=some oo1) ?_ ?_
 refine bindK h1 (fun o7 hl2 h1=>?_)
 refine XC.loopM (m15_l0 a1 a0) (fun s2=>⟨[(1,.v (.one (dS a1))),(9,.v (.one (.osl 0 0 a0.toNat a0.toNat))),(10,.v (.one (dB s2.1))),(27,.v (.one (dS a1))),(28,.v (.one (dI (a1.length:Int)))),(29,.v (.one (dI s2.2.1)))],[(0,.cells 39 (flatE s2.2.2))],[],1,52,[]⟩) (false,0,s1) o7 (stle (tA Z) (hA Z) kZ Z (Nat.zero_le _) Z Z Z (bF Z bZ) Z Z) hl2 (fun s2 n2 oo2 h2 ho2=>?_)
 unfold m15_l0 at h2
 refine XC.seq<|XC.region<|rR Z Z Z (RO.binInt Z Z Z)<|XL.nil<|XQ.seq<|XC.seq ?_
 refine XC.cond (b:=(decide (s2.2.1 < (a1.length:Int)))) Z (fun c8=>?_) (fun c8=>?_)
 replace h2:=condT c8 h2
 refine XC.skip<|XQ.seq<|XC.seq<|XC.block<|XC.seq<|XC.region<|rM Z Z Z ?_
 refine bindK h2 (fun x9 hx9 h2=>?_)
 refine rR Z Z Z (RO.indexE (α:=Bnd) sl_22 Z (.d _) Z hx9)<|rR Z Z Z (RO.loadPelCE (x9:Bnd) ag_41 Z)<|XL.put Z Z (lb Z) (OpOK.alloc z_41 Z)<|rA Z Z Z<|XL.eff Z Z (OpOK.storeCE (x9:Bnd) ag_41 Z Z Z Z Z)<|XL.nil<|XQ.seq<|XC.seq<|XC.region<|rM Z Z Z<|rR Z Z Z (RO.loadCE (x9:Bnd) ag_41 Z Z) ?_
 refine bindK h2 (fun x10 hx10 h2=>?_)
 refine XL.put Z Z (lb Z) (OpOK.callG (hp1':=[(0,.cells 39 (flatE x10.2.2)),(4,.cells 4 [dB x10.1]),(5,.cells 25 [dI x10.2.1])]) (tk1':=[]) (hpF:=[(1,.cells 41 (cE x9))]) (tkF:=[]) (res2:=resOf [.one (dB x10.1),.one (dI x10.2.1)]) (nx2:=9) [0] Z Z (m31f10_ok a0.toNat x9 s2.2.2 x10 hx10) Z Z (qF Z (qB Z Z (qB Z Z qZ))) Z Z (gF Z gZ) jZ (hA Z) kZ Z Z Z Z Z (bF Z bZ) Z Z Z Z)<|rM Z Z Z<|rR Z Z Z (RO.extract Z Z)<|rR Z Z Z (RO.extract Z Z)<|rA Z Z Z<|rA Z Z Z<|XL.nil<|XQ.seq<|XC.seq<|XC.seq<|XC.region<|rM Z Z Z<|rR Z Z Z (RO.binInt Z Z Z)<|XL.nil ?_
 refine XQ.seq ?_
 refine XC.cond (b:=(x10.2.1 != 0)) Z (fun c11=>?_) (fun c11=>?_)
 replace h2:=condT c11 h2
 refine XC.seq<|XC.region<|rM Z Z Z<|rM Z Z Z<|rA Z Z Z<|rA Z Z Z<|rA Z Z Z<|XL.nil<|XQ.seq<|XC.ret ?_
 have e:=sI h2;subst e
 have e_:_=_:=ho2
 subst e_
 try dsimp only [Sum.elim_inl,Sum.elim_inr] at h1
 have e:=sI h1;subst e
 have e_:_=_:=ho1
 subst e_
 try dsimp only [Sum.elim_inl,Sum.elim_inr] at h0
 have e:=sI h0;subst e
 exact XQ.retF (fun _ _ h=>h) Z (RAs.tmp Z (RAs.tmp Z (RAs.tmp Z .nil))) (.cons (.one (.nil _)) (.cons (.one (.d _)) (.cons (.one (.d _)) .nil)))
 replace h2:=condF c11 h2
 refine XC.skip<|XQ.seq ?_
 refine XC.joinR (fun (v12:Bool)=>⟨[(1,.v (.one (dS a1))),(9,.v (.one (.osl 0 0 a0.toNat a0.toNat))),(10,.v (.one (dB v12))),(27,.v (.one (dS a1))),(28,.v (.one (dI (a1.length:Int)))),(29,.v (.one (dI s2.2.1)))],m15_h0 x10 x9,[],9,52,[]⟩) (fun (v12:Bool)=>(some (.next (v12,(w64 (s2.2.1+1)),x10.2.2)))=some oo2) ?_ ?_
 refine bindK h2 (fun w3_ h3 h2=>?_)
 refine XC.region<|rM Z Z Z<|rM Z Z Z ?_
 refine XL.case (d:=45) (c:=s2.1) Z (fun c13=>?_) (fun c13=>?_)
 replace h3:=condT c13 h3
 refine XL.no Z Z<|rR Z Z Z (RO.pickT Z Z)<|rA Z Z Z<|XL.nil ?_
 have e:=sI h3;subst e
 exact XQ.joinR true (stle (tA Z) (hA Z) kZ Z (Nat.zero_le _) Z Z Z (bF Z (bA Z)) Z Z) h2
 replace h3:=condF c13 h3
 refine rM Z Z Z<|rR Z Z Z (RO.pickF Z Z)<|rA Z Z Z<|XL.nil ?_
 have e:=sI h3;subst e
 exact XQ.joinR x10.1 (stle (tA Z) (hA Z) kZ Z (Nat.zero_le _) Z Z Z (bF Z (bA Z)) Z Z) h2
 intro v12 h2
 refine XQ.inBlock<|XQ.seq<|XC.region<|rR Z Z Z (RO.binInt Z Z Z)<|rM Z Z Z<|XL.nil ?_
 have e:=sI h2;subst e
 refine XQ.nextM (v12,(w64 (s2.2.1+1)),x10.2.2) (stle (tA Z) (hA Z) kZ Z (Nat.zero_le _) Z Z Z (bF Z bZ) Z Z) ho2
 replace h2:=condF c8 h2
 refine XC.exit<|XQ.thenE<|XQ.thenE ?_
 have e:=sI h2;subst e
 have e_:_=_:=ho2
 subst e_
 exact XQ.joinX (s2.1,s2.2.2) (stle (tA Z) (hA Z) kZ Z (Nat.zero_le _) Z Z Z (bF Z bZ) Z Z) h1
 intro o6 h1
 refine XQ.blockX<|XQ.seq<|XC.seq<|XC.region<|rM Z Z Z<|rR Z Z Z (RO.not Z)<|XL.nil<|XQ.seq ?_
 refine XC.cond (b:=(!o6.1)) Z (fun c14=>?_) (fun c14=>?_)
 replace h1:=condT c14 h1
 refine XC.exit ?_
 refine XQ.blockE (by decide) ?_
 refine XQ.thenE ?_
 have e:=sI h1;subst e
 have e_:_=_:=ho1
 subst e_
 exact XQ.joinX o6.2 (stle (tA Z) (hA Z) kZ Z (Nat.zero_le _) Z Z Z (bF Z bZ) Z Z) h0
 replace h1:=condF c14 h1
 refine XC.skip<|XQ.inBlock ?_
 have e:=sI h1;subst e
 refine XQ.nextM o6.2 (stle (tA Z) (hA Z) kZ Z (Nat.zero_le _) Z Z Z (bF Z bZ) Z Z) ho1
 intro o4 h0
 refine XQ.blockX<|XQ.seq<|XC.seq<|XC.region<|rM Z Z Z<|rA Z Z Z<|rA Z Z Z<|rA Z Z Z<|XL.nil<|XQ.seq<|XC.ret ?_
 refine guardK h0 (fun g15 h0=>?_)
 have e:=sI h0;subst e
 refine XQ.freezeT (α:=Lvl) (t:=4) Z Z g15 ?_
 exact XQ.retF (fun _ _ h=>h) Z (RAs.tmp Z (RAs.tmp Z (RAs.tmp Z .nil))) (.cons (.one (.d _)) (.cons (.one (.d _)) (.cons (.one (.d _)) .nil)))
end Go.Proofs.Ytkimijmiphkddaa
namespace Go.Proofs.Ytkimijmiphkddaa
open Go.RowKit Go.Shelf
theorem bd_41:IsStruct Try.prog 41 [(0,2),(2,2)] [.int .i64 0,.slice none 0 0,.int .i64 0,.slice none 0 0]:=⟨by kernel_rfl,by kernel_rfl⟩
theorem ip_59:isPairTy Try.prog 59=true:=by kernel_rfl
theorem en_12:Enters Try.prog 12:=enters_of Try.func12 (by kernel_rfl) rfl
theorem en_17:Enters Try.prog 17:=enters_of Try.func17 (by kernel_rfl) rfl
theorem en_27:Enters Try.prog 27:=enters_of Try.func27 (by kernel_rfl) rfl
theorem en_33:Enters Try.prog 33:=enters_of Try.func33 (by kernel_rfl) rfl
def m33_l0 (a0:Lvl) (a1:Lvl) (s1:Int):Option (LO Int (Unit⊕Bool)) :=
 cond (decide (s1 < (a0.vs.length:Int)))
   (Option.bind (idx a0.vs s1) fun (x5:LV) =>
 Option.bind (idx a1.vs s1) fun (x6:LV) =>
 cond (!((x5.1==x6.1)&&(x5.2==x6.2)))
   (some (.done (.inr false)))
   (some (.next (w64 (s1+1)))))
   (some (.done (.inl ())))
def m33 (a0:Lvl) (a1:Lvl):Option Bool :=
 Option.bind (cond (a0.c != a1.c)
   (some true)
   (some ((a0.vs.length:Int) != (a1.vs.length:Int)))) (fun (v1:Bool)=>cond v1
   (some false)
   (Option.bind (loopN (m33_l0 a0 a1) FUEL 0) (Sum.elim (fun (o3:Unit)=>some true) (fun o=>some o))))
theorem m33_ok (a0:Lvl) (a1:Lvl) (r:Bool) (h0:m33 a0 a1=some r):Fun Try.prog 33 [.agg (cE a0),.agg (cE a1)] (resOf [.one (dB r)]):=by
 unfold m33 at h0
 refine Fun.of_bodyM 9 38 Try.func33 Z en_33 Z (lb Z) (fun S w=>?_)
 simp only [entry]
 refine XC.seq<|XC.region<|XL.put Z Z (lb Z) (OpOK.box Z)<|XL.put Z Z (lb Z) (OpOK.box Z)<|rA Z Z Z<|XL.nil<|XQ.seq<|XC.seq<|XC.seq ?_
 refine XC.joinR (fun (v1:Bool)=>⟨[(2,.v (.one (.ptr 0 0))),(3,.v (.one (.ptr 1 0))),(19,.v (.one (dB v1)))],[(0,.cells 39 (cE a0)),(1,.cells 39 (cE a1))],[],2,38,[]⟩) (fun (v1:Bool)=>(cond v1
     (some false)
     (Option.bind (loopN (m33_l0 a0 a1) FUEL 0) (Sum.elim (fun (o3:Unit)=>some true) (fun o=>some o))))=some r) ?_ ?_
 refine bindK h0 (fun w1_ h1 h0=>?_)
 refine XC.region<|rR Z Z Z (RO.fieldOwn fo_39_0 Z)<|rR Z Z Z (RO.loadOwn ag_3 Z Z Z)<|rR Z Z Z (RO.fieldOwn fo_39_0 Z)<|rR Z Z Z (RO.loadOwn ag_3 Z Z Z)<|rR Z Z Z (RO.binInt Z Z Z)<|rM Z Z Z ?_
 refine XL.case (d:=11) (c:=(a0.c != a1.c)) Z (fun c2=>?_) (fun c2=>?_)
 replace h1:=condT c2 h1
 refine XL.no Z Z<|XL.no Z Z<|XL.no Z Z<|XL.no Z Z<|XL.no Z Z<|XL.no Z Z<|XL.no Z Z<|rR Z Z Z (RO.pickT Z Z)<|XL.nil ?_
 have e:=sI h1;subst e
 exact XQ.joinR true (sL (Nat.zero_le _) Z Z Z Z Z) h0
 replace h1:=condF c2 h1
 refine rR Z Z Z (RO.fieldOwn fo_39_1 Z)<|rR Z Z Z (RO.loadOwn ag_37 Z Z Z)<|rR Z Z Z (RO.lenE (α:=LV) sl_37 Z (.d _))<|rR Z Z Z (RO.fieldOwn fo_39_1 Z)<|rR Z Z Z (RO.loadOwn ag_37 Z Z Z)<|rR Z Z Z (RO.lenE (α:=LV) sl_37 Z (.d _))<|rR Z Z Z (RO.binInt Z Z Z)<|rR Z Z Z (RO.pickF Z Z)<|XL.nil ?_
 have e:=sI h1;subst e
 exact XQ.joinR ((a0.vs.length:Int) != (a1.vs.length:Int)) (sL (Nat.zero_le _) Z Z Z Z Z) h0
 intro v1 h0
 refine XQ.seq ?_
 refine XC.cond (b:=v1) Z (fun c3=>?_) (fun c3=>?_)
 replace h0:=condT c3 h0
 refine XC.seq<|XC.region<|rA Z Z Z<|XL.nil<|XQ.seq<|XC.ret ?_
 have e:=sI h0;subst e
 exact XQ.retF (fun _ _ h=>h) Z (RAs.tmp Z .nil) (.cons (.one (.d _)) .nil)
 replace h0:=condF c3 h0
 refine XC.skip<|XQ.seq<|XC.seq<|XC.seq<|XC.region<|rA Z Z Z<|XL.nil<|XQ.seq<|XC.block ?_
 refine XC.joinX 0 (fun (o4:Unit)=>⟨[],[(0,.cells 39 (cE a0)),(1,.cells 39 (cE a1))],[],2,38,[]⟩) (fun (o4:Unit)=>(some true)=some r) ?_ ?_
 refine bindK h0 (fun o5 hl1 h0=>?_)
 refine XC.loopM (m33_l0 a0 a1) (fun s1=>⟨[(2,.v (.one (.ptr 0 0))),(3,.v (.one (.ptr 1 0))),(5,.v (.one (dI s1)))],[(0,.cells 39 (cE a0)),(1,.cells 39 (cE a1))],[],2,38,[]⟩) 0 o5 (sL (Nat.zero_le _) Z Z Z Z Z) hl1 (fun s1 n1 oo1 h1 ho1=>?_)
 unfold m33_l0 at h1
 refine XC.seq<|XC.seq<|XC.region<|rM Z Z Z<|rR Z Z Z (RO.fieldOwn fo_39_1 Z)<|rR Z Z Z (RO.loadOwn ag_37 Z Z Z)<|rR Z Z Z (RO.lenE (α:=LV) sl_37 Z (.d _))<|rR Z Z Z (RO.binInt Z Z Z)<|XL.nil<|XQ.seq ?_
 refine XC.cond (b:=(decide (s1 < (a0.vs.length:Int)))) Z (fun c6=>?_) (fun c6=>?_)
 replace h1:=condT c6 h1
 refine XC.skip<|XQ.seq<|XC.seq<|XC.block<|XC.seq ?_
 refine XC.anyRun [] [] mixed (by kernel_rfl) (by kernel_rfl) (by kernel_rfl) ?_
 refine RunA.rd Z Z Z (OpOK.of_ro (RO.fieldOwn fo_39_1 Z)) Z<|RunA.rd Z Z Z (OpOK.of_ro (RO.loadOwn ag_37 Z Z Z)) Z<|RunA.rd Z Z Z (OpOK.of_ro (RO.move Z)) Z ?_
 refine bindK h1 (fun x7 hx7 h1=>?_)
 refine RunA.rd Z Z Z (OpOK.of_ro (RO.indexE (α:=LV) sl_37 Z (.d _) Z hx7)) Z<|RunA.rd Z Z Z (OpOK.of_ro (RO.loadPelCE (x7:LV) ag_59 Z)) Z<|RunA.rd Z Z Z (OpOK.of_ro (RO.fieldOwn fo_39_1 Z)) Z<|RunA.rd Z Z Z (OpOK.of_ro (RO.loadOwn ag_37 Z Z Z)) Z<|RunA.rd Z Z Z (OpOK.of_ro (RO.move Z)) Z ?_
 refine bindK h1 (fun x8 hx8 h1=>?_)
 refine RunA.rd Z Z Z (OpOK.of_ro (RO.indexE (α:=LV) sl_37 Z (.d _) Z hx8)) Z<|RunA.rd Z Z Z (OpOK.of_ro (RO.loadPelCE (x8:LV) ag_59 Z)) Z<|RunA.rd Z Z Z (OpOK.of_ro (RO.neqPair ip_59 Z Z)) Z ?_
 refine RunA.nil ⟨?ex,_,_,Z,?_⟩
 case ex=>exact trivial
 refine XQ.less (st':=⟨[(2,.v (.one (.ptr 0 0))),(3,.v (.one (.ptr 1 0))),(5,.v (.one (dI s1))),(37,.v (.one (dB (!((x7.1==x8.1)&&(x7.2==x8.2))))))],[(0,.cells 39 (cE a0)),(1,.cells 39 (cE a1))],[],2,38,[]⟩) (sL (Nat.zero_le _) Z Z Z Z Z)<|XQ.seq ?_
 refine XC.cond (b:=(!((x7.1==x8.1)&&(x7.2==x8.2)))) Z (fun c9=>?_) (fun c9=>?_)
 replace h1:=condT c9 h1
 refine XC.seq<|XC.region<|rA Z Z Z<|XL.nil<|XQ.seq<|XC.ret ?_
 have e:=sI h1;subst e
 have e_:_=_:=ho1
 subst e_
 try dsimp only [Sum.elim_inl,Sum.elim_inr] at h0
 have e:=sI h0;subst e
 exact XQ.retF (fun _ _ h=>h) Z (RAs.tmp Z .nil) (.cons (.one (.d _)) .nil)
 replace h1:=condF c9 h1
 refine XC.skip<|XQ.inBlock<|XQ.seq<|XC.region<|rM Z Z Z<|rR Z Z Z (RO.binInt Z Z Z)<|rA Z Z Z<|XL.nil ?_
 have e:=sI h1;subst e
 refine XQ.nextM (w64 (s1+1)) (sL (Nat.zero_le _) Z Z Z Z Z) ho1
 replace h1:=condF c6 h1
 refine XC.exit<|XQ.thenE<|XQ.thenE ?_
 have e:=sI h1;subst e
 have e_:_=_:=ho1
 subst e_
 exact XQ.joinX () (sL (Nat.zero_le _) Z Z Z Z Z) h0
 intro o4 h0
 refine XQ.blockX<|XQ.seq<|XC.seq<|XC.region<|rA Z Z Z<|XL.nil<|XQ.seq<|XC.ret ?_
 have e:=sI h0;subst e
 exact XQ.retF (fun _ _ h=>h) Z (RAs.tmp Z .nil) (.cons (.one (.d _)) .nil)
def m17_l0 (a0:List Lvl) (a1:List Lvl) (s1:Int):Option (LO Int (Unit⊕Bool)) :=
 cond (decide (s1 < (a0.length:Int)))
   (Option.bind (idx a0 s1) fun (x4:Lvl) =>
 Option.bind (idx a1 s1) fun (x5:Lvl) =>
 Option.bind (m33 x4 x5) fun (x6:Bool) =>
 cond (!x6)
   (some (.done (.inr false)))
   (some (.next (w64 (s1+1)))))
   (some (.done (.inl ())))
def m17 (a0:List Lvl) (a1:List Lvl):Option Bool :=
 cond ((a0.length:Int) != (a1.length:Int))
   (some false)
   (Option.bind (loopN (m17_l0 a0 a1) FUEL 0) (Sum.elim (fun (o2:Unit)=>some true) (fun o=>some o)))
theorem m17_ok (a0:List Lvl) (a1:List Lvl) (r:Bool) (h0:m17 a0 a1=some r):Fun Try.prog 17 [.one (dS a0),.one (dS a1)] (resOf [.one (dB r)]):=by
 unfold m17 at h0
 refine Fun.of_bodyM 9 27 Try.func17 Z en_17 Z (lb Z) (fun S w=>?_)
 simp only [entry]
 refine XC.seq<|XC.region<|rA Z Z Z<|XL.nil<|XQ.seq<|XC.seq<|XC.seq<|XC.region<|rM Z Z Z<|rR Z Z Z (RO.lenE (α:=Lvl) sl_31 Z (.d _))<|rM Z Z Z<|rR Z Z Z (RO.lenE (α:=Lvl) sl_31 Z (.d _))<|rR Z Z Z (RO.binInt Z Z Z)<|XL.nil ?_
 refine XQ.seq ?_
 refine XC.cond (b:=((a0.length:Int) != (a1.length:Int))) Z (fun c1=>?_) (fun c1=>?_)
 replace h0:=condT c1 h0
 refine XC.seq<|XC.region<|rA Z Z Z<|XL.nil<|XQ.seq<|XC.ret ?_
 have e:=sI h0;subst e
 exact XQ.retF (fun _ _ h=>h) Z (RAs.tmp Z .nil) (.cons (.one (.d _)) .nil)
 replace h0:=condF c1 h0
 refine XC.skip<|XQ.seq<|XC.seq<|XC.seq<|XC.region<|rA Z Z Z<|XL.nil<|XQ.seq<|XC.block ?_
 refine XC.joinX 0 (fun (o2:Unit)=>⟨[],[],[],0,27,[]⟩) (fun (o2:Unit)=>(some true)=some r) ?_ ?_
 refine bindK h0 (fun o3 hl1 h0=>?_)
 refine XC.loopM (m17_l0 a0 a1) (fun s1=>⟨[(0,.v (.one (dS a0))),(1,.v (.one (dS a1))),(5,.v (.one (dI s1)))],[],[],0,27,[]⟩) 0 o3 (sL (Nat.zero_le _) Z Z Z Z Z) hl1 (fun s1 n1 oo1 h1 ho1=>?_)
 unfold m17_l0 at h1
 refine XC.seq<|XC.seq<|XC.region<|rM Z Z Z<|rM Z Z Z<|rR Z Z Z (RO.lenE (α:=Lvl) sl_31 Z (.d _))<|rR Z Z Z (RO.binInt Z Z Z)<|XL.nil<|XQ.seq ?_
 refine XC.cond (b:=(decide (s1 < (a0.length:Int)))) Z (fun c4=>?_) (fun c4=>?_)
 replace h1:=condT c4 h1
 refine XC.skip<|XQ.seq<|XC.seq<|XC.block<|XC.seq ?_
 refine XC.anyRun [] [] mixed (by kernel_rfl) (by kernel_rfl) (by kernel_rfl) ?_
 refine RunA.rd Z Z Z (OpOK.of_ro (RO.move Z)) Z<|RunA.rd Z Z Z (OpOK.of_ro (RO.move Z)) Z ?_
 refine bindK h1 (fun x5 hx5 h1=>?_)
 refine RunA.rd Z Z Z (OpOK.of_ro (RO.indexE (α:=Lvl) sl_31 Z (.d _) Z hx5)) Z<|RunA.rd Z Z Z (OpOK.of_ro (RO.loadPelCE (x5:Lvl) ag_39 Z)) Z<|RunA.rd Z Z Z (OpOK.of_ro (RO.move Z)) Z<|RunA.rd Z Z Z (OpOK.of_ro (RO.move Z)) Z ?_
 refine bindK h1 (fun x6 hx6 h1=>?_)
 refine RunA.rd Z Z Z (OpOK.of_ro (RO.indexE (α:=Lvl) sl_31 Z (.d _) Z hx6)) Z<|RunA.rd Z Z Z (OpOK.of_ro (RO.loadPelCE (x6:Lvl) ag_39 Z)) Z ?_
 refine bindK h1 (fun x7 hx7 h1=>?_)
 refine RunA.rd Z Z Z (OpOK.callFun (m33_ok x5 x6 x7 hx7) Z (.cons (.agg (.cons (.d _) (.cons (.d _) .nil))) (.cons (.agg (.cons (.d _) (.cons (.d _) .nil))) .nil))) Z<|RunA.rd Z Z Z (OpOK.of_ro (RO.not Z)) Z ?_
 refine RunA.nil ⟨?ex,_,_,Z,?_⟩
 case ex=>exact trivial
 refine XQ.less (st':=⟨[(0,.v (.one (dS a0))),(1,.v (.one (dS a1))),(5,.v (.one (dI s1))),(26,.v (.one (dB (!x7))))],[],[],0,27,[]⟩) (sL (Nat.zero_le _) Z Z Z Z Z)<|XQ.seq ?_
 refine XC.cond (b:=(!x7)) Z (fun c8=>?_) (fun c8=>?_)
 replace h1:=condT c8 h1
 refine XC.seq<|XC.region<|rA Z Z Z<|XL.nil<|XQ.seq<|XC.ret ?_
 have e:=sI h1;subst e
 have e_:_=_:=ho1
 subst e_
 try dsimp only [Sum.elim_inl,Sum.elim_inr] at h0
 have e:=sI h0;subst e
 exact XQ.retF (fun _ _ h=>h) Z (RAs.tmp Z .nil) (.cons (.one (.d _)) .nil)
 replace h1:=condF c8 h1
 refine XC.skip<|XQ.inBlock<|XQ.seq<|XC.region<|rM Z Z Z<|rR Z Z Z (RO.binInt Z Z Z)<|rA Z Z Z<|XL.nil ?_
 have e:=sI h1;subst e
 refine XQ.nextM (w64 (s1+1)) (sL (Nat.zero_le _) Z Z Z Z Z) ho1
 replace h1:=condF c4 h1
 refine XC.exit<|XQ.thenE<|XQ.thenE ?_
 have e:=sI h1;subst e
 have e_:_=_:=ho1
 subst e_
 exact XQ.joinX () (sL (Nat.zero_le _) Z Z Z Z Z) h0
 intro o2 h0
 refine XQ.blockX<|XQ.seq<|XC.seq<|XC.region<|rA Z Z Z<|XL.nil<|XQ.seq<|XC.ret ?_
 have e:=sI h0;subst e
 exact XQ.retF (fun _ _ h=>h) Z (RAs.tmp Z .nil) (.cons (.one (.d _)) .nil)
def m27 (a0:Int) (a1:Int):Option Lvl :=
 some (⟨0,[(a0,a1)]⟩:Lvl)
theorem m27_ok (a0:Int) (a1:Int) (r:Lvl) (h0:m27 a0 a1=some r):Fun Try.prog 27 [.one (dI a0),.one (dI a1)] (resOf [.agg (cE r)]):=by
 unfold m27 at h0
 refine Fun.of_bodyM 9 10 Try.func27 Z en_27 Z (lb Z) (fun S w=>?_)
 simp only [entry]
 refine XC.seq<|XC.region<|XL.put Z Z (lb Z) (OpOK.alloc z_39 Z)<|XL.nil<|XQ.seq<|XC.seq<|XC.region<|rM Z Z Z<|rM Z Z Z<|rR Z Z Z (RO.build2 bd_59 Z Z Z Z)<|XL.put Z Z (lb Z) (OpOK.lit1E (α:=LV) ((a0,a1)) sl_37 z_59 Z Z (lb Z) (lb Z) Z Z (.cons (.d _) (.cons (.d _) .nil)) Z)<|rR Z Z Z (RO.build1 bd_39 Z Z Z)<|XL.eff Z Z (OpOK.store ag_39 Z Z Z Z (lb Z) Z)<|XL.nil ?_
 refine XQ.seq<|XC.ret ?_
 have e:=sI h0;subst e
 exact XQ.retF (fun _ _ h=>h) Z (RAs.agg ag_39 Z Z Z Z .nil) (.cons (.agg (.cons (.d _) (.cons (.app _ _ _) .nil))) .nil)
def m12 :Option Bool :=
 Option.bind (m27 0 0) fun (x1:Lvl) =>
 Option.bind (m27 (-1) 0) fun (x2:Lvl) =>
 Option.bind (m27 (-1) 1) fun (x3:Lvl) =>
 Option.bind (m27 (-1) 1) fun (x4:Lvl) =>
 Option.bind (m27 (-2) 0) fun (x5:Lvl) =>
 Option.bind (m15 2 ([(⟨x1,x2⟩:Bnd),(⟨(⟨2,([]:List LV)⟩:Lvl),x3⟩:Bnd),(⟨x4,x5⟩:Bnd)])) fun (x6:(List Lvl)×Int×Int) =>
 guardO (Nat.ble (([]:List Bnd).length+([(⟨x1,x2⟩:Bnd),(⟨(⟨2,([]:List LV)⟩:Lvl),x3⟩:Bnd),(⟨x4,x5⟩:Bnd)]).length) 1000000000)
 (Option.bind (m27 (-2) 0) fun (x8:Lvl) =>
 guardO (Nat.ble ((([]:List Bnd)++([(⟨x1,x2⟩:Bnd),(⟨(⟨2,([]:List LV)⟩:Lvl),x3⟩:Bnd),(⟨x4,x5⟩:Bnd)])).length+([(⟨x8,(⟨1,([]:List LV)⟩:Lvl)⟩:Bnd)]).length) 1000000000)
 (Option.bind (m15 2 ((([]:List Bnd)++([(⟨x1,x2⟩:Bnd),(⟨(⟨2,([]:List LV)⟩:Lvl),x3⟩:Bnd),(⟨x4,x5⟩:Bnd)]))++([(⟨x8,(⟨1,([]:List LV)⟩:Lvl)⟩:Bnd)]))) fun (x10:(List Lvl)×Int×Int) =>
 Option.bind (m27 (-1) 1) fun (x11:Lvl) =>
 Option.bind (m27 (-1) 0) fun (x12:Lvl) =>
 Option.bind (m15 1 ([(⟨x11,x12⟩:Bnd)])) fun (x13:(List Lvl)×Int×Int) =>
 Option.bind (m27 0 1) fun (x14:Lvl) =>
 Option.bind (m27 1 0) fun (x15:Lvl) =>
 Option.bind (m27 1 0) fun (x16:Lvl) =>
 Option.bind (m27 0 0) fun (x17:Lvl) =>
 Option.bind (m18 ([(⟨x14,x15⟩:Bnd),(⟨x16,(⟨3,([]:List LV)⟩:Lvl)⟩:Bnd)]) (⟨x17,(⟨2,([]:List LV)⟩:Lvl)⟩:Bnd)) fun (x18:Bool×Int) =>
 Option.bind (m27 0 0) fun (x19:Lvl) =>
 Option.bind (m18 ([(⟨x14,x15⟩:Bnd),(⟨x16,(⟨3,([]:List LV)⟩:Lvl)⟩:Bnd)]) (⟨x19,(⟨1,([]:List LV)⟩:Lvl)⟩:Bnd)) fun (x20:Bool×Int) =>
 Option.bind (cond (x6.2.2==0)
   (Option.bind (m17 x6.1 ([(⟨1,[(0,0)]⟩:Lvl),(⟨2,[(0,1)]⟩:Lvl)])) fun (x23:Bool) =>
 cond x23
   (cond (x10.2.1==3)
   (cond (x10.2.2==15)
   (cond (x13.2.1==0)
   (cond (x13.2.2==15)
   (cond x18.1
   (cond (x18.2==0)
   (cond (!x20.1)
   (some (x20.2==0))
   (some false))
   (some false))
   (some false))
   (some false))
   (some false))
   (some false))
   (some false))
   (some false))
   (some false)) (fun (v21:Bool)=>some v21)))
theorem m12_ok  (r:Bool) (h0:m12 =some r):Fun Try.prog 12 [] (resOf [.one (dB r)]):=by
 unfold m12 at h0
 refine Fun.of_bodyM 9 123 Try.func12 Z en_12 Z (lb Z) (fun S w=>?_)
 simp only [entry]
 refine XC.seq<|XC.region<|rA Z Z Z<|XL.nil<|XQ.seq<|XC.seq<|XC.region ?_
 refine bindK h0 (fun x1 hx1 h0=>?_)
 refine XL.put Z Z (lb Z) (OpOK.callFun (m27_ok 0 0 x1 hx1) Z (.cons (.one (.d _)) (.cons (.one (.d _)) .nil))) ?_
 refine bindK h0 (fun x2 hx2 h0=>?_)
 refine XL.put Z Z (lb Z) (OpOK.callFun (m27_ok (-1) 0 x2 hx2) Z (.cons (.one (.d _)) (.cons (.one (.d _)) .nil)))<|rR Z Z Z (RO.build2 bd_41 Z Z Z Z)<|rR Z Z Z (RO.build1 bd_39 Z Z Z) ?_
 refine bindK h0 (fun x3 hx3 h0=>?_)
 refine XL.put Z Z (lb Z) (OpOK.callFun (m27_ok (-1) 1 x3 hx3) Z (.cons (.one (.d _)) (.cons (.one (.d _)) .nil)))<|rR Z Z Z (RO.build2 bd_41 Z Z Z Z) ?_
 refine bindK h0 (fun x4 hx4 h0=>?_)
 refine XL.put Z Z (lb Z) (OpOK.callFun (m27_ok (-1) 1 x4 hx4) Z (.cons (.one (.d _)) (.cons (.one (.d _)) .nil))) ?_
 refine bindK h0 (fun x5 hx5 h0=>?_)
 refine XL.put Z Z (lb Z) (OpOK.callFun (m27_ok (-2) 0 x5 hx5) Z (.cons (.one (.d _)) (.cons (.one (.d _)) .nil)))<|rR Z Z Z (RO.build2 bd_41 Z Z Z Z)<|XL.put Z Z (lb Z) (OpOK.lit3E (α:=Bnd) (⟨x1,x2⟩:Bnd) (⟨(⟨2,([]:List LV)⟩:Lvl),x3⟩:Bnd) (⟨x4,x5⟩:Bnd) sl_22 z_41 Z Z (lb Z) (lb Z) Z Z Z Z (.cons (.d _) (.cons (.d _) (.cons (.d _) (.cons (.d _) (.cons (.d _) (.cons (.nil _) (.cons (.d _) (.cons (.d _) (.cons (.d _) (.cons (.d _) (.cons (.d _) (.cons (.d _) .nil)))))))))))) ⟨Z,Z,Z⟩)<|rA Z Z Z<|XL.nil<|XQ.seq<|XC.seq<|XC.region<|rM Z Z Z ?_
 refine bindK h0 (fun x6 hx6 h0=>?_)
 refine XL.put Z Z (lb Z) (OpOK.callFun (m15_ok 2 ([(⟨x1,x2⟩:Bnd),(⟨(⟨2,([]:List LV)⟩:Lvl),x3⟩:Bnd),(⟨x4,x5⟩:Bnd)]) x6 hx6) Z (.cons (.one (.d _)) (.cons (.one (.app _ _ _)) .nil)))<|rM Z Z Z<|rR Z Z Z (RO.extract Z Z)<|rR Z Z Z (RO.extract Z Z)<|rR Z Z Z (RO.extract Z Z)<|rA Z Z Z<|rA Z Z Z<|rA Z Z Z<|XL.nil<|XQ.seq<|XC.seq<|XC.region<|rR Z Z Z (RO.build1 bd_59 Z Z Z)<|XL.put Z Z (lb Z) (OpOK.lit1E (α:=LV) ((0,0)) sl_37 z_59 Z Z (lb Z) (lb Z) Z Z (.cons (.d _) (.cons (.d _) .nil)) Z) ?_
 refine rR Z Z Z (RO.build2 bd_39 Z Z Z Z)<|rR Z Z Z (RO.build2 bd_59 Z Z Z Z)<|XL.put Z Z (lb Z) (OpOK.lit1E (α:=LV) ((0,1)) sl_37 z_59 Z Z (lb Z) (lb Z) Z Z (.cons (.d _) (.cons (.d _) .nil)) Z)<|rR Z Z Z (RO.build2 bd_39 Z Z Z Z)<|XL.put Z Z (lb Z) (OpOK.lit2E (α:=Lvl) (⟨1,[(0,0)]⟩:Lvl) (⟨2,[(0,1)]⟩:Lvl) sl_31 z_39 Z Z (lb Z) (lb Z) Z Z Z (.cons (.d _) (.cons (.app _ _ _) (.cons (.d _) (.cons (.app _ _ _) .nil)))) ⟨Z,Z⟩)<|rA Z Z Z<|XL.nil<|XQ.seq<|XC.seq<|XC.region<|XL.put Z Z (lb Z) (OpOK.lit0E (α:=Bnd) sl_22 z_41 Z Z (lb Z))<|rM Z Z Z ?_
 refine guardK h0 (fun g7 h0=>?_)
 refine XL.put Z Z (lb Z) (OpOK.appendE (α:=Bnd) sl_22 el_41 Z Z Z Z Z (.app _ _) g7) ?_
 refine bindK h0 (fun x8 hx8 h0=>?_)
 refine XL.put Z Z (lb Z) (OpOK.callFun (m27_ok (-2) 0 x8 hx8) Z (.cons (.one (.d _)) (.cons (.one (.d _)) .nil)))<|rR Z Z Z (RO.build1 bd_39 Z Z Z)<|rR Z Z Z (RO.build2 bd_41 Z Z Z Z)<|XL.put Z Z (lb Z) (OpOK.lit1E (α:=Bnd) ((⟨x8,(⟨1,([]:List LV)⟩:Lvl)⟩:Bnd)) sl_22 z_41 Z Z (lb Z) (lb Z) Z Z (.cons (.d _) (.cons (.d _) (.cons (.d _) (.cons (.nil _) .nil)))) Z) ?_
 refine guardK h0 (fun g9 h0=>?_)
 refine XL.put Z Z (lb Z) (OpOK.appendE (α:=Bnd) sl_22 el_41 Z Z Z Z Z (.app _ _) g9) ?_
 refine bindK h0 (fun x10 hx10 h0=>?_)
 refine XL.put Z Z (lb Z) (OpOK.callFun (m15_ok 2 ((([]:List Bnd)++([(⟨x1,x2⟩:Bnd),(⟨(⟨2,([]:List LV)⟩:Lvl),x3⟩:Bnd),(⟨x4,x5⟩:Bnd)]))++([(⟨x8,(⟨1,([]:List LV)⟩:Lvl)⟩:Bnd)])) x10 hx10) Z (.cons (.one (.d _)) (.cons (.one (.app _ _ _)) .nil)))<|rM Z Z Z<|rR Z Z Z (RO.extract Z Z)<|rR Z Z Z (RO.extract Z Z)<|rR Z Z Z (RO.extract Z Z)<|rA Z Z Z<|rA Z Z Z<|rA Z Z Z<|XL.nil<|XQ.seq<|XC.seq<|XC.region ?_
 refine bindK h0 (fun x11 hx11 h0=>?_)
 refine XL.put Z Z (lb Z) (OpOK.callFun (m27_ok (-1) 1 x11 hx11) Z (.cons (.one (.d _)) (.cons (.one (.d _)) .nil))) ?_
 refine bindK h0 (fun x12 hx12 h0=>?_)
 refine XL.put Z Z (lb Z) (OpOK.callFun (m27_ok (-1) 0 x12 hx12) Z (.cons (.one (.d _)) (.cons (.one (.d _)) .nil)))<|rR Z Z Z (RO.build2 bd_41 Z Z Z Z)<|XL.put Z Z (lb Z) (OpOK.lit1E (α:=Bnd) ((⟨x11,x12⟩:Bnd)) sl_22 z_41 Z Z (lb Z) (lb Z) Z Z (.cons (.d _) (.cons (.d _) (.cons (.d _) (.cons (.d _) .nil)))) Z) ?_
 refine bindK h0 (fun x13 hx13 h0=>?_)
 refine XL.put Z Z (lb Z) (OpOK.callFun (m15_ok 1 ([(⟨x11,x12⟩:Bnd)]) x13 hx13) Z (.cons (.one (.d _)) (.cons (.one (.app _ _ _)) .nil)))<|rM Z Z Z<|rR Z Z Z (RO.extract Z Z)<|rR Z Z Z (RO.extract Z Z)<|rR Z Z Z (RO.extract Z Z)<|rA Z Z Z<|rA Z Z Z<|rA Z Z Z<|XL.nil<|XQ.seq<|XC.seq<|XC.region ?_
 refine bindK h0 (fun x14 hx14 h0=>?_)
 refine XL.put Z Z (lb Z) (OpOK.callFun (m27_ok 0 1 x14 hx14) Z (.cons (.one (.d _)) (.cons (.one (.d _)) .nil))) ?_
 refine bindK h0 (fun x15 hx15 h0=>?_)
 refine XL.put Z Z (lb Z) (OpOK.callFun (m27_ok 1 0 x15 hx15) Z (.cons (.one (.d _)) (.cons (.one (.d _)) .nil)))<|rR Z Z Z (RO.build2 bd_41 Z Z Z Z) ?_
 refine bindK h0 (fun x16 hx16 h0=>?_)
 refine XL.put Z Z (lb Z) (OpOK.callFun (m27_ok 1 0 x16 hx16) Z (.cons (.one (.d _)) (.cons (.one (.d _)) .nil)))<|rR Z Z Z (RO.build1 bd_39 Z Z Z)<|rR Z Z Z (RO.build2 bd_41 Z Z Z Z)<|XL.put Z Z (lb Z) (OpOK.lit2E (α:=Bnd) (⟨x14,x15⟩:Bnd) (⟨x16,(⟨3,([]:List LV)⟩:Lvl)⟩:Bnd) sl_22 z_41 Z Z (lb Z) (lb Z) Z Z Z (.cons (.d _) (.cons (.d _) (.cons (.d _) (.cons (.d _) (.cons (.d _) (.cons (.d _) (.cons (.d _) (.cons (.nil _) .nil)))))))) ⟨Z,Z⟩)<|rA Z Z Z<|XL.nil<|XQ.seq<|XC.seq<|XC.region<|rM Z Z Z ?_
 refine bindK h0 (fun x17 hx17 h0=>?_)
 refine XL.put Z Z (lb Z) (OpOK.callFun (m27_ok 0 0 x17 hx17) Z (.cons (.one (.d _)) (.cons (.one (.d _)) .nil)))<|rR Z Z Z (RO.build1 bd_39 Z Z Z)<|rR Z Z Z (RO.build2 bd_41 Z Z Z Z) ?_
 refine bindK h0 (fun x18 hx18 h0=>?_)
 refine XL.put Z Z (lb Z) (OpOK.callFun (m18_ok ([(⟨x14,x15⟩:Bnd),(⟨x16,(⟨3,([]:List LV)⟩:Lvl)⟩:Bnd)]) (⟨x17,(⟨2,([]:List LV)⟩:Lvl)⟩:Bnd) x18 hx18) Z (.cons (.one (.app _ _ _)) (.cons (.agg (.cons (.d _) (.cons (.d _) (.cons (.d _) (.cons (.nil _) .nil))))) .nil)))<|rM Z Z Z<|rR Z Z Z (RO.extract Z Z)<|rR Z Z Z (RO.extract Z Z)<|rA Z Z Z<|rA Z Z Z<|XL.nil<|XQ.seq<|XC.seq<|XC.region<|rM Z Z Z ?_
 refine bindK h0 (fun x19 hx19 h0=>?_)
 refine XL.put Z Z (lb Z) (OpOK.callFun (m27_ok 0 0 x19 hx19) Z (.cons (.one (.d _)) (.cons (.one (.d _)) .nil)))<|rR Z Z Z (RO.build1 bd_39 Z Z Z)<|rR Z Z Z (RO.build2 bd_41 Z Z Z Z) ?_
 refine bindK h0 (fun x20 hx20 h0=>?_)
 refine XL.put Z Z (lb Z) (OpOK.callFun (m18_ok ([(⟨x14,x15⟩:Bnd),(⟨x16,(⟨3,([]:List LV)⟩:Lvl)⟩:Bnd)]) (⟨x19,(⟨1,([]:List LV)⟩:Lvl)⟩:Bnd) x20 hx20) Z (.cons (.one (.app _ _ _)) (.cons (.agg (.cons (.d _) (.cons (.d _) (.cons (.d _) (.cons (.nil _) .nil))))) .nil)))<|rM Z Z Z<|rR Z Z Z (RO.extract Z Z)<|rR Z Z Z (RO.extract Z Z)<|rA Z Z Z<|rA Z Z Z<|XL.nil<|XQ.seq<|XC.seq ?_
 refine XC.joinR (fun (v21:Bool)=>⟨[(0,.v (.one (dB v21)))],[],[(0,some ⟨41,4,(Enc.encL ([(⟨x1,x2⟩:Bnd),(⟨(⟨2,([]:List LV)⟩:Lvl),x3⟩:Bnd),(⟨x4,x5⟩:Bnd)]:List Bnd)).length,[]⟩),(1,some ⟨59,2,(Enc.encL ([(0,0)]:List LV)).length,[]⟩),(2,some ⟨59,2,(Enc.encL ([(0,1)]:List LV)).length,[]⟩),(3,some ⟨39,2,(Enc.encL ([(⟨1,[(0,0)]⟩:Lvl),(⟨2,[(0,1)]⟩:Lvl)]:List Lvl)).length,[]⟩),(4,some ⟨41,4,(Enc.encL (((([]:List Bnd)++([(⟨x1,x2⟩:Bnd),(⟨(⟨2,([]:List LV)⟩:Lvl),x3⟩:Bnd),(⟨x4,x5⟩:Bnd)]))++([(⟨x8,(⟨1,([]:List LV)⟩:Lvl)⟩:Bnd)])):List Bnd)).length,[]⟩),(5,some ⟨41,4,(Enc.encL ([(⟨x8,(⟨1,([]:List LV)⟩:Lvl)⟩:Bnd)]:List Bnd)).length,[]⟩),(6,some ⟨41,4,(Enc.encL ([(⟨x11,x12⟩:Bnd)]:List Bnd)).length,[]⟩),(7,some ⟨41,4,(Enc.encL ([(⟨x14,x15⟩:Bnd),(⟨x16,(⟨3,([]:List LV)⟩:Lvl)⟩:Bnd)]:List Bnd)).length,[]⟩)],8,123,[]⟩) (fun (v21:Bool)=>(some v21)=some r) ?_ ?_
 refine bindK h0 (fun w1_ h1 h0=>?_)
 refine XC.region<|rM Z Z Z<|rR Z Z Z (RO.binInt Z Z Z)<|rM Z Z Z ?_
 refine XL.case (d:=87) (c:=(x6.2.2==0)) Z (fun c22=>?_) (fun c22=>?_)
 replace h1:=condT c22 h1
 refine rM Z Z Z<|rM Z Z Z ?_
 refine bindK h1 (fun x23 hx23 h1=>?_)
 refine XL.put Z Z (lb Z) (OpOK.callFun (m17_ok x6.1 ([(⟨1,[(0,0)]⟩:Lvl),(⟨2,[(0,1)]⟩:Lvl)]) x23 hx23) Z (.cons (.one (.d _)) (.cons (.one (.app _ _ _)) .nil)))<|rR Z Z Z (RO.pickT Z Z)<|rM Z Z Z ?_
 refine XL.case (d:=92) (c:=x23) Z (fun c24=>?_) (fun c24=>?_)
 replace h1:=condT c24 h1
 refine rM Z Z Z<|rR Z Z Z (RO.binInt Z Z Z)<|rR Z Z Z (RO.pickT Z Z)<|rM Z Z Z ?_
 refine XL.case (d:=96) (c:=(x10.2.1==3)) Z (fun c25=>?_) (fun c25=>?_)
 replace h1:=condT c25 h1
 refine rM Z Z Z<|rR Z Z Z (RO.binInt Z Z Z)<|rR Z Z Z (RO.pickT Z Z)<|rM Z Z Z ?_
 refine XL.case (d:=100) (c:=(x10.2.2==15)) Z (fun c26=>?_) (fun c26=>?_)
 replace h1:=condT c26 h1
 refine rM Z Z Z<|rR Z Z Z (RO.binInt Z Z Z)<|rR Z Z Z (RO.pickT Z Z)<|rM Z Z Z ?_
 refine XL.case (d:=104) (c:=(x13.2.1==0)) Z (fun c27=>?_) (fun c27=>?_)
 replace h1:=condT c27 h1
 refine rM Z Z Z<|rR Z Z Z (RO.binInt Z Z Z)<|rR Z Z Z (RO.pickT Z Z)<|rM Z Z Z ?_
 refine XL.case (d:=108) (c:=(x13.2.2==15)) Z (fun c28=>?_) (fun c28=>?_)
 replace h1:=condT c28 h1
 refine rM Z Z Z<|rR Z Z Z (RO.pickT Z Z)<|rM Z Z Z ?_
 refine XL.case (d:=111) (c:=x18.1) Z (fun c29=>?_) (fun c29=>?_)
 replace h1:=condT c29 h1
 refine rM Z Z Z<|rR Z Z Z (RO.binInt Z Z Z)<|rR Z Z Z (RO.pickT Z Z)<|rM Z Z Z ?_
 refine XL.case (d:=115) (c:=(x18.2==0)) Z (fun c30=>?_) (fun c30=>?_)
 replace h1:=condT c30 h1
 refine rM Z Z Z<|rR Z Z Z (RO.not Z)<|rR Z Z Z (RO.pickT Z Z)<|rM Z Z Z ?_
 refine XL.case (d:=119) (c:=(!x20.1)) Z (fun c31=>?_) (fun c31=>?_)
 replace h1:=condT c31 h1
 refine rM Z Z Z<|rR Z Z Z (RO.binInt Z Z Z)<|rR Z Z Z (RO.pickT Z Z)<|rA Z Z Z<|XL.nil ?_
 have e:=sI h1;subst e
 exact XQ.joinR (x20.2==0) (sL (Nat.zero_le _) Z Z Z Z Z) h0
 replace h1:=condF c31 h1
 refine XL.no Z Z<|XL.no Z Z<|rR Z Z Z (RO.pickF Z Z)<|rA Z Z Z<|XL.nil ?_
 have e:=sI h1;subst e
 exact XQ.joinR false (sL (Nat.zero_le _) Z Z Z Z Z) h0
 replace h1:=condF c30 h1
 refine XL.no Z Z<|XL.no Z Z<|rR Z Z Z (RO.pickF Z Z)<|rM Z Z Z<|XL.no Z Z<|XL.no Z Z<|rR Z Z Z (RO.pickF Z Z)<|rA Z Z Z<|XL.nil ?_
 have e:=sI h1;subst e
 exact XQ.joinR false (sL (Nat.zero_le _) Z Z Z Z Z) h0
 replace h1:=condF c29 h1
 refine XL.no Z Z<|XL.no Z Z<|rR Z Z Z (RO.pickF Z Z)<|rM Z Z Z<|XL.no Z Z<|XL.no Z Z<|rR Z Z Z (RO.pickF Z Z)<|rM Z Z Z<|XL.no Z Z<|XL.no Z Z<|rR Z Z Z (RO.pickF Z Z)<|rA Z Z Z<|XL.nil ?_
 have e:=sI h1;subst e
 exact XQ.joinR false (sL (Nat.zero_le _) Z Z Z Z Z) h0
 replace h1:=condF c28 h1
 refine XL.no Z Z<|rR Z Z Z (RO.pickF Z Z)<|rM Z Z Z<|XL.no Z Z<|XL.no Z Z<|rR Z Z Z (RO.pickF Z Z)<|rM Z Z Z<|XL.no Z Z<|XL.no Z Z<|rR Z Z Z (RO.pickF Z Z)<|rM Z Z Z<|XL.no Z Z<|XL.no Z Z<|rR Z Z Z (RO.pickF Z Z) ?_
 refine rA Z Z Z<|XL.nil ?_
 have e:=sI h1;subst e
 exact XQ.joinR false (sL (Nat.zero_le _) Z Z Z Z Z) h0
 replace h1:=condF c27 h1
 refine XL.no Z Z<|XL.no Z Z<|rR Z Z Z (RO.pickF Z Z)<|rM Z Z Z<|XL.no Z Z<|rR Z Z Z (RO.pickF Z Z)<|rM Z Z Z<|XL.no Z Z<|XL.no Z Z<|rR Z Z Z (RO.pickF Z Z)<|rM Z Z Z<|XL.no Z Z<|XL.no Z Z<|rR Z Z Z (RO.pickF Z Z) ?_
 refine rM Z Z Z<|XL.no Z Z<|XL.no Z Z<|rR Z Z Z (RO.pickF Z Z)<|rA Z Z Z<|XL.nil ?_
 have e:=sI h1;subst e
 exact XQ.joinR false (sL (Nat.zero_le _) Z Z Z Z Z) h0
 replace h1:=condF c26 h1
 refine XL.no Z Z<|XL.no Z Z<|rR Z Z Z (RO.pickF Z Z)<|rM Z Z Z<|XL.no Z Z<|XL.no Z Z<|rR Z Z Z (RO.pickF Z Z)<|rM Z Z Z<|XL.no Z Z<|rR Z Z Z (RO.pickF Z Z)<|rM Z Z Z<|XL.no Z Z<|XL.no Z Z<|rR Z Z Z (RO.pickF Z Z) ?_
 refine rM Z Z Z<|XL.no Z Z<|XL.no Z Z<|rR Z Z Z (RO.pickF Z Z)<|rM Z Z Z<|XL.no Z Z<|XL.no Z Z<|rR Z Z Z (RO.pickF Z Z)<|rA Z Z Z<|XL.nil ?_
 have e:=sI h1;subst e
 exact XQ.joinR false (sL (Nat.zero_le _) Z Z Z Z Z) h0
 replace h1:=condF c25 h1
 refine XL.no Z Z<|XL.no Z Z<|rR Z Z Z (RO.pickF Z Z)<|rM Z Z Z<|XL.no Z Z<|XL.no Z Z<|rR Z Z Z (RO.pickF Z Z)<|rM Z Z Z<|XL.no Z Z<|XL.no Z Z<|rR Z Z Z (RO.pickF Z Z)<|rM Z Z Z<|XL.no Z Z<|rR Z Z Z (RO.pickF Z Z) ?_
 refine rM Z Z Z<|XL.no Z Z<|XL.no Z Z<|rR Z Z Z (RO.pickF Z Z)<|rM Z Z Z<|XL.no Z Z<|XL.no Z Z<|rR Z Z Z (RO.pickF Z Z)<|rM Z Z Z<|XL.no Z Z<|XL.no Z Z<|rR Z Z Z (RO.pickF Z Z)<|rA Z Z Z<|XL.nil ?_
 have e:=sI h1;subst e
 exact XQ.joinR false (sL (Nat.zero_le _) Z Z Z Z Z) h0
 replace h1:=condF c24 h1
 refine XL.no Z Z<|XL.no Z Z<|rR Z Z Z (RO.pickF Z Z)<|rM Z Z Z<|XL.no Z Z<|XL.no Z Z<|rR Z Z Z (RO.pickF Z Z)<|rM Z Z Z<|XL.no Z Z<|XL.no Z Z<|rR Z Z Z (RO.pickF Z Z)<|rM Z Z Z<|XL.no Z Z<|XL.no Z Z ?_
 refine rR Z Z Z (RO.pickF Z Z)<|rM Z Z Z<|XL.no Z Z<|rR Z Z Z (RO.pickF Z Z)<|rM Z Z Z<|XL.no Z Z<|XL.no Z Z<|rR Z Z Z (RO.pickF Z Z)<|rM Z Z Z<|XL.no Z Z<|XL.no Z Z<|rR Z Z Z (RO.pickF Z Z)<|rM Z Z Z<|XL.no Z Z ?_
 refine XL.no Z Z<|rR Z Z Z (RO.pickF Z Z)<|rA Z Z Z<|XL.nil ?_
 have e:=sI h1;subst e
 exact XQ.joinR false (sL (Nat.zero_le _) Z Z Z Z Z) h0
 replace h1:=condF c22 h1
 refine XL.no Z Z<|XL.no Z Z<|XL.no Z Z<|rR Z Z Z (RO.pickF Z Z)<|rM Z Z Z<|XL.no Z Z<|XL.no Z Z<|rR Z Z Z (RO.pickF Z Z)<|rM Z Z Z<|XL.no Z Z<|XL.no Z Z<|rR Z Z Z (RO.pickF Z Z)<|rM Z Z Z<|XL.no Z Z ?_
 refine XL.no Z Z<|rR Z Z Z (RO.pickF Z Z)<|rM Z Z Z<|XL.no Z Z<|XL.no Z Z<|rR Z Z Z (RO.pickF Z Z)<|rM Z Z Z<|XL.no Z Z<|rR Z Z Z (RO.pickF Z Z)<|rM Z Z Z<|XL.no Z Z<|XL.no Z Z<|rR Z Z Z (RO.pickF Z Z)<|rM Z Z Z ?_
 refine XL.no Z Z<|XL.no Z Z<|rR Z Z Z (RO.pickF Z Z)<|rM Z Z Z<|XL.no Z Z<|XL.no Z Z<|rR Z Z Z (RO.pickF Z Z)<|rA Z Z Z<|XL.nil ?_
 have e:=sI h1;subst e
 exact XQ.joinR false (sL (Nat.zero_le _) Z Z Z Z Z) h0
 intro v21 h0
 refine XQ.seq<|XC.ret ?_
 have e:=sI h0;subst e
 exact XQ.retF (fun _ _ h=>h) Z (RAs.tmp Z .nil) (.cons (.one (.d _)) .nil)
theorem m12_true:m12=some true:=by kernel_rfl
theorem awake_fun:Fun Try.prog 12 [] (resOf [.one (dB true)]):=m12_ok true m12_true
end Go.Proofs.Ytkimijmiphkddaa
namespace Go.Proofs.Ytkimijmiphkddaa
open Go.RowKit Go.Shelf
theorem en_30:Enters Try.prog 30:=enters_of Try.func30 (by kernel_rfl) rfl
def m30_l0 (a0:Lvl) (s1:Int):Option (LO Int (Unit⊕Bool)) :=
 cond (decide (s1 < (a0.vs.length:Int)))
   (Option.bind (idx a0.vs s1) fun (x5:LV) =>
 Option.bind (cond (decide (x5.1 < (-65536)))
   (some true)
   (cond (decide (8≤x5.1))
   (some true)
   (cond (decide (x5.2 < 0))
   (some true)
   (some (decide (100 < x5.2)))))) (fun (v6:Bool)=>cond v6
   (some (.done (.inr false)))
   (Option.bind (cond (decide (0 < s1))
   (Option.bind (idx a0.vs (w64 (s1 - 1))) fun (x10:LV) =>
 some (decide (x5.1≤x10.1)))
   (some false)) (fun (v8:Bool)=>cond v8
   (some (.done (.inr false)))
   (Option.bind (cond (decide (0 < a0.c))
   (some (decide (a0.c≤x5.2)))
   (some false)) (fun (v10:Bool)=>cond v10
   (some (.done (.inr false)))
   (some (.next (w64 (s1+1))))))))))
   (some (.done (.inl ())))
def m30 (a0:Lvl):Option Bool :=
 Option.bind (cond (decide (a0.c < 0))
   (some true)
   (some (decide (100 < a0.c)))) (fun (v1:Bool)=>cond v1
   (some false)
   (Option.bind (loopN (m30_l0 a0) FUEL 0) (Sum.elim (fun (o3:Unit)=>some true) (fun o=>some o))))
theorem m30_ok (a0:Lvl) (r:Bool) (h0:m30 a0=some r):Fun Try.prog 30 [.agg (cE a0)] (resOf [.one (dB r)]):=by
 unfold m30 at h0
 refine Fun.of_bodyM 9 67 Try.func30 Z en_30 Z (lb Z) (fun S w=>?_)
 simp only [entry]
 refine XC.seq<|XC.region<|XL.put Z Z (lb Z) (OpOK.box Z)<|rA Z Z Z<|XL.nil<|XQ.seq<|XC.seq<|XC.seq ?_
 refine XC.joinR (fun (v1:Bool)=>⟨[(1,.v (.one (.ptr 0 0))),(12,.v (.one (dB v1)))],[(0,.cells 39 (cE a0))],[],1,67,[]⟩) (fun (v1:Bool)=>(cond v1
     (some false)
     (Option.bind (loopN (m30_l0 a0) FUEL 0) (Sum.elim (fun (o3:Unit)=>some true) (fun o=>some o))))=some r) ?_ ?_
 refine bindK h0 (fun w1_ h1 h0=>?_)
 refine XC.region<|rR Z Z Z (RO.fieldOwn fo_39_0 Z)<|rR Z Z Z (RO.loadOwn ag_3 Z Z Z)<|rR Z Z Z (RO.binInt Z Z Z)<|rM Z Z Z ?_
 refine XL.case (d:=8) (c:=(decide (a0.c < 0))) Z (fun c2=>?_) (fun c2=>?_)
 replace h1:=condT c2 h1
 refine XL.no Z Z<|XL.no Z Z<|XL.no Z Z<|rR Z Z Z (RO.pickT Z Z)<|XL.nil ?_
 have e:=sI h1;subst e
 exact XQ.joinR true (sL (Nat.zero_le _) Z Z Z Z Z) h0
 replace h1:=condF c2 h1
 refine rR Z Z Z (RO.fieldOwn fo_39_0 Z)<|rR Z Z Z (RO.loadOwn ag_3 Z Z Z)<|rR Z Z Z (RO.binInt Z Z Z)<|rR Z Z Z (RO.pickF Z Z)<|XL.nil ?_
 have e:=sI h1;subst e
 exact XQ.joinR (decide (100 < a0.c)) (sL (Nat.zero_le _) Z Z Z Z Z) h0
 intro v1 h0
 refine XQ.seq ?_
 refine XC.cond (b:=v1) Z (fun c3=>?_) (fun c3=>?_)
 replace h0:=condT c3 h0
 refine XC.seq<|XC.region<|rA Z Z Z<|XL.nil<|XQ.seq<|XC.ret ?_
 have e:=sI h0;subst e
 exact XQ.retF (fun _ _ h=>h) Z (RAs.tmp Z .nil) (.cons (.one (.d _)) .nil)
 replace h0:=condF c3 h0
 refine XC.skip<|XQ.seq<|XC.seq<|XC.seq<|XC.region<|rA Z Z Z<|XL.nil<|XQ.seq<|XC.block ?_
 refine XC.joinX 0 (fun (o4:Unit)=>⟨[],[(0,.cells 39 (cE a0))],[],1,67,[]⟩) (fun (o4:Unit)=>(some true)=some r) ?_ ?_
 refine bindK h0 (fun o5 hl1 h0=>?_)
 refine XC.loopM (m30_l0 a0) (fun s1=>⟨[(1,.v (.one (.ptr 0 0))),(3,.v (.one (dI s1)))],[(0,.cells 39 (cE a0))],[],1,67,[]⟩) 0 o5 (sL (Nat.zero_le _) Z Z Z Z Z) hl1 (fun s1 n1 oo1 h1 ho1=>?_)
 unfold m30_l0 at h1
 refine XC.seq<|XC.seq<|XC.region<|rM Z Z Z<|rR Z Z Z (RO.fieldOwn fo_39_1 Z)<|rR Z Z Z (RO.loadOwn ag_37 Z Z Z)<|rR Z Z Z (RO.lenE (α:=LV) sl_37 Z (.d _))<|rR Z Z Z (RO.binInt Z Z Z)<|XL.nil<|XQ.seq ?_
 refine XC.cond (b:=(decide (s1 < (a0.vs.length:Int)))) Z (fun c6=>?_) (fun c6=>?_)
 replace h1:=condT c6 h1
 refine XC.skip<|XQ.seq<|XC.seq<|XC.block<|XC.seq<|XC.region<|rR Z Z Z (RO.fieldOwn fo_39_1 Z)<|rR Z Z Z (RO.loadOwn ag_37 Z Z Z)<|rM Z Z Z ?_
 refine bindK h1 (fun x7 hx7 h1=>?_)
 refine rR Z Z Z (RO.indexE (α:=LV) sl_37 Z (.d _) Z hx7)<|rR Z Z Z (RO.loadPelCE (x7:LV) ag_59 Z)<|XL.put Z Z (lb Z) (OpOK.alloc z_59 Z)<|XL.eff Z Z (OpOK.storeCE (x7:LV) ag_59 Z Z Z Z Z)<|XL.nil<|XQ.seq<|XC.seq<|XC.seq ?_
 refine XC.joinR (fun (v8:Bool)=>⟨[(1,.v (.one (.ptr 0 0))),(3,.v (.one (dI s1))),(4,.v (.one (.ptr 1 0))),(42,.v (.one (dB v8)))],[(0,.cells 39 (cE a0)),(1,.cells 59 (cE x7))],[],2,67,[]⟩) (fun (v8:Bool)=>(cond v8
     (some (.done (.inr false)))
     (Option.bind (cond (decide (0 < s1))
     (Option.bind (idx a0.vs (w64 (s1 - 1))) fun (x12:LV) =>
   some (decide (x7.1≤x12.1)))
     (some false)) (fun (v10:Bool)=>cond v10
     (some (.done (.inr false)))
     (Option.bind (cond (decide (0 < a0.c))
     (some (decide (a0.c≤x7.2)))
     (some false)) (fun (v12:Bool)=>cond v12
     (some (.done (.inr false)))
     (some (.next (w64 (s1+1)))))))))=some oo1) ?_ ?_
 refine bindK h1 (fun w2_ h2 h1=>?_)
 refine XC.region<|rR Z Z Z (RO.fieldOwn fo_59_0 Z)<|rR Z Z Z (RO.loadOwn ag_3 Z Z Z)<|rR Z Z Z (RO.binInt Z Z Z)<|rM Z Z Z ?_
 refine XL.case (d:=28) (c:=(decide (x7.1 < (-65536)))) Z (fun c9=>?_) (fun c9=>?_)
 replace h2:=condT c9 h2
 refine XL.no Z Z<|XL.no Z Z<|XL.no Z Z<|rR Z Z Z (RO.pickT Z Z)<|rM Z Z Z<|XL.no Z Z<|XL.no Z Z<|XL.no Z Z<|rR Z Z Z (RO.pickT Z Z)<|rM Z Z Z<|XL.no Z Z<|XL.no Z Z<|XL.no Z Z<|rR Z Z Z (RO.pickT Z Z) ?_
 refine XL.nil ?_
 have e:=sI h2;subst e
 exact XQ.joinR true (sL (Nat.zero_le _) Z Z Z Z Z) h1
 replace h2:=condF c9 h2
 refine rR Z Z Z (RO.fieldOwn fo_59_0 Z)<|rR Z Z Z (RO.loadOwn ag_3 Z Z Z)<|rR Z Z Z (RO.binInt Z Z Z)<|rR Z Z Z (RO.pickF Z Z)<|rM Z Z Z ?_
 refine XL.case (d:=33) (c:=(decide (8≤x7.1))) Z (fun c10=>?_) (fun c10=>?_)
 replace h2:=condT c10 h2
 refine XL.no Z Z<|XL.no Z Z<|XL.no Z Z<|rR Z Z Z (RO.pickT Z Z)<|rM Z Z Z<|XL.no Z Z<|XL.no Z Z<|XL.no Z Z<|rR Z Z Z (RO.pickT Z Z)<|XL.nil ?_
 have e:=sI h2;subst e
 exact XQ.joinR true (sL (Nat.zero_le _) Z Z Z Z Z) h1
 replace h2:=condF c10 h2
 refine rR Z Z Z (RO.fieldOwn fo_59_1 Z)<|rR Z Z Z (RO.loadOwn ag_3 Z Z Z)<|rR Z Z Z (RO.binInt Z Z Z)<|rR Z Z Z (RO.pickF Z Z)<|rM Z Z Z ?_
 refine XL.case (d:=38) (c:=(decide (x7.2 < 0))) Z (fun c11=>?_) (fun c11=>?_)
 replace h2:=condT c11 h2
 refine XL.no Z Z<|XL.no Z Z<|XL.no Z Z<|rR Z Z Z (RO.pickT Z Z)<|XL.nil ?_
 have e:=sI h2;subst e
 exact XQ.joinR true (sL (Nat.zero_le _) Z Z Z Z Z) h1
 replace h2:=condF c11 h2
 refine rR Z Z Z (RO.fieldOwn fo_59_1 Z)<|rR Z Z Z (RO.loadOwn ag_3 Z Z Z)<|rR Z Z Z (RO.binInt Z Z Z)<|rR Z Z Z (RO.pickF Z Z)<|XL.nil ?_
 have e:=sI h2;subst e
 exact XQ.joinR (decide (100 < x7.2)) (sL (Nat.zero_le _) Z Z Z Z Z) h1
 intro v8 h1
 refine XQ.seq ?_
 refine XC.cond (b:=v8) Z (fun c12=>?_) (fun c12=>?_)
 replace h1:=condT c12 h1
 refine XC.seq<|XC.region<|rA Z Z Z<|XL.nil<|XQ.seq<|XC.ret ?_
 have e:=sI h1;subst e
 have e_:_=_:=ho1
 subst e_
 try dsimp only [Sum.elim_inl,Sum.elim_inr] at h0
 have e:=sI h0;subst e
 exact XQ.retF (fun _ _ h=>h) Z (RAs.tmp Z .nil) (.cons (.one (.d _)) .nil)
 replace h1:=condF c12 h1
 refine XC.skip<|XQ.seq<|XC.seq<|XC.seq ?_
 refine XC.joinR (fun (v13:Bool)=>⟨[(1,.v (.one (.ptr 0 0))),(3,.v (.one (dI s1))),(4,.v (.one (.ptr 1 0))),(56,.v (.one (dB v13)))],[(0,.cells 39 (cE a0)),(1,.cells 59 (cE x7))],[],2,67,[]⟩) (fun (v13:Bool)=>(cond v13
     (some (.done (.inr false)))
     (Option.bind (cond (decide (0 < a0.c))
     (some (decide (a0.c≤x7.2)))
     (some false)) (fun (v15:Bool)=>cond v15
     (some (.done (.inr false)))
     (some (.next (w64 (s1+1)))))))=some oo1) ?_ ?_
 refine bindK h1 (fun w2_ h2 h1=>?_)
 refine XC.anyRun [] [] mixed (by kernel_rfl) (by kernel_rfl) (by kernel_rfl) ?_
 refine RunA.rd Z Z Z (OpOK.of_ro (RO.move Z)) Z<|RunA.rd Z Z Z (OpOK.of_ro (RO.binInt Z Z Z)) Z ?_
 refine RunA.case (c:=(decide (0 < s1))) Z Z Z (OpOK.of_ro (RO.move Z)) Z (fun c14=>?_) (fun c14=>?_)
 replace h2:=condT c14 h2
 refine RunA.rd Z Z Z (OpOK.of_ro (RO.fieldOwn fo_39_1 Z)) Z<|RunA.rd Z Z Z (OpOK.of_ro (RO.loadOwn ag_37 Z Z Z)) Z<|RunA.rd Z Z Z (OpOK.of_ro (RO.move Z)) Z<|RunA.rd Z Z Z (OpOK.of_ro (RO.binInt Z Z Z)) Z ?_
 refine bindK h2 (fun x15 hx15 h2=>?_)
 refine RunA.rd Z Z Z (OpOK.of_ro (RO.indexE (α:=LV) sl_37 Z (.d _) Z hx15)) Z<|RunA.rd Z Z Z (OpOK.of_ro (RO.fieldPel fo_59_0 Z)) Z<|RunA.rd Z Z Z (OpOK.of_ro (RO.loadPel ag_3 Z Z)) Z<|RunA.rd Z Z Z (OpOK.of_ro (RO.fieldOwn fo_59_0 Z)) Z<|RunA.rd Z Z Z (OpOK.of_ro (RO.loadOwn ag_3 Z Z Z)) Z<|RunA.rd Z Z Z (OpOK.of_ro (RO.binInt Z Z Z)) Z<|RunA.rd Z Z Z (OpOK.of_ro (RO.pickT Z Z)) Z ?_
 refine RunA.nil ⟨?ex,_,_,Z,?_⟩
 case ex=>exact trivial
 have e:=sI h2;subst e
 exact XQ.joinR (decide (x7.1≤x15.1)) (sL (Nat.zero_le _) Z Z Z Z Z) h1
 replace h2:=condF c14 h2
 refine RunA.no Z Z Z Z<|RunA.no Z Z Z Z<|RunA.no Z Z Z Z<|RunA.no Z Z Z Z<|RunA.no Z Z Z Z<|RunA.no Z Z Z Z<|RunA.no Z Z Z Z<|RunA.no Z Z Z Z<|RunA.no Z Z Z Z<|RunA.no Z Z Z Z<|RunA.rd Z Z Z (OpOK.of_ro (RO.pickF Z Z)) Z ?_
 refine RunA.nil ⟨?ex,_,_,Z,?_⟩
 case ex=>exact trivial
 have e:=sI h2;subst e
 exact XQ.joinR false (sL (Nat.zero_le _) Z Z Z Z Z) h1
 intro v13 h1
 refine XQ.seq ?_
 refine XC.cond (b:=v13) Z (fun c16=>?_) (fun c16=>?_)
 replace h1:=condT c16 h1
 refine XC.seq<|XC.region<|rA Z Z Z<|XL.nil<|XQ.seq<|XC.ret ?_
 have e:=sI h1;subst e
 have e_:_=_:=ho1
 subst e_
 try dsimp only [Sum.elim_inl,Sum.elim_inr] at h0
 have e:=sI h0;subst e
 exact XQ.retF (fun _ _ h=>h) Z (RAs.tmp Z .nil) (.cons (.one (.d _)) .nil)
 replace h1:=condF c16 h1
 refine XC.skip<|XQ.seq<|XC.seq ?_
 refine XC.joinR (fun (v17:Bool)=>⟨[(1,.v (.one (.ptr 0 0))),(3,.v (.one (dI s1))),(66,.v (.one (dB v17)))],[(0,.cells 39 (cE a0)),(1,.cells 59 (cE x7))],[],2,67,[]⟩) (fun (v17:Bool)=>(cond v17
     (some (.done (.inr false)))
     (some (.next (w64 (s1+1)))))=some oo1) ?_ ?_
 refine bindK h1 (fun w2_ h2 h1=>?_)
 refine XC.region<|rR Z Z Z (RO.fieldOwn fo_39_0 Z)<|rR Z Z Z (RO.loadOwn ag_3 Z Z Z)<|rR Z Z Z (RO.binInt Z Z Z)<|rM Z Z Z ?_
 refine XL.case (d:=60) (c:=(decide (0 < a0.c))) Z (fun c18=>?_) (fun c18=>?_)
 replace h2:=condT c18 h2
 refine rR Z Z Z (RO.fieldOwn fo_59_1 Z)<|rR Z Z Z (RO.loadOwn ag_3 Z Z Z)<|rR Z Z Z (RO.fieldOwn fo_39_0 Z)<|rR Z Z Z (RO.loadOwn ag_3 Z Z Z)<|rR Z Z Z (RO.binInt Z Z Z)<|rR Z Z Z (RO.pickT Z Z)<|XL.nil ?_
 have e:=sI h2;subst e
 exact XQ.joinR (decide (a0.c≤x7.2)) (sL (Nat.zero_le _) Z Z Z Z Z) h1
 replace h2:=condF c18 h2
 refine XL.no Z Z<|XL.no Z Z<|XL.no Z Z<|XL.no Z Z<|XL.no Z Z<|rR Z Z Z (RO.pickF Z Z)<|XL.nil ?_
 have e:=sI h2;subst e
 exact XQ.joinR false (sL (Nat.zero_le _) Z Z Z Z Z) h1
 intro v17 h1
 refine XQ.seq ?_
 refine XC.cond (b:=v17) Z (fun c19=>?_) (fun c19=>?_)
 replace h1:=condT c19 h1
 refine XC.seq<|XC.region<|rA Z Z Z<|XL.nil<|XQ.seq<|XC.ret ?_
 have e:=sI h1;subst e
 have e_:_=_:=ho1
 subst e_
 try dsimp only [Sum.elim_inl,Sum.elim_inr] at h0
 have e:=sI h0;subst e
 exact XQ.retF (fun _ _ h=>h) Z (RAs.tmp Z .nil) (.cons (.one (.d _)) .nil)
 replace h1:=condF c19 h1
 refine XC.skip<|XQ.inBlock<|XQ.seq<|XC.region<|rM Z Z Z<|rR Z Z Z (RO.binInt Z Z Z)<|rA Z Z Z<|XL.nil ?_
 have e:=sI h1;subst e
 refine XQ.nextM (w64 (s1+1)) (sL (Nat.zero_le _) Z Z Z Z Z) ho1
 replace h1:=condF c6 h1
 refine XC.exit<|XQ.thenE<|XQ.thenE ?_
 have e:=sI h1;subst e
 have e_:_=_:=ho1
 subst e_
 exact XQ.joinX () (sL (Nat.zero_le _) Z Z Z Z Z) h0
 intro o4 h0
 refine XQ.blockX<|XQ.seq<|XC.seq<|XC.region<|rA Z Z Z<|XL.nil<|XQ.seq<|XC.ret ?_
 have e:=sI h0;subst e
 exact XQ.retF (fun _ _ h=>h) Z (RAs.tmp Z .nil) (.cons (.one (.d _)) .nil)
end Go.Proofs.Ytkimijmiphkddaa
namespace Go.Proofs.Ytkimijmiphkddaa
open Go.RowKit
def zRows:Nat→List CA
 | 0=>[]
 | k+1=>dI 0::.d (.v (.slice none 0 0))::zRows k
def cpC (es:List Lvl) (n:Nat):List CA:=flatE es++zRows (n - es.length)
def cpA (es:List Lvl) (c:Int) (nm:Nat) (vs:List LV) (n:Nat):List CA:=flatE es++dI c::.app nm 2 (Enc.encL vs)::zRows (n - es.length - 1)
theorem cp_at (es:List Lvl):(flatE es).length=es.length * 2:=flatE_len es
theorem get_two (es:List Lvl) (a b:CA) (r:List CA):(flatE es++a::b::r)[es.length * 2+1]?=some b:=by
 rw [List.getElem?_append_right (by rw [cp_at];omega),cp_at,show es.length * 2+1 - es.length * 2=1 by omega];rfl
theorem set_one (es:List Lvl) (a a':CA) (r:List CA):(flatE es++a::r).set (es.length * 2) a'=flatE es++a'::r:=by
 rw [List.set_append_right _ _ (by rw [cp_at];omega),cp_at,show es.length * 2 - es.length * 2=0 by omega];rfl
theorem set_two (es:List Lvl) (a b b':CA) (r:List CA):(flatE es++a::b::r).set (es.length * 2+1) b'=flatE es++a::b'::r:=by
 rw [List.set_append_right _ _ (by rw [cp_at];omega),cp_at,show es.length * 2+1 - es.length * 2=1 by omega];rfl
theorem cpC_lt {es:List Lvl} {n:Nat} (h:es.length < n):cpC es n=flatE es++dI 0::.d (.v (.slice none 0 0))::zRows (n - es.length - 1):=by
 obtain ⟨k,rfl⟩:∃ k,n=es.length+k+1:=⟨n - es.length - 1,by omega⟩
 unfold cpC
 rw [show es.length+k+1 - es.length=k+1 by omega];rfl
theorem cpA_done (es:List Lvl) (c:Int) (nm:Nat) (vs:List LV) (n:Nat):CLs (cpA es c nm vs n) (cpC (es++[⟨c,vs⟩]) n):=by
 have h1:flatE (es++[(⟨c,vs⟩:Lvl)])=flatE es++[dI c,.d (.sl 2 (Enc.encL vs))]:=by
  unfold flatE
  rw [Enc.app,List.flatten_append,List.map_append];rfl
 have h2:n - (es++[(⟨c,vs⟩:Lvl)]).length=n - es.length - 1:=by rw [List.length_append];simp;omega
 unfold cpA cpC
 rw [h1,h2,List.append_assoc]
 have refl:∀ l:List CA,CLs l l:=by
  intro l
  induction l with
  | nil=>exact .nil
  | cons x l ih=>exact .cons (.refl _) ih
 have pre:∀ l r s:List CA,CLs r s→CLs (l++r) (l++s):=by
  intro l r s h
  induction l with
  | nil=>exact h
  | cons x l ih=>exact .cons (.refl _) ih
 exact pre _ _ _ (.cons (.refl _) (.cons (.sub (.app _ _ _)) (refl _)))
theorem zRows_below (m:Nat):∀ n,∀ x∈zRows n,x.below m
 | 0,x,hx=>by cases hx
 | n+1,x,hx=>by
  rcases List.mem_cons.1 hx with rfl | hx
  ·trivial
  ·rcases List.mem_cons.1 hx with rfl | hx
   ·trivial
   ·exact zRows_below m n x hx
theorem flat_below {α:Type} [Enc α] (m:Nat) (l:List α):∀ x∈flatE l,x.below m:=fun x hx=>by obtain ⟨c,-,rfl⟩:=flatE_mem hx;trivial
theorem bCp {m i n:Nat} {T:TypeId} {es:List Lvl} {r:List (Nat×HB)} (h:Nat.blt i m=true) (l:hpBelow m r):hpBelow m ((i,.cells T (cpC es n))::r) :=
 ⟨blt_t h,(fun x hx=>by
  rcases List.mem_append.1 hx with hx | hx
  ·exact flat_below m es x hx
  ·exact zRows_below m _ x hx),l⟩
theorem bCa {m i n nm:Nat} {c:Int} {vs:List LV} {T:TypeId} {es:List Lvl} {r:List (Nat×HB)} (h:Nat.blt i m=true) (h2:Nat.blt nm m=true) (l:hpBelow m r):hpBelow m ((i,.cells T (cpA es c nm vs n))::r) :=
 ⟨blt_t h,(fun x hx=>by
  rcases List.mem_append.1 hx with hx | hx
  ·exact flat_below m es x hx
  ·rcases List.mem_cons.1 hx with rfl | hx
   ·trivial
   ·rcases List.mem_cons.1 hx with rfl | hx
    ·exact blt_t h2
    ·exact zRows_below m _ x hx),l⟩
theorem zeroRow_two:∀ n,zeroRow [.int .i64 0,.slice none 0 0] n=zRows n:=by
 intro n
 induction n with
 | zero=>rfl
 | succ n ih =>
  have h:∀ k,zRows (k+1)=zRows k++[dI 0,.d (.v (.slice none 0 0))]:=by
   intro k
   induction k with
   | zero=>rfl
   | succ k ih =>
    show dI 0::.d (.v (.slice none 0 0))::zRows (k+1)=dI 0::.d (.v (.slice none 0 0))::(zRows k++[dI 0,.d (.v (.slice none 0 0))])
    rw [ih]
  rw [h,← ih]
  unfold zeroRow
  have e:(n+1) * [Value.int .i64 0,.slice none 0 0].length=n * [Value.int .i64 0,.slice none 0 0].length+1+1:=by simp;omega
  rw [e,List.range_succ,List.range_succ,List.map_append,List.map_append,List.append_assoc]
  congr 1
  have e1:n * [Value.int .i64 0,.slice none 0 0].length % [Value.int .i64 0,.slice none 0 0].length=0:=by simp
  have e2:(n * [Value.int .i64 0,.slice none 0 0].length+1) % [Value.int .i64 0,.slice none 0 0].length=1:=by simp
  simp only [List.map_cons,List.map_nil,List.singleton_append]
  rw [e1,e2];rfl
section
variable {E:Env} {st:St} {dd:Option Tmp} {ty:TypeId} {pos:String} {af:Array Edge} {g:Option (Nat×Bool)}
theorem OpOK.makeCp {t e by_:Nat} {o1 o2:Operand} {m:Int} (ht:tySlice E.P t=some (e,2)) (hze:tyZero E.P e=some [.int .i64 0,.slice none 0 0]) (hel:tyElem E.P e=some (2,by_)) (hb:Nat.ble by_ 1000000=true)
  (h1:ev st.tm o1=some (TI m)) (h2:ev st.tm o2=some (TI m)) (hm:(cond (decide (0≤m)) (Nat.ble m.toNat 1000) false)=true) :
  OpOK E ⟨dd,.makeSlice t o1 o2,ty,pos,af,g⟩ st (.v (.one (.osl st.nx 0 m.toNat m.toNat))) ⟨(st.nx,.cells e (cpC [] m.toNat))::st.hp,st.tk,st.nx+1⟩:=by
 have h0:0≤m:=of_decide_eq_true (cond_left hm)
 have hn:m.toNat≤1000:=Nat.le_of_ble_eq_true (cond_right hm)
 have hb':=Nat.le_of_ble_eq_true hb
 have hmm:(m.toNat:Int)=m:=Int.toNat_of_nonneg h0
 have hbb:by_ * m.toNat≤1000000 * 1000:=Nat.mul_le_mul hb' hn
 have ok:=OpOK.makeSlice (E:=E) (st:=st) (dd:=dd) (ty:=ty) (pos:=pos) (af:=af) (g:=g) (l:=m.toNat) (c:=m.toNat) ht hze rfl rfl hel (by rw [hmm];exact h1) (by rw [hmm];exact h2) (Nat.le_refl _) (by omega) (by omega)
 rw [zeroRow_two] at ok
 have e:cpC [] m.toNat=zRows m.toNat:=by unfold cpC;rw [flatE_nil];rfl
 rw [e];exact ok
theorem RO.indexCp {t e i n:Nat} {x y:Operand} {m:Int} (ht:tySlice E.P t=some (e,2)) (hx:ev st.tm x=some (.v (.one (.osl i 0 n n)))) (hy:ev st.tm y=some (TI m)) (hg:(cond (decide (0≤m)) (Nat.blt m.toNat n) false)=true) :
  RO E ⟨dd,.indexAddr t x y,ty,pos,af,g⟩ st (.v (.one (.ptr i (m.toNat * 2)))):=by
 have h0:0≤m:=of_decide_eq_true (cond_left hg)
 have:=RO.indexOsl (E:=E) (st:=st) (d:=dd) (ty:=ty) (pos:=pos) (af:=af) (g:=g) (k:=m.toNat) ht hx hy (Int.toNat_of_nonneg h0).symm (blt_t (cond_right hg))
 rw [Nat.zero_add] at this;exact this
theorem OpOK.storeCp {t n i:Nat} {T:TypeId} {ag:Bool} {o1 o2:Operand} {m c:Int} {es:List Lvl} (el:Nat) (ht:tyAgg E.P t=some (ag,1)) (h1:ev st.tm o1=some (.v (.one (.ptr i (m.toNat * 2+0))))) (h2:ev st.tm o2=some (TI c))
  (hi:lk st.hp i=some (.cells T (cpC es n))) (hl:Nat.beq es.length m.toNat=true) (hn:Nat.blt es.length n=true) (hdd:dd=none) :
  OpOK E ⟨dd,.store t o1 o2,ty,pos,af,g⟩ st (.tup []) ⟨(i,.cells T (cpA es c st.nx [] n))::dropK i st.hp,(st.nx,some ⟨el,2,0,[]⟩)::st.tk,st.nx+1⟩:=by
 have hl':es.length=m.toNat:=Nat.eq_of_beq_eq_true hl
 have hn':=blt_t hn
 rw [cpC_lt hn'] at hi
 rw [← hl'] at h1
 have ok:=OpOK.store (E:=E) (st:=st) (dd:=dd) (ty:=ty) (pos:=pos) (af:=af) (g:=g) ht h1 h2 hi rfl (by rw [List.length_append,cp_at];simp) hdd
 have e:setL (flatE es++dI 0::.d (.v (.slice none 0 0))::zRows (n - es.length - 1)) (es.length * 2+0) (AV.one (dI c)).cells=flatE es++dI c::.d (.v (.slice none 0 0))::zRows (n - es.length - 1):=set_one es _ _ _
 rw [e] at ok
 have ok2:=OpOK.adoptC ok (i:=i) (off:=es.length * 2+1) (T:=T) el 2 (by rw [lk_cons,if_pos rfl]) (get_two es _ _ _)
 rw [set_two] at ok2
 intro V a w hr ro k K Q hK
 refine ok2 V a w hr ro k K Q (fun V' w' v H hnx L hx=>?_)
 refine hK V' w' v (H.forget (fun j B hj=>?_) (fun j T' hj=>hj)) hnx L hx
 rw [lk_cons] at hj ⊢
 split at hj
 ·rename_i e1;rw [if_pos e1,← hj];unfold cpA;rw [Enc.nil]
 ·rename_i e1;rw [if_neg e1,lk_cons,if_neg e1];exact hj
theorem RO.loadCa {t i n nm:Nat} {T:TypeId} {x:Operand} {m c:Int} {es:List Lvl} {vs:List LV} (ht:tyAgg E.P t=some (false,1)) (hx:ev st.tm x=some (.v (.one (.ptr i (m.toNat * 2+1))))) (hi:lk st.hp i=some (.cells T (cpA es c nm vs n))) (hl:Nat.beq es.length m.toNat=true) :
  RO E ⟨dd,.load t x,ty,pos,af,g⟩ st (.v (.one (.app nm 2 (Enc.encL vs)))):=by
 have hl':es.length=m.toNat:=Nat.eq_of_beq_eq_true hl
 rw [← hl'] at hx
 exact RO.loadOwn ht hx hi (get_two es _ _ _)
theorem OpOK.storeCa {t n i nm:Nat} {T:TypeId} {ag:Bool} {o1 o2:Operand} {m c:Int} {es:List Lvl} {vs vs':List LV} (ht:tyAgg E.P t=some (ag,1)) (h1:ev st.tm o1=some (.v (.one (.ptr i (m.toNat * 2+1))))) (h2:ev st.tm o2=some (.v (.one (.app nm 2 (Enc.encL vs')))))
  (hi:lk st.hp i=some (.cells T (cpA es c nm vs n))) (hl:Nat.beq es.length m.toNat=true) (hdd:dd=none) :
  OpOK E ⟨dd,.store t o1 o2,ty,pos,af,g⟩ st (.tup []) ⟨(i,.cells T (cpA es c nm vs' n))::dropK i st.hp,st.tk,st.nx⟩:=by
 have hl':es.length=m.toNat:=Nat.eq_of_beq_eq_true hl
 rw [← hl'] at h1
 have ok:=OpOK.store (E:=E) (st:=st) (dd:=dd) (ty:=ty) (pos:=pos) (af:=af) (g:=g) ht h1 h2 hi rfl (by unfold cpA;rw [List.length_append,cp_at];simp;omega) hdd
 have e:setL (cpA es c nm vs n) (es.length * 2+1) (AV.one (.app nm 2 (Enc.encL vs'))).cells=cpA es c nm vs' n:=set_two es _ _ _ _
 rw [e] at ok
 exact ok
end
theorem XQ.caDone {E:Env} {Q:Exit→Act→World→Prop} {st:St} {e:Exit} {i n nm:Nat} {T:TypeId} {c:Int} {vs:List LV} {es:List Lvl} {tk':List (Nat×Option Tok)} (hi:lk st.hp i=some (.cells T (cpA es c nm vs n))) (ht:tkLe st.tk tk')
  (k:XQ E Q e ⟨st.tm,[(i,.cells T (cpC (es++[⟨c,vs⟩]) n))],tk',st.nx,st.nt,st.df⟩):XQ E Q e st:=fun V a w hr =>
 k V a w ⟨hr.h.forgetLe (hC hi (cpA_done es c nm vs n) hZ) ht,hr.nx,hr.nt,hr.df,hr.tm⟩
theorem XQ.cpFlat {E:Env} {Q:Exit→Act→World→Prop} {st:St} {e:Exit} {i n:Nat} {T:TypeId} {es:List Lvl} (hi:lk st.hp i=some (.cells T (cpC es n))) (hn:Nat.beq es.length n=true)
  (k:XQ E Q e ⟨st.tm,[(i,.cells T (flatE es))],st.tk,st.nx,st.nt,st.df⟩):XQ E Q e st:=fun V a w hr=>by
 have hn':es.length=n:=Nat.eq_of_beq_eq_true hn
 have e:cpC es n=flatE es:=by unfold cpC;rw [hn',Nat.sub_self];show flatE es++[]=_;rw [List.append_nil]
 rw [e] at hi
 refine k V a w ⟨hr.h.forget (fun j B hj=>?_) (fun j T hj=>hj),hr.nx,hr.nt,hr.df,hr.tm⟩
 rw [lk_cons] at hj
 split at hj
 ·rename_i e1;rw [← e1,hi];exact hj
 ·cases hj
end Go.Proofs.Ytkimijmiphkddaa
namespace Go.Proofs.Ytkimijmiphkddaa
open Go.RowKit Go.Shelf
theorem fo_81_0:fieldOff Try.prog 81 0=some 0:=by kernel_rfl
theorem fo_81_1:fieldOff Try.prog 81 1=some 1:=by kernel_rfl
theorem fo_81_2:fieldOff Try.prog 81 2=some 2:=by kernel_rfl
theorem ag_81:tyAgg Try.prog 81=some (true,3):=by kernel_rfl
theorem sl_79:tySlice Try.prog 79=some (81,3):=by kernel_rfl
theorem z_81:tyZero Try.prog 81=some [.int .i64 0,.int .i64 0,.int .i64 0]:=by kernel_rfl
theorem bd_81:IsStruct Try.prog 81 [(0,1),(1,1),(2,1)] [.int .i64 0,.int .i64 0,.int .i64 0]:=⟨by kernel_rfl,by kernel_rfl⟩
theorem el_81:tyElem Try.prog 81=some (3,24):=by kernel_rfl
theorem en_19:Enters Try.prog 19:=enters_of Try.func19 (by kernel_rfl) rfl
theorem en_43:Enters Try.prog 43:=enters_of Try.func43 (by kernel_rfl) rfl
theorem en_44:Enters Try.prog 44:=enters_of Try.func44 (by kernel_rfl) rfl
theorem en_45:Enters Try.prog 45:=enters_of Try.func45 (by kernel_rfl) rfl
theorem en_46:Enters Try.prog 46:=enters_of Try.func46 (by kernel_rfl) rfl
theorem en_47:Enters Try.prog 47:=enters_of Try.func47 (by kernel_rfl) rfl
theorem en_64:Enters Try.prog 64:=enters_of Try.func64 (by kernel_rfl) rfl
def m43_l0 (a0:Lvl) (s1:Int×Int×Int):Option (LO (Int×Int×Int) ((Int×Int))) :=
 cond (decide (s1.2.2 < (a0.vs.length:Int)))
   (Option.bind (idx a0.vs s1.2.2) fun (x3:LV) =>
 Option.bind (cond (decide (x3.1 < 0))
   (cond (decide (s1.1 < 0))
   (some true)
   (some (decide ((w64 ((-1) - x3.1)) < s1.1))))
   (some false)) (fun (v4:Bool)=>cond v4
   (some (.next ((w64 ((-1) - x3.1)),x3.2,(w64 (s1.2.2+1)))))
   (some (.next (s1.1,s1.2.1,(w64 (s1.2.2+1)))))))
   (some (.done (s1.1,s1.2.1)))
def m43 (a0:Lvl):Option (Int×Int) :=
 Option.bind (loopN (m43_l0 a0) FUEL ((-1),0,0)) (fun (o1:Int×Int)=>some (o1.1,o1.2))
theorem m43_ok (a0:Lvl) (r:Int×Int) (h0:m43 a0=some r):Fun Try.prog 43 [.agg (cE a0)] (resOf [.one (dI r.1),.one (dI r.2)]):=by
 unfold m43 at h0
 refine Fun.of_bodyM 9 41 Try.func43 Z en_43 Z (lb Z) (fun S w=>?_)
 simp only [entry]
 refine XC.seq<|XC.region<|XL.put Z Z (lb Z) (OpOK.box Z)<|rA Z Z Z<|rA Z Z Z<|XL.nil<|XQ.seq<|XC.seq<|XC.region<|rA Z Z Z<|rA Z Z Z<|XL.nil<|XQ.seq<|XC.seq ?_
 refine XC.seq<|XC.region<|rA Z Z Z<|XL.nil<|XQ.seq<|XC.block ?_
 refine XC.joinX 0 (fun (o1:Int×Int)=>⟨[(4,.v (.one (dI o1.1))),(5,.v (.one (dI o1.2)))],[(0,.cells 39 (cE a0))],[],1,41,[]⟩) (fun (o1:Int×Int)=>(some (o1.1,o1.2))=some r) ?_ ?_
 refine bindK h0 (fun o2 hl1 h0=>?_)
 refine XC.loopM (m43_l0 a0) (fun s1=>⟨[(1,.v (.one (.ptr 0 0))),(4,.v (.one (dI s1.1))),(5,.v (.one (dI s1.2.1))),(6,.v (.one (dI s1.2.2)))],[(0,.cells 39 (cE a0))],[],1,41,[]⟩) ((-1),0,0) o2 (sL (Nat.zero_le _) Z Z Z Z Z) hl1 (fun s1 n1 oo1 h1 ho1=>?_)
 unfold m43_l0 at h1
 refine XC.seq<|XC.seq<|XC.region<|rM Z Z Z<|rR Z Z Z (RO.fieldOwn fo_39_1 Z)<|rR Z Z Z (RO.loadOwn ag_37 Z Z Z)<|rR Z Z Z (RO.lenE (α:=LV) sl_37 Z (.d _))<|rR Z Z Z (RO.binInt Z Z Z)<|XL.nil<|XQ.seq ?_
 refine XC.cond (b:=(decide (s1.2.2 < (a0.vs.length:Int)))) Z (fun c3=>?_) (fun c3=>?_)
 replace h1:=condT c3 h1
 refine XC.skip<|XQ.seq<|XC.seq<|XC.block<|XC.seq<|XC.region<|rR Z Z Z (RO.fieldOwn fo_39_1 Z)<|rR Z Z Z (RO.loadOwn ag_37 Z Z Z)<|rM Z Z Z ?_
 refine bindK h1 (fun x4 hx4 h1=>?_)
 refine rR Z Z Z (RO.indexE (α:=LV) sl_37 Z (.d _) Z hx4)<|rR Z Z Z (RO.loadPelCE (x4:LV) ag_59 Z)<|XL.put Z Z (lb Z) (OpOK.alloc z_59 Z)<|XL.eff Z Z (OpOK.storeCE (x4:LV) ag_59 Z Z Z Z Z)<|XL.nil<|XQ.seq<|XC.seq ?_
 refine XC.joinR (fun (v5:Bool)=>⟨[(1,.v (.one (.ptr 0 0))),(4,.v (.one (dI s1.1))),(5,.v (.one (dI s1.2.1))),(6,.v (.one (dI s1.2.2))),(7,.v (.one (.ptr 1 0))),(33,.v (.one (dB v5)))],[(0,.cells 39 (cE a0)),(1,.cells 59 (cE x4))],[],2,41,[]⟩) (fun (v5:Bool)=>(cond v5
     (some (.next ((w64 ((-1) - x4.1)),x4.2,(w64 (s1.2.2+1)))))
     (some (.next (s1.1,s1.2.1,(w64 (s1.2.2+1))))))=some oo1) ?_ ?_
 refine bindK h1 (fun w2_ h2 h1=>?_)
 refine XC.region<|rR Z Z Z (RO.fieldOwn fo_59_0 Z)<|rR Z Z Z (RO.loadOwn ag_3 Z Z Z)<|rR Z Z Z (RO.binInt Z Z Z)<|rM Z Z Z ?_
 refine XL.case (d:=23) (c:=(decide (x4.1 < 0))) Z (fun c6=>?_) (fun c6=>?_)
 replace h2:=condT c6 h2
 refine rM Z Z Z<|rR Z Z Z (RO.binInt Z Z Z)<|rM Z Z Z ?_
 refine XL.case (d:=26) (c:=(decide (s1.1 < 0))) Z (fun c7=>?_) (fun c7=>?_)
 replace h2:=condT c7 h2
 refine XL.no Z Z<|XL.no Z Z<|XL.no Z Z<|XL.no Z Z<|XL.no Z Z<|rR Z Z Z (RO.pickT Z Z)<|rR Z Z Z (RO.pickT Z Z)<|XL.nil ?_
 have e:=sI h2;subst e
 exact XQ.joinR true (sL (Nat.zero_le _) Z Z Z Z Z) h1
 replace h2:=condF c7 h2
 refine rR Z Z Z (RO.fieldOwn fo_59_0 Z)<|rR Z Z Z (RO.loadOwn ag_3 Z Z Z)<|rR Z Z Z (RO.binInt Z Z Z)<|rM Z Z Z<|rR Z Z Z (RO.binInt Z Z Z)<|rR Z Z Z (RO.pickF Z Z)<|rR Z Z Z (RO.pickT Z Z)<|XL.nil ?_
 have e:=sI h2;subst e
 exact XQ.joinR (decide ((w64 ((-1) - x4.1)) < s1.1)) (sL (Nat.zero_le _) Z Z Z Z Z) h1
 replace h2:=condF c6 h2
 refine XL.no Z Z<|XL.no Z Z<|XL.no Z Z<|XL.no Z Z<|XL.no Z Z<|XL.no Z Z<|XL.no Z Z<|XL.no Z Z<|XL.no Z Z<|rR Z Z Z (RO.pickF Z Z)<|XL.nil ?_
 have e:=sI h2;subst e
 exact XQ.joinR false (sL (Nat.zero_le _) Z Z Z Z Z) h1
 intro v5 h1
 refine XQ.seq ?_
 refine XC.cond (b:=v5) Z (fun c8=>?_) (fun c8=>?_)
 replace h1:=condT c8 h1
 refine XC.anyRun [] [] mixed (by kernel_rfl) (by kernel_rfl) (by kernel_rfl) ?_
 refine RunA.rd Z Z Z (OpOK.of_ro (RO.fieldOwn fo_59_0 Z)) Z<|RunA.rd Z Z Z (OpOK.of_ro (RO.loadOwn ag_3 Z Z Z)) Z<|RunA.rd Z Z Z (OpOK.of_ro (RO.binInt Z Z Z)) Z<|RunA.rd Z Z Z (OpOK.of_ro (RO.fieldOwn fo_59_1 Z)) Z<|RunA.rd Z Z Z (OpOK.of_ro (RO.loadOwn ag_3 Z Z Z)) Z<|RunA.rd Z Z Z (OpOK.of_ro (RO.assign Z)) Z<|RunA.rd Z Z Z (OpOK.of_ro (RO.assign Z)) Z ?_
 refine RunA.nil ⟨?ex,_,_,Z,?_⟩
 case ex=>exact trivial
 refine XQ.less (st':=⟨[(1,.v (.one (.ptr 0 0))),(4,.v (.one (dI (w64 ((-1) - x4.1))))),(5,.v (.one (dI x4.2))),(6,.v (.one (dI s1.2.2)))],[(0,.cells 39 (cE a0)),(1,.cells 59 (cE x4))],[],2,41,[]⟩) (sL (Nat.zero_le _) Z Z Z Z Z)<|XQ.inBlock<|XQ.seq<|XC.region<|rM Z Z Z<|rR Z Z Z (RO.binInt Z Z Z)<|rA Z Z Z<|XL.nil ?_
 have e:=sI h1;subst e
 refine XQ.nextM ((w64 ((-1) - x4.1)),x4.2,(w64 (s1.2.2+1))) (sL (Nat.zero_le _) Z Z Z Z Z) ho1
 replace h1:=condF c8 h1
 refine XC.skip<|XQ.inBlock<|XQ.seq<|XC.region<|rM Z Z Z<|rR Z Z Z (RO.binInt Z Z Z)<|rA Z Z Z<|XL.nil ?_
 have e:=sI h1;subst e
 refine XQ.nextM (s1.1,s1.2.1,(w64 (s1.2.2+1))) (sL (Nat.zero_le _) Z Z Z Z Z) ho1
 replace h1:=condF c3 h1
 refine XC.exit<|XQ.thenE<|XQ.thenE ?_
 have e:=sI h1;subst e
 have e_:_=_:=ho1
 subst e_
 exact XQ.joinX (s1.1,s1.2.1) (sL (Nat.zero_le _) Z Z Z Z Z) h0
 intro o1 h0
 refine XQ.blockX<|XQ.seq<|XC.seq<|XC.region<|rM Z Z Z<|rM Z Z Z<|rA Z Z Z<|rA Z Z Z<|XL.nil<|XQ.seq<|XC.ret ?_
 have e:=sI h0;subst e
 exact XQ.retF (fun _ _ h=>h) Z (RAs.tmp Z (RAs.tmp Z .nil)) (.cons (.one (.d _)) (.cons (.one (.d _)) .nil))
def m44_l0 (a0:Lvl) (s1:(List Lvl)×Int):Option (LO ((List Lvl)×Int) (((List Lvl)))) :=
 cond (decide (s1.2 < (a0.vs.length:Int)))
   (Option.bind (idx a0.vs s1.2) fun (x5:LV) =>
 guardO (Nat.ble (s1.1.length+([(⟨0,[x5]⟩:Lvl)]).length) 1000000000)
 (some (.next ((s1.1++([(⟨0,[x5]⟩:Lvl)])),(w64 (s1.2+1))))))
   (some (.done s1.1))
def m44 (a0:Lvl):Option ((List Lvl)) :=
 Option.bind (cond (decide (0 < a0.c))
   (some true)
   (some ((a0.vs.length:Int)==0))) (fun (v1:Bool)=>Option.bind (cond v1
   (guardO (Nat.ble ([(⟨a0.c,([]:List LV)⟩:Lvl)]).length 1000000000)
 (some ([(⟨a0.c,([]:List LV)⟩:Lvl)])))
   (some ([]:List Lvl))) (fun (v2:(List Lvl))=>Option.bind (loopN (m44_l0 a0) FUEL (v2,0)) (fun (o3:(List Lvl))=>some o3)))
theorem m44_ok (a0:Lvl) (r:(List Lvl)) (h0:m44 a0=some r):Fun Try.prog 44 [.agg (cE a0)] (resOf [.one (dS r)]):=by
 unfold m44 at h0
 refine Fun.of_bodyM 9 38 Try.func44 Z en_44 Z (lb Z) (fun S w=>?_)
 simp only [entry]
 refine XC.seq<|XC.region<|XL.put Z Z (lb Z) (OpOK.box Z)<|rA Z Z Z<|XL.nil<|XQ.seq<|XC.seq<|XC.region<|rA Z Z Z<|XL.nil<|XQ.seq<|XC.seq<|XC.seq ?_
 refine XC.joinR (fun (v1:Bool)=>⟨[(1,.v (.one (.ptr 0 0))),(3,.v (.one (dN))),(13,.v (.one (dB v1)))],[(0,.cells 39 (cE a0))],[],1,38,[]⟩) (fun (v1:Bool)=>(Option.bind (cond v1
     (guardO (Nat.ble ([(⟨a0.c,([]:List LV)⟩:Lvl)]).length 1000000000)
   (some ([(⟨a0.c,([]:List LV)⟩:Lvl)])))
     (some ([]:List Lvl))) (fun (v2:(List Lvl))=>Option.bind (loopN (m44_l0 a0) FUEL (v2,0)) (fun (o3:(List Lvl))=>some o3)))=some r) ?_ ?_
 refine bindK h0 (fun w1_ h1 h0=>?_)
 refine XC.region<|rR Z Z Z (RO.fieldOwn fo_39_0 Z)<|rR Z Z Z (RO.loadOwn ag_3 Z Z Z)<|rR Z Z Z (RO.binInt Z Z Z)<|rM Z Z Z ?_
 refine XL.case (d:=8) (c:=(decide (0 < a0.c))) Z (fun c2=>?_) (fun c2=>?_)
 replace h1:=condT c2 h1
 refine XL.no Z Z<|XL.no Z Z<|XL.no Z Z<|XL.no Z Z<|rR Z Z Z (RO.pickT Z Z)<|XL.nil ?_
 have e:=sI h1;subst e
 exact XQ.joinR true (sL (Nat.zero_le _) Z Z Z Z Z) h0
 replace h1:=condF c2 h1
 refine rR Z Z Z (RO.fieldOwn fo_39_1 Z)<|rR Z Z Z (RO.loadOwn ag_37 Z Z Z)<|rR Z Z Z (RO.lenE (α:=LV) sl_37 Z (.d _))<|rR Z Z Z (RO.binInt Z Z Z)<|rR Z Z Z (RO.pickF Z Z)<|XL.nil ?_
 have e:=sI h1;subst e
 exact XQ.joinR ((a0.vs.length:Int)==0) (sL (Nat.zero_le _) Z Z Z Z Z) h0
 intro v1 h0
 refine XQ.seq ?_
 refine XC.joinR (fun (v3:(List Lvl))=>⟨[(1,.v (.one (.ptr 0 0))),(3,.v (.one (dA 2 v3)))],[(0,.cells 39 (cE a0))],[(2,some ⟨39,2,(Enc.encL v3).length,[]⟩)],3,38,[]⟩) (fun (v3:(List Lvl))=>(Option.bind (loopN (m44_l0 a0) FUEL (v3,0)) (fun (o4:(List Lvl))=>some o4))=some r) ?_ ?_
 refine bindK h0 (fun w1_ h1 h0=>?_)
 refine XC.cond (b:=v1) Z (fun c4=>?_) (fun c4=>?_)
 replace h1:=condT c4 h1
 refine XC.region<|rM Z Z Z<|rR Z Z Z (RO.fieldOwn fo_39_0 Z)<|rR Z Z Z (RO.loadOwn ag_3 Z Z Z)<|rR Z Z Z (RO.build1 bd_39 Z Z Z)<|XL.put Z Z (lb Z) (OpOK.lit1E (α:=Lvl) ((⟨a0.c,([]:List LV)⟩:Lvl)) sl_31 z_39 Z Z (lb Z) (lb Z) Z Z (.cons (.d _) (.cons (.nil _) .nil)) Z) ?_
 refine guardK h1 (fun g5 h1=>?_)
 refine XL.put Z Z (lb Z) (OpOK.appendNilE (α:=Lvl) sl_31 el_39 Z Z Z (.app _ _) g5)<|rA Z Z Z<|XL.nil ?_
 have e:=sI h1;subst e
 exact XQ.joinR ([(⟨a0.c,([]:List LV)⟩:Lvl)]) (sL (Nat.zero_le _) Z Z Z Z Z) h0
 replace h1:=condF c4 h1
 refine XC.skip ?_
 have e:=sI h1;subst e
 refine XQ.skipTo 2 (lb Z)<|XQ.adoptT (t:=3) 39 2 Z ?_
 exact XQ.joinR ([]:List Lvl) (sL (Nat.zero_le _) Z Z Z Z Z) h0
 intro v3 h0
 refine XQ.seq<|XC.seq<|XC.seq<|XC.region<|rA Z Z Z<|XL.nil<|XQ.seq<|XC.block ?_
 refine XC.joinX 0 (fun (o6:(List Lvl))=>⟨[(3,.v (.one (dA 2 o6)))],[(0,.cells 39 (cE a0))],[(2,some ⟨39,2,(Enc.encL o6).length,[]⟩)],3,38,[]⟩) (fun (o6:(List Lvl))=>(some o6)=some r) ?_ ?_
 refine bindK h0 (fun o7 hl1 h0=>?_)
 refine XC.loopM (m44_l0 a0) (fun s1=>⟨[(1,.v (.one (.ptr 0 0))),(3,.v (.one (dA 2 s1.1))),(4,.v (.one (dI s1.2)))],[(0,.cells 39 (cE a0))],[(2,some ⟨39,2,(Enc.encL s1.1).length,[]⟩)],3,38,[]⟩) (v3,0) o7 (sL (Nat.zero_le _) Z Z Z Z Z) hl1 (fun s1 n1 oo1 h1 ho1=>?_)
 unfold m44_l0 at h1
 refine XC.seq<|XC.seq<|XC.region<|rM Z Z Z<|rR Z Z Z (RO.fieldOwn fo_39_1 Z)<|rR Z Z Z (RO.loadOwn ag_37 Z Z Z)<|rR Z Z Z (RO.lenE (α:=LV) sl_37 Z (.d _))<|rR Z Z Z (RO.binInt Z Z Z)<|XL.nil<|XQ.seq ?_
 refine XC.cond (b:=(decide (s1.2 < (a0.vs.length:Int)))) Z (fun c8=>?_) (fun c8=>?_)
 replace h1:=condT c8 h1
 refine XC.skip<|XQ.seq<|XC.seq<|XC.block<|XC.region<|rM Z Z Z<|rR Z Z Z (RO.fieldOwn fo_39_1 Z)<|rR Z Z Z (RO.loadOwn ag_37 Z Z Z)<|rM Z Z Z ?_
 refine bindK h1 (fun x9 hx9 h1=>?_)
 refine rR Z Z Z (RO.indexE (α:=LV) sl_37 Z (.d _) Z hx9)<|rR Z Z Z (RO.loadPelCE (x9:LV) ag_59 Z)<|XL.put Z Z (lb Z) (OpOK.lit1E (α:=LV) (x9) sl_37 z_59 Z Z (lb Z) (lb Z) Z Z (.cons (.d _) (.cons (.d _) .nil)) Z)<|rR Z Z Z (RO.build1 bd_39 Z Z Z)<|XL.put Z Z (lb Z) (OpOK.lit1E (α:=Lvl) ((⟨0,[x9]⟩:Lvl)) sl_31 z_39 Z Z (lb Z) (lb Z) Z Z (.cons (.d _) (.cons (.app _ _ _) .nil)) Z) ?_
 refine guardK h1 (fun g10 h1=>?_)
 refine XL.put Z Z (lb Z) (OpOK.appendE (α:=Lvl) sl_31 el_39 Z Z Z Z Z (.app _ _) g10)<|rA Z Z Z<|XL.nil<|XQ.inBlock<|XQ.seq<|XC.region<|rM Z Z Z<|rR Z Z Z (RO.binInt Z Z Z)<|rA Z Z Z<|XL.nil ?_
 have e:=sI h1;subst e
 refine XQ.nextM ((s1.1++([(⟨0,[x9]⟩:Lvl)])),(w64 (s1.2+1))) (sL (Nat.zero_le _) Z Z Z Z Z) ho1
 replace h1:=condF c8 h1
 refine XC.exit<|XQ.thenE<|XQ.thenE ?_
 have e:=sI h1;subst e
 have e_:_=_:=ho1
 subst e_
 exact XQ.joinX s1.1 (sL (Nat.zero_le _) Z Z Z Z Z) h0
 intro o6 h0
 refine XQ.blockX<|XQ.seq<|XC.seq<|XC.region<|rM Z Z Z<|rA Z Z Z<|XL.nil<|XQ.seq<|XC.ret ?_
 have e:=sI h0;subst e
 exact XQ.retF (fun _ _ h=>h) Z (RAs.tmp Z .nil) (.cons (.one (.app _ _ _)) .nil)
def m64 (a0:Lvl):Option (Int×Int) :=
 cond ((a0.vs.length:Int)==0)
   (some (0,a0.c))
   (Option.bind (idx a0.vs 0) fun (x2:LV) =>
 Option.bind (idx a0.vs 0) fun (x3:LV) =>
 some ((w64 (x2.1+1)),x3.2))
theorem m64_ok (a0:Lvl) (r:Int×Int) (h0:m64 a0=some r):Fun Try.prog 64 [.agg (cE a0)] (resOf [.one (dI r.1),.one (dI r.2)]):=by
 unfold m64 at h0
 refine Fun.of_bodyM 9 21 Try.func64 Z en_64 Z (lb Z) (fun S w=>?_)
 simp only [entry]
 refine XC.seq<|XC.region<|XL.put Z Z (lb Z) (OpOK.box Z)<|rA Z Z Z<|rA Z Z Z<|XL.nil<|XQ.seq<|XC.seq<|XC.seq<|XC.region<|rR Z Z Z (RO.fieldOwn fo_39_1 Z)<|rR Z Z Z (RO.loadOwn ag_37 Z Z Z)<|rR Z Z Z (RO.lenE (α:=LV) sl_37 Z (.d _))<|rR Z Z Z (RO.binInt Z Z Z) ?_
 refine XL.nil<|XQ.seq ?_
 refine XC.cond (b:=((a0.vs.length:Int)==0)) Z (fun c1=>?_) (fun c1=>?_)
 replace h0:=condT c1 h0
 refine XC.seq ?_
 refine XC.anyRun [] [] mixed (by kernel_rfl) (by kernel_rfl) (by kernel_rfl) ?_
 refine RunA.rd Z Z Z (OpOK.of_ro (RO.fieldOwn fo_39_0 Z)) Z<|RunA.rd Z Z Z (OpOK.of_ro (RO.loadOwn ag_3 Z Z Z)) Z<|RunA.rd Z Z Z (OpOK.of_ro (RO.assign Z)) Z<|RunA.rd Z Z Z (OpOK.of_ro (RO.assign Z)) Z ?_
 refine RunA.nil ⟨?ex,_,_,Z,?_⟩
 case ex=>exact trivial
 refine XQ.less (st':=⟨[(2,.v (.one (dI 0))),(3,.v (.one (dI a0.c)))],[(0,.cells 39 (cE a0))],[],1,21,[]⟩) (sL (Nat.zero_le _) Z Z Z Z Z)<|XQ.seq<|XC.ret ?_
 have e:=sI h0;subst e
 exact XQ.retF (fun _ _ h=>h) Z (RAs.tmp Z (RAs.tmp Z .nil)) (.cons (.one (.d _)) (.cons (.one (.d _)) .nil))
 replace h0:=condF c1 h0
 refine XC.skip<|XQ.seq<|XC.seq ?_
 refine XC.anyRun [] [] mixed (by kernel_rfl) (by kernel_rfl) (by kernel_rfl) ?_
 refine RunA.rd Z Z Z (OpOK.of_ro (RO.fieldOwn fo_39_1 Z)) Z<|RunA.rd Z Z Z (OpOK.of_ro (RO.loadOwn ag_37 Z Z Z)) Z ?_
 refine bindK h0 (fun x2 hx2 h0=>?_)
 refine RunA.rd Z Z Z (OpOK.of_ro (RO.indexE (α:=LV) sl_37 Z (.d _) Z hx2)) Z<|RunA.rd Z Z Z (OpOK.of_ro (RO.fieldPel fo_59_0 Z)) Z<|RunA.rd Z Z Z (OpOK.of_ro (RO.loadPel ag_3 Z Z)) Z<|RunA.rd Z Z Z (OpOK.of_ro (RO.binInt Z Z Z)) Z<|RunA.rd Z Z Z (OpOK.of_ro (RO.fieldOwn fo_39_1 Z)) Z<|RunA.rd Z Z Z (OpOK.of_ro (RO.loadOwn ag_37 Z Z Z)) Z ?_
 refine bindK h0 (fun x3 hx3 h0=>?_)
 refine RunA.rd Z Z Z (OpOK.of_ro (RO.indexE (α:=LV) sl_37 Z (.d _) Z hx3)) Z<|RunA.rd Z Z Z (OpOK.of_ro (RO.fieldPel fo_59_1 Z)) Z<|RunA.rd Z Z Z (OpOK.of_ro (RO.loadPel ag_3 Z Z)) Z<|RunA.rd Z Z Z (OpOK.of_ro (RO.assign Z)) Z<|RunA.rd Z Z Z (OpOK.of_ro (RO.assign Z)) Z ?_
 refine RunA.nil ⟨?ex,_,_,Z,?_⟩
 case ex=>exact trivial
 refine XQ.less (st':=⟨[(2,.v (.one (dI (w64 (x2.1+1))))),(3,.v (.one (dI x3.2)))],[(0,.cells 39 (cE a0))],[],1,21,[]⟩) (sL (Nat.zero_le _) Z Z Z Z Z)<|XQ.seq<|XC.ret ?_
 have e:=sI h0;subst e
 exact XQ.retF (fun _ _ h=>h) Z (RAs.tmp Z (RAs.tmp Z .nil)) (.cons (.one (.d _)) (.cons (.one (.d _)) .nil))
def m46 (a0:Lvl) (a1:Lvl) (a2:Int):Option Edg :=
 Option.bind (m64 a0) fun (x1:Int×Int) =>
 Option.bind (m64 a1) fun (x2:Int×Int) =>
 some (⟨x1.1,x2.1,(w64 ((w64 (x1.2+a2)) - x2.2))⟩:Edg)
theorem m46_ok (a0:Lvl) (a1:Lvl) (a2:Int) (r:Edg) (h0:m46 a0 a1 a2=some r):Fun Try.prog 46 [.agg (cE a0),.agg (cE a1),.one (dI a2)] (resOf [.agg (cE r)]):=by
 unfold m46 at h0
 refine Fun.of_bodyM 9 29 Try.func46 Z en_46 Z (lb Z) (fun S w=>?_)
 simp only [entry]
 refine XC.seq<|XC.region<|XL.put Z Z (lb Z) (OpOK.box Z)<|XL.put Z Z (lb Z) (OpOK.box Z)<|XL.put Z Z (lb Z) (OpOK.alloc z_81 Z)<|XL.nil<|XQ.seq<|XC.seq<|XC.region<|rR Z Z Z (RO.loadCE (a0:Lvl) ag_39 Z Z) ?_
 refine bindK h0 (fun x1 hx1 h0=>?_)
 refine XL.put Z Z (lb Z) (OpOK.callFun (m64_ok a0 x1 hx1) Z (.cons (.agg (.cons (.d _) (.cons (.d _) .nil))) .nil))<|rM Z Z Z<|rR Z Z Z (RO.extract Z Z)<|rR Z Z Z (RO.extract Z Z)<|rA Z Z Z<|rA Z Z Z<|XL.nil<|XQ.seq<|XC.seq<|XC.region<|rR Z Z Z (RO.loadCE (a1:Lvl) ag_39 Z Z) ?_
 refine bindK h0 (fun x2 hx2 h0=>?_)
 refine XL.put Z Z (lb Z) (OpOK.callFun (m64_ok a1 x2 hx2) Z (.cons (.agg (.cons (.d _) (.cons (.d _) .nil))) .nil))<|rM Z Z Z<|rR Z Z Z (RO.extract Z Z)<|rR Z Z Z (RO.extract Z Z)<|rA Z Z Z<|rA Z Z Z<|XL.nil<|XQ.seq<|XC.seq<|XC.region<|rM Z Z Z<|rM Z Z Z<|rM Z Z Z<|rM Z Z Z ?_
 refine rR Z Z Z (RO.binInt Z Z Z)<|rM Z Z Z<|rR Z Z Z (RO.binInt Z Z Z)<|rR Z Z Z (RO.build3 bd_81 Z Z Z Z Z)<|XL.eff Z Z (OpOK.store ag_81 Z Z Z Z (lb Z) Z)<|XL.nil<|XQ.seq<|XC.ret ?_
 have e:=sI h0;subst e
 exact XQ.retF (fun _ _ h=>h) Z (RAs.agg ag_81 Z Z Z Z .nil) (.cons (.agg (.cons (.d _) (.cons (.d _) (.cons (.d _) .nil)))) .nil)
def m47_l0 (a1:List Edg) (a0:Int) (s2:Bool×Int×(List Int)):Option (LO (Bool×Int×(List Int)) ((Bool×(List Int)))) :=
 cond (decide (s2.2.1 < (a1.length:Int)))
   (Option.bind (idx a1 s2.2.1) fun (x6:Edg) =>
 Option.bind (idx s2.2.2 x6.fr) fun (x7:Int) =>
 guardO (Nat.beq s2.2.2.length a0.toNat)
 (Option.bind (idx a1 s2.2.1) fun (x9:Edg) =>
 Option.bind (idx a1 s2.2.1) fun (x10:Edg) =>
 Option.bind (idx s2.2.2 x10.to) fun (x11:Int) =>
 guardO (Nat.beq s2.2.2.length a0.toNat)
 (cond (decide (x11 < (w64 (x7+x9.by_))))
   (Option.bind (idx a1 s2.2.1) fun (x14:Edg) =>
 Option.bind (idx a1 s2.2.1) fun (x15:Edg) =>
 Option.bind (idx s2.2.2 x15.fr) fun (x16:Int) =>
 guardO (Nat.beq s2.2.2.length a0.toNat)
 (Option.bind (idx a1 s2.2.1) fun (x18:Edg) =>
 Option.bind (idx s2.2.2 x14.to) fun (x19:Int) =>
 guardO (Nat.beq s2.2.2.length a0.toNat)
 (some (.next (true,(w64 (s2.2.1+1)),(s2.2.2.set x14.to.toNat (w64 (x16+x18.by_))))))))
   (some (.next (s2.1,(w64 (s2.2.1+1)),s2.2.2))))))
   (some (.done (s2.1,s2.2.2)))
def m47_l1 (a0:Int) (s2:Bool×Int×(List Int)):Option (LO (Bool×Int×(List Int)) ((Bool×(List Int)))) :=
 cond (decide (s2.2.1 < a0))
   (Option.bind (idx s2.2.2 0) fun (x7:Int) =>
 guardO (Nat.beq s2.2.2.length a0.toNat)
 (Option.bind (idx s2.2.2 s2.2.1) fun (x9:Int) =>
 guardO (Nat.beq s2.2.2.length a0.toNat)
 (cond (decide (x9 < x7))
   (Option.bind (idx s2.2.2 0) fun (x12:Int) =>
 guardO (Nat.beq s2.2.2.length a0.toNat)
 (Option.bind (idx s2.2.2 s2.2.1) fun (x14:Int) =>
 guardO (Nat.beq s2.2.2.length a0.toNat)
 (some (.next (true,(w64 (s2.2.1+1)),(s2.2.2.set s2.2.1.toNat x12))))))
   (some (.next (s2.1,(w64 (s2.2.1+1)),s2.2.2))))))
   (some (.done (s2.1,s2.2.2)))
def m47_l2 (a0:Int) (a1:List Edg) (s1:Int×(List Int)):Option (LO (Int×(List Int)) (((List Int))⊕Bool)) :=
 cond (decide (s1.1≤a0))
   (Option.bind (loopN (m47_l0 a1 a0) FUEL (false,0,s1.2)) (fun (o4:Bool×(List Int))=>Option.bind (loopN (m47_l1 a0) FUEL (o4.1,1,o4.2)) (fun (o5:Bool×(List Int))=>cond (!o5.1)
   (some (.done (.inr true)))
   (some (.next ((w64 (s1.1+1)),o5.2))))))
   (some (.done (.inl s1.2)))
def m47 (a0:Int) (a1:List Edg):Option Bool :=
 guardO (cond (decide (0≤a0)) (Nat.ble (8 * a0.toNat) 281474976710656) false)
 (Option.bind (loopN (m47_l2 a0 a1) FUEL (0,(List.replicate a0.toNat 0))) (Sum.elim (fun (o2:(List Int))=>some false) (fun o=>some o)))
theorem m47_ok (a0:Int) (a1:List Edg) (r:Bool) (h0:m47 a0 a1=some r):Fun Try.prog 47 [.one (dI a0),.one (dS a1)] (resOf [.one (dB r)]):=by
 unfold m47 at h0
 refine Fun.of_bodyM 9 88 Try.func47 Z en_47 Z (lb Z) (fun S w=>?_)
 simp only [entry]
 refine XC.seq<|XC.region<|rA Z Z Z<|XL.nil<|XQ.seq<|XC.seq<|XC.region<|rM Z Z Z ?_
 refine guardK h0 (fun g1 h0=>?_)
 refine XL.put rfl rfl (lb rfl) (OpOK.makeO (α:=Int) (z:=0) sl_66 z_3 rfl rfl el_3 rfl rfl g1 rfl (by repeat (first | exact CLs.nil | refine CLs.cons (by first | exact .refl _ | exact .sub (.app _ _ _) | exact .sub (.nil _)) ?_))) ?_
 refine rA Z Z Z<|XL.nil<|XQ.seq<|XC.seq<|XC.seq<|XC.region<|rA Z Z Z<|XL.nil<|XQ.seq<|XC.block ?_
 refine XC.joinX 0 (fun (o2:(List Int))=>⟨[],[(0,.cells 3 (flatE o2))],[],1,88,[]⟩) (fun (o2:(List Int))=>(some false)=some r) ?_ ?_
 refine bindK h0 (fun o3 hl1 h0=>?_)
 refine XC.loopM (m47_l2 a0 a1) (fun s1=>⟨[(0,.v (.one (dI a0))),(1,.v (.one (dS a1))),(5,.v (.one (.osl 0 0 a0.toNat a0.toNat))),(6,.v (.one (dI s1.1)))],[(0,.cells 3 (flatE s1.2))],[],1,88,[]⟩) (0,(List.replicate a0.toNat 0)) o3 (stle (tA Z) (hA Z) kZ Z (Nat.zero_le _) Z Z Z (bF Z bZ) Z Z) hl1 (fun s1 n1 oo1 h1 ho1=>?_)
 unfold m47_l2 at h1
 refine XC.seq<|XC.seq<|XC.region<|rM Z Z Z<|rM Z Z Z<|rR Z Z Z (RO.binInt Z Z Z)<|XL.nil<|XQ.seq ?_
 refine XC.cond (b:=(decide (s1.1≤a0))) Z (fun c4=>?_) (fun c4=>?_)
 replace h1:=condT c4 h1
 refine XC.skip<|XQ.seq<|XC.seq<|XC.block<|XC.seq<|XC.region<|rA Z Z Z<|XL.nil<|XQ.seq<|XC.seq<|XC.seq<|XC.region<|rA Z Z Z<|XL.nil ?_
 refine XQ.seq<|XC.block ?_
 refine XC.joinX 2 (fun (o5:Bool×(List Int))=>⟨[(0,.v (.one (dI a0))),(1,.v (.one (dS a1))),(5,.v (.one (.osl 0 0 a0.toNat a0.toNat))),(6,.v (.one (dI s1.1))),(7,.v (.one (dB o5.1)))],[(0,.cells 3 (flatE o5.2))],[],1,88,[]⟩) (fun (o5:Bool×(List Int))=>(Option.bind (loopN (m47_l1 a0) FUEL (o5.1,1,o5.2)) (fun (o6:Bool×(List Int))=>cond (!o6.1)
     (some (.done (.inr true)))
     (some (.next ((w64 (s1.1+1)),o6.2)))))=some oo1) ?_ ?_
 refine bindK h1 (fun o6 hl2 h1=>?_)
 refine XC.loopM (m47_l0 a1 a0) (fun s2=>⟨[(0,.v (.one (dI a0))),(1,.v (.one (dS a1))),(5,.v (.one (.osl 0 0 a0.toNat a0.toNat))),(6,.v (.one (dI s1.1))),(7,.v (.one (dB s2.1))),(8,.v (.one (dI s2.2.1)))],[(0,.cells 3 (flatE s2.2.2))],[],1,88,[]⟩) (false,0,s1.2) o6 (stle (tA Z) (hA Z) kZ Z (Nat.zero_le _) Z Z Z (bF Z bZ) Z Z) hl2 (fun s2 n2 oo2 h2 ho2=>?_)
 unfold m47_l0 at h2
 refine XC.seq<|XC.seq<|XC.region<|rM Z Z Z<|rM Z Z Z<|rR Z Z Z (RO.lenE (α:=Edg) sl_79 Z (.d _))<|rR Z Z Z (RO.binInt Z Z Z)<|XL.nil<|XQ.seq ?_
 refine XC.cond (b:=(decide (s2.2.1 < (a1.length:Int)))) Z (fun c7=>?_) (fun c7=>?_)
 replace h2:=condT c7 h2
 refine XC.skip<|XQ.seq<|XC.seq<|XC.block<|XC.seq ?_
 refine XC.anyRun [] [] mixed (by kernel_rfl) (by kernel_rfl) (by kernel_rfl) ?_
 refine RunA.rd Z Z Z (OpOK.of_ro (RO.move Z)) Z<|RunA.rd Z Z Z (OpOK.of_ro (RO.move Z)) Z<|RunA.rd Z Z Z (OpOK.of_ro (RO.move Z)) Z ?_
 refine bindK h2 (fun x8 hx8 h2=>?_)
 refine RunA.rd Z Z Z (OpOK.of_ro (RO.indexE (α:=Edg) sl_79 Z (.d _) Z hx8)) Z<|RunA.rd Z Z Z (OpOK.of_ro (RO.fieldPel fo_81_0 Z)) Z<|RunA.rd Z Z Z (OpOK.of_ro (RO.loadPel ag_3 Z Z)) Z ?_
 refine bindK h2 (fun x9 hx9 h2=>?_)
 refine guardK h2 (fun g10 h2=>?_)
 refine RunA.rd Z Z Z (OpOK.of_ro (RO.indexO (α:=Int) sl_66 Z Z hx9 g10)) Z<|RunA.rd Z Z Z (OpOK.of_ro (RO.loadOF (α:=Int) (m:=x8.fr) (f:=0) ag_3 Z Z hx9 Z)) Z<|RunA.rd Z Z Z (OpOK.of_ro (RO.move Z)) Z<|RunA.rd Z Z Z (OpOK.of_ro (RO.move Z)) Z ?_
 refine bindK h2 (fun x11 hx11 h2=>?_)
 refine RunA.rd Z Z Z (OpOK.of_ro (RO.indexE (α:=Edg) sl_79 Z (.d _) Z hx11)) Z<|RunA.rd Z Z Z (OpOK.of_ro (RO.fieldPel fo_81_2 Z)) Z<|RunA.rd Z Z Z (OpOK.of_ro (RO.loadPel ag_3 Z Z)) Z<|RunA.rd Z Z Z (OpOK.of_ro (RO.binInt Z Z Z)) Z<|RunA.rd Z Z Z (OpOK.of_ro (RO.move Z)) Z<|RunA.rd Z Z Z (OpOK.of_ro (RO.move Z)) Z<|RunA.rd Z Z Z (OpOK.of_ro (RO.move Z)) Z ?_
 refine bindK h2 (fun x12 hx12 h2=>?_)
 refine RunA.rd Z Z Z (OpOK.of_ro (RO.indexE (α:=Edg) sl_79 Z (.d _) Z hx12)) Z<|RunA.rd Z Z Z (OpOK.of_ro (RO.fieldPel fo_81_1 Z)) Z<|RunA.rd Z Z Z (OpOK.of_ro (RO.loadPel ag_3 Z Z)) Z ?_
 refine bindK h2 (fun x13 hx13 h2=>?_)
 refine guardK h2 (fun g14 h2=>?_)
 refine RunA.rd Z Z Z (OpOK.of_ro (RO.indexO (α:=Int) sl_66 Z Z hx13 g14)) Z<|RunA.rd Z Z Z (OpOK.of_ro (RO.loadOF (α:=Int) (m:=x12.to) (f:=0) ag_3 Z Z hx13 Z)) Z<|RunA.rd Z Z Z (OpOK.of_ro (RO.binInt Z Z Z)) Z ?_
 refine RunA.nil ⟨?ex,_,_,Z,?_⟩
 case ex=>exact trivial
 refine XQ.less (st':=⟨[(0,.v (.one (dI a0))),(1,.v (.one (dS a1))),(5,.v (.one (.osl 0 0 a0.toNat a0.toNat))),(6,.v (.one (dI s1.1))),(7,.v (.one (dB s2.1))),(8,.v (.one (dI s2.2.1))),(45,.v (.one (dB (decide (x13 < (w64 (x9+x11.by_)))))))],[(0,.cells 3 (flatE s2.2.2))],[],1,88,[]⟩) (stle (tA Z) (hA Z) kZ Z (Nat.zero_le _) Z Z Z (bF Z bZ) Z Z)<|XQ.seq ?_
 refine XC.cond (b:=(decide (x13 < (w64 (x9+x11.by_))))) Z (fun c15=>?_) (fun c15=>?_)
 replace h2:=condT c15 h2
 refine XC.seq ?_
 refine XC.anyRun [21] [] mixed (by kernel_rfl) (by kernel_rfl) (by kernel_rfl) ?_
 refine RunA.rd Z Z Z (OpOK.of_ro (RO.move Z)) Z<|RunA.rd Z Z Z (OpOK.of_ro (RO.move Z)) Z<|RunA.rd Z Z Z (OpOK.of_ro (RO.move Z)) Z ?_
 refine bindK h2 (fun x16 hx16 h2=>?_)
 refine RunA.rd Z Z Z (OpOK.of_ro (RO.indexE (α:=Edg) sl_79 Z (.d _) Z hx16)) Z<|RunA.rd Z Z Z (OpOK.of_ro (RO.fieldPel fo_81_1 Z)) Z<|RunA.rd Z Z Z (OpOK.of_ro (RO.loadPel ag_3 Z Z)) Z<|RunA.rd Z Z Z (OpOK.of_ro (RO.move Z)) Z<|RunA.rd Z Z Z (OpOK.of_ro (RO.move Z)) Z<|RunA.rd Z Z Z (OpOK.of_ro (RO.move Z)) Z ?_
 refine bindK h2 (fun x17 hx17 h2=>?_)
 refine RunA.rd Z Z Z (OpOK.of_ro (RO.indexE (α:=Edg) sl_79 Z (.d _) Z hx17)) Z<|RunA.rd Z Z Z (OpOK.of_ro (RO.fieldPel fo_81_0 Z)) Z<|RunA.rd Z Z Z (OpOK.of_ro (RO.loadPel ag_3 Z Z)) Z ?_
 refine bindK h2 (fun x18 hx18 h2=>?_)
 refine guardK h2 (fun g19 h2=>?_)
 refine RunA.rd Z Z Z (OpOK.of_ro (RO.indexO (α:=Int) sl_66 Z Z hx18 g19)) Z<|RunA.rd Z Z Z (OpOK.of_ro (RO.loadOF (α:=Int) (m:=x17.fr) (f:=0) ag_3 Z Z hx18 Z)) Z<|RunA.rd Z Z Z (OpOK.of_ro (RO.move Z)) Z<|RunA.rd Z Z Z (OpOK.of_ro (RO.move Z)) Z ?_
 refine bindK h2 (fun x20 hx20 h2=>?_)
 refine RunA.rd Z Z Z (OpOK.of_ro (RO.indexE (α:=Edg) sl_79 Z (.d _) Z hx20)) Z<|RunA.rd Z Z Z (OpOK.of_ro (RO.fieldPel fo_81_2 Z)) Z<|RunA.rd Z Z Z (OpOK.of_ro (RO.loadPel ag_3 Z Z)) Z<|RunA.rd Z Z Z (OpOK.of_ro (RO.binInt Z Z Z)) Z ?_
 refine bindK h2 (fun x21 hx21 h2=>?_)
 refine guardK h2 (fun g22 h2=>?_)
 refine RunA.rd Z Z Z (OpOK.of_ro (RO.indexO (α:=Int) sl_66 Z Z hx21 g22)) Z<|RunA.eff Z Z Z (OpOK.storeOE (α:=Int) (y':=.one (dI (w64 (x18+x20.by_)))) (v:=(w64 (x18+x20.by_))) ag_3 Z Z (.one (.d _)) Z Z hx21 Z) Z ?_
 refine RunA.nil ⟨?ex,_,_,Z,?_⟩
 case ex=>exact trivial
 refine XQ.less (st':=⟨[(0,.v (.one (dI a0))),(1,.v (.one (dS a1))),(5,.v (.one (.osl 0 0 a0.toNat a0.toNat))),(6,.v (.one (dI s1.1))),(8,.v (.one (dI s2.2.1)))],[(0,.cells 3 (flatE ((s2.2.2.set x16.to.toNat (w64 (x18+x20.by_))):List Int)))],[],1,88,[]⟩) (stle (tA Z) (hA Z) kZ Z (Nat.zero_le _) Z Z Z (bF Z bZ) Z Z)<|XQ.seq<|XC.region<|rA Z Z Z<|XL.nil<|XQ.inBlock<|XQ.seq<|XC.region<|rM Z Z Z<|rR Z Z Z (RO.binInt Z Z Z)<|rA Z Z Z<|XL.nil ?_
 have e:=sI h2;subst e
 refine XQ.nextM (true,(w64 (s2.2.1+1)),(s2.2.2.set x16.to.toNat (w64 (x18+x20.by_)))) (stle (tA Z) (hA Z) kZ Z (Nat.zero_le _) Z Z Z (bF Z bZ) Z Z) ho2
 replace h2:=condF c15 h2
 refine XC.skip<|XQ.inBlock<|XQ.seq<|XC.region<|rM Z Z Z<|rR Z Z Z (RO.binInt Z Z Z)<|rA Z Z Z<|XL.nil ?_
 have e:=sI h2;subst e
 refine XQ.nextM (s2.1,(w64 (s2.2.1+1)),s2.2.2) (stle (tA Z) (hA Z) kZ Z (Nat.zero_le _) Z Z Z (bF Z bZ) Z Z) ho2
 replace h2:=condF c7 h2
 refine XC.exit<|XQ.thenE<|XQ.thenE ?_
 have e:=sI h2;subst e
 have e_:_=_:=ho2
 subst e_
 exact XQ.joinX (s2.1,s2.2.2) (stle (tA Z) (hA Z) kZ Z (Nat.zero_le _) Z Z Z (bF Z bZ) Z Z) h1
 intro o5 h1
 refine XQ.blockX<|XQ.seq<|XC.seq<|XC.seq<|XC.region<|rA Z Z Z<|XL.nil<|XQ.seq<|XC.block ?_
 refine XC.joinX 4 (fun (o23:Bool×(List Int))=>⟨[(0,.v (.one (dI a0))),(1,.v (.one (dS a1))),(5,.v (.one (.osl 0 0 a0.toNat a0.toNat))),(6,.v (.one (dI s1.1))),(7,.v (.one (dB o23.1)))],[(0,.cells 3 (flatE o23.2))],[],1,88,[]⟩) (fun (o23:Bool×(List Int))=>(cond (!o23.1)
     (some (.done (.inr true)))
     (some (.next ((w64 (s1.1+1)),o23.2))))=some oo1) ?_ ?_
 refine bindK h1 (fun o24 hl2 h1=>?_)
 refine XC.loopM (m47_l1 a0) (fun s2=>⟨[(0,.v (.one (dI a0))),(1,.v (.one (dS a1))),(5,.v (.one (.osl 0 0 a0.toNat a0.toNat))),(6,.v (.one (dI s1.1))),(7,.v (.one (dB s2.1))),(9,.v (.one (dI s2.2.1)))],[(0,.cells 3 (flatE s2.2.2))],[],1,88,[]⟩) (o5.1,1,o5.2) o24 (stle (tA Z) (hA Z) kZ Z (Nat.zero_le _) Z Z Z (bF Z bZ) Z Z) hl2 (fun s2 n2 oo2 h2 ho2=>?_)
 unfold m47_l1 at h2
 refine XC.seq<|XC.seq<|XC.region<|rM Z Z Z<|rM Z Z Z<|rR Z Z Z (RO.binInt Z Z Z)<|XL.nil<|XQ.seq ?_
 refine XC.cond (b:=(decide (s2.2.1 < a0))) Z (fun c25=>?_) (fun c25=>?_)
 replace h2:=condT c25 h2
 refine XC.skip<|XQ.seq<|XC.seq<|XC.block<|XC.seq ?_
 refine XC.anyRun [] [] mixed (by kernel_rfl) (by kernel_rfl) (by kernel_rfl) ?_
 refine RunA.rd Z Z Z (OpOK.of_ro (RO.move Z)) Z ?_
 refine bindK h2 (fun x26 hx26 h2=>?_)
 refine guardK h2 (fun g27 h2=>?_)
 refine RunA.rd Z Z Z (OpOK.of_ro (RO.indexO (α:=Int) sl_66 Z Z hx26 g27)) Z<|RunA.rd Z Z Z (OpOK.of_ro (RO.loadOF (α:=Int) (m:=0) (f:=0) ag_3 Z Z hx26 Z)) Z<|RunA.rd Z Z Z (OpOK.of_ro (RO.move Z)) Z<|RunA.rd Z Z Z (OpOK.of_ro (RO.move Z)) Z ?_
 refine bindK h2 (fun x28 hx28 h2=>?_)
 refine guardK h2 (fun g29 h2=>?_)
 refine RunA.rd Z Z Z (OpOK.of_ro (RO.indexO (α:=Int) sl_66 Z Z hx28 g29)) Z<|RunA.rd Z Z Z (OpOK.of_ro (RO.loadOF (α:=Int) (m:=s2.2.1) (f:=0) ag_3 Z Z hx28 Z)) Z<|RunA.rd Z Z Z (OpOK.of_ro (RO.binInt Z Z Z)) Z ?_
 refine RunA.nil ⟨?ex,_,_,Z,?_⟩
 case ex=>exact trivial
 refine XQ.less (st':=⟨[(0,.v (.one (dI a0))),(1,.v (.one (dS a1))),(5,.v (.one (.osl 0 0 a0.toNat a0.toNat))),(6,.v (.one (dI s1.1))),(7,.v (.one (dB s2.1))),(9,.v (.one (dI s2.2.1))),(79,.v (.one (dB (decide (x28 < x26)))))],[(0,.cells 3 (flatE s2.2.2))],[],1,88,[]⟩) (stle (tA Z) (hA Z) kZ Z (Nat.zero_le _) Z Z Z (bF Z bZ) Z Z)<|XQ.seq ?_
 refine XC.cond (b:=(decide (x28 < x26))) Z (fun c30=>?_) (fun c30=>?_)
 replace h2:=condT c30 h2
 refine XC.seq<|XC.region<|rM Z Z Z<|rM Z Z Z<|rM Z Z Z ?_
 refine bindK h2 (fun x31 hx31 h2=>?_)
 refine guardK h2 (fun g32 h2=>?_)
 refine rR Z Z Z (RO.indexO (α:=Int) sl_66 Z Z hx31 g32)<|rR Z Z Z (RO.loadOF (α:=Int) (m:=0) (f:=0) ag_3 Z Z hx31 Z) ?_
 refine bindK h2 (fun x33 hx33 h2=>?_)
 refine guardK h2 (fun g34 h2=>?_)
 refine rR Z Z Z (RO.indexO (α:=Int) sl_66 Z Z hx33 g34)<|XL.eff Z Z (OpOK.storeOE (α:=Int) (y':=.one (dI x31)) (v:=x31) ag_3 Z Z (.one (.d _)) Z Z hx33 Z)<|XL.nil<|XQ.seq<|XC.region<|rA Z Z Z<|XL.nil<|XQ.inBlock<|XQ.seq<|XC.region<|rM Z Z Z<|rR Z Z Z (RO.binInt Z Z Z)<|rA Z Z Z<|XL.nil ?_
 have e:=sI h2;subst e
 refine XQ.nextM (true,(w64 (s2.2.1+1)),(s2.2.2.set s2.2.1.toNat x31)) (stle (tA Z) (hA Z) kZ Z (Nat.zero_le _) Z Z Z (bF Z bZ) Z Z) ho2
 replace h2:=condF c30 h2
 refine XC.skip<|XQ.inBlock<|XQ.seq<|XC.region<|rM Z Z Z<|rR Z Z Z (RO.binInt Z Z Z)<|rA Z Z Z<|XL.nil ?_
 have e:=sI h2;subst e
 refine XQ.nextM (s2.1,(w64 (s2.2.1+1)),s2.2.2) (stle (tA Z) (hA Z) kZ Z (Nat.zero_le _) Z Z Z (bF Z bZ) Z Z) ho2
 replace h2:=condF c25 h2
 refine XC.exit<|XQ.thenE<|XQ.thenE ?_
 have e:=sI h2;subst e
 have e_:_=_:=ho2
 subst e_
 exact XQ.joinX (s2.1,s2.2.2) (stle (tA Z) (hA Z) kZ Z (Nat.zero_le _) Z Z Z (bF Z bZ) Z Z) h1
 intro o23 h1
 refine XQ.blockX<|XQ.seq<|XC.seq<|XC.region<|rM Z Z Z<|rR Z Z Z (RO.not Z)<|XL.nil<|XQ.seq ?_
 refine XC.cond (b:=(!o23.1)) Z (fun c35=>?_) (fun c35=>?_)
 replace h1:=condT c35 h1
 refine XC.seq<|XC.region<|rA Z Z Z<|XL.nil<|XQ.seq<|XC.ret ?_
 have e:=sI h1;subst e
 have e_:_=_:=ho1
 subst e_
 try dsimp only [Sum.elim_inl,Sum.elim_inr] at h0
 have e:=sI h0;subst e
 exact XQ.retF (fun _ _ h=>h) Z (RAs.tmp Z .nil) (.cons (.one (.d _)) .nil)
 replace h1:=condF c35 h1
 refine XC.skip<|XQ.inBlock<|XQ.seq<|XC.region<|rM Z Z Z<|rR Z Z Z (RO.binInt Z Z Z)<|rA Z Z Z<|XL.nil ?_
 have e:=sI h1;subst e
 refine XQ.nextM ((w64 (s1.1+1)),o23.2) (stle (tA Z) (hA Z) kZ Z (Nat.zero_le _) Z Z Z (bF Z bZ) Z Z) ho1
 replace h1:=condF c4 h1
 refine XC.exit<|XQ.thenE<|XQ.thenE ?_
 have e:=sI h1;subst e
 have e_:_=_:=ho1
 subst e_
 exact XQ.joinX s1.2 (stle tZ (hA Z) kZ Z (Nat.zero_le _) Z Z Z (bF Z bZ) Z Z) h0
 intro o2 h0
 refine XQ.blockX<|XQ.seq<|XC.seq<|XC.region<|rA Z Z Z<|XL.nil<|XQ.seq<|XC.ret ?_
 have e:=sI h0;subst e
 exact XQ.retF (fun _ _ h=>h) Z (RAs.tmp Z .nil) (.cons (.one (.d _)) .nil)
def m45_l0 (s2:(List Int)×Int×(List LV)) (x12:LV) (s3:Int):Option (LO Int Int) :=
 Option.bind (cond (decide (s3 < (s2.1.length:Int)))
   (Option.bind (idx s2.1 s3) fun (x16:Int) =>
 some (x16 != x12.1))
   (some false)) (fun (v14:Bool)=>cond v14
   (some (.next (w64 (s3+1))))
   (some (.done s3)))
def m45_l1 (a0:List Lvl) (s1:(List Int)×Int×(List Lvl)) (s2:(List Int)×Int×(List LV)):Option (LO ((List Int)×Int×(List LV)) (((List Int)×(List LV)))) :=
 Option.bind (idx a0 s1.2.1) fun (x9:Lvl) =>
 cond (decide (s2.2.1 < (x9.vs.length:Int)))
   (Option.bind (idx a0 s1.2.1) fun (x11:Lvl) =>
 Option.bind (idx x11.vs s2.2.1) fun (x12:LV) =>
 Option.bind (loopN (m45_l0 s2 x12) FUEL 0) (fun (o13:Int)=>Option.bind (cond (o13==(s2.1.length:Int))
   (guardO (Nat.ble (s2.1.length+([x12.1]).length) 1000000000)
 (some (s2.1++([x12.1]))))
   (some s2.1)) (fun (v14:(List Int))=>guardO (cond (decide (0≤s1.2.1)) (Nat.blt s1.2.1.toNat ((a0.length:Int).toNat)) false)
 (guardO (Nat.beq s1.2.2.length s1.2.1.toNat)
 (guardO (Nat.ble (s2.2.2.length+([(o13,x12.2)]).length) 1000000000)
 (guardO (cond (decide (0≤s1.2.1)) (Nat.blt s1.2.1.toNat ((a0.length:Int).toNat)) false)
 (guardO (Nat.beq s1.2.2.length s1.2.1.toNat)
 (some (.next (v14,(w64 (s2.2.1+1)),(s2.2.2++([(o13,x12.2)]))))))))))))
   (some (.done (s2.1,s2.2.2)))
def m45_l2 (a0:List Lvl) (s1:(List Int)×Int×(List Lvl)):Option (LO ((List Int)×Int×(List Lvl)) (((List Int)×(List Lvl)))) :=
 cond (decide (s1.2.1 < (a0.length:Int)))
   (Option.bind (idx a0 s1.2.1) fun (x4:Lvl) =>
 guardO (cond (decide (0≤s1.2.1)) (Nat.blt s1.2.1.toNat ((a0.length:Int).toNat)) false)
 (guardO (Nat.beq s1.2.2.length s1.2.1.toNat)
 (guardO (Nat.blt s1.2.2.length ((a0.length:Int).toNat))
 (Option.bind (loopN (m45_l1 a0 s1) FUEL (s1.1,0,([]:List LV))) (fun (o8:(List Int)×(List LV))=>some (.next (o8.1,(w64 (s1.2.1+1)),(s1.2.2++[(⟨x4.c,o8.2⟩:Lvl)]))))))))
   (some (.done (s1.1,s1.2.2)))
noncomputable abbrev m45_h0 (p0_:(List Int)×Int×(List Lvl)) (p1_:Lvl) (p2_:(List Int)×Int×(List LV)) (p3_:List Lvl):HB :=
 .cells 39 (cpA p0_.2.2 p1_.c 2 p2_.2.2 ((p3_.length:Int).toNat))
noncomputable abbrev m45_h1 (p0_:(List Int)×Int×(List Lvl)) (p1_:Lvl) (p2_:(List Int)×Int×(List LV)) (p3_:Int) (p4_:LV) (p5_:List Lvl):HB :=
 .cells 39 (cpA p0_.2.2 p1_.c 2 (p2_.2.2++([(p3_,p4_.2)])) ((p5_.length:Int).toNat))
def m45 (a0:List Lvl):Option ((List Lvl)×Int) :=
 guardO (cond (decide (0≤(a0.length:Int))) (Nat.ble (a0.length:Int).toNat 1000) false)
 (Option.bind (loopN (m45_l2 a0) FUEL (([]:List Int),0,([]:List Lvl))) (fun (o2:(List Int)×(List Lvl))=>guardO (Nat.beq o2.2.length ((a0.length:Int).toNat))
 (some (o2.2,(o2.1.length:Int)))))
theorem m45_ok (a0:List Lvl) (r:(List Lvl)×Int) (h0:m45 a0=some r):Fun Try.prog 45 [.one (dS a0)] (resOf [.one (dS r.1),.one (dI r.2)]):=by
 unfold m45 at h0
 refine Fun.of_bodyM 9 88 Try.func45 Z en_45 Z (lb Z) (fun S w=>?_)
 simp only [entry]
 refine XC.seq<|XC.region<|rA Z Z Z<|rA Z Z Z<|XL.nil<|XQ.seq<|XC.seq<|XC.region<|rA Z Z Z<|XL.nil<|XQ.seq<|XC.seq<|XC.region<|rM Z Z Z ?_
 refine rR Z Z Z (RO.lenE (α:=Lvl) sl_31 Z (.d _)) ?_
 refine guardK h0 (fun g1 h0=>?_)
 refine XL.put Z Z (lb Z) (OpOK.makeCp sl_31 z_39 el_39 Z Z Z g1)<|rA Z Z Z<|XL.nil<|XQ.seq<|XC.seq<|XC.seq<|XC.region<|rA Z Z Z<|XL.nil<|XQ.seq<|XC.block ?_
 refine XC.joinX 0 (fun (o2:(List Int)×(List Lvl))=>⟨[(4,.v (.one (dA 1 o2.1))),(5,.v (.one (.osl 0 0 ((a0.length:Int).toNat) ((a0.length:Int).toNat))))],[(0,.cells 39 (cpC o2.2 ((a0.length:Int).toNat)))],[(1,some ⟨3,1,(Enc.encL o2.1).length,[]⟩)],2,88,[]⟩) (fun (o2:(List Int)×(List Lvl))=>(guardO (Nat.beq o2.2.length ((a0.length:Int).toNat))
   (some (o2.2,(o2.1.length:Int))))=some r) ?_ ?_
 refine XC.adoptT (t:=4) 3 1 Z ?_
 refine bindK h0 (fun o3 hl1 h0=>?_)
 refine XC.loopM (m45_l2 a0) (fun s1=>⟨[(0,.v (.one (dS a0))),(4,.v (.one (dA 1 s1.1))),(5,.v (.one (.osl 0 0 ((a0.length:Int).toNat) ((a0.length:Int).toNat)))),(6,.v (.one (dI s1.2.1)))],[(0,.cells 39 (cpC s1.2.2 ((a0.length:Int).toNat)))],[(1,some ⟨3,1,(Enc.encL s1.1).length,[]⟩)],2,88,[]⟩) (([]:List Int),0,([]:List Lvl)) o3 (stle (tA Z) (hA Z) (kA Z) Z (Nat.zero_le _) Z Z Z (bCp Z bZ) Z Z) hl1 (fun s1 n1 oo1 h1 ho1=>?_)
 unfold m45_l2 at h1
 refine XC.seq<|XC.seq<|XC.region<|rM Z Z Z<|rM Z Z Z<|rR Z Z Z (RO.lenE (α:=Lvl) sl_31 Z (.d _))<|rR Z Z Z (RO.binInt Z Z Z)<|XL.nil<|XQ.seq ?_
 refine XC.cond (b:=(decide (s1.2.1 < (a0.length:Int)))) Z (fun c4=>?_) (fun c4=>?_)
 replace h1:=condT c4 h1
 refine XC.skip<|XQ.seq<|XC.seq<|XC.block<|XC.seq<|XC.region<|rM Z Z Z<|rM Z Z Z<|rM Z Z Z<|rM Z Z Z ?_
 refine bindK h1 (fun x5 hx5 h1=>?_)
 refine rR Z Z Z (RO.indexE (α:=Lvl) sl_31 Z (.d _) Z hx5)<|rR Z Z Z (RO.fieldPel fo_39_0 Z)<|rR Z Z Z (RO.loadPel ag_3 Z Z) ?_
 refine guardK h1 (fun g6 h1=>?_)
 refine rR Z Z Z (RO.indexCp sl_31 Z Z g6)<|rR Z Z Z (RO.fieldOwn fo_39_0 Z) ?_
 refine guardK h1 (fun g7 h1=>?_)
 refine guardK h1 (fun g8 h1=>?_)
 refine XL.eff Z Z (OpOK.storeCp 59 ag_3 Z Z Z g7 g8 Z)<|XL.nil<|XQ.seq<|XC.seq<|XC.region<|rA Z Z Z<|XL.nil<|XQ.seq<|XC.block ?_
 refine XC.joinX 2 (fun (o9:(List Int)×(List LV))=>⟨[(0,.v (.one (dS a0))),(4,.v (.one (dA 1 o9.1))),(5,.v (.one (.osl 0 0 ((a0.length:Int).toNat) ((a0.length:Int).toNat)))),(6,.v (.one (dI s1.2.1)))],[(0,.cells 39 (cpA s1.2.2 x5.c 2 o9.2 ((a0.length:Int).toNat)))],[(1,some ⟨3,1,(Enc.encL o9.1).length,[]⟩),(2,some ⟨59,2,(Enc.encL o9.2).length,[]⟩)],3,88,[]⟩) (fun (o9:(List Int)×(List LV))=>(some (.next (o9.1,(w64 (s1.2.1+1)),(s1.2.2++[(⟨x5.c,o9.2⟩:Lvl)]))))=some oo1) ?_ ?_
 refine bindK h1 (fun o10 hl2 h1=>?_)
 refine XC.loopM (m45_l1 a0 s1) (fun s2=>⟨[(0,.v (.one (dS a0))),(4,.v (.one (dA 1 s2.1))),(5,.v (.one (.osl 0 0 ((a0.length:Int).toNat) ((a0.length:Int).toNat)))),(6,.v (.one (dI s1.2.1))),(7,.v (.one (dI s2.2.1)))],[(0,.cells 39 (cpA s1.2.2 x5.c 2 s2.2.2 ((a0.length:Int).toNat)))],[(1,some ⟨3,1,(Enc.encL s2.1).length,[]⟩),(2,some ⟨59,2,(Enc.encL s2.2.2).length,[]⟩)],3,88,[]⟩) (s1.1,0,([]:List LV)) o10 (stle (tA Z) (hA Z) (kA Z) Z (Nat.zero_le _) Z Z Z (bCa Z Z bZ) Z Z) hl2 (fun s2 n2 oo2 h2 ho2=>?_)
 unfold m45_l1 at h2
 refine XC.seq<|XC.seq<|XC.region<|rM Z Z Z<|rM Z Z Z<|rM Z Z Z ?_
 refine bindK h2 (fun x11 hx11 h2=>?_)
 refine rR Z Z Z (RO.indexE (α:=Lvl) sl_31 Z (.d _) Z hx11)<|rR Z Z Z (RO.fieldPel fo_39_1 Z)<|rR Z Z Z (RO.loadPel ag_37 Z Z)<|rR Z Z Z (RO.lenE (α:=LV) sl_37 Z (.d _))<|rR Z Z Z (RO.binInt Z Z Z)<|XL.nil<|XQ.seq ?_
 refine XC.cond (b:=(decide (s2.2.1 < (x11.vs.length:Int)))) Z (fun c12=>?_) (fun c12=>?_)
 replace h2:=condT c12 h2
 refine XC.skip<|XQ.seq<|XC.seq<|XC.block<|XC.seq<|XC.region<|rM Z Z Z<|rM Z Z Z ?_
 refine bindK h2 (fun x13 hx13 h2=>?_)
 refine rR Z Z Z (RO.indexE (α:=Lvl) sl_31 Z (.d _) Z hx13)<|rR Z Z Z (RO.fieldPel fo_39_1 Z)<|rR Z Z Z (RO.loadPel ag_37 Z Z)<|rM Z Z Z ?_
 refine bindK h2 (fun x14 hx14 h2=>?_)
 refine rR Z Z Z (RO.indexE (α:=LV) sl_37 Z (.d _) Z hx14)<|rR Z Z Z (RO.loadPelCE (x14:LV) ag_59 Z)<|XL.put Z Z (lb Z) (OpOK.alloc z_59 Z)<|XL.eff Z Z (OpOK.storeCE (x14:LV) ag_59 Z Z Z Z Z)<|XL.nil<|XQ.seq<|XC.seq<|XC.region<|rA Z Z Z<|XL.nil<|XQ.seq<|XC.seq<|XC.block ?_
 refine XC.joinX 4 (fun (o15:Int)=>⟨[(0,.v (.one (dS a0))),(4,.v (.one (dA 1 s2.1))),(5,.v (.one (.osl 0 0 ((a0.length:Int).toNat) ((a0.length:Int).toNat)))),(6,.v (.one (dI s1.2.1))),(7,.v (.one (dI s2.2.1))),(8,.v (.one (.ptr 3 0))),(9,.v (.one (dI o15)))],[(0,m45_h0 s1 x5 s2 a0),(3,.cells 59 (cE x14))],[(1,some ⟨3,1,(Enc.encL s2.1).length,[]⟩),(2,some ⟨59,2,(Enc.encL s2.2.2).length,[]⟩)],4,88,[]⟩) (fun (o15:Int)=>(Option.bind (cond (o15==(s2.1.length:Int))
     (guardO (Nat.ble (s2.1.length+([x14.1]).length) 1000000000)
   (some (s2.1++([x14.1]))))
     (some s2.1)) (fun (v16:(List Int))=>guardO (cond (decide (0≤s1.2.1)) (Nat.blt s1.2.1.toNat ((a0.length:Int).toNat)) false)
   (guardO (Nat.beq s1.2.2.length s1.2.1.toNat)
   (guardO (Nat.ble (s2.2.2.length+([(o15,x14.2)]).length) 1000000000)
   (guardO (cond (decide (0≤s1.2.1)) (Nat.blt s1.2.1.toNat ((a0.length:Int).toNat)) false)
   (guardO (Nat.beq s1.2.2.length s1.2.1.toNat)
   (some (.next (v16,(w64 (s2.2.1+1)),(s2.2.2++([(o15,x14.2)])))))))))))=some oo2) ?_ ?_
 refine bindK h2 (fun o16 hl3 h2=>?_)
 refine XC.loopM (m45_l0 s2 x14) (fun s3=>⟨[(0,.v (.one (dS a0))),(4,.v (.one (dA 1 s2.1))),(5,.v (.one (.osl 0 0 ((a0.length:Int).toNat) ((a0.length:Int).toNat)))),(6,.v (.one (dI s1.2.1))),(7,.v (.one (dI s2.2.1))),(8,.v (.one (.ptr 3 0))),(9,.v (.one (dI s3)))],[(0,m45_h0 s1 x5 s2 a0),(3,.cells 59 (cE x14))],[(1,some ⟨3,1,(Enc.encL s2.1).length,[]⟩),(2,some ⟨59,2,(Enc.encL s2.2.2).length,[]⟩)],4,88,[]⟩) 0 o16 (stle (tA Z) (hA Z) (kA Z) Z (Nat.zero_le _) Z Z Z (bCa Z Z (bA Z)) Z Z) hl3 (fun s3 n3 oo3 h3 ho3=>?_)
 unfold m45_l0 at h3
 refine XC.seq<|XC.seq ?_
 refine XC.joinR (fun (v17:Bool)=>⟨[(0,.v (.one (dS a0))),(4,.v (.one (dA 1 s2.1))),(5,.v (.one (.osl 0 0 ((a0.length:Int).toNat) ((a0.length:Int).toNat)))),(6,.v (.one (dI s1.2.1))),(7,.v (.one (dI s2.2.1))),(8,.v (.one (.ptr 3 0))),(9,.v (.one (dI s3))),(58,.v (.one (dB v17)))],[(0,m45_h0 s1 x5 s2 a0),(3,.cells 59 (cE x14))],[(1,some ⟨3,1,(Enc.encL s2.1).length,[]⟩),(2,some ⟨59,2,(Enc.encL s2.2.2).length,[]⟩)],4,88,[]⟩) (fun (v17:Bool)=>(cond v17
     (some (.next (w64 (s3+1))))
     (some (.done s3)))=some oo3) ?_ ?_
 refine bindK h3 (fun w4_ h4 h3=>?_)
 refine XC.anyRun [] [] mixed (by kernel_rfl) (by kernel_rfl) (by kernel_rfl) ?_
 refine RunA.rd Z Z Z (OpOK.of_ro (RO.move Z)) Z<|RunA.rd Z Z Z (OpOK.of_ro (RO.move Z)) Z<|RunA.rd Z Z Z (OpOK.of_ro (RO.lenE (α:=Int) sl_66 Z (.app _ _))) Z<|RunA.rd Z Z Z (OpOK.of_ro (RO.binInt Z Z Z)) Z ?_
 refine RunA.case (c:=(decide (s3 < (s2.1.length:Int)))) Z Z Z (OpOK.of_ro (RO.move Z)) Z (fun c18=>?_) (fun c18=>?_)
 replace h4:=condT c18 h4
 refine RunA.rd Z Z Z (OpOK.of_ro (RO.move Z)) Z<|RunA.rd Z Z Z (OpOK.of_ro (RO.move Z)) Z ?_
 refine bindK h4 (fun x19 hx19 h4=>?_)
 refine RunA.rd Z Z Z (OpOK.of_ro (RO.indexE (α:=Int) sl_66 Z (.app _ _) Z hx19)) Z<|RunA.rd Z Z Z (OpOK.of_ro (RO.loadPel ag_3 Z Z)) Z<|RunA.rd Z Z Z (OpOK.of_ro (RO.fieldOwn fo_59_0 Z)) Z<|RunA.rd Z Z Z (OpOK.of_ro (RO.loadOwn ag_3 Z Z Z)) Z<|RunA.rd Z Z Z (OpOK.of_ro (RO.binInt Z Z Z)) Z<|RunA.rd Z Z Z (OpOK.of_ro (RO.pickT Z Z)) Z ?_
 refine RunA.nil ⟨?ex,_,_,Z,?_⟩
 case ex=>exact trivial
 have e:=sI h4;subst e
 exact XQ.joinR (x19 != x14.1) (stle (tA Z) (hA Z) (kA Z) Z (Nat.zero_le _) Z Z Z (bCa Z Z (bA Z)) Z Z) h3
 replace h4:=condF c18 h4
 refine RunA.no Z Z Z Z<|RunA.no Z Z Z Z<|RunA.no Z Z Z Z<|RunA.no Z Z Z Z<|RunA.no Z Z Z Z<|RunA.no Z Z Z Z<|RunA.no Z Z Z Z<|RunA.rd Z Z Z (OpOK.of_ro (RO.pickF Z Z)) Z ?_
 refine RunA.nil ⟨?ex,_,_,Z,?_⟩
 case ex=>exact trivial
 have e:=sI h4;subst e
 exact XQ.joinR false (stle (tA Z) (hA Z) (kA Z) Z (Nat.zero_le _) Z Z Z (bCa Z Z (bA Z)) Z Z) h3
 intro v17 h3
 refine XQ.seq ?_
 refine XC.cond (b:=v17) Z (fun c20=>?_) (fun c20=>?_)
 replace h3:=condT c20 h3
 refine XC.skip<|XQ.seq<|XC.block<|XC.region<|rM Z Z Z<|rR Z Z Z (RO.binInt Z Z Z)<|rA Z Z Z<|XL.nil<|XQ.inBlock ?_
 have e:=sI h3;subst e
 refine XQ.nextM (w64 (s3+1)) (stle (tA Z) (hA Z) (kA Z) Z (Nat.zero_le _) Z Z Z (bCa Z Z (bA Z)) Z Z) ho3
 replace h3:=condF c20 h3
 refine XC.exit<|XQ.thenE<|XQ.thenE ?_
 have e:=sI h3;subst e
 have e_:_=_:=ho3
 subst e_
 exact XQ.joinX s3 (stle (tA Z) (hA Z) (kA Z) Z (Nat.zero_le _) Z Z Z (bCa Z Z (bA Z)) Z Z) h2
 intro o15 h2
 refine XQ.blockX<|XQ.seq<|XC.seq<|XC.seq<|XC.region<|rM Z Z Z<|rM Z Z Z<|rR Z Z Z (RO.lenE (α:=Int) sl_66 Z (.app _ _))<|rR Z Z Z (RO.binInt Z Z Z)<|XL.nil<|XQ.seq ?_
 refine XC.joinR (fun (v21:(List Int))=>⟨[(0,.v (.one (dS a0))),(4,.v (.one (dA 1 v21))),(5,.v (.one (.osl 0 0 ((a0.length:Int).toNat) ((a0.length:Int).toNat)))),(6,.v (.one (dI s1.2.1))),(7,.v (.one (dI s2.2.1))),(8,.v (.one (.ptr 3 0))),(9,.v (.one (dI o15)))],[(0,m45_h0 s1 x5 s2 a0),(3,.cells 59 (cE x14))],[(1,some ⟨3,1,(Enc.encL v21).length,[]⟩),(2,some ⟨59,2,(Enc.encL s2.2.2).length,[]⟩)],4,88,[]⟩) (fun (v21:(List Int))=>(guardO (cond (decide (0≤s1.2.1)) (Nat.blt s1.2.1.toNat ((a0.length:Int).toNat)) false)
   (guardO (Nat.beq s1.2.2.length s1.2.1.toNat)
   (guardO (Nat.ble (s2.2.2.length+([(o15,x14.2)]).length) 1000000000)
   (guardO (cond (decide (0≤s1.2.1)) (Nat.blt s1.2.1.toNat ((a0.length:Int).toNat)) false)
   (guardO (Nat.beq s1.2.2.length s1.2.1.toNat)
   (some (.next (v21,(w64 (s2.2.1+1)),(s2.2.2++([(o15,x14.2)]))))))))))=some oo2) ?_ ?_
 refine bindK h2 (fun w3_ h3 h2=>?_)
 refine XC.cond (b:=(o15==(s2.1.length:Int))) Z (fun c22=>?_) (fun c22=>?_)
 replace h3:=condT c22 h3
 refine XC.region<|rM Z Z Z<|rR Z Z Z (RO.fieldOwn fo_59_0 Z)<|rR Z Z Z (RO.loadOwn ag_3 Z Z Z)<|XL.put Z Z (lb Z) (OpOK.lit1E (α:=Int) (x14.1) sl_66 z_3 Z Z (lb Z) (lb Z) Z Z (.cons (.d _) .nil) Z) ?_
 refine guardK h3 (fun g23 h3=>?_)
 refine XL.put Z Z (lb Z) (OpOK.appendE (α:=Int) sl_66 el_3 Z Z Z Z Z (.app _ _) g23)<|rA Z Z Z<|XL.nil ?_
 have e:=sI h3;subst e
 exact XQ.joinR (s2.1++([x14.1])) (stle (tA Z) (hA Z) (kA Z) Z (Nat.zero_le _) Z Z Z (bCa Z Z (bA Z)) Z Z) h2
 replace h3:=condF c22 h3
 refine XC.skip ?_
 have e:=sI h3;subst e
 exact XQ.joinR s2.1 (stle (tA Z) (hA Z) (kA Z) Z (Nat.zero_le _) Z Z Z (bCa Z Z (bA Z)) Z Z) h2
 intro v21 h2
 refine XQ.seq ?_
 refine XC.anyRun [12,15] [(0,1),(1,1)] mixed (by kernel_rfl) (by kernel_rfl) (by kernel_rfl) ?_
 refine RunA.rd Z Z Z (OpOK.of_ro (RO.move Z)) Z<|RunA.rd Z Z Z (OpOK.of_ro (RO.move Z)) Z<|RunA.rd Z Z Z (OpOK.of_ro (RO.move Z)) Z<|RunA.rd Z Z Z (OpOK.of_ro (RO.move Z)) Z ?_
 refine guardK h2 (fun g24 h2=>?_)
 refine RunA.rd Z Z Z (OpOK.of_ro (RO.indexCp sl_31 Z Z g24)) Z<|RunA.rd Z Z Z (OpOK.of_ro (RO.fieldOwn fo_39_1 Z)) Z ?_
 refine guardK h2 (fun g25 h2=>?_)
 refine RunA.rd Z Z Z (OpOK.of_ro (RO.loadCa ag_37 Z Z g25)) Z<|RunA.rd Z Z Z (OpOK.of_ro (RO.move Z)) Z<|RunA.rd Z Z Z (OpOK.of_ro (RO.fieldOwn fo_59_1 Z)) Z<|RunA.rd Z Z Z (OpOK.of_ro (RO.loadOwn ag_3 Z Z Z)) Z<|RunA.rd Z Z Z (OpOK.of_ro (RO.build2 bd_59 Z Z Z Z)) Z<|RunA.rd Z Z Z (OpOK.data1E (α:=LV) ((o15,x14.2)) sl_37 z_59 Z Z (lb Z) Z Z (.cons (.d _) (.cons (.d _) .nil)) Z) Z ?_
 refine guardK h2 (fun g26 h2=>?_)
 refine RunA.eff Z Z Z (OpOK.appendE (α:=LV) sl_37 el_59 Z Z Z Z Z (.d _) g26) Z ?_
 refine guardK h2 (fun g27 h2=>?_)
 refine RunA.rd Z Z Z (OpOK.of_ro (RO.indexCp sl_31 Z Z g27)) Z<|RunA.rd Z Z Z (OpOK.of_ro (RO.fieldOwn fo_39_1 Z)) Z ?_
 refine guardK h2 (fun g28 h2=>?_)
 refine RunA.eff Z Z Z (OpOK.storeCa ag_37 Z Z Z g28 Z) Z ?_
 refine RunA.nil ⟨?ex,_,_,Z,?_⟩
 case ex=>exact ⟨⟨_,rfl,_,_,rfl,rfl,rfl,.inl ⟨rfl,_,OpOK.of_ro (RO.move rfl),rfl⟩⟩,⟨_,rfl,_,_,rfl,rfl,rfl,.inl ⟨rfl,_,OpOK.of_ro (RO.move rfl),rfl⟩⟩,trivial⟩
 refine XQ.less (st':=⟨[(0,.v (.one (dS a0))),(4,.v (.one (dA 1 v21))),(5,.v (.one (.osl 0 0 ((a0.length:Int).toNat) ((a0.length:Int).toNat)))),(6,.v (.one (dI s1.2.1))),(7,.v (.one (dI s2.2.1)))],[(0,m45_h1 s1 x5 s2 o15 x14 a0),(3,.cells 59 (cE x14))],[(1,some ⟨3,1,(Enc.encL v21).length,[]⟩),(2,some ⟨59,2,(Enc.encL ((s2.2.2++([(o15,x14.2)])):List LV)).length,[]⟩)],4,88,[]⟩) (stle (tA Z) (hA Z) (kA Z) Z (Nat.zero_le _) Z Z Z (bCa Z Z (bA Z)) Z Z)<|XQ.inBlock<|XQ.seq<|XC.region<|rM Z Z Z<|rR Z Z Z (RO.binInt Z Z Z)<|rA Z Z Z<|XL.nil ?_
 have e:=sI h2;subst e
 refine XQ.nextM (v21,(w64 (s2.2.1+1)),(s2.2.2++([(o15,x14.2)]))) (stle (tA Z) (hA Z) (kA Z) Z (Nat.zero_le _) Z Z Z (bCa Z Z bZ) Z Z) ho2
 replace h2:=condF c12 h2
 refine XC.exit<|XQ.thenE<|XQ.thenE ?_
 have e:=sI h2;subst e
 have e_:_=_:=ho2
 subst e_
 exact XQ.joinX (s2.1,s2.2.2) (stle (tA Z) (hA Z) (kA Z) Z (Nat.zero_le _) Z Z Z (bCa Z Z bZ) Z Z) h1
 intro o9 h1
 refine XQ.blockX<|XQ.inBlock<|XQ.seq<|XC.region<|rM Z Z Z<|rR Z Z Z (RO.binInt Z Z Z)<|rA Z Z Z<|XL.nil<|XQ.caDone (i:=0) (tk':=[(1,some ⟨3,1,(Enc.encL o9.1).length,[]⟩)]) Z (kA Z) ?_
 have e:=sI h1;subst e
 refine XQ.nextM (o9.1,(w64 (s1.2.1+1)),(s1.2.2++[(⟨x5.c,o9.2⟩:Lvl)])) (stle (tA Z) (hA Z) (kA Z) Z (Nat.zero_le _) Z Z Z (bCp Z bZ) Z Z) ho1
 replace h1:=condF c4 h1
 refine XC.exit<|XQ.thenE<|XQ.thenE ?_
 have e:=sI h1;subst e
 have e_:_=_:=ho1
 subst e_
 exact XQ.joinX (s1.1,s1.2.2) (stle (tA Z) (hA Z) (kA Z) Z (Nat.zero_le _) Z Z Z (bCp Z bZ) Z Z) h0
 intro o2 h0
 refine XQ.blockX<|XQ.seq<|XC.seq<|XC.region<|rM Z Z Z<|rM Z Z Z<|rR Z Z Z (RO.lenE (α:=Int) sl_66 Z (.app _ _))<|rA Z Z Z<|rA Z Z Z<|XL.nil<|XQ.seq<|XC.ret ?_
 refine guardK h0 (fun g29 h0=>?_)
 have e:=sI h0;subst e
 refine XQ.cpFlat (i:=0) Z g29<|XQ.freezeT (α:=Lvl) (t:=2) Z Z g29 ?_
 exact XQ.retF (fun _ _ h=>h) Z (RAs.tmp Z (RAs.tmp Z .nil)) (.cons (.one (.d _)) (.cons (.one (.d _)) .nil))
def m19_l0 (a0:List Bnd) (s1:(List Lvl)×Int):Option (LO ((List Lvl)×Int) (((List Lvl)))) :=
 cond (decide (s1.2 < (a0.length:Int)))
   (Option.bind (idx a0 s1.2) fun (x3:Bnd) =>
 Option.bind (idx a0 s1.2) fun (x4:Bnd) =>
 guardO (Nat.ble (s1.1.length+([x3.lo,x4.hi]).length) 1000000000)
 (some (.next ((s1.1++([x3.lo,x4.hi])),(w64 (s1.2+1))))))
   (some (.done s1.1))
def m19_l1 (o1:(List Lvl)) (a1:Bnd) (s1:Int):Option (LO Int (Unit⊕(Bool×Int))) :=
 cond (decide (s1 < ((o1++([a1.lo,a1.hi])).length:Int)))
   (Option.bind (idx (o1++([a1.lo,a1.hi])) s1) fun (x5:Lvl) =>
 Option.bind (m30 x5) fun (x6:Bool) =>
 cond (!x6)
   (some (.done (.inr (false,3))))
   (some (.next (w64 (s1+1)))))
   (some (.done (.inl ())))
def m19_l2 (o1:(List Lvl)) (a1:Bnd) (s1:Int):Option (LO Int (Unit⊕(Bool×Int))) :=
 cond (decide (s1 < ((o1++([a1.lo,a1.hi])).length:Int)))
   (Option.bind (idx (o1++([a1.lo,a1.hi])) s1) fun (x6:Lvl) =>
 Option.bind (m43 x6) fun (x7:Int×Int) =>
 cond (decide (0≤x7.1))
   (some (.done (.inr (false,23))))
   (some (.next (w64 (s1+1)))))
   (some (.done (.inl ())))
def m19_l3 (a0:List Bnd) (s1:Int):Option (LO Int (Unit⊕(Bool×Int))) :=
 cond (decide (s1 < (a0.length:Int)))
   (Option.bind (idx a0 s1) fun (x7:Bnd) =>
 Option.bind (m44 x7.hi) fun (x8:(List Lvl)) =>
 cond (decide (1 < (x8.length:Int)))
   (some (.done (.inr (false,1))))
   (some (.next (w64 (s1+1)))))
   (some (.done (.inl ())))
def m19_l4 (x10:(List Lvl)) (x6:(List Lvl)×Int) (s1:(List Edg)×Int) (s2:(List Edg)×Int):Option (LO ((List Edg)×Int) (((List Edg)))) :=
 cond (decide (s2.2 < (x10.length:Int)))
   (Option.bind (idx x10 s2.2) fun (x13:Lvl) =>
 Option.bind (idx x6.1 (w64 ((w64 (2 * s1.2))+1))) fun (x14:Lvl) =>
 Option.bind (m44 x14) fun (x15:(List Lvl)) =>
 Option.bind (idx x15 0) fun (x16:Lvl) =>
 Option.bind (m46 x13 x16 0) fun (x17:Edg) =>
 guardO (Nat.ble (s2.1.length+([x17]).length) 1000000000)
 (some (.next ((s2.1++([x17])),(w64 (s2.2+1))))))
   (some (.done s2.1))
def m19_l5 (a0:List Bnd) (x6:(List Lvl)×Int) (s1:(List Edg)×Int):Option (LO ((List Edg)×Int) (((List Edg)))) :=
 cond (decide (s1.2 < (a0.length:Int)))
   (Option.bind (idx x6.1 (w64 (2 * s1.2))) fun (x9:Lvl) =>
 Option.bind (m44 x9) fun (x10:(List Lvl)) =>
 Option.bind (loopN (m19_l4 x10 x6 s1) FUEL (s1.1,0)) (fun (o11:(List Edg))=>some (.next (o11,(w64 (s1.2+1))))))
   (some (.done s1.1))
def m19_l6 (x11:(List Lvl)) (x9:(List Lvl)) (s1:Int) (s2:(List Edg)×Int):Option (LO ((List Edg)×Int) (((List Edg)))) :=
 cond (decide (s2.2 < (x11.length:Int)))
   (Option.bind (idx x11 s2.2) fun (x17:Lvl) =>
 Option.bind (idx x9 s1) fun (x18:Lvl) =>
 Option.bind (m46 x17 x18 1) fun (x19:Edg) =>
 guardO (Nat.ble (s2.1.length+([x19]).length) 1000000000)
 (some (.next ((s2.1++([x19])),(w64 (s2.2+1))))))
   (some (.done s2.1))
def m19_l7 (x9:(List Lvl)) (o7:(List Edg)) (x11:(List Lvl)) (x6:(List Lvl)×Int) (s1:Int):Option (LO Int (Unit⊕(Bool×Int))) :=
 cond (decide (s1 < (x9.length:Int)))
   (guardO (Nat.ble (([]:List Edg).length+o7.length) 1000000000)
 (Option.bind (loopN (m19_l6 x11 x9 s1) FUEL ((([]:List Edg)++o7),0)) (fun (o15:(List Edg))=>Option.bind (m47 (w64 (x6.2+1)) o15) fun (x16:Bool) =>
 cond x16
   (some (.done (.inr (false,0))))
   (some (.next (w64 (s1+1)))))))
   (some (.done (.inl ())))
def m19 (a0:List Bnd) (a1:Bnd):Option (Bool×Int) :=
 Option.bind (loopN (m19_l0 a0) FUEL (([]:List Lvl),0)) (fun (o1:(List Lvl))=>guardO (Nat.ble (o1.length+([a1.lo,a1.hi]).length) 1000000000)
 (Option.bind (loopN (m19_l1 o1 a1) FUEL 0) (Sum.elim (fun (o3:Unit)=>Option.bind (loopN (m19_l2 o1 a1) FUEL 0) (Sum.elim (fun (o4:Unit)=>Option.bind (loopN (m19_l3 a0) FUEL 0) (Sum.elim (fun (o5:Unit)=>Option.bind (m45 (o1++([a1.lo,a1.hi]))) fun (x6:(List Lvl)×Int) =>
 Option.bind (loopN (m19_l5 a0 x6) FUEL (([]:List Edg),0)) (fun (o7:(List Edg))=>Option.bind (idx x6.1 (w64 ((x6.1.length:Int) - 2))) fun (x8:Lvl) =>
 Option.bind (m44 x8) fun (x9:(List Lvl)) =>
 Option.bind (idx x6.1 (w64 ((x6.1.length:Int) - 1))) fun (x10:Lvl) =>
 Option.bind (m44 x10) fun (x11:(List Lvl)) =>
 Option.bind (loopN (m19_l7 x9 o7 x11 x6) FUEL 0) (Sum.elim (fun (o12:Unit)=>some (true,0)) (fun o=>some o)))) (fun o=>some o))) (fun o=>some o))) (fun o=>some o))))
theorem m19_ok (a0:List Bnd) (a1:Bnd) (r:Bool×Int) (h0:m19 a0 a1=some r):Fun Try.prog 19 [.one (dS a0),.agg (cE a1)] (resOf [.one (dB r.1),.one (dI r.2)]):=by
 unfold m19 at h0
 refine Fun.of_bodyM 9 176 Try.func19 Z en_19 Z (lb Z) (fun S w=>?_)
 simp only [entry]
 refine XC.seq<|XC.region<|XL.put Z Z (lb Z) (OpOK.box Z)<|rA Z Z Z<|rA Z Z Z<|XL.nil<|XQ.seq<|XC.seq<|XC.region<|rA Z Z Z<|XL.nil<|XQ.seq<|XC.seq<|XC.seq ?_
 refine XC.region<|rA Z Z Z<|XL.nil<|XQ.seq<|XC.block ?_
 refine XC.joinX 0 (fun (o1:(List Lvl))=>⟨[(0,.v (.one (dS a0))),(3,.v (.one (.ptr 0 0))),(6,.v (.one (dA 1 o1)))],[(0,.cells 41 (cE a1))],[(1,some ⟨39,2,(Enc.encL o1).length,[]⟩)],2,176,[]⟩) (fun (o1:(List Lvl))=>(guardO (Nat.ble (o1.length+([a1.lo,a1.hi]).length) 1000000000)
   (Option.bind (loopN (m19_l1 o1 a1) FUEL 0) (Sum.elim (fun (o3:Unit)=>Option.bind (loopN (m19_l2 o1 a1) FUEL 0) (Sum.elim (fun (o4:Unit)=>Option.bind (loopN (m19_l3 a0) FUEL 0) (Sum.elim (fun (o5:Unit)=>Option.bind (m45 (o1++([a1.lo,a1.hi]))) fun (x6:(List Lvl)×Int) =>
   Option.bind (loopN (m19_l5 a0 x6) FUEL (([]:List Edg),0)) (fun (o7:(List Edg))=>Option.bind (idx x6.1 (w64 ((x6.1.length:Int) - 2))) fun (x8:Lvl) =>
   Option.bind (m44 x8) fun (x9:(List Lvl)) =>
   Option.bind (idx x6.1 (w64 ((x6.1.length:Int) - 1))) fun (x10:Lvl) =>
   Option.bind (m44 x10) fun (x11:(List Lvl)) =>
   Option.bind (loopN (m19_l7 x9 o7 x11 x6) FUEL 0) (Sum.elim (fun (o12:Unit)=>some (true,0)) (fun o=>some o)))) (fun o=>some o))) (fun o=>some o))) (fun o=>some o))))=some r) ?_ ?_
 refine XC.adoptT (t:=6) 39 2 Z ?_
 refine bindK h0 (fun o2 hl1 h0=>?_)
 refine XC.loopM (m19_l0 a0) (fun s1=>⟨[(0,.v (.one (dS a0))),(3,.v (.one (.ptr 0 0))),(6,.v (.one (dA 1 s1.1))),(7,.v (.one (dI s1.2)))],[(0,.cells 41 (cE a1))],[(1,some ⟨39,2,(Enc.encL s1.1).length,[]⟩)],2,176,[]⟩) (([]:List Lvl),0) o2 (sL (Nat.zero_le _) Z Z Z Z Z) hl1 (fun s1 n1 oo1 h1 ho1=>?_)
 unfold m19_l0 at h1
 refine XC.seq<|XC.seq<|XC.region<|rM Z Z Z<|rM Z Z Z<|rR Z Z Z (RO.lenE (α:=Bnd) sl_22 Z (.d _))<|rR Z Z Z (RO.binInt Z Z Z)<|XL.nil<|XQ.seq ?_
 refine XC.cond (b:=(decide (s1.2 < (a0.length:Int)))) Z (fun c3=>?_) (fun c3=>?_)
 replace h1:=condT c3 h1
 refine XC.skip<|XQ.seq<|XC.seq<|XC.block ?_
 refine XC.anyRun [12] [] mixed (by kernel_rfl) (by kernel_rfl) (by kernel_rfl) ?_
 refine RunA.rd Z Z Z (OpOK.of_ro (RO.move Z)) Z<|RunA.rd Z Z Z (OpOK.of_ro (RO.move Z)) Z<|RunA.rd Z Z Z (OpOK.of_ro (RO.move Z)) Z ?_
 refine bindK h1 (fun x4 hx4 h1=>?_)
 refine RunA.rd Z Z Z (OpOK.of_ro (RO.indexE (α:=Bnd) sl_22 Z (.d _) Z hx4)) Z<|RunA.rd Z Z Z (OpOK.of_ro (RO.fieldPel fo_41_0 Z)) Z<|RunA.rd Z Z Z (OpOK.of_ro (RO.loadPelAgg ag_39 Z Z Z)) Z<|RunA.rd Z Z Z (OpOK.of_ro (RO.move Z)) Z<|RunA.rd Z Z Z (OpOK.of_ro (RO.move Z)) Z ?_
 refine bindK h1 (fun x5 hx5 h1=>?_)
 refine RunA.rd Z Z Z (OpOK.of_ro (RO.indexE (α:=Bnd) sl_22 Z (.d _) Z hx5)) Z<|RunA.rd Z Z Z (OpOK.of_ro (RO.fieldPel fo_41_1 Z)) Z<|RunA.rd Z Z Z (OpOK.of_ro (RO.loadPelAgg ag_39 Z Z Z)) Z<|RunA.rd Z Z Z (OpOK.data2E (α:=Lvl) x4.lo x5.hi sl_31 z_39 Z Z (lb Z) Z Z Z (.cons (.d _) (.cons (.d _) (.cons (.d _) (.cons (.d _) .nil)))) ⟨Z,Z⟩) Z ?_
 refine guardK h1 (fun g6 h1=>?_)
 refine RunA.eff Z Z Z (OpOK.appendE (α:=Lvl) sl_31 el_39 Z Z Z Z Z (.d _) g6) Z<|RunA.rd Z Z Z (OpOK.of_ro (RO.assign Z)) Z ?_
 refine RunA.nil ⟨?ex,_,_,Z,?_⟩
 case ex=>exact trivial
 refine XQ.less (st':=⟨[(0,.v (.one (dS a0))),(3,.v (.one (.ptr 0 0))),(6,.v (.one (dA 1 ((s1.1++([x4.lo,x5.hi])):List Lvl)))),(7,.v (.one (dI s1.2)))],[(0,.cells 41 (cE a1))],[(1,some ⟨39,2,(Enc.encL ((s1.1++([x4.lo,x5.hi])):List Lvl)).length,[]⟩)],2,176,[]⟩) (sL (Nat.zero_le _) Z Z Z Z Z)<|XQ.inBlock<|XQ.seq<|XC.region<|rM Z Z Z<|rR Z Z Z (RO.binInt Z Z Z)<|rA Z Z Z<|XL.nil ?_
 have e:=sI h1;subst e
 refine XQ.nextM ((s1.1++([x4.lo,x5.hi])),(w64 (s1.2+1))) (sL (Nat.zero_le _) Z Z Z Z Z) ho1
 replace h1:=condF c3 h1
 refine XC.exit<|XQ.thenE<|XQ.thenE ?_
 have e:=sI h1;subst e
 have e_:_=_:=ho1
 subst e_
 exact XQ.joinX s1.1 (sL (Nat.zero_le _) Z Z Z Z Z) h0
 intro o1 h0
 refine XQ.blockX<|XQ.seq<|XC.seq<|XC.region<|rM Z Z Z<|rR Z Z Z (RO.fieldOwn fo_41_0 Z)<|rR Z Z Z (RO.loadOwnAgg ag_39 Z Z Z Z)<|rR Z Z Z (RO.fieldOwn fo_41_1 Z)<|rR Z Z Z (RO.loadOwnAgg ag_39 Z Z Z Z)<|XL.put Z Z (lb Z) (OpOK.lit2E (α:=Lvl) a1.lo a1.hi sl_31 z_39 Z Z (lb Z) (lb Z) Z Z Z (.cons (.d _) (.cons (.d _) (.cons (.d _) (.cons (.d _) .nil)))) ⟨Z,Z⟩) ?_
 refine guardK h0 (fun g7 h0=>?_)
 refine XL.put Z Z (lb Z) (OpOK.appendE (α:=Lvl) sl_31 el_39 Z Z Z Z Z (.app _ _) g7)<|rA Z Z Z<|XL.nil<|XQ.seq<|XC.seq<|XC.seq<|XC.region<|rA Z Z Z<|XL.nil<|XQ.seq<|XC.block ?_
 refine XC.joinX 2 (fun (o8:Unit)=>⟨[(0,.v (.one (dS a0))),(6,.v (.one (dA 1 ((o1++([a1.lo,a1.hi])):List Lvl))))],[(0,.cells 41 (cE a1))],[(1,some ⟨39,2,(Enc.encL ((o1++([a1.lo,a1.hi])):List Lvl)).length,[]⟩),(2,some ⟨39,2,(Enc.encL ([a1.lo,a1.hi]:List Lvl)).length,[]⟩)],3,176,[]⟩) (fun (o8:Unit)=>(Option.bind (loopN (m19_l2 o1 a1) FUEL 0) (Sum.elim (fun (o9:Unit)=>Option.bind (loopN (m19_l3 a0) FUEL 0) (Sum.elim (fun (o10:Unit)=>Option.bind (m45 (o1++([a1.lo,a1.hi]))) fun (x11:(List Lvl)×Int) =>
   Option.bind (loopN (m19_l5 a0 x11) FUEL (([]:List Edg),0)) (fun (o12:(List Edg))=>Option.bind (idx x11.1 (w64 ((x11.1.length:Int) - 2))) fun (x13:Lvl) =>
   Option.bind (m44 x13) fun (x14:(List Lvl)) =>
   Option.bind (idx x11.1 (w64 ((x11.1.length:Int) - 1))) fun (x15:Lvl) =>
   Option.bind (m44 x15) fun (x16:(List Lvl)) =>
   Option.bind (loopN (m19_l7 x14 o12 x16 x11) FUEL 0) (Sum.elim (fun (o17:Unit)=>some (true,0)) (fun o=>some o)))) (fun o=>some o))) (fun o=>some o)))=some r) ?_ ?_
 refine bindK h0 (fun o9 hl1 h0=>?_)
 refine XC.loopM (m19_l1 o1 a1) (fun s1=>⟨[(0,.v (.one (dS a0))),(6,.v (.one (dA 1 ((o1++([a1.lo,a1.hi])):List Lvl)))),(8,.v (.one (dI s1)))],[(0,.cells 41 (cE a1))],[(1,some ⟨39,2,(Enc.encL ((o1++([a1.lo,a1.hi])):List Lvl)).length,[]⟩),(2,some ⟨39,2,(Enc.encL ([a1.lo,a1.hi]:List Lvl)).length,[]⟩)],3,176,[]⟩) 0 o9 (sL (Nat.zero_le _) Z Z Z Z Z) hl1 (fun s1 n1 oo1 h1 ho1=>?_)
 unfold m19_l1 at h1
 refine XC.seq<|XC.seq<|XC.region<|rM Z Z Z<|rM Z Z Z<|rR Z Z Z (RO.lenE (α:=Lvl) sl_31 Z (.app _ _))<|rR Z Z Z (RO.binInt Z Z Z)<|XL.nil<|XQ.seq ?_
 refine XC.cond (b:=(decide (s1 < ((o1++([a1.lo,a1.hi])).length:Int)))) Z (fun c10=>?_) (fun c10=>?_)
 replace h1:=condT c10 h1
 refine XC.skip<|XQ.seq<|XC.seq<|XC.block<|XC.seq<|XC.region<|rM Z Z Z<|rM Z Z Z ?_
 refine bindK h1 (fun x11 hx11 h1=>?_)
 refine rR Z Z Z (RO.indexE (α:=Lvl) sl_31 Z (.app _ _) Z hx11)<|rR Z Z Z (RO.loadPelCE (x11:Lvl) ag_39 Z) ?_
 refine bindK h1 (fun x12 hx12 h1=>?_)
 refine XL.put Z Z (lb Z) (OpOK.callFun (m30_ok x11 x12 hx12) Z (.cons (.agg (.cons (.d _) (.cons (.d _) .nil))) .nil))<|rR Z Z Z (RO.not Z)<|XL.nil<|XQ.seq ?_
 refine XC.cond (b:=(!x12)) Z (fun c13=>?_) (fun c13=>?_)
 replace h1:=condT c13 h1
 refine XC.seq<|XC.region<|rA Z Z Z<|rA Z Z Z<|XL.nil<|XQ.seq<|XC.ret ?_
 have e:=sI h1;subst e
 have e_:_=_:=ho1
 subst e_
 try dsimp only [Sum.elim_inl,Sum.elim_inr] at h0
 have e:=sI h0;subst e
 exact XQ.retF (fun _ _ h=>h) Z (RAs.tmp Z (RAs.tmp Z .nil)) (.cons (.one (.d _)) (.cons (.one (.d _)) .nil))
 replace h1:=condF c13 h1
 refine XC.skip<|XQ.inBlock<|XQ.seq<|XC.region<|rM Z Z Z<|rR Z Z Z (RO.binInt Z Z Z)<|rA Z Z Z<|XL.nil ?_
 have e:=sI h1;subst e
 refine XQ.nextM (w64 (s1+1)) (sL (Nat.zero_le _) Z Z Z Z Z) ho1
 replace h1:=condF c10 h1
 refine XC.exit<|XQ.thenE<|XQ.thenE ?_
 have e:=sI h1;subst e
 have e_:_=_:=ho1
 subst e_
 exact XQ.joinX () (sL (Nat.zero_le _) Z Z Z Z Z) h0
 intro o8 h0
 refine XQ.blockX<|XQ.seq<|XC.seq<|XC.seq<|XC.region<|rA Z Z Z<|XL.nil<|XQ.seq<|XC.block ?_
 refine XC.joinX 4 (fun (o14:Unit)=>⟨[(0,.v (.one (dS a0))),(6,.v (.one (dA 1 ((o1++([a1.lo,a1.hi])):List Lvl))))],[(0,.cells 41 (cE a1))],[(1,some ⟨39,2,(Enc.encL ((o1++([a1.lo,a1.hi])):List Lvl)).length,[]⟩),(2,some ⟨39,2,(Enc.encL ([a1.lo,a1.hi]:List Lvl)).length,[]⟩)],3,176,[]⟩) (fun (o14:Unit)=>(Option.bind (loopN (m19_l3 a0) FUEL 0) (Sum.elim (fun (o15:Unit)=>Option.bind (m45 (o1++([a1.lo,a1.hi]))) fun (x16:(List Lvl)×Int) =>
   Option.bind (loopN (m19_l5 a0 x16) FUEL (([]:List Edg),0)) (fun (o17:(List Edg))=>Option.bind (idx x16.1 (w64 ((x16.1.length:Int) - 2))) fun (x18:Lvl) =>
   Option.bind (m44 x18) fun (x19:(List Lvl)) =>
   Option.bind (idx x16.1 (w64 ((x16.1.length:Int) - 1))) fun (x20:Lvl) =>
   Option.bind (m44 x20) fun (x21:(List Lvl)) =>
   Option.bind (loopN (m19_l7 x19 o17 x21 x16) FUEL 0) (Sum.elim (fun (o22:Unit)=>some (true,0)) (fun o=>some o)))) (fun o=>some o)))=some r) ?_ ?_
 refine bindK h0 (fun o15 hl1 h0=>?_)
 refine XC.loopM (m19_l2 o1 a1) (fun s1=>⟨[(0,.v (.one (dS a0))),(6,.v (.one (dA 1 ((o1++([a1.lo,a1.hi])):List Lvl)))),(9,.v (.one (dI s1)))],[(0,.cells 41 (cE a1))],[(1,some ⟨39,2,(Enc.encL ((o1++([a1.lo,a1.hi])):List Lvl)).length,[]⟩),(2,some ⟨39,2,(Enc.encL ([a1.lo,a1.hi]:List Lvl)).length,[]⟩)],3,176,[]⟩) 0 o15 (sL (Nat.zero_le _) Z Z Z Z Z) hl1 (fun s1 n1 oo1 h1 ho1=>?_)
 unfold m19_l2 at h1
 refine XC.seq<|XC.seq<|XC.region<|rM Z Z Z<|rM Z Z Z<|rR Z Z Z (RO.lenE (α:=Lvl) sl_31 Z (.app _ _))<|rR Z Z Z (RO.binInt Z Z Z)<|XL.nil<|XQ.seq ?_
 refine XC.cond (b:=(decide (s1 < ((o1++([a1.lo,a1.hi])).length:Int)))) Z (fun c16=>?_) (fun c16=>?_)
 replace h1:=condT c16 h1
 refine XC.skip<|XQ.seq<|XC.seq<|XC.block<|XC.seq<|XC.region<|rM Z Z Z<|rM Z Z Z ?_
 refine bindK h1 (fun x17 hx17 h1=>?_)
 refine rR Z Z Z (RO.indexE (α:=Lvl) sl_31 Z (.app _ _) Z hx17)<|rR Z Z Z (RO.loadPelCE (x17:Lvl) ag_39 Z) ?_
 refine bindK h1 (fun x18 hx18 h1=>?_)
 refine XL.put Z Z (lb Z) (OpOK.callFun (m43_ok x17 x18 hx18) Z (.cons (.agg (.cons (.d _) (.cons (.d _) .nil))) .nil))<|rM Z Z Z<|rR Z Z Z (RO.extract Z Z)<|rR Z Z Z (RO.extract Z Z)<|rA Z Z Z<|rA Z Z Z<|XL.nil<|XQ.seq<|XC.seq<|XC.region<|rM Z Z Z<|rR Z Z Z (RO.binInt Z Z Z)<|XL.nil<|XQ.seq ?_
 refine XC.cond (b:=(decide (0≤x18.1))) Z (fun c19=>?_) (fun c19=>?_)
 replace h1:=condT c19 h1
 refine XC.seq<|XC.region<|rA Z Z Z<|rA Z Z Z<|XL.nil<|XQ.seq<|XC.ret ?_
 have e:=sI h1;subst e
 have e_:_=_:=ho1
 subst e_
 try dsimp only [Sum.elim_inl,Sum.elim_inr] at h0
 have e:=sI h0;subst e
 exact XQ.retF (fun _ _ h=>h) Z (RAs.tmp Z (RAs.tmp Z .nil)) (.cons (.one (.d _)) (.cons (.one (.d _)) .nil))
 replace h1:=condF c19 h1
 refine XC.skip<|XQ.inBlock<|XQ.seq<|XC.region<|rM Z Z Z<|rR Z Z Z (RO.binInt Z Z Z)<|rA Z Z Z<|XL.nil ?_
 have e:=sI h1;subst e
 refine XQ.nextM (w64 (s1+1)) (sL (Nat.zero_le _) Z Z Z Z Z) ho1
 replace h1:=condF c16 h1
 refine XC.exit<|XQ.thenE<|XQ.thenE ?_
 have e:=sI h1;subst e
 have e_:_=_:=ho1
 subst e_
 exact XQ.joinX () (sL (Nat.zero_le _) Z Z Z Z Z) h0
 intro o14 h0
 refine XQ.blockX<|XQ.seq<|XC.seq<|XC.seq<|XC.region<|rA Z Z Z<|XL.nil<|XQ.seq<|XC.block ?_
 refine XC.joinX 6 (fun (o20:Unit)=>⟨[(0,.v (.one (dS a0))),(6,.v (.one (dA 1 ((o1++([a1.lo,a1.hi])):List Lvl))))],[(0,.cells 41 (cE a1))],[(1,some ⟨39,2,(Enc.encL ((o1++([a1.lo,a1.hi])):List Lvl)).length,[]⟩),(2,some ⟨39,2,(Enc.encL ([a1.lo,a1.hi]:List Lvl)).length,[]⟩)],3,176,[]⟩) (fun (o20:Unit)=>(Option.bind (m45 (o1++([a1.lo,a1.hi]))) fun (x21:(List Lvl)×Int) =>
   Option.bind (loopN (m19_l5 a0 x21) FUEL (([]:List Edg),0)) (fun (o22:(List Edg))=>Option.bind (idx x21.1 (w64 ((x21.1.length:Int) - 2))) fun (x23:Lvl) =>
   Option.bind (m44 x23) fun (x24:(List Lvl)) =>
   Option.bind (idx x21.1 (w64 ((x21.1.length:Int) - 1))) fun (x25:Lvl) =>
   Option.bind (m44 x25) fun (x26:(List Lvl)) =>
   Option.bind (loopN (m19_l7 x24 o22 x26 x21) FUEL 0) (Sum.elim (fun (o27:Unit)=>some (true,0)) (fun o=>some o))))=some r) ?_ ?_
 refine bindK h0 (fun o21 hl1 h0=>?_)
 refine XC.loopM (m19_l3 a0) (fun s1=>⟨[(0,.v (.one (dS a0))),(6,.v (.one (dA 1 ((o1++([a1.lo,a1.hi])):List Lvl)))),(12,.v (.one (dI s1)))],[(0,.cells 41 (cE a1))],[(1,some ⟨39,2,(Enc.encL ((o1++([a1.lo,a1.hi])):List Lvl)).length,[]⟩),(2,some ⟨39,2,(Enc.encL ([a1.lo,a1.hi]:List Lvl)).length,[]⟩)],3,176,[]⟩) 0 o21 (sL (Nat.zero_le _) Z Z Z Z Z) hl1 (fun s1 n1 oo1 h1 ho1=>?_)
 unfold m19_l3 at h1
 refine XC.seq<|XC.seq<|XC.region<|rM Z Z Z<|rM Z Z Z<|rR Z Z Z (RO.lenE (α:=Bnd) sl_22 Z (.d _))<|rR Z Z Z (RO.binInt Z Z Z)<|XL.nil<|XQ.seq ?_
 refine XC.cond (b:=(decide (s1 < (a0.length:Int)))) Z (fun c22=>?_) (fun c22=>?_)
 replace h1:=condT c22 h1
 refine XC.skip<|XQ.seq<|XC.seq<|XC.block<|XC.seq<|XC.region<|rM Z Z Z<|rM Z Z Z ?_
 refine bindK h1 (fun x23 hx23 h1=>?_)
 refine rR Z Z Z (RO.indexE (α:=Bnd) sl_22 Z (.d _) Z hx23)<|rR Z Z Z (RO.fieldPel fo_41_1 Z)<|rR Z Z Z (RO.loadPelAgg ag_39 Z Z Z) ?_
 refine bindK h1 (fun x24 hx24 h1=>?_)
 refine XL.put Z Z (lb Z) (OpOK.callFun (m44_ok x23.hi x24 hx24) Z (.cons (.agg (.cons (.d _) (.cons (.d _) .nil))) .nil))<|rR Z Z Z (RO.lenE (α:=Lvl) sl_31 Z (.d _))<|rR Z Z Z (RO.binInt Z Z Z)<|XL.nil<|XQ.seq ?_
 refine XC.cond (b:=(decide (1 < (x24.length:Int)))) Z (fun c25=>?_) (fun c25=>?_)
 replace h1:=condT c25 h1
 refine XC.seq<|XC.region<|rA Z Z Z<|rA Z Z Z<|XL.nil<|XQ.seq<|XC.ret ?_
 have e:=sI h1;subst e
 have e_:_=_:=ho1
 subst e_
 try dsimp only [Sum.elim_inl,Sum.elim_inr] at h0
 have e:=sI h0;subst e
 exact XQ.retF (fun _ _ h=>h) Z (RAs.tmp Z (RAs.tmp Z .nil)) (.cons (.one (.d _)) (.cons (.one (.d _)) .nil))
 replace h1:=condF c25 h1
 refine XC.skip<|XQ.inBlock<|XQ.seq<|XC.region<|rM Z Z Z<|rR Z Z Z (RO.binInt Z Z Z)<|rA Z Z Z<|XL.nil ?_
 have e:=sI h1;subst e
 refine XQ.nextM (w64 (s1+1)) (sL (Nat.zero_le _) Z Z Z Z Z) ho1
 replace h1:=condF c22 h1
 refine XC.exit<|XQ.thenE<|XQ.thenE ?_
 have e:=sI h1;subst e
 have e_:_=_:=ho1
 subst e_
 exact XQ.joinX () (sL (Nat.zero_le _) Z Z Z Z Z) h0
 intro o20 h0
 refine XQ.blockX<|XQ.seq<|XC.seq<|XC.region<|rM Z Z Z ?_
 refine bindK h0 (fun x26 hx26 h0=>?_)
 refine XL.put Z Z (lb Z) (OpOK.callFun (m45_ok (o1++([a1.lo,a1.hi])) x26 hx26) Z (.cons (.one (.app _ _ _)) .nil))<|rM Z Z Z<|rR Z Z Z (RO.extract Z Z)<|rR Z Z Z (RO.extract Z Z)<|rA Z Z Z<|rA Z Z Z<|XL.nil<|XQ.seq<|XC.seq<|XC.region<|rA Z Z Z<|XL.nil<|XQ.seq<|XC.seq ?_
 refine XC.seq<|XC.region<|rA Z Z Z<|XL.nil<|XQ.seq<|XC.block ?_
 refine XC.joinX 8 (fun (o27:(List Edg))=>⟨[(6,.v (.one (dS x26.1))),(13,.v (.one (dI x26.2))),(14,.v (.one (dA 3 o27)))],[(0,.cells 41 (cE a1))],[(1,some ⟨39,2,(Enc.encL ((o1++([a1.lo,a1.hi])):List Lvl)).length,[]⟩),(2,some ⟨39,2,(Enc.encL ([a1.lo,a1.hi]:List Lvl)).length,[]⟩),(3,some ⟨81,3,(Enc.encL o27).length,[]⟩)],4,176,[]⟩) (fun (o27:(List Edg))=>(Option.bind (idx x26.1 (w64 ((x26.1.length:Int) - 2))) fun (x28:Lvl) =>
   Option.bind (m44 x28) fun (x29:(List Lvl)) =>
   Option.bind (idx x26.1 (w64 ((x26.1.length:Int) - 1))) fun (x30:Lvl) =>
   Option.bind (m44 x30) fun (x31:(List Lvl)) =>
   Option.bind (loopN (m19_l7 x29 o27 x31 x26) FUEL 0) (Sum.elim (fun (o32:Unit)=>some (true,0)) (fun o=>some o)))=some r) ?_ ?_
 refine XC.adoptT (t:=14) 81 3 Z ?_
 refine bindK h0 (fun o28 hl1 h0=>?_)
 refine XC.loopM (m19_l5 a0 x26) (fun s1=>⟨[(0,.v (.one (dS a0))),(6,.v (.one (dS x26.1))),(13,.v (.one (dI x26.2))),(14,.v (.one (dA 3 s1.1))),(15,.v (.one (dI s1.2)))],[(0,.cells 41 (cE a1))],[(1,some ⟨39,2,(Enc.encL ((o1++([a1.lo,a1.hi])):List Lvl)).length,[]⟩),(2,some ⟨39,2,(Enc.encL ([a1.lo,a1.hi]:List Lvl)).length,[]⟩),(3,some ⟨81,3,(Enc.encL s1.1).length,[]⟩)],4,176,[]⟩) (([]:List Edg),0) o28 (sL (Nat.zero_le _) Z Z Z Z Z) hl1 (fun s1 n1 oo1 h1 ho1=>?_)
 unfold m19_l5 at h1
 refine XC.seq<|XC.seq<|XC.region<|rM Z Z Z<|rM Z Z Z<|rR Z Z Z (RO.lenE (α:=Bnd) sl_22 Z (.d _))<|rR Z Z Z (RO.binInt Z Z Z)<|XL.nil<|XQ.seq ?_
 refine XC.cond (b:=(decide (s1.2 < (a0.length:Int)))) Z (fun c29=>?_) (fun c29=>?_)
 replace h1:=condT c29 h1
 refine XC.skip<|XQ.seq<|XC.seq<|XC.block<|XC.seq<|XC.region<|rM Z Z Z<|rM Z Z Z<|rR Z Z Z (RO.binInt Z Z Z) ?_
 refine bindK h1 (fun x30 hx30 h1=>?_)
 refine rR Z Z Z (RO.indexE (α:=Lvl) sl_31 Z (.d _) Z hx30)<|rR Z Z Z (RO.loadPelCE (x30:Lvl) ag_39 Z) ?_
 refine bindK h1 (fun x31 hx31 h1=>?_)
 refine XL.put Z Z (lb Z) (OpOK.callFun (m44_ok x30 x31 hx31) Z (.cons (.agg (.cons (.d _) (.cons (.d _) .nil))) .nil))<|rA Z Z Z<|XL.nil<|XQ.seq<|XC.seq<|XC.region<|rA Z Z Z<|XL.nil<|XQ.seq<|XC.block ?_
 refine XC.joinX 10 (fun (o32:(List Edg))=>⟨[(0,.v (.one (dS a0))),(6,.v (.one (dS x26.1))),(13,.v (.one (dI x26.2))),(14,.v (.one (dA 3 o32))),(15,.v (.one (dI s1.2)))],[(0,.cells 41 (cE a1))],[(1,some ⟨39,2,(Enc.encL ((o1++([a1.lo,a1.hi])):List Lvl)).length,[]⟩),(2,some ⟨39,2,(Enc.encL ([a1.lo,a1.hi]:List Lvl)).length,[]⟩),(3,some ⟨81,3,(Enc.encL o32).length,[]⟩)],4,176,[]⟩) (fun (o32:(List Edg))=>(some (.next (o32,(w64 (s1.2+1)))))=some oo1) ?_ ?_
 refine bindK h1 (fun o33 hl2 h1=>?_)
 refine XC.loopM (m19_l4 x31 x26 s1) (fun s2=>⟨[(0,.v (.one (dS a0))),(6,.v (.one (dS x26.1))),(13,.v (.one (dI x26.2))),(14,.v (.one (dA 3 s2.1))),(15,.v (.one (dI s1.2))),(16,.v (.one (dS x31))),(17,.v (.one (dI s2.2)))],[(0,.cells 41 (cE a1))],[(1,some ⟨39,2,(Enc.encL ((o1++([a1.lo,a1.hi])):List Lvl)).length,[]⟩),(2,some ⟨39,2,(Enc.encL ([a1.lo,a1.hi]:List Lvl)).length,[]⟩),(3,some ⟨81,3,(Enc.encL s2.1).length,[]⟩)],4,176,[]⟩) (s1.1,0) o33 (sL (Nat.zero_le _) Z Z Z Z Z) hl2 (fun s2 n2 oo2 h2 ho2=>?_)
 unfold m19_l4 at h2
 refine XC.seq<|XC.seq<|XC.region<|rM Z Z Z<|rM Z Z Z<|rR Z Z Z (RO.lenE (α:=Lvl) sl_31 Z (.d _))<|rR Z Z Z (RO.binInt Z Z Z)<|XL.nil<|XQ.seq ?_
 refine XC.cond (b:=(decide (s2.2 < (x31.length:Int)))) Z (fun c34=>?_) (fun c34=>?_)
 replace h2:=condT c34 h2
 refine XC.skip<|XQ.seq<|XC.seq<|XC.block ?_
 refine XC.anyRun [16] [] mixed (by kernel_rfl) (by kernel_rfl) (by kernel_rfl) ?_
 refine RunA.rd Z Z Z (OpOK.of_ro (RO.move Z)) Z<|RunA.rd Z Z Z (OpOK.of_ro (RO.move Z)) Z<|RunA.rd Z Z Z (OpOK.of_ro (RO.move Z)) Z ?_
 refine bindK h2 (fun x35 hx35 h2=>?_)
 refine RunA.rd Z Z Z (OpOK.of_ro (RO.indexE (α:=Lvl) sl_31 Z (.d _) Z hx35)) Z<|RunA.rd Z Z Z (OpOK.of_ro (RO.loadPelCE (x35:Lvl) ag_39 Z)) Z<|RunA.rd Z Z Z (OpOK.of_ro (RO.move Z)) Z<|RunA.rd Z Z Z (OpOK.of_ro (RO.move Z)) Z<|RunA.rd Z Z Z (OpOK.of_ro (RO.binInt Z Z Z)) Z<|RunA.rd Z Z Z (OpOK.of_ro (RO.binInt Z Z Z)) Z ?_
 refine bindK h2 (fun x36 hx36 h2=>?_)
 refine RunA.rd Z Z Z (OpOK.of_ro (RO.indexE (α:=Lvl) sl_31 Z (.d _) Z hx36)) Z<|RunA.rd Z Z Z (OpOK.of_ro (RO.loadPelCE (x36:Lvl) ag_39 Z)) Z ?_
 refine bindK h2 (fun x37 hx37 h2=>?_)
 refine RunA.rd Z Z Z (OpOK.callFun (m44_ok x36 x37 hx37) Z (.cons (.agg (.cons (.d _) (.cons (.d _) .nil))) .nil)) Z ?_
 refine bindK h2 (fun x38 hx38 h2=>?_)
 refine RunA.rd Z Z Z (OpOK.of_ro (RO.indexE (α:=Lvl) sl_31 Z (.d _) Z hx38)) Z<|RunA.rd Z Z Z (OpOK.of_ro (RO.loadPelCE (x38:Lvl) ag_39 Z)) Z ?_
 refine bindK h2 (fun x39 hx39 h2=>?_)
 refine RunA.rd Z Z Z (OpOK.callFun (m46_ok x35 x38 0 x39 hx39) Z (.cons (.agg (.cons (.d _) (.cons (.d _) .nil))) (.cons (.agg (.cons (.d _) (.cons (.d _) .nil))) (.cons (.one (.d _)) .nil)))) Z<|RunA.rd Z Z Z (OpOK.data1E (α:=Edg) (x39) sl_79 z_81 Z Z (lb Z) Z Z (.cons (.d _) (.cons (.d _) (.cons (.d _) .nil))) Z) Z ?_
 refine guardK h2 (fun g40 h2=>?_)
 refine RunA.eff Z Z Z (OpOK.appendE (α:=Edg) sl_79 el_81 Z Z Z Z Z (.d _) g40) Z<|RunA.rd Z Z Z (OpOK.of_ro (RO.assign Z)) Z ?_
 refine RunA.nil ⟨?ex,_,_,Z,?_⟩
 case ex=>exact trivial
 refine XQ.less (st':=⟨[(0,.v (.one (dS a0))),(6,.v (.one (dS x26.1))),(13,.v (.one (dI x26.2))),(14,.v (.one (dA 3 ((s2.1++([x39])):List Edg)))),(15,.v (.one (dI s1.2))),(16,.v (.one (dS x31))),(17,.v (.one (dI s2.2)))],[(0,.cells 41 (cE a1))],[(1,some ⟨39,2,(Enc.encL ((o1++([a1.lo,a1.hi])):List Lvl)).length,[]⟩),(2,some ⟨39,2,(Enc.encL ([a1.lo,a1.hi]:List Lvl)).length,[]⟩),(3,some ⟨81,3,(Enc.encL ((s2.1++([x39])):List Edg)).length,[]⟩)],4,176,[]⟩) (sL (Nat.zero_le _) Z Z Z Z Z)<|XQ.inBlock<|XQ.seq<|XC.region<|rM Z Z Z<|rR Z Z Z (RO.binInt Z Z Z)<|rA Z Z Z<|XL.nil ?_
 have e:=sI h2;subst e
 refine XQ.nextM ((s2.1++([x39])),(w64 (s2.2+1))) (sL (Nat.zero_le _) Z Z Z Z Z) ho2
 replace h2:=condF c34 h2
 refine XC.exit<|XQ.thenE<|XQ.thenE ?_
 have e:=sI h2;subst e
 have e_:_=_:=ho2
 subst e_
 exact XQ.joinX s2.1 (sL (Nat.zero_le _) Z Z Z Z Z) h1
 intro o32 h1
 refine XQ.blockX<|XQ.inBlock<|XQ.seq<|XC.region<|rM Z Z Z<|rR Z Z Z (RO.binInt Z Z Z)<|rA Z Z Z<|XL.nil ?_
 have e:=sI h1;subst e
 refine XQ.nextM (o32,(w64 (s1.2+1))) (sL (Nat.zero_le _) Z Z Z Z Z) ho1
 replace h1:=condF c29 h1
 refine XC.exit<|XQ.thenE<|XQ.thenE ?_
 have e:=sI h1;subst e
 have e_:_=_:=ho1
 subst e_
 exact XQ.joinX s1.1 (sL (Nat.zero_le _) Z Z Z Z Z) h0
 intro o27 h0
 refine XQ.blockX<|XQ.seq<|XC.seq ?_
 refine XC.anyRun [] [] mixed (by kernel_rfl) (by kernel_rfl) (by kernel_rfl) ?_
 refine RunA.rd Z Z Z (OpOK.of_ro (RO.move Z)) Z<|RunA.rd Z Z Z (OpOK.of_ro (RO.move Z)) Z<|RunA.rd Z Z Z (OpOK.of_ro (RO.lenE (α:=Lvl) sl_31 Z (.d _))) Z<|RunA.rd Z Z Z (OpOK.of_ro (RO.binInt Z Z Z)) Z ?_
 refine bindK h0 (fun x41 hx41 h0=>?_)
 refine RunA.rd Z Z Z (OpOK.of_ro (RO.indexE (α:=Lvl) sl_31 Z (.d _) Z hx41)) Z<|RunA.rd Z Z Z (OpOK.of_ro (RO.loadPelCE (x41:Lvl) ag_39 Z)) Z ?_
 refine bindK h0 (fun x42 hx42 h0=>?_)
 refine RunA.rd Z Z Z (OpOK.callFun (m44_ok x41 x42 hx42) Z (.cons (.agg (.cons (.d _) (.cons (.d _) .nil))) .nil)) Z<|RunA.rd Z Z Z (OpOK.of_ro (RO.move Z)) Z<|RunA.rd Z Z Z (OpOK.of_ro (RO.move Z)) Z<|RunA.rd Z Z Z (OpOK.of_ro (RO.lenE (α:=Lvl) sl_31 Z (.d _))) Z<|RunA.rd Z Z Z (OpOK.of_ro (RO.binInt Z Z Z)) Z ?_
 refine bindK h0 (fun x43 hx43 h0=>?_)
 refine RunA.rd Z Z Z (OpOK.of_ro (RO.indexE (α:=Lvl) sl_31 Z (.d _) Z hx43)) Z<|RunA.rd Z Z Z (OpOK.of_ro (RO.loadPelCE (x43:Lvl) ag_39 Z)) Z ?_
 refine bindK h0 (fun x44 hx44 h0=>?_)
 refine RunA.rd Z Z Z (OpOK.callFun (m44_ok x43 x44 hx44) Z (.cons (.agg (.cons (.d _) (.cons (.d _) .nil))) .nil)) Z<|RunA.rd Z Z Z (OpOK.of_ro (RO.assign Z)) Z<|RunA.rd Z Z Z (OpOK.of_ro (RO.assign Z)) Z ?_
 refine RunA.nil ⟨?ex,_,_,Z,?_⟩
 case ex=>exact trivial
 refine XQ.less (st':=⟨[(13,.v (.one (dI x26.2))),(14,.v (.one (dA 3 o27))),(18,.v (.one (dS x42))),(19,.v (.one (dS x44)))],[(0,.cells 41 (cE a1))],[(1,some ⟨39,2,(Enc.encL ((o1++([a1.lo,a1.hi])):List Lvl)).length,[]⟩),(2,some ⟨39,2,(Enc.encL ([a1.lo,a1.hi]:List Lvl)).length,[]⟩),(3,some ⟨81,3,(Enc.encL o27).length,[]⟩)],4,176,[]⟩) (sL (Nat.zero_le _) Z Z Z Z Z)<|XQ.seq<|XC.seq<|XC.seq<|XC.region<|rA Z Z Z<|XL.nil<|XQ.seq<|XC.block ?_
 refine XC.joinX 12 (fun (o45:Unit)=>⟨[],[(0,.cells 41 (cE a1))],[(1,some ⟨39,2,(Enc.encL ((o1++([a1.lo,a1.hi])):List Lvl)).length,[]⟩),(2,some ⟨39,2,(Enc.encL ([a1.lo,a1.hi]:List Lvl)).length,[]⟩),(3,some ⟨81,3,(Enc.encL o27).length,[]⟩)],4,176,[]⟩) (fun (o45:Unit)=>(some (true,0))=some r) ?_ ?_
 refine bindK h0 (fun o46 hl1 h0=>?_)
 refine XC.loopM (m19_l7 x42 o27 x44 x26) (fun s1=>⟨[(13,.v (.one (dI x26.2))),(14,.v (.one (dA 3 o27))),(18,.v (.one (dS x42))),(19,.v (.one (dS x44))),(20,.v (.one (dI s1)))],[(0,.cells 41 (cE a1))],[(1,some ⟨39,2,(Enc.encL ((o1++([a1.lo,a1.hi])):List Lvl)).length,[]⟩),(2,some ⟨39,2,(Enc.encL ([a1.lo,a1.hi]:List Lvl)).length,[]⟩),(3,some ⟨81,3,(Enc.encL o27).length,[]⟩)],4,176,[]⟩) 0 o46 (sL (Nat.zero_le _) Z Z Z Z Z) hl1 (fun s1 n1 oo1 h1 ho1=>?_)
 unfold m19_l7 at h1
 refine XC.seq<|XC.seq<|XC.region<|rM Z Z Z<|rM Z Z Z<|rR Z Z Z (RO.lenE (α:=Lvl) sl_31 Z (.d _))<|rR Z Z Z (RO.binInt Z Z Z)<|XL.nil<|XQ.seq ?_
 refine XC.cond (b:=(decide (s1 < (x42.length:Int)))) Z (fun c47=>?_) (fun c47=>?_)
 replace h1:=condT c47 h1
 refine XC.skip<|XQ.seq<|XC.seq<|XC.block<|XC.seq<|XC.region<|XL.put Z Z (lb Z) (OpOK.lit0E (α:=Edg) sl_79 z_81 Z Z (lb Z))<|rM Z Z Z ?_
 refine guardK h1 (fun g48 h1=>?_)
 refine XL.put Z Z (lb Z) (OpOK.appendE (α:=Edg) sl_79 el_81 Z Z Z Z Z (.app _ _) g48)<|rA Z Z Z<|XL.nil<|XQ.seq<|XC.seq<|XC.seq<|XC.region<|rA Z Z Z<|XL.nil<|XQ.seq<|XC.block ?_
 refine XC.joinX 14 (fun (o49:(List Edg))=>⟨[(13,.v (.one (dI x26.2))),(14,.v (.one (dA 3 o27))),(18,.v (.one (dS x42))),(19,.v (.one (dS x44))),(20,.v (.one (dI s1))),(21,.v (.one (dA 4 o49)))],[(0,.cells 41 (cE a1))],[(1,some ⟨39,2,(Enc.encL ((o1++([a1.lo,a1.hi])):List Lvl)).length,[]⟩),(2,some ⟨39,2,(Enc.encL ([a1.lo,a1.hi]:List Lvl)).length,[]⟩),(3,some ⟨81,3,(Enc.encL o27).length,[]⟩),(4,some ⟨81,3,(Enc.encL o49).length,[]⟩)],5,176,[]⟩) (fun (o49:(List Edg))=>(Option.bind (m47 (w64 (x26.2+1)) o49) fun (x50:Bool) =>
   cond x50
     (some (.done (.inr (false,0))))
     (some (.next (w64 (s1+1)))))=some oo1) ?_ ?_
 refine bindK h1 (fun o50 hl2 h1=>?_)
 refine XC.loopM (m19_l6 x44 x42 s1) (fun s2=>⟨[(13,.v (.one (dI x26.2))),(14,.v (.one (dA 3 o27))),(18,.v (.one (dS x42))),(19,.v (.one (dS x44))),(20,.v (.one (dI s1))),(21,.v (.one (dA 4 s2.1))),(22,.v (.one (dI s2.2)))],[(0,.cells 41 (cE a1))],[(1,some ⟨39,2,(Enc.encL ((o1++([a1.lo,a1.hi])):List Lvl)).length,[]⟩),(2,some ⟨39,2,(Enc.encL ([a1.lo,a1.hi]:List Lvl)).length,[]⟩),(3,some ⟨81,3,(Enc.encL o27).length,[]⟩),(4,some ⟨81,3,(Enc.encL s2.1).length,[]⟩)],5,176,[]⟩) ((([]:List Edg)++o27),0) o50 (sL (Nat.zero_le _) Z Z Z Z Z) hl2 (fun s2 n2 oo2 h2 ho2=>?_)
 unfold m19_l6 at h2
 refine XC.seq<|XC.seq<|XC.region<|rM Z Z Z<|rM Z Z Z<|rR Z Z Z (RO.lenE (α:=Lvl) sl_31 Z (.d _))<|rR Z Z Z (RO.binInt Z Z Z)<|XL.nil<|XQ.seq ?_
 refine XC.cond (b:=(decide (s2.2 < (x44.length:Int)))) Z (fun c51=>?_) (fun c51=>?_)
 replace h2:=condT c51 h2
 refine XC.skip<|XQ.seq<|XC.seq<|XC.block ?_
 refine XC.anyRun [11] [] mixed (by kernel_rfl) (by kernel_rfl) (by kernel_rfl) ?_
 refine RunA.rd Z Z Z (OpOK.of_ro (RO.move Z)) Z<|RunA.rd Z Z Z (OpOK.of_ro (RO.move Z)) Z<|RunA.rd Z Z Z (OpOK.of_ro (RO.move Z)) Z ?_
 refine bindK h2 (fun x52 hx52 h2=>?_)
 refine RunA.rd Z Z Z (OpOK.of_ro (RO.indexE (α:=Lvl) sl_31 Z (.d _) Z hx52)) Z<|RunA.rd Z Z Z (OpOK.of_ro (RO.loadPelCE (x52:Lvl) ag_39 Z)) Z<|RunA.rd Z Z Z (OpOK.of_ro (RO.move Z)) Z<|RunA.rd Z Z Z (OpOK.of_ro (RO.move Z)) Z ?_
 refine bindK h2 (fun x53 hx53 h2=>?_)
 refine RunA.rd Z Z Z (OpOK.of_ro (RO.indexE (α:=Lvl) sl_31 Z (.d _) Z hx53)) Z<|RunA.rd Z Z Z (OpOK.of_ro (RO.loadPelCE (x53:Lvl) ag_39 Z)) Z ?_
 refine bindK h2 (fun x54 hx54 h2=>?_)
 refine RunA.rd Z Z Z (OpOK.callFun (m46_ok x52 x53 1 x54 hx54) Z (.cons (.agg (.cons (.d _) (.cons (.d _) .nil))) (.cons (.agg (.cons (.d _) (.cons (.d _) .nil))) (.cons (.one (.d _)) .nil)))) Z<|RunA.rd Z Z Z (OpOK.data1E (α:=Edg) (x54) sl_79 z_81 Z Z (lb Z) Z Z (.cons (.d _) (.cons (.d _) (.cons (.d _) .nil))) Z) Z ?_
 refine guardK h2 (fun g55 h2=>?_)
 refine RunA.eff Z Z Z (OpOK.appendE (α:=Edg) sl_79 el_81 Z Z Z Z Z (.d _) g55) Z<|RunA.rd Z Z Z (OpOK.of_ro (RO.assign Z)) Z ?_
 refine RunA.nil ⟨?ex,_,_,Z,?_⟩
 case ex=>exact trivial
 refine XQ.less (st':=⟨[(13,.v (.one (dI x26.2))),(14,.v (.one (dA 3 o27))),(18,.v (.one (dS x42))),(19,.v (.one (dS x44))),(20,.v (.one (dI s1))),(21,.v (.one (dA 4 ((s2.1++([x54])):List Edg)))),(22,.v (.one (dI s2.2)))],[(0,.cells 41 (cE a1))],[(1,some ⟨39,2,(Enc.encL ((o1++([a1.lo,a1.hi])):List Lvl)).length,[]⟩),(2,some ⟨39,2,(Enc.encL ([a1.lo,a1.hi]:List Lvl)).length,[]⟩),(3,some ⟨81,3,(Enc.encL o27).length,[]⟩),(4,some ⟨81,3,(Enc.encL ((s2.1++([x54])):List Edg)).length,[]⟩)],5,176,[]⟩) (sL (Nat.zero_le _) Z Z Z Z Z)<|XQ.inBlock<|XQ.seq<|XC.region<|rM Z Z Z<|rR Z Z Z (RO.binInt Z Z Z)<|rA Z Z Z<|XL.nil ?_
 have e:=sI h2;subst e
 refine XQ.nextM ((s2.1++([x54])),(w64 (s2.2+1))) (sL (Nat.zero_le _) Z Z Z Z Z) ho2
 replace h2:=condF c51 h2
 refine XC.exit<|XQ.thenE<|XQ.thenE ?_
 have e:=sI h2;subst e
 have e_:_=_:=ho2
 subst e_
 exact XQ.joinX s2.1 (sL (Nat.zero_le _) Z Z Z Z Z) h1
 intro o49 h1
 refine XQ.blockX<|XQ.seq<|XC.seq<|XC.region<|rM Z Z Z<|rR Z Z Z (RO.binInt Z Z Z)<|rM Z Z Z ?_
 refine bindK h1 (fun x56 hx56 h1=>?_)
 refine XL.put Z Z (lb Z) (OpOK.callFun (m47_ok (w64 (x26.2+1)) o49 x56 hx56) Z (.cons (.one (.d _)) (.cons (.one (.app _ _ _)) .nil)))<|XL.nil<|XQ.seq ?_
 refine XC.cond (b:=x56) Z (fun c57=>?_) (fun c57=>?_)
 replace h1:=condT c57 h1
 refine XC.seq<|XC.region<|rA Z Z Z<|rA Z Z Z<|XL.nil<|XQ.seq<|XC.ret ?_
 have e:=sI h1;subst e
 have e_:_=_:=ho1
 subst e_
 try dsimp only [Sum.elim_inl,Sum.elim_inr] at h0
 have e:=sI h0;subst e
 exact XQ.retF (fun _ _ h=>h) Z (RAs.tmp Z (RAs.tmp Z .nil)) (.cons (.one (.d _)) (.cons (.one (.d _)) .nil))
 replace h1:=condF c57 h1
 refine XC.skip<|XQ.inBlock<|XQ.seq<|XC.region<|rM Z Z Z<|rR Z Z Z (RO.binInt Z Z Z)<|rA Z Z Z<|XL.nil ?_
 have e:=sI h1;subst e
 refine XQ.nextM (w64 (s1+1)) (sL (Nat.zero_le _) Z Z Z Z Z) ho1
 replace h1:=condF c47 h1
 refine XC.exit<|XQ.thenE<|XQ.thenE ?_
 have e:=sI h1;subst e
 have e_:_=_:=ho1
 subst e_
 exact XQ.joinX () (sL (Nat.zero_le _) Z Z Z Z Z) h0
 intro o45 h0
 refine XQ.blockX<|XQ.seq<|XC.seq<|XC.region<|rA Z Z Z<|rA Z Z Z<|XL.nil<|XQ.seq<|XC.ret ?_
 have e:=sI h0;subst e
 exact XQ.retF (fun _ _ h=>h) Z (RAs.tmp Z (RAs.tmp Z .nil)) (.cons (.one (.d _)) (.cons (.one (.d _)) .nil))
end Go.Proofs.Ytkimijmiphkddaa
namespace Go.Proofs.Ytkimijmiphkddaa
open Go.RowKit Go.Shelf
theorem w64_id {n:Int} (h1:-9223372036854775808≤n) (h2:n≤9223372036854775807):w64 n=n:=IntWalk.i64_in n ⟨h1,h2⟩
theorem w64_nx {k:Nat} (h:k≤1000000000):w64 ((k:Int)+1)=((k+1:Nat):Int):=by rw [w64_id (by omega) (by omega)];rfl
theorem idx_at {α:Type} {l:List α} {k:Nat} {x:α} (h:l[k]?=some x):idx l (k:Int)=some x:=h
theorem idx_mid {α:Type} (a:List α) (x:α) (b:List α):idx (a++x::b) (a.length:Int)=some x:=by
 show (a++x::b)[a.length]?=some x
 simp
theorem lt_mid {α:Type} (a:List α) (x:α) (b:List α):decide ((a.length:Int) < ((a++x::b).length:Int))=true:=by
 rw [decide_eq_true_eq,List.length_append,List.length_cons];omega
theorem mid_lt {α:Type} {l a b:List α} {x:α} (h:l=a++x::b):a.length < l.length:=by rw [h,List.length_append,List.length_cons];omega
theorem beqI (a b:Int):(a==b)=decide (a=b):=by
 by_cases h:a=b
 ·rw [decide_eq_true h];exact beq_iff_eq.2 h
 ·rw [decide_eq_false h,Bool.eq_false_iff];exact fun h'=>h (beq_iff_eq.1 h')
theorem lt_end {α:Type} (a:List α):decide ((a.length:Int) < (a.length:Int))=false:=by simp
theorem guard_le {α:Type} {a b:Nat} {x:Option α} (h:a≤b):guardO (Nat.ble a b) x=x:=by
 rw [Nat.ble_eq_true_of_le h];rfl
theorem guard_eq {α:Type} {a b:Nat} {x:Option α} (h:a=b):guardO (Nat.beq a b) x=x:=by
 subst h;rw [Nat.beq_refl];rfl
theorem loop_all {α σ τ β:Type} {step:τ→Option (LO τ β)} (l:List α) (mk:Int→σ→τ) (I:List α→σ→Prop) (Q:β→Prop) (hlen:l.length≤900000000)
  (hin:∀ (a:List α) (x:α) (b:List α) (s:σ),l=a++x::b→I a s →
   (∃ r,step (mk (a.length:Int) s)=some (.done r)∧Q r)∨∃ s',step (mk (a.length:Int) s)=some (.next (mk (w64 ((a.length:Int)+1)) s'))∧I (a++[x]) s')
  (hout:∀ s,I l s→∃ r,step (mk (l.length:Int) s)=some (.done r)∧Q r) (s0:σ) (h0:I [] s0):∃ r,loopN step FUEL (mk 0 s0)=some r∧Q r:=by
 have key:∀ (b a:List α) (s:σ) (n:Nat),l=a++b→b.length < n→I a s→∃ r,loopN step n (mk (a.length:Int) s)=some r∧Q r:=by
  intro b
  induction b with
  | nil =>
   intro a s n hl hn hI
   rw [List.append_nil] at hl
   subst hl
   obtain ⟨r,h1,h2⟩:=hout s hI
   cases n with
   | zero=>omega
   | succ n=>exact ⟨r,by simp only [loopN,h1],h2⟩
  | cons x b ih =>
   intro a s n hl hn hI
   cases n with
   | zero=>omega
   | succ n =>
    rcases hin a x b s hl hI with ⟨r,h1,h2⟩ | ⟨s',h1,h2⟩
    ·exact ⟨r,by simp only [loopN,h1],h2⟩
    ·have hal:a.length≤900000000:=by rw [hl,List.length_append] at hlen;omega
     rw [w64_nx (by omega)] at h1
     obtain ⟨r,h3,h4⟩:=ih (a++[x]) s' n (by rw [hl,List.append_assoc];rfl) (by simp only [List.length_cons] at hn;omega) h2
     refine ⟨r,?_,h4⟩
     simp only [loopN,h1]
     rw [List.length_append] at h3
     exact h3
 exact key l [] s0 FUEL rfl (by unfold FUEL;omega) h0
theorem loop_fold {α σ τ β:Type} {step:τ→Option (LO τ β)} (l:List α) (mk:Int→σ→τ) (f:σ→α→σ) (s0:σ) (fin:β) (hlen:l.length≤900000000)
  (hin:∀ (a:List α) (x:α) (b:List α),l=a++x::b→step (mk (a.length:Int) (a.foldl f s0))=some (.next (mk (w64 ((a.length:Int)+1)) (f (a.foldl f s0) x))))
  (hout:step (mk (l.length:Int) (l.foldl f s0))=some (.done fin)):loopN step FUEL (mk 0 s0)=some fin:=by
 obtain ⟨r,h1,h2⟩:=loop_all (step:=step) l mk (fun a s=>s=a.foldl f s0) (fun r=>r=fin) hlen (fun a x b s hl hs=>.inr ⟨f (a.foldl f s0) x,by rw [hs];exact hin a x b hl,by rw [List.foldl_append];rfl⟩)
  (fun s hs=>⟨fin,by rw [hs];exact hout,rfl⟩) s0 rfl
 rw [h1,h2]
end Go.Proofs.Ytkimijmiphkddaa
namespace Go.Proofs.Ytkimijmiphkddaa
open Go.RowKit Go.Shelf
theorem loop_n {σ τ β:Type} {step:τ→Option (LO τ β)} (n:Nat) (mk:Int→σ→τ) (I:Nat→σ→Prop) (Q:β→Prop) (hlen:n≤900000000)
  (hin:∀ (k:Nat) (s:σ),k < n→I k s→(∃ r,step (mk (k:Int) s)=some (.done r)∧Q r)∨∃ s',step (mk (k:Int) s)=some (.next (mk (w64 ((k:Int)+1)) s'))∧I (k+1) s')
  (hout:∀ s,I n s→∃ r,step (mk (n:Int) s)=some (.done r)∧Q r) (s0:σ) (h0:I 0 s0):∃ r,loopN step FUEL (mk 0 s0)=some r∧Q r:=by
 refine loop_all (step:=step) (List.replicate n ()) mk (fun a s=>I a.length s) Q (by rw [List.length_replicate];exact hlen) (fun a x b s e hI=>?_) (fun s hI=>?_) s0 h0
 ·have:=mid_lt e
  rw [List.length_replicate] at this
  rcases hin a.length s this hI with h | ⟨s',h1,h2⟩
  ·exact .inl h
  ·exact .inr ⟨s',h1,by rw [List.length_append];exact h2⟩
 ·rw [List.length_replicate] at hI ⊢
  exact hout s hI
def far:Int:=1048576
def gt (a:List Int) (i j:Nat):Int:=a.getD (i * 9+j) 0
def Mx (a:List Int):Prop:=a.length=81∧∀ i j,i < 9→j < 9→-far≤gt a i j∧gt a i j≤far
theorem gt_get {a:List Int} (h:a.length=81) {i j:Nat} (hi:i < 9) (hj:j < 9):a[0+i * 9+j * 1]?=some (gt a i j):=by
 have:0+i * 9+j * 1=i * 9+j:=by omega
 rw [this]
 unfold gt
 rw [List.getD_eq_getElem?_getD,List.getElem?_eq_getElem (by omega)];rfl
theorem gt_set {a:List Int} (h:a.length=81) {i j:Nat} (hi:i < 9) (hj:j < 9) (v:Int) (i' j':Nat) (hi':i' < 9) (hj':j' < 9):gt (a.set (0+i * 9+j * 1) v) i' j'=if i'=i∧j'=j then v else gt a i' j':=by
 have e:0+i * 9+j * 1=i * 9+j:=by omega
 unfold gt
 rw [e,List.getD_eq_getElem?_getD,List.getElem?_set]
 by_cases hij:i'=i∧j'=j
 ·obtain ⟨rfl,rfl⟩:=hij
  rw [if_pos rfl,if_pos (And.intro rfl rfl),if_pos (by omega)];rfl
 ·rw [if_neg (by omega),if_neg hij,List.getD_eq_getElem?_getD]
theorem grd {α:Type} {k:Nat} (h:k < 9) (x:Option α):guardO (cond (decide ((0:Int)≤(k:Int))) (Nat.blt k 9) false) x=x:=by
 rw [decide_eq_true (show (0:Int)≤(k:Int) by omega),cond_true]
 show guardO (Nat.ble (k+1) 9) x=x
 rw [Nat.ble_eq_true_of_le (by omega)];rfl
def nw (a:List Int) (k i j:Nat):Int:=if gt a i k < far∧gt a k j < far then max (-far) (min (gt a i j) (gt a i k+gt a k j)) else gt a i j
def Sol (x:Nat→Int) (a:List Int):Prop:=∀ i j,i < 9→j < 9→gt a i j < far→x i - x j≤gt a i j
def Neg (a:List Int):Prop:=∃ i,i < 9∧gt a i i < 0
theorem step_eq {a:List Int} (h:Mx a) {k i j:Nat} (hk:k < 9) (hi:i < 9) (hj:j < 9) (b c:List Int):∃ a',m42_l0 ((i:Int),b) ((k:Int),c) ((j:Int),a)=some (.next (w64 ((j:Int)+1),a'))∧Mx a'∧∀ i' j',i' < 9→j' < 9→gt a' i' j'=if i'=i∧j'=j then nw a k i j else gt a i' j':=by
 have hik:=h.2 i k hi hk
 have hkj:=h.2 k j hk hj
 have hij:=h.2 i j hi hj
 unfold far at hik hkj hij
 have hw:w64 (gt a i k+gt a k j)=gt a i k+gt a k j:=w64_id (by omega) (by omega)
 unfold m42_l0
 dsimp only
 rw [decide_eq_true (show (j:Int) < 9 by omega)]
 simp only [cond_true,Int.toNat_natCast]
 rw [grd hi,grd hk,gt_get h.1 hi hk,Option.bind_some]
 by_cases c1:gt a i k < 1048576
 ·rw [decide_eq_true c1,cond_true,grd hk,grd hj,gt_get h.1 hk hj,Option.bind_some,Option.bind_some]
  by_cases c2:gt a k j < 1048576
  ·rw [decide_eq_true c2,cond_true,grd hi,grd hj,gt_get h.1 hi hj,Option.bind_some,grd hi,grd hk,Option.bind_some,grd hk,grd hj,Option.bind_some,grd hi,grd hj,hw]
   have hlt:Nat.blt (0+i * 9+j * 1) a.length=true:=Nat.ble_eq_true_of_le (by rw [h.1];omega)
   rw [hlt]
   have hnw:nw a k i j=max (-1048576) (min (gt a i j) (gt a i k+gt a k j)):=by unfold nw far;rw [if_pos ⟨c1,c2⟩]
   have hset:=fun i' j' (hi':i' < 9) (hj':j' < 9)=>gt_set h.1 hi hj (nw a k i j) i' j' hi' hj'
   rw [hnw] at hset
   refine ⟨a.set (0+i * 9+j * 1) (max (-1048576) (min (gt a i j) (gt a i k+gt a k j))),rfl,⟨by rw [List.length_set];exact h.1,fun i' j' hi' hj'=>?_⟩,fun i' j' hi' hj'=>by rw [hset i' j' hi' hj',hnw]⟩
   rw [hset i' j' hi' hj']
   unfold far
   split
   ·omega
   ·exact h.2 i' j' hi' hj'
  ·rw [decide_eq_false c2]
   refine ⟨a,Z,h,fun i' j' hi' hj'=>?_⟩
   split
   ·next e =>
    obtain ⟨rfl,rfl⟩:=e
    unfold nw far;rw [if_neg (by omega)]
   ·rfl
 ·rw [decide_eq_false c1]
  refine ⟨a,Z,h,fun i' j' hi' hj'=>?_⟩
  split
  ·next e =>
   obtain ⟨rfl,rfl⟩:=e
   unfold nw far;rw [if_neg (by omega)]
  ·rfl
def Dn (K:List Int) (k:Nat) (a:List Int) (i j:Nat):Prop:=0≤gt K k k→∀ i' j',i' < 9→j' < 9→gt a i' j'=if i' < i∨(i'=i∧j' < j) then nw K k i' j' else gt K i' j'
structure St1 (K:List Int) (k:Nat) (a:List Int) (i j:Nat):Prop where
 mx:Mx a
 dn:Dn K k a i j
 neg:Neg K→Neg a
 sol:∀ x,Sol x K→Sol x a
theorem neg_step {a a':List Int} {k i j:Nat} (hk:k < 9) (hi:i < 9) (hj:j < 9) (h:∀ i' j',i' < 9→j' < 9→gt a' i' j'=if i'=i∧j'=j then nw a k i j else gt a i' j') (hn:Neg a):Neg a':=by
 obtain ⟨p,hp,hpn⟩:=hn
 refine ⟨p,hp,?_⟩
 rw [h p p hp hp]
 split
 ·next e =>
  obtain ⟨rfl,rfl⟩:=e
  unfold nw far
  split <;> omega
 ·exact hpn
theorem sol_step {a a':List Int} {k i j:Nat} (hk:k < 9) (hi:i < 9) (hj:j < 9) (h:∀ i' j',i' < 9→j' < 9→gt a' i' j'=if i'=i∧j'=j then nw a k i j else gt a i' j') {x:Nat→Int} (hs:Sol x a):Sol x a':=by
 intro i' j' hi' hj'
 rw [h i' j' hi' hj']
 split
 ·next e =>
  obtain ⟨rfl,rfl⟩:=e
  have h1:=hs i' j' hi' hj'
  have h2:=hs i' k hi' hk
  have h3:=hs k j' hk hj'
  unfold nw
  unfold far at h1 h2 h3 ⊢
  split <;> omega
 ·exact hs i' j' hi' hj'
theorem nw_row {K:List Int} (h:Mx K) {k:Nat} (hk:k < 9) (hkk:0≤gt K k k) {i:Nat} (hi:i < 9):nw K k i k=gt K i k∧nw K k k i=gt K k i:=by
 have h1:=h.2 i k hi hk
 have h2:=h.2 k i hk hi
 have h3:=h.2 k k hk hk
 unfold nw
 unfold far at h1 h2 h3 ⊢
 constructor <;> split <;> omega
theorem dn_step {K a a':List Int} {k i j:Nat} (hK:Mx K) (hk:k < 9) (hi:i < 9) (hj:j < 9) (hd:Dn K k a i j) (h:∀ i' j',i' < 9→j' < 9→gt a' i' j'=if i'=i∧j'=j then nw a k i j else gt a i' j'):Dn K k a' i (j+1):=by
 intro hkk i' j' hi' hj'
 have e:=hd hkk
 have e1:gt a i k=gt K i k:=by
  rw [e i k hi hk]
  split
  ·exact (nw_row hK hk hkk hi).1
  ·rfl
 have e2:gt a k j=gt K k j:=by
  rw [e k j hk hj]
  split
  ·exact (nw_row hK hk hkk hj).2
  ·rfl
 have e3:gt a i j=gt K i j:=by rw [e i j hi hj,if_neg (by omega)]
 rw [h i' j' hi' hj']
 by_cases c:i'=i∧j'=j
 ·obtain ⟨rfl,rfl⟩:=c
  rw [if_pos ⟨rfl,rfl⟩,if_pos (by omega)]
  unfold nw
  rw [e1,e2,e3]
 ·rw [if_neg c,e i' j' hi' hj']
  by_cases c2:i' < i∨(i'=i∧j' < j)
  ·rw [if_pos c2,if_pos (by omega)]
  ·rw [if_neg c2,if_neg (by omega)]
theorem stage_eq {K:List Int} (hK:Mx K) {k:Nat} (hk:k < 9) (c:List Int):∃ a,loopN (m42_l1 ((k:Int),c)) FUEL (0,K)=some a∧St1 K k a 9 0:=by
 refine loop_n (step:=m42_l1 ((k:Int),c)) 9 (fun i (s:List Int)=>(i,s)) (fun i s=>St1 K k s i 0) (fun a=>St1 K k a 9 0) (by omega) (fun i s hi hI=>?_) (fun s hI=>⟨s,by unfold m42_l1;rfl,hI⟩) K
  ⟨hK,fun _ i' j' _ _=>by rw [if_neg (by omega)],fun h=>h,fun _ h=>h⟩
 obtain ⟨a,h1,h2⟩:=loop_n (step:=m42_l0 ((i:Int),s) ((k:Int),c)) 9 (fun j (s:List Int)=>(j,s)) (fun j s=>St1 K k s i j) (fun a=>St1 K k a i 9) (by omega) (fun j s hj hI=>by
   obtain ⟨a',e1,e2,e3⟩:=step_eq hI.mx hk hi hj _ c
   exact .inr ⟨a',e1,e2,dn_step hK hk hi hj hI.dn e3,fun hn=>neg_step hk hi hj e3 (hI.neg hn),fun x hx=>sol_step hk hi hj e3 (hI.sol x hx)⟩)
  (fun s hI=>⟨s,by unfold m42_l0;rfl,hI⟩) s hI
 have h1':loopN (m42_l0 ((i:Int),s) ((k:Int),c)) FUEL (0,s)=some a:=h1
 refine .inr ⟨a,?_,h2.mx,fun hkk i' j' hi' hj'=>?_,h2.neg,h2.sol⟩
 ·unfold m42_l1
  dsimp only
  rw [decide_eq_true (show (i:Int) < 9 by omega),cond_true,h1'];rfl
 ·rw [h2.dn hkk i' j' hi' hj']
  by_cases c2:i' < i∨(i'=i∧j' < 9)
  ·rw [if_pos c2,if_pos (by omega)]
  ·rw [if_neg c2,if_neg (by omega)]
structure Gd (M0:List Int) (k:Nat) (K:List Int):Prop where
 tri:∀ m i j,m < k→i < 9→j < 9→gt K i m < far→gt K m j < far→gt K i j≤gt K i m+gt K m j
 mag:∀ i j,i < 9→j < 9→gt K i j=far∨(-(101 * 2 ^ k)≤gt K i j∧gt K i j≤101 * 2 ^ k)
 dia:∀ i,i < 9→0≤gt K i i
 le:∀ i j,i < 9→j < 9→gt K i j≤gt M0 i j
theorem gd_step {M0 K a:List Int} {k:Nat} (hk:k < 9) (h:Gd M0 k K) (hs:St1 K k a 9 0) (hn:¬ Neg a):Gd M0 (k+1) a:=by
 have hkk:=h.dia k hk
 have e:∀ i j,i < 9→j < 9→gt a i j=nw K k i j:=fun i j hi hj=>by rw [hs.dn hkk i j hi hj,if_pos (by omega)]
 have p2:(2:Int) ^ (k+1)=2 * 2 ^ k:=by rw [Int.pow_succ];omega
 have pb:(2:Int) ^ k≤256∧(1:Int)≤2 ^ k:=by
  have:k=0∨k=1∨k=2∨k=3∨k=4∨k=5∨k=6∨k=7∨k=8:=by omega
  rcases this with rfl | rfl | rfl | rfl | rfl | rfl | rfl | rfl | rfl <;> decide
 have hmag:=h.mag
 generalize hq:(2:Int) ^ k=q at *
 have mg:∀ i j,i < 9→j < 9→gt K i j < 1048576→-(101 * q)≤gt K i j∧gt K i j≤101 * q:=by
  intro i j hi hj hf
  rcases hmag i j hi hj with h1 | h1
  ·unfold far at h1;omega
  ·exact h1
 have D:∀ i j,i < 9→j < 9→gt a i j≤gt K i j∧(gt K i k < 1048576→gt K k j < 1048576→gt a i j≤gt K i k+gt K k j)∧(gt a i j=gt K i j∨(gt K i k < 1048576∧gt K k j < 1048576∧gt a i j=gt K i k+gt K k j)):=by
  intro i j hi hj
  rw [e i j hi hj]
  unfold nw far
  by_cases c:gt K i k < 1048576∧gt K k j < 1048576
  ·rw [if_pos c]
   have m1:=mg i k hi hk c.1
   have m2:=mg k j hk hj c.2
   have m3:=hmag i j hi hj
   unfold far at m3
   refine ⟨by omega,fun _ _=>by omega,?_⟩
   by_cases c3:gt K i j≤gt K i k+gt K k j
   ·exact .inl (by omega)
   ·exact .inr ⟨c.1,c.2,by omega⟩
  ·rw [if_neg c]
   exact ⟨Int.le_refl _,fun h1 h2=>(c ⟨h1,h2⟩).elim,.inl Z⟩
 refine ⟨fun m i j hm hi hj f1 f2=>?_,fun i j hi hj=>?_,fun i hi=>?_,fun i j hi hj=>Int.le_trans (D i j hi hj).1 (h.le i j hi hj)⟩
 ·unfold far at f1 f2
  have hm9:m < 9:=by omega
  have d0:=D i j hi hj
  have d1:=D i m hi hm9
  have d2:=D m j hm9 hj
  by_cases cm:m=k
  ·subst cm
   have r1:gt a i m=gt K i m:=by
    rcases d1.2.2 with h1 | ⟨h1,h2,h3⟩
    ·exact h1
    ·have:=d1.1;omega
   have r2:gt a m j=gt K m j:=by
    rcases d2.2.2 with h1 | ⟨h1,h2,h3⟩
    ·exact h1
    ·have:=d2.1;omega
   rw [r1,r2]
   exact d0.2.1 (by omega) (by omega)
  ·have hmk:m < k:=by omega
   have tri:=fun i j (hi:i < 9) (hj:j < 9) (f1:gt K i m < 1048576) (f2:gt K m j < 1048576)=>h.tri m i j hmk hi hj f1 f2
   rcases d1.2.2 with h1 | ⟨h1,h1',h1''⟩ <;> rcases d2.2.2 with h2 | ⟨h2,h2',h2''⟩
   ·have:=tri i j hi hj (by omega) (by omega)
    have:=d0.1
    omega
   ·have t1:=tri i k hi hk (by omega) h2
    have m1:=mg i m hi hm9 (by omega)
    have m2:=mg m k hm9 hk h2
    have:=d0.2.1 (by omega) h2'
    omega
   ·have t1:=tri k j hk hj h1' (by omega)
    have m1:=mg k m hk hm9 h1'
    have m2:=mg m j hm9 hj (by omega)
    have:=d0.2.1 h1 (by omega)
    omega
   ·have t1:=tri k k hk hk h1' h2
    have:=d0.2.1 h1 h2'
    omega
 ·rw [p2]
  unfold far
  have d0:=D i j hi hj
  rcases d0.2.2 with h1 | ⟨h1,h2,h3⟩
  ·rw [h1]
   rcases hmag i j hi hj with h4 | h4
   ·exact .inl h4
   ·exact .inr (by omega)
  ·have m1:=mg i k hi hk h1
   have m2:=mg k j hk hj h2
   exact .inr (by omega)
 ·exact Int.not_lt.1 fun hlt=>hn ⟨i,hi,hlt⟩
end Go.Proofs.Ytkimijmiphkddaa
namespace Go.Proofs.Ytkimijmiphkddaa
open Go.RowKit Go.Shelf
theorem sol_neg {x:Nat→Int} {a:List Int} (h:Sol x a) (hn:Neg a):False:=by
 obtain ⟨i,hi,hlt⟩:=hn
 have:=h i i hi hi (by unfold far;omega)
 omega
theorem diag_eq (a:List Int) (h:a.length=81):∃ b,Option.bind (loopN (m42_l3 a) FUEL 0) (Sum.elim (fun (o2:Unit)=>some true) (fun o=>some o))=some b∧(b=true↔¬ Neg a):=by
 obtain ⟨r,h1,h2⟩:=loop_n (step:=m42_l3 a) 9 (fun i (_:Unit)=>i) (fun i _=>∀ p,p < i→0≤gt a p p) (fun r=>(r=.inl ()∧¬ Neg a)∨(r=.inr false∧Neg a)) (by omega)
  (fun i s hi hI=>by
   have e:m42_l3 a (i:Int)=cond (decide (gt a i i < 0)) (some (.done (.inr false))) (some (.next (w64 ((i:Int)+1)))):=by
    unfold m42_l3
    rw [decide_eq_true (show (i:Int) < 9 by omega)]
    simp only [cond_true,Int.toNat_natCast]
    rw [grd hi,grd hi,gt_get h hi hi];rfl
   by_cases c:gt a i i < 0
   ·exact .inl ⟨.inr false,by rw [e,decide_eq_true c];rfl,.inr ⟨rfl,i,hi,c⟩⟩
   ·refine .inr ⟨(),by rw [e,decide_eq_false c];rfl,fun p hp=>?_⟩
    by_cases hpi:p=i
    ·rw [hpi];omega
    ·exact hI p (by omega))
  (fun s hI=>⟨.inl (),by unfold m42_l3;rfl,.inl ⟨rfl,fun ⟨i,hi,hlt⟩=>by have:=hI i hi;omega⟩⟩) () (fun p hp=>by omega)
 have h1':loopN (m42_l3 a) FUEL 0=some r:=h1
 rw [h1']
 rcases h2 with ⟨rfl,h3⟩ | ⟨rfl,h3⟩
 ·exact ⟨true,rfl,fun _=>h3,fun _=>rfl⟩
 ·exact ⟨false,rfl,(fun h=>by cases h),fun h=>(h h3).elim⟩
def Nats (a:List Int):Prop:=∃ x:Nat→Int,x 0=0∧(∀ i,i < 9→0≤x i)∧Sol x a
theorem possible_eq (a:List Int) (hA:Mx a) (hm:∀ i j,i < 9→j < 9→gt a i j=far∨(-101≤gt a i j∧gt a i j≤101)) (h0:∀ i,i < 9→gt a 0 i≤0):∃ b,m42 a=some b∧(b=true↔Nats a):=by
 obtain ⟨f,h1,h2,h3,h4⟩:=loop_n (step:=m42_l2) 9 (fun k (s:List Int)=>(k,s)) (fun k s=>Mx s∧(∀ x,Sol x a→Sol x s)∧(Neg s∨Gd a k s)) (fun s=>Mx s∧(∀ x,Sol x a→Sol x s)∧(Neg s∨Gd a 9 s)) (by omega)
  (fun k s hk hI=>by
   obtain ⟨i1,i2,i3⟩:=hI
   obtain ⟨a',e1,e2⟩:=stage_eq i1 hk s
   refine .inr ⟨a',?_,e2.mx,fun x hx=>e2.sol x (i2 x hx),?_⟩
   ·unfold m42_l2
    dsimp only
    rw [decide_eq_true (show (k:Int) < 9 by omega),cond_true,e1];rfl
   ·rcases i3 with i3 | i3
    ·exact .inl (e2.neg i3)
    ·by_cases hn:Neg a'
     ·exact .inl hn
     ·exact .inr (gd_step hk i3 e2 hn))
  (fun s hI=>⟨s,by unfold m42_l2;rfl,hI⟩) a ⟨hA,fun x hx=>hx,by
   by_cases hn:Neg a
   ·exact .inl hn
   ·refine .inr ⟨fun m i j hm=>by omega,fun i j hi hj=>?_,fun i hi=>Int.not_lt.1 fun hlt=>hn ⟨i,hi,hlt⟩,fun i j _ _=>Int.le_refl _⟩
    rcases hm i j hi hj with h | h
    ·exact .inl h
    ·exact .inr (by simpa using h)⟩
 obtain ⟨b,h5,h6⟩:=diag_eq f h2.1
 have h1':loopN m42_l2 FUEL (0,a)=some f:=h1
 refine ⟨b,?_,h6.trans ⟨fun hn=>?_,fun ⟨x,_,_,hx⟩ hn=>sol_neg (h3 x hx) hn⟩⟩
 ·unfold m42
  rw [h1',Option.bind_some];exact h5
 ·rcases h4 with h4 | h4
  ·exact (hn h4).elim
  ·have hz:∀ i,i < 9→gt f 0 i≤0:=fun i hi=>Int.le_trans (h4.le 0 i (by omega) hi) (h0 i hi)
   refine ⟨fun i=>-(gt f 0 i),?_,fun i hi=>?_,fun i j hi hj hf=>?_⟩
   ·have h7:=h4.dia 0 (by omega)
    have h8:=hz 0 (by omega)
    show -(gt f 0 0)=0
    omega
   ·have:=hz i hi
    show 0≤-(gt f 0 i)
    omega
   ·have h7:=h4.le i j hi hj
    have h8:=hz i hi
    have h9:=h4.tri i 0 j hi (by omega) hj (by unfold far;omega) (by unfold far at hf ⊢;omega)
    show -(gt f 0 i) - -(gt f 0 j)≤gt a i j
    omega
end Go.Proofs.Ytkimijmiphkddaa
namespace Go.Proofs.Ytkimijmiphkddaa
open Go.RowKit Go.Shelf
def Part (l:Lvl):Prop:=(l.vs=[]∧0≤l.c∧l.c≤100)∨∃ v,l.vs=[v]∧0≤v.1∧v.1≤7∧0≤v.2∧v.2≤100
def ptI (l:Lvl):Nat:=match l.vs with
 | []=>0
 | v::_=>v.1.toNat+1
def ptP (l:Lvl):Int:=match l.vs with
 | []=>l.c
 | v::_=>v.2
def pv (x:Nat→Int) (l:Lvl):Int:=ptP l+x (ptI l)
theorem m63_eq {l:Lvl} (h:Part l):m63 l=some ((ptI l:Int),ptP l)∧ptI l < 9∧0≤ptP l∧ptP l≤100:=by
 rcases h with ⟨h1,h2,h3⟩ | ⟨v,h1,h2,h3,h4,h5⟩
 ·unfold m63 ptI ptP
  rw [h1]
  exact ⟨rfl,by decide,h2,h3⟩
 ·have e:w64 (v.1+1)=((v.1.toNat+1:Nat):Int):=by rw [w64_id (by omega) (by omega)];omega
  unfold m63 ptI ptP
  rw [h1]
  refine ⟨?_,by show v.1.toNat+1 < 9;omega,h4,h5⟩
  show some (w64 (v.1+1),v.2)=_
  rw [e]
structure Ini (a:List Int):Prop where
 mx:Mx a
 mag:∀ i j,i < 9→j < 9→gt a i j=far∨(-101≤gt a i j∧gt a i j≤101)
 low:∀ i,i < 9→gt a 0 i≤0
def dem (l h:Lvl) (more:Int) (a:List Int):Option (List Int) :=
 Option.bind (m63 l) fun (x1:Int×Int) =>
 Option.bind (m63 h) fun (x2:Int×Int) =>
 guardO (cond (decide (0≤x1.1)) (Nat.blt x1.1.toNat 9) false)
 (guardO (cond (decide (0≤x2.1)) (Nat.blt x2.1.toNat 9) false)
 (Option.bind (a[0+x1.1.toNat * 9+x2.1.toNat * 1]?) fun (x5:Int) =>
 guardO (cond (decide (0≤x1.1)) (Nat.blt x1.1.toNat 9) false)
 (guardO (cond (decide (0≤x2.1)) (Nat.blt x2.1.toNat 9) false)
 (guardO (Nat.blt (0+x1.1.toNat * 9+x2.1.toNat * 1) a.length)
 (some (a.set (0+x1.1.toNat * 9+x2.1.toNat * 1) (min x5 (w64 ((w64 (x2.2 - x1.2)) - more)))))))))
theorem dem27 (a0 a1:Int) (m:Int) (a:List Int):m41f27 a0 a1 m a=dem ⟨a0,[]⟩ ⟨a1,[]⟩ m a:=rfl
theorem dem29 (a0 a1:Int) (a2:List LV) (m:Int) (a:List Int):m41f29 a0 a1 a2 m a=dem ⟨a0,[]⟩ ⟨a1,a2⟩ m a:=rfl
theorem dem_eq {l h:Lvl} (hl:Part l) (hh:Part h) {m:Int} (hm0:0≤m) (hm1:m≤1) {a:List Int} (ha:Ini a):∃ a',dem l h m a=some a'∧Ini a'∧∀ x,Sol x a'↔Sol x a∧pv x l+m≤pv x h:=by
 obtain ⟨e1,i9,p0,p1⟩:=m63_eq hl
 obtain ⟨e2,j9,q0,q1⟩:=m63_eq hh
 unfold pv
 generalize ptI l=i at *
 generalize ptI h=j at *
 generalize ptP l=p at *
 generalize ptP h=q at *
 have hw:w64 (w64 (q - p) - m)=q - p - m:=by rw [w64_id (n:=q - p) (by omega) (by omega),w64_id (by omega) (by omega)]
 have hlen:=ha.mx.1
 refine ⟨a.set (0+i * 9+j * 1) (min (gt a i j) (q - p - m)),?_,?_⟩
 ·unfold dem
  rw [e1,e2]
  simp only [Option.bind_some,Int.toNat_natCast]
  rw [grd i9,grd j9,gt_get hlen i9 j9,Option.bind_some,grd i9,grd j9,hw,show Nat.blt (0+i * 9+j * 1) a.length=true from Nat.ble_eq_true_of_le (by rw [hlen];omega)]
  rfl
 ·have hs:=fun i' j' (hi':i' < 9) (hj':j' < 9)=>gt_set hlen i9 j9 (min (gt a i j) (q - p - m)) i' j' hi' hj'
  have hl':(a.set (0+i * 9+j * 1) (min (gt a i j) (q - p - m))).length=81:=by rw [List.length_set];exact hlen
  generalize a.set (0+i * 9+j * 1) (min (gt a i j) (q - p - m))=a' at *
  have hij:=ha.mx.2 i j i9 j9
  have hmg:=ha.mag i j i9 j9
  unfold far at hij hmg
  refine ⟨⟨⟨hl',fun i' j' hi' hj'=>?_⟩,fun i' j' hi' hj'=>?_,fun i' hi'=>?_⟩,fun x=>⟨fun h=>⟨fun i' j' hi' hj' hf=>?_,?_⟩,fun ⟨h1,h2⟩ i' j' hi' hj' hf=>?_⟩⟩
  ·rw [hs i' j' hi' hj'];unfold far
   split
   ·omega
   ·exact ha.mx.2 i' j' hi' hj'
  ·rw [hs i' j' hi' hj'];unfold far
   split
   ·omega
   ·exact ha.mag i' j' hi' hj'
  ·rw [hs 0 i' (by omega) hi']
   split
   ·next e =>
    obtain ⟨rfl,rfl⟩:=e
    have:=ha.low i' hi'
    omega
   ·exact ha.low i' hi'
  ·have h3:=h i' j' hi' hj'
   rw [hs i' j' hi' hj'] at h3
   unfold far at h3 hf
   by_cases e:i'=i∧j'=j
   ·rw [if_pos e] at h3
    obtain ⟨rfl,rfl⟩:=e
    omega
   ·rw [if_neg e] at h3;exact h3 hf
  ·have h3:=h i j i9 j9
   rw [hs i j i9 j9,if_pos ⟨rfl,rfl⟩] at h3
   unfold far at h3
   omega
  ·rw [hs i' j' hi' hj'] at hf ⊢
   by_cases e:i'=i∧j'=j
   ·rw [if_pos e] at hf ⊢
    obtain ⟨rfl,rfl⟩:=e
    have h3:=h1 i' j' hi' hj'
    unfold far at h3 hf
    omega
   ·rw [if_neg e] at hf ⊢;exact h1 i' j' hi' hj' hf
def partsL (L:Lvl):List Lvl:=(if 0 < L.c∨L.vs=[] then [⟨L.c,[]⟩] else [])++L.vs.map (fun v=>⟨0,[v]⟩)
theorem bs {α:Type} (o:Option α):Option.bind o (fun x=>some x)=o:=by cases o <;> rfl
theorem len0 {α:Type} (l:List α):((l.length:Int)==0)=decide (l=[]):=by
 rw [beqI]
 congr 1
 rw [eq_iff_iff]
 exact ⟨fun h=>List.length_eq_zero_iff.1 (by omega),fun h=>by rw [h];rfl⟩
theorem snoc_len:∀ (l:List LV) (s:List Lvl),(l.foldl (fun s v=>s++[(⟨0,[v]⟩:Lvl)]) s).length=s.length+l.length
 | [],s=>rfl
 | z::l,s=>by
  rw [List.foldl_cons,snoc_len l]
  simp only [List.length_append,List.length_cons,List.length_nil]
  omega
theorem m39_eq (L:Lvl) (hl:L.vs.length≤900000000):m39f23 L=some (partsL L):=by
 have hloop:∀ s0:List Lvl,s0.length≤1→loopN (m61f24_l0 L) FUEL (0,s0)=some (s0++L.vs.map (fun v=>⟨0,[v]⟩)):=by
  intro s0 hs
  refine loop_fold (step:=m61f24_l0 L) L.vs (fun i (s:List Lvl)=>(i,s)) (fun s v=>s++[(⟨0,[v]⟩:Lvl)]) s0 _ hl (fun a x b e=>?_) ?_
  ·have hm:=mid_lt e
   have hlen:=snoc_len a s0
   unfold m61f24_l0
   dsimp only
   rw [e,lt_mid,idx_mid]
   simp only [cond_true,Option.bind_some]
   rw [guard_le (by rw [hlen,List.length_singleton];omega)];rfl
  ·have:∀ (l:List LV) (s:List Lvl),l.foldl (fun s v=>s++[(⟨0,[v]⟩:Lvl)]) s=s++l.map (fun v=>⟨0,[v]⟩):=by
    intro l
    induction l with
    | nil=>intro s;simp
    | cons z l ih=>intro s;rw [List.foldl_cons,ih];simp
   rw [this]
   unfold m61f24_l0
   dsimp only
   rw [lt_end];rfl
 unfold m39f23 m61f24 partsL
 simp only [bs]
 rw [len0]
 by_cases c1:0 < L.c
 ·rw [decide_eq_true c1,cond_true,if_pos (Or.inl c1),guard_le (by simp)]
  exact hloop [⟨L.c,[]⟩] (by simp)
 ·rw [decide_eq_false c1,cond_false]
  by_cases c2:L.vs=[]
  ·rw [decide_eq_true c2,cond_true,if_pos (Or.inr c2),guard_le (by simp)]
   exact hloop [⟨L.c,[]⟩] (by simp)
  ·rw [decide_eq_false c2,if_neg (by rintro (h | h) <;> contradiction)]
   exact hloop [] (by simp)
theorem all_parts (L:Lvl) (hl:L.vs.length≤900000000) (D:Lvl→List Int→Option (List Int)) (R:(Nat→Int)→Lvl→Prop)
  (hD:∀ p∈partsL L,∀ a,Ini a→∃ a',D p a=some a'∧Ini a'∧∀ x,Sol x a'↔Sol x a∧R x p) {step:Int×List Int→Option (LO (Int×List Int) (List Int))}
  (hstep:∀ (a:List LV) (v:LV) (b:List LV) (s:List Int),L.vs=a++v::b→step ((a.length:Int),s)=Option.bind (D ⟨0,[v]⟩ s) (fun y=>some (.next (w64 ((a.length:Int)+1),y))))
  (hout:∀ s,step ((L.vs.length:Int),s)=some (.done s)) (a:List Int) (ha:Ini a) :
  ∃ a',Option.bind (cond (decide (0 < L.c)) (D ⟨L.c,[]⟩ a) (cond ((L.vs.length:Int)==0) (D ⟨L.c,[]⟩ a) (some a))) (fun v=>loopN step FUEL (0,v))=some a'∧Ini a'∧∀ x,Sol x a'↔Sol x a∧∀ p∈partsL L,R x p:=by
 have vars:∀ s0,Ini s0→∃ a',loopN step FUEL (0,s0)=some a'∧Ini a'∧∀ x,Sol x a'↔Sol x s0∧∀ v∈L.vs,R x ⟨0,[v]⟩:=by
  intro s0 h0
  exact loop_all (step:=step) L.vs (fun i (s:List Int)=>(i,s)) (fun p s=>Ini s∧∀ x,Sol x s↔Sol x s0∧∀ v∈p,R x ⟨0,[v]⟩) (fun s=>Ini s∧∀ x,Sol x s↔Sol x s0∧∀ v∈L.vs,R x ⟨0,[v]⟩) hl
   (fun p v q s e hI=>by
    obtain ⟨a',h1,h2,h3⟩:=hD ⟨0,[v]⟩ (by unfold partsL;exact List.mem_append_right _ (List.mem_map.2 ⟨v,by rw [e];simp,rfl⟩)) s hI.1
    refine .inr ⟨a',by rw [hstep p v q s e,h1];rfl,h2,fun x=>?_⟩
    rw [h3,hI.2]
    constructor
    ·rintro ⟨⟨h4,h5⟩,h6⟩
     refine ⟨h4,fun u hu=>?_⟩
     rcases List.mem_append.1 hu with hu | hu
     ·exact h5 u hu
     ·rw [List.mem_singleton.1 hu];exact h6
    ·rintro ⟨h4,h5⟩
     exact ⟨⟨h4,fun u hu=>h5 u (List.mem_append_left _ hu)⟩,h5 v (by simp)⟩)
   (fun s hI=>⟨s,hout s,hI⟩) s0 ⟨h0,fun x=>⟨fun h=>⟨h,fun v hv=>by cases hv⟩,fun h=>h.1⟩⟩
 rw [len0]
 by_cases c:0 < L.c∨L.vs=[]
 ·have hp:⟨L.c,[]⟩∈partsL L:=by unfold partsL;rw [if_pos c];simp
  obtain ⟨a1,h1,h2,h3⟩:=hD _ hp a ha
  obtain ⟨a2,h4,h5,h6⟩:=vars a1 h2
  have e:cond (decide (0 < L.c)) (D ⟨L.c,[]⟩ a) (cond (decide (L.vs=[])) (D ⟨L.c,[]⟩ a) (some a))=some a1:=by
   rw [h1]
   rcases c with c | c
   ·rw [decide_eq_true c];rfl
   ·rw [decide_eq_true c];cases decide (0 < L.c) <;> rfl
  rw [e]
  refine ⟨a2,h4,h5,fun x=>?_⟩
  rw [h6,h3]
  unfold partsL
  rw [if_pos c]
  constructor
  ·rintro ⟨⟨h7,h8⟩,h9⟩
   refine ⟨h7,fun p hp=>?_⟩
   rcases List.mem_append.1 hp with hp | hp
   ·rw [List.mem_singleton.1 hp];exact h8
   ·obtain ⟨v,hv,rfl⟩:=List.mem_map.1 hp
    exact h9 v hv
  ·rintro ⟨h7,h8⟩
   exact ⟨⟨h7,h8 _ (by simp)⟩,fun v hv=>h8 _ (List.mem_append_right _ (List.mem_map.2 ⟨v,hv,rfl⟩))⟩
 ·obtain ⟨a2,h4,h5,h6⟩:=vars a ha
  rw [decide_eq_false (fun h=>c (.inl h)),decide_eq_false (fun h=>c (.inr h))]
  refine ⟨a2,h4,h5,fun x=>?_⟩
  rw [h6]
  unfold partsL
  rw [if_neg c]
  refine and_congr_right fun _=>⟨fun h p hp=>?_,fun h v hv=>h _ (List.mem_append_right _ (List.mem_map.2 ⟨v,hv,Z⟩))⟩
  rw [List.nil_append] at hp
  obtain ⟨v,hv,rfl⟩:=List.mem_map.1 hp
  exact h v hv
end Go.Proofs.Ytkimijmiphkddaa
namespace Go.Proofs.Ytkimijmiphkddaa
open Go.RowKit Go.Shelf
def LvV (L:Lvl):Prop:=0≤L.c∧L.c≤100∧∀ v∈L.vs,0≤v.1∧v.1≤7∧0≤v.2∧v.2≤100
theorem LvV.part {L:Lvl} (h:LvV L) {p:Lvl} (hp:p∈partsL L):Part p:=by
 unfold partsL at hp
 rcases List.mem_append.1 hp with hp | hp
 ·split at hp
  ·rw [List.mem_singleton.1 hp];exact .inl ⟨rfl,h.1,h.2.1⟩
  ·cases hp
 ·obtain ⟨v,hv,rfl⟩:=List.mem_map.1 hp
  obtain ⟨h1,h2,h3,h4⟩:=h.2.2 v hv
  exact .inr ⟨v,Z,h1,h2,h3,h4⟩
theorem LvV.var {L:Lvl} (h:LvV L) {v:LV} (hv:v∈L.vs):Part ⟨0,[v]⟩:=h.part (by unfold partsL;exact List.mem_append_right _ (List.mem_map.2 ⟨v,hv,rfl⟩))
theorem parts_ne (L:Lvl):partsL L ≠ []:=by
 unfold partsL
 cases h:L.vs with
 | nil=>rw [if_pos (Or.inr rfl)];simp
 | cons v l=>simp
def Nt (x:Nat→Int):Prop:=x 0=0∧∀ i,i < 9→0≤x i
theorem ref_gen (hi p:Lvl) (hhi:LvV hi) (hp:Part p) (hl:hi.vs.length≤900000000) {step:Int×List Int→Option (LO (Int×List Int) (List Int))}
  (hstep:∀ (a:List LV) (v:LV) (b:List LV) (s:List Int),hi.vs=a++v::b→step ((a.length:Int),s)=Option.bind (dem ⟨0,[v]⟩ p 1 s) (fun y=>some (.next (w64 ((a.length:Int)+1),y))))
  (hout:∀ s,step ((hi.vs.length:Int),s)=some (.done s)) (o8:List Int) (h8:Ini o8) :
  ∃ b:Bool,(guardO (Nat.beq o8.length 81) (guardO (Nat.beq (List.replicate 81 (0:Int)).length 81) (guardO (Nat.beq o8.length 81)
   (Option.bind (Option.bind (cond (decide (0 < hi.c)) (dem ⟨hi.c,[]⟩ p 1 o8) (cond ((hi.vs.length:Int)==0) (dem ⟨hi.c,[]⟩ p 1 o8) (some o8))) (fun v=>loopN step FUEL (0,v)))
    (fun (y28:List Int)=>guardO (Nat.beq y28.length 81) (Option.bind (m42 y28) fun (x50:Bool)=>cond x50 (some (.inr ():Unit⊕Unit)) (some (.inl ()))))))))=some (cond b (.inr ()) (.inl ())) ∧
   (b=true↔∃ x,Nt x∧Sol x o8∧∀ o∈partsL hi,pv x o+1≤pv x p):=by
 obtain ⟨y,h1,h2,h3⟩:=all_parts hi hl (fun o a=>dem o p 1 a) (fun x o=>pv x o+1≤pv x p) (fun o ho a ha=>dem_eq (hhi.part ho) hp (by omega) (by omega) ha) hstep hout o8 h8
 obtain ⟨b,h4,h5⟩:=possible_eq y h2.mx h2.mag h2.low
 have hlen:=h8.mx.1
 have hlen2:=h2.mx.1
 refine ⟨b,?_,h5.trans ⟨fun ⟨x,hx0,hx1,hx2⟩=>?_,fun ⟨x,hx,h6,h7⟩=>⟨x,hx.1,hx.2,(h3 x).2 ⟨h6,h7⟩⟩⟩⟩
 ·have h1':Option.bind (cond (decide (0 < hi.c)) (dem ⟨hi.c,[]⟩ p 1 o8) (cond ((hi.vs.length:Int)==0) (dem ⟨hi.c,[]⟩ p 1 o8) (some o8))) (fun v=>loopN step FUEL (0,v))=some y:=h1
  rw [guard_eq hlen,guard_eq (by rw [List.length_replicate]),guard_eq hlen,h1',Option.bind_some,guard_eq hlen2,h4,Option.bind_some]
  cases b <;> rfl
 ·obtain ⟨h6,h7⟩:=(h3 x).1 hx2
  exact ⟨x,⟨hx0,hx1⟩,h6,h7⟩
def M0:List Int:=(List.range 81).map fun t=>if t < 9∨t / 9=t % 9 then 0 else 1048576
theorem init_eq:loopN m18_l1 FUEL (0,(List.replicate 81 (0:Int)))=some M0:=by kernel_rfl
theorem M0_get:∀ i,i < 9→∀ j,j < 9→gt M0 i j=if i=0∨i=j then 0 else 1048576:=by decide +kernel
theorem M0_ini:Ini M0:=by
 refine ⟨⟨by decide +kernel,fun i j hi hj=>?_⟩,fun i j hi hj=>?_,fun i hi=>?_⟩
 ·rw [M0_get i hi j hj];unfold far;split <;> omega
 ·rw [M0_get i hi j hj];unfold far;split <;> omega
 ·rw [M0_get 0 (by omega) i hi,if_pos (Or.inl rfl)];omega
theorem M0_sol {x:Nat→Int} (h:Nt x):Sol x M0:=by
 intro i j hi hj hf
 rw [M0_get i hi j hj] at hf ⊢
 have h1:=h.1
 have h2:=h.2 j hj
 unfold far at hf
 split
 ·next e =>
  rcases e with rfl | rfl
  ·omega
  ·omega
 ·next e=>rw [if_neg e] at hf;omega
def one1 (bd:Bnd):Prop:=(partsL bd.hi).length=1
def holdsB (x:Nat→Int) (bd:Bnd):Prop:=∀ h,h∈partsL bd.hi→∀ p∈partsL bd.lo,pv x p≤pv x h
structure BdV (bd:Bnd):Prop where
 lo:LvV bd.lo
 hi:LvV bd.hi
 ll:bd.lo.vs.length≤900000000
 lh:bd.hi.vs.length≤900000000
theorem bounds_eq (a0:List Bnd) (hl:a0.length≤900000000) (hv:∀ bd∈a0,BdV bd):∃ r,loopN (m18_l3 a0) FUEL (0,M0)=some r ∧
  ((r=.inr (false,1)∧¬ ∀ bd∈a0,one1 bd)∨∃ s,r=.inl s∧(∀ bd∈a0,one1 bd)∧Ini s∧∀ x,Sol x s↔Sol x M0∧∀ bd∈a0,holdsB x bd):=by
 refine loop_all (step:=m18_l3 a0) a0 (fun i (s:List Int)=>(i,s)) (fun a s=>(∀ bd∈a,one1 bd)∧Ini s∧∀ x,Sol x s↔Sol x M0∧∀ bd∈a,holdsB x bd) (fun r=>(r=.inr (false,1)∧¬ ∀ bd∈a0,one1 bd)∨∃ s,r=.inl s∧(∀ bd∈a0,one1 bd)∧Ini s∧∀ x,Sol x s↔Sol x M0∧∀ bd∈a0,holdsB x bd) hl
  (fun a bd b s e hI=>?_) (fun s hI=>⟨.inl s,by unfold m18_l3;dsimp only;rw [lt_end];rfl,.inr ⟨s,rfl,hI⟩⟩) M0 ⟨(fun bd h=>by cases h),M0_ini,fun x=>⟨fun h=>⟨h,(fun bd h=>by cases h)⟩,fun h=>h.1⟩⟩
 have hbd:=hv bd (by rw [e];simp)
 have hlt:decide ((a.length:Int) < (a0.length:Int))=true:=by rw [e];exact lt_mid a bd b
 have hidx:idx a0 (a.length:Int)=some bd:=by rw [e];exact idx_mid a bd b
 have hne:=parts_ne bd.hi
 by_cases c:1 < ((partsL bd.hi).length:Int)
 ·refine .inl ⟨.inr (false,1),?_,.inl ⟨rfl,fun h=>by have:=h bd (by rw [e];simp);unfold one1 at this;omega⟩⟩
  unfold m18_l3
  dsimp only
  rw [hlt,hidx]
  simp only [cond_true,Option.bind_some]
  rw [m39_eq _ hbd.lh,Option.bind_some,decide_eq_true c];rfl
 ·obtain ⟨h,hh⟩:∃ h,partsL bd.hi=[h]:=by
   cases hp:partsL bd.hi with
   | nil=>exact (hne hp).elim
   | cons h l =>
    cases l with
    | nil=>exact ⟨h,rfl⟩
    | cons y l=>rw [hp] at c;simp at c;omega
  have hpart:Part h:=hbd.hi.part (by rw [hh];simp)
  obtain ⟨s',h1,h2,h3⟩:=all_parts bd.lo hbd.ll (fun p a=>dem p h 0 a) (fun x p=>pv x p+0≤pv x h) (fun p hp a ha=>dem_eq (hbd.lo.part hp) hpart (by omega) (by omega) ha) (step:=m18_l2 bd [h])
   (fun a v b s e=>by
    unfold m18_l2
    dsimp only
    rw [e,lt_mid,idx_mid]
    simp only [cond_true,Option.bind_some,bs]
    rfl)
   (fun s=>by unfold m18_l2;dsimp only;rw [lt_end];rfl) s hI.2.1
  refine .inr ⟨s',?_,fun b' hb'=>?_,h2,fun x=>?_⟩
  ·unfold m18_l3
   dsimp only
   rw [hlt,hidx]
   simp only [cond_true,Option.bind_some]
   rw [m39_eq _ hbd.lh,Option.bind_some,hh]
   simp only [bs]
   show Option.bind (Option.bind (cond (decide (0 < bd.lo.c)) (dem ⟨bd.lo.c,[]⟩ h 0 s) (cond ((bd.lo.vs.length:Int)==0) (dem ⟨bd.lo.c,[]⟩ h 0 s) (some s))) (fun v=>loopN (m18_l2 bd [h]) FUEL (0,v))) _=_
   have h1':Option.bind (cond (decide (0 < bd.lo.c)) (dem ⟨bd.lo.c,[]⟩ h 0 s) (cond ((bd.lo.vs.length:Int)==0) (dem ⟨bd.lo.c,[]⟩ h 0 s) (some s))) (fun v=>loopN (m18_l2 bd [h]) FUEL (0,v))=some s':=h1
   rw [h1'];rfl
  ·rcases List.mem_append.1 hb' with hb' | hb'
   ·exact hI.1 b' hb'
   ·rw [List.mem_singleton.1 hb'];unfold one1;rw [hh];rfl
  ·rw [h3,hI.2.2]
   have hone:holdsB x bd↔∀ p∈partsL bd.lo,pv x p+0≤pv x h:=by
    unfold holdsB
    rw [hh]
    exact ⟨fun h1 p hp=>by have:=h1 h (by simp) p hp;omega,fun h1 h' hh' p hp=>by rw [List.mem_singleton.1 hh'];have:=h1 p hp;omega⟩
   constructor
   ·rintro ⟨⟨h4,h5⟩,h6⟩
    refine ⟨h4,fun b' hb'=>?_⟩
    rcases List.mem_append.1 hb' with hb' | hb'
    ·exact h5 b' hb'
    ·rw [List.mem_singleton.1 hb'];exact hone.2 h6
   ·rintro ⟨h4,h5⟩
    exact ⟨⟨h4,fun b' hb'=>h5 b' (List.mem_append_left _ hb')⟩,hone.1 (h5 bd (by simp))⟩
end Go.Proofs.Ytkimijmiphkddaa
namespace Go.Proofs.Ytkimijmiphkddaa
open Go.RowKit Go.Shelf
theorem loop_bad {α β:Type} {step:Int→Option (LO Int β)} (l:List α) (bad:List α→α→Prop) (r0 r1:β) (hlen:l.length≤900000000)
  (hin:∀ (a:List α) (x:α) (b:List α),l=a++x::b→(bad a x→step (a.length:Int)=some (.done r0))∧(¬ bad a x→step (a.length:Int)=some (.next (w64 ((a.length:Int)+1)))))
  (hout:step (l.length:Int)=some (.done r1)):∃ r,loopN step FUEL 0=some r∧((r=r1∧∀ a x b,l=a++x::b→¬ bad a x)∨(r=r0∧∃ a x b,l=a++x::b∧bad a x)):=by
 refine loop_all (step:=step) l (fun i (_:Unit)=>i) (fun a _=>∀ a' x b',a=a'++x::b'→¬ bad a' x) (fun r=>(r=r1∧∀ a x b,l=a++x::b→¬ bad a x)∨(r=r0∧∃ a x b,l=a++x::b∧bad a x)) hlen
  (fun a x b s hl hI=>?_) (fun s hI=>⟨r1,hout,.inl ⟨rfl,hI⟩⟩) () (fun a' x b' h=>by cases a' <;> cases h)
 by_cases hb:bad a x
 ·exact .inl ⟨r0,(hin a x b hl).1 hb,.inr ⟨rfl,a,x,b,hl,hb⟩⟩
 ·refine .inr ⟨(),(hin a x b hl).2 hb,fun a' y b' h=>?_⟩
  rcases List.append_eq_append_iff.1 h with ⟨c,h1,h2⟩ | ⟨c,h1,h2⟩
  ·cases c with
   | nil =>
    rw [List.nil_append] at h2
    cases h2
    rw [List.append_nil] at h1
    rw [h1];exact hb
   | cons z c =>
    exfalso
    have:=congrArg List.length h2
    simp at this
  ·cases c with
   | nil =>
    rw [List.nil_append] at h2
    cases h2
    rw [List.append_nil] at h1
    rw [← h1];exact hb
   | cons z c =>
    rw [List.cons_append] at h2
    cases h2
    exact hI a' y c h1
theorem idx_some {α:Type} {l:List α} {i:Int} (h0:0≤i) (h1:i < (l.length:Int)):∃ x,idx l i=some x:=by
 cases i with
 | ofNat k=>exact ⟨l[k]'(by have:(Int.ofNat k) < (l.length:Int):=h1;simp at this;omega),List.getElem?_eq_getElem _⟩
 | negSucc k=>omega
def lvBad (l:Lvl) (a:List LV) (x:LV):Prop:=x.1 < -65536∨7 < x.1∨x.2 < 0∨100 < x.2∨(0 < a.length∧∃ y,idx l.vs (w64 ((a.length:Int) - 1))=some y∧x.1≤y.1)
theorem prev_some {l:List LV} {a:List LV} {x:LV} {b:List LV} (h:l.length≤900000000) (e:l=a++x::b) (ha:0 < a.length):∃ y,idx l (w64 ((a.length:Int) - 1))=some y:=by
 have:=mid_lt e
 rw [w64_id (by omega) (by omega)]
 exact idx_some (by omega) (by omega)
theorem m84_eq (l:List LV) (u:Lvl) (h:l.length≤900000000):∃ b,m70f0 l u=some b∧(b=true↔∃ x∈l,u.c≤x.2):=by
 have h1:∃ r,loopN (m84f1_l0 l u) FUEL 0=some r∧((r=.inl ())∧(∀ x∈l,¬ u.c≤x.2)∨∃ k:Nat,r=.inr (k:Int)∧∃ x∈l,u.c≤x.2):=by
  refine loop_all (step:=m84f1_l0 l u) l (fun i (_:Unit)=>i) (fun a _=>∀ x∈a,¬ u.c≤x.2) (fun r=>((r=.inl ())∧(∀ x∈l,¬ u.c≤x.2)∨∃ k:Nat,r=.inr (k:Int)∧∃ x∈l,u.c≤x.2)) h
   (fun a x b s e hI=>?_) (fun s hI=>⟨.inl (),by unfold m84f1_l0;rw [lt_end];rfl,.inl ⟨rfl,hI⟩⟩) () (fun x hx=>by cases hx)
  by_cases hx:u.c≤x.2
  ·refine .inl ⟨.inr (a.length:Int),?_,.inr ⟨a.length,rfl,x,by rw [e];simp,hx⟩⟩
   unfold m84f1_l0
   rw [e,lt_mid,idx_mid]
   show cond (decide (u.c≤x.2)) _ _=_
   rw [decide_eq_true hx];rfl
  ·refine .inr ⟨(),?_,fun y hy=>?_⟩
   ·unfold m84f1_l0
    rw [e,lt_mid,idx_mid]
    show cond (decide (u.c≤x.2)) _ _=_
    rw [decide_eq_false hx];rfl
   ·rcases List.mem_append.1 hy with hy | hy
    ·exact hI y hy
    ·rw [List.mem_singleton.1 hy];exact hx
 obtain ⟨r,h2,h3⟩:=h1
 unfold m70f0 m84f1
 rw [h2]
 rcases h3 with ⟨rfl,h4⟩ | ⟨k,rfl,h4⟩
 ·exact ⟨false,rfl,⟨fun h=>(by cases h),fun ⟨x,hx,h⟩=>(h4 x hx h).elim⟩⟩
 ·refine ⟨true,?_,⟨fun _=>h4,fun _=>rfl⟩⟩
  show some (decide ((0:Int)≤(k:Int)))=_
  rw [decide_eq_true (by omega)]
def lvP (l:Lvl):Prop:=0≤l.c∧l.c≤100∧(0 < l.c→∀ x∈l.vs,¬ l.c≤x.2)∧∀ a x b,l.vs=a++x::b→¬ lvBad l a x
theorem m28_eq (l:Lvl) (h:l.vs.length≤900000000):∃ b,m28 l=some b∧(b=true↔lvP l):=by
 have hloop:=loop_bad (β:=Unit⊕Bool) (step:=m28_l0 l) l.vs (lvBad l) (.inr false) (.inl ()) h (fun a x b e=>by
  have hprev:=fun ha=>prev_some (x:=x) (b:=b) h e ha
  have:m28_l0 l (a.length:Int)=Option.bind (cond (decide (x.1 < (-65536))) (some true) (cond (decide (7 < x.1)) (some true) (cond (decide (x.2 < 0)) (some true) (cond (decide (100 < x.2)) (some true)
    (cond (decide (0 < (a.length:Int))) (Option.bind (idx l.vs (w64 ((a.length:Int) - 1))) fun (x12:LV)=>some (decide (x.1≤x12.1))) (some false)))))) (fun (v6:Bool)=>cond v6 (some (.done (.inr false))) (some (.next (w64 ((a.length:Int)+1))))):=by
   unfold m28_l0
   have e2:l.vs=a++x::b:=e
   rw [show decide ((a.length:Int) < (l.vs.length:Int))=true from by rw [e2];exact lt_mid a x b,show idx l.vs (a.length:Int)=some x from by rw [e2];exact idx_mid a x b]
   rfl
  rw [this]
  unfold lvBad
  by_cases c1:x.1 < -65536
  ·rw [decide_eq_true c1];exact ⟨fun _=>rfl,fun h=>(h (.inl c1)).elim⟩
  rw [decide_eq_false c1,cond_false]
  by_cases c2:7 < x.1
  ·rw [decide_eq_true c2];exact ⟨fun _=>rfl,fun h=>(h (.inr (.inl c2))).elim⟩
  rw [decide_eq_false c2,cond_false]
  by_cases c3:x.2 < 0
  ·rw [decide_eq_true c3];exact ⟨fun _=>rfl,fun h=>(h (.inr (.inr (.inl c3)))).elim⟩
  rw [decide_eq_false c3,cond_false]
  by_cases c4:100 < x.2
  ·rw [decide_eq_true c4];exact ⟨fun _=>rfl,fun h=>(h (.inr (.inr (.inr (.inl c4))))).elim⟩
  rw [decide_eq_false c4,cond_false]
  by_cases c5:0 < a.length
  ·rw [decide_eq_true (show 0 < (a.length:Int) by omega),cond_true]
   obtain ⟨y,hy⟩:=hprev c5
   rw [hy,Option.bind_some]
   by_cases c6:x.1≤y.1
   ·rw [decide_eq_true c6];exact ⟨fun _=>rfl,fun h=>(h (.inr (.inr (.inr (.inr ⟨c5,y,rfl,c6⟩))))).elim⟩
   ·rw [decide_eq_false c6]
    refine ⟨fun h=>?_,fun _=>rfl⟩
    rcases h with h | h | h | h | ⟨-,z,hz,h⟩
    ·exact (c1 h).elim
    ·exact (c2 h).elim
    ·exact (c3 h).elim
    ·exact (c4 h).elim
    ·cases hz;exact (c6 h).elim
  ·rw [decide_eq_false (show ¬ 0 < (a.length:Int) by omega)]
   refine ⟨fun h=>?_,fun _=>rfl⟩
   rcases h with h | h | h | h | ⟨h,-⟩
   ·exact (c1 h).elim
   ·exact (c2 h).elim
   ·exact (c3 h).elim
   ·exact (c4 h).elim
   ·exact (c5 h).elim) (by unfold m28_l0;rw [lt_end];rfl)
 obtain ⟨r,h1,h2⟩:=hloop
 obtain ⟨b,h3,h4⟩:=m84_eq l.vs l h
 unfold m28
 rw [h3,h1]
 by_cases c1:l.c < 0
 ·rw [decide_eq_true c1];exact ⟨false,rfl,⟨fun h=>(Bool.false_ne_true h).elim,fun h=>by have:=h.1;omega⟩⟩
 rw [decide_eq_false c1,cond_false]
 by_cases c2:100 < l.c
 ·rw [decide_eq_true c2];exact ⟨false,rfl,⟨fun h=>(Bool.false_ne_true h).elim,fun h=>by have:=h.2.1;omega⟩⟩
 rw [decide_eq_false c2,cond_false]
 have key:(∃ x,(0 < l.c∧(∃ x∈l.vs,l.c≤x.2)→x=false)∧(¬ (0 < l.c∧∃ x∈l.vs,l.c≤x.2)→Option.bind (some r) (Sum.elim (fun (o3:Unit)=>some true) (fun o=>some o))=some x)∧cond (decide (0 < l.c)) (Option.bind (Option.bind (some b) fun (x7:Bool)=>some x7) (fun (y5:Bool)=>some y5)) (some false)=some (decide (0 < l.c∧∃ x∈l.vs,l.c≤x.2))∧(x=true→r=.inl ())∧(¬ (0 < l.c∧∃ x∈l.vs,l.c≤x.2)→r=.inl ()→x=true)):=by
  by_cases c3:0 < l.c
  ·rw [decide_eq_true c3]
   cases b with
   | true =>
    have h5:=h4.1 rfl
    exact ⟨false,fun _=>rfl,fun h=>(h ⟨c3,h5⟩).elim,by rw [decide_eq_true ⟨c3,h5⟩];rfl,fun h=>(by cases h),fun h=>(h ⟨c3,h5⟩).elim⟩
   | false =>
    have h5:¬ ∃ x∈l.vs,l.c≤x.2:=fun h=>by have:=h4.2 h;cases this
    rcases h2 with ⟨rfl,-⟩ | ⟨rfl,-⟩
    ·exact ⟨true,fun h=>(h5 h.2).elim,fun _=>rfl,by rw [decide_eq_false fun h=>h5 h.2];rfl,fun _=>rfl,fun _ _=>rfl⟩
    ·exact ⟨false,fun h=>(h5 h.2).elim,fun _=>rfl,by rw [decide_eq_false fun h=>h5 h.2];rfl,fun h=>(by cases h),fun _ h=>by cases h⟩
  ·rw [decide_eq_false c3]
   rcases h2 with ⟨rfl,-⟩ | ⟨rfl,-⟩
   ·exact ⟨true,fun h=>(c3 h.1).elim,fun _=>rfl,by rw [decide_eq_false fun h=>c3 h.1];rfl,fun _=>rfl,fun _ _=>rfl⟩
   ·exact ⟨false,fun h=>(c3 h.1).elim,fun _=>rfl,by rw [decide_eq_false fun h=>c3 h.1];rfl,fun h=>(by cases h),fun _ h=>by cases h⟩
 obtain ⟨x,k1,k2,k3,k4,k5⟩:=key
 rw [k3,Option.bind_some]
 by_cases c4:0 < l.c∧∃ x∈l.vs,l.c≤x.2
 ·rw [decide_eq_true c4]
  refine ⟨false,Z,fun h=>(Bool.false_ne_true h).elim,fun h=>?_⟩
  obtain ⟨y,hy,hy2⟩:=c4.2
  exact (h.2.2.1 c4.1 y hy hy2).elim
 ·rw [decide_eq_false c4]
  refine ⟨x,k2 c4,fun h=>?_,fun h=>?_⟩
  ·have h6:=k4 h
   rcases h2 with ⟨-,h7⟩ | ⟨h7,-⟩
   ·exact ⟨by omega,by omega,fun h8 y hy h9=>c4 ⟨h8,y,hy,h9⟩,h7⟩
   ·rw [h7] at h6;cases h6
  ·refine k5 c4 ?_
   rcases h2 with ⟨h7,-⟩ | ⟨-,a,y,c,h7,h8⟩
   ·exact h7
   ·exact (h.2.2.2 a y c h7 h8).elim
theorem m30_eq (l:Lvl) (h:l.vs.length≤900000000):∃ b,m30 l=some b∧(b=true↔lvP l):=by
 have hloop:=loop_bad (β:=Unit⊕Bool) (step:=m30_l0 l) l.vs (fun a x=>lvBad l a x∨(0 < l.c∧l.c≤x.2)) (.inr false) (.inl ()) h (fun a x b e=>by
  have hprev:=fun ha=>prev_some (x:=x) (b:=b) h e ha
  have:m30_l0 l (a.length:Int)=Option.bind (cond (decide (x.1 < (-65536))) (some true) (cond (decide (8≤x.1)) (some true) (cond (decide (x.2 < 0)) (some true) (some (decide (100 < x.2)))))) (fun (v6:Bool)=>cond v6 (some (.done (.inr false))) (Option.bind (cond (decide (0 < (a.length:Int))) (Option.bind (idx l.vs (w64 ((a.length:Int) - 1))) fun (x10:LV)=>some (decide (x.1≤x10.1))) (some false)) (fun (v8:Bool)=>cond v8 (some (.done (.inr false))) (Option.bind (cond (decide (0 < l.c)) (some (decide (l.c≤x.2))) (some false)) (fun (v10:Bool)=>cond v10 (some (.done (.inr false))) (some (.next (w64 ((a.length:Int)+1))))))))):=by
   unfold m30_l0
   have e2:l.vs=a++x::b:=e
   rw [show decide ((a.length:Int) < (l.vs.length:Int))=true from by rw [e2];exact lt_mid a x b,show idx l.vs (a.length:Int)=some x from by rw [e2];exact idx_mid a x b]
   rfl
  rw [this]
  unfold lvBad
  by_cases c1:x.1 < -65536
  ·rw [decide_eq_true c1];exact ⟨fun _=>rfl,fun h=>(h (.inl (.inl c1))).elim⟩
  rw [decide_eq_false c1,cond_false]
  by_cases c2:7 < x.1
  ·rw [decide_eq_true (show 8≤x.1 by omega)];exact ⟨fun _=>rfl,fun h=>(h (.inl (.inr (.inl c2)))).elim⟩
  rw [decide_eq_false (show ¬ 8≤x.1 by omega),cond_false]
  by_cases c3:x.2 < 0
  ·rw [decide_eq_true c3];exact ⟨fun _=>rfl,fun h=>(h (.inl (.inr (.inr (.inl c3))))).elim⟩
  rw [decide_eq_false c3,cond_false]
  by_cases c4:100 < x.2
  ·rw [decide_eq_true c4];exact ⟨fun _=>rfl,fun h=>(h (.inl (.inr (.inr (.inr (.inl c4)))))).elim⟩
  rw [decide_eq_false c4,Option.bind_some]
  show (_→Option.bind (cond (decide (0 < (a.length:Int))) (Option.bind (idx l.vs (w64 ((a.length:Int) - 1))) fun (b0_:LV)=>some (decide (x.1≤b0_.1))) (some false)) _=_)∧(_→Option.bind (cond (decide (0 < (a.length:Int))) (Option.bind (idx l.vs (w64 ((a.length:Int) - 1))) fun (b0_:LV)=>some (decide (x.1≤b0_.1))) (some false)) _=_)
  have hlast:∀ (hno:¬ (0 < a.length∧∃ y,idx l.vs (w64 ((a.length:Int) - 1))=some y∧x.1≤y.1)),((((x.1 < -65536∨7 < x.1∨x.2 < 0∨100 < x.2∨(0 < a.length∧∃ y,idx l.vs (w64 ((a.length:Int) - 1))=some y∧x.1≤y.1)))∨(0 < l.c∧l.c≤x.2))→Option.bind (cond (decide (0 < l.c)) (some (decide (l.c≤x.2))) (some false)) (fun (b2_:Bool)=>(cond b2_ (some (.done (.inr false))) (some (.next (w64 ((a.length:Int)+1)))):Option (LO Int (Unit⊕Bool))))=some (.done (.inr false:Unit⊕Bool)))∧(¬ (((x.1 < -65536∨7 < x.1∨x.2 < 0∨100 < x.2∨(0 < a.length∧∃ y,idx l.vs (w64 ((a.length:Int) - 1))=some y∧x.1≤y.1)))∨(0 < l.c∧l.c≤x.2))→Option.bind (cond (decide (0 < l.c)) (some (decide (l.c≤x.2))) (some false)) (fun (b2_:Bool)=>(cond b2_ (some (.done (.inr false))) (some (.next (w64 ((a.length:Int)+1)))):Option (LO Int (Unit⊕Bool))))=some (.next (β:=Unit⊕Bool) (w64 ((a.length:Int)+1)))):=by
   intro hno
   by_cases c7:0 < l.c
   ·rw [decide_eq_true c7]
    by_cases c8:l.c≤x.2
    ·rw [decide_eq_true c8];exact ⟨fun _=>rfl,fun h=>(h (.inr ⟨c7,c8⟩)).elim⟩
    ·rw [decide_eq_false c8]
     refine ⟨fun h=>?_,fun _=>rfl⟩
     rcases h with (h | h | h | h | h) | ⟨-,h⟩
     ·exact (c1 h).elim
     ·exact (c2 h).elim
     ·exact (c3 h).elim
     ·exact (c4 h).elim
     ·exact (hno h).elim
     ·exact (c8 h).elim
   ·rw [decide_eq_false c7]
    refine ⟨fun h=>?_,fun _=>rfl⟩
    rcases h with (h | h | h | h | h) | ⟨h,-⟩
    ·exact (c1 h).elim
    ·exact (c2 h).elim
    ·exact (c3 h).elim
    ·exact (c4 h).elim
    ·exact (hno h).elim
    ·exact (c7 h).elim
  by_cases c5:0 < a.length
  ·rw [decide_eq_true (show 0 < (a.length:Int) by omega),cond_true]
   obtain ⟨y,hy⟩:=hprev c5
   rw [hy,Option.bind_some]
   rw [hy] at hlast
   by_cases c6:x.1≤y.1
   ·rw [decide_eq_true c6];exact ⟨fun _=>rfl,fun h=>(h (.inl (.inr (.inr (.inr (.inr ⟨c5,y,rfl,c6⟩)))))).elim⟩
   ·rw [decide_eq_false c6]
    exact hlast fun ⟨_,z,hz,h⟩=>by cases hz;exact c6 h
  ·rw [decide_eq_false (show ¬ 0 < (a.length:Int) by omega)]
   exact hlast fun h=>c5 h.1) (by unfold m30_l0;rw [lt_end];rfl)
 obtain ⟨r,h1,h2⟩:=hloop
 unfold m30
 rw [h1]
 by_cases c1:l.c < 0
 ·rw [decide_eq_true c1];exact ⟨false,rfl,⟨fun h=>(Bool.false_ne_true h).elim,fun h=>by have:=h.1;omega⟩⟩
 rw [decide_eq_false c1,cond_false]
 by_cases c2:100 < l.c
 ·rw [decide_eq_true c2];exact ⟨false,rfl,⟨fun h=>(Bool.false_ne_true h).elim,fun h=>by have:=h.2.1;omega⟩⟩
 rw [decide_eq_false c2,Option.bind_some,cond_false]
 rcases h2 with ⟨rfl,h3⟩ | ⟨rfl,a,x,b,e,h3⟩
 ·refine ⟨true,rfl,fun _=>⟨by omega,by omega,fun h4 y hy h5=>?_,fun a x b e h4=>h3 a x b e (.inl h4)⟩,fun _=>rfl⟩
  obtain ⟨a,b,e⟩:=List.append_of_mem hy
  exact h3 a y b e (.inr ⟨h4,h5⟩)
 ·refine ⟨false,rfl,fun h=>(Bool.false_ne_true h).elim,fun h4=>?_⟩
  rcases h3 with h3 | ⟨h3,h5⟩
  ·exact (h4.2.2.2 a x b e h3).elim
  ·exact (h4.2.2.1 h3 x (by rw [e];simp) h5).elim
theorem lv_same (l:Lvl) (h:l.vs.length≤900000000):∃ b,m28 l=some b∧m30 l=some b∧(b=true→lvP l):=by
 obtain ⟨b,h1,h2⟩:=m28_eq l h
 obtain ⟨c,h3,h4⟩:=m30_eq l h
 have:b=c:=Bool.eq_iff_iff.2 (h2.trans h4.symm)
 exact ⟨b,h1,by rw [this];exact h3,h2.1⟩
end Go.Proofs.Ytkimijmiphkddaa
namespace Go.Proofs.Ytkimijmiphkddaa
open Go.RowKit Go.Shelf
def fa (l:List Int) (i:Nat):Int:=(l[i]?).getD 0
theorem fa_get {l:List Int} {i:Nat} (h:i < l.length):idx l (i:Int)=some (fa l i):=by
 show l[i]?=some ((l[i]?).getD 0)
 rw [List.getElem?_eq_getElem h];rfl
theorem fa_set {l:List Int} {v:Nat} (x:Int) (h:v < l.length) (i:Nat):fa (l.set v x) i=if i=v then x else fa l i:=by
 unfold fa
 rw [List.getElem?_set]
 by_cases c:v=i
 ·rw [if_pos c,if_pos c.symm,if_pos h];rfl
 ·rw [if_neg c,if_neg (fun e=>c e.symm)]
def EdgOk (N:Nat) (e:Edg):Prop:=0≤e.fr∧e.fr < N∧0≤e.to∧e.to < N∧-201≤e.by_∧e.by_≤201
def eSat (y:Nat→Int) (e:Edg):Prop:=y e.fr.toNat+e.by_≤y e.to.toNat
structure SolF (N:Nat) (es:List Edg) (y:Nat→Int):Prop where
 edge:∀ e∈es,eSat y e
 low:∀ i,i < N→y 0≤y i
 nn:∀ i,i < N→0≤y i
theorem edges_eq (N:Nat) (es:List Edg) (hl:es.length≤100000) (hes:∀ e∈es,EdgOk N e) (far:List Int) (hf:far.length=N) (B:Int) (hB0:0≤B) (hB:B≤1000000000000) (h0:∀ i,i < N→0≤fa far i) (h1:∀ i,i < N→fa far i≤B) :
  ∃ r,loopN (m47_l0 es (N:Int)) FUEL (false,0,far)=some r∧r.2.length=N∧(∀ i,i < N→fa far i≤fa r.2 i)∧(∀ y,SolF N es y→(∀ i,i < N→fa far i≤y i)→∀ i,i < N→fa r.2 i≤y i) ∧
   (∀ e∈es,fa far e.fr.toNat+e.by_≤fa r.2 e.to.toNat)∧(r.1=false→r.2=far∧∀ e∈es,eSat (fa far) e)∧((∀ e∈es,eSat (fa far) e)→r.1=false)∧∀ i,i < N→fa r.2 i≤B+201 * es.length:=by
 have key:=loop_all (step:=m47_l0 es (N:Int)) es (fun i (s:Bool×List Int)=>(s.1,i,s.2))
  (fun a r=>r.2.length=N∧(∀ i,i < N→fa far i≤fa r.2 i)∧(∀ y,SolF N es y→(∀ i,i < N→fa far i≤y i)→∀ i,i < N→fa r.2 i≤y i) ∧
   (∀ e∈a,fa far e.fr.toNat+e.by_≤fa r.2 e.to.toNat)∧(r.1=false→r.2=far∧∀ e∈a,eSat (fa far) e)∧((∀ e∈es,eSat (fa far) e)→r.1=false∧r.2=far)∧∀ i,i < N→fa r.2 i≤B+201 * a.length)
  (fun r=>r.2.length=N∧(∀ i,i < N→fa far i≤fa r.2 i)∧(∀ y,SolF N es y→(∀ i,i < N→fa far i≤y i)→∀ i,i < N→fa r.2 i≤y i) ∧
   (∀ e∈es,fa far e.fr.toNat+e.by_≤fa r.2 e.to.toNat)∧(r.1=false→r.2=far∧∀ e∈es,eSat (fa far) e)∧((∀ e∈es,eSat (fa far) e)→r.1=false∧r.2=far)∧∀ i,i < N→fa r.2 i≤B+201 * es.length)
  (by omega)
  (fun a e b s eq hI=>?_) (fun s hI=>⟨s,by unfold m47_l0;dsimp only;rw [lt_end];rfl,hI⟩) (false,far)
  ⟨hf,fun i _=>Int.le_refl _,fun y _ h=>h,(fun e he=>by cases he),fun _=>⟨rfl,fun e he=>by cases he⟩,fun _=>⟨rfl,rfl⟩,fun i hi=>by have:=h1 i hi;show fa far i≤B+201 * (0:Int);omega⟩
 ·obtain ⟨r,k1,k2,k3,k4,k5,k6,k7,k8⟩:=key
  exact ⟨r,k1,k2,k3,k4,k5,k6,fun h=>(k7 h).1,k8⟩
 obtain ⟨ch,f⟩:=s
 obtain ⟨i1,i2,i3,i4,i5,i6,i7⟩:=hI
 dsimp only at i1 i2 i3 i4 i5 i6 i7
 have hem:e∈es:=by rw [eq];simp
 have ham:=mid_lt eq
 obtain ⟨q1,q2,q3,q4,q5,q6⟩:=hes e hem
 obtain ⟨u,hu⟩:∃ u:Nat,e.fr=u:=⟨e.fr.toNat,by omega⟩
 obtain ⟨v,hv⟩:∃ v:Nat,e.to=v:=⟨e.to.toNat,by omega⟩
 have hu9:u < N:=by omega
 have hv9:v < N:=by omega
 have hut:e.fr.toNat=u:=by omega
 have hvt:e.to.toNat=v:=by omega
 have hw:w64 (fa f u+e.by_)=fa f u+e.by_:=by
  have b1:=i7 u hu9
  have b2:=i2 u hu9
  have b3:=h0 u hu9
  exact w64_id (by omega) (by omega)
 have hstep:m47_l0 es (N:Int) (ch,(a.length:Int),f)=cond (decide (fa f v < fa f u+e.by_)) (some (.next (true,w64 ((a.length:Int)+1),f.set v (fa f u+e.by_)))) (some (.next (ch,w64 ((a.length:Int)+1),f))):=by
  unfold m47_l0
  dsimp only
  rw [show decide ((a.length:Int) < (es.length:Int))=true from by rw [eq];exact lt_mid a e b,show idx es (a.length:Int)=some e from by rw [eq];exact idx_mid a e b]
  simp only [cond_true,Option.bind_some]
  rw [hu,hv,fa_get (by omega),fa_get (by omega),Int.toNat_natCast]
  simp only [Option.bind_some]
  have gd:∀ {α:Type} (x:Option α),guardO (Nat.beq f.length N) x=x:=fun x=>guard_eq i1
  simp only [Int.toNat_natCast,hw,gd]
 by_cases c:fa f v < fa f u+e.by_
 ·rw [decide_eq_true c] at hstep
  have hs:=fa_set (fa f u+e.by_) (show v < f.length by omega)
  refine .inr ⟨(true,f.set v (fa f u+e.by_)),hstep,by rw [List.length_set];exact i1,fun i hi=>?_,fun y hy hfy i hi=>?_,fun e' he'=>?_,fun h=>(by cases h),fun h=>?_,fun i hi=>?_⟩
  ·dsimp only
   rw [hs]
   have:=i2 i hi
   split
   ·next e2=>subst e2;omega
   ·exact this
  ·dsimp only
   rw [hs]
   have g1:=i3 y hy hfy
   split
   ·next e2 =>
    have g2:=hy.edge e hem
    unfold eSat at g2
    rw [hut,hvt] at g2
    have:=g1 u hu9
    rw [e2];omega
   ·exact g1 i hi
  ·dsimp only
   rw [hs]
   rcases List.mem_append.1 he' with he' | he'
   ·have:=i4 e' he'
    split
    ·next e2=>rw [e2] at this;omega
    ·exact this
   ·rw [List.mem_singleton.1 he',hut,hvt,if_pos rfl]
    have:=i2 u hu9
    omega
  ·have g1:=(i6 h).2
   have g2:=h e hem
   unfold eSat at g2
   rw [hut,hvt] at g2
   rw [g1] at c
   omega
  ·dsimp only
   rw [hs,List.length_append,List.length_singleton]
   have g1:=i7 i hi
   have g2:=i7 u hu9
   split <;> omega
 ·rw [decide_eq_false c] at hstep
  refine .inr ⟨(ch,f),hstep,i1,i2,i3,fun e' he'=>?_,fun h=>⟨(i5 h).1,fun e' he'=>?_⟩,i6,fun i hi=>?_⟩
  ·rcases List.mem_append.1 he' with he' | he'
   ·exact i4 e' he'
   ·rw [List.mem_singleton.1 he',hut,hvt]
    have:=i2 u hu9
    dsimp only
    omega
  ·rcases List.mem_append.1 he' with he' | he'
   ·exact (i5 h).2 e' he'
   ·rw [List.mem_singleton.1 he']
    unfold eSat
    rw [hut,hvt]
    have g1:=(i5 h).1
    rw [g1] at c
    omega
  ·have:=i7 i hi
   rw [List.length_append,List.length_singleton]
   dsimp only
   omega
theorem floor_eq (N:Nat) (hN0:0 < N) (hN:N≤100000) (ch1:Bool) (far:List Int) (hf:far.length=N) (B:Int) (h1:∀ i,i < N→fa far i≤B) :
  ∃ r,loopN (m47_l1 (N:Int)) FUEL (ch1,1,far)=some r∧r.2.length=N∧(∀ i,i < N→fa far i≤fa r.2 i)∧(∀ y:Nat→Int,(∀ i,i < N→y 0≤y i)→(∀ i,i < N→fa far i≤y i)→∀ i,i < N→fa r.2 i≤y i) ∧
   (∀ i,i < N→fa far 0≤fa r.2 i)∧(r.1=false→ch1=false∧r.2=far∧∀ i,i < N→fa far 0≤fa far i)∧(ch1=false→(∀ i,i < N→fa far 0≤fa far i)→r.1=false)∧∀ i,i < N→fa r.2 i≤B:=by
 have key:=loop_all (step:=m47_l1 (N:Int)) (List.range (N - 1)) (fun i (s:Bool×List Int)=>(s.1,i+1,s.2))
  (fun a r=>r.2.length=N∧(∀ i,i < N→fa far i≤fa r.2 i)∧(∀ y:Nat→Int,(∀ i,i < N→y 0≤y i)→(∀ i,i < N→fa far i≤y i)→∀ i,i < N→fa r.2 i≤y i)∧fa r.2 0=fa far 0 ∧
   (∀ i,i≤a.length→fa far 0≤fa r.2 i)∧(r.1=false→ch1=false∧r.2=far∧∀ i,i≤a.length→fa far 0≤fa far i)∧(ch1=false→(∀ i,i < N→fa far 0≤fa far i)→r.1=false∧r.2=far)∧∀ i,i < N→fa r.2 i≤B)
  (fun r=>r.2.length=N∧(∀ i,i < N→fa far i≤fa r.2 i)∧(∀ y:Nat→Int,(∀ i,i < N→y 0≤y i)→(∀ i,i < N→fa far i≤y i)→∀ i,i < N→fa r.2 i≤y i)∧fa r.2 0=fa far 0 ∧
   (∀ i,i≤(List.range (N - 1)).length→fa far 0≤fa r.2 i)∧(r.1=false→ch1=false∧r.2=far∧∀ i,i≤(List.range (N - 1)).length→fa far 0≤fa far i)∧(ch1=false→(∀ i,i < N→fa far 0≤fa far i)→r.1=false∧r.2=far)∧∀ i,i < N→fa r.2 i≤B)
  (by rw [List.length_range];omega)
  (fun a x b s eq hI=>?_) (fun s hI=>⟨s,by
   unfold m47_l1
   dsimp only
   rw [List.length_range,decide_eq_false (by omega)];rfl,hI⟩) (ch1,far)
  ⟨hf,fun i _=>Int.le_refl _,fun y _ h=>h,rfl,(fun i hi=>by rw [Nat.le_zero.1 hi];exact Int.le_refl _),fun h=>⟨h,rfl,fun i hi=>by rw [Nat.le_zero.1 hi];exact Int.le_refl _⟩,fun h _=>⟨h,rfl⟩,h1⟩
 ·obtain ⟨r,k1,k2,k3,k4,k5,k6,k7,k8,k9⟩:=key
  rw [List.length_range] at k6 k7
  exact ⟨r,k1,k2,k3,k4,fun i hi=>k6 i (by omega),fun h=>⟨(k7 h).1,(k7 h).2.1,fun i hi=>(k7 h).2.2 i (by omega)⟩,fun h h'=>(k8 h h').1,k9⟩
 obtain ⟨ch,f⟩:=s
 obtain ⟨i1,i2,i3,i4,i5,i6,i7,i8⟩:=hI
 dsimp only at i1 i2 i3 i4 i5 i6 i7 i8
 have ham:=mid_lt eq
 rw [List.length_range] at ham
 have hk:a.length+1 < N:=by omega
 have hidx:((a.length:Int)+1)=((a.length+1:Nat):Int):=rfl
 have hnx:w64 ((a.length:Int)+1)+1=w64 (((a.length+1:Nat):Int)+1):=by rw [w64_id (n:=(a.length:Int)+1) (by omega) (by omega),w64_id (by omega) (by omega)];omega
 have hstep:m47_l1 (N:Int) (ch,(a.length:Int)+1,f)=cond (decide (fa f (a.length+1) < fa far 0)) (some (.next (true,w64 ((a.length:Int)+1)+1,f.set (a.length+1) (fa far 0)))) (some (.next (ch,w64 ((a.length:Int)+1)+1,f))):=by
  rw [hnx,hidx]
  unfold m47_l1
  dsimp only
  rw [decide_eq_true (show ((a.length+1:Nat):Int) < (N:Int) by omega),cond_true,show idx f 0=some (fa f 0) from fa_get (i:=0) (by omega),fa_get (by omega),i4]
  have gd:∀ {α:Type} (x:Option α),guardO (Nat.beq f.length N) x=x:=fun x=>guard_eq i1
  simp only [Option.bind_some,Int.toNat_natCast,gd]
 by_cases c:fa f (a.length+1) < fa far 0
 ·rw [decide_eq_true c] at hstep
  have hs:=fa_set (fa far 0) (show a.length+1 < f.length by omega)
  refine .inr ⟨(true,f.set (a.length+1) (fa far 0)),hstep,by rw [List.length_set];exact i1,fun i hi=>?_,fun y hy hfy i hi=>?_,?_,fun i hi=>?_,fun h=>(by cases h),fun h h'=>?_,fun i hi=>?_⟩
  ·dsimp only
   rw [hs]
   have:=i2 i hi
   split
   ·next e2=>subst e2;omega
   ·exact this
  ·dsimp only
   rw [hs]
   split
   ·next e2 =>
    have g1:=hfy 0 hN0
    have g2:=hy i hi
    omega
   ·exact i3 y hy hfy i hi
  ·dsimp only
   rw [hs,if_neg (by omega)];exact i4
  ·dsimp only
   rw [hs]
   rw [List.length_append,List.length_singleton] at hi
   split
   ·exact Int.le_refl _
   ·exact i5 i (by omega)
  ·have g1:=(i7 h h').2
   have g2:=h' (a.length+1) hk
   rw [g1] at c
   omega
  ·dsimp only
   rw [hs]
   split
   ·exact h1 0 hN0
   ·exact i8 i hi
 ·rw [decide_eq_false c] at hstep
  have last:∀ i,i≤(a++[x]).length→i≤a.length∨i=a.length+1:=fun i hi=>by rw [List.length_append,List.length_singleton] at hi;omega
  refine .inr ⟨(ch,f),hstep,i1,i2,i3,i4,fun i hi=>?_,fun h=>⟨(i6 h).1,(i6 h).2.1,fun i hi=>?_⟩,i7,i8⟩
  ·rcases last i hi with hi | rfl
   ·exact i5 i hi
   ·dsimp only;omega
  ·rcases last i hi with hi | rfl
   ·exact (i6 h).2.2 i hi
   ·have g1:=(i6 h).2.1
    rw [g1] at c;omega
end Go.Proofs.Ytkimijmiphkddaa
