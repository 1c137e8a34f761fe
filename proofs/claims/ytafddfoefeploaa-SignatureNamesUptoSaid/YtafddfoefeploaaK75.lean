/- Part 5 of the proof: rules, mirrors and plain laws. The statement SignatureNamesUpto is proved here: for every declaration the law returns true, and the declaration reads behind the call as it did before; condition: it is of bulk at most 1048576 (the second form). -/
import Derived.Test.YtafddfoefeploaaK74
namespace Go.Proofs.Ytafddfoefeploaa
open Go.RowKit Go.Shelf
set_option linter.unusedSimpArgs false
set_option linter.unusedVariables false
theorem ZH : J0 Try.prog 35 0 = some 0 := by kernel_rfl
theorem fo_62_0 : J0 Try.prog 62 0 = some 0 := by kernel_rfl
theorem ag_22 : Jy Try.prog 22 = some (false, 1) := by kernel_rfl
theorem W0 : Jo Try.prog 97 = some (3, 1) := by kernel_rfl
theorem z_60 : JE Try.prog 60 = some [.map none] := by kernel_rfl
theorem K9 : Yj Try.prog 35 [(0, 1), (1, 1), (2, 1), (3, 1), (4, 5)] [.int .i64 0, .int .i64 0, .int .i64 0, .int .i64 0, .int .i64 0, .int .i64 0, .string ByteArray.empty, .slice none 0 0, .slice none 0 0] := ⟨by kernel_rfl, by kernel_rfl⟩
theorem en_31 : J3 Try.prog 31 := enters_of Try.func31 (by kernel_rfl) rfl
theorem en_46 : J3 Try.prog 46 := enters_of Try.func46 (by kernel_rfl) rfl
theorem en_47 : J3 Try.prog 47 := enters_of Try.func47 (by kernel_rfl) rfl
theorem en_49 : J3 Try.prog 49 := enters_of Try.func49 (by kernel_rfl) rfl
theorem en_67 : J3 Try.prog 67 := enters_of Try.func67 (by kernel_rfl) rfl
theorem en_82 : J3 Try.prog 82 := enters_of Try.func82 (by kernel_rfl) rfl
noncomputable abbrev m46f8_h0 (p0_ : List Dcl) (p1_ : Qa UN Ent) (p2_ : Qa UN Ent) (p3_ : Tm) : List (Nat × HB) :=
 [(0, .cells 62 [Uv p0_, .mp 1]), (1, .mp (QO p1_.1) p1_.2), (2, .mp (QO p2_.1) p2_.2), (3, .cells 59 [.ptr 0 0]), (4, .cells 33 (UA p3_)), (5, .cells 60 [.mp 2])]
noncomputable abbrev m46f8_h1 (p0_ : List Dcl) (p1_ : Qa UN Ent) (p2_ : Qa UN Ent) (p3_ : Tm) : List (Nat × HB) :=
 [(0, .cells 62 [Uv p0_, .mp 1]), (1, .mp (QO p1_.1) p1_.2), (2, .mp (QO p2_.1) p2_.2), (3, .cells 59 [.ptr 0 0]), (4, .cells 33 (UA p3_)), (5, .cells 60 [.mp 2]), (6, .cells 33 (UA p3_))]
noncomputable abbrev m46f8_h2  : HB :=
 .loop .ready none [(5, .v (.one (.ptr 3 0))), (9, .v (.one (.ptr 5 0))), (23, .v (.one (.fn 82 [(6, 0)])))] 53 #[24] YM Yq 7
noncomputable abbrev ZF (p0_ : List Dcl) (p1_ : Qa UN Ent) (p2_ : Qa UN Ent) (p3_ : Tm) : List (Nat × HB) :=
 [(0, .cells 62 [Uv p0_, .mp 1]), (1, .mp (QO p1_.1) p1_.2), (2, .mp (QO p2_.1) p2_.2), (3, .cells 59 [.ptr 0 0]), (4, .cells 33 (UA p3_)), (5, .cells 60 [.mp 2]), (6, .cells 33 (UA p3_)), (7, .obj (.deferred (some []))), (8, m46f8_h2)]
noncomputable abbrev m46f8_h4  : HB :=
 .loop .busy none [(5, .v (.one (.ptr 3 0))), (9, .v (.one (.ptr 5 0))), (23, .v (.one (.fn 82 [(6, 0)])))] 53 #[24] YM Yq 7
noncomputable abbrev ZE (p0_ : List Dcl) (p1_ : Qa UN Ent) (p2_ : Qa UN Ent) (p3_ : Tm) : List (Nat × HB) :=
 [(0, .cells 62 [Uv p0_, .mp 1]), (1, .mp (QO p1_.1) p1_.2), (2, .mp (QO p2_.1) p2_.2), (3, .cells 59 [.ptr 0 0]), (4, .cells 33 (UA p3_)), (5, .cells 60 [.mp 2]), (6, .cells 33 (UA p3_)), (7, .obj (.deferred (some []))), (8, m46f8_h4)]
noncomputable abbrev YR (p0_ : List Dcl) (p1_ : Qa UN Ent) (p2_ : Qa UN Ent) : List (Nat × HB) :=
 [(0, .cells 62 [Uv p0_, .mp 1]), (1, .mp (QO p1_.1) p1_.2), (2, .mp (QO p2_.1) p2_.2)]
noncomputable def X6 (a0 : Tm) (a1 : Int) (a2 : Int) (a3 : List Dcl) (a4 : Qa UN Ent) (a5 : Qa UN Ent) : Option (Unit ⊕ Int) :=
 Option.bind (m66 a0 a1 a2 0 0) fun (x1 : Int) =>
 Option.bind (JL (x1 == 0) x1) (Sum.elim (fun (x3 : Unit) => Option.bind (some ()) (fun (y5 : Unit) => Option.bind (Option.bind (m83f9 a0 a3 a4 a5 a0) (Sum.elim (fun (x12 : Bool) => some (.inl ())) (fun (x13 : Int) => some (.inr x13)))) (Sum.elim (fun (y7 : Unit) => some (.inl ())) (fun (y8 : Int) => some (.inr y8))))) (fun (x4 : Unit) => some (.inr x1)))
set_option maxRecDepth 100000 in
set_option maxHeartbeats 2000000 in
theorem YC (a0 : Tm) (a1 : Int) (a2 : Int) (a3 : List Dcl) (a4 : Qa UN Ent) (a5 : Qa UN Ent) (r : Unit ⊕ Int) (h0 : X6 a0 a1 a2 a3 a4 a5 = some r) : CallE Try.prog 46 [.one (.ptr 0 0), .agg (UA a0), .one (Ux a1), .one (Ux a2), .one (.mp 2)] ⟨YR a3 a4 a5, [], 3⟩ ((Sum.elim (fun (r0 : Unit) => ((.ret []) : EK)) (fun (r1 : Int) => ((.pan (QJ 90 r1)) : EK))) r) ⟨((Sum.elim (fun (r0 : Unit) => (⟨[], YR a3 a4 a5, [], 11, 53, []⟩ : St)) (fun (r1 : Int) => (⟨[], YR a3 a4 a5, [], 6, 53, []⟩ : St))) r).hp, ((Sum.elim (fun (r0 : Unit) => (⟨[], YR a3 a4 a5, [], 11, 53, []⟩ : St)) (fun (r1 : Int) => (⟨[], YR a3 a4 a5, [], 6, 53, []⟩ : St))) r).tk, ((Sum.elim (fun (r0 : Unit) => (⟨[], YR a3 a4 a5, [], 11, 53, []⟩ : St)) (fun (r1 : Int) => (⟨[], YR a3 a4 a5, [], 6, 53, []⟩ : St))) r).nx⟩ := by
 unfold X6 at h0
 refine JP r ((Sum.elim (fun (r0 : Unit) => (⟨[], YR a3 a4 a5, [], 11, 53, []⟩ : St)) (fun (r1 : Int) => (⟨[], YR a3 a4 a5, [], 6, 53, []⟩ : St)))) ((Sum.elim (fun (r0 : Unit) => ((.ret []) : EK)) (fun (r1 : Int) => ((.pan (QJ 90 r1)) : EK)))) rfl rfl en_46 (Um rfl) (fun z_ => by cases z_ with
 | inl _ => exact rfl
 | inr _ => exact rfl) (fun z_ => by cases z_ with
 | inl _ => exact (WA .nil)
 | inr _ => exact WG) (fun w0 M V0 Q hv0 hQ0 => ?_)
 simp only [J7]
 refine Q5 <| Q0 <| Q9 rfl rfl (Um rfl) (QN rfl) <| Q9 rfl rfl (Um rfl) (QN rfl) <| Q9 rfl rfl (Um rfl) (QN rfl) <| Q4 <| Q3 <| Q5 <| Q0 <| Ue rfl rfl rfl (QK (a0 : Tm) QW rfl rfl) <| Uf rfl rfl rfl <| Uf rfl rfl rfl ?_
 refine Qb h0 (fun x1 hx1 h0 => ?_)
 refine Q9 rfl rfl (Um rfl) (Qo (m66_ok a0 a1 a2 0 0 x1 hx1) rfl (.cons (.agg (.cons (.d _) (.cons (.d _) (.cons (.d _) (.cons (.d _) (.cons (.d _) .nil)))))) (.cons (.one (.d _)) (.cons (.one (.d _)) (.cons (.one (.d _)) (.cons (.one (.d _)) .nil)))))) <| Ug rfl rfl rfl <| Q4 <| Q3 <| Q5 <| Q0 <| Uf rfl rfl rfl <| Ue rfl rfl rfl (Q7 rfl rfl rfl) <| Uf rfl rfl rfl ?_
 refine Qb h0 (fun x2 hx2 h0 => ?_)
 refine JY id hx2 h0 (fun x3 hx3 h0 => ?_) (fun x4 hx4 h0 => ?_)
 refine Q9 rfl rfl (Um rfl) (QE rfl rfl rfl (CallE.m (QB (x1 == 0) x1 (.inl x3) hx3)) rfl) <| Q4 <| Q3 <| Q5 <| Q0 <| Ue rfl rfl rfl (QK (a0 : Tm) QW rfl rfl) ?_
 refine Qb h0 (fun y5 h1 h0 => ?_)
 have hc6 : CallM Try.prog 67 [.agg (UA a0)] ⟨m46f8_h0 a3 a4 a5 a0, [], 6⟩ (QD [.one (.fn 82 [(6, 0)])]) ⟨m46f8_h1 a3 a4 a5 a0, [], 7⟩ := by
  refine QT ⟨[(2, .v (.one (.fn 82 [(6, 0)])))], m46f8_h1 a3 a4 a5 a0, [], 7, 4, []⟩ rfl rfl en_67 (Um rfl) rfl (Qz rfl .nil) (fun w0 M V0 Q hv1 hQ1 => ?_)
  simp only [J7]
  refine Q5 <| Q0 <| Q9 rfl rfl (Um rfl) (QN rfl) <| Ug rfl rfl rfl <| Q4 <| Q3 <| Q5 <| Q0 <| Ue rfl rfl rfl (YQ rfl) <| Ug rfl rfl rfl <| Q4 <| Q3 <| QA ?_
  have e := Uc h1; subst e
  exact hQ1 _ _ _ (.inr rfl) rfl (Qu (Ua rfl) (hA rfl) Un rfl (Nat.le_trans hv1 (Um rfl)) rfl rfl rfl (UF rfl rfl (UE rfl (UE rfl (UG rfl)))) rfl rfl)
 refine Q9 rfl rfl (Um rfl) (JM rfl rfl rfl hc6 rfl (hA rfl) Un) <| Q4 <| Q3 <| Qf <| Km (st' := ⟨[(5, .v (.one (.ptr 3 0))), (9, .v (.one (.ptr 5 0))), (23, .v (.one (.fn 82 [(6, 0)])))], m46f8_h1 a3 a4 a5 a0, [], 7, 53, []⟩) (Qu (Ua rfl) (hA rfl) Un rfl (Nat.le_trans hv0 (Um rfl)) rfl rfl rfl (UF rfl rfl (UE rfl (UE rfl (UG rfl)))) rfl rfl) ?_
 refine Qb h0 (fun y10 h1 h0 => ?_)
 have hc9 : CallE Try.prog 82 [.one (.yld 8), .one (.ptr 6 0)] ⟨[(8, .loop .ready none [(5, .v (.one (.ptr 3 0))), (9, .v (.one (.ptr 5 0))), (23, .v (.one (.fn 82 [(6, 0)])))] 53 #[24] YM Yq 7), (7, .obj (.deferred (some []))), (0, .cells 62 [Uv a3, .mp 1]), (1, .mp (QO a4.1) a4.2), (2, .mp (QO a5.1) a5.2), (3, .cells 59 [.ptr 0 0]), (4, .cells 33 (UA a0)), (5, .cells 60 [.mp 2]), (6, .cells 33 (UA a0))], [], 9⟩ (((Sum.elim (fun (y7 : Unit) => ((.ret []) : EK)) (fun (y8 : Int) => ((.pan (QJ 90 y8)) : EK)))) y10) ⟨(((Sum.elim (fun (y7 : Unit) => (⟨[], ZF a3 a4 a5 a0, [], 11, 6, []⟩ : St)) (fun (y8 : Int) => (⟨[], ZE a3 a4 a5 a0, [], 13, 6, []⟩ : St)))) y10).hp, (((Sum.elim (fun (y7 : Unit) => (⟨[], ZF a3 a4 a5 a0, [], 11, 6, []⟩ : St)) (fun (y8 : Int) => (⟨[], ZE a3 a4 a5 a0, [], 13, 6, []⟩ : St)))) y10).tk, (((Sum.elim (fun (y7 : Unit) => (⟨[], ZF a3 a4 a5 a0, [], 11, 6, []⟩ : St)) (fun (y8 : Int) => (⟨[], ZE a3 a4 a5 a0, [], 13, 6, []⟩ : St)))) y10).nx⟩ := by
  refine JP y10 ((Sum.elim (fun (y7 : Unit) => (⟨[], ZF a3 a4 a5 a0, [], 11, 6, []⟩ : St)) (fun (y8 : Int) => (⟨[], ZE a3 a4 a5 a0, [], 13, 6, []⟩ : St)))) ((Sum.elim (fun (y7 : Unit) => ((.ret []) : EK)) (fun (y8 : Int) => ((.pan (QJ 90 y8)) : EK)))) rfl rfl en_82 (Um rfl) (fun z_ => by cases z_ with
    | inl _ => exact rfl
    | inr _ => exact rfl) (fun z_ => by cases z_ with
    | inl _ => exact (WA .nil)
    | inr _ => exact WG) (fun w0 M V0 Q hv1 hQ1 => ?_)
  simp only [J7]
  refine Q0 <| Ue rfl rfl rfl (QK (a0 : Tm) QW rfl rfl) <| Uf rfl rfl rfl ?_
  refine Qb h1 (fun x11 hx11 h1 => ?_)
  refine JY id hx11 h1 (fun x12 hx12 h1 => ?_) (fun x13 hx13 h1 => ?_)
  refine Q9 rfl rfl (Um rfl) (J4 (hp1' := [(8, .loop .ready none [(5, .v (.one (.ptr 3 0))), (9, .v (.one (.ptr 5 0))), (23, .v (.one (.fn 82 [(6, 0)])))] 53 #[24] YM Yq 7), (7, .obj (.deferred (some []))), (3, .cells 59 [.ptr 0 0]), (0, .cells 62 [Uv a3, .mp 1]), (1, .mp (QO a4.1) a4.2), (5, .cells 60 [.mp 2]), (2, .mp (QO a5.1) a5.2), (6, .cells 33 (UA a0))]) (tk1' := []) (hpF := [(4, .cells 33 (UA a0))]) (tkF := []) (res2 := QD [.one (Uy x12)]) (nx2 := 11) [8, 7, 3, 0, 1, 5, 2, 6] rfl rfl (CallE.m (m83f9_ok a0 a3 a4 a5 a0 (.inl x12) hx12)) rfl rfl (Uj rfl rfl (Uj rfl rfl (Uj rfl rfl (Uj rfl rfl (Ui rfl (Uj rfl rfl (Ui rfl (Uj rfl rfl Uh)))))))) rfl rfl (Ut rfl (Ut rfl (Ut rfl (Ut rfl (Uu rfl (Ut rfl (Uu rfl (Ut rfl Us)))))))) Up (hA rfl) Un rfl rfl rfl rfl rfl (UF rfl rfl (UF rfl rfl (UF rfl rfl (UF rfl rfl (UE rfl (UF rfl rfl (UE rfl (UG rfl)))))))) rfl rfl rfl rfl) <| Q4 ?_
  have e := Uc h1; subst e
  exact hQ1 _ _ WW rfl (show StLe _ _ ⟨[], ZF a3 a4 a5 a0, [], 11, 6, []⟩ from (Qu U9 (hA rfl) Un rfl (Nat.le_trans hv1 (Um rfl)) rfl rfl rfl (UF rfl rfl (UE rfl (UE rfl (UG rfl)))) rfl rfl))
  refine Jd rfl (Yy (hp1' := [(8, .loop .busy none [(5, .v (.one (.ptr 3 0))), (9, .v (.one (.ptr 5 0))), (23, .v (.one (.fn 82 [(6, 0)])))] 53 #[24] YM Yq 7), (7, .obj (.deferred (some []))), (3, .cells 59 [.ptr 0 0]), (0, .cells 62 [Uv a3, .mp 1]), (1, .mp (QO a4.1) a4.2), (5, .cells 60 [.mp 2]), (2, .mp (QO a5.1) a5.2), (6, .cells 33 (UA a0))]) (tk1' := []) (hpF := [(4, .cells 33 (UA a0))]) (tkF := []) (nx2 := 13) [8, 7, 3, 0, 1, 5, 2, 6] rfl rfl (CallE.d (m83f9_ok a0 a3 a4 a5 a0 (.inr x13) hx13)) rfl rfl (Uj rfl rfl (Uj rfl rfl (Uj rfl rfl (Uj rfl rfl (Ui rfl (Uj rfl rfl (Ui rfl (Uj rfl rfl Uh)))))))) rfl (Ut rfl (Ut rfl (Ut rfl (Ut rfl (Uu rfl (Ut rfl (Uu rfl (Ut rfl Us)))))))) Up (hA rfl) Un rfl rfl rfl rfl rfl (UF rfl rfl (UF rfl rfl (UF rfl rfl (UF rfl rfl (UE rfl (UF rfl rfl (UE rfl (UG rfl)))))))) rfl rfl rfl rfl) ?_
  have e := Uc h1; subst e
  exact Jn (hQ1 (.panic (Jz (QJ 90 x13))) _ ZP rfl (show StLe _ _ ⟨[], ZE a3 a4 a5 a0, [], 13, 6, []⟩ from (Qu U9 (hA rfl) Un rfl (Nat.le_trans hv1 (Um rfl)) rfl rfl rfl (UF rfl rfl (UE rfl (UE rfl (UG rfl)))) rfl rfl))) (fun _ _ h => h)
 refine XM (C := fun q_ => CallE Try.prog 82 [.one (.yld 8), .one (.ptr 6 0)] ⟨[(8, .loop .ready none [(5, .v (.one (.ptr 3 0))), (9, .v (.one (.ptr 5 0))), (23, .v (.one (.fn 82 [(6, 0)])))] 53 #[24] YM Yq 7), (7, .obj (.deferred (some []))), (0, .cells 62 [Uv a3, .mp 1]), (1, .mp (QO a4.1) a4.2), (2, .mp (QO a5.1) a5.2), (3, .cells 59 [.ptr 0 0]), (4, .cells 33 (UA a0)), (5, .cells 60 [.mp 2]), (6, .cells 33 (UA a0))], [], 9⟩ (((Sum.elim (fun (y7 : Unit) => ((.ret []) : EK)) (fun (y8 : Int) => ((.pan (QJ 90 y8)) : EK)))) q_) ⟨(((Sum.elim (fun (y7 : Unit) => (⟨[], ZF a3 a4 a5 a0, [], 11, 6, []⟩ : St)) (fun (y8 : Int) => (⟨[], ZE a3 a4 a5 a0, [], 13, 6, []⟩ : St)))) q_).hp, (((Sum.elim (fun (y7 : Unit) => (⟨[], ZF a3 a4 a5 a0, [], 11, 6, []⟩ : St)) (fun (y8 : Int) => (⟨[], ZE a3 a4 a5 a0, [], 13, 6, []⟩ : St)))) q_).tk, (((Sum.elim (fun (y7 : Unit) => (⟨[], ZF a3 a4 a5 a0, [], 11, 6, []⟩ : St)) (fun (y8 : Int) => (⟨[], ZE a3 a4 a5 a0, [], 13, 6, []⟩ : St)))) q_).nx⟩) hc9 h0 (fun y7 hc9 h0 => ?_) (fun y8 hc9 h0 => ?_)
 replace hc9 : CallM Try.prog 82 [.one (.yld 8), .one (.ptr 6 0)] ⟨[(8, .loop .ready none [(5, .v (.one (.ptr 3 0))), (9, .v (.one (.ptr 5 0))), (23, .v (.one (.fn 82 [(6, 0)])))] 53 #[24] YM Yq 7), (7, .obj (.deferred (some []))), (0, .cells 62 [Uv a3, .mp 1]), (1, .mp (QO a4.1) a4.2), (2, .mp (QO a5.1) a5.2), (3, .cells 59 [.ptr 0 0]), (4, .cells 33 (UA a0)), (5, .cells 60 [.mp 2]), (6, .cells 33 (UA a0))], [], 9⟩ (QD []) ⟨ZF a3 a4 a5 a0, [], 11⟩ := hc9
 refine ZK (Y5 (e := .normal) rfl hc9 rfl rfl (by intro h; cases h) rfl) rfl ?_
 refine Qe ?_
 have e := Uc h0; subst e
 exact hQ0 _ _ WW rfl (show StLe _ _ ⟨[], YR a3 a4 a5, [], 11, 53, []⟩ from (Qu U9 (hA rfl) Un rfl (Nat.le_trans hv0 (Um rfl)) rfl rfl rfl (UF rfl rfl (UE rfl (UE rfl UD))) rfl rfl))
 replace hc9 : Xc Try.prog 82 [.one (.yld 8), .one (.ptr 6 0)] ⟨[(8, .loop .ready none [(5, .v (.one (.ptr 3 0))), (9, .v (.one (.ptr 5 0))), (23, .v (.one (.fn 82 [(6, 0)])))] 53 #[24] YM Yq 7), (7, .obj (.deferred (some []))), (0, .cells 62 [Uv a3, .mp 1]), (1, .mp (QO a4.1) a4.2), (2, .mp (QO a5.1) a5.2), (3, .cells 59 [.ptr 0 0]), (4, .cells 33 (UA a0)), (5, .cells 60 [.mp 2]), (6, .cells 33 (UA a0))], [], 9⟩ (QJ 90 y8) ⟨ZE a3 a4 a5 a0, [], 13⟩ := hc9
 refine ZK (rangeFunc_outD rfl hc9 rfl) rfl ?_
 have e := Uc h0; subst e
 exact Jn (hQ0 (.panic (Jz (QJ 90 y8))) _ ZP rfl (show StLe _ _ ⟨[], YR a3 a4 a5, [], 6, 53, []⟩ from (Qu U9 (hA rfl) Un rfl (Nat.le_trans hv0 (Um rfl)) rfl rfl rfl (UF rfl rfl (UE rfl (UE rfl UD))) rfl rfl))) (fun _ _ h => h)
 refine Jd rfl (QH rfl rfl rfl (CallE.d (QB (x1 == 0) x1 (.inr x4) hx4))) ?_
 have e := Uc h0; subst e
 exact Jn (hQ0 (.panic (Jz (QJ 90 x1))) _ ZP rfl (show StLe _ _ ⟨[], YR a3 a4 a5, [], 6, 53, []⟩ from (Qu U9 (hA rfl) Un rfl (Nat.le_trans hv0 (Um rfl)) rfl rfl rfl (UF rfl rfl (UE rfl (UE rfl UD))) rfl rfl))) (fun _ _ h => h)
noncomputable def m47f10_l0 (a0 : Dcl) (a1 : List Dcl) (s2 : Int × (Qa UN Ent)) : Option (LO (Int × (Qa UN Ent)) (((Qa UN Ent)))) :=
 cond (decide (s2.1 < (a0.ctors.length : Int)))
   (Option.bind (Yi a0.ctors s2.1) fun (x17 : Ctr) =>
 Option.bind (some ()) (fun (y18 : Unit) => some (.next ((Jk (s2.1 + 1)), (J5 s2.2 x17.name (⟨4, (a1.length : Int), s2.1, a0.params, x17.ty⟩ : Ent))))))
   (some (.done s2.2))
noncomputable def m47f10_k1 (p0_ : Dcl) (p1_ : (Qa UN Ent)) (p2_ : List Dcl) : Option (((Qa UN Ent))) :=
 J8 (Nat.ble (p0_.name.length + ([46, 114, 101, 99] : List UInt8).length) 1000000000)
 (Option.bind (some ()) (fun (b0_ : Unit) => some (J5 p1_ (p0_.name ++ ([46, 114, 101, 99] : List UInt8)) (⟨5, (p2_.length : Int), 0, p0_.rcr.params, p0_.rcr.ty⟩ : Ent))))
noncomputable def m47f10_l2 (a0 : Dcl) (a1 : List Dcl) (s2 : Int × (Qa UN Ent)) : Option (LO (Int × (Qa UN Ent)) (((Qa UN Ent)))) :=
 cond (decide (s2.1 < (a0.funs.length : Int)))
   (Option.bind (Yi a0.funs s2.1) fun (x29 : Fn) =>
 Option.bind (some ()) (fun (y30 : Unit) => some (.next ((Jk (s2.1 + 1)), (J5 s2.2 x29.name (⟨6, (a1.length : Int), s2.1, a0.params, x29.ty⟩ : Ent))))))
   (some (.done s2.2))
noncomputable def m47f10_k3 (p0_ : Bool) (p1_ : Dcl) (p2_ : List Dcl) : Option (((Qa UN Ent))) :=
 cond p0_
   (Option.bind (Yi ([0, 1, 2]) p1_.kind) fun (b0_ : Int) =>
 Option.bind (some ()) (fun (b1_ : Unit) => some (J5 gmNil p1_.name (⟨b0_, (p2_.length : Int), 0, p1_.params, p1_.ty⟩ : Ent))))
   (cond (p1_.kind == 3)
   (Option.bind (some ()) (fun (b2_ : Unit) => Option.bind (QV (m47f10_l0 p1_ p2_) J2 (0, (J5 gmNil p1_.name (⟨3, (p2_.length : Int), 0, p1_.params, p1_.ty⟩ : Ent)))) (fun (b3_ : (Qa UN Ent)) => m47f10_k1 p1_ b3_ p2_)))
   (cond (p1_.kind == 4)
   (Option.bind (QV (m47f10_l2 p1_ p2_) J2 (0, gmNil)) (fun (b4_ : (Qa UN Ent)) => some b4_))
   (some gmNil)))
noncomputable def m47f10_l4 (a0 : Dcl) (a1 : List Dcl) (a2 : Qa UN Ent) (a3 : Qa UN Ent) (y3 : (Qa UN Ent)) (s1 : Int) : Option (LO Int (Unit ⊕ (((Qa UN Ent)) ⊕ (Int × (Qa UN Ent))))) :=
 cond (decide (s1 < (a0.ctors.length : Int)))
   (Option.bind (Yi a0.ctors s1) fun (x38 : Ctr) =>
 Option.bind (X6 x38.ty 0 a0.params a1 a2 (J5 a3 a0.name (⟨(Qp y3 a0.name).kind, (Qp y3 a0.name).decl, (Qp y3 a0.name).item, (Qp y3 a0.name).params, ((Qp y3 a0.name).ty)⟩ : Ent))) (Sum.elim (fun (x40 : Unit) => some (.next (Jk (s1 + 1)))) (fun (x41 : Int) => some (.done (.inr (.inr (x41, (J5 a3 a0.name (⟨(Qp y3 a0.name).kind, (Qp y3 a0.name).decl, (Qp y3 a0.name).item, (Qp y3 a0.name).params, ((Qp y3 a0.name).ty)⟩ : Ent)))))))))
   (some (.done (.inl ())))
noncomputable def m47f10_l5 (a0 : Dcl) (y3 : (Qa UN Ent)) (s1 : Int × (Qa UN Ent)) : Option (LO (Int × (Qa UN Ent)) (((Qa UN Ent)))) :=
 cond (decide (s1.1 < (a0.ctors.length : Int)))
   (Option.bind (Yi a0.ctors s1.1) fun (x39 : Ctr) =>
 some (.next ((Jk (s1.1 + 1)), (J5 s1.2 x39.name (⟨(Qp y3 x39.name).kind, (Qp y3 x39.name).decl, (Qp y3 x39.name).item, (Qp y3 x39.name).params, ((Qp y3 x39.name).ty)⟩ : Ent)))))
   (some (.done s1.2))
noncomputable def m47f10_l6 (a0 : Dcl) (a1 : List Dcl) (a2 : Qa UN Ent) (o37 : (Qa UN Ent)) (y3 : (Qa UN Ent)) (s1 : Int) : Option (LO Int (Unit ⊕ (((Qa UN Ent)) ⊕ (Int × (Qa UN Ent))))) :=
 cond (decide (s1 < (a0.rcr.rules.length : Int)))
   (Option.bind (Yi a0.rcr.rules s1) fun (x44 : Tm) =>
 Option.bind (X6 x44 0 a0.rcr.params a1 a2 (J5 o37 (a0.name ++ ([46, 114, 101, 99] : List UInt8)) (⟨(Qp y3 (a0.name ++ ([46, 114, 101, 99] : List UInt8))).kind, (Qp y3 (a0.name ++ ([46, 114, 101, 99] : List UInt8))).decl, (Qp y3 (a0.name ++ ([46, 114, 101, 99] : List UInt8))).item, (Qp y3 (a0.name ++ ([46, 114, 101, 99] : List UInt8))).params, ((Qp y3 (a0.name ++ ([46, 114, 101, 99] : List UInt8))).ty)⟩ : Ent))) (Sum.elim (fun (x46 : Unit) => some (.next (Jk (s1 + 1)))) (fun (x47 : Int) => some (.done (.inr (.inr (x47, (J5 o37 (a0.name ++ ([46, 114, 101, 99] : List UInt8)) (⟨(Qp y3 (a0.name ++ ([46, 114, 101, 99] : List UInt8))).kind, (Qp y3 (a0.name ++ ([46, 114, 101, 99] : List UInt8))).decl, (Qp y3 (a0.name ++ ([46, 114, 101, 99] : List UInt8))).item, (Qp y3 (a0.name ++ ([46, 114, 101, 99] : List UInt8))).params, ((Qp y3 (a0.name ++ ([46, 114, 101, 99] : List UInt8))).ty)⟩ : Ent)))))))))
   (some (.done (.inl ())))
noncomputable def m47f10_k7 (p0_ : (Qa UN Ent)) (p1_ : Dcl) (p2_ : (Qa UN Ent)) : Option (((Qa UN Ent)) ⊕ (Int × (Qa UN Ent))) :=
 some (.inl (J5 p0_ (p1_.name ++ ([46, 114, 101, 99] : List UInt8)) (⟨(Qp p2_ (p1_.name ++ ([46, 114, 101, 99] : List UInt8))).kind, (Qp p2_ (p1_.name ++ ([46, 114, 101, 99] : List UInt8))).decl, (Qp p2_ (p1_.name ++ ([46, 114, 101, 99] : List UInt8))).item, (Qp p2_ (p1_.name ++ ([46, 114, 101, 99] : List UInt8))).params, ((Qp p2_ (p1_.name ++ ([46, 114, 101, 99] : List UInt8))).ty)⟩ : Ent)))
noncomputable def m47f10_k8 (p0_ : Dcl) (p1_ : List Dcl) (p2_ : Qa UN Ent) (p3_ : (Qa UN Ent)) (p4_ : (Qa UN Ent)) : Option (((Qa UN Ent)) ⊕ (Int × (Qa UN Ent))) :=
 Option.bind (X6 p0_.rcr.ty 0 p0_.rcr.params p1_ p2_ p3_) (Sum.elim (fun (b0_ : Unit) => J8 (Nat.ble (p0_.name.length + ([46, 114, 101, 99] : List UInt8).length) 1000000000)
 (Option.bind (QV (m47f10_l6 p0_ p1_ p2_ p3_ p4_) J2 0) (Sum.elim (fun (b1_ : Unit) => m47f10_k7 p3_ p0_ p4_) (fun o => some o)))) (fun (b2_ : Int) => some (.inr (b2_, p3_))))
noncomputable def m47f10_k9 (p0_ : Dcl) (p1_ : (Qa UN Ent)) (p2_ : Qa UN Ent) (p3_ : List Dcl) (p4_ : Qa UN Ent) : Option (((Qa UN Ent)) ⊕ (Int × (Qa UN Ent))) :=
 Option.bind (QV (m47f10_l5 p0_ p1_) J2 (0, (J5 p2_ p0_.name (⟨(Qp p1_ p0_.name).kind, (Qp p1_ p0_.name).decl, (Qp p1_ p0_.name).item, (Qp p1_ p0_.name).params, ((Qp p1_ p0_.name).ty)⟩ : Ent)))) (fun (b0_ : (Qa UN Ent)) => m47f10_k8 p0_ p3_ p4_ b0_ p1_)
noncomputable abbrev Z6  : HB :=
 .mp (QO (gmNil : Qa UN Ent).1) (gmNil : Qa UN Ent).2
noncomputable abbrev m47f10_h1 (p0_ : List Dcl) (p1_ : Qa UN Ent) (p2_ : Qa UN Ent) (p3_ : Dcl) : List (Nat × HB) :=
 [(0, .cells 62 [Uv p0_, .mp 1]), (1, .mp (QO p1_.1) p1_.2), (2, .mp (QO p2_.1) p2_.2), (3, .cells 45 (UA p3_)), (4, Z6), (5, .cells 60 [.mp 4])]
noncomputable abbrev m47f10_h2 (p0_ : List Dcl) (p1_ : Qa UN Ent) (p2_ : Qa UN Ent) (p3_ : Dcl) : List (Nat × HB) :=
 [(0, .cells 62 [Uv p0_, .mp 1]), (1, .mp (QO p1_.1) p1_.2), (2, .mp (QO p2_.1) p2_.2), (3, .cells 45 (UA p3_)), (4, Z6), (5, .cells 60 [.mp 4]), (6, .cells 45 (UA p3_)), (7, .cells 3 [Ux (p0_.length : Int)])]
noncomputable abbrev Y9  : HB :=
 .loop .ready none [(0, .v (.one (.ptr 0 0))), (2, .v (.one (.mp 2))), (4, .v (.one (.ptr 3 0))), (6, .v (.one (.ptr 5 0))), (23, .v (.one (.fn 49 [(7, 0), (6, 0)])))] 99 #[24, 25] Zu Zt 8
noncomputable abbrev m47f10_h4 (p0_ : List Dcl) (p1_ : Qa UN Ent) (p2_ : Qa UN Ent) (p3_ : Dcl) (p4_ : (Qa UN Ent)) : List (Nat × HB) :=
 [(0, .cells 62 [Uv p0_, .mp 1]), (1, .mp (QO p1_.1) p1_.2), (2, .mp (QO p2_.1) p2_.2), (3, .cells 45 (UA p3_)), (4, .mp (QO p4_.1) p4_.2), (5, .cells 60 [.mp 4]), (6, .cells 45 (UA p3_)), (7, .cells 3 [Ux (p0_.length : Int)]), (8, .obj (.deferred (some []))), (9, Y9)]
noncomputable abbrev ZY (p0_ : List Dcl) (p1_ : Dcl) : HB :=
 .cells 35 [Ux 0, Ux (p0_.length : Int), Ux 0, Ux p1_.params, Ux p1_.ty.kind, Ux p1_.ty.index, Jl p1_.ty.name, Uv p1_.ty.levels, Uv p1_.ty.kids]
noncomputable abbrev m47f10_h6 (p0_ : List Dcl) (p1_ : Qa UN Ent) (p2_ : Qa UN Ent) (p3_ : Dcl) : List (Nat × HB) :=
 [(0, .cells 62 [Uv p0_, .mp 1]), (1, .mp (QO p1_.1) p1_.2), (2, .mp (QO p2_.1) p2_.2), (3, .cells 45 (UA p3_)), (4, Z6), (5, .cells 60 [.mp 4]), (6, .cells 45 (UA p3_)), (7, .cells 3 [Ux (p0_.length : Int)]), (8, .obj (.deferred (some []))), (9, Y9), (10, ZY p0_ p3_)]
noncomputable abbrev Ks (p0_ : Int) (p1_ : List Dcl) (p2_ : Dcl) : HB :=
 .cells 35 [Ux p0_, Ux (p1_.length : Int), Ux 0, Ux p2_.params, Ux p2_.ty.kind, Ux p2_.ty.index, Jl p2_.ty.name, Uv p2_.ty.levels, Uv p2_.ty.kids]
noncomputable abbrev m47f10_h8 (p0_ : List Dcl) (p1_ : Qa UN Ent) (p2_ : Qa UN Ent) (p3_ : Dcl) (p4_ : Int) : List (Nat × HB) :=
 [(0, .cells 62 [Uv p0_, .mp 1]), (1, .mp (QO p1_.1) p1_.2), (2, .mp (QO p2_.1) p2_.2), (3, .cells 45 (UA p3_)), (4, Z6), (5, .cells 60 [.mp 4]), (6, .cells 45 (UA p3_)), (7, .cells 3 [Ux (p0_.length : Int)]), (8, .obj (.deferred (some []))), (9, Y9), (10, Ks p4_ p0_ p3_)]
noncomputable abbrev YU  : HB :=
 .loop .busy none [(0, .v (.one (.ptr 0 0))), (2, .v (.one (.mp 2))), (4, .v (.one (.ptr 3 0))), (6, .v (.one (.ptr 5 0))), (23, .v (.one (.fn 49 [(7, 0), (6, 0)])))] 99 #[24, 25] Zu Zt 8
noncomputable abbrev m47f10_h10 (p0_ : List Dcl) (p1_ : Qa UN Ent) (p2_ : Qa UN Ent) (p3_ : Dcl) (p4_ : Int) : List (Nat × HB) :=
 [(0, .cells 62 [Uv p0_, .mp 1]), (1, .mp (QO p1_.1) p1_.2), (2, .mp (QO p2_.1) p2_.2), (3, .cells 45 (UA p3_)), (4, Z6), (5, .cells 60 [.mp 4]), (6, .cells 45 (UA p3_)), (7, .cells 3 [Ux (p0_.length : Int)]), (8, .obj (.deferred (some []))), (9, YU), (10, Ks p4_ p0_ p3_), (12, Ks p4_ p0_ p3_)]
noncomputable abbrev m47f10_h11 (p0_ : List Dcl) (p1_ : Qa UN Ent) (p2_ : Qa UN Ent) (p3_ : Dcl) (p4_ : Int) : List (Nat × HB) :=
 [(0, .cells 62 [Uv p0_, .mp 1]), (1, .mp (QO p1_.1) p1_.2), (2, .mp (QO p2_.1) p2_.2), (3, .cells 45 (UA p3_)), (4, Z6), (5, .cells 60 [.mp 4]), (6, .cells 45 (UA p3_)), (7, .cells 3 [Ux (p0_.length : Int)]), (8, .obj (.deferred (some []))), (9, Y9), (10, Ks p4_ p0_ p3_), (12, Ks p4_ p0_ p3_)]
noncomputable abbrev m47f10_h12 (p0_ : Dcl) (p1_ : Int) (p2_ : List Dcl) : HB :=
 .mp (QO ((J5 gmNil p0_.name (⟨p1_, (p2_.length : Int), 0, p0_.params, p0_.ty⟩ : Ent)) : Qa UN Ent).1) ((J5 gmNil p0_.name (⟨p1_, (p2_.length : Int), 0, p0_.params, p0_.ty⟩ : Ent)) : Qa UN Ent).2
noncomputable abbrev m47f10_h13 (p0_ : List Dcl) (p1_ : Qa UN Ent) (p2_ : Qa UN Ent) (p3_ : Dcl) (p4_ : Int) : List (Nat × HB) :=
 [(0, .cells 62 [Uv p0_, .mp 1]), (1, .mp (QO p1_.1) p1_.2), (2, .mp (QO p2_.1) p2_.2), (3, .cells 45 (UA p3_)), (4, m47f10_h12 p3_ p4_ p0_), (5, .cells 60 [.mp 4]), (6, .cells 45 (UA p3_)), (7, .cells 3 [Ux (p0_.length : Int)]), (8, .obj (.deferred (some []))), (9, YU), (10, Ks p4_ p0_ p3_)]
noncomputable abbrev JT (p0_ : List Dcl) (p1_ : Dcl) : HB :=
 .cells 35 [Ux 3, Ux (p0_.length : Int), Ux 0, Ux p1_.params, Ux p1_.ty.kind, Ux p1_.ty.index, Jl p1_.ty.name, Uv p1_.ty.levels, Uv p1_.ty.kids]
noncomputable abbrev m47f10_h15 (p0_ : List Dcl) (p1_ : Qa UN Ent) (p2_ : Qa UN Ent) (p3_ : Dcl) : List (Nat × HB) :=
 [(0, .cells 62 [Uv p0_, .mp 1]), (1, .mp (QO p1_.1) p1_.2), (2, .mp (QO p2_.1) p2_.2), (3, .cells 45 (UA p3_)), (4, Z6), (5, .cells 60 [.mp 4]), (6, .cells 45 (UA p3_)), (7, .cells 3 [Ux (p0_.length : Int)]), (8, .obj (.deferred (some []))), (9, Y9), (10, JT p0_ p3_)]
noncomputable abbrev m47f10_h16 (p0_ : List Dcl) (p1_ : Qa UN Ent) (p2_ : Qa UN Ent) (p3_ : Dcl) : List (Nat × HB) :=
 [(0, .cells 62 [Uv p0_, .mp 1]), (1, .mp (QO p1_.1) p1_.2), (2, .mp (QO p2_.1) p2_.2), (3, .cells 45 (UA p3_)), (4, Z6), (5, .cells 60 [.mp 4]), (6, .cells 45 (UA p3_)), (7, .cells 3 [Ux (p0_.length : Int)]), (8, .obj (.deferred (some []))), (9, YU), (10, JT p0_ p3_), (11, JT p0_ p3_)]
noncomputable abbrev m47f10_h17 (p0_ : List Dcl) (p1_ : Qa UN Ent) (p2_ : Qa UN Ent) (p3_ : Dcl) : List (Nat × HB) :=
 [(0, .cells 62 [Uv p0_, .mp 1]), (1, .mp (QO p1_.1) p1_.2), (2, .mp (QO p2_.1) p2_.2), (3, .cells 45 (UA p3_)), (4, Z6), (5, .cells 60 [.mp 4]), (6, .cells 45 (UA p3_)), (7, .cells 3 [Ux (p0_.length : Int)]), (8, .obj (.deferred (some []))), (9, Y9), (10, JT p0_ p3_), (11, JT p0_ p3_)]
noncomputable abbrev m47f10_h18 (p0_ : Dcl) (p1_ : List Dcl) : HB :=
 .mp (QO ((J5 gmNil p0_.name (⟨3, (p1_.length : Int), 0, p0_.params, p0_.ty⟩ : Ent)) : Qa UN Ent).1) ((J5 gmNil p0_.name (⟨3, (p1_.length : Int), 0, p0_.params, p0_.ty⟩ : Ent)) : Qa UN Ent).2
noncomputable abbrev m47f10_h19 (p0_ : List Dcl) (p1_ : Qa UN Ent) (p2_ : Qa UN Ent) (p3_ : Dcl) : List (Nat × HB) :=
 [(0, .cells 62 [Uv p0_, .mp 1]), (1, .mp (QO p1_.1) p1_.2), (2, .mp (QO p2_.1) p2_.2), (3, .cells 45 (UA p3_)), (4, m47f10_h18 p3_ p0_), (5, .cells 60 [.mp 4]), (6, .cells 45 (UA p3_)), (7, .cells 3 [Ux (p0_.length : Int)]), (8, .obj (.deferred (some []))), (9, YU), (10, JT p0_ p3_)]
noncomputable abbrev m47f10_h20 (p0_ : List Dcl) (p1_ : Qa UN Ent) (p2_ : Qa UN Ent) (p3_ : Dcl) (p4_ : Int × (Qa UN Ent)) (p5_ : Ctr) : List (Nat × HB) :=
 [(0, .cells 62 [Uv p0_, .mp 1]), (1, .mp (QO p1_.1) p1_.2), (2, .mp (QO p2_.1) p2_.2), (3, .cells 45 (UA p3_)), (4, .mp (QO p4_.2.1) p4_.2.2), (5, .cells 60 [.mp 4]), (6, .cells 45 (UA p3_)), (7, .cells 3 [Ux (p0_.length : Int)]), (8, .obj (.deferred (some []))), (9, Y9), (10, JT p0_ p3_), (12, .cells 71 (UA p5_))]
noncomputable abbrev m47f10_h21 (p0_ : List Dcl) (p1_ : Int × (Qa UN Ent)) (p2_ : Dcl) (p3_ : Ctr) : HB :=
 .cells 35 [Ux 4, Ux (p0_.length : Int), Ux p1_.1, Ux p2_.params, Ux p3_.ty.kind, Ux p3_.ty.index, Jl p3_.ty.name, Uv p3_.ty.levels, Uv p3_.ty.kids]
noncomputable abbrev m47f10_h22 (p0_ : List Dcl) (p1_ : Qa UN Ent) (p2_ : Qa UN Ent) (p3_ : Dcl) (p4_ : Int × (Qa UN Ent)) (p5_ : Ctr) : List (Nat × HB) :=
 [(0, .cells 62 [Uv p0_, .mp 1]), (1, .mp (QO p1_.1) p1_.2), (2, .mp (QO p2_.1) p2_.2), (3, .cells 45 (UA p3_)), (4, .mp (QO p4_.2.1) p4_.2.2), (5, .cells 60 [.mp 4]), (6, .cells 45 (UA p3_)), (7, .cells 3 [Ux (p0_.length : Int)]), (8, .obj (.deferred (some []))), (9, YU), (10, JT p0_ p3_), (12, .cells 71 (UA p5_)), (13, m47f10_h21 p0_ p4_ p3_ p5_)]
noncomputable abbrev m47f10_h23 (p0_ : List Dcl) (p1_ : Qa UN Ent) (p2_ : Qa UN Ent) (p3_ : Dcl) (p4_ : Int × (Qa UN Ent)) (p5_ : Ctr) : List (Nat × HB) :=
 [(0, .cells 62 [Uv p0_, .mp 1]), (1, .mp (QO p1_.1) p1_.2), (2, .mp (QO p2_.1) p2_.2), (3, .cells 45 (UA p3_)), (4, .mp (QO p4_.2.1) p4_.2.2), (5, .cells 60 [.mp 4]), (6, .cells 45 (UA p3_)), (7, .cells 3 [Ux (p0_.length : Int)]), (8, .obj (.deferred (some []))), (9, Y9), (10, JT p0_ p3_), (12, .cells 71 (UA p5_)), (13, m47f10_h21 p0_ p4_ p3_ p5_)]
noncomputable abbrev m47f10_h24 (p0_ : Int × (Qa UN Ent)) (p1_ : Ctr) (p2_ : List Dcl) (p3_ : Dcl) : HB :=
 .mp (QO ((J5 p0_.2 p1_.name (⟨4, (p2_.length : Int), p0_.1, p3_.params, p1_.ty⟩ : Ent)) : Qa UN Ent).1) ((J5 p0_.2 p1_.name (⟨4, (p2_.length : Int), p0_.1, p3_.params, p1_.ty⟩ : Ent)) : Qa UN Ent).2
noncomputable abbrev m47f10_h25 (p0_ : List Dcl) (p1_ : Qa UN Ent) (p2_ : Qa UN Ent) (p3_ : Dcl) (p4_ : Int × (Qa UN Ent)) (p5_ : Ctr) : List (Nat × HB) :=
 [(0, .cells 62 [Uv p0_, .mp 1]), (1, .mp (QO p1_.1) p1_.2), (2, .mp (QO p2_.1) p2_.2), (3, .cells 45 (UA p3_)), (4, m47f10_h24 p4_ p5_ p0_ p3_), (5, .cells 60 [.mp 4]), (6, .cells 45 (UA p3_)), (7, .cells 3 [Ux (p0_.length : Int)]), (8, .obj (.deferred (some []))), (9, YU), (10, JT p0_ p3_), (12, .cells 71 (UA p5_))]
noncomputable abbrev m47f10_h26 (p0_ : List Dcl) (p1_ : Qa UN Ent) (p2_ : Qa UN Ent) (p3_ : Dcl) (p4_ : (Qa UN Ent)) : List (Nat × HB) :=
 [(0, .cells 62 [Uv p0_, .mp 1]), (1, .mp (QO p1_.1) p1_.2), (2, .mp (QO p2_.1) p2_.2), (3, .cells 45 (UA p3_)), (4, .mp (QO p4_.1) p4_.2), (5, .cells 60 [.mp 4]), (6, .cells 45 (UA p3_)), (7, .cells 3 [Ux (p0_.length : Int)]), (8, .obj (.deferred (some []))), (9, Y9), (10, JT p0_ p3_)]
noncomputable abbrev m47f10_h27 (p0_ : List Dcl) (p1_ : Dcl) : HB :=
 .cells 35 [Ux 5, Ux (p0_.length : Int), Ux 0, Ux p1_.rcr.params, Ux p1_.rcr.ty.kind, Ux p1_.rcr.ty.index, Jl p1_.rcr.ty.name, Uv p1_.rcr.ty.levels, Uv p1_.rcr.ty.kids]
noncomputable abbrev m47f10_h28 (p0_ : List Dcl) (p1_ : Qa UN Ent) (p2_ : Qa UN Ent) (p3_ : Dcl) (p4_ : (Qa UN Ent)) : List (Nat × HB) :=
 [(0, .cells 62 [Uv p0_, .mp 1]), (1, .mp (QO p1_.1) p1_.2), (2, .mp (QO p2_.1) p2_.2), (3, .cells 45 (UA p3_)), (4, .mp (QO p4_.1) p4_.2), (5, .cells 60 [.mp 4]), (6, .cells 45 (UA p3_)), (7, .cells 3 [Ux (p0_.length : Int)]), (8, .obj (.deferred (some []))), (9, YU), (10, JT p0_ p3_), (12, m47f10_h27 p0_ p3_)]
noncomputable abbrev m47f10_h29 (p0_ : List Dcl) (p1_ : Qa UN Ent) (p2_ : Qa UN Ent) (p3_ : Dcl) (p4_ : (Qa UN Ent)) : List (Nat × HB) :=
 [(0, .cells 62 [Uv p0_, .mp 1]), (1, .mp (QO p1_.1) p1_.2), (2, .mp (QO p2_.1) p2_.2), (3, .cells 45 (UA p3_)), (4, .mp (QO p4_.1) p4_.2), (5, .cells 60 [.mp 4]), (6, .cells 45 (UA p3_)), (7, .cells 3 [Ux (p0_.length : Int)]), (8, .obj (.deferred (some []))), (9, Y9), (10, JT p0_ p3_), (12, m47f10_h27 p0_ p3_)]
noncomputable abbrev m47f10_h30 (p0_ : (Qa UN Ent)) (p1_ : Dcl) (p2_ : List Dcl) : HB :=
 .mp (QO ((J5 p0_ (p1_.name ++ ([46, 114, 101, 99] : List UInt8)) (⟨5, (p2_.length : Int), 0, p1_.rcr.params, p1_.rcr.ty⟩ : Ent)) : Qa UN Ent).1) ((J5 p0_ (p1_.name ++ ([46, 114, 101, 99] : List UInt8)) (⟨5, (p2_.length : Int), 0, p1_.rcr.params, p1_.rcr.ty⟩ : Ent)) : Qa UN Ent).2
noncomputable abbrev m47f10_h31 (p0_ : List Dcl) (p1_ : Qa UN Ent) (p2_ : Qa UN Ent) (p3_ : Dcl) (p4_ : (Qa UN Ent)) : List (Nat × HB) :=
 [(0, .cells 62 [Uv p0_, .mp 1]), (1, .mp (QO p1_.1) p1_.2), (2, .mp (QO p2_.1) p2_.2), (3, .cells 45 (UA p3_)), (4, m47f10_h30 p4_ p3_ p0_), (5, .cells 60 [.mp 4]), (6, .cells 45 (UA p3_)), (7, .cells 3 [Ux (p0_.length : Int)]), (8, .obj (.deferred (some []))), (9, YU), (10, JT p0_ p3_)]
noncomputable abbrev m47f10_h32 (p0_ : List Dcl) (p1_ : Qa UN Ent) (p2_ : Qa UN Ent) (p3_ : Dcl) (p4_ : Int × (Qa UN Ent)) (p5_ : Fn) : List (Nat × HB) :=
 [(0, .cells 62 [Uv p0_, .mp 1]), (1, .mp (QO p1_.1) p1_.2), (2, .mp (QO p2_.1) p2_.2), (3, .cells 45 (UA p3_)), (4, .mp (QO p4_.2.1) p4_.2.2), (5, .cells 60 [.mp 4]), (6, .cells 45 (UA p3_)), (7, .cells 3 [Ux (p0_.length : Int)]), (8, .obj (.deferred (some []))), (9, Y9), (10, ZY p0_ p3_), (11, .cells 76 (UA p5_))]
noncomputable abbrev m47f10_h33 (p0_ : List Dcl) (p1_ : Int × (Qa UN Ent)) (p2_ : Dcl) (p3_ : Fn) : HB :=
 .cells 35 [Ux 6, Ux (p0_.length : Int), Ux p1_.1, Ux p2_.params, Ux p3_.ty.kind, Ux p3_.ty.index, Jl p3_.ty.name, Uv p3_.ty.levels, Uv p3_.ty.kids]
noncomputable abbrev m47f10_h34 (p0_ : List Dcl) (p1_ : Qa UN Ent) (p2_ : Qa UN Ent) (p3_ : Dcl) (p4_ : Int × (Qa UN Ent)) (p5_ : Fn) : List (Nat × HB) :=
 [(0, .cells 62 [Uv p0_, .mp 1]), (1, .mp (QO p1_.1) p1_.2), (2, .mp (QO p2_.1) p2_.2), (3, .cells 45 (UA p3_)), (4, .mp (QO p4_.2.1) p4_.2.2), (5, .cells 60 [.mp 4]), (6, .cells 45 (UA p3_)), (7, .cells 3 [Ux (p0_.length : Int)]), (8, .obj (.deferred (some []))), (9, YU), (10, ZY p0_ p3_), (11, .cells 76 (UA p5_)), (12, m47f10_h33 p0_ p4_ p3_ p5_)]
noncomputable abbrev m47f10_h35 (p0_ : List Dcl) (p1_ : Qa UN Ent) (p2_ : Qa UN Ent) (p3_ : Dcl) (p4_ : Int × (Qa UN Ent)) (p5_ : Fn) : List (Nat × HB) :=
 [(0, .cells 62 [Uv p0_, .mp 1]), (1, .mp (QO p1_.1) p1_.2), (2, .mp (QO p2_.1) p2_.2), (3, .cells 45 (UA p3_)), (4, .mp (QO p4_.2.1) p4_.2.2), (5, .cells 60 [.mp 4]), (6, .cells 45 (UA p3_)), (7, .cells 3 [Ux (p0_.length : Int)]), (8, .obj (.deferred (some []))), (9, Y9), (10, ZY p0_ p3_), (11, .cells 76 (UA p5_)), (12, m47f10_h33 p0_ p4_ p3_ p5_)]
noncomputable abbrev m47f10_h36 (p0_ : Int × (Qa UN Ent)) (p1_ : Fn) (p2_ : List Dcl) (p3_ : Dcl) : HB :=
 .mp (QO ((J5 p0_.2 p1_.name (⟨6, (p2_.length : Int), p0_.1, p3_.params, p1_.ty⟩ : Ent)) : Qa UN Ent).1) ((J5 p0_.2 p1_.name (⟨6, (p2_.length : Int), p0_.1, p3_.params, p1_.ty⟩ : Ent)) : Qa UN Ent).2
noncomputable abbrev m47f10_h37 (p0_ : List Dcl) (p1_ : Qa UN Ent) (p2_ : Qa UN Ent) (p3_ : Dcl) (p4_ : Int × (Qa UN Ent)) (p5_ : Fn) : List (Nat × HB) :=
 [(0, .cells 62 [Uv p0_, .mp 1]), (1, .mp (QO p1_.1) p1_.2), (2, .mp (QO p2_.1) p2_.2), (3, .cells 45 (UA p3_)), (4, m47f10_h36 p4_ p5_ p0_ p3_), (5, .cells 60 [.mp 4]), (6, .cells 45 (UA p3_)), (7, .cells 3 [Ux (p0_.length : Int)]), (8, .obj (.deferred (some []))), (9, YU), (10, ZY p0_ p3_), (11, .cells 76 (UA p5_))]
noncomputable abbrev m47f10_h38 (p0_ : Qa UN Ent) (p1_ : Dcl) (p2_ : (Qa UN Ent)) : HB :=
 .mp (QO ((J5 p0_ p1_.name (⟨(Qp p2_ p1_.name).kind, (Qp p2_ p1_.name).decl, (Qp p2_ p1_.name).item, (Qp p2_ p1_.name).params, ((Qp p2_ p1_.name).ty)⟩ : Ent)) : Qa UN Ent).1) ((J5 p0_ p1_.name (⟨(Qp p2_ p1_.name).kind, (Qp p2_ p1_.name).decl, (Qp p2_ p1_.name).item, (Qp p2_ p1_.name).params, ((Qp p2_ p1_.name).ty)⟩ : Ent)) : Qa UN Ent).2
noncomputable abbrev m47f10_h39 (p0_ : List Dcl) (p1_ : Qa UN Ent) (p2_ : Qa UN Ent) (p3_ : Dcl) (p4_ : (Qa UN Ent)) : List (Nat × HB) :=
 [(0, .cells 62 [Uv p0_, .mp 1]), (1, .mp (QO p1_.1) p1_.2), (2, m47f10_h38 p2_ p3_ p4_), (3, .cells 45 (UA p3_)), (4, .mp (QO p4_.1) p4_.2), (5, .cells 60 [.mp 4]), (6, .cells 45 (UA p3_)), (7, .cells 3 [Ux (p0_.length : Int)])]
noncomputable abbrev m47f10_h40 (p0_ : Dcl) (p1_ : (Qa UN Ent)) (p2_ : List Dcl) (p3_ : Ctr) : List (Nat × HB) :=
 [(3, .cells 45 (UA p0_)), (4, .mp (QO p1_.1) p1_.2), (5, .cells 60 [.mp 4]), (6, .cells 45 (UA p0_)), (7, .cells 3 [Ux (p2_.length : Int)]), (11, .cells 71 (UA p3_))]
noncomputable abbrev m47f10_h41 (p0_ : List Dcl) (p1_ : Qa UN Ent) (p2_ : Qa UN Ent) (p3_ : Dcl) (p4_ : (Qa UN Ent)) : List (Nat × HB) :=
 [(0, .cells 62 [Uv p0_, .mp 1]), (1, .mp (QO p1_.1) p1_.2), (2, m47f10_h38 p2_ p3_ p4_)]
noncomputable abbrev m47f10_h42 (p0_ : Dcl) (p1_ : (Qa UN Ent)) (p2_ : List Dcl) : List (Nat × HB) :=
 [(3, .cells 45 (UA p0_)), (4, .mp (QO p1_.1) p1_.2), (5, .cells 60 [.mp 4]), (6, .cells 45 (UA p0_)), (7, .cells 3 [Ux (p2_.length : Int)])]
noncomputable abbrev m47f10_h43 (p0_ : (Qa UN Ent)) (p1_ : Dcl) (p2_ : (Qa UN Ent)) : HB :=
 .mp (QO ((J5 p0_ (p1_.name ++ ([46, 114, 101, 99] : List UInt8)) (⟨(Qp p2_ (p1_.name ++ ([46, 114, 101, 99] : List UInt8))).kind, (Qp p2_ (p1_.name ++ ([46, 114, 101, 99] : List UInt8))).decl, (Qp p2_ (p1_.name ++ ([46, 114, 101, 99] : List UInt8))).item, (Qp p2_ (p1_.name ++ ([46, 114, 101, 99] : List UInt8))).params, ((Qp p2_ (p1_.name ++ ([46, 114, 101, 99] : List UInt8))).ty)⟩ : Ent)) : Qa UN Ent).1) ((J5 p0_ (p1_.name ++ ([46, 114, 101, 99] : List UInt8)) (⟨(Qp p2_ (p1_.name ++ ([46, 114, 101, 99] : List UInt8))).kind, (Qp p2_ (p1_.name ++ ([46, 114, 101, 99] : List UInt8))).decl, (Qp p2_ (p1_.name ++ ([46, 114, 101, 99] : List UInt8))).item, (Qp p2_ (p1_.name ++ ([46, 114, 101, 99] : List UInt8))).params, ((Qp p2_ (p1_.name ++ ([46, 114, 101, 99] : List UInt8))).ty)⟩ : Ent)) : Qa UN Ent).2
noncomputable abbrev m47f10_h44 (p0_ : List Dcl) (p1_ : Qa UN Ent) (p2_ : (Qa UN Ent)) (p3_ : Dcl) (p4_ : (Qa UN Ent)) : List (Nat × HB) :=
 [(0, .cells 62 [Uv p0_, .mp 1]), (1, .mp (QO p1_.1) p1_.2), (2, m47f10_h43 p2_ p3_ p4_), (3, .cells 45 (UA p3_)), (4, .mp (QO p4_.1) p4_.2), (5, .cells 60 [.mp 4]), (6, .cells 45 (UA p3_)), (7, .cells 3 [Ux (p0_.length : Int)])]
noncomputable abbrev m47f10_h45 (p0_ : Dcl) (p1_ : (Qa UN Ent)) (p2_ : List Dcl) (p3_ : Tm) : List (Nat × HB) :=
 [(3, .cells 45 (UA p0_)), (4, .mp (QO p1_.1) p1_.2), (5, .cells 60 [.mp 4]), (6, .cells 45 (UA p0_)), (7, .cells 3 [Ux (p2_.length : Int)]), (19, .cells 33 (UA p3_))]
noncomputable abbrev m47f10_h46 (p0_ : List Dcl) (p1_ : Qa UN Ent) (p2_ : (Qa UN Ent)) (p3_ : Dcl) (p4_ : (Qa UN Ent)) : List (Nat × HB) :=
 [(0, .cells 62 [Uv p0_, .mp 1]), (1, .mp (QO p1_.1) p1_.2), (2, m47f10_h43 p2_ p3_ p4_)]
noncomputable abbrev m47f10_h47 (p0_ : List Dcl) (p1_ : Qa UN Ent) (p2_ : (Qa UN Ent)) : List (Nat × HB) :=
 [(0, .cells 62 [Uv p0_, .mp 1]), (1, .mp (QO p1_.1) p1_.2), (2, .mp (QO p2_.1) p2_.2)]
noncomputable abbrev m47f10_h48 (p0_ : List Dcl) (p1_ : Qa UN Ent) (p2_ : Qa UN Ent) : List (Nat × HB) :=
 [(0, .cells 62 [Uv p0_, .mp 1]), (1, .mp (QO p1_.1) p1_.2), (2, .mp (QO p2_.1) p2_.2)]
noncomputable def m47f10 (a0 : Dcl) (a1 : List Dcl) (a2 : Qa UN Ent) (a3 : Qa UN Ent) : Option (((Qa UN Ent)) ⊕ (Int × (Qa UN Ent))) :=
 Option.bind (some ()) (fun (y1 : Unit) => Option.bind (Option.bind (cond (a0.kind == 0)
   (some (a0.kind == 0))
   (cond (a0.kind == 1)
   (some (a0.kind == 1))
   (some (a0.kind == 2)))) (fun (v5 : Bool) => m47f10_k3 v5 a0 a1)) (fun (y3 : (Qa UN Ent)) => Option.bind (QV (m47f10_l4 a0 a1 a2 a3 y3) J2 0) (Sum.elim (fun (o36 : Unit) => m47f10_k9 a0 y3 a3 a1 a2) (fun o => some o))))
set_option maxRecDepth 100000 in
set_option maxHeartbeats 2000000 in
theorem m47f10_ok (a0 : Dcl) (a1 : List Dcl) (a2 : Qa UN Ent) (a3 : Qa UN Ent) (r : ((Qa UN Ent)) ⊕ (Int × (Qa UN Ent))) (h0 : m47f10 a0 a1 a2 a3 = some r) : CallE Try.prog 47 [.one (.ptr 0 0), .agg (UA a0), .one (.mp 2)] ⟨m47f10_h48 a1 a2 a3, [], 3⟩ ((Sum.elim (fun (r0 : (Qa UN Ent)) => ((.ret []) : EK)) (fun (r1 : Int × (Qa UN Ent)) => ((.pan (QJ 90 r1.1)) : EK))) r) ⟨((Sum.elim (fun (r0 : (Qa UN Ent)) => (⟨[], [(0, .cells 62 [Uv a1, .mp 1]), (1, .mp (QO a2.1) a2.2), (2, .mp (QO r0.1) r0.2)], [], 19, 99, []⟩ : St)) (fun (r1 : Int × (Qa UN Ent)) => (⟨[], [(0, .cells 62 [Uv a1, .mp 1]), (1, .mp (QO a2.1) a2.2), (2, .mp (QO r1.2.1) r1.2.2)], [], 14, 99, []⟩ : St))) r).hp, ((Sum.elim (fun (r0 : (Qa UN Ent)) => (⟨[], [(0, .cells 62 [Uv a1, .mp 1]), (1, .mp (QO a2.1) a2.2), (2, .mp (QO r0.1) r0.2)], [], 19, 99, []⟩ : St)) (fun (r1 : Int × (Qa UN Ent)) => (⟨[], [(0, .cells 62 [Uv a1, .mp 1]), (1, .mp (QO a2.1) a2.2), (2, .mp (QO r1.2.1) r1.2.2)], [], 14, 99, []⟩ : St))) r).tk, ((Sum.elim (fun (r0 : (Qa UN Ent)) => (⟨[], [(0, .cells 62 [Uv a1, .mp 1]), (1, .mp (QO a2.1) a2.2), (2, .mp (QO r0.1) r0.2)], [], 19, 99, []⟩ : St)) (fun (r1 : Int × (Qa UN Ent)) => (⟨[], [(0, .cells 62 [Uv a1, .mp 1]), (1, .mp (QO a2.1) a2.2), (2, .mp (QO r1.2.1) r1.2.2)], [], 14, 99, []⟩ : St))) r).nx⟩ := by
 unfold m47f10 at h0
 refine JP r ((Sum.elim (fun (r0 : (Qa UN Ent)) => (⟨[], [(0, .cells 62 [Uv a1, .mp 1]), (1, .mp (QO a2.1) a2.2), (2, .mp (QO r0.1) r0.2)], [], 19, 99, []⟩ : St)) (fun (r1 : Int × (Qa UN Ent)) => (⟨[], [(0, .cells 62 [Uv a1, .mp 1]), (1, .mp (QO a2.1) a2.2), (2, .mp (QO r1.2.1) r1.2.2)], [], 14, 99, []⟩ : St)))) ((Sum.elim (fun (r0 : (Qa UN Ent)) => ((.ret []) : EK)) (fun (r1 : Int × (Qa UN Ent)) => ((.pan (QJ 90 r1.1)) : EK)))) rfl rfl en_47 (Um rfl) (fun z_ => by cases z_ with
 | inl _ => exact rfl
 | inr _ => exact rfl) (fun z_ => by cases z_ with
 | inl _ => exact (WA .nil)
 | inr _ => exact WG) (fun w0 M V0 Q hv0 hQ0 => ?_)
 simp only [J7]
 refine Q5 <| Q0 <| Q9 rfl rfl (Um rfl) (QN rfl) <| Q4 <| Q3 <| Q5 <| Q0 <| Q9 rfl rfl (Um rfl) (YX UN Ent) <| Q9 rfl rfl (Um rfl) (Qm z_60 rfl) <| Qy rfl rfl (Qr YA rfl rfl rfl rfl (Um rfl) rfl) <| Q4 <| Q3 <| Q5 <| Q5 ?_
 refine Jv [6] [] YI (by kernel_rfl) (by kernel_rfl) (by kernel_rfl) ?_
 refine RunA.rd rfl rfl rfl (Q2 (QK (a0 : Dcl) JS rfl rfl)) rfl <| RunA.rd rfl rfl rfl (Q2 (Qt rfl)) rfl <| RunA.rd rfl rfl rfl (Q2 (Jx rfl)) rfl <| RunA.rd rfl rfl rfl (Q2 (Q1 fo_62_0 rfl)) rfl <| RunA.rd rfl rfl rfl (Q2 (Q6 ag_22 rfl rfl rfl)) rfl <| RunA.rd rfl rfl rfl (Q2 (Qx (α := Dcl) Ke rfl (.d _))) rfl ?_
 refine Qb h0 (fun y1 h1 h0 => ?_)
 have hc2 : CallM Try.prog 31 [.agg (UA a0), .one (Ux (a1.length : Int))] ⟨m47f10_h1 a1 a2 a3 a0, [], 6⟩ (QD [.one (.fn 49 [(7, 0), (6, 0)])]) ⟨m47f10_h2 a1 a2 a3 a0, [], 8⟩ := by
  refine QT ⟨[(4, .v (.one (.fn 49 [(7, 0), (6, 0)])))], m47f10_h2 a1 a2 a3 a0, [], 8, 6, []⟩ rfl rfl en_31 (Um rfl) rfl (Qz rfl .nil) (fun w0 M V0 Q hv1 hQ1 => ?_)
  simp only [J7]
  refine Q5 <| Q0 <| Q9 rfl rfl (Um rfl) (QN rfl) <| Q9 rfl rfl (Um rfl) (QN rfl) <| Ug rfl rfl rfl <| Q4 <| Q3 <| Q5 <| Q0 <| Ue rfl rfl rfl (ZN rfl rfl) <| Ug rfl rfl rfl <| Q4 <| Q3 <| QA ?_
  have e := Uc h1; subst e
  exact hQ1 _ _ _ (.inr rfl) rfl (Qu (Ua rfl) (hA rfl) Un rfl (Nat.le_trans hv1 (Um rfl)) rfl rfl rfl (UF rfl rfl (UE rfl (UE rfl (UF rfl rfl (UE rfl (UG rfl)))))) rfl rfl)
 refine RunA.eff rfl rfl rfl (JM rfl rfl rfl hc2 rfl (hA rfl) Un) rfl ?_
 refine RunA.nil ⟨?ex, _, _, rfl, ?_⟩
 case ex => exact trivial
 refine JX (st' := ⟨[(0, .v (.one (.ptr 0 0))), (2, .v (.one (.mp 2))), (4, .v (.one (.ptr 3 0))), (6, .v (.one (.ptr 5 0))), (23, .v (.one (.fn 49 [(7, 0), (6, 0)])))], m47f10_h2 a1 a2 a3 a0, [], 8, 99, []⟩) (Qu (Ua rfl) (hA rfl) Un rfl (Nat.le_trans hv0 (Um rfl)) rfl rfl rfl (UF rfl rfl (UE rfl (UE rfl (UF rfl rfl (UE rfl (UG rfl)))))) rfl rfl) <| Q3 <| Qf <| Km (st' := ⟨[(0, .v (.one (.ptr 0 0))), (2, .v (.one (.mp 2))), (4, .v (.one (.ptr 3 0))), (6, .v (.one (.ptr 5 0))), (23, .v (.one (.fn 49 [(7, 0), (6, 0)])))], m47f10_h2 a1 a2 a3 a0, [], 8, 99, []⟩) (Qu (Ua rfl) (hA rfl) Un rfl (Nat.le_trans hv0 (Um rfl)) rfl rfl rfl (UF rfl rfl (UE rfl (UE rfl (UF rfl rfl (UE rfl (UG rfl)))))) rfl rfl) ?_
 refine Qb h0 (fun y3 h1 h0 => ?_)
 have hc4 : CallM Try.prog 49 [.one (.yld 9), .one (.ptr 7 0), .one (.ptr 6 0)] ⟨[(9, .loop .ready none [(0, .v (.one (.ptr 0 0))), (2, .v (.one (.mp 2))), (4, .v (.one (.ptr 3 0))), (6, .v (.one (.ptr 5 0))), (23, .v (.one (.fn 49 [(7, 0), (6, 0)])))] 99 #[24, 25] Zu Zt 8), (8, .obj (.deferred (some []))), (0, .cells 62 [Uv a1, .mp 1]), (1, .mp (QO a2.1) a2.2), (2, .mp (QO a3.1) a3.2), (3, .cells 45 (UA a0)), (4, .mp (QO (gmNil : Qa UN Ent).1) (gmNil : Qa UN Ent).2), (5, .cells 60 [.mp 4]), (6, .cells 45 (UA a0)), (7, .cells 3 [Ux (a1.length : Int)])], [], 10⟩ (QD []) ⟨m47f10_h4 a1 a2 a3 a0 y3, [], 11⟩ := by
  refine QT ⟨[], m47f10_h4 a1 a2 a3 a0 y3, [], 11, 98, []⟩ rfl rfl en_49 (Um rfl) rfl .nil (fun w0 M V0 Q hv1 hQ1 => ?_)
  simp only [J7]
  refine Q5 <| Q0 <| Ue rfl rfl rfl (Q6 QZ rfl rfl rfl) <| Ue rfl rfl rfl (Q1 Ym rfl) <| Ue rfl rfl rfl (Q6 QZ rfl rfl rfl) <| Ue rfl rfl rfl (Q1 K4 rfl) <| Ue rfl rfl rfl (Qi QW rfl rfl rfl rfl) <| Ue rfl rfl rfl (ZA K9 rfl rfl rfl rfl rfl) <| Q9 rfl rfl (Um rfl) (Qm ZB rfl) <| Qy rfl rfl (Qr Jm rfl rfl rfl rfl (Um rfl) rfl) <| Q4 <| Q3 <| Q5 <| Q0 ?_
  refine Ue rfl rfl rfl (Q1 Yn rfl) <| Ue rfl rfl rfl (Q6 QZ rfl rfl rfl) <| Q4 <| Q3 <| Qf <| Q5 <| Q5 <| Q0 <| Ue rfl rfl rfl (Q7 rfl rfl rfl) <| Ug rfl rfl rfl <| Q4 <| Q3 ?_
  refine QS (fun (v5 : Bool) => ⟨[(0, .v (.one (.yld 9))), (1, .v (.one (.ptr 7 0))), (2, .v (.one (.ptr 6 0))), (4, .v (.one (.ptr 10 0))), (16, .v (.one (Ux a0.kind))), (17, .v (.one (Uy v5)))], m47f10_h6 a1 a2 a3 a0, [], 11, 98, []⟩) (fun (v5 : Bool) => (m47f10_k3 v5 a0 a1) = some y3) ?_ ?_
  refine Qb h1 (fun w2_ h2 h1 => ?_)
  refine Qg (b := (a0.kind == 0)) rfl (fun c6 => ?_) (fun c6 => ?_)
  replace h2 := Qk c6 h2
  refine Qj ?_
  have e := Uc h2; subst e
  exact Qc (a0.kind == 0) (Qu (Ua rfl) (hA rfl) Un rfl (Nat.le_trans hv1 (Um rfl)) rfl rfl rfl (UF rfl rfl (UE rfl (UE rfl (UF rfl rfl (UE rfl (UG rfl)))))) rfl rfl) h1
  replace h2 := Ql c6 h2
  refine Q5 <| Q0 <| Ue rfl rfl rfl (Q7 rfl rfl rfl) <| Ug rfl rfl rfl <| Q4 <| Q3 ?_
  refine Qg (b := (a0.kind == 1)) rfl (fun c7 => ?_) (fun c7 => ?_)
  replace h2 := Qk c7 h2
  refine Qj ?_
  have e := Uc h2; subst e
  exact Qc (a0.kind == 1) (Qu (Ua rfl) (hA rfl) Un rfl (Nat.le_trans hv1 (Um rfl)) rfl rfl rfl (UF rfl rfl (UE rfl (UE rfl (UF rfl rfl (UE rfl (UG rfl)))))) rfl rfl) h1
  replace h2 := Ql c7 h2
  refine Q0 <| Ue rfl rfl rfl (Q7 rfl rfl rfl) <| Ug rfl rfl rfl <| Q4 ?_
  have e := Uc h2; subst e
  exact Qc (a0.kind == 2) (Qu (Ua rfl) (hA rfl) Un rfl (Nat.le_trans hv1 (Um rfl)) rfl rfl rfl (UF rfl rfl (UE rfl (UE rfl (UF rfl rfl (UE rfl (UG rfl)))))) rfl rfl) h1
  intro v5 h1
  unfold m47f10_k3 at h1
  refine Q3 ?_
  refine Qg (b := v5) rfl (fun c8 => ?_) (fun c8 => ?_)
  replace h1 := Qk c8 h1
  refine Q5 <| Q0 <| Q9 rfl rfl (Um rfl) (OpOK.lit3E (α := Int) 0 1 2 W0 U4 rfl rfl (Um rfl) (Um rfl) rfl rfl rfl rfl (.cons (.d _) (.cons (.d _) (.cons (.d _) .nil))) ⟨rfl, rfl, rfl⟩) <| Ue rfl rfl rfl (Q1 Yn rfl) <| Ue rfl rfl rfl (Q6 QZ rfl rfl rfl) ?_
  refine Qb h1 (fun x9 hx9 h1 => ?_)
  refine Ue rfl rfl rfl (Qq (α := Int) W0 rfl (.app _ _) rfl hx9) <| Ue rfl rfl rfl (Js QZ rfl rfl) <| Ue rfl rfl rfl (Q1 ZH rfl) <| Qy rfl rfl (Qr QZ rfl rfl rfl rfl (Um rfl) rfl) <| Q4 <| Q3 <| Q0 <| Uf rfl rfl rfl <| Ue rfl rfl rfl (Q1 Y8 rfl) <| Ue rfl rfl rfl (Q6 JG rfl rfl rfl) <| Ue rfl rfl rfl (Qi Jm rfl rfl rfl rfl) ?_
  refine Qb h1 (fun y10 h2 h1 => ?_)
  have ha11 : ExecOK Try.prog (some 9) Zu ⟨[(0, .v (.one (.ptr 0 0))), (2, .v (.one (.mp 2))), (4, .v (.one (.ptr 3 0))), (6, .v (.one (.ptr 5 0))), (23, .v (.one (.fn 49 [(7, 0), (6, 0)]))), (24, .v (.one (Jl a0.name))), (25, .v (.agg [Ux x9, Ux (a1.length : Int), Ux 0, Ux a0.params, Ux a0.ty.kind, Ux a0.ty.index, Jl a0.ty.name, Uv a0.ty.levels, Uv a0.ty.kids]))], m47f10_h8 a1 a2 a3 a0 x9, [(11, some ⟨3, 1, (Enc.encL ([0, 1, 2] : List Int)).length, []⟩)], 12, 99, []⟩ .normal ⟨[(6, .v (.one (.ptr 5 0))), (7, .v (.one (Jl a0.name))), (8, .v (.one (.ptr 12 0)))], m47f10_h11 a1 a2 a3 a0 x9, [(11, some ⟨3, 1, (Enc.encL ([0, 1, 2] : List Int)).length, []⟩)], 13, 99, []⟩ := by
   refine QI (fun w0 M V0 ro n Q hv2 hro2 hQn2 => ?_)
   refine Q5 <| Q0 <| Ug rfl rfl rfl <| Q4 <| Q3 <| Q0 <| Q9 rfl rfl (Um rfl) (Qm ZB rfl) <| Qy rfl rfl (Qr Jm rfl rfl rfl rfl (Um rfl) rfl) <| Q4 ?_
   exact Jr hQn2 (Qu (Ua rfl) (hA rfl) (Uo rfl) rfl (Nat.le_trans hv2 (Um rfl)) rfl rfl rfl (UF rfl rfl (UE rfl (UE rfl (UF rfl rfl (UE rfl (UG rfl)))))) rfl rfl)
  have hb12 : ExecOK Try.prog (some 9) Zt ⟨[(6, .v (.one (.ptr 5 0))), (7, .v (.one (Jl a0.name))), (8, .v (.one (.ptr 12 0)))], m47f10_h10 a1 a2 a3 a0 x9, [(11, some ⟨3, 1, (Enc.encL ([0, 1, 2] : List Int)).length, []⟩)], 13, 99, []⟩ .normal ⟨[], m47f10_h13 a1 a2 a3 a0 x9, [(11, some ⟨3, 1, (Enc.encL ([0, 1, 2] : List Int)).length, []⟩)], 13, 99, []⟩ := by
   refine QI (fun w0 M V0 ro n Q hv2 hro2 hQn2 => ?_)
   refine Qf <| Q0 <| Ue rfl rfl rfl (Q6 YA rfl rfl rfl) <| Uf rfl rfl rfl <| Ue rfl rfl rfl (Qi Jm rfl rfl rfl rfl) <| Qy rfl rfl (Je (M := gmNil) (k := a0.name) (v := (⟨x9, (a1.length : Int), 0, a0.params, a0.ty⟩ : Ent)) YL rfl rfl rfl rfl rfl) <| Q4 <| Qe ?_
   have e := Uc h2; subst e
   exact Jr hQn2 (Qu U9 (hA rfl) (Uo rfl) rfl (Nat.le_trans hv2 (Um rfl)) rfl rfl rfl (UF rfl rfl (UE rfl (UE rfl (UF rfl rfl (UE rfl (UG rfl)))))) rfl rfl)
  refine Q9 rfl rfl (Um rfl) (Jc (jump := none) rfl rfl rfl rfl rfl (Qw ha11 (fun E hv => (Qu (Ua rfl) (hA rfl) (Uo rfl) rfl (Nat.le_trans hv (Um rfl)) rfl rfl rfl (UF rfl rfl (UE rfl (UE rfl (UF rfl rfl (UE rfl (UG rfl)))))) rfl rfl))) rfl (Qw hb12 (fun E hv => (Qu (Ua rfl) (hA rfl) (Uo rfl) rfl (Nat.le_trans hv (Um rfl)) rfl rfl rfl (UF rfl rfl (UE rfl (UE rfl (UF rfl rfl (UE rfl (UG rfl)))))) rfl rfl))) rfl rfl) ?_
  refine Q4 <| Qe ?_
  have e := Uc h1; subst e
  exact hQ1 _ _ _ (.inl rfl) rfl (Qu U9 (hA rfl) Un rfl (Nat.le_trans hv1 (Um rfl)) rfl rfl rfl (UF rfl rfl (UE rfl (UE rfl (UF rfl rfl (UE rfl (UG rfl)))))) rfl rfl)
  replace h1 := Ql c8 h1
  refine Q5 <| Q0 <| Ue rfl rfl rfl (Q7 rfl rfl rfl) <| Ug rfl rfl rfl <| Q4 <| Q3 ?_
  refine Qg (b := (a0.kind == 3)) rfl (fun c13 => ?_) (fun c13 => ?_)
  replace h1 := Qk c13 h1
  refine Q5 <| Q0 <| Ue rfl rfl rfl (Q1 ZH rfl) <| Qy rfl rfl (Qr QZ rfl rfl rfl rfl (Um rfl) rfl) <| Q4 <| Q3 <| Q5 <| Q5 <| Q0 <| Uf rfl rfl rfl <| Ue rfl rfl rfl (Q1 Y8 rfl) <| Ue rfl rfl rfl (Q6 JG rfl rfl rfl) <| Ue rfl rfl rfl (Qi Jm rfl rfl rfl rfl) ?_
  refine Qb h1 (fun y14 h2 h1 => ?_)
  have ha15 : ExecOK Try.prog (some 9) Zu ⟨[(0, .v (.one (.ptr 0 0))), (2, .v (.one (.mp 2))), (4, .v (.one (.ptr 3 0))), (6, .v (.one (.ptr 5 0))), (23, .v (.one (.fn 49 [(7, 0), (6, 0)]))), (24, .v (.one (Jl a0.name))), (25, .v (.agg [Ux 3, Ux (a1.length : Int), Ux 0, Ux a0.params, Ux a0.ty.kind, Ux a0.ty.index, Jl a0.ty.name, Uv a0.ty.levels, Uv a0.ty.kids]))], m47f10_h15 a1 a2 a3 a0, [], 11, 99, []⟩ .normal ⟨[(6, .v (.one (.ptr 5 0))), (7, .v (.one (Jl a0.name))), (8, .v (.one (.ptr 11 0)))], m47f10_h17 a1 a2 a3 a0, [], 12, 99, []⟩ := by
   refine QI (fun w0 M V0 ro n Q hv2 hro2 hQn2 => ?_)
   refine Q5 <| Q0 <| Ug rfl rfl rfl <| Q4 <| Q3 <| Q0 <| Q9 rfl rfl (Um rfl) (Qm ZB rfl) <| Qy rfl rfl (Qr Jm rfl rfl rfl rfl (Um rfl) rfl) <| Q4 ?_
   exact Jr hQn2 (Qu (Ua rfl) (hA rfl) Un rfl (Nat.le_trans hv2 (Um rfl)) rfl rfl rfl (UF rfl rfl (UE rfl (UE rfl (UF rfl rfl (UE rfl (UG rfl)))))) rfl rfl)
  have hb16 : ExecOK Try.prog (some 9) Zt ⟨[(6, .v (.one (.ptr 5 0))), (7, .v (.one (Jl a0.name))), (8, .v (.one (.ptr 11 0)))], m47f10_h16 a1 a2 a3 a0, [], 12, 99, []⟩ .normal ⟨[], m47f10_h19 a1 a2 a3 a0, [], 12, 99, []⟩ := by
   refine QI (fun w0 M V0 ro n Q hv2 hro2 hQn2 => ?_)
   refine Qf <| Q0 <| Ue rfl rfl rfl (Q6 YA rfl rfl rfl) <| Uf rfl rfl rfl <| Ue rfl rfl rfl (Qi Jm rfl rfl rfl rfl) <| Qy rfl rfl (Je (M := gmNil) (k := a0.name) (v := (⟨3, (a1.length : Int), 0, a0.params, a0.ty⟩ : Ent)) YL rfl rfl rfl rfl rfl) <| Q4 <| Qe ?_
   have e := Uc h2; subst e
   exact Jr hQn2 (Qu U9 (hA rfl) Un rfl (Nat.le_trans hv2 (Um rfl)) rfl rfl rfl (UF rfl rfl (UE rfl (UE rfl (UF rfl rfl (UE rfl (UG rfl)))))) rfl rfl)
  refine Q9 rfl rfl (Um rfl) (Jc (jump := none) rfl rfl rfl rfl rfl (Qw ha15 (fun E hv => (Qu (Ua rfl) (hA rfl) Un rfl (Nat.le_trans hv (Um rfl)) rfl rfl rfl (UF rfl rfl (UE rfl (UE rfl (UF rfl rfl (UE rfl (UG rfl)))))) rfl rfl))) rfl (Qw hb16 (fun E hv => (Qu (Ua rfl) (hA rfl) Un rfl (Nat.le_trans hv (Um rfl)) rfl rfl rfl (UF rfl rfl (UE rfl (UE rfl (UF rfl rfl (UE rfl (UG rfl)))))) rfl rfl))) rfl rfl) ?_
  refine Ue rfl rfl rfl (Jb rfl) <| Q4 <| Q3 ?_
  refine Qg rfl (fun h => nomatch h) (fun _ => ?_)
  refine Qj <| Q3 <| Q5 <| Q5 <| Q0 <| Ue rfl rfl rfl (Q1 Yc rfl) <| Ue rfl rfl rfl (Q6 Zc rfl rfl rfl) <| Ue rfl rfl rfl (Qx (α := Ctr) Yv rfl (.d _)) <| Uf rfl rfl rfl <| Q4 <| Q3 <| Qf ?_
  refine QR 1 (fun (o17 : (Qa UN Ent)) => ⟨[(0, .v (.one (.yld 9))), (1, .v (.one (.ptr 7 0))), (2, .v (.one (.ptr 6 0)))], [(0, .cells 62 [Uv a1, .mp 1]), (1, .mp (QO a2.1) a2.2), (2, .mp (QO a3.1) a3.2), (3, .cells 45 (UA a0)), (4, .mp (QO o17.1) o17.2), (5, .cells 60 [.mp 4]), (6, .cells 45 (UA a0)), (7, .cells 3 [Ux (a1.length : Int)]), (8, .obj (.deferred (some []))), (9, Y9), (10, JT a1 a0)], [], 12, 98, []⟩) (fun (o17 : (Qa UN Ent)) => (m47f10_k1 a0 o17 a1) = some y3) ?_ ?_
  refine Qb h1 (fun o18 hl2 h1 => ?_)
  refine QQ (m47f10_l0 a0 a1) (fun s2 => ⟨[(0, .v (.one (.yld 9))), (1, .v (.one (.ptr 7 0))), (2, .v (.one (.ptr 6 0))), (42, .v (.one (Uv a0.ctors))), (43, .v (.one (Ux (a0.ctors.length : Int)))), (44, .v (.one (Ux s2.1)))], [(0, .cells 62 [Uv a1, .mp 1]), (1, .mp (QO a2.1) a2.2), (2, .mp (QO a3.1) a3.2), (3, .cells 45 (UA a0)), (4, .mp (QO s2.2.1) s2.2.2), (5, .cells 60 [.mp 4]), (6, .cells 45 (UA a0)), (7, .cells 3 [Ux (a1.length : Int)]), (8, .obj (.deferred (some []))), (9, Y9), (10, JT a1 a0)], [], 12, 98, []⟩) (0, (J5 gmNil a0.name (⟨3, (a1.length : Int), 0, a0.params, a0.ty⟩ : Ent))) o18 (Qu (Ua rfl) (hA rfl) Un rfl (Nat.le_trans hv1 (Um rfl)) rfl rfl rfl (UF rfl rfl (UE rfl (UE rfl (UF rfl rfl (UE rfl (UG rfl)))))) rfl rfl) hl2 (fun s2 n2 oo2 h2 ho2 => ?_)
  unfold m47f10_l0 at h2
  refine Q5 <| Q0 <| Ue rfl rfl rfl (Q7 rfl rfl rfl) <| Q4 <| Q3 <| Q5 ?_
  refine Qg (b := (decide (s2.1 < (a0.ctors.length : Int)))) rfl (fun c19 => ?_) (fun c19 => ?_)
  replace h2 := Qk c19 h2
  refine Qj <| Q3 <| Q5 <| Qf <| Q5 <| Q0 <| Uf rfl rfl rfl ?_
  refine Qb h2 (fun x20 hx20 h2 => ?_)
  refine Ue rfl rfl rfl (Qq (α := Ctr) Yv rfl (.d _) rfl hx20) <| Ue rfl rfl rfl (Qv (x20 : Ctr) ZQ rfl) <| Q9 rfl rfl (Um rfl) (Qm Wj rfl) <| Ug rfl rfl rfl <| Qy rfl rfl (QC (x20 : Ctr) ZQ rfl rfl rfl rfl rfl) <| Q4 <| Q3 <| Q5 <| Q0 <| Uf rfl rfl rfl <| Ue rfl rfl rfl (Q1 Kk rfl) <| Ue rfl rfl rfl (Q6 JG rfl rfl rfl) <| Ue rfl rfl rfl (Q6 QZ rfl rfl rfl) <| Uf rfl rfl rfl ?_
  refine Ue rfl rfl rfl (Q1 Ym rfl) <| Ue rfl rfl rfl (Q6 QZ rfl rfl rfl) <| Ue rfl rfl rfl (Q1 K2 rfl) <| Ue rfl rfl rfl (Qi QW rfl rfl rfl rfl) <| Ue rfl rfl rfl (Y1 K9 rfl (.cons rfl (.cons rfl (.cons rfl (.cons rfl (.cons rfl .nil))))) rfl) ?_
  refine Qb h2 (fun y21 h3 h2 => ?_)
  have ha22 : ExecOK Try.prog (some 9) Zu ⟨[(0, .v (.one (.ptr 0 0))), (2, .v (.one (.mp 2))), (4, .v (.one (.ptr 3 0))), (6, .v (.one (.ptr 5 0))), (23, .v (.one (.fn 49 [(7, 0), (6, 0)]))), (24, .v (.one (Jl x20.name))), (25, .v (.agg [Ux 4, Ux (a1.length : Int), Ux s2.1, Ux a0.params, Ux x20.ty.kind, Ux x20.ty.index, Jl x20.ty.name, Uv x20.ty.levels, Uv x20.ty.kids]))], m47f10_h20 a1 a2 a3 a0 s2 x20, [], 13, 99, []⟩ .normal ⟨[(6, .v (.one (.ptr 5 0))), (7, .v (.one (Jl x20.name))), (8, .v (.one (.ptr 13 0)))], m47f10_h23 a1 a2 a3 a0 s2 x20, [], 14, 99, []⟩ := by
   refine QI (fun w0 M V0 ro n Q hv3 hro3 hQn3 => ?_)
   refine Q5 <| Q0 <| Ug rfl rfl rfl <| Q4 <| Q3 <| Q0 <| Q9 rfl rfl (Um rfl) (Qm ZB rfl) <| Qy rfl rfl (Qr Jm rfl rfl rfl rfl (Um rfl) rfl) <| Q4 ?_
   exact Jr hQn3 (Qu (Ua rfl) (hA rfl) Un rfl (Nat.le_trans hv3 (Um rfl)) rfl rfl rfl (UF rfl rfl (UE rfl (UE rfl (UF rfl rfl (UE rfl (UG rfl)))))) rfl rfl)
  have hb23 : ExecOK Try.prog (some 9) Zt ⟨[(6, .v (.one (.ptr 5 0))), (7, .v (.one (Jl x20.name))), (8, .v (.one (.ptr 13 0)))], m47f10_h22 a1 a2 a3 a0 s2 x20, [], 14, 99, []⟩ .normal ⟨[], m47f10_h25 a1 a2 a3 a0 s2 x20, [], 14, 99, []⟩ := by
   refine QI (fun w0 M V0 ro n Q hv3 hro3 hQn3 => ?_)
   refine Qf <| Q0 <| Ue rfl rfl rfl (Q6 YA rfl rfl rfl) <| Uf rfl rfl rfl <| Ue rfl rfl rfl (Qi Jm rfl rfl rfl rfl) <| Qy rfl rfl (Je (M := s2.2) (k := x20.name) (v := (⟨4, (a1.length : Int), s2.1, a0.params, x20.ty⟩ : Ent)) YL rfl rfl rfl rfl rfl) <| Q4 <| Qe ?_
   have e := Uc h3; subst e
   exact Jr hQn3 (Qu U9 (hA rfl) Un rfl (Nat.le_trans hv3 (Um rfl)) rfl rfl rfl (UF rfl rfl (UE rfl (UE rfl (UF rfl rfl (UE rfl (UG rfl)))))) rfl rfl)
  refine Q9 rfl rfl (Um rfl) (Jc (jump := none) rfl rfl rfl rfl rfl (Qw ha22 (fun E hv => (Qu (Ua rfl) (hA rfl) Un rfl (Nat.le_trans hv (Um rfl)) rfl rfl rfl (UF rfl rfl (UE rfl (UE rfl (UF rfl rfl (UE rfl (UG rfl)))))) rfl rfl))) rfl (Qw hb23 (fun E hv => (Qu (Ua rfl) (hA rfl) Un rfl (Nat.le_trans hv (Um rfl)) rfl rfl rfl (UF rfl rfl (UE rfl (UE rfl (UF rfl rfl (UE rfl (UG rfl)))))) rfl rfl))) rfl rfl) ?_
  refine Ue rfl rfl rfl (Jb rfl) <| Q4 <| Q3 ?_
  refine Qg rfl (fun h => nomatch h) (fun _ => ?_)
  refine Qj <| Qe <| Q3 <| Q0 <| Ue rfl rfl rfl (Q7 rfl rfl rfl) <| Uf rfl rfl rfl <| Q4 ?_
  have e := Uc h2; subst e
  refine QM ((Jk (s2.1 + 1)), (J5 s2.2 x20.name (⟨4, (a1.length : Int), s2.1, a0.params, x20.ty⟩ : Ent))) (Qu (Ua rfl) (hA rfl) Un rfl (Nat.le_trans hv1 (Um rfl)) rfl rfl rfl (UF rfl rfl (UE rfl (UE rfl (UF rfl rfl (UE rfl (UG rfl)))))) rfl rfl) ho2
  replace h2 := Ql c19 h2
  refine J1 <| Qn <| Qn ?_
  have e := Uc h2; subst e
  have e_ : _ = _ := ho2
  subst e_
  exact QP s2.2 (Qu (Ua rfl) (hA rfl) Un rfl (Nat.le_trans hv1 (Um rfl)) rfl rfl rfl (UF rfl rfl (UE rfl (UE rfl (UF rfl rfl (UE rfl (UG rfl)))))) rfl rfl) h1
  intro o17 h1
  unfold m47f10_k1 at h1
  refine QF <| Q3 <| Q0 <| Uf rfl rfl rfl <| Ue rfl rfl rfl (Q1 Y8 rfl) <| Ue rfl rfl rfl (Q6 JG rfl rfl rfl) ?_
  refine JC h1 (fun g24 h1 => ?_)
  refine Ue rfl rfl rfl (Gr rfl rfl g24) <| Ue rfl rfl rfl (Q6 QZ rfl rfl rfl) <| Ue rfl rfl rfl (Q1 JO rfl) <| Ue rfl rfl rfl (Q1 KU rfl) <| Ue rfl rfl rfl (Q6 QZ rfl rfl rfl) <| Ue rfl rfl rfl (Q1 JO rfl) <| Ue rfl rfl rfl (Q1 Kl rfl) <| Ue rfl rfl rfl (Qi QW rfl rfl rfl rfl) <| Ue rfl rfl rfl (Y1 K9 rfl (.cons rfl (.cons rfl (.cons rfl (.cons rfl .nil)))) rfl) ?_
  refine Qb h1 (fun y25 h2 h1 => ?_)
  have ha26 : ExecOK Try.prog (some 9) Zu ⟨[(0, .v (.one (.ptr 0 0))), (2, .v (.one (.mp 2))), (4, .v (.one (.ptr 3 0))), (6, .v (.one (.ptr 5 0))), (23, .v (.one (.fn 49 [(7, 0), (6, 0)]))), (24, .v (.one (Jl (a0.name ++ ([46, 114, 101, 99] : List UInt8))))), (25, .v (.agg [Ux 5, Ux (a1.length : Int), Ux 0, Ux a0.rcr.params, Ux a0.rcr.ty.kind, Ux a0.rcr.ty.index, Jl a0.rcr.ty.name, Uv a0.rcr.ty.levels, Uv a0.rcr.ty.kids]))], m47f10_h26 a1 a2 a3 a0 o17, [], 12, 99, []⟩ .normal ⟨[(6, .v (.one (.ptr 5 0))), (7, .v (.one (Jl (a0.name ++ ([46, 114, 101, 99] : List UInt8))))), (8, .v (.one (.ptr 12 0)))], m47f10_h29 a1 a2 a3 a0 o17, [], 13, 99, []⟩ := by
   refine QI (fun w0 M V0 ro n Q hv2 hro2 hQn2 => ?_)
   refine Q5 <| Q0 <| Ug rfl rfl rfl <| Q4 <| Q3 <| Q0 <| Q9 rfl rfl (Um rfl) (Qm ZB rfl) <| Qy rfl rfl (Qr Jm rfl rfl rfl rfl (Um rfl) rfl) <| Q4 ?_
   exact Jr hQn2 (Qu (Ua rfl) (hA rfl) Un rfl (Nat.le_trans hv2 (Um rfl)) rfl rfl rfl (UF rfl rfl (UE rfl (UE rfl (UF rfl rfl (UE rfl (UG rfl)))))) rfl rfl)
  have hb27 : ExecOK Try.prog (some 9) Zt ⟨[(6, .v (.one (.ptr 5 0))), (7, .v (.one (Jl (a0.name ++ ([46, 114, 101, 99] : List UInt8))))), (8, .v (.one (.ptr 12 0)))], m47f10_h28 a1 a2 a3 a0 o17, [], 13, 99, []⟩ .normal ⟨[], m47f10_h31 a1 a2 a3 a0 o17, [], 13, 99, []⟩ := by
   refine QI (fun w0 M V0 ro n Q hv2 hro2 hQn2 => ?_)
   refine Qf <| Q0 <| Ue rfl rfl rfl (Q6 YA rfl rfl rfl) <| Uf rfl rfl rfl <| Ue rfl rfl rfl (Qi Jm rfl rfl rfl rfl) <| Qy rfl rfl (Je (M := o17) (k := (a0.name ++ ([46, 114, 101, 99] : List UInt8))) (v := (⟨5, (a1.length : Int), 0, a0.rcr.params, a0.rcr.ty⟩ : Ent)) YL rfl rfl rfl rfl rfl) <| Q4 <| Qe ?_
   have e := Uc h2; subst e
   exact Jr hQn2 (Qu U9 (hA rfl) Un rfl (Nat.le_trans hv2 (Um rfl)) rfl rfl rfl (UF rfl rfl (UE rfl (UE rfl (UF rfl rfl (UE rfl (UG rfl)))))) rfl rfl)
  refine Q9 rfl rfl (Um rfl) (Jc (jump := none) rfl rfl rfl rfl rfl (Qw ha26 (fun E hv => (Qu (Ua rfl) (hA rfl) Un rfl (Nat.le_trans hv (Um rfl)) rfl rfl rfl (UF rfl rfl (UE rfl (UE rfl (UF rfl rfl (UE rfl (UG rfl)))))) rfl rfl))) rfl (Qw hb27 (fun E hv => (Qu (Ua rfl) (hA rfl) Un rfl (Nat.le_trans hv (Um rfl)) rfl rfl rfl (UF rfl rfl (UE rfl (UE rfl (UF rfl rfl (UE rfl (UG rfl)))))) rfl rfl))) rfl rfl) ?_
  refine Q4 <| Qe ?_
  have e := Uc h1; subst e
  exact hQ1 _ _ _ (.inl rfl) rfl (Qu U9 (hA rfl) Un rfl (Nat.le_trans hv1 (Um rfl)) rfl rfl rfl (UF rfl rfl (UE rfl (UE rfl (UF rfl rfl (UE rfl (UG rfl)))))) rfl rfl)
  replace h1 := Ql c13 h1
  refine Q5 <| Q0 <| Ue rfl rfl rfl (Q7 rfl rfl rfl) <| Ug rfl rfl rfl <| Q4 <| Q3 ?_
  refine Qg (b := (a0.kind == 4)) rfl (fun c28 => ?_) (fun c28 => ?_)
  replace h1 := Qk c28 h1
  refine Q5 <| Q0 <| Ue rfl rfl rfl (Q1 Y2 rfl) <| Ue rfl rfl rfl (Q6 YZ rfl rfl rfl) <| Ue rfl rfl rfl (Qx (α := Fn) Yk rfl (.d _)) <| Uf rfl rfl rfl <| Q4 <| Q3 <| Qf ?_
  refine QR 3 (fun (o29 : (Qa UN Ent)) => ⟨[], [(0, .cells 62 [Uv a1, .mp 1]), (1, .mp (QO a2.1) a2.2), (2, .mp (QO a3.1) a3.2), (3, .cells 45 (UA a0)), (4, .mp (QO o29.1) o29.2), (5, .cells 60 [.mp 4]), (6, .cells 45 (UA a0)), (7, .cells 3 [Ux (a1.length : Int)]), (8, .obj (.deferred (some []))), (9, Y9), (10, ZY a1 a0)], [], 11, 98, []⟩) (fun (o29 : (Qa UN Ent)) => (some o29) = some y3) ?_ ?_
  refine Qb h1 (fun o30 hl2 h1 => ?_)
  refine QQ (m47f10_l2 a0 a1) (fun s2 => ⟨[(0, .v (.one (.yld 9))), (1, .v (.one (.ptr 7 0))), (2, .v (.one (.ptr 6 0))), (78, .v (.one (Uv a0.funs))), (79, .v (.one (Ux (a0.funs.length : Int)))), (80, .v (.one (Ux s2.1)))], [(0, .cells 62 [Uv a1, .mp 1]), (1, .mp (QO a2.1) a2.2), (2, .mp (QO a3.1) a3.2), (3, .cells 45 (UA a0)), (4, .mp (QO s2.2.1) s2.2.2), (5, .cells 60 [.mp 4]), (6, .cells 45 (UA a0)), (7, .cells 3 [Ux (a1.length : Int)]), (8, .obj (.deferred (some []))), (9, Y9), (10, ZY a1 a0)], [], 11, 98, []⟩) (0, gmNil) o30 (Qu (Ua rfl) (hA rfl) Un rfl (Nat.le_trans hv1 (Um rfl)) rfl rfl rfl (UF rfl rfl (UE rfl (UE rfl (UF rfl rfl (UE rfl (UG rfl)))))) rfl rfl) hl2 (fun s2 n2 oo2 h2 ho2 => ?_)
  unfold m47f10_l2 at h2
  refine Q5 <| Q0 <| Ue rfl rfl rfl (Q7 rfl rfl rfl) <| Q4 <| Q3 <| Q5 ?_
  refine Qg (b := (decide (s2.1 < (a0.funs.length : Int)))) rfl (fun c31 => ?_) (fun c31 => ?_)
  replace h2 := Qk c31 h2
  refine Qj <| Q3 <| Q5 <| Qf <| Q5 <| Q0 <| Uf rfl rfl rfl ?_
  refine Qb h2 (fun x32 hx32 h2 => ?_)
  refine Ue rfl rfl rfl (Qq (α := Fn) Yk rfl (.d _) rfl hx32) <| Ue rfl rfl rfl (Qv (x32 : Fn) Zx rfl) <| Q9 rfl rfl (Um rfl) (Qm Wi rfl) <| Ug rfl rfl rfl <| Qy rfl rfl (QC (x32 : Fn) Zx rfl rfl rfl rfl rfl) <| Q4 <| Q3 <| Q5 <| Q0 <| Uf rfl rfl rfl <| Ue rfl rfl rfl (Q1 Gp rfl) <| Ue rfl rfl rfl (Q6 JG rfl rfl rfl) <| Ue rfl rfl rfl (Q6 QZ rfl rfl rfl) <| Uf rfl rfl rfl ?_
  refine Ue rfl rfl rfl (Q1 Ym rfl) <| Ue rfl rfl rfl (Q6 QZ rfl rfl rfl) <| Ue rfl rfl rfl (Q1 KT rfl) <| Ue rfl rfl rfl (Qi QW rfl rfl rfl rfl) <| Ue rfl rfl rfl (Y1 K9 rfl (.cons rfl (.cons rfl (.cons rfl (.cons rfl (.cons rfl .nil))))) rfl) ?_
  refine Qb h2 (fun y33 h3 h2 => ?_)
  have ha34 : ExecOK Try.prog (some 9) Zu ⟨[(0, .v (.one (.ptr 0 0))), (2, .v (.one (.mp 2))), (4, .v (.one (.ptr 3 0))), (6, .v (.one (.ptr 5 0))), (23, .v (.one (.fn 49 [(7, 0), (6, 0)]))), (24, .v (.one (Jl x32.name))), (25, .v (.agg [Ux 6, Ux (a1.length : Int), Ux s2.1, Ux a0.params, Ux x32.ty.kind, Ux x32.ty.index, Jl x32.ty.name, Uv x32.ty.levels, Uv x32.ty.kids]))], m47f10_h32 a1 a2 a3 a0 s2 x32, [], 12, 99, []⟩ .normal ⟨[(6, .v (.one (.ptr 5 0))), (7, .v (.one (Jl x32.name))), (8, .v (.one (.ptr 12 0)))], m47f10_h35 a1 a2 a3 a0 s2 x32, [], 13, 99, []⟩ := by
   refine QI (fun w0 M V0 ro n Q hv3 hro3 hQn3 => ?_)
   refine Q5 <| Q0 <| Ug rfl rfl rfl <| Q4 <| Q3 <| Q0 <| Q9 rfl rfl (Um rfl) (Qm ZB rfl) <| Qy rfl rfl (Qr Jm rfl rfl rfl rfl (Um rfl) rfl) <| Q4 ?_
   exact Jr hQn3 (Qu (Ua rfl) (hA rfl) Un rfl (Nat.le_trans hv3 (Um rfl)) rfl rfl rfl (UF rfl rfl (UE rfl (UE rfl (UF rfl rfl (UE rfl (UG rfl)))))) rfl rfl)
  have hb35 : ExecOK Try.prog (some 9) Zt ⟨[(6, .v (.one (.ptr 5 0))), (7, .v (.one (Jl x32.name))), (8, .v (.one (.ptr 12 0)))], m47f10_h34 a1 a2 a3 a0 s2 x32, [], 13, 99, []⟩ .normal ⟨[], m47f10_h37 a1 a2 a3 a0 s2 x32, [], 13, 99, []⟩ := by
   refine QI (fun w0 M V0 ro n Q hv3 hro3 hQn3 => ?_)
   refine Qf <| Q0 <| Ue rfl rfl rfl (Q6 YA rfl rfl rfl) <| Uf rfl rfl rfl <| Ue rfl rfl rfl (Qi Jm rfl rfl rfl rfl) <| Qy rfl rfl (Je (M := s2.2) (k := x32.name) (v := (⟨6, (a1.length : Int), s2.1, a0.params, x32.ty⟩ : Ent)) YL rfl rfl rfl rfl rfl) <| Q4 <| Qe ?_
   have e := Uc h3; subst e
   exact Jr hQn3 (Qu U9 (hA rfl) Un rfl (Nat.le_trans hv3 (Um rfl)) rfl rfl rfl (UF rfl rfl (UE rfl (UE rfl (UF rfl rfl (UE rfl (UG rfl)))))) rfl rfl)
  refine Q9 rfl rfl (Um rfl) (Jc (jump := none) rfl rfl rfl rfl rfl (Qw ha34 (fun E hv => (Qu (Ua rfl) (hA rfl) Un rfl (Nat.le_trans hv (Um rfl)) rfl rfl rfl (UF rfl rfl (UE rfl (UE rfl (UF rfl rfl (UE rfl (UG rfl)))))) rfl rfl))) rfl (Qw hb35 (fun E hv => (Qu (Ua rfl) (hA rfl) Un rfl (Nat.le_trans hv (Um rfl)) rfl rfl rfl (UF rfl rfl (UE rfl (UE rfl (UF rfl rfl (UE rfl (UG rfl)))))) rfl rfl))) rfl rfl) ?_
  refine Ue rfl rfl rfl (Jb rfl) <| Q4 <| Q3 ?_
  refine Qg rfl (fun h => nomatch h) (fun _ => ?_)
  refine Qj <| Qe <| Q3 <| Q0 <| Ue rfl rfl rfl (Q7 rfl rfl rfl) <| Uf rfl rfl rfl <| Q4 ?_
  have e := Uc h2; subst e
  refine QM ((Jk (s2.1 + 1)), (J5 s2.2 x32.name (⟨6, (a1.length : Int), s2.1, a0.params, x32.ty⟩ : Ent))) (Qu (Ua rfl) (hA rfl) Un rfl (Nat.le_trans hv1 (Um rfl)) rfl rfl rfl (UF rfl rfl (UE rfl (UE rfl (UF rfl rfl (UE rfl (UG rfl)))))) rfl rfl) ho2
  replace h2 := Ql c31 h2
  refine J1 <| Qn <| Qn ?_
  have e := Uc h2; subst e
  have e_ : _ = _ := ho2
  subst e_
  exact QP s2.2 (Qu U9 (hA rfl) Un rfl (Nat.le_trans hv1 (Um rfl)) rfl rfl rfl (UF rfl rfl (UE rfl (UE rfl (UF rfl rfl (UE rfl (UG rfl)))))) rfl rfl) h1
  intro o29 h1
  refine QF <| Qe ?_
  have e := Uc h1; subst e
  exact hQ1 _ _ _ (.inl rfl) rfl (Qu U9 (hA rfl) Un rfl (Nat.le_trans hv1 (Um rfl)) rfl rfl rfl (UF rfl rfl (UE rfl (UE rfl (UF rfl rfl (UE rfl (UG rfl)))))) rfl rfl)
  replace h1 := Ql c28 h1
  refine Qj <| Qe ?_
  have e := Uc h1; subst e
  exact hQ1 _ _ _ (.inl rfl) rfl (Qu U9 (hA rfl) Un rfl (Nat.le_trans hv1 (Um rfl)) rfl rfl rfl (UF rfl rfl (UE rfl (UE rfl (UF rfl rfl (UE rfl (UG rfl)))))) rfl rfl)
 refine ZK (Y5 (e := .normal) rfl hc4 rfl rfl (by intro h; cases h) rfl) rfl ?_
 refine Qe <| Q3 <| Q5 <| Q0 <| Uf rfl rfl rfl <| Ue rfl rfl rfl (Q1 Y8 rfl) <| Ue rfl rfl rfl (Q6 JG rfl rfl rfl) <| Ue rfl rfl rfl (Q6 YA rfl rfl rfl) <| Ue rfl rfl rfl (Q1 Y8 rfl) <| Ue rfl rfl rfl (Q6 JG rfl rfl rfl) <| Ue rfl rfl rfl (YP (M := y3) (k := a0.name) YL Kh rfl rfl rfl) <| Qy rfl rfl (Je (M := a3) (k := a0.name) (v := (⟨(Qp y3 a0.name).kind, (Qp y3 a0.name).decl, (Qp y3 a0.name).item, (Qp y3 a0.name).params, ((Qp y3 a0.name).ty)⟩ : Ent)) YL rfl rfl rfl rfl rfl) <| Q4 <| Q3 ?_
 refine Q5 <| Q5 <| Q0 <| Ue rfl rfl rfl (Q1 Yc rfl) <| Ue rfl rfl rfl (Q6 Zc rfl rfl rfl) <| Ue rfl rfl rfl (Qx (α := Ctr) Yv rfl (.d _)) <| Uf rfl rfl rfl <| Q4 <| Q3 <| Qf ?_
 refine QR 2 (fun (o36 : Unit) => ⟨[(0, .v (.one (.ptr 0 0))), (2, .v (.one (.mp 2))), (4, .v (.one (.ptr 3 0))), (6, .v (.one (.ptr 5 0)))], m47f10_h39 a1 a2 a3 a0 y3, [], 11, 99, []⟩) (fun (o36 : Unit) => (m47f10_k9 a0 y3 a3 a1 a2) = some r) ?_ ?_
 refine Qb h0 (fun o37 hl1 h0 => ?_)
 refine QQ (m47f10_l4 a0 a1 a2 a3 y3) (fun s1 => ⟨[(0, .v (.one (.ptr 0 0))), (2, .v (.one (.mp 2))), (4, .v (.one (.ptr 3 0))), (6, .v (.one (.ptr 5 0))), (37, .v (.one (Uv a0.ctors))), (38, .v (.one (Ux (a0.ctors.length : Int)))), (39, .v (.one (Ux s1)))], m47f10_h39 a1 a2 a3 a0 y3, [], 11, 99, []⟩) 0 o37 (Qu (Ua rfl) (hA rfl) Un rfl (Nat.le_trans hv0 (Um rfl)) rfl rfl rfl (UF rfl rfl (UE rfl (UE rfl (UF rfl rfl (UE rfl (UG rfl)))))) rfl rfl) hl1 (fun s1 n1 oo1 h1 ho1 => ?_)
 unfold m47f10_l4 at h1
 refine Q5 <| Q0 <| Ue rfl rfl rfl (Q7 rfl rfl rfl) <| Q4 <| Q3 <| Q5 ?_
 refine Qg (b := (decide (s1 < (a0.ctors.length : Int)))) rfl (fun c38 => ?_) (fun c38 => ?_)
 replace h1 := Qk c38 h1
 refine Qj <| Q3 <| Q5 <| Qf <| Q5 <| Q0 ?_
 refine Qb h1 (fun x39 hx39 h1 => ?_)
 refine Ue rfl rfl rfl (Qq (α := Ctr) Yv rfl (.d _) rfl hx39) <| Ue rfl rfl rfl (Qv (x39 : Ctr) ZQ rfl) <| Q9 rfl rfl (Um rfl) (Qm Wj rfl) <| Qy rfl rfl (QC (x39 : Ctr) ZQ rfl rfl rfl rfl rfl) <| Q4 <| Q3 <| Q0 <| Uf rfl rfl rfl <| Ue rfl rfl rfl (Q1 K2 rfl) <| Ue rfl rfl rfl (Qi QW rfl rfl rfl rfl) <| Ue rfl rfl rfl (Q1 Ym rfl) <| Ue rfl rfl rfl (Q6 QZ rfl rfl rfl) <| Uf rfl rfl rfl ?_
 refine Qb h1 (fun x40 hx40 h1 => ?_)
 refine JY id hx40 h1 (fun x41 hx41 h1 => ?_) (fun x42 hx42 h1 => ?_)
 refine Q9 rfl rfl (Um rfl) (J4 (hp1' := [(0, .cells 62 [Uv a1, .mp 1]), (1, .mp (QO a2.1) a2.2), (2, .mp (QO ((J5 a3 a0.name (⟨(Qp y3 a0.name).kind, (Qp y3 a0.name).decl, (Qp y3 a0.name).item, (Qp y3 a0.name).params, ((Qp y3 a0.name).ty)⟩ : Ent)) : Qa UN Ent).1) ((J5 a3 a0.name (⟨(Qp y3 a0.name).kind, (Qp y3 a0.name).decl, (Qp y3 a0.name).item, (Qp y3 a0.name).params, ((Qp y3 a0.name).ty)⟩ : Ent)) : Qa UN Ent).2)]) (tk1' := []) (hpF := m47f10_h40 a0 y3 a1 x39) (tkF := []) (res2 := QD []) (nx2 := 20) [0, 1, 2] rfl rfl (CallE.m (YC x39.ty 0 a0.params a1 a2 (J5 a3 a0.name (⟨(Qp y3 a0.name).kind, (Qp y3 a0.name).decl, (Qp y3 a0.name).item, (Qp y3 a0.name).params, ((Qp y3 a0.name).ty)⟩ : Ent)) (.inl x41) hx41)) rfl rfl (Uj rfl rfl (Ui rfl (Ui rfl Uh))) rfl rfl (Ut rfl (Uu rfl (Uu rfl Us))) Up (hA rfl) Un rfl rfl rfl rfl rfl (UF rfl rfl (UE rfl (UE rfl UD))) rfl rfl rfl rfl) <| Q4 <| Qe <| Q3 <| Q0 <| Ue rfl rfl rfl (Q7 rfl rfl rfl) <| Uf rfl rfl rfl <| Q4 ?_
 have e := Uc h1; subst e
 refine QM (Jk (s1 + 1)) (Qu (Ua rfl) (hA rfl) Un rfl (Nat.le_trans hv0 (Um rfl)) rfl rfl rfl (UF rfl rfl (UE rfl (UE rfl (UF rfl rfl (UE rfl (UG rfl)))))) rfl rfl) ho1
 refine Jd rfl (Yy (hp1' := [(0, .cells 62 [Uv a1, .mp 1]), (1, .mp (QO a2.1) a2.2), (2, .mp (QO ((J5 a3 a0.name (⟨(Qp y3 a0.name).kind, (Qp y3 a0.name).decl, (Qp y3 a0.name).item, (Qp y3 a0.name).params, ((Qp y3 a0.name).ty)⟩ : Ent)) : Qa UN Ent).1) ((J5 a3 a0.name (⟨(Qp y3 a0.name).kind, (Qp y3 a0.name).decl, (Qp y3 a0.name).item, (Qp y3 a0.name).params, ((Qp y3 a0.name).ty)⟩ : Ent)) : Qa UN Ent).2)]) (tk1' := []) (hpF := m47f10_h40 a0 y3 a1 x39) (tkF := []) (nx2 := 15) [0, 1, 2] rfl rfl (CallE.d (YC x39.ty 0 a0.params a1 a2 (J5 a3 a0.name (⟨(Qp y3 a0.name).kind, (Qp y3 a0.name).decl, (Qp y3 a0.name).item, (Qp y3 a0.name).params, ((Qp y3 a0.name).ty)⟩ : Ent)) (.inr x42) hx42)) rfl rfl (Uj rfl rfl (Ui rfl (Ui rfl Uh))) rfl (Ut rfl (Uu rfl (Uu rfl Us))) Up (hA rfl) Un rfl rfl rfl rfl rfl (UF rfl rfl (UE rfl (UE rfl UD))) rfl rfl rfl rfl) ?_
 have e := Uc h1; subst e
 have e_ : _ = _ := ho1
 subst e_
 try dsimp only [Sum.elim_inl, Sum.elim_inr] at h0
 have e := Uc h0; subst e
 exact Jn (hQ0 (.panic (Jz (QJ 90 x42))) _ ZP rfl (show StLe _ _ ⟨[], m47f10_h41 a1 a2 a3 a0 y3, [], 14, 99, []⟩ from (Qu U9 (hA rfl) Un rfl (Nat.le_trans hv0 (Um rfl)) rfl rfl rfl (UF rfl rfl (UE rfl (UE rfl UD))) rfl rfl))) (fun _ _ h => h)
 replace h1 := Ql c38 h1
 refine J1 <| Qn <| Qn ?_
 have e := Uc h1; subst e
 have e_ : _ = _ := ho1
 subst e_
 exact QP () (Qu (Ua rfl) (hA rfl) Un rfl (Nat.le_trans hv0 (Um rfl)) rfl rfl rfl (UF rfl rfl (UE rfl (UE rfl (UF rfl rfl (UE rfl (UG rfl)))))) rfl rfl) h0
 intro o36 h0
 unfold m47f10_k9 at h0
 refine QF <| Q3 <| Q5 <| Q5 <| Q0 <| Ue rfl rfl rfl (Q1 Yc rfl) <| Ue rfl rfl rfl (Q6 Zc rfl rfl rfl) <| Ue rfl rfl rfl (Qx (α := Ctr) Yv rfl (.d _)) <| Uf rfl rfl rfl <| Q4 <| Q3 <| Qf ?_
 refine QR 4 (fun (o43 : (Qa UN Ent)) => ⟨[(0, .v (.one (.ptr 0 0))), (2, .v (.one (.mp 2))), (4, .v (.one (.ptr 3 0))), (6, .v (.one (.ptr 5 0)))], [(0, .cells 62 [Uv a1, .mp 1]), (1, .mp (QO a2.1) a2.2), (2, .mp (QO o43.1) o43.2), (3, .cells 45 (UA a0)), (4, .mp (QO y3.1) y3.2), (5, .cells 60 [.mp 4]), (6, .cells 45 (UA a0)), (7, .cells 3 [Ux (a1.length : Int)])], [], 11, 99, []⟩) (fun (o43 : (Qa UN Ent)) => (m47f10_k8 a0 a1 a2 o43 y3) = some r) ?_ ?_
 refine Qb h0 (fun o44 hl1 h0 => ?_)
 refine QQ (m47f10_l5 a0 y3) (fun s1 => ⟨[(0, .v (.one (.ptr 0 0))), (2, .v (.one (.mp 2))), (4, .v (.one (.ptr 3 0))), (6, .v (.one (.ptr 5 0))), (52, .v (.one (Uv a0.ctors))), (53, .v (.one (Ux (a0.ctors.length : Int)))), (54, .v (.one (Ux s1.1)))], [(0, .cells 62 [Uv a1, .mp 1]), (1, .mp (QO a2.1) a2.2), (2, .mp (QO s1.2.1) s1.2.2), (3, .cells 45 (UA a0)), (4, .mp (QO y3.1) y3.2), (5, .cells 60 [.mp 4]), (6, .cells 45 (UA a0)), (7, .cells 3 [Ux (a1.length : Int)])], [], 11, 99, []⟩) (0, (J5 a3 a0.name (⟨(Qp y3 a0.name).kind, (Qp y3 a0.name).decl, (Qp y3 a0.name).item, (Qp y3 a0.name).params, ((Qp y3 a0.name).ty)⟩ : Ent))) o44 (Qu (Ua rfl) (hA rfl) Un rfl (Nat.le_trans hv0 (Um rfl)) rfl rfl rfl (UF rfl rfl (UE rfl (UE rfl (UF rfl rfl (UE rfl (UG rfl)))))) rfl rfl) hl1 (fun s1 n1 oo1 h1 ho1 => ?_)
 unfold m47f10_l5 at h1
 refine Q5 <| Q0 <| Ue rfl rfl rfl (Q7 rfl rfl rfl) <| Q4 <| Q3 <| Q5 ?_
 refine Qg (b := (decide (s1.1 < (a0.ctors.length : Int)))) rfl (fun c45 => ?_) (fun c45 => ?_)
 replace h1 := Qk c45 h1
 refine Qj <| Q3 <| Q5 <| Qf <| Q5 <| Q0 ?_
 refine Qb h1 (fun x46 hx46 h1 => ?_)
 refine Ue rfl rfl rfl (Qq (α := Ctr) Yv rfl (.d _) rfl hx46) <| Ue rfl rfl rfl (Qv (x46 : Ctr) ZQ rfl) <| Q9 rfl rfl (Um rfl) (Qm Wj rfl) <| Qy rfl rfl (QC (x46 : Ctr) ZQ rfl rfl rfl rfl rfl) <| Q4 <| Q3 <| Q0 <| Uf rfl rfl rfl <| Ue rfl rfl rfl (Q1 Kk rfl) <| Ue rfl rfl rfl (Q6 JG rfl rfl rfl) <| Ue rfl rfl rfl (Q6 YA rfl rfl rfl) <| Ue rfl rfl rfl (Q1 Kk rfl) <| Ue rfl rfl rfl (Q6 JG rfl rfl rfl) <| Ue rfl rfl rfl (YP (M := y3) (k := x46.name) YL Kh rfl rfl rfl) ?_
 refine Qy rfl rfl (Je (M := s1.2) (k := x46.name) (v := (⟨(Qp y3 x46.name).kind, (Qp y3 x46.name).decl, (Qp y3 x46.name).item, (Qp y3 x46.name).params, ((Qp y3 x46.name).ty)⟩ : Ent)) YL rfl rfl rfl rfl rfl) <| Q4 <| Qe <| Q3 <| Q0 <| Ue rfl rfl rfl (Q7 rfl rfl rfl) <| Uf rfl rfl rfl <| Q4 ?_
 have e := Uc h1; subst e
 refine QM ((Jk (s1.1 + 1)), (J5 s1.2 x46.name (⟨(Qp y3 x46.name).kind, (Qp y3 x46.name).decl, (Qp y3 x46.name).item, (Qp y3 x46.name).params, ((Qp y3 x46.name).ty)⟩ : Ent))) (Qu (Ua rfl) (hA rfl) Un rfl (Nat.le_trans hv0 (Um rfl)) rfl rfl rfl (UF rfl rfl (UE rfl (UE rfl (UF rfl rfl (UE rfl (UG rfl)))))) rfl rfl) ho1
 replace h1 := Ql c45 h1
 refine J1 <| Qn <| Qn ?_
 have e := Uc h1; subst e
 have e_ : _ = _ := ho1
 subst e_
 exact QP s1.2 (Qu (Ua rfl) (hA rfl) Un rfl (Nat.le_trans hv0 (Um rfl)) rfl rfl rfl (UF rfl rfl (UE rfl (UE rfl (UF rfl rfl (UE rfl (UG rfl)))))) rfl rfl) h0
 intro o43 h0
 unfold m47f10_k8 at h0
 refine QF <| Q3 <| Q5 <| Q0 <| Uf rfl rfl rfl <| Ue rfl rfl rfl (Q1 JO rfl) <| Ue rfl rfl rfl (Q1 Kl rfl) <| Ue rfl rfl rfl (Qi QW rfl rfl rfl rfl) <| Ue rfl rfl rfl (Q1 JO rfl) <| Ue rfl rfl rfl (Q1 KU rfl) <| Ue rfl rfl rfl (Q6 QZ rfl rfl rfl) <| Uf rfl rfl rfl ?_
 refine Qb h0 (fun x47 hx47 h0 => ?_)
 refine JY id hx47 h0 (fun x48 hx48 h0 => ?_) (fun x49 hx49 h0 => ?_)
 refine Q9 rfl rfl (Um rfl) (J4 (hp1' := [(0, .cells 62 [Uv a1, .mp 1]), (1, .mp (QO a2.1) a2.2), (2, .mp (QO o43.1) o43.2)]) (tk1' := []) (hpF := m47f10_h42 a0 y3 a1) (tkF := []) (res2 := QD []) (nx2 := 19) [0, 1, 2] rfl rfl (CallE.m (YC a0.rcr.ty 0 a0.rcr.params a1 a2 o43 (.inl x48) hx48)) rfl rfl (Uj rfl rfl (Ui rfl (Ui rfl Uh))) rfl rfl (Ut rfl (Uu rfl (Uu rfl Us))) Up (hA rfl) Un rfl rfl rfl rfl rfl (UF rfl rfl (UE rfl (UE rfl UD))) rfl rfl rfl rfl) <| Q4 <| Q3 <| Q5 <| Q0 <| Ue rfl rfl rfl (Q1 Y8 rfl) <| Ue rfl rfl rfl (Q6 JG rfl rfl rfl) ?_
 refine JC h0 (fun g50 h0 => ?_)
 refine Ue rfl rfl rfl (Gr rfl rfl g50) <| Ug rfl rfl rfl <| Q4 <| Q3 <| Q5 <| Q0 <| Uf rfl rfl rfl <| Uf rfl rfl rfl <| Ue rfl rfl rfl (Q6 YA rfl rfl rfl) <| Uf rfl rfl rfl <| Ue rfl rfl rfl (YP (M := y3) (k := (a0.name ++ ([46, 114, 101, 99] : List UInt8))) YL Kh rfl rfl rfl) <| Qy rfl rfl (Je (M := o43) (k := (a0.name ++ ([46, 114, 101, 99] : List UInt8))) (v := (⟨(Qp y3 (a0.name ++ ([46, 114, 101, 99] : List UInt8))).kind, (Qp y3 (a0.name ++ ([46, 114, 101, 99] : List UInt8))).decl, (Qp y3 (a0.name ++ ([46, 114, 101, 99] : List UInt8))).item, (Qp y3 (a0.name ++ ([46, 114, 101, 99] : List UInt8))).params, ((Qp y3 (a0.name ++ ([46, 114, 101, 99] : List UInt8))).ty)⟩ : Ent)) YL rfl rfl rfl rfl rfl) <| Q4 <| Q3 ?_
 refine Q5 <| Q0 <| Ue rfl rfl rfl (Q1 JO rfl) <| Ue rfl rfl rfl (Q1 ZG rfl) <| Ue rfl rfl rfl (Q6 JH rfl rfl rfl) <| Ue rfl rfl rfl (Qx (α := Tm) Ji rfl (.d _)) <| Uf rfl rfl rfl <| Q4 <| Q3 <| Qf ?_
 refine QR 6 (fun (o51 : Unit) => ⟨[], m47f10_h44 a1 a2 o43 a0 y3, [], 19, 99, []⟩) (fun (o51 : Unit) => (m47f10_k7 o43 a0 y3) = some r) ?_ ?_
 refine Qb h0 (fun o52 hl1 h0 => ?_)
 refine QQ (m47f10_l6 a0 a1 a2 o43 y3) (fun s1 => ⟨[(0, .v (.one (.ptr 0 0))), (2, .v (.one (.mp 2))), (4, .v (.one (.ptr 3 0))), (85, .v (.one (Uv a0.rcr.rules))), (86, .v (.one (Ux (a0.rcr.rules.length : Int)))), (87, .v (.one (Ux s1)))], m47f10_h44 a1 a2 o43 a0 y3, [], 19, 99, []⟩) 0 o52 (Qu (Ua rfl) (hA rfl) Un rfl (Nat.le_trans hv0 (Um rfl)) rfl rfl rfl (UF rfl rfl (UE rfl (UE rfl (UF rfl rfl (UE rfl (UG rfl)))))) rfl rfl) hl1 (fun s1 n1 oo1 h1 ho1 => ?_)
 unfold m47f10_l6 at h1
 refine Q5 <| Q0 <| Ue rfl rfl rfl (Q7 rfl rfl rfl) <| Q4 <| Q3 <| Q5 ?_
 refine Qg (b := (decide (s1 < (a0.rcr.rules.length : Int)))) rfl (fun c53 => ?_) (fun c53 => ?_)
 replace h1 := Qk c53 h1
 refine Qj <| Q3 <| Q5 <| Qf <| Q5 <| Q0 ?_
 refine Qb h1 (fun x54 hx54 h1 => ?_)
 refine Ue rfl rfl rfl (Qq (α := Tm) Ji rfl (.d _) rfl hx54) <| Ue rfl rfl rfl (Qv (x54 : Tm) QW rfl) <| Q9 rfl rfl (Um rfl) (Qm ZS rfl) <| Qy rfl rfl (QC (x54 : Tm) QW rfl rfl rfl rfl rfl) <| Q4 <| Q3 <| Q0 <| Uf rfl rfl rfl <| Ue rfl rfl rfl (QK (x54 : Tm) QW rfl rfl) <| Ue rfl rfl rfl (Q1 JO rfl) <| Ue rfl rfl rfl (Q1 KU rfl) <| Ue rfl rfl rfl (Q6 QZ rfl rfl rfl) <| Uf rfl rfl rfl ?_
 refine Qb h1 (fun x55 hx55 h1 => ?_)
 refine JY id hx55 h1 (fun x56 hx56 h1 => ?_) (fun x57 hx57 h1 => ?_)
 refine Q9 rfl rfl (Um rfl) (J4 (hp1' := [(0, .cells 62 [Uv a1, .mp 1]), (1, .mp (QO a2.1) a2.2), (2, .mp (QO ((J5 o43 (a0.name ++ ([46, 114, 101, 99] : List UInt8)) (⟨(Qp y3 (a0.name ++ ([46, 114, 101, 99] : List UInt8))).kind, (Qp y3 (a0.name ++ ([46, 114, 101, 99] : List UInt8))).decl, (Qp y3 (a0.name ++ ([46, 114, 101, 99] : List UInt8))).item, (Qp y3 (a0.name ++ ([46, 114, 101, 99] : List UInt8))).params, ((Qp y3 (a0.name ++ ([46, 114, 101, 99] : List UInt8))).ty)⟩ : Ent)) : Qa UN Ent).1) ((J5 o43 (a0.name ++ ([46, 114, 101, 99] : List UInt8)) (⟨(Qp y3 (a0.name ++ ([46, 114, 101, 99] : List UInt8))).kind, (Qp y3 (a0.name ++ ([46, 114, 101, 99] : List UInt8))).decl, (Qp y3 (a0.name ++ ([46, 114, 101, 99] : List UInt8))).item, (Qp y3 (a0.name ++ ([46, 114, 101, 99] : List UInt8))).params, ((Qp y3 (a0.name ++ ([46, 114, 101, 99] : List UInt8))).ty)⟩ : Ent)) : Qa UN Ent).2)]) (tk1' := []) (hpF := m47f10_h45 a0 y3 a1 x54) (tkF := []) (res2 := QD []) (nx2 := 28) [0, 1, 2] rfl rfl (CallE.m (YC x54 0 a0.rcr.params a1 a2 (J5 o43 (a0.name ++ ([46, 114, 101, 99] : List UInt8)) (⟨(Qp y3 (a0.name ++ ([46, 114, 101, 99] : List UInt8))).kind, (Qp y3 (a0.name ++ ([46, 114, 101, 99] : List UInt8))).decl, (Qp y3 (a0.name ++ ([46, 114, 101, 99] : List UInt8))).item, (Qp y3 (a0.name ++ ([46, 114, 101, 99] : List UInt8))).params, ((Qp y3 (a0.name ++ ([46, 114, 101, 99] : List UInt8))).ty)⟩ : Ent)) (.inl x56) hx56)) rfl rfl (Uj rfl rfl (Ui rfl (Ui rfl Uh))) rfl rfl (Ut rfl (Uu rfl (Uu rfl Us))) Up (hA rfl) Un rfl rfl rfl rfl rfl (UF rfl rfl (UE rfl (UE rfl UD))) rfl rfl rfl rfl) <| Q4 <| Qe <| Q3 <| Q0 <| Ue rfl rfl rfl (Q7 rfl rfl rfl) <| Uf rfl rfl rfl <| Q4 ?_
 have e := Uc h1; subst e
 refine QM (Jk (s1 + 1)) (Qu (Ua rfl) (hA rfl) Un rfl (Nat.le_trans hv0 (Um rfl)) rfl rfl rfl (UF rfl rfl (UE rfl (UE rfl (UF rfl rfl (UE rfl (UG rfl)))))) rfl rfl) ho1
 refine Jd rfl (Yy (hp1' := [(0, .cells 62 [Uv a1, .mp 1]), (1, .mp (QO a2.1) a2.2), (2, .mp (QO ((J5 o43 (a0.name ++ ([46, 114, 101, 99] : List UInt8)) (⟨(Qp y3 (a0.name ++ ([46, 114, 101, 99] : List UInt8))).kind, (Qp y3 (a0.name ++ ([46, 114, 101, 99] : List UInt8))).decl, (Qp y3 (a0.name ++ ([46, 114, 101, 99] : List UInt8))).item, (Qp y3 (a0.name ++ ([46, 114, 101, 99] : List UInt8))).params, ((Qp y3 (a0.name ++ ([46, 114, 101, 99] : List UInt8))).ty)⟩ : Ent)) : Qa UN Ent).1) ((J5 o43 (a0.name ++ ([46, 114, 101, 99] : List UInt8)) (⟨(Qp y3 (a0.name ++ ([46, 114, 101, 99] : List UInt8))).kind, (Qp y3 (a0.name ++ ([46, 114, 101, 99] : List UInt8))).decl, (Qp y3 (a0.name ++ ([46, 114, 101, 99] : List UInt8))).item, (Qp y3 (a0.name ++ ([46, 114, 101, 99] : List UInt8))).params, ((Qp y3 (a0.name ++ ([46, 114, 101, 99] : List UInt8))).ty)⟩ : Ent)) : Qa UN Ent).2)]) (tk1' := []) (hpF := m47f10_h45 a0 y3 a1 x54) (tkF := []) (nx2 := 23) [0, 1, 2] rfl rfl (CallE.d (YC x54 0 a0.rcr.params a1 a2 (J5 o43 (a0.name ++ ([46, 114, 101, 99] : List UInt8)) (⟨(Qp y3 (a0.name ++ ([46, 114, 101, 99] : List UInt8))).kind, (Qp y3 (a0.name ++ ([46, 114, 101, 99] : List UInt8))).decl, (Qp y3 (a0.name ++ ([46, 114, 101, 99] : List UInt8))).item, (Qp y3 (a0.name ++ ([46, 114, 101, 99] : List UInt8))).params, ((Qp y3 (a0.name ++ ([46, 114, 101, 99] : List UInt8))).ty)⟩ : Ent)) (.inr x57) hx57)) rfl rfl (Uj rfl rfl (Ui rfl (Ui rfl Uh))) rfl (Ut rfl (Uu rfl (Uu rfl Us))) Up (hA rfl) Un rfl rfl rfl rfl rfl (UF rfl rfl (UE rfl (UE rfl UD))) rfl rfl rfl rfl) ?_
 have e := Uc h1; subst e
 have e_ : _ = _ := ho1
 subst e_
 try dsimp only [Sum.elim_inl, Sum.elim_inr] at h0
 have e := Uc h0; subst e
 exact Jn (hQ0 (.panic (Jz (QJ 90 x57))) _ ZP rfl (show StLe _ _ ⟨[], m47f10_h46 a1 a2 o43 a0 y3, [], 14, 99, []⟩ from (Qu U9 (hA rfl) Un rfl (Nat.le_trans hv0 (Um rfl)) rfl rfl rfl (UF rfl rfl (UE rfl (UE rfl UD))) rfl rfl))) (fun _ _ h => h)
 replace h1 := Ql c53 h1
 refine J1 <| Qn <| Qn ?_
 have e := Uc h1; subst e
 have e_ : _ = _ := ho1
 subst e_
 exact QP () (Qu U9 (hA rfl) Un rfl (Nat.le_trans hv0 (Um rfl)) rfl rfl rfl (UF rfl rfl (UE rfl (UE rfl (UF rfl rfl (UE rfl (UG rfl)))))) rfl rfl) h0
 intro o51 h0
 unfold m47f10_k7 at h0
 refine QF ?_
 have e := Uc h0; subst e
 exact hQ0 _ _ WW rfl (show StLe _ _ ⟨[], m47f10_h46 a1 a2 o43 a0 y3, [], 19, 99, []⟩ from (Qu U9 (hA rfl) Un rfl (Nat.le_trans hv0 (Um rfl)) rfl rfl rfl (UF rfl rfl (UE rfl (UE rfl UD))) rfl rfl))
 refine Jd rfl (Yy (hp1' := [(0, .cells 62 [Uv a1, .mp 1]), (1, .mp (QO a2.1) a2.2), (2, .mp (QO o43.1) o43.2)]) (tk1' := []) (hpF := m47f10_h42 a0 y3 a1) (tkF := []) (nx2 := 14) [0, 1, 2] rfl rfl (CallE.d (YC a0.rcr.ty 0 a0.rcr.params a1 a2 o43 (.inr x49) hx49)) rfl rfl (Uj rfl rfl (Ui rfl (Ui rfl Uh))) rfl (Ut rfl (Uu rfl (Uu rfl Us))) Up (hA rfl) Un rfl rfl rfl rfl rfl (UF rfl rfl (UE rfl (UE rfl UD))) rfl rfl rfl rfl) ?_
 have e := Uc h0; subst e
 exact Jn (hQ0 (.panic (Jz (QJ 90 x49))) _ ZP rfl (show StLe _ _ ⟨[], m47f10_h47 a1 a2 o43, [], 14, 99, []⟩ from (Qu U9 (hA rfl) Un rfl (Nat.le_trans hv0 (Um rfl)) rfl rfl rfl (UF rfl rfl (UE rfl (UE rfl UD))) rfl rfl))) (fun _ _ h => h)
end Go.Proofs.Ytafddfoefeploaa
namespace Go.Proofs.Ytafddfoefeploaa
open Go.RowKit Go.Shelf
set_option linter.unusedSimpArgs false
set_option linter.unusedVariables false
theorem XH : J0 Try.prog 35 1 = some 1 := by kernel_rfl
theorem fo_35_2 : J0 Try.prog 35 2 = some 2 := by kernel_rfl
theorem fo_74_2 : J0 Try.prog 74 2 = some 6 := by kernel_rfl
theorem z_74 : JE Try.prog 74 = some [.int .i64 0, .int .i64 0, .int .i64 0, .string ByteArray.empty, .slice none 0 0, .slice none 0 0, .int .i64 0, .slice none 0 0] := by kernel_rfl
theorem en_48 : J3 Try.prog 48 := enters_of Try.func48 (by kernel_rfl) rfl
noncomputable def m48f11_k0 (p0_ : UO) (p1_ : Int) (p2_ : List Dcl) (p3_ : Qa UN Ent) (p4_ : Tr × Int × Int × Int × (List Dcl) × (Qa UN Ent) × (Qa UN Ent) → Option (Unit ⊕ Int)) (p5_ : Int) (p6_ : Int) (p7_ : Int) (p8_ : Qa UN Ent) : Option (LO Int (Unit ⊕ (Unit ⊕ Int))) :=
 cond p0_.absurd
   (Option.bind (cond (p0_.tree.kind == 0)
   (cond (p0_.tree.var == 0)
   (cond ((p0_.tree.branches.length : Int) == 0)
   (Option.bind (WV p0_.tree.body) fun (b0_ : Bool) =>
 Option.bind (JL b0_ 3) (Sum.elim (fun (b1_ : Unit) => some (.inl ())) (fun (b2_ : Unit) => some (.inr (.inr 3)))))
   (Option.bind (JL false 3) (Sum.elim (fun (b3_ : Unit) => some (.inl ())) (fun (b4_ : Unit) => some (.inr (.inr 3))))))
   (Option.bind (JL false 3) (Sum.elim (fun (b5_ : Unit) => some (.inl ())) (fun (b6_ : Unit) => some (.inr (.inr 3))))))
   (Option.bind (JL false 3) (Sum.elim (fun (b7_ : Unit) => some (.inl ())) (fun (b8_ : Unit) => some (.inr (.inr 3)))))) (Sum.elim (fun (b9_ : Unit) => some (.next (Jk (p1_ + 1)))) (fun o => some (.done (.inr o)))))
   (Option.bind (Yi p2_ ((Qp p3_ p0_.ctor).decl)) fun (b10_ : Dcl) =>
 Option.bind (m68 b10_ ((Qp p3_ p0_.ctor).item)) fun (b11_ : Int) =>
 Option.bind (p4_ (p0_.tree, (Jk (p5_ + b11_)), (Jk (p6_ + 1)), p7_, p2_, p3_, p8_)) (Sum.elim (fun (b12_ : Unit) => some (.next (Jk (p1_ + 1)))) (fun (b13_ : Int) => some (.done (.inr (.inr b13_))))))
noncomputable def m48f11_l1 (a0 : Tr) (a5 : Qa UN Ent) (a4 : List Dcl) (rc : Tr × Int × Int × Int × (List Dcl) × (Qa UN Ent) × (Qa UN Ent) → Option (Unit ⊕ Int)) (a1 : Int) (a2 : Int) (a3 : Int) (a6 : Qa UN Ent) (s1 : Int) : Option (LO Int (Unit ⊕ (Unit ⊕ Int))) :=
 cond (decide (s1 < (a0.branches.length : Int)))
   (Option.bind (Yi a0.branches s1) fun (x23 : UO) =>
 Option.bind (cond (KR a5 x23.ctor)
   (Option.bind (JL (((Qp a5 x23.ctor).kind) == 4) 9) (Sum.elim (fun (x27 : Unit) => some (.inl ())) (fun (x28 : Unit) => some (.inr (.inr 9)))))
   (Option.bind (JL false 9) (Sum.elim (fun (x30 : Unit) => some (.inl ())) (fun (x31 : Unit) => some (.inr (.inr 9)))))) (Sum.elim (fun (v24 : Unit) => m48f11_k0 x23 s1 a4 a5 rc a1 a2 a3 a6) (fun o => some (.done (.inr o)))))
   (some (.done (.inl ())))
noncomputable def m48f11_k2 (p0_ : Tr) (p1_ : Qa UN Ent) (p2_ : List Dcl) (p3_ : Tr × Int × Int × Int × (List Dcl) × (Qa UN Ent) × (Qa UN Ent) → Option (Unit ⊕ Int)) (p4_ : Int) (p5_ : Int) (p6_ : Int) (p7_ : Qa UN Ent) : Option (Unit ⊕ Int) :=
 Option.bind (JL (decide ((p0_.branches.length : Int) ≤ 32)) 6) (Sum.elim (fun (b0_ : Unit) => Option.bind (QV (m48f11_l1 p0_ p1_ p2_ p3_ p4_ p5_ p6_ p7_) J2 0) (Sum.elim (fun (b1_ : Unit) => some (.inl ())) (fun o => some o))) (fun (b2_ : Unit) => some (.inr 6)))
noncomputable def m48f11_k3 (p0_ : Tr) (p1_ : Int) (p2_ : Qa UN Ent) (p3_ : List Dcl) (p4_ : Tr × Int × Int × Int × (List Dcl) × (Qa UN Ent) × (Qa UN Ent) → Option (Unit ⊕ Int)) (p5_ : Int) (p6_ : Int) (p7_ : Qa UN Ent) : Option (Unit ⊕ Int) :=
 Option.bind (cond (decide (0 ≤ p0_.var))
   (Option.bind (JL (decide (p0_.var < p1_)) 24) (Sum.elim (fun (b0_ : Unit) => some (.inl ())) (fun (b1_ : Unit) => some (.inr (.inr 24)))))
   (Option.bind (JL false 24) (Sum.elim (fun (b2_ : Unit) => some (.inl ())) (fun (b3_ : Unit) => some (.inr (.inr 24)))))) (Sum.elim (fun (b4_ : Unit) => m48f11_k2 p0_ p2_ p3_ p4_ p1_ p5_ p6_ p7_) (fun o => some o))
noncomputable abbrev G4 (p0_ : List Dcl) (p1_ : Qa UN Ent) (p2_ : Qa UN Ent) (p3_ : Tr) : List (Nat × HB) :=
 [(0, .cells 62 [Uv p0_, .mp 1]), (1, .mp (QO p1_.1) p1_.2), (2, .mp (QO p2_.1) p2_.2), (3, .cells 74 (UA p3_))]
noncomputable abbrev QX (p0_ : List Dcl) (p1_ : Qa UN Ent) (p2_ : Qa UN Ent) : List (Nat × HB) :=
 [(0, .cells 62 [Uv p0_, .mp 1]), (1, .mp (QO p1_.1) p1_.2), (2, .mp (QO p2_.1) p2_.2)]
noncomputable abbrev m48f11_h2 (p0_ : Qa UN Ent) (p1_ : UO) : HB :=
 .cells 35 [Ux ((Qp p0_ p1_.ctor).kind), Ux ((Qp p0_ p1_.ctor).decl), Ux ((Qp p0_ p1_.ctor).item), Ux ((Qp p0_ p1_.ctor).params), Ux (((Qp p0_ p1_.ctor).ty).kind), Ux (((Qp p0_ p1_.ctor).ty).index), Jl (((Qp p0_ p1_.ctor).ty).name), Uv (((Qp p0_ p1_.ctor).ty).levels : List Lvl), Uv (((Qp p0_ p1_.ctor).ty).kids : List Tm)]
noncomputable abbrev m48f11_h3 (p0_ : List Dcl) (p1_ : Qa UN Ent) (p2_ : Qa UN Ent) (p3_ : Tr) (p4_ : UO) : List (Nat × HB) :=
 [(0, .cells 62 [Uv p0_, .mp 1]), (1, .mp (QO p1_.1) p1_.2), (2, .mp (QO p2_.1) p2_.2), (3, .cells 74 (UA p3_)), (4, .cells 101 (UA p4_)), (5, m48f11_h2 p1_ p4_)]
noncomputable abbrev m48f11_h4 (p0_ : List Dcl) (p1_ : Qa UN Ent) (p2_ : Qa UN Ent) (p3_ : Tr) (p4_ : UO) : List (Nat × HB) :=
 [(0, .cells 62 [Uv p0_, .mp 1]), (1, .mp (QO p1_.1) p1_.2), (2, .mp (QO p2_.1) p2_.2), (3, .cells 74 (UA p3_)), (4, .cells 101 (UA p4_)), (5, m48f11_h2 p1_ p4_), (6, .cells 74 (UA p4_.tree))]
noncomputable abbrev m48f11_h5 (p0_ : Tr) (p1_ : UO) (p2_ : Qa UN Ent) : List (Nat × HB) :=
 [(3, .cells 74 (UA p0_)), (4, .cells 101 (UA p1_)), (5, m48f11_h2 p2_ p1_)]
noncomputable def m48f11s (rc : Tr × Int × Int × Int × (List Dcl) × (Qa UN Ent) × (Qa UN Ent) → Option (Unit ⊕ Int)) (a0 : Tr) (a1 : Int) (a2 : Int) (a3 : Int) (a4 : List Dcl) (a5 : Qa UN Ent) (a6 : Qa UN Ent) : Option (Unit ⊕ Int) :=
 Option.bind (JL (decide (a2 < 200)) 7) (Sum.elim (fun (x2 : Unit) => cond (a0.kind == 0)
   (Option.bind (cond (a0.var == 0)
   (Option.bind (JL ((a0.branches.length : Int) == 0) 3) (Sum.elim (fun (x8 : Unit) => some (.inl ())) (fun (x9 : Unit) => some (.inr (.inr 3)))))
   (Option.bind (JL false 3) (Sum.elim (fun (x11 : Unit) => some (.inl ())) (fun (x12 : Unit) => some (.inr (.inr 3)))))) (Sum.elim (fun (v5 : Unit) => Option.bind (X6 a0.body a1 a3 a4 a5 a6) (Sum.elim (fun (x7 : Unit) => some (.inl ())) (fun (x8 : Int) => some (.inr x8)))) (fun o => some o)))
   (Option.bind (cond (a0.kind == 1)
   (Option.bind (WV a0.body) fun (x18 : Bool) =>
 Option.bind (JL x18 3) (Sum.elim (fun (x20 : Unit) => some (.inl ())) (fun (x21 : Unit) => some (.inr (.inr 3)))))
   (Option.bind (JL false 3) (Sum.elim (fun (x23 : Unit) => some (.inl ())) (fun (x24 : Unit) => some (.inr (.inr 3)))))) (Sum.elim (fun (v16 : Unit) => m48f11_k3 a0 a1 a5 a4 rc a2 a3 a6) (fun o => some o)))) (fun (x3 : Unit) => some (.inr 7)))
noncomputable def m48f11F (rc : Tr × Int × Int × Int × (List Dcl) × (Qa UN Ent) × (Qa UN Ent) → Option (Unit ⊕ Int)) (u : Tr × Int × Int × Int × (List Dcl) × (Qa UN Ent) × (Qa UN Ent)) : Option (Unit ⊕ Int) := m48f11s rc u.1 u.2.1 u.2.2.1 u.2.2.2.1 u.2.2.2.2.1 u.2.2.2.2.2.1 u.2.2.2.2.2.2
noncomputable def m48f11 (a0 : Tr) (a1 : Int) (a2 : Int) (a3 : Int) (a4 : List Dcl) (a5 : Qa UN Ent) (a6 : Qa UN Ent) : Option (Unit ⊕ Int) := Yt m48f11F J2 (a0, a1, a2, a3, a4, a5, a6)
set_option maxRecDepth 100000 in
set_option maxHeartbeats 2000000 in
theorem m48f11s_ok (rc : Tr × Int × Int × Int × (List Dcl) × (Qa UN Ent) × (Qa UN Ent) → Option (Unit ⊕ Int)) (H : ∀ (a0 : Tr) (a1 : Int) (a2 : Int) (a3 : Int) (a4 : List Dcl) (a5 : Qa UN Ent) (a6 : Qa UN Ent) (r : Unit ⊕ Int), rc (a0, a1, a2, a3, a4, a5, a6) = some r → CallE Try.prog 48 [.one (.ptr 0 0), .agg (UA a0), .one (Ux a1), .one (Ux a2), .one (Ux a3), .one (.mp 2)] ⟨QX a4 a5 a6, [], 3⟩ ((Sum.elim (fun (r0 : Unit) => ((.ret []) : EK)) (fun (r1 : Int) => ((.pan (QJ 90 r1)) : EK))) r) ⟨((Sum.elim (fun (r0 : Unit) => (⟨[], QX a4 a5 a6, [], 4, 134, []⟩ : St)) (fun (r1 : Int) => (⟨[], QX a4 a5 a6, [], 4, 134, []⟩ : St))) r).hp, ((Sum.elim (fun (r0 : Unit) => (⟨[], QX a4 a5 a6, [], 4, 134, []⟩ : St)) (fun (r1 : Int) => (⟨[], QX a4 a5 a6, [], 4, 134, []⟩ : St))) r).tk, ((Sum.elim (fun (r0 : Unit) => (⟨[], QX a4 a5 a6, [], 4, 134, []⟩ : St)) (fun (r1 : Int) => (⟨[], QX a4 a5 a6, [], 4, 134, []⟩ : St))) r).nx⟩) (a0 : Tr) (a1 : Int) (a2 : Int) (a3 : Int) (a4 : List Dcl) (a5 : Qa UN Ent) (a6 : Qa UN Ent) (r : Unit ⊕ Int) (h0 : m48f11s rc a0 a1 a2 a3 a4 a5 a6 = some r) : CallE Try.prog 48 [.one (.ptr 0 0), .agg (UA a0), .one (Ux a1), .one (Ux a2), .one (Ux a3), .one (.mp 2)] ⟨QX a4 a5 a6, [], 3⟩ ((Sum.elim (fun (r0 : Unit) => ((.ret []) : EK)) (fun (r1 : Int) => ((.pan (QJ 90 r1)) : EK))) r) ⟨((Sum.elim (fun (r0 : Unit) => (⟨[], QX a4 a5 a6, [], 4, 134, []⟩ : St)) (fun (r1 : Int) => (⟨[], QX a4 a5 a6, [], 4, 134, []⟩ : St))) r).hp, ((Sum.elim (fun (r0 : Unit) => (⟨[], QX a4 a5 a6, [], 4, 134, []⟩ : St)) (fun (r1 : Int) => (⟨[], QX a4 a5 a6, [], 4, 134, []⟩ : St))) r).tk, ((Sum.elim (fun (r0 : Unit) => (⟨[], QX a4 a5 a6, [], 4, 134, []⟩ : St)) (fun (r1 : Int) => (⟨[], QX a4 a5 a6, [], 4, 134, []⟩ : St))) r).nx⟩ := by
 unfold m48f11s at h0
 refine JP r ((Sum.elim (fun (r0 : Unit) => (⟨[], QX a4 a5 a6, [], 4, 134, []⟩ : St)) (fun (r1 : Int) => (⟨[], QX a4 a5 a6, [], 4, 134, []⟩ : St)))) ((Sum.elim (fun (r0 : Unit) => ((.ret []) : EK)) (fun (r1 : Int) => ((.pan (QJ 90 r1)) : EK)))) rfl rfl en_48 (Um rfl) (fun z_ => by cases z_ with
 | inl _ => exact rfl
 | inr _ => exact rfl) (fun z_ => by cases z_ with
 | inl _ => exact (WA .nil)
 | inr _ => exact WG) (fun w0 M V0 Q hv0 hQ0 => ?_)
 simp only [J7]
 refine Q5 <| Q0 <| Q9 rfl rfl (Um rfl) (QN rfl) <| Q4 <| Q3 <| Q5 <| Q0 <| Uf rfl rfl rfl <| Ue rfl rfl rfl (Q7 rfl rfl rfl) ?_
 refine Qb h0 (fun x1 hx1 h0 => ?_)
 refine JY id hx1 h0 (fun x2 hx2 h0 => ?_) (fun x3 hx3 h0 => ?_)
 refine Q9 rfl rfl (Um rfl) (QE rfl rfl rfl (CallE.m (QB (decide (a2 < 200)) 7 (.inl x2) hx2)) rfl) <| Q4 <| Q3 <| Q5 <| Q5 <| Q0 <| Ue rfl rfl rfl (Q1 XG rfl) <| Ue rfl rfl rfl (Q6 QZ rfl rfl rfl) <| Ue rfl rfl rfl (Q7 rfl rfl rfl) <| Q4 <| Q3 ?_
 refine Qg (b := (a0.kind == 0)) rfl (fun c4 => ?_) (fun c4 => ?_)
 replace h0 := Qk c4 h0
 refine Q5 ?_
 refine QS (fun (v5 : Unit) => ⟨[(0, .v (.one (.ptr 0 0))), (2, .v (.one (Ux a1))), (4, .v (.one (Ux a3))), (5, .v (.one (.mp 2))), (7, .v (.one (.ptr 3 0)))], G4 a4 a5 a6 a0, [], 4, 134, []⟩) (fun (v5 : Unit) => (Option.bind (X6 a0.body a1 a3 a4 a5 a6) (Sum.elim (fun (x7 : Unit) => some (.inl ())) (fun (x8 : Int) => some (.inr x8)))) = some r) ?_ ?_
 refine Qb h0 (fun w1_ h1 h0 => ?_)
 refine Q0 <| Ue rfl rfl rfl (Q1 fo_74_2 rfl) <| Ue rfl rfl rfl (Q6 QZ rfl rfl rfl) <| Ue rfl rfl rfl (Q7 rfl rfl rfl) <| Uf rfl rfl rfl ?_
 refine QG (d := 26) (c := (a0.var == 0)) rfl (fun c6 => ?_) (fun c6 => ?_)
 replace h1 := Qk c6 h1
 refine Ue rfl rfl rfl (Q1 Za rfl) <| Ue rfl rfl rfl (Q6 Gd rfl rfl rfl) <| Ue rfl rfl rfl (Qx (α := UO) Kx rfl (.d _)) <| Ue rfl rfl rfl (Q7 rfl rfl rfl) <| Ue rfl rfl rfl (Qh rfl rfl) ?_
 refine Qb h1 (fun x7 hx7 h1 => ?_)
 refine JY id hx7 h1 (fun x8 hx8 h1 => ?_) (fun x9 hx9 h1 => ?_)
 refine Q9 rfl rfl (Um rfl) (QE rfl rfl rfl (CallE.m (QB ((a0.branches.length : Int) == 0) 3 (.inl x8) hx8)) rfl) <| Q4 ?_
 have e := Uc h1; subst e
 replace h0 := Kz h0
 exact Qc () (Qu (Ua rfl) (hA rfl) Un rfl (Nat.le_trans hv0 (Um rfl)) rfl rfl rfl (UF rfl rfl (UE rfl (UE rfl (UG rfl)))) rfl rfl) h0
 refine Jd rfl (QH rfl rfl rfl (CallE.d (QB ((a0.branches.length : Int) == 0) 3 (.inr x9) hx9))) ?_
 have e := Uc h1; subst e
 replace h0 := KX h0
 have e := Uc h0; subst e
 exact Jn (hQ0 (.panic (Jz (QJ 90 3))) _ ZP rfl (show StLe _ _ ⟨[], QX a4 a5 a6, [], 4, 134, []⟩ from (Qu U9 (hA rfl) Un rfl (Nat.le_trans hv0 (Um rfl)) rfl rfl rfl (UF rfl rfl (UE rfl (UE rfl UD))) rfl rfl))) (fun _ _ h => h)
 replace h1 := Ql c6 h1
 refine Q8 rfl rfl <| Q8 rfl rfl <| Q8 rfl rfl <| Q8 rfl rfl <| Ue rfl rfl rfl (Qd rfl rfl) ?_
 refine Qb h1 (fun x10 hx10 h1 => ?_)
 refine JY id hx10 h1 (fun x11 hx11 h1 => ?_) (fun x12 hx12 h1 => ?_)
 refine Q9 rfl rfl (Um rfl) (QE rfl rfl rfl (CallE.m (QB false 3 (.inl x11) hx11)) rfl) <| Q4 ?_
 have e := Uc h1; subst e
 replace h0 := Kz h0
 exact Qc () (Qu (Ua rfl) (hA rfl) Un rfl (Nat.le_trans hv0 (Um rfl)) rfl rfl rfl (UF rfl rfl (UE rfl (UE rfl (UG rfl)))) rfl rfl) h0
 refine Jd rfl (QH rfl rfl rfl (CallE.d (QB false 3 (.inr x12) hx12))) ?_
 have e := Uc h1; subst e
 replace h0 := KX h0
 have e := Uc h0; subst e
 exact Jn (hQ0 (.panic (Jz (QJ 90 3))) _ ZP rfl (show StLe _ _ ⟨[], QX a4 a5 a6, [], 4, 134, []⟩ from (Qu U9 (hA rfl) Un rfl (Nat.le_trans hv0 (Um rfl)) rfl rfl rfl (UF rfl rfl (UE rfl (UE rfl UD))) rfl rfl))) (fun _ _ h => h)
 intro v5 h0
 refine Q3 <| Q5 <| Q0 <| Uf rfl rfl rfl <| Ue rfl rfl rfl (Q1 X0 rfl) <| Ue rfl rfl rfl (Qi QW rfl rfl rfl rfl) <| Uf rfl rfl rfl <| Uf rfl rfl rfl <| Uf rfl rfl rfl ?_
 refine Qb h0 (fun x13 hx13 h0 => ?_)
 refine JY id hx13 h0 (fun x14 hx14 h0 => ?_) (fun x15 hx15 h0 => ?_)
 refine Q9 rfl rfl (Um rfl) (J4 (hp1' := [(0, .cells 62 [Uv a4, .mp 1]), (1, .mp (QO a5.1) a5.2), (2, .mp (QO a6.1) a6.2)]) (tk1' := []) (hpF := [(3, .cells 74 (UA a0))]) (tkF := []) (res2 := QD []) (nx2 := 12) [0, 1, 2] rfl rfl (CallE.m (YC a0.body a1 a3 a4 a5 a6 (.inl x14) hx14)) rfl rfl (Uj rfl rfl (Ui rfl (Ui rfl Uh))) rfl rfl (Ut rfl (Uu rfl (Uu rfl Us))) Up (hA rfl) Un rfl rfl rfl rfl rfl (UF rfl rfl (UE rfl (UE rfl UD))) rfl rfl rfl rfl) <| Q4 <| Q3 <| QA ?_
 have e := Uc h0; subst e
 exact hQ0 _ _ WS rfl (show StLe _ _ ⟨[], QX a4 a5 a6, [], 4, 134, []⟩ from (Qu U9 (hA rfl) Un rfl (Nat.le_trans hv0 (Um rfl)) rfl rfl rfl (UF rfl rfl (UE rfl (UE rfl UD))) rfl rfl))
 refine Jd rfl (Yy (hp1' := [(0, .cells 62 [Uv a4, .mp 1]), (1, .mp (QO a5.1) a5.2), (2, .mp (QO a6.1) a6.2)]) (tk1' := []) (hpF := [(3, .cells 74 (UA a0))]) (tkF := []) (nx2 := 7) [0, 1, 2] rfl rfl (CallE.d (YC a0.body a1 a3 a4 a5 a6 (.inr x15) hx15)) rfl rfl (Uj rfl rfl (Ui rfl (Ui rfl Uh))) rfl (Ut rfl (Uu rfl (Uu rfl Us))) Up (hA rfl) Un rfl rfl rfl rfl rfl (UF rfl rfl (UE rfl (UE rfl UD))) rfl rfl rfl rfl) ?_
 have e := Uc h0; subst e
 exact Jn (hQ0 (.panic (Jz (QJ 90 x15))) _ ZP rfl (show StLe _ _ ⟨[], QX a4 a5 a6, [], 4, 134, []⟩ from (Qu U9 (hA rfl) Un rfl (Nat.le_trans hv0 (Um rfl)) rfl rfl rfl (UF rfl rfl (UE rfl (UE rfl UD))) rfl rfl))) (fun _ _ h => h)
 replace h0 := Ql c4 h0
 refine Qj <| Q3 <| Q5 ?_
 refine QS (fun (v16 : Unit) => ⟨[(0, .v (.one (.ptr 0 0))), (2, .v (.one (Ux a1))), (3, .v (.one (Ux a2))), (4, .v (.one (Ux a3))), (5, .v (.one (.mp 2))), (7, .v (.one (.ptr 3 0)))], G4 a4 a5 a6 a0, [], 4, 134, []⟩) (fun (v16 : Unit) => (m48f11_k3 a0 a1 a5 a4 rc a2 a3 a6) = some r) ?_ ?_
 refine Qb h0 (fun w1_ h1 h0 => ?_)
 refine Q0 <| Ue rfl rfl rfl (Q1 XG rfl) <| Ue rfl rfl rfl (Q6 QZ rfl rfl rfl) <| Ue rfl rfl rfl (Q7 rfl rfl rfl) <| Uf rfl rfl rfl ?_
 refine QG (d := 43) (c := (a0.kind == 1)) rfl (fun c17 => ?_) (fun c17 => ?_)
 replace h1 := Qk c17 h1
 refine Ue rfl rfl rfl (Q1 X0 rfl) <| Ue rfl rfl rfl (Qi QW rfl rfl rfl rfl) ?_
 refine Qb h1 (fun x18 hx18 h1 => ?_)
 refine Q9 rfl rfl (Um rfl) (Qo (Wc a0.body x18 hx18) rfl (.cons (.agg (.cons (.d _) (.cons (.d _) (.cons (.d _) (.cons (.d _) (.cons (.d _) .nil)))))) .nil)) <| Ue rfl rfl rfl (Qh rfl rfl) ?_
 refine Qb h1 (fun x19 hx19 h1 => ?_)
 refine JY id hx19 h1 (fun x20 hx20 h1 => ?_) (fun x21 hx21 h1 => ?_)
 refine Q9 rfl rfl (Um rfl) (QE rfl rfl rfl (CallE.m (QB x18 3 (.inl x20) hx20)) rfl) <| Q4 ?_
 have e := Uc h1; subst e
 replace h0 := Kz h0
 exact Qc () (Qu (Ua rfl) (hA rfl) Un rfl (Nat.le_trans hv0 (Um rfl)) rfl rfl rfl (UF rfl rfl (UE rfl (UE rfl (UG rfl)))) rfl rfl) h0
 refine Jd rfl (QH rfl rfl rfl (CallE.d (QB x18 3 (.inr x21) hx21))) ?_
 have e := Uc h1; subst e
 replace h0 := KX h0
 have e := Uc h0; subst e
 exact Jn (hQ0 (.panic (Jz (QJ 90 3))) _ ZP rfl (show StLe _ _ ⟨[], QX a4 a5 a6, [], 4, 134, []⟩ from (Qu U9 (hA rfl) Un rfl (Nat.le_trans hv0 (Um rfl)) rfl rfl rfl (UF rfl rfl (UE rfl (UE rfl UD))) rfl rfl))) (fun _ _ h => h)
 replace h1 := Ql c17 h1
 refine Q8 rfl rfl <| Q8 rfl rfl <| Q8 rfl rfl <| Ue rfl rfl rfl (Qd rfl rfl) ?_
 refine Qb h1 (fun x22 hx22 h1 => ?_)
 refine JY id hx22 h1 (fun x23 hx23 h1 => ?_) (fun x24 hx24 h1 => ?_)
 refine Q9 rfl rfl (Um rfl) (QE rfl rfl rfl (CallE.m (QB false 3 (.inl x23) hx23)) rfl) <| Q4 ?_
 have e := Uc h1; subst e
 replace h0 := Kz h0
 exact Qc () (Qu (Ua rfl) (hA rfl) Un rfl (Nat.le_trans hv0 (Um rfl)) rfl rfl rfl (UF rfl rfl (UE rfl (UE rfl (UG rfl)))) rfl rfl) h0
 refine Jd rfl (QH rfl rfl rfl (CallE.d (QB false 3 (.inr x24) hx24))) ?_
 have e := Uc h1; subst e
 replace h0 := KX h0
 have e := Uc h0; subst e
 exact Jn (hQ0 (.panic (Jz (QJ 90 3))) _ ZP rfl (show StLe _ _ ⟨[], QX a4 a5 a6, [], 4, 134, []⟩ from (Qu U9 (hA rfl) Un rfl (Nat.le_trans hv0 (Um rfl)) rfl rfl rfl (UF rfl rfl (UE rfl (UE rfl UD))) rfl rfl))) (fun _ _ h => h)
 intro v16 h0
 unfold m48f11_k3 at h0
 refine Q3 <| Q5 ?_
 refine QS (fun (v25 : Unit) => ⟨[(0, .v (.one (.ptr 0 0))), (2, .v (.one (Ux a1))), (3, .v (.one (Ux a2))), (4, .v (.one (Ux a3))), (5, .v (.one (.mp 2))), (7, .v (.one (.ptr 3 0)))], G4 a4 a5 a6 a0, [], 4, 134, []⟩) (fun (v25 : Unit) => (m48f11_k2 a0 a5 a4 rc a1 a2 a3 a6) = some r) ?_ ?_
 refine Qb h0 (fun w1_ h1 h0 => ?_)
 refine Q0 <| Ue rfl rfl rfl (Q1 fo_74_2 rfl) <| Ue rfl rfl rfl (Q6 QZ rfl rfl rfl) <| Ue rfl rfl rfl (Q7 rfl rfl rfl) <| Uf rfl rfl rfl ?_
 refine QG (d := 52) (c := (decide (0 ≤ a0.var))) rfl (fun c26 => ?_) (fun c26 => ?_)
 replace h1 := Qk c26 h1
 refine Ue rfl rfl rfl (Q1 fo_74_2 rfl) <| Ue rfl rfl rfl (Q6 QZ rfl rfl rfl) <| Uf rfl rfl rfl <| Ue rfl rfl rfl (Q7 rfl rfl rfl) <| Ue rfl rfl rfl (Qh rfl rfl) ?_
 refine Qb h1 (fun x27 hx27 h1 => ?_)
 refine JY id hx27 h1 (fun x28 hx28 h1 => ?_) (fun x29 hx29 h1 => ?_)
 refine Q9 rfl rfl (Um rfl) (QE rfl rfl rfl (CallE.m (QB (decide (a0.var < a1)) 24 (.inl x28) hx28)) rfl) <| Q4 ?_
 have e := Uc h1; subst e
 replace h0 := Kz h0
 exact Qc () (Qu (Ua rfl) (hA rfl) Un rfl (Nat.le_trans hv0 (Um rfl)) rfl rfl rfl (UF rfl rfl (UE rfl (UE rfl (UG rfl)))) rfl rfl) h0
 refine Jd rfl (QH rfl rfl rfl (CallE.d (QB (decide (a0.var < a1)) 24 (.inr x29) hx29))) ?_
 have e := Uc h1; subst e
 replace h0 := KX h0
 have e := Uc h0; subst e
 exact Jn (hQ0 (.panic (Jz (QJ 90 24))) _ ZP rfl (show StLe _ _ ⟨[], QX a4 a5 a6, [], 4, 134, []⟩ from (Qu U9 (hA rfl) Un rfl (Nat.le_trans hv0 (Um rfl)) rfl rfl rfl (UF rfl rfl (UE rfl (UE rfl UD))) rfl rfl))) (fun _ _ h => h)
 replace h1 := Ql c26 h1
 refine Q8 rfl rfl <| Q8 rfl rfl <| Q8 rfl rfl <| Q8 rfl rfl <| Ue rfl rfl rfl (Qd rfl rfl) ?_
 refine Qb h1 (fun x30 hx30 h1 => ?_)
 refine JY id hx30 h1 (fun x31 hx31 h1 => ?_) (fun x32 hx32 h1 => ?_)
 refine Q9 rfl rfl (Um rfl) (QE rfl rfl rfl (CallE.m (QB false 24 (.inl x31) hx31)) rfl) <| Q4 ?_
 have e := Uc h1; subst e
 replace h0 := Kz h0
 exact Qc () (Qu (Ua rfl) (hA rfl) Un rfl (Nat.le_trans hv0 (Um rfl)) rfl rfl rfl (UF rfl rfl (UE rfl (UE rfl (UG rfl)))) rfl rfl) h0
 refine Jd rfl (QH rfl rfl rfl (CallE.d (QB false 24 (.inr x32) hx32))) ?_
 have e := Uc h1; subst e
 replace h0 := KX h0
 have e := Uc h0; subst e
 exact Jn (hQ0 (.panic (Jz (QJ 90 24))) _ ZP rfl (show StLe _ _ ⟨[], QX a4 a5 a6, [], 4, 134, []⟩ from (Qu U9 (hA rfl) Un rfl (Nat.le_trans hv0 (Um rfl)) rfl rfl rfl (UF rfl rfl (UE rfl (UE rfl UD))) rfl rfl))) (fun _ _ h => h)
 intro v25 h0
 unfold m48f11_k2 at h0
 refine Q3 <| Q5 <| Q0 <| Ue rfl rfl rfl (Q1 Za rfl) <| Ue rfl rfl rfl (Q6 Gd rfl rfl rfl) <| Ue rfl rfl rfl (Qx (α := UO) Kx rfl (.d _)) <| Ue rfl rfl rfl (Q7 rfl rfl rfl) ?_
 refine Qb h0 (fun x33 hx33 h0 => ?_)
 refine JY id hx33 h0 (fun x34 hx34 h0 => ?_) (fun x35 hx35 h0 => ?_)
 refine Q9 rfl rfl (Um rfl) (QE rfl rfl rfl (CallE.m (QB (decide ((a0.branches.length : Int) ≤ 32)) 6 (.inl x34) hx34)) rfl) <| Q4 <| Q3 <| Q5 <| Q0 <| Ue rfl rfl rfl (Q1 Za rfl) <| Ue rfl rfl rfl (Q6 Gd rfl rfl rfl) <| Ue rfl rfl rfl (Qx (α := UO) Kx rfl (.d _)) <| Uf rfl rfl rfl <| Q4 <| Q3 <| Qf ?_
 refine QR 0 (fun (o36 : Unit) => ⟨[], G4 a4 a5 a6 a0, [], 4, 134, []⟩) (fun (o36 : Unit) => (some (.inl ())) = some r) ?_ ?_
 refine Qb h0 (fun o37 hl1 h0 => ?_)
 refine QQ (m48f11_l1 a0 a5 a4 rc a1 a2 a3 a6) (fun s1 => ⟨[(0, .v (.one (.ptr 0 0))), (2, .v (.one (Ux a1))), (3, .v (.one (Ux a2))), (4, .v (.one (Ux a3))), (5, .v (.one (.mp 2))), (65, .v (.one (Uv a0.branches))), (66, .v (.one (Ux (a0.branches.length : Int)))), (67, .v (.one (Ux s1)))], G4 a4 a5 a6 a0, [], 4, 134, []⟩) 0 o37 (Qu (Ua rfl) (hA rfl) Un rfl (Nat.le_trans hv0 (Um rfl)) rfl rfl rfl (UF rfl rfl (UE rfl (UE rfl (UG rfl)))) rfl rfl) hl1 (fun s1 n1 oo1 h1 ho1 => ?_)
 unfold m48f11_l1 at h1
 refine Q5 <| Q0 <| Ue rfl rfl rfl (Q7 rfl rfl rfl) <| Q4 <| Q3 <| Q5 ?_
 refine Qg (b := (decide (s1 < (a0.branches.length : Int)))) rfl (fun c38 => ?_) (fun c38 => ?_)
 replace h1 := Qk c38 h1
 refine Qj <| Q3 <| Q5 <| Qf <| Q5 <| Q0 ?_
 refine Qb h1 (fun x39 hx39 h1 => ?_)
 refine Ue rfl rfl rfl (Qq (α := UO) Kx rfl (.d _) rfl hx39) <| Ue rfl rfl rfl (Qv (x39 : UO) ag_101 rfl) <| Q9 rfl rfl (Um rfl) (Qm z_101 rfl) <| Qy rfl rfl (QC (x39 : UO) ag_101 rfl rfl rfl rfl rfl) <| Q4 <| Q3 <| Q5 ?_
 refine Jv [10, 11] [(0, 1), (1, 1), (2, 1), (3, 1), (4, 1), (5, 1), (6, 1), (7, 1), (8, 1), (9, 1), (9, 2)] YI (by kernel_rfl) (by kernel_rfl) (by kernel_rfl) ?_
 refine RunA.rd rfl rfl rfl (Q2 (Qt rfl)) rfl <| RunA.rd rfl rfl rfl (Q2 (Jx rfl)) rfl <| RunA.rd rfl rfl rfl (Q2 (Q1 K3 rfl)) rfl <| RunA.rd rfl rfl rfl (Q2 (Q6 YA rfl rfl rfl)) rfl <| RunA.rd rfl rfl rfl (Q2 (Q1 GQ rfl)) rfl <| RunA.rd rfl rfl rfl (Q2 (Q6 JG rfl rfl rfl)) rfl <| RunA.rd rfl rfl rfl (Q2 (Zz (M := a5) (k := x39.ctor) YL Kh rfl rfl rfl)) rfl <| RunA.rd rfl rfl rfl (Q2 (Qt rfl)) rfl <| RunA.rd rfl rfl rfl (Q2 (Jg rfl rfl)) rfl <| RunA.rd rfl rfl rfl (Q2 (Jg rfl rfl)) rfl <| RunA.eff rfl rfl rfl (Qm ZB rfl) rfl <| RunA.eff rfl rfl rfl (Qr Jm rfl rfl rfl rfl (Um rfl) rfl) rfl <| RunA.rd rfl rfl rfl (Q2 (JK rfl)) rfl ?_
 refine RunA.nil ⟨?ex, _, _, rfl, ?_⟩
 case ex => exact ⟨⟨_, rfl, _, _, rfl, rfl, rfl, .inl ⟨rfl, _, Q2 (Qt rfl), rfl⟩⟩, ⟨_, rfl, _, _, rfl, rfl, rfl, .inl ⟨rfl, _, Q2 (Jx rfl), rfl⟩⟩, ⟨_, rfl, _, _, rfl, rfl, rfl, .inl ⟨rfl, _, Q2 (Q1 K3 rfl), rfl⟩⟩, ⟨_, rfl, _, _, rfl, rfl, rfl, .inl ⟨rfl, _, Q2 (Q6 YA rfl rfl rfl), rfl⟩⟩, ⟨_, rfl, _, _, rfl, rfl, rfl, .inl ⟨rfl, _, Q2 (Q1 GQ rfl), rfl⟩⟩, ⟨_, rfl, _, _, rfl, rfl, rfl, .inl ⟨rfl, _, Q2 (Q6 JG rfl rfl rfl), rfl⟩⟩, ⟨_, rfl, _, _, rfl, rfl, rfl, .inl ⟨rfl, _, Q2 (Zz (M := a5) (k := x39.ctor) YL Kh rfl rfl rfl), rfl⟩⟩, ⟨_, rfl, _, _, rfl, rfl, rfl, .inl ⟨rfl, _, Q2 (Qt rfl), rfl⟩⟩, ⟨_, rfl, _, _, rfl, rfl, rfl, .inl ⟨rfl, _, Q2 (Jg rfl rfl), rfl⟩⟩, ⟨_, rfl, _, _, rfl, rfl, rfl, .inl ⟨rfl, _, Q2 (Jg rfl rfl), rfl⟩⟩, ⟨_, rfl, _, _, rfl, rfl, rfl, .inl ⟨rfl, _, Q2 (Jg rfl rfl), rfl⟩⟩, trivial⟩
 refine JX (st' := ⟨[(0, .v (.one (.ptr 0 0))), (2, .v (.one (Ux a1))), (3, .v (.one (Ux a2))), (4, .v (.one (Ux a3))), (5, .v (.one (.mp 2))), (13, .v (.one (.ptr 4 0))), (14, .v (.one (.ptr 5 0))), (15, .v (.one (Uy (KR a5 x39.ctor)))), (65, .v (.one (Uv a0.branches))), (66, .v (.one (Ux (a0.branches.length : Int)))), (67, .v (.one (Ux s1)))], m48f11_h3 a4 a5 a6 a0 x39, [], 6, 134, []⟩) (Qu (Ua rfl) (hA rfl) Un rfl (Nat.le_trans hv0 (Um rfl)) rfl rfl rfl (UF rfl rfl (UE rfl (UE rfl (UG rfl)))) rfl rfl) <| Q3 <| Q5 ?_
 refine QS (fun (v40 : Unit) => ⟨[(0, .v (.one (.ptr 0 0))), (2, .v (.one (Ux a1))), (3, .v (.one (Ux a2))), (4, .v (.one (Ux a3))), (5, .v (.one (.mp 2))), (13, .v (.one (.ptr 4 0))), (14, .v (.one (.ptr 5 0))), (65, .v (.one (Uv a0.branches))), (66, .v (.one (Ux (a0.branches.length : Int)))), (67, .v (.one (Ux s1)))], m48f11_h3 a4 a5 a6 a0 x39, [], 6, 134, []⟩) (fun (v40 : Unit) => (m48f11_k0 x39 s1 a4 a5 rc a1 a2 a3 a6) = some oo1) ?_ ?_
 refine Qb h1 (fun w2_ h2 h1 => ?_)
 refine Q0 <| Uf rfl rfl rfl <| Uf rfl rfl rfl ?_
 refine QG (d := 82) (c := (KR a5 x39.ctor)) rfl (fun c41 => ?_) (fun c41 => ?_)
 replace h2 := Qk c41 h2
 refine Ue rfl rfl rfl (Q1 ZH rfl) <| Ue rfl rfl rfl (Q6 QZ rfl rfl rfl) <| Ue rfl rfl rfl (Q7 rfl rfl rfl) <| Ue rfl rfl rfl (Qh rfl rfl) ?_
 refine Qb h2 (fun x42 hx42 h2 => ?_)
 refine JY id hx42 h2 (fun x43 hx43 h2 => ?_) (fun x44 hx44 h2 => ?_)
 refine Q9 rfl rfl (Um rfl) (QE rfl rfl rfl (CallE.m (QB (((Qp a5 x39.ctor).kind) == 4) 9 (.inl x43) hx43)) rfl) <| Q4 ?_
 have e := Uc h2; subst e
 replace h1 := Kz h1
 exact Qc () (Qu (Ua rfl) (hA rfl) Un rfl (Nat.le_trans hv0 (Um rfl)) rfl rfl rfl (UF rfl rfl (UE rfl (UE rfl (UG rfl)))) rfl rfl) h1
 refine Jd rfl (QH rfl rfl rfl (CallE.d (QB (((Qp a5 x39.ctor).kind) == 4) 9 (.inr x44) hx44))) ?_
 have e := Uc h2; subst e
 replace h1 := KX h1
 have e := Uc h1; subst e
 have e_ : _ = _ := ho1
 subst e_
 try dsimp only [Sum.elim_inl, Sum.elim_inr] at h0
 have e := Uc h0; subst e
 exact Jn (hQ0 (.panic (Jz (QJ 90 9))) _ ZP rfl (show StLe _ _ ⟨[], QX a4 a5 a6, [], 4, 134, []⟩ from (Qu U9 (hA rfl) Un rfl (Nat.le_trans hv0 (Um rfl)) rfl rfl rfl (UF rfl rfl (UE rfl (UE rfl UD))) rfl rfl))) (fun _ _ h => h)
 replace h2 := Ql c41 h2
 refine Q8 rfl rfl <| Q8 rfl rfl <| Q8 rfl rfl <| Ue rfl rfl rfl (Qd rfl rfl) ?_
 refine Qb h2 (fun x45 hx45 h2 => ?_)
 refine JY id hx45 h2 (fun x46 hx46 h2 => ?_) (fun x47 hx47 h2 => ?_)
 refine Q9 rfl rfl (Um rfl) (QE rfl rfl rfl (CallE.m (QB false 9 (.inl x46) hx46)) rfl) <| Q4 ?_
 have e := Uc h2; subst e
 replace h1 := Kz h1
 exact Qc () (Qu (Ua rfl) (hA rfl) Un rfl (Nat.le_trans hv0 (Um rfl)) rfl rfl rfl (UF rfl rfl (UE rfl (UE rfl (UG rfl)))) rfl rfl) h1
 refine Jd rfl (QH rfl rfl rfl (CallE.d (QB false 9 (.inr x47) hx47))) ?_
 have e := Uc h2; subst e
 replace h1 := KX h1
 have e := Uc h1; subst e
 have e_ : _ = _ := ho1
 subst e_
 try dsimp only [Sum.elim_inl, Sum.elim_inr] at h0
 have e := Uc h0; subst e
 exact Jn (hQ0 (.panic (Jz (QJ 90 9))) _ ZP rfl (show StLe _ _ ⟨[], QX a4 a5 a6, [], 4, 134, []⟩ from (Qu U9 (hA rfl) Un rfl (Nat.le_trans hv0 (Um rfl)) rfl rfl rfl (UF rfl rfl (UE rfl (UE rfl UD))) rfl rfl))) (fun _ _ h => h)
 intro v40 h1
 unfold m48f11_k0 at h1
 refine Q3 <| Q5 <| Q5 <| Q0 <| Ue rfl rfl rfl (Q1 fo_101_1 rfl) <| Ue rfl rfl rfl (Q6 WC rfl rfl rfl) <| Q4 <| Q3 ?_
 refine Qg (b := x39.absurd) rfl (fun c48 => ?_) (fun c48 => ?_)
 replace h1 := Qk c48 h1
 refine Q5 <| Q0 <| Ue rfl rfl rfl (Q1 GP rfl) <| Ue rfl rfl rfl (Qi X9 rfl rfl rfl rfl) <| Q9 rfl rfl (Um rfl) (Qm z_74 rfl) <| Qy rfl rfl (QC (x39.tree : Tr) X9 rfl rfl rfl rfl rfl) <| Q4 <| Q3 <| Q5 ?_
 refine QS (fun (v49 : Unit) => ⟨[(0, .v (.one (.ptr 0 0))), (2, .v (.one (Ux a1))), (3, .v (.one (Ux a2))), (4, .v (.one (Ux a3))), (5, .v (.one (.mp 2))), (65, .v (.one (Uv a0.branches))), (66, .v (.one (Ux (a0.branches.length : Int)))), (67, .v (.one (Ux s1)))], m48f11_h4 a4 a5 a6 a0 x39, [], 7, 134, []⟩) (fun (v49 : Unit) => (some (.next (Jk (s1 + 1)))) = some oo1) ?_ ?_
 refine Qb h1 (fun w2_ h2 h1 => ?_)
 refine Q0 <| Ue rfl rfl rfl (Q1 XG rfl) <| Ue rfl rfl rfl (Q6 QZ rfl rfl rfl) <| Ue rfl rfl rfl (Q7 rfl rfl rfl) <| Uf rfl rfl rfl ?_
 refine QG (d := 95) (c := (x39.tree.kind == 0)) rfl (fun c50 => ?_) (fun c50 => ?_)
 replace h2 := Qk c50 h2
 refine Ue rfl rfl rfl (Q1 fo_74_2 rfl) <| Ue rfl rfl rfl (Q6 QZ rfl rfl rfl) <| Ue rfl rfl rfl (Q7 rfl rfl rfl) <| Ue rfl rfl rfl (Qh rfl rfl) <| Uf rfl rfl rfl ?_
 refine QG (d := 100) (c := (x39.tree.var == 0)) rfl (fun c51 => ?_) (fun c51 => ?_)
 replace h2 := Qk c51 h2
 refine Ue rfl rfl rfl (Q1 Za rfl) <| Ue rfl rfl rfl (Q6 Gd rfl rfl rfl) <| Ue rfl rfl rfl (Qx (α := UO) Kx rfl (.d _)) <| Ue rfl rfl rfl (Q7 rfl rfl rfl) <| Ue rfl rfl rfl (Qh rfl rfl) <| Uf rfl rfl rfl ?_
 refine QG (d := 106) (c := ((x39.tree.branches.length : Int) == 0)) rfl (fun c52 => ?_) (fun c52 => ?_)
 replace h2 := Qk c52 h2
 refine Ue rfl rfl rfl (Q1 X0 rfl) <| Ue rfl rfl rfl (Qi QW rfl rfl rfl rfl) ?_
 refine Qb h2 (fun x53 hx53 h2 => ?_)
 refine Q9 rfl rfl (Um rfl) (Qo (Wc x39.tree.body x53 hx53) rfl (.cons (.agg (.cons (.d _) (.cons (.d _) (.cons (.d _) (.cons (.d _) (.cons (.d _) .nil)))))) .nil)) <| Ue rfl rfl rfl (Qh rfl rfl) ?_
 refine Qb h2 (fun x54 hx54 h2 => ?_)
 refine JY id hx54 h2 (fun x55 hx55 h2 => ?_) (fun x56 hx56 h2 => ?_)
 refine Q9 rfl rfl (Um rfl) (QE rfl rfl rfl (CallE.m (QB x53 3 (.inl x55) hx55)) rfl) <| Q4 ?_
 have e := Uc h2; subst e
 replace h1 := Kz h1
 exact Qc () (Qu (Ua rfl) (hA rfl) Un rfl (Nat.le_trans hv0 (Um rfl)) rfl rfl rfl (UF rfl rfl (UE rfl (UE rfl (UG rfl)))) rfl rfl) h1
 refine Jd rfl (QH rfl rfl rfl (CallE.d (QB x53 3 (.inr x56) hx56))) ?_
 have e := Uc h2; subst e
 replace h1 := KX h1
 have e := Uc h1; subst e
 have e_ : _ = _ := ho1
 subst e_
 try dsimp only [Sum.elim_inl, Sum.elim_inr] at h0
 have e := Uc h0; subst e
 exact Jn (hQ0 (.panic (Jz (QJ 90 3))) _ ZP rfl (show StLe _ _ ⟨[], QX a4 a5 a6, [], 4, 134, []⟩ from (Qu U9 (hA rfl) Un rfl (Nat.le_trans hv0 (Um rfl)) rfl rfl rfl (UF rfl rfl (UE rfl (UE rfl UD))) rfl rfl))) (fun _ _ h => h)
 replace h2 := Ql c52 h2
 refine Q8 rfl rfl <| Q8 rfl rfl <| Q8 rfl rfl <| Ue rfl rfl rfl (Qd rfl rfl) ?_
 refine Qb h2 (fun x57 hx57 h2 => ?_)
 refine JY id hx57 h2 (fun x58 hx58 h2 => ?_) (fun x59 hx59 h2 => ?_)
 refine Q9 rfl rfl (Um rfl) (QE rfl rfl rfl (CallE.m (QB false 3 (.inl x58) hx58)) rfl) <| Q4 ?_
 have e := Uc h2; subst e
 replace h1 := Kz h1
 exact Qc () (Qu (Ua rfl) (hA rfl) Un rfl (Nat.le_trans hv0 (Um rfl)) rfl rfl rfl (UF rfl rfl (UE rfl (UE rfl (UG rfl)))) rfl rfl) h1
 refine Jd rfl (QH rfl rfl rfl (CallE.d (QB false 3 (.inr x59) hx59))) ?_
 have e := Uc h2; subst e
 replace h1 := KX h1
 have e := Uc h1; subst e
 have e_ : _ = _ := ho1
 subst e_
 try dsimp only [Sum.elim_inl, Sum.elim_inr] at h0
 have e := Uc h0; subst e
 exact Jn (hQ0 (.panic (Jz (QJ 90 3))) _ ZP rfl (show StLe _ _ ⟨[], QX a4 a5 a6, [], 4, 134, []⟩ from (Qu U9 (hA rfl) Un rfl (Nat.le_trans hv0 (Um rfl)) rfl rfl rfl (UF rfl rfl (UE rfl (UE rfl UD))) rfl rfl))) (fun _ _ h => h)
 replace h2 := Ql c51 h2
 refine Q8 rfl rfl <| Q8 rfl rfl <| Q8 rfl rfl <| Q8 rfl rfl <| Ue rfl rfl rfl (Qd rfl rfl) <| Uf rfl rfl rfl <| Q8 rfl rfl <| Q8 rfl rfl <| Q8 rfl rfl <| Ue rfl rfl rfl (Qd rfl rfl) ?_
 refine Qb h2 (fun x60 hx60 h2 => ?_)
 refine JY id hx60 h2 (fun x61 hx61 h2 => ?_) (fun x62 hx62 h2 => ?_)
 refine Q9 rfl rfl (Um rfl) (QE rfl rfl rfl (CallE.m (QB false 3 (.inl x61) hx61)) rfl) <| Q4 ?_
 have e := Uc h2; subst e
 replace h1 := Kz h1
 exact Qc () (Qu (Ua rfl) (hA rfl) Un rfl (Nat.le_trans hv0 (Um rfl)) rfl rfl rfl (UF rfl rfl (UE rfl (UE rfl (UG rfl)))) rfl rfl) h1
 refine Jd rfl (QH rfl rfl rfl (CallE.d (QB false 3 (.inr x62) hx62))) ?_
 have e := Uc h2; subst e
 replace h1 := KX h1
 have e := Uc h1; subst e
 have e_ : _ = _ := ho1
 subst e_
 try dsimp only [Sum.elim_inl, Sum.elim_inr] at h0
 have e := Uc h0; subst e
 exact Jn (hQ0 (.panic (Jz (QJ 90 3))) _ ZP rfl (show StLe _ _ ⟨[], QX a4 a5 a6, [], 4, 134, []⟩ from (Qu U9 (hA rfl) Un rfl (Nat.le_trans hv0 (Um rfl)) rfl rfl rfl (UF rfl rfl (UE rfl (UE rfl UD))) rfl rfl))) (fun _ _ h => h)
 replace h2 := Ql c50 h2
 refine Q8 rfl rfl <| Q8 rfl rfl <| Q8 rfl rfl <| Ue rfl rfl rfl (Qd rfl rfl) <| Uf rfl rfl rfl <| Q8 rfl rfl <| Q8 rfl rfl <| Q8 rfl rfl <| Q8 rfl rfl <| Ue rfl rfl rfl (Qd rfl rfl) <| Uf rfl rfl rfl <| Q8 rfl rfl <| Q8 rfl rfl <| Q8 rfl rfl ?_
 refine Ue rfl rfl rfl (Qd rfl rfl) ?_
 refine Qb h2 (fun x63 hx63 h2 => ?_)
 refine JY id hx63 h2 (fun x64 hx64 h2 => ?_) (fun x65 hx65 h2 => ?_)
 refine Q9 rfl rfl (Um rfl) (QE rfl rfl rfl (CallE.m (QB false 3 (.inl x64) hx64)) rfl) <| Q4 ?_
 have e := Uc h2; subst e
 replace h1 := Kz h1
 exact Qc () (Qu (Ua rfl) (hA rfl) Un rfl (Nat.le_trans hv0 (Um rfl)) rfl rfl rfl (UF rfl rfl (UE rfl (UE rfl (UG rfl)))) rfl rfl) h1
 refine Jd rfl (QH rfl rfl rfl (CallE.d (QB false 3 (.inr x65) hx65))) ?_
 have e := Uc h2; subst e
 replace h1 := KX h1
 have e := Uc h1; subst e
 have e_ : _ = _ := ho1
 subst e_
 try dsimp only [Sum.elim_inl, Sum.elim_inr] at h0
 have e := Uc h0; subst e
 exact Jn (hQ0 (.panic (Jz (QJ 90 3))) _ ZP rfl (show StLe _ _ ⟨[], QX a4 a5 a6, [], 4, 134, []⟩ from (Qu U9 (hA rfl) Un rfl (Nat.le_trans hv0 (Um rfl)) rfl rfl rfl (UF rfl rfl (UE rfl (UE rfl UD))) rfl rfl))) (fun _ _ h => h)
 intro v49 h1
 refine Q3 <| J1 <| Qn <| QF <| Q3 <| Q0 <| Ue rfl rfl rfl (Q7 rfl rfl rfl) <| Uf rfl rfl rfl <| Q4 ?_
 have e := Uc h1; subst e
 refine QM (Jk (s1 + 1)) (Qu (Ua rfl) (hA rfl) Un rfl (Nat.le_trans hv0 (Um rfl)) rfl rfl rfl (UF rfl rfl (UE rfl (UE rfl (UG rfl)))) rfl rfl) ho1
 replace h1 := Ql c48 h1
 refine Qj <| Q3 ?_
 refine Jv [20] [] YI (by kernel_rfl) (by kernel_rfl) (by kernel_rfl) ?_
 refine RunA.rd rfl rfl rfl (Q2 (Qt rfl)) rfl <| RunA.rd rfl rfl rfl (Q2 (Q1 GP rfl)) rfl <| RunA.rd rfl rfl rfl (Q2 (Qi X9 rfl rfl rfl rfl)) rfl <| RunA.rd rfl rfl rfl (Q2 (Qt rfl)) rfl <| RunA.rd rfl rfl rfl (Q2 (Qt rfl)) rfl <| RunA.rd rfl rfl rfl (Q2 (Jx rfl)) rfl <| RunA.rd rfl rfl rfl (Q2 (Q1 fo_62_0 rfl)) rfl <| RunA.rd rfl rfl rfl (Q2 (Q6 ag_22 rfl rfl rfl)) rfl <| RunA.rd rfl rfl rfl (Q2 (Q1 XH rfl)) rfl <| RunA.rd rfl rfl rfl (Q2 (Q6 QZ rfl rfl rfl)) rfl ?_
 refine Qb h1 (fun x66 hx66 h1 => ?_)
 refine RunA.rd rfl rfl rfl (Q2 (Qq (α := Dcl) Ke rfl (.d _) rfl hx66)) rfl <| RunA.rd rfl rfl rfl (Q2 (Qv (x66 : Dcl) JS rfl)) rfl <| RunA.rd rfl rfl rfl (Q2 (Q1 fo_35_2 rfl)) rfl <| RunA.rd rfl rfl rfl (Q2 (Q6 QZ rfl rfl rfl)) rfl ?_
 refine Qb h1 (fun x67 hx67 h1 => ?_)
 refine RunA.rd rfl rfl rfl (Qo (m68_ok x66 ((Qp a5 x39.ctor).item) x67 hx67) rfl (.cons (.agg (.cons (.d _) (.cons (.d _) (.cons (.d _) (.cons (.d _) (.cons (.d _) (.cons (.d _) (.cons (.d _) (.cons (.d _) (.cons (.d _) (.cons (.d _) (.cons (.d _) (.cons (.d _) (.cons (.d _) (.cons (.d _) (.cons (.d _) (.cons (.d _) (.cons (.d _) (.cons (.d _) (.cons (.d _) (.cons (.d _) (.cons (.d _) (.cons (.d _) (.cons (.d _) .nil)))))))))))))))))))))))) (.cons (.one (.d _)) .nil))) rfl <| RunA.rd rfl rfl rfl (Q2 (Q7 rfl rfl rfl)) rfl <| RunA.rd rfl rfl rfl (Q2 (Qt rfl)) rfl <| RunA.rd rfl rfl rfl (Q2 (Q7 rfl rfl rfl)) rfl <| RunA.rd rfl rfl rfl (Q2 (Qt rfl)) rfl <| RunA.rd rfl rfl rfl (Q2 (Qt rfl)) rfl ?_
 refine Qb h1 (fun x68 hx68 h1 => ?_)
 refine JY id hx68 h1 (fun x69 hx69 h1 => ?_) (fun x70 hx70 h1 => ?_)
 refine RunA.eff rfl rfl rfl (J4 (hp1' := [(0, .cells 62 [Uv a4, .mp 1]), (1, .mp (QO a5.1) a5.2), (2, .mp (QO a6.1) a6.2)]) (tk1' := []) (hpF := m48f11_h5 a0 x39 a5) (tkF := []) (res2 := QD []) (nx2 := 7) [0, 1, 2] rfl rfl (CallE.m (H x39.tree (Jk (a1 + x67)) (Jk (a2 + 1)) a3 a4 a5 a6 (.inl x69) hx69)) rfl rfl (Uj rfl rfl (Ui rfl (Ui rfl Uh))) rfl rfl (Ut rfl (Uu rfl (Uu rfl Us))) Up (hA rfl) Un rfl rfl rfl rfl rfl (UF rfl rfl (UE rfl (UE rfl UD))) rfl rfl rfl rfl) rfl ?_
 refine RunA.nil ⟨?ex, _, _, rfl, ?_⟩
 case ex => exact trivial
 refine JX (st' := ⟨[(0, .v (.one (.ptr 0 0))), (2, .v (.one (Ux a1))), (3, .v (.one (Ux a2))), (4, .v (.one (Ux a3))), (5, .v (.one (.mp 2))), (65, .v (.one (Uv a0.branches))), (66, .v (.one (Ux (a0.branches.length : Int)))), (67, .v (.one (Ux s1)))], m48f11_h3 a4 a5 a6 a0 x39, [], 7, 134, []⟩) (Qu (Ua rfl) (hA rfl) Un rfl (Nat.le_trans hv0 (Um rfl)) rfl rfl rfl (UF rfl rfl (UE rfl (UE rfl (UG rfl)))) rfl rfl) <| Qe <| Q3 <| Q0 <| Ue rfl rfl rfl (Q7 rfl rfl rfl) <| Uf rfl rfl rfl <| Q4 ?_
 have e := Uc h1; subst e
 refine QM (Jk (s1 + 1)) (Qu (Ua rfl) (hA rfl) Un rfl (Nat.le_trans hv0 (Um rfl)) rfl rfl rfl (UF rfl rfl (UE rfl (UE rfl (UG rfl)))) rfl rfl) ho1
 refine RunA.die rfl rfl rfl (DieOp.mk rfl rfl (Yy (hp1' := [(0, .cells 62 [Uv a4, .mp 1]), (1, .mp (QO a5.1) a5.2), (2, .mp (QO a6.1) a6.2)]) (tk1' := []) (hpF := m48f11_h5 a0 x39 a5) (tkF := []) (nx2 := 7) [0, 1, 2] rfl rfl (CallE.d (H x39.tree (Jk (a1 + x67)) (Jk (a2 + 1)) a3 a4 a5 a6 (.inr x70) hx70)) rfl rfl (Uj rfl rfl (Ui rfl (Ui rfl Uh))) rfl (Ut rfl (Uu rfl (Uu rfl Us))) Up (hA rfl) Un rfl rfl rfl rfl rfl (UF rfl rfl (UE rfl (UE rfl UD))) rfl rfl rfl rfl) ?pk) ⟨?ex, _, _, rfl, XQ.bad⟩
 case ex => exact trivial
 have e := Uc h1; subst e
 have e_ : _ = _ := ho1
 subst e_
 try dsimp only [Sum.elim_inl, Sum.elim_inr] at h0
 have e := Uc h0; subst e
 exact Jn (hQ0 (.panic (Jz (QJ 90 x70))) _ ZP rfl (show StLe _ _ ⟨[], QX a4 a5 a6, [], 4, 134, []⟩ from (Qu U9 (hA rfl) Un rfl (Nat.le_trans hv0 (Um rfl)) rfl rfl rfl (UF rfl rfl (UE rfl (UE rfl UD))) rfl rfl))) (fun _ _ h => h)
 replace h1 := Ql c38 h1
 refine J1 <| Qn <| Qn ?_
 have e := Uc h1; subst e
 have e_ : _ = _ := ho1
 subst e_
 exact QP () (Qu U9 (hA rfl) Un rfl (Nat.le_trans hv0 (Um rfl)) rfl rfl rfl (UF rfl rfl (UE rfl (UE rfl (UG rfl)))) rfl rfl) h0
 intro o36 h0
 refine QF ?_
 have e := Uc h0; subst e
 exact hQ0 _ _ WW rfl (show StLe _ _ ⟨[], QX a4 a5 a6, [], 4, 134, []⟩ from (Qu U9 (hA rfl) Un rfl (Nat.le_trans hv0 (Um rfl)) rfl rfl rfl (UF rfl rfl (UE rfl (UE rfl UD))) rfl rfl))
 refine Jd rfl (QH rfl rfl rfl (CallE.d (QB (decide ((a0.branches.length : Int) ≤ 32)) 6 (.inr x35) hx35))) ?_
 have e := Uc h0; subst e
 exact Jn (hQ0 (.panic (Jz (QJ 90 6))) _ ZP rfl (show StLe _ _ ⟨[], QX a4 a5 a6, [], 4, 134, []⟩ from (Qu U9 (hA rfl) Un rfl (Nat.le_trans hv0 (Um rfl)) rfl rfl rfl (UF rfl rfl (UE rfl (UE rfl UD))) rfl rfl))) (fun _ _ h => h)
 refine Jd rfl (QH rfl rfl rfl (CallE.d (QB (decide (a2 < 200)) 7 (.inr x3) hx3))) ?_
 have e := Uc h0; subst e
 exact Jn (hQ0 (.panic (Jz (QJ 90 7))) _ ZP rfl (show StLe _ _ ⟨[], QX a4 a5 a6, [], 4, 134, []⟩ from (Qu U9 (hA rfl) Un rfl (Nat.le_trans hv0 (Um rfl)) rfl rfl rfl (UF rfl rfl (UE rfl (UE rfl UD))) rfl rfl))) (fun _ _ h => h)
theorem m48f11_all (n : Nat) (u : Tr × Int × Int × Int × (List Dcl) × (Qa UN Ent) × (Qa UN Ent)) (r : Unit ⊕ Int) (h0 : Yt m48f11F n u = some r) : CallE Try.prog 48 [.one (.ptr 0 0), .agg (UA u.1), .one (Ux u.2.1), .one (Ux u.2.2.1), .one (Ux u.2.2.2.1), .one (.mp 2)] ⟨QX u.2.2.2.2.1 u.2.2.2.2.2.1 u.2.2.2.2.2.2, [], 3⟩ ((Sum.elim (fun (r0 : Unit) => ((.ret []) : EK)) (fun (r1 : Int) => ((.pan (QJ 90 r1)) : EK))) r) ⟨((Sum.elim (fun (r0 : Unit) => (⟨[], QX u.2.2.2.2.1 u.2.2.2.2.2.1 u.2.2.2.2.2.2, [], 4, 134, []⟩ : St)) (fun (r1 : Int) => (⟨[], QX u.2.2.2.2.1 u.2.2.2.2.2.1 u.2.2.2.2.2.2, [], 4, 134, []⟩ : St))) r).hp, ((Sum.elim (fun (r0 : Unit) => (⟨[], QX u.2.2.2.2.1 u.2.2.2.2.2.1 u.2.2.2.2.2.2, [], 4, 134, []⟩ : St)) (fun (r1 : Int) => (⟨[], QX u.2.2.2.2.1 u.2.2.2.2.2.1 u.2.2.2.2.2.2, [], 4, 134, []⟩ : St))) r).tk, ((Sum.elim (fun (r0 : Unit) => (⟨[], QX u.2.2.2.2.1 u.2.2.2.2.2.1 u.2.2.2.2.2.2, [], 4, 134, []⟩ : St)) (fun (r1 : Int) => (⟨[], QX u.2.2.2.2.1 u.2.2.2.2.2.1 u.2.2.2.2.2.2, [], 4, 134, []⟩ : St))) r).nx⟩ :=
 YB (C := fun u r => CallE Try.prog 48 [.one (.ptr 0 0), .agg (UA u.1), .one (Ux u.2.1), .one (Ux u.2.2.1), .one (Ux u.2.2.2.1), .one (.mp 2)] ⟨QX u.2.2.2.2.1 u.2.2.2.2.2.1 u.2.2.2.2.2.2, [], 3⟩ ((Sum.elim (fun (r0 : Unit) => ((.ret []) : EK)) (fun (r1 : Int) => ((.pan (QJ 90 r1)) : EK))) r) ⟨((Sum.elim (fun (r0 : Unit) => (⟨[], QX u.2.2.2.2.1 u.2.2.2.2.2.1 u.2.2.2.2.2.2, [], 4, 134, []⟩ : St)) (fun (r1 : Int) => (⟨[], QX u.2.2.2.2.1 u.2.2.2.2.2.1 u.2.2.2.2.2.2, [], 4, 134, []⟩ : St))) r).hp, ((Sum.elim (fun (r0 : Unit) => (⟨[], QX u.2.2.2.2.1 u.2.2.2.2.2.1 u.2.2.2.2.2.2, [], 4, 134, []⟩ : St)) (fun (r1 : Int) => (⟨[], QX u.2.2.2.2.1 u.2.2.2.2.2.1 u.2.2.2.2.2.2, [], 4, 134, []⟩ : St))) r).tk, ((Sum.elim (fun (r0 : Unit) => (⟨[], QX u.2.2.2.2.1 u.2.2.2.2.2.1 u.2.2.2.2.2.2, [], 4, 134, []⟩ : St)) (fun (r1 : Int) => (⟨[], QX u.2.2.2.2.1 u.2.2.2.2.2.1 u.2.2.2.2.2.2, [], 4, 134, []⟩ : St))) r).nx⟩) (fun rc H u r h => m48f11s_ok rc (fun a0 a1 a2 a3 a4 a5 a6 r h => H (a0, a1, a2, a3, a4, a5, a6) r h) u.1 u.2.1 u.2.2.1 u.2.2.2.1 u.2.2.2.2.1 u.2.2.2.2.2.1 u.2.2.2.2.2.2 r h) n u r h0
theorem m48f11_ok (a0 : Tr) (a1 : Int) (a2 : Int) (a3 : Int) (a4 : List Dcl) (a5 : Qa UN Ent) (a6 : Qa UN Ent) (r : Unit ⊕ Int) (h0 : m48f11 a0 a1 a2 a3 a4 a5 a6 = some r) : CallE Try.prog 48 [.one (.ptr 0 0), .agg (UA a0), .one (Ux a1), .one (Ux a2), .one (Ux a3), .one (.mp 2)] ⟨QX a4 a5 a6, [], 3⟩ ((Sum.elim (fun (r0 : Unit) => ((.ret []) : EK)) (fun (r1 : Int) => ((.pan (QJ 90 r1)) : EK))) r) ⟨((Sum.elim (fun (r0 : Unit) => (⟨[], QX a4 a5 a6, [], 4, 134, []⟩ : St)) (fun (r1 : Int) => (⟨[], QX a4 a5 a6, [], 4, 134, []⟩ : St))) r).hp, ((Sum.elim (fun (r0 : Unit) => (⟨[], QX a4 a5 a6, [], 4, 134, []⟩ : St)) (fun (r1 : Int) => (⟨[], QX a4 a5 a6, [], 4, 134, []⟩ : St))) r).tk, ((Sum.elim (fun (r0 : Unit) => (⟨[], QX a4 a5 a6, [], 4, 134, []⟩ : St)) (fun (r1 : Int) => (⟨[], QX a4 a5 a6, [], 4, 134, []⟩ : St))) r).nx⟩ := m48f11_all J2 (a0, a1, a2, a3, a4, a5, a6) r h0
end Go.Proofs.Ytafddfoefeploaa
namespace Go.Proofs.Ytafddfoefeploaa
open Go.RowKit Go.Shelf
set_option linter.unusedSimpArgs false
set_option linter.unusedVariables false
theorem en_30 : J3 Try.prog 30 := enters_of Try.func30 (by kernel_rfl) rfl
noncomputable def m30f4_l0 (a0 : Dcl) (a1 : List Dcl) (a2 : Qa UN Ent) (v10 : (Qa UN Ent)) (s1 : Int) : Option (LO Int (Unit ⊕ Int)) :=
 cond (decide (s1 < (a0.funs.length : Int)))
   (Option.bind (Yi a0.funs s1) fun (x13 : Fn) =>
 Option.bind (X6 x13.ty 0 a0.params a1 a2 v10) (Sum.elim (fun (x15 : Unit) => some (.next (Jk (s1 + 1)))) (fun (x16 : Int) => some (.done (.inr x16)))))
   (some (.done (.inl ())))
noncomputable def m30f4_l1 (a0 : Dcl) (a1 : List Dcl) (s2 : Int × (Qa UN Ent)) : Option (LO (Int × (Qa UN Ent)) (((Qa UN Ent)))) :=
 cond (decide (s2.1 < (a0.ctors.length : Int)))
   (Option.bind (Yi a0.ctors s2.1) fun (x28 : Ctr) =>
 Option.bind (some ()) (fun (y29 : Unit) => some (.next ((Jk (s2.1 + 1)), (J5 s2.2 x28.name (⟨4, (a1.length : Int), s2.1, a0.params, x28.ty⟩ : Ent))))))
   (some (.done s2.2))
noncomputable def m30f4_k2 (p0_ : Dcl) (p1_ : (Qa UN Ent)) (p2_ : List Dcl) : Option (((Qa UN Ent))) :=
 J8 (Nat.ble (p0_.name.length + ([46, 114, 101, 99] : List UInt8).length) 1000000000)
 (Option.bind (some ()) (fun (b0_ : Unit) => some (J5 p1_ (p0_.name ++ ([46, 114, 101, 99] : List UInt8)) (⟨5, (p2_.length : Int), 0, p0_.rcr.params, p0_.rcr.ty⟩ : Ent))))
noncomputable def m30f4_l3 (a0 : Dcl) (a1 : List Dcl) (s2 : Int × (Qa UN Ent)) : Option (LO (Int × (Qa UN Ent)) (((Qa UN Ent)))) :=
 cond (decide (s2.1 < (a0.funs.length : Int)))
   (Option.bind (Yi a0.funs s2.1) fun (x40 : Fn) =>
 Option.bind (some ()) (fun (y41 : Unit) => some (.next ((Jk (s2.1 + 1)), (J5 s2.2 x40.name (⟨6, (a1.length : Int), s2.1, a0.params, x40.ty⟩ : Ent))))))
   (some (.done s2.2))
noncomputable def m30f4_k4 (p0_ : Bool) (p1_ : Dcl) (p2_ : (Qa UN Ent)) (p3_ : List Dcl) : Option (((Qa UN Ent))) :=
 cond p0_
   (Option.bind (Yi ([0, 1, 2]) p1_.kind) fun (b0_ : Int) =>
 Option.bind (some ()) (fun (b1_ : Unit) => some (J5 p2_ p1_.name (⟨b0_, (p3_.length : Int), 0, p1_.params, p1_.ty⟩ : Ent))))
   (cond (p1_.kind == 3)
   (Option.bind (some ()) (fun (b2_ : Unit) => Option.bind (QV (m30f4_l1 p1_ p3_) J2 (0, (J5 p2_ p1_.name (⟨3, (p3_.length : Int), 0, p1_.params, p1_.ty⟩ : Ent)))) (fun (b3_ : (Qa UN Ent)) => m30f4_k2 p1_ b3_ p3_)))
   (cond (p1_.kind == 4)
   (Option.bind (QV (m30f4_l3 p1_ p3_) J2 (0, p2_)) (fun (b4_ : (Qa UN Ent)) => some b4_))
   (some p2_)))
noncomputable def m30f4_l5 (a0 : Dcl) (a1 : List Dcl) (a2 : Qa UN Ent) (y14 : (Qa UN Ent)) (s1 : Int) : Option (LO Int (Unit ⊕ Int)) :=
 cond (decide (s1 < (a0.funs.length : Int)))
   (Option.bind (Yi a0.funs s1) fun (x49 : Fn) =>
 Option.bind (m48f11 x49.tree x49.arity 0 a0.params a1 a2 y14) (Sum.elim (fun (x51 : Unit) => some (.next (Jk (s1 + 1)))) (fun (x52 : Int) => some (.done (.inr x52)))))
   (some (.done (.inl ())))
noncomputable def m30f4_k6 (p0_ : Dcl) (p1_ : (Qa UN Ent)) (p2_ : List Dcl) (p3_ : Qa UN Ent) : Option Int :=
 Option.bind (some ()) (fun (b0_ : Unit) => Option.bind (Option.bind (cond (p0_.kind == 0)
   (some (p0_.kind == 0))
   (cond (p0_.kind == 1)
   (some (p0_.kind == 1))
   (some (p0_.kind == 2)))) (fun (b1_ : Bool) => m30f4_k4 b1_ p0_ p1_ p2_)) (fun (b2_ : (Qa UN Ent)) => Option.bind (QV (m30f4_l5 p0_ p2_ p3_ b2_) J2 0) (Sum.elim (fun (b3_ : Unit) => some 0) (fun o => some o))))
noncomputable def m30f4_k7 (p0_ : Dcl) (p1_ : List Dcl) (p2_ : Qa UN Ent) : Option Int :=
 Option.bind (cond (p0_.kind == 3)
   (Option.bind (m47f10 p0_ p1_ p2_ gmNil) (Sum.elim (fun (b0_ : (Qa UN Ent)) => some (.inl b0_)) (fun (b1_ : Int × (Qa UN Ent)) => some (.inr b1_.1))))
   (some (.inl gmNil))) (Sum.elim (fun (b2_ : (Qa UN Ent)) => Option.bind (QV (m30f4_l0 p0_ p1_ p2_ b2_) J2 0) (Sum.elim (fun (b3_ : Unit) => m30f4_k6 p0_ b2_ p1_ p2_) (fun o => some o))) (fun o => some o))
noncomputable def m30f4_k8 (p0_ : Bool) (p1_ : Dcl) (p2_ : List Dcl) (p3_ : Qa UN Ent) : Option Int :=
 Option.bind (cond p0_
   (Option.bind (X6 p1_.value 0 p1_.params p2_ p3_ gmNil) (Sum.elim (fun (b0_ : Unit) => some (.inl ())) (fun (b1_ : Int) => some (.inr b1_))))
   (some (.inl ()))) (Sum.elim (fun (b2_ : Unit) => m30f4_k7 p1_ p2_ p3_) (fun o => some o))
noncomputable abbrev m30f4_h0  : HB :=
 .mp (QO (gmNil : Qa UN Ent).1) (gmNil : Qa UN Ent).2
noncomputable abbrev m30f4_h1 (p0_ : List Dcl) (p1_ : Qa UN Ent) (p2_ : Dcl) : List (Nat × HB) :=
 [(0, .cells 62 [Uv p0_, .mp 1]), (1, .mp (QO p1_.1) p1_.2), (2, .cells 45 (UA p2_)), (3, .cells 25 [Ux 0]), (6, m30f4_h0), (7, .cells 60 [.mp 6])]
noncomputable abbrev G6 (p0_ : Dcl) : List (Nat × HB) :=
 [(2, .cells 45 (UA p0_)), (3, .cells 25 [Ux 0]), (7, .cells 60 [.mp 6])]
noncomputable abbrev m30f4_h3 (p0_ : List Dcl) (p1_ : Qa UN Ent) (p2_ : Dcl) (p3_ : (Qa UN Ent)) : List (Nat × HB) :=
 [(0, .cells 62 [Uv p0_, .mp 1]), (1, .mp (QO p1_.1) p1_.2), (2, .cells 45 (UA p2_)), (3, .cells 25 [Ux 0]), (6, .mp (QO p3_.1) p3_.2), (7, .cells 60 [.mp 6])]
noncomputable abbrev m30f4_h4 (p0_ : Dcl) (p1_ : Fn) : List (Nat × HB) :=
 [(2, .cells 45 (UA p0_)), (3, .cells 25 [Ux 0]), (7, .cells 60 [.mp 6]), (8, .cells 76 (UA p1_))]
noncomputable abbrev G5 (p0_ : List Dcl) (p1_ : Qa UN Ent) (p2_ : Dcl) (p3_ : (Qa UN Ent)) : List (Nat × HB) :=
 [(0, .cells 62 [Uv p0_, .mp 1]), (1, .mp (QO p1_.1) p1_.2), (2, .cells 45 (UA p2_)), (3, .cells 25 [Ux 0]), (6, .mp (QO p3_.1) p3_.2), (7, .cells 60 [.mp 6]), (8, .cells 45 (UA p2_)), (9, .cells 3 [Ux (p0_.length : Int)])]
noncomputable abbrev Yz  : HB :=
 .loop .ready none [(0, .v (.one (.ptr 0 0))), (3, .v (.one (.ptr 2 0))), (4, .v (.one (.ptr 3 0))), (5, .v (.one (.ptr 7 0))), (72, .v (.one (.fn 49 [(9, 0), (8, 0)])))] 95 #[73, 74] K6 K5 10
noncomputable abbrev m30f4_h7 (p0_ : List Dcl) (p1_ : Qa UN Ent) (p2_ : Dcl) (p3_ : (Qa UN Ent)) : List (Nat × HB) :=
 [(0, .cells 62 [Uv p0_, .mp 1]), (1, .mp (QO p1_.1) p1_.2), (2, .cells 45 (UA p2_)), (3, .cells 25 [Ux 0]), (6, .mp (QO p3_.1) p3_.2), (7, .cells 60 [.mp 6]), (8, .cells 45 (UA p2_)), (9, .cells 3 [Ux (p0_.length : Int)]), (10, .obj (.deferred (some []))), (11, Yz)]
noncomputable abbrev KB (p0_ : List Dcl) (p1_ : Dcl) : HB :=
 .cells 35 [Ux 0, Ux (p0_.length : Int), Ux 0, Ux p1_.params, Ux p1_.ty.kind, Ux p1_.ty.index, Jl p1_.ty.name, Uv p1_.ty.levels, Uv p1_.ty.kids]
noncomputable abbrev m30f4_h9 (p0_ : List Dcl) (p1_ : Qa UN Ent) (p2_ : Dcl) (p3_ : (Qa UN Ent)) : List (Nat × HB) :=
 [(0, .cells 62 [Uv p0_, .mp 1]), (1, .mp (QO p1_.1) p1_.2), (2, .cells 45 (UA p2_)), (3, .cells 25 [Ux 0]), (6, .mp (QO p3_.1) p3_.2), (7, .cells 60 [.mp 6]), (8, .cells 45 (UA p2_)), (9, .cells 3 [Ux (p0_.length : Int)]), (10, .obj (.deferred (some []))), (11, Yz), (12, KB p0_ p2_)]
noncomputable abbrev Ku (p0_ : Int) (p1_ : List Dcl) (p2_ : Dcl) : HB :=
 .cells 35 [Ux p0_, Ux (p1_.length : Int), Ux 0, Ux p2_.params, Ux p2_.ty.kind, Ux p2_.ty.index, Jl p2_.ty.name, Uv p2_.ty.levels, Uv p2_.ty.kids]
noncomputable abbrev m30f4_h11 (p0_ : List Dcl) (p1_ : Qa UN Ent) (p2_ : Dcl) (p3_ : (Qa UN Ent)) (p4_ : Int) : List (Nat × HB) :=
 [(0, .cells 62 [Uv p0_, .mp 1]), (1, .mp (QO p1_.1) p1_.2), (2, .cells 45 (UA p2_)), (3, .cells 25 [Ux 0]), (6, .mp (QO p3_.1) p3_.2), (7, .cells 60 [.mp 6]), (8, .cells 45 (UA p2_)), (9, .cells 3 [Ux (p0_.length : Int)]), (10, .obj (.deferred (some []))), (11, Yz), (12, Ku p4_ p0_ p2_)]
noncomputable abbrev YV  : HB :=
 .loop .busy none [(0, .v (.one (.ptr 0 0))), (3, .v (.one (.ptr 2 0))), (4, .v (.one (.ptr 3 0))), (5, .v (.one (.ptr 7 0))), (72, .v (.one (.fn 49 [(9, 0), (8, 0)])))] 95 #[73, 74] K6 K5 10
noncomputable abbrev m30f4_h13 (p0_ : List Dcl) (p1_ : Qa UN Ent) (p2_ : Dcl) (p3_ : (Qa UN Ent)) (p4_ : Int) : List (Nat × HB) :=
 [(0, .cells 62 [Uv p0_, .mp 1]), (1, .mp (QO p1_.1) p1_.2), (2, .cells 45 (UA p2_)), (3, .cells 25 [Ux 0]), (6, .mp (QO p3_.1) p3_.2), (7, .cells 60 [.mp 6]), (8, .cells 45 (UA p2_)), (9, .cells 3 [Ux (p0_.length : Int)]), (10, .obj (.deferred (some []))), (11, YV), (12, Ku p4_ p0_ p2_), (14, Ku p4_ p0_ p2_)]
noncomputable abbrev m30f4_h14 (p0_ : List Dcl) (p1_ : Qa UN Ent) (p2_ : Dcl) (p3_ : (Qa UN Ent)) (p4_ : Int) : List (Nat × HB) :=
 [(0, .cells 62 [Uv p0_, .mp 1]), (1, .mp (QO p1_.1) p1_.2), (2, .cells 45 (UA p2_)), (3, .cells 25 [Ux 0]), (6, .mp (QO p3_.1) p3_.2), (7, .cells 60 [.mp 6]), (8, .cells 45 (UA p2_)), (9, .cells 3 [Ux (p0_.length : Int)]), (10, .obj (.deferred (some []))), (11, Yz), (12, Ku p4_ p0_ p2_), (14, Ku p4_ p0_ p2_)]
noncomputable abbrev m30f4_h15 (p0_ : (Qa UN Ent)) (p1_ : Dcl) (p2_ : Int) (p3_ : List Dcl) : HB :=
 .mp (QO ((J5 p0_ p1_.name (⟨p2_, (p3_.length : Int), 0, p1_.params, p1_.ty⟩ : Ent)) : Qa UN Ent).1) ((J5 p0_ p1_.name (⟨p2_, (p3_.length : Int), 0, p1_.params, p1_.ty⟩ : Ent)) : Qa UN Ent).2
noncomputable abbrev m30f4_h16 (p0_ : List Dcl) (p1_ : Qa UN Ent) (p2_ : Dcl) (p3_ : (Qa UN Ent)) (p4_ : Int) : List (Nat × HB) :=
 [(0, .cells 62 [Uv p0_, .mp 1]), (1, .mp (QO p1_.1) p1_.2), (2, .cells 45 (UA p2_)), (3, .cells 25 [Ux 0]), (6, m30f4_h15 p3_ p2_ p4_ p0_), (7, .cells 60 [.mp 6]), (8, .cells 45 (UA p2_)), (9, .cells 3 [Ux (p0_.length : Int)]), (10, .obj (.deferred (some []))), (11, YV), (12, Ku p4_ p0_ p2_)]
noncomputable abbrev Yf (p0_ : List Dcl) (p1_ : Dcl) : HB :=
 .cells 35 [Ux 3, Ux (p0_.length : Int), Ux 0, Ux p1_.params, Ux p1_.ty.kind, Ux p1_.ty.index, Jl p1_.ty.name, Uv p1_.ty.levels, Uv p1_.ty.kids]
noncomputable abbrev m30f4_h18 (p0_ : List Dcl) (p1_ : Qa UN Ent) (p2_ : Dcl) (p3_ : (Qa UN Ent)) : List (Nat × HB) :=
 [(0, .cells 62 [Uv p0_, .mp 1]), (1, .mp (QO p1_.1) p1_.2), (2, .cells 45 (UA p2_)), (3, .cells 25 [Ux 0]), (6, .mp (QO p3_.1) p3_.2), (7, .cells 60 [.mp 6]), (8, .cells 45 (UA p2_)), (9, .cells 3 [Ux (p0_.length : Int)]), (10, .obj (.deferred (some []))), (11, Yz), (12, Yf p0_ p2_)]
noncomputable abbrev m30f4_h19 (p0_ : List Dcl) (p1_ : Qa UN Ent) (p2_ : Dcl) (p3_ : (Qa UN Ent)) : List (Nat × HB) :=
 [(0, .cells 62 [Uv p0_, .mp 1]), (1, .mp (QO p1_.1) p1_.2), (2, .cells 45 (UA p2_)), (3, .cells 25 [Ux 0]), (6, .mp (QO p3_.1) p3_.2), (7, .cells 60 [.mp 6]), (8, .cells 45 (UA p2_)), (9, .cells 3 [Ux (p0_.length : Int)]), (10, .obj (.deferred (some []))), (11, YV), (12, Yf p0_ p2_), (13, Yf p0_ p2_)]
noncomputable abbrev m30f4_h20 (p0_ : List Dcl) (p1_ : Qa UN Ent) (p2_ : Dcl) (p3_ : (Qa UN Ent)) : List (Nat × HB) :=
 [(0, .cells 62 [Uv p0_, .mp 1]), (1, .mp (QO p1_.1) p1_.2), (2, .cells 45 (UA p2_)), (3, .cells 25 [Ux 0]), (6, .mp (QO p3_.1) p3_.2), (7, .cells 60 [.mp 6]), (8, .cells 45 (UA p2_)), (9, .cells 3 [Ux (p0_.length : Int)]), (10, .obj (.deferred (some []))), (11, Yz), (12, Yf p0_ p2_), (13, Yf p0_ p2_)]
noncomputable abbrev m30f4_h21 (p0_ : (Qa UN Ent)) (p1_ : Dcl) (p2_ : List Dcl) : HB :=
 .mp (QO ((J5 p0_ p1_.name (⟨3, (p2_.length : Int), 0, p1_.params, p1_.ty⟩ : Ent)) : Qa UN Ent).1) ((J5 p0_ p1_.name (⟨3, (p2_.length : Int), 0, p1_.params, p1_.ty⟩ : Ent)) : Qa UN Ent).2
noncomputable abbrev m30f4_h22 (p0_ : List Dcl) (p1_ : Qa UN Ent) (p2_ : Dcl) (p3_ : (Qa UN Ent)) : List (Nat × HB) :=
 [(0, .cells 62 [Uv p0_, .mp 1]), (1, .mp (QO p1_.1) p1_.2), (2, .cells 45 (UA p2_)), (3, .cells 25 [Ux 0]), (6, m30f4_h21 p3_ p2_ p0_), (7, .cells 60 [.mp 6]), (8, .cells 45 (UA p2_)), (9, .cells 3 [Ux (p0_.length : Int)]), (10, .obj (.deferred (some []))), (11, YV), (12, Yf p0_ p2_)]
noncomputable abbrev m30f4_h23 (p0_ : List Dcl) (p1_ : Qa UN Ent) (p2_ : Dcl) (p3_ : Int × (Qa UN Ent)) (p4_ : Ctr) : List (Nat × HB) :=
 [(0, .cells 62 [Uv p0_, .mp 1]), (1, .mp (QO p1_.1) p1_.2), (2, .cells 45 (UA p2_)), (3, .cells 25 [Ux 0]), (6, .mp (QO p3_.2.1) p3_.2.2), (7, .cells 60 [.mp 6]), (8, .cells 45 (UA p2_)), (9, .cells 3 [Ux (p0_.length : Int)]), (10, .obj (.deferred (some []))), (11, Yz), (12, Yf p0_ p2_), (14, .cells 71 (UA p4_))]
noncomputable abbrev m30f4_h24 (p0_ : List Dcl) (p1_ : Int × (Qa UN Ent)) (p2_ : Dcl) (p3_ : Ctr) : HB :=
 .cells 35 [Ux 4, Ux (p0_.length : Int), Ux p1_.1, Ux p2_.params, Ux p3_.ty.kind, Ux p3_.ty.index, Jl p3_.ty.name, Uv p3_.ty.levels, Uv p3_.ty.kids]
noncomputable abbrev m30f4_h25 (p0_ : List Dcl) (p1_ : Qa UN Ent) (p2_ : Dcl) (p3_ : Int × (Qa UN Ent)) (p4_ : Ctr) : List (Nat × HB) :=
 [(0, .cells 62 [Uv p0_, .mp 1]), (1, .mp (QO p1_.1) p1_.2), (2, .cells 45 (UA p2_)), (3, .cells 25 [Ux 0]), (6, .mp (QO p3_.2.1) p3_.2.2), (7, .cells 60 [.mp 6]), (8, .cells 45 (UA p2_)), (9, .cells 3 [Ux (p0_.length : Int)]), (10, .obj (.deferred (some []))), (11, YV), (12, Yf p0_ p2_), (14, .cells 71 (UA p4_)), (15, m30f4_h24 p0_ p3_ p2_ p4_)]
noncomputable abbrev m30f4_h26 (p0_ : List Dcl) (p1_ : Qa UN Ent) (p2_ : Dcl) (p3_ : Int × (Qa UN Ent)) (p4_ : Ctr) : List (Nat × HB) :=
 [(0, .cells 62 [Uv p0_, .mp 1]), (1, .mp (QO p1_.1) p1_.2), (2, .cells 45 (UA p2_)), (3, .cells 25 [Ux 0]), (6, .mp (QO p3_.2.1) p3_.2.2), (7, .cells 60 [.mp 6]), (8, .cells 45 (UA p2_)), (9, .cells 3 [Ux (p0_.length : Int)]), (10, .obj (.deferred (some []))), (11, Yz), (12, Yf p0_ p2_), (14, .cells 71 (UA p4_)), (15, m30f4_h24 p0_ p3_ p2_ p4_)]
noncomputable abbrev m30f4_h27 (p0_ : Int × (Qa UN Ent)) (p1_ : Ctr) (p2_ : List Dcl) (p3_ : Dcl) : HB :=
 .mp (QO ((J5 p0_.2 p1_.name (⟨4, (p2_.length : Int), p0_.1, p3_.params, p1_.ty⟩ : Ent)) : Qa UN Ent).1) ((J5 p0_.2 p1_.name (⟨4, (p2_.length : Int), p0_.1, p3_.params, p1_.ty⟩ : Ent)) : Qa UN Ent).2
noncomputable abbrev m30f4_h28 (p0_ : List Dcl) (p1_ : Qa UN Ent) (p2_ : Dcl) (p3_ : Int × (Qa UN Ent)) (p4_ : Ctr) : List (Nat × HB) :=
 [(0, .cells 62 [Uv p0_, .mp 1]), (1, .mp (QO p1_.1) p1_.2), (2, .cells 45 (UA p2_)), (3, .cells 25 [Ux 0]), (6, m30f4_h27 p3_ p4_ p0_ p2_), (7, .cells 60 [.mp 6]), (8, .cells 45 (UA p2_)), (9, .cells 3 [Ux (p0_.length : Int)]), (10, .obj (.deferred (some []))), (11, YV), (12, Yf p0_ p2_), (14, .cells 71 (UA p4_))]
noncomputable abbrev m30f4_h29 (p0_ : List Dcl) (p1_ : Dcl) : HB :=
 .cells 35 [Ux 5, Ux (p0_.length : Int), Ux 0, Ux p1_.rcr.params, Ux p1_.rcr.ty.kind, Ux p1_.rcr.ty.index, Jl p1_.rcr.ty.name, Uv p1_.rcr.ty.levels, Uv p1_.rcr.ty.kids]
noncomputable abbrev m30f4_h30 (p0_ : List Dcl) (p1_ : Qa UN Ent) (p2_ : Dcl) (p3_ : (Qa UN Ent)) : List (Nat × HB) :=
 [(0, .cells 62 [Uv p0_, .mp 1]), (1, .mp (QO p1_.1) p1_.2), (2, .cells 45 (UA p2_)), (3, .cells 25 [Ux 0]), (6, .mp (QO p3_.1) p3_.2), (7, .cells 60 [.mp 6]), (8, .cells 45 (UA p2_)), (9, .cells 3 [Ux (p0_.length : Int)]), (10, .obj (.deferred (some []))), (11, YV), (12, Yf p0_ p2_), (14, m30f4_h29 p0_ p2_)]
noncomputable abbrev m30f4_h31 (p0_ : List Dcl) (p1_ : Qa UN Ent) (p2_ : Dcl) (p3_ : (Qa UN Ent)) : List (Nat × HB) :=
 [(0, .cells 62 [Uv p0_, .mp 1]), (1, .mp (QO p1_.1) p1_.2), (2, .cells 45 (UA p2_)), (3, .cells 25 [Ux 0]), (6, .mp (QO p3_.1) p3_.2), (7, .cells 60 [.mp 6]), (8, .cells 45 (UA p2_)), (9, .cells 3 [Ux (p0_.length : Int)]), (10, .obj (.deferred (some []))), (11, Yz), (12, Yf p0_ p2_), (14, m30f4_h29 p0_ p2_)]
noncomputable abbrev m30f4_h32 (p0_ : (Qa UN Ent)) (p1_ : Dcl) (p2_ : List Dcl) : HB :=
 .mp (QO ((J5 p0_ (p1_.name ++ ([46, 114, 101, 99] : List UInt8)) (⟨5, (p2_.length : Int), 0, p1_.rcr.params, p1_.rcr.ty⟩ : Ent)) : Qa UN Ent).1) ((J5 p0_ (p1_.name ++ ([46, 114, 101, 99] : List UInt8)) (⟨5, (p2_.length : Int), 0, p1_.rcr.params, p1_.rcr.ty⟩ : Ent)) : Qa UN Ent).2
noncomputable abbrev m30f4_h33 (p0_ : List Dcl) (p1_ : Qa UN Ent) (p2_ : Dcl) (p3_ : (Qa UN Ent)) : List (Nat × HB) :=
 [(0, .cells 62 [Uv p0_, .mp 1]), (1, .mp (QO p1_.1) p1_.2), (2, .cells 45 (UA p2_)), (3, .cells 25 [Ux 0]), (6, m30f4_h32 p3_ p2_ p0_), (7, .cells 60 [.mp 6]), (8, .cells 45 (UA p2_)), (9, .cells 3 [Ux (p0_.length : Int)]), (10, .obj (.deferred (some []))), (11, YV), (12, Yf p0_ p2_)]
noncomputable abbrev m30f4_h34 (p0_ : List Dcl) (p1_ : Qa UN Ent) (p2_ : Dcl) (p3_ : Int × (Qa UN Ent)) (p4_ : Fn) : List (Nat × HB) :=
 [(0, .cells 62 [Uv p0_, .mp 1]), (1, .mp (QO p1_.1) p1_.2), (2, .cells 45 (UA p2_)), (3, .cells 25 [Ux 0]), (6, .mp (QO p3_.2.1) p3_.2.2), (7, .cells 60 [.mp 6]), (8, .cells 45 (UA p2_)), (9, .cells 3 [Ux (p0_.length : Int)]), (10, .obj (.deferred (some []))), (11, Yz), (12, KB p0_ p2_), (13, .cells 76 (UA p4_))]
noncomputable abbrev m30f4_h35 (p0_ : List Dcl) (p1_ : Int × (Qa UN Ent)) (p2_ : Dcl) (p3_ : Fn) : HB :=
 .cells 35 [Ux 6, Ux (p0_.length : Int), Ux p1_.1, Ux p2_.params, Ux p3_.ty.kind, Ux p3_.ty.index, Jl p3_.ty.name, Uv p3_.ty.levels, Uv p3_.ty.kids]
noncomputable abbrev m30f4_h36 (p0_ : List Dcl) (p1_ : Qa UN Ent) (p2_ : Dcl) (p3_ : Int × (Qa UN Ent)) (p4_ : Fn) : List (Nat × HB) :=
 [(0, .cells 62 [Uv p0_, .mp 1]), (1, .mp (QO p1_.1) p1_.2), (2, .cells 45 (UA p2_)), (3, .cells 25 [Ux 0]), (6, .mp (QO p3_.2.1) p3_.2.2), (7, .cells 60 [.mp 6]), (8, .cells 45 (UA p2_)), (9, .cells 3 [Ux (p0_.length : Int)]), (10, .obj (.deferred (some []))), (11, YV), (12, KB p0_ p2_), (13, .cells 76 (UA p4_)), (14, m30f4_h35 p0_ p3_ p2_ p4_)]
noncomputable abbrev m30f4_h37 (p0_ : List Dcl) (p1_ : Qa UN Ent) (p2_ : Dcl) (p3_ : Int × (Qa UN Ent)) (p4_ : Fn) : List (Nat × HB) :=
 [(0, .cells 62 [Uv p0_, .mp 1]), (1, .mp (QO p1_.1) p1_.2), (2, .cells 45 (UA p2_)), (3, .cells 25 [Ux 0]), (6, .mp (QO p3_.2.1) p3_.2.2), (7, .cells 60 [.mp 6]), (8, .cells 45 (UA p2_)), (9, .cells 3 [Ux (p0_.length : Int)]), (10, .obj (.deferred (some []))), (11, Yz), (12, KB p0_ p2_), (13, .cells 76 (UA p4_)), (14, m30f4_h35 p0_ p3_ p2_ p4_)]
noncomputable abbrev m30f4_h38 (p0_ : Int × (Qa UN Ent)) (p1_ : Fn) (p2_ : List Dcl) (p3_ : Dcl) : HB :=
 .mp (QO ((J5 p0_.2 p1_.name (⟨6, (p2_.length : Int), p0_.1, p3_.params, p1_.ty⟩ : Ent)) : Qa UN Ent).1) ((J5 p0_.2 p1_.name (⟨6, (p2_.length : Int), p0_.1, p3_.params, p1_.ty⟩ : Ent)) : Qa UN Ent).2
noncomputable abbrev m30f4_h39 (p0_ : List Dcl) (p1_ : Qa UN Ent) (p2_ : Dcl) (p3_ : Int × (Qa UN Ent)) (p4_ : Fn) : List (Nat × HB) :=
 [(0, .cells 62 [Uv p0_, .mp 1]), (1, .mp (QO p1_.1) p1_.2), (2, .cells 45 (UA p2_)), (3, .cells 25 [Ux 0]), (6, m30f4_h38 p3_ p4_ p0_ p2_), (7, .cells 60 [.mp 6]), (8, .cells 45 (UA p2_)), (9, .cells 3 [Ux (p0_.length : Int)]), (10, .obj (.deferred (some []))), (11, YV), (12, KB p0_ p2_), (13, .cells 76 (UA p4_))]
noncomputable abbrev m30f4_h40 (p0_ : Dcl) (p1_ : List Dcl) (p2_ : Fn) : List (Nat × HB) :=
 [(2, .cells 45 (UA p0_)), (3, .cells 25 [Ux 0]), (7, .cells 60 [.mp 6]), (8, .cells 45 (UA p0_)), (9, .cells 3 [Ux (p1_.length : Int)]), (13, .cells 76 (UA p2_))]
noncomputable abbrev m30f4_h41 (p0_ : List Dcl) (p1_ : Qa UN Ent) (p2_ : Int) : List (Nat × HB) :=
 [(0, .cells 62 [Uv p0_, .mp 1]), (1, .mp (QO p1_.1) p1_.2), (3, .cells 25 [Ux p2_])]
noncomputable def m30f4 (a0 : Dcl) (a1 : List Dcl) (a2 : Qa UN Ent) : Option Int :=
 Option.bind (m44f5 a0) (Sum.elim (fun (x2 : Unit) => Option.bind (m45f7 a0 a1 a2) (Sum.elim (fun (x5 : Unit) => Option.bind (cond (a0.kind != 4)
   (Option.bind (X6 a0.ty 0 a0.params a1 a2 gmNil) (Sum.elim (fun (x10 : Unit) => some (.inl ())) (fun (x11 : Int) => some (.inr x11))))
   (some (.inl ()))) (Sum.elim (fun (v7 : Unit) => Option.bind (cond (a0.kind == 1)
   (some true)
   (some (a0.kind == 2))) (fun (v8 : Bool) => m30f4_k8 v8 a0 a1 a2)) (fun o => some o))) (fun (x6 : Int) => some x6))) (fun (x3 : Int) => some x3))
set_option maxRecDepth 100000 in
set_option maxHeartbeats 2000000 in
theorem m30f4_ok (a0 : Dcl) (a1 : List Dcl) (a2 : Qa UN Ent) (r : Int) (h0 : m30f4 a0 a1 a2 = some r) : CallM Try.prog 30 [.one (.ptr 0 0), .agg (UA a0)] ⟨[(0, .cells 62 [Uv a1, .mp 1]), (1, .mp (QO a2.1) a2.2)], [], 2⟩ (QD [.one (Ux r)]) ⟨m30f4_h41 a1 a2 r, [], 4⟩ := by
 unfold m30f4 at h0
 refine CallM.of_bodyC ⟨[(4, .v (.one (.ptr 3 0)))], m30f4_h41 a1 a2 r, [], 4, 95, []⟩ 3 43 90 rfl rfl en_30 (Um rfl) rfl (KM ZR rfl rfl rfl .nil) (fun w0 M V0 Q hv0 hQ0 => ?_)
 simp only [J7]
 refine Q5 <| Q0 <| Q9 rfl rfl (Um rfl) (QN rfl) <| Q9 rfl rfl (Um rfl) (Qm z_25 rfl) <| Q4 <| Q3 <| Q5 <| Q0 <| Ue rfl rfl rfl (YQ rfl) <| XL.defer catch_ok rfl rfl <| Q4 <| Q3 <| Q5 <| Q0 ?_
 refine Ue rfl rfl rfl (QK (a0 : Dcl) JS rfl rfl) ?_
 refine Qb h0 (fun x1 hx1 h0 => ?_)
 refine JY id hx1 h0 (fun x2 hx2 h0 => ?_) (fun x3 hx3 h0 => ?_)
 refine Q9 rfl rfl (Um rfl) (QE rfl rfl rfl (CallE.m (m44f5_ok a0 (.inl x2) hx2)) rfl) <| Q4 <| Q3 <| Q5 <| Q0 <| Uf rfl rfl rfl <| Ue rfl rfl rfl (QK (a0 : Dcl) JS rfl rfl) ?_
 refine Qb h0 (fun x4 hx4 h0 => ?_)
 refine JY id hx4 h0 (fun x5 hx5 h0 => ?_) (fun x6 hx6 h0 => ?_)
 refine Q9 rfl rfl (Um rfl) (J4 (hp1' := [(0, .cells 62 [Uv a1, .mp 1]), (1, .mp (QO a2.1) a2.2)]) (tk1' := []) (hpF := [(2, .cells 45 (UA a0)), (3, .cells 25 [Ux 0])]) (tkF := []) (res2 := QD []) (nx2 := 6) [0, 1] rfl rfl (CallE.m (m45f7_ok a0 a1 a2 (.inl x5) hx5)) rfl rfl (Uj rfl rfl (Ui rfl Uh)) rfl rfl (Ut rfl (Uu rfl Us)) Up (hA rfl) Un rfl rfl rfl rfl rfl (UF rfl rfl (UE rfl UD)) rfl rfl rfl rfl) <| Q4 <| Q3 <| Q5 <| Q0 <| Q9 rfl rfl (Um rfl) (YX UN Ent) <| Q9 rfl rfl (Um rfl) (Qm z_60 rfl) <| Qy rfl rfl (Qr YA rfl rfl rfl rfl (Um rfl) rfl) <| Q4 <| Q3 <| Q5 <| Q5 <| Q0 <| Ue rfl rfl rfl (Q1 Yn rfl) ?_
 refine Ue rfl rfl rfl (Q6 QZ rfl rfl rfl) <| Ue rfl rfl rfl (Q7 rfl rfl rfl) <| Q4 <| Q3 ?_
 refine QS (fun (v7 : Unit) => ⟨[(0, .v (.one (.ptr 0 0))), (3, .v (.one (.ptr 2 0))), (4, .v (.one (.ptr 3 0))), (5, .v (.one (.ptr 7 0)))], m30f4_h1 a1 a2 a0, [], 8, 95, [3, 43, 90]⟩) (fun (v7 : Unit) => (Option.bind (cond (a0.kind == 1)
     (some true)
     (some (a0.kind == 2))) (fun (v8 : Bool) => m30f4_k8 v8 a0 a1 a2)) = some r) ?_ ?_
 refine Qb h0 (fun w1_ h1 h0 => ?_)
 refine Qg (b := (a0.kind != 4)) rfl (fun c8 => ?_) (fun c8 => ?_)
 replace h1 := Qk c8 h1
 refine Q0 <| Uf rfl rfl rfl <| Ue rfl rfl rfl (Q1 K4 rfl) <| Ue rfl rfl rfl (Qi QW rfl rfl rfl rfl) <| Ue rfl rfl rfl (Q1 Ym rfl) <| Ue rfl rfl rfl (Q6 QZ rfl rfl rfl) <| Ue rfl rfl rfl (Q6 YA rfl rfl rfl) ?_
 refine Qb h1 (fun x9 hx9 h1 => ?_)
 refine JY id hx9 h1 (fun x10 hx10 h1 => ?_) (fun x11 hx11 h1 => ?_)
 refine Q9 rfl rfl (Um rfl) (J4 (hp1' := [(0, .cells 62 [Uv a1, .mp 1]), (1, .mp (QO a2.1) a2.2), (6, .mp (QO (gmNil : Qa UN Ent).1) (gmNil : Qa UN Ent).2)]) (tk1' := []) (hpF := G6 a0) (tkF := []) (res2 := QD []) (nx2 := 16) [0, 1, 6] rfl rfl (CallE.m (YC a0.ty 0 a0.params a1 a2 gmNil (.inl x10) hx10)) rfl rfl (Uj rfl rfl (Ui rfl (Ui rfl Uh))) rfl rfl (Ut rfl (Uu rfl (Uu rfl Us))) Up (hA rfl) Un rfl rfl rfl rfl rfl (UF rfl rfl (UE rfl (UE rfl UD))) rfl rfl rfl rfl) <| Q4 ?_
 have e := Uc h1; subst e
 replace h0 := Kz h0
 exact Qc () (Qu (Ua rfl) (hA rfl) Un rfl (Nat.le_trans hv0 (Um rfl)) rfl rfl rfl (UF rfl rfl (UE rfl (UF rfl rfl (UF rfl rfl (UE rfl (UG rfl)))))) rfl rfl) h0
 refine Jd rfl (Yy (hp1' := [(0, .cells 62 [Uv a1, .mp 1]), (1, .mp (QO a2.1) a2.2), (6, .mp (QO (gmNil : Qa UN Ent).1) (gmNil : Qa UN Ent).2)]) (tk1' := []) (hpF := G6 a0) (tkF := []) (nx2 := 11) [0, 1, 6] rfl rfl (CallE.d (YC a0.ty 0 a0.params a1 a2 gmNil (.inr x11) hx11)) rfl rfl (Uj rfl rfl (Ui rfl (Ui rfl Uh))) rfl (Ut rfl (Uu rfl (Uu rfl Us))) Up (hA rfl) Un rfl rfl rfl rfl rfl (UF rfl rfl (UE rfl (UE rfl UD))) rfl rfl rfl rfl) ?_
 have e := Uc h1; subst e
 replace h0 := KX h0
 have e := Uc h0; subst e
 exact Jn (hQ0 (.panic (Jz (QJ 90 x11))) _ rfl (Wg _ _ _ rfl (Qu (Ua rfl) (hA rfl) Un rfl (Nat.le_trans hv0 (Um rfl)) rfl rfl rfl (UF rfl rfl (UE rfl (UG rfl))) rfl rfl))) (fun _ _ h => h)
 replace h1 := Ql c8 h1
 refine Qj ?_
 have e := Uc h1; subst e
 replace h0 := Kz h0
 exact Qc () (Qu (Ua rfl) (hA rfl) Un rfl (Nat.le_trans hv0 (Um rfl)) rfl rfl rfl (UF rfl rfl (UE rfl (UF rfl rfl (UF rfl rfl (UE rfl (UG rfl)))))) rfl rfl) h0
 intro v7 h0
 refine Q3 <| Q5 <| Q5 ?_
 refine QS (fun (v12 : Bool) => ⟨[(0, .v (.one (.ptr 0 0))), (3, .v (.one (.ptr 2 0))), (4, .v (.one (.ptr 3 0))), (5, .v (.one (.ptr 7 0))), (36, .v (.one (Uy v12)))], m30f4_h1 a1 a2 a0, [], 8, 95, [3, 43, 90]⟩) (fun (v12 : Bool) => (m30f4_k8 v12 a0 a1 a2) = some r) ?_ ?_
 refine Qb h0 (fun w1_ h1 h0 => ?_)
 refine Q0 <| Ue rfl rfl rfl (Q1 Yn rfl) <| Ue rfl rfl rfl (Q6 QZ rfl rfl rfl) <| Ue rfl rfl rfl (Q7 rfl rfl rfl) <| Uf rfl rfl rfl ?_
 refine QG (d := 32) (c := (a0.kind == 1)) rfl (fun c13 => ?_) (fun c13 => ?_)
 replace h1 := Qk c13 h1
 refine Q8 rfl rfl <| Q8 rfl rfl <| Q8 rfl rfl <| Ue rfl rfl rfl (Qh rfl rfl) <| Q4 ?_
 have e := Uc h1; subst e
 exact Qc true (Qu (Ua rfl) (hA rfl) Un rfl (Nat.le_trans hv0 (Um rfl)) rfl rfl rfl (UF rfl rfl (UE rfl (UF rfl rfl (UF rfl rfl (UE rfl (UG rfl)))))) rfl rfl) h0
 replace h1 := Ql c13 h1
 refine Ue rfl rfl rfl (Q1 Yn rfl) <| Ue rfl rfl rfl (Q6 QZ rfl rfl rfl) <| Ue rfl rfl rfl (Q7 rfl rfl rfl) <| Ue rfl rfl rfl (Qd rfl rfl) <| Q4 ?_
 have e := Uc h1; subst e
 exact Qc (a0.kind == 2) (Qu (Ua rfl) (hA rfl) Un rfl (Nat.le_trans hv0 (Um rfl)) rfl rfl rfl (UF rfl rfl (UE rfl (UF rfl rfl (UF rfl rfl (UE rfl (UG rfl)))))) rfl rfl) h0
 intro v12 h0
 unfold m30f4_k8 at h0
 refine Q3 ?_
 refine QS (fun (v14 : Unit) => ⟨[(0, .v (.one (.ptr 0 0))), (3, .v (.one (.ptr 2 0))), (4, .v (.one (.ptr 3 0))), (5, .v (.one (.ptr 7 0)))], m30f4_h1 a1 a2 a0, [], 8, 95, [3, 43, 90]⟩) (fun (v14 : Unit) => (m30f4_k7 a0 a1 a2) = some r) ?_ ?_
 refine Qb h0 (fun w1_ h1 h0 => ?_)
 refine Qg (b := v12) rfl (fun c15 => ?_) (fun c15 => ?_)
 replace h1 := Qk c15 h1
 refine Q0 <| Uf rfl rfl rfl <| Ue rfl rfl rfl (Q1 X1 rfl) <| Ue rfl rfl rfl (Qi QW rfl rfl rfl rfl) <| Ue rfl rfl rfl (Q1 Ym rfl) <| Ue rfl rfl rfl (Q6 QZ rfl rfl rfl) <| Ue rfl rfl rfl (Q6 YA rfl rfl rfl) ?_
 refine Qb h1 (fun x16 hx16 h1 => ?_)
 refine JY id hx16 h1 (fun x17 hx17 h1 => ?_) (fun x18 hx18 h1 => ?_)
 refine Q9 rfl rfl (Um rfl) (J4 (hp1' := [(0, .cells 62 [Uv a1, .mp 1]), (1, .mp (QO a2.1) a2.2), (6, .mp (QO (gmNil : Qa UN Ent).1) (gmNil : Qa UN Ent).2)]) (tk1' := []) (hpF := G6 a0) (tkF := []) (res2 := QD []) (nx2 := 16) [0, 1, 6] rfl rfl (CallE.m (YC a0.value 0 a0.params a1 a2 gmNil (.inl x17) hx17)) rfl rfl (Uj rfl rfl (Ui rfl (Ui rfl Uh))) rfl rfl (Ut rfl (Uu rfl (Uu rfl Us))) Up (hA rfl) Un rfl rfl rfl rfl rfl (UF rfl rfl (UE rfl (UE rfl UD))) rfl rfl rfl rfl) <| Q4 ?_
 have e := Uc h1; subst e
 replace h0 := Kz h0
 exact Qc () (Qu (Ua rfl) (hA rfl) Un rfl (Nat.le_trans hv0 (Um rfl)) rfl rfl rfl (UF rfl rfl (UE rfl (UF rfl rfl (UF rfl rfl (UE rfl (UG rfl)))))) rfl rfl) h0
 refine Jd rfl (Yy (hp1' := [(0, .cells 62 [Uv a1, .mp 1]), (1, .mp (QO a2.1) a2.2), (6, .mp (QO (gmNil : Qa UN Ent).1) (gmNil : Qa UN Ent).2)]) (tk1' := []) (hpF := G6 a0) (tkF := []) (nx2 := 11) [0, 1, 6] rfl rfl (CallE.d (YC a0.value 0 a0.params a1 a2 gmNil (.inr x18) hx18)) rfl rfl (Uj rfl rfl (Ui rfl (Ui rfl Uh))) rfl (Ut rfl (Uu rfl (Uu rfl Us))) Up (hA rfl) Un rfl rfl rfl rfl rfl (UF rfl rfl (UE rfl (UE rfl UD))) rfl rfl rfl rfl) ?_
 have e := Uc h1; subst e
 replace h0 := KX h0
 have e := Uc h0; subst e
 exact Jn (hQ0 (.panic (Jz (QJ 90 x18))) _ rfl (Wg _ _ _ rfl (Qu (Ua rfl) (hA rfl) Un rfl (Nat.le_trans hv0 (Um rfl)) rfl rfl rfl (UF rfl rfl (UE rfl (UG rfl))) rfl rfl))) (fun _ _ h => h)
 replace h1 := Ql c15 h1
 refine Qj ?_
 have e := Uc h1; subst e
 replace h0 := Kz h0
 exact Qc () (Qu (Ua rfl) (hA rfl) Un rfl (Nat.le_trans hv0 (Um rfl)) rfl rfl rfl (UF rfl rfl (UE rfl (UF rfl rfl (UF rfl rfl (UE rfl (UG rfl)))))) rfl rfl) h0
 intro v14 h0
 unfold m30f4_k7 at h0
 refine Q3 <| Q5 <| Q5 <| Q0 <| Ue rfl rfl rfl (Q1 Yn rfl) <| Ue rfl rfl rfl (Q6 QZ rfl rfl rfl) <| Ue rfl rfl rfl (Q7 rfl rfl rfl) <| Q4 <| Q3 ?_
 refine QS (fun (v19 : (Qa UN Ent)) => ⟨[(0, .v (.one (.ptr 0 0))), (3, .v (.one (.ptr 2 0))), (4, .v (.one (.ptr 3 0))), (5, .v (.one (.ptr 7 0)))], [(0, .cells 62 [Uv a1, .mp 1]), (1, .mp (QO a2.1) a2.2), (2, .cells 45 (UA a0)), (3, .cells 25 [Ux 0]), (6, .mp (QO v19.1) v19.2), (7, .cells 60 [.mp 6])], [], 8, 95, [3, 43, 90]⟩) (fun (v19 : (Qa UN Ent)) => (Option.bind (QV (m30f4_l0 a0 a1 a2 v19) J2 0) (Sum.elim (fun (o20 : Unit) => m30f4_k6 a0 v19 a1 a2) (fun o => some o))) = some r) ?_ ?_
 refine Qb h0 (fun w1_ h1 h0 => ?_)
 refine Qg (b := (a0.kind == 3)) rfl (fun c20 => ?_) (fun c20 => ?_)
 replace h1 := Qk c20 h1
 refine Q0 <| Uf rfl rfl rfl <| Ue rfl rfl rfl (QK (a0 : Dcl) JS rfl rfl) <| Ue rfl rfl rfl (Q6 YA rfl rfl rfl) ?_
 refine Qb h1 (fun x21 hx21 h1 => ?_)
 refine JY id hx21 h1 (fun x22 hx22 h1 => ?_) (fun x23 hx23 h1 => ?_)
 refine Q9 rfl rfl (Um rfl) (J4 (hp1' := [(0, .cells 62 [Uv a1, .mp 1]), (1, .mp (QO a2.1) a2.2), (6, .mp (QO x22.1) x22.2)]) (tk1' := []) (hpF := G6 a0) (tkF := []) (res2 := QD []) (nx2 := 24) [0, 1, 6] rfl rfl (CallE.m (m47f10_ok a0 a1 a2 gmNil (.inl x22) hx22)) rfl rfl (Uj rfl rfl (Ui rfl (Ui rfl Uh))) rfl rfl (Ut rfl (Uu rfl (Uu rfl Us))) Up (hA rfl) Un rfl rfl rfl rfl rfl (UF rfl rfl (UE rfl (UE rfl UD))) rfl rfl rfl rfl) <| Q4 ?_
 have e := Uc h1; subst e
 replace h0 := Kz h0
 exact Qc x22 (Qu (Ua rfl) (hA rfl) Un rfl (Nat.le_trans hv0 (Um rfl)) rfl rfl rfl (UF rfl rfl (UE rfl (UF rfl rfl (UF rfl rfl (UE rfl (UG rfl)))))) rfl rfl) h0
 refine Jd rfl (Yy (hp1' := [(0, .cells 62 [Uv a1, .mp 1]), (1, .mp (QO a2.1) a2.2), (6, .mp (QO x23.2.1) x23.2.2)]) (tk1' := []) (hpF := G6 a0) (tkF := []) (nx2 := 19) [0, 1, 6] rfl rfl (CallE.d (m47f10_ok a0 a1 a2 gmNil (.inr x23) hx23)) rfl rfl (Uj rfl rfl (Ui rfl (Ui rfl Uh))) rfl (Ut rfl (Uu rfl (Uu rfl Us))) Up (hA rfl) Un rfl rfl rfl rfl rfl (UF rfl rfl (UE rfl (UE rfl UD))) rfl rfl rfl rfl) ?_
 have e := Uc h1; subst e
 replace h0 := KX h0
 have e := Uc h0; subst e
 exact Jn (hQ0 (.panic (Jz (QJ 90 x23.1))) _ rfl (Wg _ _ _ rfl (Qu (Ua rfl) (hA rfl) Un rfl (Nat.le_trans hv0 (Um rfl)) rfl rfl rfl (UF rfl rfl (UE rfl (UG rfl))) rfl rfl))) (fun _ _ h => h)
 replace h1 := Ql c20 h1
 refine Qj ?_
 have e := Uc h1; subst e
 replace h0 := Kz h0
 exact Qc gmNil (Qu (Ua rfl) (hA rfl) Un rfl (Nat.le_trans hv0 (Um rfl)) rfl rfl rfl (UF rfl rfl (UE rfl (UF rfl rfl (UF rfl rfl (UE rfl (UG rfl)))))) rfl rfl) h0
 intro v19 h0
 refine Q3 <| Q5 <| Q5 <| Q0 <| Ue rfl rfl rfl (Q1 Y2 rfl) <| Ue rfl rfl rfl (Q6 YZ rfl rfl rfl) <| Ue rfl rfl rfl (Qx (α := Fn) Yk rfl (.d _)) <| Uf rfl rfl rfl <| Q4 <| Q3 <| Qf ?_
 refine QR 0 (fun (o24 : Unit) => ⟨[(0, .v (.one (.ptr 0 0))), (3, .v (.one (.ptr 2 0))), (4, .v (.one (.ptr 3 0))), (5, .v (.one (.ptr 7 0)))], m30f4_h3 a1 a2 a0 v19, [], 8, 95, [3, 43, 90]⟩) (fun (o24 : Unit) => (m30f4_k6 a0 v19 a1 a2) = some r) ?_ ?_
 refine Qb h0 (fun o25 hl1 h0 => ?_)
 refine QQ (m30f4_l0 a0 a1 a2 v19) (fun s1 => ⟨[(0, .v (.one (.ptr 0 0))), (3, .v (.one (.ptr 2 0))), (4, .v (.one (.ptr 3 0))), (5, .v (.one (.ptr 7 0))), (52, .v (.one (Uv a0.funs))), (53, .v (.one (Ux (a0.funs.length : Int)))), (54, .v (.one (Ux s1)))], m30f4_h3 a1 a2 a0 v19, [], 8, 95, [3, 43, 90]⟩) 0 o25 (Qu (Ua rfl) (hA rfl) Un rfl (Nat.le_trans hv0 (Um rfl)) rfl rfl rfl (UF rfl rfl (UE rfl (UF rfl rfl (UF rfl rfl (UE rfl (UG rfl)))))) rfl rfl) hl1 (fun s1 n1 oo1 h1 ho1 => ?_)
 unfold m30f4_l0 at h1
 refine Q5 <| Q0 <| Ue rfl rfl rfl (Q7 rfl rfl rfl) <| Q4 <| Q3 <| Q5 ?_
 refine Qg (b := (decide (s1 < (a0.funs.length : Int)))) rfl (fun c26 => ?_) (fun c26 => ?_)
 replace h1 := Qk c26 h1
 refine Qj <| Q3 <| Q5 <| Qf <| Q5 <| Q0 ?_
 refine Qb h1 (fun x27 hx27 h1 => ?_)
 refine Ue rfl rfl rfl (Qq (α := Fn) Yk rfl (.d _) rfl hx27) <| Ue rfl rfl rfl (Qv (x27 : Fn) Zx rfl) <| Q9 rfl rfl (Um rfl) (Qm Wi rfl) <| Qy rfl rfl (QC (x27 : Fn) Zx rfl rfl rfl rfl rfl) <| Q4 <| Q3 <| Q0 <| Uf rfl rfl rfl <| Ue rfl rfl rfl (Q1 KT rfl) <| Ue rfl rfl rfl (Qi QW rfl rfl rfl rfl) <| Ue rfl rfl rfl (Q1 Ym rfl) <| Ue rfl rfl rfl (Q6 QZ rfl rfl rfl) <| Ue rfl rfl rfl (Q6 YA rfl rfl rfl) ?_
 refine Qb h1 (fun x28 hx28 h1 => ?_)
 refine JY id hx28 h1 (fun x29 hx29 h1 => ?_) (fun x30 hx30 h1 => ?_)
 refine Q9 rfl rfl (Um rfl) (J4 (hp1' := [(0, .cells 62 [Uv a1, .mp 1]), (1, .mp (QO a2.1) a2.2), (6, .mp (QO v19.1) v19.2)]) (tk1' := []) (hpF := m30f4_h4 a0 x27) (tkF := []) (res2 := QD []) (nx2 := 17) [0, 1, 6] rfl rfl (CallE.m (YC x27.ty 0 a0.params a1 a2 v19 (.inl x29) hx29)) rfl rfl (Uj rfl rfl (Ui rfl (Ui rfl Uh))) rfl rfl (Ut rfl (Uu rfl (Uu rfl Us))) Up (hA rfl) Un rfl rfl rfl rfl rfl (UF rfl rfl (UE rfl (UE rfl UD))) rfl rfl rfl rfl) <| Q4 <| Qe <| Q3 <| Q0 <| Ue rfl rfl rfl (Q7 rfl rfl rfl) <| Uf rfl rfl rfl <| Q4 ?_
 have e := Uc h1; subst e
 refine QM (Jk (s1 + 1)) (Qu (Ua rfl) (hA rfl) Un rfl (Nat.le_trans hv0 (Um rfl)) rfl rfl rfl (UF rfl rfl (UE rfl (UF rfl rfl (UF rfl rfl (UE rfl (UG rfl)))))) rfl rfl) ho1
 refine Jd rfl (Yy (hp1' := [(0, .cells 62 [Uv a1, .mp 1]), (1, .mp (QO a2.1) a2.2), (6, .mp (QO v19.1) v19.2)]) (tk1' := []) (hpF := m30f4_h4 a0 x27) (tkF := []) (nx2 := 12) [0, 1, 6] rfl rfl (CallE.d (YC x27.ty 0 a0.params a1 a2 v19 (.inr x30) hx30)) rfl rfl (Uj rfl rfl (Ui rfl (Ui rfl Uh))) rfl (Ut rfl (Uu rfl (Uu rfl Us))) Up (hA rfl) Un rfl rfl rfl rfl rfl (UF rfl rfl (UE rfl (UE rfl UD))) rfl rfl rfl rfl) ?_
 have e := Uc h1; subst e
 have e_ : _ = _ := ho1
 subst e_
 try dsimp only [Sum.elim_inl, Sum.elim_inr] at h0
 have e := Uc h0; subst e
 exact Jn (hQ0 (.panic (Jz (QJ 90 x30))) _ rfl (Wg _ _ _ rfl (Qu (Ua rfl) (hA rfl) Un rfl (Nat.le_trans hv0 (Um rfl)) rfl rfl rfl (UF rfl rfl (UE rfl (UG rfl))) rfl rfl))) (fun _ _ h => h)
 replace h1 := Ql c26 h1
 refine J1 <| Qn <| Qn ?_
 have e := Uc h1; subst e
 have e_ : _ = _ := ho1
 subst e_
 exact QP () (Qu (Ua rfl) (hA rfl) Un rfl (Nat.le_trans hv0 (Um rfl)) rfl rfl rfl (UF rfl rfl (UE rfl (UF rfl rfl (UF rfl rfl (UE rfl (UG rfl)))))) rfl rfl) h0
 intro o24 h0
 unfold m30f4_k6 at h0
 refine QF <| Q3 <| Q5 <| Q5 ?_
 refine Jv [6] [] YI (by kernel_rfl) (by kernel_rfl) (by kernel_rfl) ?_
 refine RunA.rd rfl rfl rfl (Q2 (QK (a0 : Dcl) JS rfl rfl)) rfl <| RunA.rd rfl rfl rfl (Q2 (Qt rfl)) rfl <| RunA.rd rfl rfl rfl (Q2 (Jx rfl)) rfl <| RunA.rd rfl rfl rfl (Q2 (Q1 fo_62_0 rfl)) rfl <| RunA.rd rfl rfl rfl (Q2 (Q6 ag_22 rfl rfl rfl)) rfl <| RunA.rd rfl rfl rfl (Q2 (Qx (α := Dcl) Ke rfl (.d _))) rfl ?_
 refine Qb h0 (fun y31 h1 h0 => ?_)
 have hc32 : CallM Try.prog 31 [.agg (UA a0), .one (Ux (a1.length : Int))] ⟨m30f4_h3 a1 a2 a0 v19, [], 8⟩ (QD [.one (.fn 49 [(9, 0), (8, 0)])]) ⟨G5 a1 a2 a0 v19, [], 10⟩ := by
  refine QT ⟨[(4, .v (.one (.fn 49 [(9, 0), (8, 0)])))], G5 a1 a2 a0 v19, [], 10, 6, []⟩ rfl rfl en_31 (Um rfl) rfl (Qz rfl .nil) (fun w0 M V0 Q hv1 hQ1 => ?_)
  simp only [J7]
  refine Q5 <| Q0 <| Q9 rfl rfl (Um rfl) (QN rfl) <| Q9 rfl rfl (Um rfl) (QN rfl) <| Ug rfl rfl rfl <| Q4 <| Q3 <| Q5 <| Q0 <| Ue rfl rfl rfl (ZN rfl rfl) <| Ug rfl rfl rfl <| Q4 <| Q3 <| QA ?_
  have e := Uc h1; subst e
  exact hQ1 _ _ _ (.inr rfl) rfl (Qu (Ua rfl) (hA rfl) Un rfl (Nat.le_trans hv1 (Um rfl)) rfl rfl rfl (UF rfl rfl (UE rfl (UF rfl rfl (UF rfl rfl (UE rfl (UG rfl)))))) rfl rfl)
 refine RunA.eff rfl rfl rfl (JM rfl rfl rfl hc32 rfl (hA rfl) Un) rfl ?_
 refine RunA.nil ⟨?ex, _, _, rfl, ?_⟩
 case ex => exact trivial
 refine JX (st' := ⟨[(0, .v (.one (.ptr 0 0))), (3, .v (.one (.ptr 2 0))), (4, .v (.one (.ptr 3 0))), (5, .v (.one (.ptr 7 0))), (72, .v (.one (.fn 49 [(9, 0), (8, 0)])))], G5 a1 a2 a0 v19, [], 10, 95, [3, 43, 90]⟩) (Qu (Ua rfl) (hA rfl) Un rfl (Nat.le_trans hv0 (Um rfl)) rfl rfl rfl (UF rfl rfl (UE rfl (UF rfl rfl (UF rfl rfl (UE rfl (UG rfl)))))) rfl rfl) <| Q3 <| Qf <| Km (st' := ⟨[(0, .v (.one (.ptr 0 0))), (3, .v (.one (.ptr 2 0))), (4, .v (.one (.ptr 3 0))), (5, .v (.one (.ptr 7 0))), (72, .v (.one (.fn 49 [(9, 0), (8, 0)])))], G5 a1 a2 a0 v19, [], 10, 95, [3, 43, 90]⟩) (Qu (Ua rfl) (hA rfl) Un rfl (Nat.le_trans hv0 (Um rfl)) rfl rfl rfl (UF rfl rfl (UE rfl (UF rfl rfl (UF rfl rfl (UE rfl (UG rfl)))))) rfl rfl) ?_
 refine Qb h0 (fun y33 h1 h0 => ?_)
 have hc34 : CallM Try.prog 49 [.one (.yld 11), .one (.ptr 9 0), .one (.ptr 8 0)] ⟨[(11, .loop .ready none [(0, .v (.one (.ptr 0 0))), (3, .v (.one (.ptr 2 0))), (4, .v (.one (.ptr 3 0))), (5, .v (.one (.ptr 7 0))), (72, .v (.one (.fn 49 [(9, 0), (8, 0)])))] 95 #[73, 74] K6 K5 10), (10, .obj (.deferred (some []))), (0, .cells 62 [Uv a1, .mp 1]), (1, .mp (QO a2.1) a2.2), (2, .cells 45 (UA a0)), (3, .cells 25 [Ux 0]), (6, .mp (QO v19.1) v19.2), (7, .cells 60 [.mp 6]), (8, .cells 45 (UA a0)), (9, .cells 3 [Ux (a1.length : Int)])], [], 12⟩ (QD []) ⟨m30f4_h7 a1 a2 a0 y33, [], 13⟩ := by
  refine QT ⟨[], m30f4_h7 a1 a2 a0 y33, [], 13, 98, []⟩ rfl rfl en_49 (Um rfl) rfl .nil (fun w0 M V0 Q hv1 hQ1 => ?_)
  simp only [J7]
  refine Q5 <| Q0 <| Ue rfl rfl rfl (Q6 QZ rfl rfl rfl) <| Ue rfl rfl rfl (Q1 Ym rfl) <| Ue rfl rfl rfl (Q6 QZ rfl rfl rfl) <| Ue rfl rfl rfl (Q1 K4 rfl) <| Ue rfl rfl rfl (Qi QW rfl rfl rfl rfl) <| Ue rfl rfl rfl (ZA K9 rfl rfl rfl rfl rfl) <| Q9 rfl rfl (Um rfl) (Qm ZB rfl) <| Qy rfl rfl (Qr Jm rfl rfl rfl rfl (Um rfl) rfl) <| Q4 <| Q3 <| Q5 <| Q0 ?_
  refine Ue rfl rfl rfl (Q1 Yn rfl) <| Ue rfl rfl rfl (Q6 QZ rfl rfl rfl) <| Q4 <| Q3 <| Qf <| Q5 <| Q5 <| Q0 <| Ue rfl rfl rfl (Q7 rfl rfl rfl) <| Ug rfl rfl rfl <| Q4 <| Q3 ?_
  refine QS (fun (v35 : Bool) => ⟨[(0, .v (.one (.yld 11))), (1, .v (.one (.ptr 9 0))), (2, .v (.one (.ptr 8 0))), (4, .v (.one (.ptr 12 0))), (16, .v (.one (Ux a0.kind))), (17, .v (.one (Uy v35)))], m30f4_h9 a1 a2 a0 v19, [], 13, 98, []⟩) (fun (v35 : Bool) => (m30f4_k4 v35 a0 v19 a1) = some y33) ?_ ?_
  refine Qb h1 (fun w2_ h2 h1 => ?_)
  refine Qg (b := (a0.kind == 0)) rfl (fun c36 => ?_) (fun c36 => ?_)
  replace h2 := Qk c36 h2
  refine Qj ?_
  have e := Uc h2; subst e
  exact Qc (a0.kind == 0) (Qu (Ua rfl) (hA rfl) Un rfl (Nat.le_trans hv1 (Um rfl)) rfl rfl rfl (UF rfl rfl (UE rfl (UF rfl rfl (UF rfl rfl (UE rfl (UG rfl)))))) rfl rfl) h1
  replace h2 := Ql c36 h2
  refine Q5 <| Q0 <| Ue rfl rfl rfl (Q7 rfl rfl rfl) <| Ug rfl rfl rfl <| Q4 <| Q3 ?_
  refine Qg (b := (a0.kind == 1)) rfl (fun c37 => ?_) (fun c37 => ?_)
  replace h2 := Qk c37 h2
  refine Qj ?_
  have e := Uc h2; subst e
  exact Qc (a0.kind == 1) (Qu (Ua rfl) (hA rfl) Un rfl (Nat.le_trans hv1 (Um rfl)) rfl rfl rfl (UF rfl rfl (UE rfl (UF rfl rfl (UF rfl rfl (UE rfl (UG rfl)))))) rfl rfl) h1
  replace h2 := Ql c37 h2
  refine Q0 <| Ue rfl rfl rfl (Q7 rfl rfl rfl) <| Ug rfl rfl rfl <| Q4 ?_
  have e := Uc h2; subst e
  exact Qc (a0.kind == 2) (Qu (Ua rfl) (hA rfl) Un rfl (Nat.le_trans hv1 (Um rfl)) rfl rfl rfl (UF rfl rfl (UE rfl (UF rfl rfl (UF rfl rfl (UE rfl (UG rfl)))))) rfl rfl) h1
  intro v35 h1
  unfold m30f4_k4 at h1
  refine Q3 ?_
  refine Qg (b := v35) rfl (fun c38 => ?_) (fun c38 => ?_)
  replace h1 := Qk c38 h1
  refine Q5 <| Q0 <| Q9 rfl rfl (Um rfl) (OpOK.lit3E (α := Int) 0 1 2 W0 U4 rfl rfl (Um rfl) (Um rfl) rfl rfl rfl rfl (.cons (.d _) (.cons (.d _) (.cons (.d _) .nil))) ⟨rfl, rfl, rfl⟩) <| Ue rfl rfl rfl (Q1 Yn rfl) <| Ue rfl rfl rfl (Q6 QZ rfl rfl rfl) ?_
  refine Qb h1 (fun x39 hx39 h1 => ?_)
  refine Ue rfl rfl rfl (Qq (α := Int) W0 rfl (.app _ _) rfl hx39) <| Ue rfl rfl rfl (Js QZ rfl rfl) <| Ue rfl rfl rfl (Q1 ZH rfl) <| Qy rfl rfl (Qr QZ rfl rfl rfl rfl (Um rfl) rfl) <| Q4 <| Q3 <| Q0 <| Uf rfl rfl rfl <| Ue rfl rfl rfl (Q1 Y8 rfl) <| Ue rfl rfl rfl (Q6 JG rfl rfl rfl) <| Ue rfl rfl rfl (Qi Jm rfl rfl rfl rfl) ?_
  refine Qb h1 (fun y40 h2 h1 => ?_)
  have ha41 : ExecOK Try.prog (some 11) K6 ⟨[(0, .v (.one (.ptr 0 0))), (3, .v (.one (.ptr 2 0))), (4, .v (.one (.ptr 3 0))), (5, .v (.one (.ptr 7 0))), (72, .v (.one (.fn 49 [(9, 0), (8, 0)]))), (73, .v (.one (Jl a0.name))), (74, .v (.agg [Ux x39, Ux (a1.length : Int), Ux 0, Ux a0.params, Ux a0.ty.kind, Ux a0.ty.index, Jl a0.ty.name, Uv a0.ty.levels, Uv a0.ty.kids]))], m30f4_h11 a1 a2 a0 v19 x39, [(13, some ⟨3, 1, (Enc.encL ([0, 1, 2] : List Int)).length, []⟩)], 14, 95, []⟩ .normal ⟨[(5, .v (.one (.ptr 7 0))), (8, .v (.one (Jl a0.name))), (9, .v (.one (.ptr 14 0)))], m30f4_h14 a1 a2 a0 v19 x39, [(13, some ⟨3, 1, (Enc.encL ([0, 1, 2] : List Int)).length, []⟩)], 15, 95, []⟩ := by
   refine QI (fun w0 M V0 ro n Q hv2 hro2 hQn2 => ?_)
   refine Q5 <| Q0 <| Ug rfl rfl rfl <| Q4 <| Q3 <| Q0 <| Q9 rfl rfl (Um rfl) (Qm ZB rfl) <| Qy rfl rfl (Qr Jm rfl rfl rfl rfl (Um rfl) rfl) <| Q4 ?_
   exact Jr hQn2 (Qu (Ua rfl) (hA rfl) (Uo rfl) rfl (Nat.le_trans hv2 (Um rfl)) rfl rfl rfl (UF rfl rfl (UE rfl (UF rfl rfl (UF rfl rfl (UE rfl (UG rfl)))))) rfl rfl)
  have hb42 : ExecOK Try.prog (some 11) K5 ⟨[(5, .v (.one (.ptr 7 0))), (8, .v (.one (Jl a0.name))), (9, .v (.one (.ptr 14 0)))], m30f4_h13 a1 a2 a0 v19 x39, [(13, some ⟨3, 1, (Enc.encL ([0, 1, 2] : List Int)).length, []⟩)], 15, 95, []⟩ .normal ⟨[], m30f4_h16 a1 a2 a0 v19 x39, [(13, some ⟨3, 1, (Enc.encL ([0, 1, 2] : List Int)).length, []⟩)], 15, 95, []⟩ := by
   refine QI (fun w0 M V0 ro n Q hv2 hro2 hQn2 => ?_)
   refine Qf <| Q0 <| Ue rfl rfl rfl (Q6 YA rfl rfl rfl) <| Uf rfl rfl rfl <| Ue rfl rfl rfl (Qi Jm rfl rfl rfl rfl) <| Qy rfl rfl (Je (M := v19) (k := a0.name) (v := (⟨x39, (a1.length : Int), 0, a0.params, a0.ty⟩ : Ent)) YL rfl rfl rfl rfl rfl) <| Q4 <| Qe ?_
   have e := Uc h2; subst e
   exact Jr hQn2 (Qu U9 (hA rfl) (Uo rfl) rfl (Nat.le_trans hv2 (Um rfl)) rfl rfl rfl (UF rfl rfl (UE rfl (UF rfl rfl (UF rfl rfl (UE rfl (UG rfl)))))) rfl rfl)
  refine Q9 rfl rfl (Um rfl) (Jc (jump := none) rfl rfl rfl rfl rfl (Qw ha41 (fun E hv => (Qu (Ua rfl) (hA rfl) (Uo rfl) rfl (Nat.le_trans hv (Um rfl)) rfl rfl rfl (UF rfl rfl (UE rfl (UF rfl rfl (UF rfl rfl (UE rfl (UG rfl)))))) rfl rfl))) rfl (Qw hb42 (fun E hv => (Qu (Ua rfl) (hA rfl) (Uo rfl) rfl (Nat.le_trans hv (Um rfl)) rfl rfl rfl (UF rfl rfl (UE rfl (UF rfl rfl (UF rfl rfl (UE rfl (UG rfl)))))) rfl rfl))) rfl rfl) ?_
  refine Q4 <| Qe ?_
  have e := Uc h1; subst e
  exact hQ1 _ _ _ (.inl rfl) rfl (Qu U9 (hA rfl) Un rfl (Nat.le_trans hv1 (Um rfl)) rfl rfl rfl (UF rfl rfl (UE rfl (UF rfl rfl (UF rfl rfl (UE rfl (UG rfl)))))) rfl rfl)
  replace h1 := Ql c38 h1
  refine Q5 <| Q0 <| Ue rfl rfl rfl (Q7 rfl rfl rfl) <| Ug rfl rfl rfl <| Q4 <| Q3 ?_
  refine Qg (b := (a0.kind == 3)) rfl (fun c43 => ?_) (fun c43 => ?_)
  replace h1 := Qk c43 h1
  refine Q5 <| Q0 <| Ue rfl rfl rfl (Q1 ZH rfl) <| Qy rfl rfl (Qr QZ rfl rfl rfl rfl (Um rfl) rfl) <| Q4 <| Q3 <| Q5 <| Q5 <| Q0 <| Uf rfl rfl rfl <| Ue rfl rfl rfl (Q1 Y8 rfl) <| Ue rfl rfl rfl (Q6 JG rfl rfl rfl) <| Ue rfl rfl rfl (Qi Jm rfl rfl rfl rfl) ?_
  refine Qb h1 (fun y44 h2 h1 => ?_)
  have ha45 : ExecOK Try.prog (some 11) K6 ⟨[(0, .v (.one (.ptr 0 0))), (3, .v (.one (.ptr 2 0))), (4, .v (.one (.ptr 3 0))), (5, .v (.one (.ptr 7 0))), (72, .v (.one (.fn 49 [(9, 0), (8, 0)]))), (73, .v (.one (Jl a0.name))), (74, .v (.agg [Ux 3, Ux (a1.length : Int), Ux 0, Ux a0.params, Ux a0.ty.kind, Ux a0.ty.index, Jl a0.ty.name, Uv a0.ty.levels, Uv a0.ty.kids]))], m30f4_h18 a1 a2 a0 v19, [], 13, 95, []⟩ .normal ⟨[(5, .v (.one (.ptr 7 0))), (8, .v (.one (Jl a0.name))), (9, .v (.one (.ptr 13 0)))], m30f4_h20 a1 a2 a0 v19, [], 14, 95, []⟩ := by
   refine QI (fun w0 M V0 ro n Q hv2 hro2 hQn2 => ?_)
   refine Q5 <| Q0 <| Ug rfl rfl rfl <| Q4 <| Q3 <| Q0 <| Q9 rfl rfl (Um rfl) (Qm ZB rfl) <| Qy rfl rfl (Qr Jm rfl rfl rfl rfl (Um rfl) rfl) <| Q4 ?_
   exact Jr hQn2 (Qu (Ua rfl) (hA rfl) Un rfl (Nat.le_trans hv2 (Um rfl)) rfl rfl rfl (UF rfl rfl (UE rfl (UF rfl rfl (UF rfl rfl (UE rfl (UG rfl)))))) rfl rfl)
  have hb46 : ExecOK Try.prog (some 11) K5 ⟨[(5, .v (.one (.ptr 7 0))), (8, .v (.one (Jl a0.name))), (9, .v (.one (.ptr 13 0)))], m30f4_h19 a1 a2 a0 v19, [], 14, 95, []⟩ .normal ⟨[], m30f4_h22 a1 a2 a0 v19, [], 14, 95, []⟩ := by
   refine QI (fun w0 M V0 ro n Q hv2 hro2 hQn2 => ?_)
   refine Qf <| Q0 <| Ue rfl rfl rfl (Q6 YA rfl rfl rfl) <| Uf rfl rfl rfl <| Ue rfl rfl rfl (Qi Jm rfl rfl rfl rfl) <| Qy rfl rfl (Je (M := v19) (k := a0.name) (v := (⟨3, (a1.length : Int), 0, a0.params, a0.ty⟩ : Ent)) YL rfl rfl rfl rfl rfl) <| Q4 <| Qe ?_
   have e := Uc h2; subst e
   exact Jr hQn2 (Qu U9 (hA rfl) Un rfl (Nat.le_trans hv2 (Um rfl)) rfl rfl rfl (UF rfl rfl (UE rfl (UF rfl rfl (UF rfl rfl (UE rfl (UG rfl)))))) rfl rfl)
  refine Q9 rfl rfl (Um rfl) (Jc (jump := none) rfl rfl rfl rfl rfl (Qw ha45 (fun E hv => (Qu (Ua rfl) (hA rfl) Un rfl (Nat.le_trans hv (Um rfl)) rfl rfl rfl (UF rfl rfl (UE rfl (UF rfl rfl (UF rfl rfl (UE rfl (UG rfl)))))) rfl rfl))) rfl (Qw hb46 (fun E hv => (Qu (Ua rfl) (hA rfl) Un rfl (Nat.le_trans hv (Um rfl)) rfl rfl rfl (UF rfl rfl (UE rfl (UF rfl rfl (UF rfl rfl (UE rfl (UG rfl)))))) rfl rfl))) rfl rfl) ?_
  refine Ue rfl rfl rfl (Jb rfl) <| Q4 <| Q3 ?_
  refine Qg rfl (fun h => nomatch h) (fun _ => ?_)
  refine Qj <| Q3 <| Q5 <| Q5 <| Q0 <| Ue rfl rfl rfl (Q1 Yc rfl) <| Ue rfl rfl rfl (Q6 Zc rfl rfl rfl) <| Ue rfl rfl rfl (Qx (α := Ctr) Yv rfl (.d _)) <| Uf rfl rfl rfl <| Q4 <| Q3 <| Qf ?_
  refine QR 1 (fun (o47 : (Qa UN Ent)) => ⟨[(0, .v (.one (.yld 11))), (1, .v (.one (.ptr 9 0))), (2, .v (.one (.ptr 8 0)))], [(0, .cells 62 [Uv a1, .mp 1]), (1, .mp (QO a2.1) a2.2), (2, .cells 45 (UA a0)), (3, .cells 25 [Ux 0]), (6, .mp (QO o47.1) o47.2), (7, .cells 60 [.mp 6]), (8, .cells 45 (UA a0)), (9, .cells 3 [Ux (a1.length : Int)]), (10, .obj (.deferred (some []))), (11, Yz), (12, Yf a1 a0)], [], 14, 98, []⟩) (fun (o47 : (Qa UN Ent)) => (m30f4_k2 a0 o47 a1) = some y33) ?_ ?_
  refine Qb h1 (fun o48 hl2 h1 => ?_)
  refine QQ (m30f4_l1 a0 a1) (fun s2 => ⟨[(0, .v (.one (.yld 11))), (1, .v (.one (.ptr 9 0))), (2, .v (.one (.ptr 8 0))), (42, .v (.one (Uv a0.ctors))), (43, .v (.one (Ux (a0.ctors.length : Int)))), (44, .v (.one (Ux s2.1)))], [(0, .cells 62 [Uv a1, .mp 1]), (1, .mp (QO a2.1) a2.2), (2, .cells 45 (UA a0)), (3, .cells 25 [Ux 0]), (6, .mp (QO s2.2.1) s2.2.2), (7, .cells 60 [.mp 6]), (8, .cells 45 (UA a0)), (9, .cells 3 [Ux (a1.length : Int)]), (10, .obj (.deferred (some []))), (11, Yz), (12, Yf a1 a0)], [], 14, 98, []⟩) (0, (J5 v19 a0.name (⟨3, (a1.length : Int), 0, a0.params, a0.ty⟩ : Ent))) o48 (Qu (Ua rfl) (hA rfl) Un rfl (Nat.le_trans hv1 (Um rfl)) rfl rfl rfl (UF rfl rfl (UE rfl (UF rfl rfl (UF rfl rfl (UE rfl (UG rfl)))))) rfl rfl) hl2 (fun s2 n2 oo2 h2 ho2 => ?_)
  unfold m30f4_l1 at h2
  refine Q5 <| Q0 <| Ue rfl rfl rfl (Q7 rfl rfl rfl) <| Q4 <| Q3 <| Q5 ?_
  refine Qg (b := (decide (s2.1 < (a0.ctors.length : Int)))) rfl (fun c49 => ?_) (fun c49 => ?_)
  replace h2 := Qk c49 h2
  refine Qj <| Q3 <| Q5 <| Qf <| Q5 <| Q0 <| Uf rfl rfl rfl ?_
  refine Qb h2 (fun x50 hx50 h2 => ?_)
  refine Ue rfl rfl rfl (Qq (α := Ctr) Yv rfl (.d _) rfl hx50) <| Ue rfl rfl rfl (Qv (x50 : Ctr) ZQ rfl) <| Q9 rfl rfl (Um rfl) (Qm Wj rfl) <| Ug rfl rfl rfl <| Qy rfl rfl (QC (x50 : Ctr) ZQ rfl rfl rfl rfl rfl) <| Q4 <| Q3 <| Q5 <| Q0 <| Uf rfl rfl rfl <| Ue rfl rfl rfl (Q1 Kk rfl) <| Ue rfl rfl rfl (Q6 JG rfl rfl rfl) <| Ue rfl rfl rfl (Q6 QZ rfl rfl rfl) <| Uf rfl rfl rfl ?_
  refine Ue rfl rfl rfl (Q1 Ym rfl) <| Ue rfl rfl rfl (Q6 QZ rfl rfl rfl) <| Ue rfl rfl rfl (Q1 K2 rfl) <| Ue rfl rfl rfl (Qi QW rfl rfl rfl rfl) <| Ue rfl rfl rfl (Y1 K9 rfl (.cons rfl (.cons rfl (.cons rfl (.cons rfl (.cons rfl .nil))))) rfl) ?_
  refine Qb h2 (fun y51 h3 h2 => ?_)
  have ha52 : ExecOK Try.prog (some 11) K6 ⟨[(0, .v (.one (.ptr 0 0))), (3, .v (.one (.ptr 2 0))), (4, .v (.one (.ptr 3 0))), (5, .v (.one (.ptr 7 0))), (72, .v (.one (.fn 49 [(9, 0), (8, 0)]))), (73, .v (.one (Jl x50.name))), (74, .v (.agg [Ux 4, Ux (a1.length : Int), Ux s2.1, Ux a0.params, Ux x50.ty.kind, Ux x50.ty.index, Jl x50.ty.name, Uv x50.ty.levels, Uv x50.ty.kids]))], m30f4_h23 a1 a2 a0 s2 x50, [], 15, 95, []⟩ .normal ⟨[(5, .v (.one (.ptr 7 0))), (8, .v (.one (Jl x50.name))), (9, .v (.one (.ptr 15 0)))], m30f4_h26 a1 a2 a0 s2 x50, [], 16, 95, []⟩ := by
   refine QI (fun w0 M V0 ro n Q hv3 hro3 hQn3 => ?_)
   refine Q5 <| Q0 <| Ug rfl rfl rfl <| Q4 <| Q3 <| Q0 <| Q9 rfl rfl (Um rfl) (Qm ZB rfl) <| Qy rfl rfl (Qr Jm rfl rfl rfl rfl (Um rfl) rfl) <| Q4 ?_
   exact Jr hQn3 (Qu (Ua rfl) (hA rfl) Un rfl (Nat.le_trans hv3 (Um rfl)) rfl rfl rfl (UF rfl rfl (UE rfl (UF rfl rfl (UF rfl rfl (UE rfl (UG rfl)))))) rfl rfl)
  have hb53 : ExecOK Try.prog (some 11) K5 ⟨[(5, .v (.one (.ptr 7 0))), (8, .v (.one (Jl x50.name))), (9, .v (.one (.ptr 15 0)))], m30f4_h25 a1 a2 a0 s2 x50, [], 16, 95, []⟩ .normal ⟨[], m30f4_h28 a1 a2 a0 s2 x50, [], 16, 95, []⟩ := by
   refine QI (fun w0 M V0 ro n Q hv3 hro3 hQn3 => ?_)
   refine Qf <| Q0 <| Ue rfl rfl rfl (Q6 YA rfl rfl rfl) <| Uf rfl rfl rfl <| Ue rfl rfl rfl (Qi Jm rfl rfl rfl rfl) <| Qy rfl rfl (Je (M := s2.2) (k := x50.name) (v := (⟨4, (a1.length : Int), s2.1, a0.params, x50.ty⟩ : Ent)) YL rfl rfl rfl rfl rfl) <| Q4 <| Qe ?_
   have e := Uc h3; subst e
   exact Jr hQn3 (Qu U9 (hA rfl) Un rfl (Nat.le_trans hv3 (Um rfl)) rfl rfl rfl (UF rfl rfl (UE rfl (UF rfl rfl (UF rfl rfl (UE rfl (UG rfl)))))) rfl rfl)
  refine Q9 rfl rfl (Um rfl) (Jc (jump := none) rfl rfl rfl rfl rfl (Qw ha52 (fun E hv => (Qu (Ua rfl) (hA rfl) Un rfl (Nat.le_trans hv (Um rfl)) rfl rfl rfl (UF rfl rfl (UE rfl (UF rfl rfl (UF rfl rfl (UE rfl (UG rfl)))))) rfl rfl))) rfl (Qw hb53 (fun E hv => (Qu (Ua rfl) (hA rfl) Un rfl (Nat.le_trans hv (Um rfl)) rfl rfl rfl (UF rfl rfl (UE rfl (UF rfl rfl (UF rfl rfl (UE rfl (UG rfl)))))) rfl rfl))) rfl rfl) ?_
  refine Ue rfl rfl rfl (Jb rfl) <| Q4 <| Q3 ?_
  refine Qg rfl (fun h => nomatch h) (fun _ => ?_)
  refine Qj <| Qe <| Q3 <| Q0 <| Ue rfl rfl rfl (Q7 rfl rfl rfl) <| Uf rfl rfl rfl <| Q4 ?_
  have e := Uc h2; subst e
  refine QM ((Jk (s2.1 + 1)), (J5 s2.2 x50.name (⟨4, (a1.length : Int), s2.1, a0.params, x50.ty⟩ : Ent))) (Qu (Ua rfl) (hA rfl) Un rfl (Nat.le_trans hv1 (Um rfl)) rfl rfl rfl (UF rfl rfl (UE rfl (UF rfl rfl (UF rfl rfl (UE rfl (UG rfl)))))) rfl rfl) ho2
  replace h2 := Ql c49 h2
  refine J1 <| Qn <| Qn ?_
  have e := Uc h2; subst e
  have e_ : _ = _ := ho2
  subst e_
  exact QP s2.2 (Qu (Ua rfl) (hA rfl) Un rfl (Nat.le_trans hv1 (Um rfl)) rfl rfl rfl (UF rfl rfl (UE rfl (UF rfl rfl (UF rfl rfl (UE rfl (UG rfl)))))) rfl rfl) h1
  intro o47 h1
  unfold m30f4_k2 at h1
  refine QF <| Q3 <| Q0 <| Uf rfl rfl rfl <| Ue rfl rfl rfl (Q1 Y8 rfl) <| Ue rfl rfl rfl (Q6 JG rfl rfl rfl) ?_
  refine JC h1 (fun g54 h1 => ?_)
  refine Ue rfl rfl rfl (Gr rfl rfl g54) <| Ue rfl rfl rfl (Q6 QZ rfl rfl rfl) <| Ue rfl rfl rfl (Q1 JO rfl) <| Ue rfl rfl rfl (Q1 KU rfl) <| Ue rfl rfl rfl (Q6 QZ rfl rfl rfl) <| Ue rfl rfl rfl (Q1 JO rfl) <| Ue rfl rfl rfl (Q1 Kl rfl) <| Ue rfl rfl rfl (Qi QW rfl rfl rfl rfl) <| Ue rfl rfl rfl (Y1 K9 rfl (.cons rfl (.cons rfl (.cons rfl (.cons rfl .nil)))) rfl) ?_
  refine Qb h1 (fun y55 h2 h1 => ?_)
  have ha56 : ExecOK Try.prog (some 11) K6 ⟨[(0, .v (.one (.ptr 0 0))), (3, .v (.one (.ptr 2 0))), (4, .v (.one (.ptr 3 0))), (5, .v (.one (.ptr 7 0))), (72, .v (.one (.fn 49 [(9, 0), (8, 0)]))), (73, .v (.one (Jl (a0.name ++ ([46, 114, 101, 99] : List UInt8))))), (74, .v (.agg [Ux 5, Ux (a1.length : Int), Ux 0, Ux a0.rcr.params, Ux a0.rcr.ty.kind, Ux a0.rcr.ty.index, Jl a0.rcr.ty.name, Uv a0.rcr.ty.levels, Uv a0.rcr.ty.kids]))], m30f4_h18 a1 a2 a0 o47, [], 14, 95, []⟩ .normal ⟨[(5, .v (.one (.ptr 7 0))), (8, .v (.one (Jl (a0.name ++ ([46, 114, 101, 99] : List UInt8))))), (9, .v (.one (.ptr 14 0)))], m30f4_h31 a1 a2 a0 o47, [], 15, 95, []⟩ := by
   refine QI (fun w0 M V0 ro n Q hv2 hro2 hQn2 => ?_)
   refine Q5 <| Q0 <| Ug rfl rfl rfl <| Q4 <| Q3 <| Q0 <| Q9 rfl rfl (Um rfl) (Qm ZB rfl) <| Qy rfl rfl (Qr Jm rfl rfl rfl rfl (Um rfl) rfl) <| Q4 ?_
   exact Jr hQn2 (Qu (Ua rfl) (hA rfl) Un rfl (Nat.le_trans hv2 (Um rfl)) rfl rfl rfl (UF rfl rfl (UE rfl (UF rfl rfl (UF rfl rfl (UE rfl (UG rfl)))))) rfl rfl)
  have hb57 : ExecOK Try.prog (some 11) K5 ⟨[(5, .v (.one (.ptr 7 0))), (8, .v (.one (Jl (a0.name ++ ([46, 114, 101, 99] : List UInt8))))), (9, .v (.one (.ptr 14 0)))], m30f4_h30 a1 a2 a0 o47, [], 15, 95, []⟩ .normal ⟨[], m30f4_h33 a1 a2 a0 o47, [], 15, 95, []⟩ := by
   refine QI (fun w0 M V0 ro n Q hv2 hro2 hQn2 => ?_)
   refine Qf <| Q0 <| Ue rfl rfl rfl (Q6 YA rfl rfl rfl) <| Uf rfl rfl rfl <| Ue rfl rfl rfl (Qi Jm rfl rfl rfl rfl) <| Qy rfl rfl (Je (M := o47) (k := (a0.name ++ ([46, 114, 101, 99] : List UInt8))) (v := (⟨5, (a1.length : Int), 0, a0.rcr.params, a0.rcr.ty⟩ : Ent)) YL rfl rfl rfl rfl rfl) <| Q4 <| Qe ?_
   have e := Uc h2; subst e
   exact Jr hQn2 (Qu U9 (hA rfl) Un rfl (Nat.le_trans hv2 (Um rfl)) rfl rfl rfl (UF rfl rfl (UE rfl (UF rfl rfl (UF rfl rfl (UE rfl (UG rfl)))))) rfl rfl)
  refine Q9 rfl rfl (Um rfl) (Jc (jump := none) rfl rfl rfl rfl rfl (Qw ha56 (fun E hv => (Qu (Ua rfl) (hA rfl) Un rfl (Nat.le_trans hv (Um rfl)) rfl rfl rfl (UF rfl rfl (UE rfl (UF rfl rfl (UF rfl rfl (UE rfl (UG rfl)))))) rfl rfl))) rfl (Qw hb57 (fun E hv => (Qu (Ua rfl) (hA rfl) Un rfl (Nat.le_trans hv (Um rfl)) rfl rfl rfl (UF rfl rfl (UE rfl (UF rfl rfl (UF rfl rfl (UE rfl (UG rfl)))))) rfl rfl))) rfl rfl) ?_
  refine Q4 <| Qe ?_
  have e := Uc h1; subst e
  exact hQ1 _ _ _ (.inl rfl) rfl (Qu U9 (hA rfl) Un rfl (Nat.le_trans hv1 (Um rfl)) rfl rfl rfl (UF rfl rfl (UE rfl (UF rfl rfl (UF rfl rfl (UE rfl (UG rfl)))))) rfl rfl)
  replace h1 := Ql c43 h1
  refine Q5 <| Q0 <| Ue rfl rfl rfl (Q7 rfl rfl rfl) <| Ug rfl rfl rfl <| Q4 <| Q3 ?_
  refine Qg (b := (a0.kind == 4)) rfl (fun c58 => ?_) (fun c58 => ?_)
  replace h1 := Qk c58 h1
  refine Q5 <| Q0 <| Ue rfl rfl rfl (Q1 Y2 rfl) <| Ue rfl rfl rfl (Q6 YZ rfl rfl rfl) <| Ue rfl rfl rfl (Qx (α := Fn) Yk rfl (.d _)) <| Uf rfl rfl rfl <| Q4 <| Q3 <| Qf ?_
  refine QR 3 (fun (o59 : (Qa UN Ent)) => ⟨[], [(0, .cells 62 [Uv a1, .mp 1]), (1, .mp (QO a2.1) a2.2), (2, .cells 45 (UA a0)), (3, .cells 25 [Ux 0]), (6, .mp (QO o59.1) o59.2), (7, .cells 60 [.mp 6]), (8, .cells 45 (UA a0)), (9, .cells 3 [Ux (a1.length : Int)]), (10, .obj (.deferred (some []))), (11, Yz), (12, KB a1 a0)], [], 13, 98, []⟩) (fun (o59 : (Qa UN Ent)) => (some o59) = some y33) ?_ ?_
  refine Qb h1 (fun o60 hl2 h1 => ?_)
  refine QQ (m30f4_l3 a0 a1) (fun s2 => ⟨[(0, .v (.one (.yld 11))), (1, .v (.one (.ptr 9 0))), (2, .v (.one (.ptr 8 0))), (78, .v (.one (Uv a0.funs))), (79, .v (.one (Ux (a0.funs.length : Int)))), (80, .v (.one (Ux s2.1)))], [(0, .cells 62 [Uv a1, .mp 1]), (1, .mp (QO a2.1) a2.2), (2, .cells 45 (UA a0)), (3, .cells 25 [Ux 0]), (6, .mp (QO s2.2.1) s2.2.2), (7, .cells 60 [.mp 6]), (8, .cells 45 (UA a0)), (9, .cells 3 [Ux (a1.length : Int)]), (10, .obj (.deferred (some []))), (11, Yz), (12, KB a1 a0)], [], 13, 98, []⟩) (0, v19) o60 (Qu (Ua rfl) (hA rfl) Un rfl (Nat.le_trans hv1 (Um rfl)) rfl rfl rfl (UF rfl rfl (UE rfl (UF rfl rfl (UF rfl rfl (UE rfl (UG rfl)))))) rfl rfl) hl2 (fun s2 n2 oo2 h2 ho2 => ?_)
  unfold m30f4_l3 at h2
  refine Q5 <| Q0 <| Ue rfl rfl rfl (Q7 rfl rfl rfl) <| Q4 <| Q3 <| Q5 ?_
  refine Qg (b := (decide (s2.1 < (a0.funs.length : Int)))) rfl (fun c61 => ?_) (fun c61 => ?_)
  replace h2 := Qk c61 h2
  refine Qj <| Q3 <| Q5 <| Qf <| Q5 <| Q0 <| Uf rfl rfl rfl ?_
  refine Qb h2 (fun x62 hx62 h2 => ?_)
  refine Ue rfl rfl rfl (Qq (α := Fn) Yk rfl (.d _) rfl hx62) <| Ue rfl rfl rfl (Qv (x62 : Fn) Zx rfl) <| Q9 rfl rfl (Um rfl) (Qm Wi rfl) <| Ug rfl rfl rfl <| Qy rfl rfl (QC (x62 : Fn) Zx rfl rfl rfl rfl rfl) <| Q4 <| Q3 <| Q5 <| Q0 <| Uf rfl rfl rfl <| Ue rfl rfl rfl (Q1 Gp rfl) <| Ue rfl rfl rfl (Q6 JG rfl rfl rfl) <| Ue rfl rfl rfl (Q6 QZ rfl rfl rfl) <| Uf rfl rfl rfl ?_
  refine Ue rfl rfl rfl (Q1 Ym rfl) <| Ue rfl rfl rfl (Q6 QZ rfl rfl rfl) <| Ue rfl rfl rfl (Q1 KT rfl) <| Ue rfl rfl rfl (Qi QW rfl rfl rfl rfl) <| Ue rfl rfl rfl (Y1 K9 rfl (.cons rfl (.cons rfl (.cons rfl (.cons rfl (.cons rfl .nil))))) rfl) ?_
  refine Qb h2 (fun y63 h3 h2 => ?_)
  have ha64 : ExecOK Try.prog (some 11) K6 ⟨[(0, .v (.one (.ptr 0 0))), (3, .v (.one (.ptr 2 0))), (4, .v (.one (.ptr 3 0))), (5, .v (.one (.ptr 7 0))), (72, .v (.one (.fn 49 [(9, 0), (8, 0)]))), (73, .v (.one (Jl x62.name))), (74, .v (.agg [Ux 6, Ux (a1.length : Int), Ux s2.1, Ux a0.params, Ux x62.ty.kind, Ux x62.ty.index, Jl x62.ty.name, Uv x62.ty.levels, Uv x62.ty.kids]))], m30f4_h34 a1 a2 a0 s2 x62, [], 14, 95, []⟩ .normal ⟨[(5, .v (.one (.ptr 7 0))), (8, .v (.one (Jl x62.name))), (9, .v (.one (.ptr 14 0)))], m30f4_h37 a1 a2 a0 s2 x62, [], 15, 95, []⟩ := by
   refine QI (fun w0 M V0 ro n Q hv3 hro3 hQn3 => ?_)
   refine Q5 <| Q0 <| Ug rfl rfl rfl <| Q4 <| Q3 <| Q0 <| Q9 rfl rfl (Um rfl) (Qm ZB rfl) <| Qy rfl rfl (Qr Jm rfl rfl rfl rfl (Um rfl) rfl) <| Q4 ?_
   exact Jr hQn3 (Qu (Ua rfl) (hA rfl) Un rfl (Nat.le_trans hv3 (Um rfl)) rfl rfl rfl (UF rfl rfl (UE rfl (UF rfl rfl (UF rfl rfl (UE rfl (UG rfl)))))) rfl rfl)
  have hb65 : ExecOK Try.prog (some 11) K5 ⟨[(5, .v (.one (.ptr 7 0))), (8, .v (.one (Jl x62.name))), (9, .v (.one (.ptr 14 0)))], m30f4_h36 a1 a2 a0 s2 x62, [], 15, 95, []⟩ .normal ⟨[], m30f4_h39 a1 a2 a0 s2 x62, [], 15, 95, []⟩ := by
   refine QI (fun w0 M V0 ro n Q hv3 hro3 hQn3 => ?_)
   refine Qf <| Q0 <| Ue rfl rfl rfl (Q6 YA rfl rfl rfl) <| Uf rfl rfl rfl <| Ue rfl rfl rfl (Qi Jm rfl rfl rfl rfl) <| Qy rfl rfl (Je (M := s2.2) (k := x62.name) (v := (⟨6, (a1.length : Int), s2.1, a0.params, x62.ty⟩ : Ent)) YL rfl rfl rfl rfl rfl) <| Q4 <| Qe ?_
   have e := Uc h3; subst e
   exact Jr hQn3 (Qu U9 (hA rfl) Un rfl (Nat.le_trans hv3 (Um rfl)) rfl rfl rfl (UF rfl rfl (UE rfl (UF rfl rfl (UF rfl rfl (UE rfl (UG rfl)))))) rfl rfl)
  refine Q9 rfl rfl (Um rfl) (Jc (jump := none) rfl rfl rfl rfl rfl (Qw ha64 (fun E hv => (Qu (Ua rfl) (hA rfl) Un rfl (Nat.le_trans hv (Um rfl)) rfl rfl rfl (UF rfl rfl (UE rfl (UF rfl rfl (UF rfl rfl (UE rfl (UG rfl)))))) rfl rfl))) rfl (Qw hb65 (fun E hv => (Qu (Ua rfl) (hA rfl) Un rfl (Nat.le_trans hv (Um rfl)) rfl rfl rfl (UF rfl rfl (UE rfl (UF rfl rfl (UF rfl rfl (UE rfl (UG rfl)))))) rfl rfl))) rfl rfl) ?_
  refine Ue rfl rfl rfl (Jb rfl) <| Q4 <| Q3 ?_
  refine Qg rfl (fun h => nomatch h) (fun _ => ?_)
  refine Qj <| Qe <| Q3 <| Q0 <| Ue rfl rfl rfl (Q7 rfl rfl rfl) <| Uf rfl rfl rfl <| Q4 ?_
  have e := Uc h2; subst e
  refine QM ((Jk (s2.1 + 1)), (J5 s2.2 x62.name (⟨6, (a1.length : Int), s2.1, a0.params, x62.ty⟩ : Ent))) (Qu (Ua rfl) (hA rfl) Un rfl (Nat.le_trans hv1 (Um rfl)) rfl rfl rfl (UF rfl rfl (UE rfl (UF rfl rfl (UF rfl rfl (UE rfl (UG rfl)))))) rfl rfl) ho2
  replace h2 := Ql c61 h2
  refine J1 <| Qn <| Qn ?_
  have e := Uc h2; subst e
  have e_ : _ = _ := ho2
  subst e_
  exact QP s2.2 (Qu U9 (hA rfl) Un rfl (Nat.le_trans hv1 (Um rfl)) rfl rfl rfl (UF rfl rfl (UE rfl (UF rfl rfl (UF rfl rfl (UE rfl (UG rfl)))))) rfl rfl) h1
  intro o59 h1
  refine QF <| Qe ?_
  have e := Uc h1; subst e
  exact hQ1 _ _ _ (.inl rfl) rfl (Qu U9 (hA rfl) Un rfl (Nat.le_trans hv1 (Um rfl)) rfl rfl rfl (UF rfl rfl (UE rfl (UF rfl rfl (UF rfl rfl (UE rfl (UG rfl)))))) rfl rfl)
  replace h1 := Ql c58 h1
  refine Qj <| Qe ?_
  have e := Uc h1; subst e
  exact hQ1 _ _ _ (.inl rfl) rfl (Qu U9 (hA rfl) Un rfl (Nat.le_trans hv1 (Um rfl)) rfl rfl rfl (UF rfl rfl (UE rfl (UF rfl rfl (UF rfl rfl (UE rfl (UG rfl)))))) rfl rfl)
 refine ZK (Y5 (e := .normal) rfl hc34 rfl rfl (by intro h; cases h) rfl) rfl ?_
 refine Qe <| Q3 <| Q5 <| Q5 <| Q0 <| Ue rfl rfl rfl (Q1 Y2 rfl) <| Ue rfl rfl rfl (Q6 YZ rfl rfl rfl) <| Ue rfl rfl rfl (Qx (α := Fn) Yk rfl (.d _)) <| Uf rfl rfl rfl <| Q4 <| Q3 <| Qf ?_
 refine QR 4 (fun (o66 : Unit) => ⟨[(4, .v (.one (.ptr 3 0)))], G5 a1 a2 a0 y33, [], 13, 95, [3, 43, 90]⟩) (fun (o66 : Unit) => (some 0) = some r) ?_ ?_
 refine Qb h0 (fun o67 hl1 h0 => ?_)
 refine QQ (m30f4_l5 a0 a1 a2 y33) (fun s1 => ⟨[(0, .v (.one (.ptr 0 0))), (3, .v (.one (.ptr 2 0))), (4, .v (.one (.ptr 3 0))), (5, .v (.one (.ptr 7 0))), (79, .v (.one (Uv a0.funs))), (80, .v (.one (Ux (a0.funs.length : Int)))), (81, .v (.one (Ux s1)))], G5 a1 a2 a0 y33, [], 13, 95, [3, 43, 90]⟩) 0 o67 (Qu (Ua rfl) (hA rfl) Un rfl (Nat.le_trans hv0 (Um rfl)) rfl rfl rfl (UF rfl rfl (UE rfl (UF rfl rfl (UF rfl rfl (UE rfl (UG rfl)))))) rfl rfl) hl1 (fun s1 n1 oo1 h1 ho1 => ?_)
 unfold m30f4_l5 at h1
 refine Q5 <| Q0 <| Ue rfl rfl rfl (Q7 rfl rfl rfl) <| Q4 <| Q3 <| Q5 ?_
 refine Qg (b := (decide (s1 < (a0.funs.length : Int)))) rfl (fun c68 => ?_) (fun c68 => ?_)
 replace h1 := Qk c68 h1
 refine Qj <| Q3 <| Q5 <| Qf <| Q5 <| Q0 ?_
 refine Qb h1 (fun x69 hx69 h1 => ?_)
 refine Ue rfl rfl rfl (Qq (α := Fn) Yk rfl (.d _) rfl hx69) <| Ue rfl rfl rfl (Qv (x69 : Fn) Zx rfl) <| Q9 rfl rfl (Um rfl) (Qm Wi rfl) <| Qy rfl rfl (QC (x69 : Fn) Zx rfl rfl rfl rfl rfl) <| Q4 <| Q3 <| Q0 <| Uf rfl rfl rfl <| Ue rfl rfl rfl (Q1 fo_76_3 rfl) <| Ue rfl rfl rfl (Qi X9 rfl rfl rfl rfl) <| Ue rfl rfl rfl (Q1 fo_76_2 rfl) <| Ue rfl rfl rfl (Q6 QZ rfl rfl rfl) <| Ue rfl rfl rfl (Q1 Ym rfl) <| Ue rfl rfl rfl (Q6 QZ rfl rfl rfl) ?_
 refine Ue rfl rfl rfl (Q6 YA rfl rfl rfl) ?_
 refine Qb h1 (fun x70 hx70 h1 => ?_)
 refine JY id hx70 h1 (fun x71 hx71 h1 => ?_) (fun x72 hx72 h1 => ?_)
 refine Q9 rfl rfl (Um rfl) (J4 (hp1' := [(0, .cells 62 [Uv a1, .mp 1]), (1, .mp (QO a2.1) a2.2), (6, .mp (QO y33.1) y33.2)]) (tk1' := []) (hpF := m30f4_h40 a0 a1 x69) (tkF := []) (res2 := QD []) (nx2 := 15) [0, 1, 6] rfl rfl (CallE.m (m48f11_ok x69.tree x69.arity 0 a0.params a1 a2 y33 (.inl x71) hx71)) rfl rfl (Uj rfl rfl (Ui rfl (Ui rfl Uh))) rfl rfl (Ut rfl (Uu rfl (Uu rfl Us))) Up (hA rfl) Un rfl rfl rfl rfl rfl (UF rfl rfl (UE rfl (UE rfl UD))) rfl rfl rfl rfl) <| Q4 <| Qe <| Q3 <| Q0 <| Ue rfl rfl rfl (Q7 rfl rfl rfl) <| Uf rfl rfl rfl <| Q4 ?_
 have e := Uc h1; subst e
 refine QM (Jk (s1 + 1)) (Qu (Ua rfl) (hA rfl) Un rfl (Nat.le_trans hv0 (Um rfl)) rfl rfl rfl (UF rfl rfl (UE rfl (UF rfl rfl (UF rfl rfl (UE rfl (UG rfl)))))) rfl rfl) ho1
 refine Jd rfl (Yy (hp1' := [(0, .cells 62 [Uv a1, .mp 1]), (1, .mp (QO a2.1) a2.2), (6, .mp (QO y33.1) y33.2)]) (tk1' := []) (hpF := m30f4_h40 a0 a1 x69) (tkF := []) (nx2 := 15) [0, 1, 6] rfl rfl (CallE.d (m48f11_ok x69.tree x69.arity 0 a0.params a1 a2 y33 (.inr x72) hx72)) rfl rfl (Uj rfl rfl (Ui rfl (Ui rfl Uh))) rfl (Ut rfl (Uu rfl (Uu rfl Us))) Up (hA rfl) Un rfl rfl rfl rfl rfl (UF rfl rfl (UE rfl (UE rfl UD))) rfl rfl rfl rfl) ?_
 have e := Uc h1; subst e
 have e_ : _ = _ := ho1
 subst e_
 try dsimp only [Sum.elim_inl, Sum.elim_inr] at h0
 have e := Uc h0; subst e
 exact Jn (hQ0 (.panic (Jz (QJ 90 x72))) _ rfl (Wg _ _ _ rfl (Qu (Ua rfl) (hA rfl) Un rfl (Nat.le_trans hv0 (Um rfl)) rfl rfl rfl (UF rfl rfl (UE rfl (UG rfl))) rfl rfl))) (fun _ _ h => h)
 replace h1 := Ql c68 h1
 refine J1 <| Qn <| Qn ?_
 have e := Uc h1; subst e
 have e_ : _ = _ := ho1
 subst e_
 exact QP () (Qu (Ua rfl) (hA rfl) Un rfl (Nat.le_trans hv0 (Um rfl)) rfl rfl rfl (UF rfl rfl (UE rfl (UF rfl rfl (UF rfl rfl (UE rfl (UG rfl)))))) rfl rfl) h0
 intro o66 h0
 refine QF <| Q3 <| Q5 <| Q0 <| Qy rfl rfl (Qr ZR rfl rfl rfl rfl (Um rfl) rfl) <| Q4 <| Q3 <| QA ?_
 have e := Uc h0; subst e
 exact hQ0 _ _ rfl (cendN (.inr rfl) (Qu (Ua rfl) (hA rfl) Un rfl (Nat.le_trans hv0 (Um rfl)) rfl rfl rfl (UF rfl rfl (UE rfl (UG rfl))) rfl rfl))
 refine Jd rfl (Yy (hp1' := [(0, .cells 62 [Uv a1, .mp 1]), (1, .mp (QO a2.1) a2.2)]) (tk1' := []) (hpF := [(2, .cells 45 (UA a0)), (3, .cells 25 [Ux 0])]) (tkF := []) (nx2 := 6) [0, 1] rfl rfl (CallE.d (m45f7_ok a0 a1 a2 (.inr x6) hx6)) rfl rfl (Uj rfl rfl (Ui rfl Uh)) rfl (Ut rfl (Uu rfl Us)) Up (hA rfl) Un rfl rfl rfl rfl rfl (UF rfl rfl (UE rfl UD)) rfl rfl rfl rfl) ?_
 have e := Uc h0; subst e
 exact Jn (hQ0 (.panic (Jz (QJ 90 x6))) _ rfl (Wg _ _ _ rfl (Qu (Ua rfl) (hA rfl) Un rfl (Nat.le_trans hv0 (Um rfl)) rfl rfl rfl (UF rfl rfl (UE rfl (UG rfl))) rfl rfl))) (fun _ _ h => h)
 refine Jd rfl (QH rfl rfl rfl (CallE.d (m44f5_ok a0 (.inr x3) hx3))) ?_
 have e := Uc h0; subst e
 exact Jn (hQ0 (.panic (Jz (QJ 90 x3))) _ rfl (Wg _ _ _ rfl (Qu (Ua rfl) (hA rfl) Un rfl (Nat.le_trans hv0 (Um rfl)) rfl rfl rfl (UF rfl rfl (UE rfl (UG rfl))) rfl rfl))) (fun _ _ h => h)
noncomputable def m11_l0 (x4 : Dcl) (s1 : Int × (Qa UN Ent) × (List Dcl)) (s3 : Int × (Qa UN Ent)) : Option (LO (Int × (Qa UN Ent)) (((Qa UN Ent)))) :=
 cond (decide (s3.1 < (x4.ctors.length : Int)))
   (Option.bind (Yi x4.ctors s3.1) fun (x24 : Ctr) =>
 Option.bind (some ()) (fun (y25 : Unit) => some (.next ((Jk (s3.1 + 1)), (J5 s3.2 x24.name (⟨4, s1.1, s3.1, x4.params, x24.ty⟩ : Ent))))))
   (some (.done s3.2))
noncomputable def m11_l1 (x4 : Dcl) (s1 : Int × (Qa UN Ent) × (List Dcl)) (s3 : Int × (Qa UN Ent)) : Option (LO (Int × (Qa UN Ent)) (((Qa UN Ent)))) :=
 cond (decide (s3.1 < (x4.funs.length : Int)))
   (Option.bind (Yi x4.funs s3.1) fun (x36 : Fn) =>
 Option.bind (some ()) (fun (y37 : Unit) => some (.next ((Jk (s3.1 + 1)), (J5 s3.2 x36.name (⟨6, s1.1, s3.1, x4.params, x36.ty⟩ : Ent))))))
   (some (.done s3.2))
noncomputable def m11_k2 (p0_ : Bool) (p1_ : Dcl) (p2_ : Int × (Qa UN Ent) × (List Dcl)) : Option (((Qa UN Ent))) :=
 cond p0_
   (Option.bind (Yi ([0, 1, 2]) p1_.kind) fun (b0_ : Int) =>
 Option.bind (some ()) (fun (b1_ : Unit) => some (J5 p2_.2.1 p1_.name (⟨b0_, p2_.1, 0, p1_.params, p1_.ty⟩ : Ent))))
   (cond (p1_.kind == 3)
   (Option.bind (some ()) (fun (b2_ : Unit) => Option.bind (QV (m11_l0 p1_ p2_) J2 (0, (J5 p2_.2.1 p1_.name (⟨3, p2_.1, 0, p1_.params, p1_.ty⟩ : Ent)))) (fun (b3_ : (Qa UN Ent)) => J8 (Nat.ble (p1_.name.length + ([46, 114, 101, 99] : List UInt8).length) 1000000000)
 (Option.bind (some ()) (fun (b4_ : Unit) => some (J5 b3_ (p1_.name ++ ([46, 114, 101, 99] : List UInt8)) (⟨5, p2_.1, 0, p1_.rcr.params, p1_.rcr.ty⟩ : Ent)))))))
   (cond (p1_.kind == 4)
   (Option.bind (QV (m11_l1 p1_ p2_) J2 (0, p2_.2.1)) (fun (b5_ : (Qa UN Ent)) => some b5_))
   (some p2_.2.1)))
noncomputable def m11_l3 (a0 : List Dcl) (s1 : Int × (Qa UN Ent) × (List Dcl)) : Option (LO (Int × (Qa UN Ent) × (List Dcl)) (((Qa UN Ent) × (List Dcl)) ⊕ (Int × Int))) :=
 cond (decide (s1.1 < (a0.length : Int)))
   (Option.bind (Yi a0 s1.1) fun (x4 : Dcl) =>
 J8 (cond (decide (0 ≤ s1.1)) (Nat.ble s1.1.toNat a0.length) false)
 (Option.bind (m30f4 x4 (a0.take s1.1.toNat) s1.2.1) fun (x6 : Int) =>
 cond (x6 != 0)
   (some (.done (.inr (s1.1, x6))))
   (Option.bind (some ()) (fun (y8 : Unit) => Option.bind (Option.bind (cond (x4.kind == 0)
   (some (x4.kind == 0))
   (cond (x4.kind == 1)
   (some (x4.kind == 1))
   (some (x4.kind == 2)))) (fun (v12 : Bool) => m11_k2 v12 x4 s1)) (fun (y10 : (Qa UN Ent)) => some (.next ((Jk (s1.1 + 1)), y10, (a0.take s1.1.toNat))))))))
   (some (.done (.inl (s1.2.1, s1.2.2))))
noncomputable abbrev m11_h0 (p0_ : Int × (Qa UN Ent) × (List Dcl)) (p1_ : List Dcl) (p2_ : Dcl) : List (Nat × HB) :=
 [(0, .mp (QO p0_.2.1.1) p0_.2.1.2), (1, .cells 62 [Uv ((p1_.take p0_.1.toNat) : List Dcl), .mp 0]), (2, .cells 59 [.ptr 1 0]), (3, .cells 45 (UA p2_))]
noncomputable abbrev m11_h1 (p0_ : Int × (Qa UN Ent) × (List Dcl)) (p1_ : List Dcl) (p2_ : Dcl) (p3_ : Int) : List (Nat × HB) :=
 [(0, .mp (QO p0_.2.1.1) p0_.2.1.2), (1, .cells 62 [Uv ((p1_.take p0_.1.toNat) : List Dcl), .mp 0]), (2, .cells 59 [.ptr 1 0]), (3, .cells 45 (UA p2_)), (5, .cells 25 [Ux p3_])]
noncomputable abbrev m11_h2 (p0_ : Int × (Qa UN Ent) × (List Dcl)) (p1_ : List Dcl) (p2_ : Dcl) (p3_ : Int) : List (Nat × HB) :=
 [(0, .mp (QO p0_.2.1.1) p0_.2.1.2), (1, .cells 62 [Uv ((p1_.take p0_.1.toNat) : List Dcl), .mp 0]), (2, .cells 59 [.ptr 1 0]), (3, .cells 45 (UA p2_)), (5, .cells 25 [Ux p3_]), (6, .cells 45 (UA p2_)), (7, .cells 3 [Ux p0_.1])]
noncomputable abbrev Zd (p0_ : List Dcl) (p1_ : Int × (Qa UN Ent) × (List Dcl)) : HB :=
 .loop .ready none [(0, .v (.one (Uv p0_))), (4, .v (.one (.ptr 2 0))), (16, .v (.one (Uv p0_))), (17, .v (.one (Ux (p0_.length : Int)))), (18, .v (.one (Ux p1_.1))), (38, .v (.one (.fn 49 [(7, 0), (6, 0)])))] 48 #[39, 40] GL GK 8
noncomputable abbrev m11_h4 (p0_ : (Qa UN Ent)) (p1_ : List Dcl) (p2_ : Int × (Qa UN Ent) × (List Dcl)) (p3_ : Dcl) (p4_ : Int) : List (Nat × HB) :=
 [(0, .mp (QO p0_.1) p0_.2), (1, .cells 62 [Uv ((p1_.take p2_.1.toNat) : List Dcl), .mp 0]), (2, .cells 59 [.ptr 1 0]), (3, .cells 45 (UA p3_)), (5, .cells 25 [Ux p4_]), (6, .cells 45 (UA p3_)), (7, .cells 3 [Ux p2_.1]), (8, .obj (.deferred (some []))), (9, Zd p1_ p2_)]
noncomputable abbrev GJ (p0_ : Int × (Qa UN Ent) × (List Dcl)) (p1_ : Dcl) : HB :=
 .cells 35 [Ux 0, Ux p0_.1, Ux 0, Ux p1_.params, Ux p1_.ty.kind, Ux p1_.ty.index, Jl p1_.ty.name, Uv p1_.ty.levels, Uv p1_.ty.kids]
noncomputable abbrev m11_h6 (p0_ : Int × (Qa UN Ent) × (List Dcl)) (p1_ : List Dcl) (p2_ : Dcl) (p3_ : Int) : List (Nat × HB) :=
 [(0, .mp (QO p0_.2.1.1) p0_.2.1.2), (1, .cells 62 [Uv ((p1_.take p0_.1.toNat) : List Dcl), .mp 0]), (2, .cells 59 [.ptr 1 0]), (3, .cells 45 (UA p2_)), (5, .cells 25 [Ux p3_]), (6, .cells 45 (UA p2_)), (7, .cells 3 [Ux p0_.1]), (8, .obj (.deferred (some []))), (9, Zd p1_ p0_), (10, GJ p0_ p2_)]
noncomputable abbrev GI (p0_ : Int) (p1_ : Int × (Qa UN Ent) × (List Dcl)) (p2_ : Dcl) : HB :=
 .cells 35 [Ux p0_, Ux p1_.1, Ux 0, Ux p2_.params, Ux p2_.ty.kind, Ux p2_.ty.index, Jl p2_.ty.name, Uv p2_.ty.levels, Uv p2_.ty.kids]
noncomputable abbrev m11_h8 (p0_ : Int × (Qa UN Ent) × (List Dcl)) (p1_ : List Dcl) (p2_ : Dcl) (p3_ : Int) (p4_ : Int) : List (Nat × HB) :=
 [(0, .mp (QO p0_.2.1.1) p0_.2.1.2), (1, .cells 62 [Uv ((p1_.take p0_.1.toNat) : List Dcl), .mp 0]), (2, .cells 59 [.ptr 1 0]), (3, .cells 45 (UA p2_)), (5, .cells 25 [Ux p3_]), (6, .cells 45 (UA p2_)), (7, .cells 3 [Ux p0_.1]), (8, .obj (.deferred (some []))), (9, Zd p1_ p0_), (10, GI p4_ p0_ p2_)]
noncomputable abbrev Zn (p0_ : List Dcl) (p1_ : Int × (Qa UN Ent) × (List Dcl)) : HB :=
 .loop .busy none [(0, .v (.one (Uv p0_))), (4, .v (.one (.ptr 2 0))), (16, .v (.one (Uv p0_))), (17, .v (.one (Ux (p0_.length : Int)))), (18, .v (.one (Ux p1_.1))), (38, .v (.one (.fn 49 [(7, 0), (6, 0)])))] 48 #[39, 40] GL GK 8
noncomputable abbrev m11_h10 (p0_ : Int × (Qa UN Ent) × (List Dcl)) (p1_ : List Dcl) (p2_ : Dcl) (p3_ : Int) (p4_ : Int) : List (Nat × HB) :=
 [(0, .mp (QO p0_.2.1.1) p0_.2.1.2), (1, .cells 62 [Uv ((p1_.take p0_.1.toNat) : List Dcl), .mp 0]), (2, .cells 59 [.ptr 1 0]), (3, .cells 45 (UA p2_)), (5, .cells 25 [Ux p3_]), (6, .cells 45 (UA p2_)), (7, .cells 3 [Ux p0_.1]), (8, .obj (.deferred (some []))), (9, Zn p1_ p0_), (10, GI p4_ p0_ p2_), (12, GI p4_ p0_ p2_)]
noncomputable abbrev m11_h11 (p0_ : Int × (Qa UN Ent) × (List Dcl)) (p1_ : List Dcl) (p2_ : Dcl) (p3_ : Int) (p4_ : Int) : List (Nat × HB) :=
 [(0, .mp (QO p0_.2.1.1) p0_.2.1.2), (1, .cells 62 [Uv ((p1_.take p0_.1.toNat) : List Dcl), .mp 0]), (2, .cells 59 [.ptr 1 0]), (3, .cells 45 (UA p2_)), (5, .cells 25 [Ux p3_]), (6, .cells 45 (UA p2_)), (7, .cells 3 [Ux p0_.1]), (8, .obj (.deferred (some []))), (9, Zd p1_ p0_), (10, GI p4_ p0_ p2_), (12, GI p4_ p0_ p2_)]
noncomputable abbrev m11_h12 (p0_ : Int × (Qa UN Ent) × (List Dcl)) (p1_ : Dcl) (p2_ : Int) : HB :=
 .mp (QO ((J5 p0_.2.1 p1_.name (⟨p2_, p0_.1, 0, p1_.params, p1_.ty⟩ : Ent)) : Qa UN Ent).1) ((J5 p0_.2.1 p1_.name (⟨p2_, p0_.1, 0, p1_.params, p1_.ty⟩ : Ent)) : Qa UN Ent).2
noncomputable abbrev m11_h13 (p0_ : Int × (Qa UN Ent) × (List Dcl)) (p1_ : Dcl) (p2_ : Int) (p3_ : List Dcl) (p4_ : Int) : List (Nat × HB) :=
 [(0, m11_h12 p0_ p1_ p2_), (1, .cells 62 [Uv ((p3_.take p0_.1.toNat) : List Dcl), .mp 0]), (2, .cells 59 [.ptr 1 0]), (3, .cells 45 (UA p1_)), (5, .cells 25 [Ux p4_]), (6, .cells 45 (UA p1_)), (7, .cells 3 [Ux p0_.1]), (8, .obj (.deferred (some []))), (9, Zn p3_ p0_), (10, GI p2_ p0_ p1_)]
noncomputable abbrev m11_h14 (p0_ : Int × (Qa UN Ent) × (List Dcl)) (p1_ : Dcl) (p2_ : Int) (p3_ : List Dcl) (p4_ : Int) : List (Nat × HB) :=
 [(0, m11_h12 p0_ p1_ p2_), (1, .cells 62 [Uv ((p3_.take p0_.1.toNat) : List Dcl), .mp 0]), (2, .cells 59 [.ptr 1 0]), (3, .cells 45 (UA p1_)), (5, .cells 25 [Ux p4_]), (6, .cells 45 (UA p1_)), (7, .cells 3 [Ux p0_.1]), (8, .obj (.deferred (some []))), (9, Zn p3_ p0_), (10, GI p2_ p0_ p1_), (12, GI p2_ p0_ p1_)]
noncomputable abbrev Yl (p0_ : Int × (Qa UN Ent) × (List Dcl)) (p1_ : Dcl) : HB :=
 .cells 35 [Ux 3, Ux p0_.1, Ux 0, Ux p1_.params, Ux p1_.ty.kind, Ux p1_.ty.index, Jl p1_.ty.name, Uv p1_.ty.levels, Uv p1_.ty.kids]
noncomputable abbrev m11_h16 (p0_ : Int × (Qa UN Ent) × (List Dcl)) (p1_ : List Dcl) (p2_ : Dcl) (p3_ : Int) : List (Nat × HB) :=
 [(0, .mp (QO p0_.2.1.1) p0_.2.1.2), (1, .cells 62 [Uv ((p1_.take p0_.1.toNat) : List Dcl), .mp 0]), (2, .cells 59 [.ptr 1 0]), (3, .cells 45 (UA p2_)), (5, .cells 25 [Ux p3_]), (6, .cells 45 (UA p2_)), (7, .cells 3 [Ux p0_.1]), (8, .obj (.deferred (some []))), (9, Zd p1_ p0_), (10, Yl p0_ p2_)]
noncomputable abbrev m11_h17 (p0_ : Int × (Qa UN Ent) × (List Dcl)) (p1_ : List Dcl) (p2_ : Dcl) (p3_ : Int) : List (Nat × HB) :=
 [(0, .mp (QO p0_.2.1.1) p0_.2.1.2), (1, .cells 62 [Uv ((p1_.take p0_.1.toNat) : List Dcl), .mp 0]), (2, .cells 59 [.ptr 1 0]), (3, .cells 45 (UA p2_)), (5, .cells 25 [Ux p3_]), (6, .cells 45 (UA p2_)), (7, .cells 3 [Ux p0_.1]), (8, .obj (.deferred (some []))), (9, Zn p1_ p0_), (10, Yl p0_ p2_), (11, Yl p0_ p2_)]
noncomputable abbrev m11_h18 (p0_ : Int × (Qa UN Ent) × (List Dcl)) (p1_ : List Dcl) (p2_ : Dcl) (p3_ : Int) : List (Nat × HB) :=
 [(0, .mp (QO p0_.2.1.1) p0_.2.1.2), (1, .cells 62 [Uv ((p1_.take p0_.1.toNat) : List Dcl), .mp 0]), (2, .cells 59 [.ptr 1 0]), (3, .cells 45 (UA p2_)), (5, .cells 25 [Ux p3_]), (6, .cells 45 (UA p2_)), (7, .cells 3 [Ux p0_.1]), (8, .obj (.deferred (some []))), (9, Zd p1_ p0_), (10, Yl p0_ p2_), (11, Yl p0_ p2_)]
noncomputable abbrev m11_h19 (p0_ : Int × (Qa UN Ent) × (List Dcl)) (p1_ : Dcl) : HB :=
 .mp (QO ((J5 p0_.2.1 p1_.name (⟨3, p0_.1, 0, p1_.params, p1_.ty⟩ : Ent)) : Qa UN Ent).1) ((J5 p0_.2.1 p1_.name (⟨3, p0_.1, 0, p1_.params, p1_.ty⟩ : Ent)) : Qa UN Ent).2
noncomputable abbrev m11_h20 (p0_ : Int × (Qa UN Ent) × (List Dcl)) (p1_ : Dcl) (p2_ : List Dcl) (p3_ : Int) : List (Nat × HB) :=
 [(0, m11_h19 p0_ p1_), (1, .cells 62 [Uv ((p2_.take p0_.1.toNat) : List Dcl), .mp 0]), (2, .cells 59 [.ptr 1 0]), (3, .cells 45 (UA p1_)), (5, .cells 25 [Ux p3_]), (6, .cells 45 (UA p1_)), (7, .cells 3 [Ux p0_.1]), (8, .obj (.deferred (some []))), (9, Zn p2_ p0_), (10, Yl p0_ p1_)]
noncomputable abbrev m11_h21 (p0_ : Int × (Qa UN Ent) × (List Dcl)) (p1_ : Dcl) (p2_ : List Dcl) (p3_ : Int) : List (Nat × HB) :=
 [(0, m11_h19 p0_ p1_), (1, .cells 62 [Uv ((p2_.take p0_.1.toNat) : List Dcl), .mp 0]), (2, .cells 59 [.ptr 1 0]), (3, .cells 45 (UA p1_)), (5, .cells 25 [Ux p3_]), (6, .cells 45 (UA p1_)), (7, .cells 3 [Ux p0_.1]), (8, .obj (.deferred (some []))), (9, Zn p2_ p0_), (10, Yl p0_ p1_), (11, Yl p0_ p1_)]
noncomputable abbrev m11_h22 (p0_ : Int × (Qa UN Ent)) (p1_ : List Dcl) (p2_ : Int × (Qa UN Ent) × (List Dcl)) (p3_ : Dcl) (p4_ : Int) (p5_ : Ctr) : List (Nat × HB) :=
 [(0, .mp (QO p0_.2.1) p0_.2.2), (1, .cells 62 [Uv ((p1_.take p2_.1.toNat) : List Dcl), .mp 0]), (2, .cells 59 [.ptr 1 0]), (3, .cells 45 (UA p3_)), (5, .cells 25 [Ux p4_]), (6, .cells 45 (UA p3_)), (7, .cells 3 [Ux p2_.1]), (8, .obj (.deferred (some []))), (9, Zd p1_ p2_), (10, Yl p2_ p3_), (12, .cells 71 (UA p5_))]
noncomputable abbrev m11_h23 (p0_ : Int × (Qa UN Ent) × (List Dcl)) (p1_ : Int × (Qa UN Ent)) (p2_ : Dcl) (p3_ : Ctr) : HB :=
 .cells 35 [Ux 4, Ux p0_.1, Ux p1_.1, Ux p2_.params, Ux p3_.ty.kind, Ux p3_.ty.index, Jl p3_.ty.name, Uv p3_.ty.levels, Uv p3_.ty.kids]
noncomputable abbrev m11_h24 (p0_ : Int × (Qa UN Ent)) (p1_ : List Dcl) (p2_ : Int × (Qa UN Ent) × (List Dcl)) (p3_ : Dcl) (p4_ : Int) (p5_ : Ctr) : List (Nat × HB) :=
 [(0, .mp (QO p0_.2.1) p0_.2.2), (1, .cells 62 [Uv ((p1_.take p2_.1.toNat) : List Dcl), .mp 0]), (2, .cells 59 [.ptr 1 0]), (3, .cells 45 (UA p3_)), (5, .cells 25 [Ux p4_]), (6, .cells 45 (UA p3_)), (7, .cells 3 [Ux p2_.1]), (8, .obj (.deferred (some []))), (9, Zn p1_ p2_), (10, Yl p2_ p3_), (12, .cells 71 (UA p5_)), (13, m11_h23 p2_ p0_ p3_ p5_)]
noncomputable abbrev m11_h25 (p0_ : Int × (Qa UN Ent)) (p1_ : List Dcl) (p2_ : Int × (Qa UN Ent) × (List Dcl)) (p3_ : Dcl) (p4_ : Int) (p5_ : Ctr) : List (Nat × HB) :=
 [(0, .mp (QO p0_.2.1) p0_.2.2), (1, .cells 62 [Uv ((p1_.take p2_.1.toNat) : List Dcl), .mp 0]), (2, .cells 59 [.ptr 1 0]), (3, .cells 45 (UA p3_)), (5, .cells 25 [Ux p4_]), (6, .cells 45 (UA p3_)), (7, .cells 3 [Ux p2_.1]), (8, .obj (.deferred (some []))), (9, Zd p1_ p2_), (10, Yl p2_ p3_), (12, .cells 71 (UA p5_)), (13, m11_h23 p2_ p0_ p3_ p5_)]
noncomputable abbrev m11_h26 (p0_ : Int × (Qa UN Ent)) (p1_ : Ctr) (p2_ : Int × (Qa UN Ent) × (List Dcl)) (p3_ : Dcl) : HB :=
 .mp (QO ((J5 p0_.2 p1_.name (⟨4, p2_.1, p0_.1, p3_.params, p1_.ty⟩ : Ent)) : Qa UN Ent).1) ((J5 p0_.2 p1_.name (⟨4, p2_.1, p0_.1, p3_.params, p1_.ty⟩ : Ent)) : Qa UN Ent).2
noncomputable abbrev m11_h27 (p0_ : Int × (Qa UN Ent)) (p1_ : Ctr) (p2_ : Int × (Qa UN Ent) × (List Dcl)) (p3_ : Dcl) (p4_ : List Dcl) (p5_ : Int) : List (Nat × HB) :=
 [(0, m11_h26 p0_ p1_ p2_ p3_), (1, .cells 62 [Uv ((p4_.take p2_.1.toNat) : List Dcl), .mp 0]), (2, .cells 59 [.ptr 1 0]), (3, .cells 45 (UA p3_)), (5, .cells 25 [Ux p5_]), (6, .cells 45 (UA p3_)), (7, .cells 3 [Ux p2_.1]), (8, .obj (.deferred (some []))), (9, Zn p4_ p2_), (10, Yl p2_ p3_), (12, .cells 71 (UA p1_))]
noncomputable abbrev m11_h28 (p0_ : Int × (Qa UN Ent)) (p1_ : Ctr) (p2_ : Int × (Qa UN Ent) × (List Dcl)) (p3_ : Dcl) (p4_ : List Dcl) (p5_ : Int) : List (Nat × HB) :=
 [(0, m11_h26 p0_ p1_ p2_ p3_), (1, .cells 62 [Uv ((p4_.take p2_.1.toNat) : List Dcl), .mp 0]), (2, .cells 59 [.ptr 1 0]), (3, .cells 45 (UA p3_)), (5, .cells 25 [Ux p5_]), (6, .cells 45 (UA p3_)), (7, .cells 3 [Ux p2_.1]), (8, .obj (.deferred (some []))), (9, Zn p4_ p2_), (10, Yl p2_ p3_), (12, .cells 71 (UA p1_)), (13, m11_h23 p2_ p0_ p3_ p1_)]
noncomputable abbrev m11_h29 (p0_ : (Qa UN Ent)) (p1_ : List Dcl) (p2_ : Int × (Qa UN Ent) × (List Dcl)) (p3_ : Dcl) (p4_ : Int) : List (Nat × HB) :=
 [(0, .mp (QO p0_.1) p0_.2), (1, .cells 62 [Uv ((p1_.take p2_.1.toNat) : List Dcl), .mp 0]), (2, .cells 59 [.ptr 1 0]), (3, .cells 45 (UA p3_)), (5, .cells 25 [Ux p4_]), (6, .cells 45 (UA p3_)), (7, .cells 3 [Ux p2_.1]), (8, .obj (.deferred (some []))), (9, Zd p1_ p2_), (10, Yl p2_ p3_)]
noncomputable abbrev m11_h30 (p0_ : Int × (Qa UN Ent) × (List Dcl)) (p1_ : Dcl) : HB :=
 .cells 35 [Ux 5, Ux p0_.1, Ux 0, Ux p1_.rcr.params, Ux p1_.rcr.ty.kind, Ux p1_.rcr.ty.index, Jl p1_.rcr.ty.name, Uv p1_.rcr.ty.levels, Uv p1_.rcr.ty.kids]
noncomputable abbrev m11_h31 (p0_ : (Qa UN Ent)) (p1_ : List Dcl) (p2_ : Int × (Qa UN Ent) × (List Dcl)) (p3_ : Dcl) (p4_ : Int) : List (Nat × HB) :=
 [(0, .mp (QO p0_.1) p0_.2), (1, .cells 62 [Uv ((p1_.take p2_.1.toNat) : List Dcl), .mp 0]), (2, .cells 59 [.ptr 1 0]), (3, .cells 45 (UA p3_)), (5, .cells 25 [Ux p4_]), (6, .cells 45 (UA p3_)), (7, .cells 3 [Ux p2_.1]), (8, .obj (.deferred (some []))), (9, Zn p1_ p2_), (10, Yl p2_ p3_), (12, m11_h30 p2_ p3_)]
noncomputable abbrev m11_h32 (p0_ : (Qa UN Ent)) (p1_ : List Dcl) (p2_ : Int × (Qa UN Ent) × (List Dcl)) (p3_ : Dcl) (p4_ : Int) : List (Nat × HB) :=
 [(0, .mp (QO p0_.1) p0_.2), (1, .cells 62 [Uv ((p1_.take p2_.1.toNat) : List Dcl), .mp 0]), (2, .cells 59 [.ptr 1 0]), (3, .cells 45 (UA p3_)), (5, .cells 25 [Ux p4_]), (6, .cells 45 (UA p3_)), (7, .cells 3 [Ux p2_.1]), (8, .obj (.deferred (some []))), (9, Zd p1_ p2_), (10, Yl p2_ p3_), (12, m11_h30 p2_ p3_)]
noncomputable abbrev m11_h33 (p0_ : (Qa UN Ent)) (p1_ : Dcl) (p2_ : Int × (Qa UN Ent) × (List Dcl)) : HB :=
 .mp (QO ((J5 p0_ (p1_.name ++ ([46, 114, 101, 99] : List UInt8)) (⟨5, p2_.1, 0, p1_.rcr.params, p1_.rcr.ty⟩ : Ent)) : Qa UN Ent).1) ((J5 p0_ (p1_.name ++ ([46, 114, 101, 99] : List UInt8)) (⟨5, p2_.1, 0, p1_.rcr.params, p1_.rcr.ty⟩ : Ent)) : Qa UN Ent).2
noncomputable abbrev m11_h34 (p0_ : (Qa UN Ent)) (p1_ : Dcl) (p2_ : Int × (Qa UN Ent) × (List Dcl)) (p3_ : List Dcl) (p4_ : Int) : List (Nat × HB) :=
 [(0, m11_h33 p0_ p1_ p2_), (1, .cells 62 [Uv ((p3_.take p2_.1.toNat) : List Dcl), .mp 0]), (2, .cells 59 [.ptr 1 0]), (3, .cells 45 (UA p1_)), (5, .cells 25 [Ux p4_]), (6, .cells 45 (UA p1_)), (7, .cells 3 [Ux p2_.1]), (8, .obj (.deferred (some []))), (9, Zn p3_ p2_), (10, Yl p2_ p1_)]
noncomputable abbrev m11_h35 (p0_ : (Qa UN Ent)) (p1_ : Dcl) (p2_ : Int × (Qa UN Ent) × (List Dcl)) (p3_ : List Dcl) (p4_ : Int) : List (Nat × HB) :=
 [(0, m11_h33 p0_ p1_ p2_), (1, .cells 62 [Uv ((p3_.take p2_.1.toNat) : List Dcl), .mp 0]), (2, .cells 59 [.ptr 1 0]), (3, .cells 45 (UA p1_)), (5, .cells 25 [Ux p4_]), (6, .cells 45 (UA p1_)), (7, .cells 3 [Ux p2_.1]), (8, .obj (.deferred (some []))), (9, Zn p3_ p2_), (10, Yl p2_ p1_), (12, m11_h30 p2_ p1_)]
noncomputable abbrev m11_h36 (p0_ : Int × (Qa UN Ent)) (p1_ : List Dcl) (p2_ : Int × (Qa UN Ent) × (List Dcl)) (p3_ : Dcl) (p4_ : Int) (p5_ : Fn) : List (Nat × HB) :=
 [(0, .mp (QO p0_.2.1) p0_.2.2), (1, .cells 62 [Uv ((p1_.take p2_.1.toNat) : List Dcl), .mp 0]), (2, .cells 59 [.ptr 1 0]), (3, .cells 45 (UA p3_)), (5, .cells 25 [Ux p4_]), (6, .cells 45 (UA p3_)), (7, .cells 3 [Ux p2_.1]), (8, .obj (.deferred (some []))), (9, Zd p1_ p2_), (10, GJ p2_ p3_), (11, .cells 76 (UA p5_))]
noncomputable abbrev m11_h37 (p0_ : Int × (Qa UN Ent) × (List Dcl)) (p1_ : Int × (Qa UN Ent)) (p2_ : Dcl) (p3_ : Fn) : HB :=
 .cells 35 [Ux 6, Ux p0_.1, Ux p1_.1, Ux p2_.params, Ux p3_.ty.kind, Ux p3_.ty.index, Jl p3_.ty.name, Uv p3_.ty.levels, Uv p3_.ty.kids]
noncomputable abbrev m11_h38 (p0_ : Int × (Qa UN Ent)) (p1_ : List Dcl) (p2_ : Int × (Qa UN Ent) × (List Dcl)) (p3_ : Dcl) (p4_ : Int) (p5_ : Fn) : List (Nat × HB) :=
 [(0, .mp (QO p0_.2.1) p0_.2.2), (1, .cells 62 [Uv ((p1_.take p2_.1.toNat) : List Dcl), .mp 0]), (2, .cells 59 [.ptr 1 0]), (3, .cells 45 (UA p3_)), (5, .cells 25 [Ux p4_]), (6, .cells 45 (UA p3_)), (7, .cells 3 [Ux p2_.1]), (8, .obj (.deferred (some []))), (9, Zn p1_ p2_), (10, GJ p2_ p3_), (11, .cells 76 (UA p5_)), (12, m11_h37 p2_ p0_ p3_ p5_)]
noncomputable abbrev m11_h39 (p0_ : Int × (Qa UN Ent)) (p1_ : List Dcl) (p2_ : Int × (Qa UN Ent) × (List Dcl)) (p3_ : Dcl) (p4_ : Int) (p5_ : Fn) : List (Nat × HB) :=
 [(0, .mp (QO p0_.2.1) p0_.2.2), (1, .cells 62 [Uv ((p1_.take p2_.1.toNat) : List Dcl), .mp 0]), (2, .cells 59 [.ptr 1 0]), (3, .cells 45 (UA p3_)), (5, .cells 25 [Ux p4_]), (6, .cells 45 (UA p3_)), (7, .cells 3 [Ux p2_.1]), (8, .obj (.deferred (some []))), (9, Zd p1_ p2_), (10, GJ p2_ p3_), (11, .cells 76 (UA p5_)), (12, m11_h37 p2_ p0_ p3_ p5_)]
noncomputable abbrev m11_h40 (p0_ : Int × (Qa UN Ent)) (p1_ : Fn) (p2_ : Int × (Qa UN Ent) × (List Dcl)) (p3_ : Dcl) : HB :=
 .mp (QO ((J5 p0_.2 p1_.name (⟨6, p2_.1, p0_.1, p3_.params, p1_.ty⟩ : Ent)) : Qa UN Ent).1) ((J5 p0_.2 p1_.name (⟨6, p2_.1, p0_.1, p3_.params, p1_.ty⟩ : Ent)) : Qa UN Ent).2
noncomputable abbrev m11_h41 (p0_ : Int × (Qa UN Ent)) (p1_ : Fn) (p2_ : Int × (Qa UN Ent) × (List Dcl)) (p3_ : Dcl) (p4_ : List Dcl) (p5_ : Int) : List (Nat × HB) :=
 [(0, m11_h40 p0_ p1_ p2_ p3_), (1, .cells 62 [Uv ((p4_.take p2_.1.toNat) : List Dcl), .mp 0]), (2, .cells 59 [.ptr 1 0]), (3, .cells 45 (UA p3_)), (5, .cells 25 [Ux p5_]), (6, .cells 45 (UA p3_)), (7, .cells 3 [Ux p2_.1]), (8, .obj (.deferred (some []))), (9, Zn p4_ p2_), (10, GJ p2_ p3_), (11, .cells 76 (UA p1_))]
noncomputable abbrev m11_h42 (p0_ : Int × (Qa UN Ent)) (p1_ : Fn) (p2_ : Int × (Qa UN Ent) × (List Dcl)) (p3_ : Dcl) (p4_ : List Dcl) (p5_ : Int) : List (Nat × HB) :=
 [(0, m11_h40 p0_ p1_ p2_ p3_), (1, .cells 62 [Uv ((p4_.take p2_.1.toNat) : List Dcl), .mp 0]), (2, .cells 59 [.ptr 1 0]), (3, .cells 45 (UA p3_)), (5, .cells 25 [Ux p5_]), (6, .cells 45 (UA p3_)), (7, .cells 3 [Ux p2_.1]), (8, .obj (.deferred (some []))), (9, Zn p4_ p2_), (10, GJ p2_ p3_), (11, .cells 76 (UA p1_)), (12, m11_h37 p2_ p0_ p3_ p1_)]
noncomputable def m11 (a0 : List Dcl) : Option (Int × Int) :=
 cond (decide (1000 < (a0.length : Int)))
   (some (1000, 6))
   (Option.bind (QV (m11_l3 a0) J2 (0, gmNil, ([] : List Dcl))) (Sum.elim (fun (o2 : (Qa UN Ent) × (List Dcl)) => some (0, 0)) (fun o => some o)))
end Go.Proofs.Ytafddfoefeploaa
namespace Go.Proofs.Ytafddfoefeploaa
open Go.RowKit Go.Shelf
set_option linter.unusedSimpArgs false
set_option linter.unusedVariables false
theorem Wk : JE Try.prog 45 = some [.int .i64 0, .string ByteArray.empty, .int .i64 0, .int .i64 0, .int .i64 0, .string ByteArray.empty, .slice none 0 0, .slice none 0 0, .int .i64 0, .int .i64 0, .string ByteArray.empty, .slice none 0 0, .slice none 0 0, .int .i64 0, .slice none 0 0, .int .i64 0, .int .i64 0, .int .i64 0, .string ByteArray.empty, .slice none 0 0, .slice none 0 0, .slice none 0 0, .slice none 0 0] := by kernel_rfl
theorem z_59 : JE Try.prog 59 = some [.pointer none] := by kernel_rfl
theorem bd_62 : Yj Try.prog 62 [(0, 1), (1, 1)] [.slice none 0 0, .map none] := ⟨by kernel_rfl, by kernel_rfl⟩
theorem en_11 : J3 Try.prog 11 := enters_of Try.func11 (by kernel_rfl) rfl
set_option maxRecDepth 100000 in
set_option maxHeartbeats 2000000 in
theorem m11_ok (a0 : List Dcl) (r : Int × Int) (h0 : m11 a0 = some r) : Fun Try.prog 11 [.one (Uv a0)] (QD [.one (Ux r.1), .one (Ux r.2)]) := by
 unfold m11 at h0
 refine QY 9 48 Try.func11 rfl en_11 rfl (Um rfl) (fun S w => ?_)
 simp only [J7]
 refine Q5 <| Q0 <| Ug rfl rfl rfl <| Ug rfl rfl rfl <| Q4 <| Q3 <| Q5 <| Q5 <| Q0 <| Uf rfl rfl rfl <| Ue rfl rfl rfl (Qx (α := Dcl) Ke rfl (.d _)) <| Ue rfl rfl rfl (Q7 rfl rfl rfl) <| Q4 <| Q3 ?_
 refine Qg (b := (decide (1000 < (a0.length : Int)))) rfl (fun c1 => ?_) (fun c1 => ?_)
 replace h0 := Qk c1 h0
 refine Q5 <| Q0 <| Ug rfl rfl rfl <| Ug rfl rfl rfl <| Q4 <| Q3 <| QA ?_
 have e := Uc h0; subst e
 exact QL (fun _ _ h => h) rfl (Qz rfl (Qz rfl .nil)) (.cons (.one (.d _)) (.cons (.one (.d _)) .nil))
 replace h0 := Ql c1 h0
 refine Qj <| Q3 <| Q5 <| Q0 <| Q9 rfl rfl (Um rfl) (YX UN Ent) <| Ue rfl rfl rfl (Gf bd_62 rfl rfl rfl) <| Q9 rfl rfl (Um rfl) (QN rfl) <| Q9 rfl rfl (Um rfl) (Qm z_59 rfl) <| Qy rfl rfl (Qr Xa rfl rfl rfl rfl (Um rfl) rfl) <| Q4 <| Q3 <| Q5 <| Q5 <| Q0 ?_
 refine Uf rfl rfl rfl <| Ue rfl rfl rfl (Qx (α := Dcl) Ke rfl (.d _)) <| Uf rfl rfl rfl <| Q4 <| Q3 <| Qf ?_
 refine QR 0 (fun (o2 : (Qa UN Ent) × (List Dcl)) => ⟨[], [(0, .mp (QO o2.1.1) o2.1.2), (1, .cells 62 [Uv o2.2, .mp 0]), (2, .cells 59 [.ptr 1 0])], [], 3, 48, []⟩) (fun (o2 : (Qa UN Ent) × (List Dcl)) => (some (0, 0)) = some r) ?_ ?_
 refine Qb h0 (fun o3 hl1 h0 => ?_)
 refine QQ (m11_l3 a0) (fun s1 => ⟨[(0, .v (.one (Uv a0))), (4, .v (.one (.ptr 2 0))), (16, .v (.one (Uv a0))), (17, .v (.one (Ux (a0.length : Int)))), (18, .v (.one (Ux s1.1)))], [(0, .mp (QO s1.2.1.1) s1.2.1.2), (1, .cells 62 [Uv s1.2.2, .mp 0]), (2, .cells 59 [.ptr 1 0])], [], 3, 48, []⟩) (0, gmNil, ([] : List Dcl)) o3 (Qu (Ua rfl) (Ur rfl (hC rfl (.cons (.sub (.nil _)) (.cons (.refl _) .nil)) (hA rfl))) Un rfl (Nat.zero_le _) rfl rfl rfl (UE rfl (UG rfl)) rfl rfl) hl1 (fun s1 n1 oo1 h1 ho1 => ?_)
 unfold m11_l3 at h1
 refine Q5 <| Q0 <| Ue rfl rfl rfl (Q7 rfl rfl rfl) <| Q4 <| Q3 <| Q5 ?_
 refine Qg (b := (decide (s1.1 < (a0.length : Int)))) rfl (fun c4 => ?_) (fun c4 => ?_)
 replace h1 := Qk c4 h1
 refine Qj <| Q3 <| Q5 <| Qf <| Q5 <| Q0 <| Uf rfl rfl rfl ?_
 refine Qb h1 (fun x5 hx5 h1 => ?_)
 refine Ue rfl rfl rfl (Qq (α := Dcl) Ke rfl (.d _) rfl hx5) <| Ue rfl rfl rfl (Qv (x5 : Dcl) JS rfl) <| Q9 rfl rfl (Um rfl) (Qm Wk rfl) <| Ug rfl rfl rfl <| Qy rfl rfl (QC (x5 : Dcl) JS rfl rfl rfl rfl rfl) <| Q4 <| Q3 <| Q5 ?_
 refine Jv [6] [] YI (by kernel_rfl) (by kernel_rfl) (by kernel_rfl) ?_
 refine RunA.rd rfl rfl rfl (Q2 (Q6 Xa rfl rfl rfl)) rfl <| RunA.rd rfl rfl rfl (Q2 (Qt rfl)) rfl <| RunA.rd rfl rfl rfl (Q2 (Qt rfl)) rfl ?_
 refine JC h1 (fun g6 h1 => ?_)
 refine RunA.rd rfl rfl rfl (Q2 (RO.sliceTo (α := Dcl) Ke rfl (.d _) rfl g6)) rfl <| RunA.rd rfl rfl rfl (Q2 (Jx rfl)) rfl <| RunA.rd rfl rfl rfl (Q2 (Q1 fo_62_0 rfl)) rfl <| RunA.eff rfl rfl rfl (Qr ag_22 rfl rfl rfl rfl (Um rfl) rfl) rfl ?_
 refine RunA.nil ⟨?ex, _, _, rfl, ?_⟩
 case ex => exact trivial
 refine JX (st' := ⟨[(0, .v (.one (Uv a0))), (4, .v (.one (.ptr 2 0))), (5, .v (.one (Ux s1.1))), (6, .v (.one (.ptr 3 0))), (16, .v (.one (Uv a0))), (17, .v (.one (Ux (a0.length : Int)))), (18, .v (.one (Ux s1.1)))], m11_h0 s1 a0 x5, [], 4, 48, []⟩) (Qu (Ua rfl) (hA rfl) Un rfl (Nat.zero_le _) rfl rfl rfl (UE rfl (UG rfl)) rfl rfl) <| Q3 <| Q5 <| Q5 <| Q0 <| Ue rfl rfl rfl (Q6 Xa rfl rfl rfl) <| Ue rfl rfl rfl (QK (x5 : Dcl) JS rfl rfl) ?_
 refine Qb h1 (fun x7 hx7 h1 => ?_)
 refine Q9 rfl rfl (Um rfl) (J4 (hp1' := [(1, .cells 62 [Uv ((a0.take s1.1.toNat) : List Dcl), .mp 0]), (0, .mp (QO s1.2.1.1) s1.2.1.2), (5, .cells 25 [Ux x7])]) (tk1' := []) (hpF := [(2, .cells 59 [.ptr 1 0]), (3, .cells 45 (UA x5))]) (tkF := []) (res2 := QD [.one (Ux x7)]) (nx2 := 6) [1, 0] rfl rfl (m30f4_ok x5 (a0.take s1.1.toNat) s1.2.1 x7 hx7) rfl rfl (Uj rfl rfl (Ui rfl (Uj rfl rfl Uh))) rfl rfl (Ut rfl (Uu rfl Us)) Up (hA rfl) Un rfl rfl rfl rfl rfl (UF rfl rfl (UE rfl UD)) rfl rfl rfl rfl) <| Ug rfl rfl rfl <| Q4 <| Q3 <| Q5 <| Q0 <| Uf rfl rfl rfl <| Ue rfl rfl rfl (Q7 rfl rfl rfl) <| Q4 <| Q3 ?_
 refine Qg (b := (x7 != 0)) rfl (fun c8 => ?_) (fun c8 => ?_)
 replace h1 := Qk c8 h1
 refine Q5 <| Q0 <| Uf rfl rfl rfl <| Uf rfl rfl rfl <| Ug rfl rfl rfl <| Ug rfl rfl rfl <| Q4 <| Q3 <| QA ?_
 have e := Uc h1; subst e
 have e_ : _ = _ := ho1
 subst e_
 try dsimp only [Sum.elim_inl, Sum.elim_inr] at h0
 have e := Uc h0; subst e
 exact QL (fun _ _ h => h) rfl (Qz rfl (Qz rfl .nil)) (.cons (.one (.d _)) (.cons (.one (.d _)) .nil))
 replace h1 := Ql c8 h1
 refine Qj <| Q3 <| Q5 <| Q0 <| Ue rfl rfl rfl (QK (x5 : Dcl) JS rfl rfl) <| Uf rfl rfl rfl ?_
 refine Qb h1 (fun y9 h2 h1 => ?_)
 have hc10 : CallM Try.prog 31 [.agg (UA x5), .one (Ux s1.1)] ⟨m11_h1 s1 a0 x5 x7, [], 6⟩ (QD [.one (.fn 49 [(7, 0), (6, 0)])]) ⟨m11_h2 s1 a0 x5 x7, [], 8⟩ := by
  refine QT ⟨[(4, .v (.one (.fn 49 [(7, 0), (6, 0)])))], m11_h2 s1 a0 x5 x7, [], 8, 6, []⟩ rfl rfl en_31 (Um rfl) rfl (Qz rfl .nil) (fun w0 M V0 Q hv2 hQ2 => ?_)
  simp only [J7]
  refine Q5 <| Q0 <| Q9 rfl rfl (Um rfl) (QN rfl) <| Q9 rfl rfl (Um rfl) (QN rfl) <| Ug rfl rfl rfl <| Q4 <| Q3 <| Q5 <| Q0 <| Ue rfl rfl rfl (ZN rfl rfl) <| Ug rfl rfl rfl <| Q4 <| Q3 <| QA ?_
  have e := Uc h2; subst e
  exact hQ2 _ _ _ (.inr rfl) rfl (Qu (Ua rfl) (hA rfl) Un rfl (Nat.le_trans hv2 (Um rfl)) rfl rfl rfl (UE rfl (UG rfl)) rfl rfl)
 refine Q9 rfl rfl (Um rfl) (JM rfl rfl rfl hc10 rfl (hA rfl) Un) <| Q4 <| Q3 <| Qf <| Km (st' := ⟨[(0, .v (.one (Uv a0))), (4, .v (.one (.ptr 2 0))), (16, .v (.one (Uv a0))), (17, .v (.one (Ux (a0.length : Int)))), (18, .v (.one (Ux s1.1))), (38, .v (.one (.fn 49 [(7, 0), (6, 0)])))], m11_h2 s1 a0 x5 x7, [], 8, 48, []⟩) (Qu (Ua rfl) (hA rfl) Un rfl (Nat.zero_le _) rfl rfl rfl (UE rfl (UG rfl)) rfl rfl) ?_
 refine Qb h1 (fun y11 h2 h1 => ?_)
 have hc12 : CallM Try.prog 49 [.one (.yld 9), .one (.ptr 7 0), .one (.ptr 6 0)] ⟨[(9, .loop .ready none [(0, .v (.one (Uv a0))), (4, .v (.one (.ptr 2 0))), (16, .v (.one (Uv a0))), (17, .v (.one (Ux (a0.length : Int)))), (18, .v (.one (Ux s1.1))), (38, .v (.one (.fn 49 [(7, 0), (6, 0)])))] 48 #[39, 40] GL GK 8), (8, .obj (.deferred (some []))), (0, .mp (QO s1.2.1.1) s1.2.1.2), (1, .cells 62 [Uv ((a0.take s1.1.toNat) : List Dcl), .mp 0]), (2, .cells 59 [.ptr 1 0]), (3, .cells 45 (UA x5)), (5, .cells 25 [Ux x7]), (6, .cells 45 (UA x5)), (7, .cells 3 [Ux s1.1])], [], 10⟩ (QD []) ⟨m11_h4 y11 a0 s1 x5 x7, [], 11⟩ := by
  refine QT ⟨[], m11_h4 y11 a0 s1 x5 x7, [], 11, 98, []⟩ rfl rfl en_49 (Um rfl) rfl .nil (fun w0 M V0 Q hv2 hQ2 => ?_)
  simp only [J7]
  refine Q5 <| Q0 <| Ue rfl rfl rfl (Q6 QZ rfl rfl rfl) <| Ue rfl rfl rfl (Q1 Ym rfl) <| Ue rfl rfl rfl (Q6 QZ rfl rfl rfl) <| Ue rfl rfl rfl (Q1 K4 rfl) <| Ue rfl rfl rfl (Qi QW rfl rfl rfl rfl) <| Ue rfl rfl rfl (ZA K9 rfl rfl rfl rfl rfl) <| Q9 rfl rfl (Um rfl) (Qm ZB rfl) <| Qy rfl rfl (Qr Jm rfl rfl rfl rfl (Um rfl) rfl) <| Q4 <| Q3 <| Q5 <| Q0 ?_
  refine Ue rfl rfl rfl (Q1 Yn rfl) <| Ue rfl rfl rfl (Q6 QZ rfl rfl rfl) <| Q4 <| Q3 <| Qf <| Q5 <| Q5 <| Q0 <| Ue rfl rfl rfl (Q7 rfl rfl rfl) <| Ug rfl rfl rfl <| Q4 <| Q3 ?_
  refine QS (fun (v13 : Bool) => ⟨[(0, .v (.one (.yld 9))), (1, .v (.one (.ptr 7 0))), (2, .v (.one (.ptr 6 0))), (4, .v (.one (.ptr 10 0))), (16, .v (.one (Ux x5.kind))), (17, .v (.one (Uy v13)))], m11_h6 s1 a0 x5 x7, [], 11, 98, []⟩) (fun (v13 : Bool) => (m11_k2 v13 x5 s1) = some y11) ?_ ?_
  refine Qb h2 (fun w3_ h3 h2 => ?_)
  refine Qg (b := (x5.kind == 0)) rfl (fun c14 => ?_) (fun c14 => ?_)
  replace h3 := Qk c14 h3
  refine Qj ?_
  have e := Uc h3; subst e
  exact Qc (x5.kind == 0) (Qu (Ua rfl) (hA rfl) Un rfl (Nat.le_trans hv2 (Um rfl)) rfl rfl rfl (UE rfl (UG rfl)) rfl rfl) h2
  replace h3 := Ql c14 h3
  refine Q5 <| Q0 <| Ue rfl rfl rfl (Q7 rfl rfl rfl) <| Ug rfl rfl rfl <| Q4 <| Q3 ?_
  refine Qg (b := (x5.kind == 1)) rfl (fun c15 => ?_) (fun c15 => ?_)
  replace h3 := Qk c15 h3
  refine Qj ?_
  have e := Uc h3; subst e
  exact Qc (x5.kind == 1) (Qu (Ua rfl) (hA rfl) Un rfl (Nat.le_trans hv2 (Um rfl)) rfl rfl rfl (UE rfl (UG rfl)) rfl rfl) h2
  replace h3 := Ql c15 h3
  refine Q0 <| Ue rfl rfl rfl (Q7 rfl rfl rfl) <| Ug rfl rfl rfl <| Q4 ?_
  have e := Uc h3; subst e
  exact Qc (x5.kind == 2) (Qu (Ua rfl) (hA rfl) Un rfl (Nat.le_trans hv2 (Um rfl)) rfl rfl rfl (UE rfl (UG rfl)) rfl rfl) h2
  intro v13 h2
  unfold m11_k2 at h2
  refine Q3 ?_
  refine Qg (b := v13) rfl (fun c16 => ?_) (fun c16 => ?_)
  replace h2 := Qk c16 h2
  refine Q5 <| Q0 <| Q9 rfl rfl (Um rfl) (OpOK.lit3E (α := Int) 0 1 2 W0 U4 rfl rfl (Um rfl) (Um rfl) rfl rfl rfl rfl (.cons (.d _) (.cons (.d _) (.cons (.d _) .nil))) ⟨rfl, rfl, rfl⟩) <| Ue rfl rfl rfl (Q1 Yn rfl) <| Ue rfl rfl rfl (Q6 QZ rfl rfl rfl) ?_
  refine Qb h2 (fun x17 hx17 h2 => ?_)
  refine Ue rfl rfl rfl (Qq (α := Int) W0 rfl (.app _ _) rfl hx17) <| Ue rfl rfl rfl (Js QZ rfl rfl) <| Ue rfl rfl rfl (Q1 ZH rfl) <| Qy rfl rfl (Qr QZ rfl rfl rfl rfl (Um rfl) rfl) <| Q4 <| Q3 <| Q0 <| Uf rfl rfl rfl <| Ue rfl rfl rfl (Q1 Y8 rfl) <| Ue rfl rfl rfl (Q6 JG rfl rfl rfl) <| Ue rfl rfl rfl (Qi Jm rfl rfl rfl rfl) ?_
  refine Qb h2 (fun y18 h3 h2 => ?_)
  have ha19 : ExecOK Try.prog (some 9) GL ⟨[(0, .v (.one (Uv a0))), (4, .v (.one (.ptr 2 0))), (16, .v (.one (Uv a0))), (17, .v (.one (Ux (a0.length : Int)))), (18, .v (.one (Ux s1.1))), (38, .v (.one (.fn 49 [(7, 0), (6, 0)]))), (39, .v (.one (Jl x5.name))), (40, .v (.agg [Ux x17, Ux s1.1, Ux 0, Ux x5.params, Ux x5.ty.kind, Ux x5.ty.index, Jl x5.ty.name, Uv x5.ty.levels, Uv x5.ty.kids]))], m11_h8 s1 a0 x5 x7 x17, [(11, some ⟨3, 1, (Enc.encL ([0, 1, 2] : List Int)).length, []⟩)], 12, 48, []⟩ .normal ⟨[(4, .v (.one (.ptr 2 0))), (8, .v (.one (Jl x5.name))), (9, .v (.one (.ptr 12 0)))], m11_h11 s1 a0 x5 x7 x17, [(11, some ⟨3, 1, (Enc.encL ([0, 1, 2] : List Int)).length, []⟩)], 13, 48, []⟩ := by
   refine QI (fun w0 M V0 ro n Q hv3 hro3 hQn3 => ?_)
   refine Q5 <| Q0 <| Ug rfl rfl rfl <| Q4 <| Q3 <| Q0 <| Q9 rfl rfl (Um rfl) (Qm ZB rfl) <| Qy rfl rfl (Qr Jm rfl rfl rfl rfl (Um rfl) rfl) <| Q4 ?_
   exact Jr hQn3 (Qu (Ua rfl) (hA rfl) (Uo rfl) rfl (Nat.le_trans hv3 (Um rfl)) rfl rfl rfl (UE rfl (UG rfl)) rfl rfl)
  have hb20 : ExecOK Try.prog (some 9) GK ⟨[(4, .v (.one (.ptr 2 0))), (8, .v (.one (Jl x5.name))), (9, .v (.one (.ptr 12 0)))], m11_h10 s1 a0 x5 x7 x17, [(11, some ⟨3, 1, (Enc.encL ([0, 1, 2] : List Int)).length, []⟩)], 13, 48, []⟩ .normal ⟨[], m11_h13 s1 x5 x17 a0 x7, [(11, some ⟨3, 1, (Enc.encL ([0, 1, 2] : List Int)).length, []⟩)], 13, 48, []⟩ := by
   refine QI (fun w0 M V0 ro n Q hv3 hro3 hQn3 => ?_)
   refine Qf ?_
   refine Jv [6] [] YI (by kernel_rfl) (by kernel_rfl) (by kernel_rfl) ?_
   refine RunA.rd rfl rfl rfl (Q2 (Q6 Xa rfl rfl rfl)) rfl <| RunA.rd rfl rfl rfl (Q2 (Jx rfl)) rfl <| RunA.rd rfl rfl rfl (Q2 (Q1 K3 rfl)) rfl <| RunA.rd rfl rfl rfl (Q2 (Q6 YA rfl rfl rfl)) rfl <| RunA.rd rfl rfl rfl (Q2 (Qt rfl)) rfl <| RunA.rd rfl rfl rfl (Q2 (Qi Jm rfl rfl rfl rfl)) rfl <| RunA.eff rfl rfl rfl (Je (M := s1.2.1) (k := x5.name) (v := (⟨x17, s1.1, 0, x5.params, x5.ty⟩ : Ent)) YL rfl rfl rfl rfl rfl) rfl ?_
   refine RunA.nil ⟨?ex, _, _, rfl, ?_⟩
   case ex => exact trivial
   refine JX (st' := ⟨[], m11_h14 s1 x5 x17 a0 x7, [(11, some ⟨3, 1, (Enc.encL ([0, 1, 2] : List Int)).length, []⟩)], 13, 48, []⟩) (Qu U9 (hA rfl) (Uo rfl) rfl (Nat.le_trans hv3 (Um rfl)) rfl rfl rfl (UE rfl (UG rfl)) rfl rfl) <| Qe ?_
   have e := Uc h3; subst e
   exact Jr hQn3 (Qu U9 (hA rfl) (Uo rfl) rfl (Nat.le_trans hv3 (Um rfl)) rfl rfl rfl (UE rfl (UG rfl)) rfl rfl)
  refine Q9 rfl rfl (Um rfl) (Jc (jump := none) rfl rfl rfl rfl rfl (Qw ha19 (fun E hv => (Qu (Ua rfl) (hA rfl) (Uo rfl) rfl (Nat.le_trans hv (Um rfl)) rfl rfl rfl (UE rfl (UG rfl)) rfl rfl))) rfl (Qw hb20 (fun E hv => (Qu (Ua rfl) (hA rfl) (Uo rfl) rfl (Nat.le_trans hv (Um rfl)) rfl rfl rfl (UE rfl (UG rfl)) rfl rfl))) rfl rfl) ?_
  refine Q4 <| Qe ?_
  have e := Uc h2; subst e
  exact hQ2 _ _ _ (.inl rfl) rfl (Qu U9 (hA rfl) Un rfl (Nat.le_trans hv2 (Um rfl)) rfl rfl rfl (UE rfl (UG rfl)) rfl rfl)
  replace h2 := Ql c16 h2
  refine Q5 <| Q0 <| Ue rfl rfl rfl (Q7 rfl rfl rfl) <| Ug rfl rfl rfl <| Q4 <| Q3 ?_
  refine Qg (b := (x5.kind == 3)) rfl (fun c21 => ?_) (fun c21 => ?_)
  replace h2 := Qk c21 h2
  refine Q5 <| Q0 <| Ue rfl rfl rfl (Q1 ZH rfl) <| Qy rfl rfl (Qr QZ rfl rfl rfl rfl (Um rfl) rfl) <| Q4 <| Q3 <| Q5 <| Q5 <| Q0 <| Uf rfl rfl rfl <| Ue rfl rfl rfl (Q1 Y8 rfl) <| Ue rfl rfl rfl (Q6 JG rfl rfl rfl) <| Ue rfl rfl rfl (Qi Jm rfl rfl rfl rfl) ?_
  refine Qb h2 (fun y22 h3 h2 => ?_)
  have ha23 : ExecOK Try.prog (some 9) GL ⟨[(0, .v (.one (Uv a0))), (4, .v (.one (.ptr 2 0))), (16, .v (.one (Uv a0))), (17, .v (.one (Ux (a0.length : Int)))), (18, .v (.one (Ux s1.1))), (38, .v (.one (.fn 49 [(7, 0), (6, 0)]))), (39, .v (.one (Jl x5.name))), (40, .v (.agg [Ux 3, Ux s1.1, Ux 0, Ux x5.params, Ux x5.ty.kind, Ux x5.ty.index, Jl x5.ty.name, Uv x5.ty.levels, Uv x5.ty.kids]))], m11_h16 s1 a0 x5 x7, [], 11, 48, []⟩ .normal ⟨[(4, .v (.one (.ptr 2 0))), (8, .v (.one (Jl x5.name))), (9, .v (.one (.ptr 11 0)))], m11_h18 s1 a0 x5 x7, [], 12, 48, []⟩ := by
   refine QI (fun w0 M V0 ro n Q hv3 hro3 hQn3 => ?_)
   refine Q5 <| Q0 <| Ug rfl rfl rfl <| Q4 <| Q3 <| Q0 <| Q9 rfl rfl (Um rfl) (Qm ZB rfl) <| Qy rfl rfl (Qr Jm rfl rfl rfl rfl (Um rfl) rfl) <| Q4 ?_
   exact Jr hQn3 (Qu (Ua rfl) (hA rfl) Un rfl (Nat.le_trans hv3 (Um rfl)) rfl rfl rfl (UE rfl (UG rfl)) rfl rfl)
  have hb24 : ExecOK Try.prog (some 9) GK ⟨[(4, .v (.one (.ptr 2 0))), (8, .v (.one (Jl x5.name))), (9, .v (.one (.ptr 11 0)))], m11_h17 s1 a0 x5 x7, [], 12, 48, []⟩ .normal ⟨[], m11_h20 s1 x5 a0 x7, [], 12, 48, []⟩ := by
   refine QI (fun w0 M V0 ro n Q hv3 hro3 hQn3 => ?_)
   refine Qf ?_
   refine Jv [6] [] YI (by kernel_rfl) (by kernel_rfl) (by kernel_rfl) ?_
   refine RunA.rd rfl rfl rfl (Q2 (Q6 Xa rfl rfl rfl)) rfl <| RunA.rd rfl rfl rfl (Q2 (Jx rfl)) rfl <| RunA.rd rfl rfl rfl (Q2 (Q1 K3 rfl)) rfl <| RunA.rd rfl rfl rfl (Q2 (Q6 YA rfl rfl rfl)) rfl <| RunA.rd rfl rfl rfl (Q2 (Qt rfl)) rfl <| RunA.rd rfl rfl rfl (Q2 (Qi Jm rfl rfl rfl rfl)) rfl <| RunA.eff rfl rfl rfl (Je (M := s1.2.1) (k := x5.name) (v := (⟨3, s1.1, 0, x5.params, x5.ty⟩ : Ent)) YL rfl rfl rfl rfl rfl) rfl ?_
   refine RunA.nil ⟨?ex, _, _, rfl, ?_⟩
   case ex => exact trivial
   refine JX (st' := ⟨[], m11_h21 s1 x5 a0 x7, [], 12, 48, []⟩) (Qu U9 (hA rfl) Un rfl (Nat.le_trans hv3 (Um rfl)) rfl rfl rfl (UE rfl (UG rfl)) rfl rfl) <| Qe ?_
   have e := Uc h3; subst e
   exact Jr hQn3 (Qu U9 (hA rfl) Un rfl (Nat.le_trans hv3 (Um rfl)) rfl rfl rfl (UE rfl (UG rfl)) rfl rfl)
  refine Q9 rfl rfl (Um rfl) (Jc (jump := none) rfl rfl rfl rfl rfl (Qw ha23 (fun E hv => (Qu (Ua rfl) (hA rfl) Un rfl (Nat.le_trans hv (Um rfl)) rfl rfl rfl (UE rfl (UG rfl)) rfl rfl))) rfl (Qw hb24 (fun E hv => (Qu (Ua rfl) (hA rfl) Un rfl (Nat.le_trans hv (Um rfl)) rfl rfl rfl (UE rfl (UG rfl)) rfl rfl))) rfl rfl) ?_
  refine Ue rfl rfl rfl (Jb rfl) <| Q4 <| Q3 ?_
  refine Qg rfl (fun h => nomatch h) (fun _ => ?_)
  refine Qj <| Q3 <| Q5 <| Q5 <| Q0 <| Ue rfl rfl rfl (Q1 Yc rfl) <| Ue rfl rfl rfl (Q6 Zc rfl rfl rfl) <| Ue rfl rfl rfl (Qx (α := Ctr) Yv rfl (.d _)) <| Uf rfl rfl rfl <| Q4 <| Q3 <| Qf ?_
  refine QR 1 (fun (o25 : (Qa UN Ent)) => ⟨[(0, .v (.one (.yld 9))), (1, .v (.one (.ptr 7 0))), (2, .v (.one (.ptr 6 0)))], [(0, .mp (QO o25.1) o25.2), (1, .cells 62 [Uv ((a0.take s1.1.toNat) : List Dcl), .mp 0]), (2, .cells 59 [.ptr 1 0]), (3, .cells 45 (UA x5)), (5, .cells 25 [Ux x7]), (6, .cells 45 (UA x5)), (7, .cells 3 [Ux s1.1]), (8, .obj (.deferred (some []))), (9, Zd a0 s1), (10, Yl s1 x5)], [], 12, 98, []⟩) (fun (o25 : (Qa UN Ent)) => (J8 (Nat.ble (x5.name.length + ([46, 114, 101, 99] : List UInt8).length) 1000000000)
    (Option.bind (some ()) (fun (y27 : Unit) => some (J5 o25 (x5.name ++ ([46, 114, 101, 99] : List UInt8)) (⟨5, s1.1, 0, x5.rcr.params, x5.rcr.ty⟩ : Ent))))) = some y11) ?_ ?_
  refine Qb h2 (fun o26 hl3 h2 => ?_)
  refine QQ (m11_l0 x5 s1) (fun s3 => ⟨[(0, .v (.one (.yld 9))), (1, .v (.one (.ptr 7 0))), (2, .v (.one (.ptr 6 0))), (42, .v (.one (Uv x5.ctors))), (43, .v (.one (Ux (x5.ctors.length : Int)))), (44, .v (.one (Ux s3.1)))], [(0, .mp (QO s3.2.1) s3.2.2), (1, .cells 62 [Uv ((a0.take s1.1.toNat) : List Dcl), .mp 0]), (2, .cells 59 [.ptr 1 0]), (3, .cells 45 (UA x5)), (5, .cells 25 [Ux x7]), (6, .cells 45 (UA x5)), (7, .cells 3 [Ux s1.1]), (8, .obj (.deferred (some []))), (9, Zd a0 s1), (10, Yl s1 x5)], [], 12, 98, []⟩) (0, (J5 s1.2.1 x5.name (⟨3, s1.1, 0, x5.params, x5.ty⟩ : Ent))) o26 (Qu (Ua rfl) (hA rfl) Un rfl (Nat.le_trans hv2 (Um rfl)) rfl rfl rfl (UE rfl (UG rfl)) rfl rfl) hl3 (fun s3 n3 oo3 h3 ho3 => ?_)
  unfold m11_l0 at h3
  refine Q5 <| Q0 <| Ue rfl rfl rfl (Q7 rfl rfl rfl) <| Q4 <| Q3 <| Q5 ?_
  refine Qg (b := (decide (s3.1 < (x5.ctors.length : Int)))) rfl (fun c27 => ?_) (fun c27 => ?_)
  replace h3 := Qk c27 h3
  refine Qj <| Q3 <| Q5 <| Qf <| Q5 <| Q0 <| Uf rfl rfl rfl ?_
  refine Qb h3 (fun x28 hx28 h3 => ?_)
  refine Ue rfl rfl rfl (Qq (α := Ctr) Yv rfl (.d _) rfl hx28) <| Ue rfl rfl rfl (Qv (x28 : Ctr) ZQ rfl) <| Q9 rfl rfl (Um rfl) (Qm Wj rfl) <| Ug rfl rfl rfl <| Qy rfl rfl (QC (x28 : Ctr) ZQ rfl rfl rfl rfl rfl) <| Q4 <| Q3 <| Q5 <| Q0 <| Uf rfl rfl rfl <| Ue rfl rfl rfl (Q1 Kk rfl) <| Ue rfl rfl rfl (Q6 JG rfl rfl rfl) <| Ue rfl rfl rfl (Q6 QZ rfl rfl rfl) <| Uf rfl rfl rfl ?_
  refine Ue rfl rfl rfl (Q1 Ym rfl) <| Ue rfl rfl rfl (Q6 QZ rfl rfl rfl) <| Ue rfl rfl rfl (Q1 K2 rfl) <| Ue rfl rfl rfl (Qi QW rfl rfl rfl rfl) <| Ue rfl rfl rfl (Y1 K9 rfl (.cons rfl (.cons rfl (.cons rfl (.cons rfl (.cons rfl .nil))))) rfl) ?_
  refine Qb h3 (fun y29 h4 h3 => ?_)
  have ha30 : ExecOK Try.prog (some 9) GL ⟨[(0, .v (.one (Uv a0))), (4, .v (.one (.ptr 2 0))), (16, .v (.one (Uv a0))), (17, .v (.one (Ux (a0.length : Int)))), (18, .v (.one (Ux s1.1))), (38, .v (.one (.fn 49 [(7, 0), (6, 0)]))), (39, .v (.one (Jl x28.name))), (40, .v (.agg [Ux 4, Ux s1.1, Ux s3.1, Ux x5.params, Ux x28.ty.kind, Ux x28.ty.index, Jl x28.ty.name, Uv x28.ty.levels, Uv x28.ty.kids]))], m11_h22 s3 a0 s1 x5 x7 x28, [], 13, 48, []⟩ .normal ⟨[(4, .v (.one (.ptr 2 0))), (8, .v (.one (Jl x28.name))), (9, .v (.one (.ptr 13 0)))], m11_h25 s3 a0 s1 x5 x7 x28, [], 14, 48, []⟩ := by
   refine QI (fun w0 M V0 ro n Q hv4 hro4 hQn4 => ?_)
   refine Q5 <| Q0 <| Ug rfl rfl rfl <| Q4 <| Q3 <| Q0 <| Q9 rfl rfl (Um rfl) (Qm ZB rfl) <| Qy rfl rfl (Qr Jm rfl rfl rfl rfl (Um rfl) rfl) <| Q4 ?_
   exact Jr hQn4 (Qu (Ua rfl) (hA rfl) Un rfl (Nat.le_trans hv4 (Um rfl)) rfl rfl rfl (UE rfl (UG rfl)) rfl rfl)
  have hb31 : ExecOK Try.prog (some 9) GK ⟨[(4, .v (.one (.ptr 2 0))), (8, .v (.one (Jl x28.name))), (9, .v (.one (.ptr 13 0)))], m11_h24 s3 a0 s1 x5 x7 x28, [], 14, 48, []⟩ .normal ⟨[], m11_h27 s3 x28 s1 x5 a0 x7, [], 14, 48, []⟩ := by
   refine QI (fun w0 M V0 ro n Q hv4 hro4 hQn4 => ?_)
   refine Qf ?_
   refine Jv [6] [] YI (by kernel_rfl) (by kernel_rfl) (by kernel_rfl) ?_
   refine RunA.rd rfl rfl rfl (Q2 (Q6 Xa rfl rfl rfl)) rfl <| RunA.rd rfl rfl rfl (Q2 (Jx rfl)) rfl <| RunA.rd rfl rfl rfl (Q2 (Q1 K3 rfl)) rfl <| RunA.rd rfl rfl rfl (Q2 (Q6 YA rfl rfl rfl)) rfl <| RunA.rd rfl rfl rfl (Q2 (Qt rfl)) rfl <| RunA.rd rfl rfl rfl (Q2 (Qi Jm rfl rfl rfl rfl)) rfl <| RunA.eff rfl rfl rfl (Je (M := s3.2) (k := x28.name) (v := (⟨4, s1.1, s3.1, x5.params, x28.ty⟩ : Ent)) YL rfl rfl rfl rfl rfl) rfl ?_
   refine RunA.nil ⟨?ex, _, _, rfl, ?_⟩
   case ex => exact trivial
   refine JX (st' := ⟨[], m11_h28 s3 x28 s1 x5 a0 x7, [], 14, 48, []⟩) (Qu U9 (hA rfl) Un rfl (Nat.le_trans hv4 (Um rfl)) rfl rfl rfl (UE rfl (UG rfl)) rfl rfl) <| Qe ?_
   have e := Uc h4; subst e
   exact Jr hQn4 (Qu U9 (hA rfl) Un rfl (Nat.le_trans hv4 (Um rfl)) rfl rfl rfl (UE rfl (UG rfl)) rfl rfl)
  refine Q9 rfl rfl (Um rfl) (Jc (jump := none) rfl rfl rfl rfl rfl (Qw ha30 (fun E hv => (Qu (Ua rfl) (hA rfl) Un rfl (Nat.le_trans hv (Um rfl)) rfl rfl rfl (UE rfl (UG rfl)) rfl rfl))) rfl (Qw hb31 (fun E hv => (Qu (Ua rfl) (hA rfl) Un rfl (Nat.le_trans hv (Um rfl)) rfl rfl rfl (UE rfl (UG rfl)) rfl rfl))) rfl rfl) ?_
  refine Ue rfl rfl rfl (Jb rfl) <| Q4 <| Q3 ?_
  refine Qg rfl (fun h => nomatch h) (fun _ => ?_)
  refine Qj <| Qe <| Q3 <| Q0 <| Ue rfl rfl rfl (Q7 rfl rfl rfl) <| Uf rfl rfl rfl <| Q4 ?_
  have e := Uc h3; subst e
  refine QM ((Jk (s3.1 + 1)), (J5 s3.2 x28.name (⟨4, s1.1, s3.1, x5.params, x28.ty⟩ : Ent))) (Qu (Ua rfl) (hA rfl) Un rfl (Nat.le_trans hv2 (Um rfl)) rfl rfl rfl (UE rfl (UG rfl)) rfl rfl) ho3
  replace h3 := Ql c27 h3
  refine J1 <| Qn <| Qn ?_
  have e := Uc h3; subst e
  have e_ : _ = _ := ho3
  subst e_
  exact QP s3.2 (Qu (Ua rfl) (hA rfl) Un rfl (Nat.le_trans hv2 (Um rfl)) rfl rfl rfl (UE rfl (UG rfl)) rfl rfl) h2
  intro o25 h2
  refine QF <| Q3 <| Q0 <| Uf rfl rfl rfl <| Ue rfl rfl rfl (Q1 Y8 rfl) <| Ue rfl rfl rfl (Q6 JG rfl rfl rfl) ?_
  refine JC h2 (fun g32 h2 => ?_)
  refine Ue rfl rfl rfl (Gr rfl rfl g32) <| Ue rfl rfl rfl (Q6 QZ rfl rfl rfl) <| Ue rfl rfl rfl (Q1 JO rfl) <| Ue rfl rfl rfl (Q1 KU rfl) <| Ue rfl rfl rfl (Q6 QZ rfl rfl rfl) <| Ue rfl rfl rfl (Q1 JO rfl) <| Ue rfl rfl rfl (Q1 Kl rfl) <| Ue rfl rfl rfl (Qi QW rfl rfl rfl rfl) <| Ue rfl rfl rfl (Y1 K9 rfl (.cons rfl (.cons rfl (.cons rfl (.cons rfl .nil)))) rfl) ?_
  refine Qb h2 (fun y33 h3 h2 => ?_)
  have ha34 : ExecOK Try.prog (some 9) GL ⟨[(0, .v (.one (Uv a0))), (4, .v (.one (.ptr 2 0))), (16, .v (.one (Uv a0))), (17, .v (.one (Ux (a0.length : Int)))), (18, .v (.one (Ux s1.1))), (38, .v (.one (.fn 49 [(7, 0), (6, 0)]))), (39, .v (.one (Jl (x5.name ++ ([46, 114, 101, 99] : List UInt8))))), (40, .v (.agg [Ux 5, Ux s1.1, Ux 0, Ux x5.rcr.params, Ux x5.rcr.ty.kind, Ux x5.rcr.ty.index, Jl x5.rcr.ty.name, Uv x5.rcr.ty.levels, Uv x5.rcr.ty.kids]))], m11_h29 o25 a0 s1 x5 x7, [], 12, 48, []⟩ .normal ⟨[(4, .v (.one (.ptr 2 0))), (8, .v (.one (Jl (x5.name ++ ([46, 114, 101, 99] : List UInt8))))), (9, .v (.one (.ptr 12 0)))], m11_h32 o25 a0 s1 x5 x7, [], 13, 48, []⟩ := by
   refine QI (fun w0 M V0 ro n Q hv3 hro3 hQn3 => ?_)
   refine Q5 <| Q0 <| Ug rfl rfl rfl <| Q4 <| Q3 <| Q0 <| Q9 rfl rfl (Um rfl) (Qm ZB rfl) <| Qy rfl rfl (Qr Jm rfl rfl rfl rfl (Um rfl) rfl) <| Q4 ?_
   exact Jr hQn3 (Qu (Ua rfl) (hA rfl) Un rfl (Nat.le_trans hv3 (Um rfl)) rfl rfl rfl (UE rfl (UG rfl)) rfl rfl)
  have hb35 : ExecOK Try.prog (some 9) GK ⟨[(4, .v (.one (.ptr 2 0))), (8, .v (.one (Jl (x5.name ++ ([46, 114, 101, 99] : List UInt8))))), (9, .v (.one (.ptr 12 0)))], m11_h31 o25 a0 s1 x5 x7, [], 13, 48, []⟩ .normal ⟨[], m11_h34 o25 x5 s1 a0 x7, [], 13, 48, []⟩ := by
   refine QI (fun w0 M V0 ro n Q hv3 hro3 hQn3 => ?_)
   refine Qf ?_
   refine Jv [6] [] YI (by kernel_rfl) (by kernel_rfl) (by kernel_rfl) ?_
   refine RunA.rd rfl rfl rfl (Q2 (Q6 Xa rfl rfl rfl)) rfl <| RunA.rd rfl rfl rfl (Q2 (Jx rfl)) rfl <| RunA.rd rfl rfl rfl (Q2 (Q1 K3 rfl)) rfl <| RunA.rd rfl rfl rfl (Q2 (Q6 YA rfl rfl rfl)) rfl <| RunA.rd rfl rfl rfl (Q2 (Qt rfl)) rfl <| RunA.rd rfl rfl rfl (Q2 (Qi Jm rfl rfl rfl rfl)) rfl <| RunA.eff rfl rfl rfl (Je (M := o25) (k := (x5.name ++ ([46, 114, 101, 99] : List UInt8))) (v := (⟨5, s1.1, 0, x5.rcr.params, x5.rcr.ty⟩ : Ent)) YL rfl rfl rfl rfl rfl) rfl ?_
   refine RunA.nil ⟨?ex, _, _, rfl, ?_⟩
   case ex => exact trivial
   refine JX (st' := ⟨[], m11_h35 o25 x5 s1 a0 x7, [], 13, 48, []⟩) (Qu U9 (hA rfl) Un rfl (Nat.le_trans hv3 (Um rfl)) rfl rfl rfl (UE rfl (UG rfl)) rfl rfl) <| Qe ?_
   have e := Uc h3; subst e
   exact Jr hQn3 (Qu U9 (hA rfl) Un rfl (Nat.le_trans hv3 (Um rfl)) rfl rfl rfl (UE rfl (UG rfl)) rfl rfl)
  refine Q9 rfl rfl (Um rfl) (Jc (jump := none) rfl rfl rfl rfl rfl (Qw ha34 (fun E hv => (Qu (Ua rfl) (hA rfl) Un rfl (Nat.le_trans hv (Um rfl)) rfl rfl rfl (UE rfl (UG rfl)) rfl rfl))) rfl (Qw hb35 (fun E hv => (Qu (Ua rfl) (hA rfl) Un rfl (Nat.le_trans hv (Um rfl)) rfl rfl rfl (UE rfl (UG rfl)) rfl rfl))) rfl rfl) ?_
  refine Q4 <| Qe ?_
  have e := Uc h2; subst e
  exact hQ2 _ _ _ (.inl rfl) rfl (Qu U9 (hA rfl) Un rfl (Nat.le_trans hv2 (Um rfl)) rfl rfl rfl (UE rfl (UG rfl)) rfl rfl)
  replace h2 := Ql c21 h2
  refine Q5 <| Q0 <| Ue rfl rfl rfl (Q7 rfl rfl rfl) <| Ug rfl rfl rfl <| Q4 <| Q3 ?_
  refine Qg (b := (x5.kind == 4)) rfl (fun c36 => ?_) (fun c36 => ?_)
  replace h2 := Qk c36 h2
  refine Q5 <| Q0 <| Ue rfl rfl rfl (Q1 Y2 rfl) <| Ue rfl rfl rfl (Q6 YZ rfl rfl rfl) <| Ue rfl rfl rfl (Qx (α := Fn) Yk rfl (.d _)) <| Uf rfl rfl rfl <| Q4 <| Q3 <| Qf ?_
  refine QR 3 (fun (o37 : (Qa UN Ent)) => ⟨[], [(0, .mp (QO o37.1) o37.2), (1, .cells 62 [Uv ((a0.take s1.1.toNat) : List Dcl), .mp 0]), (2, .cells 59 [.ptr 1 0]), (3, .cells 45 (UA x5)), (5, .cells 25 [Ux x7]), (6, .cells 45 (UA x5)), (7, .cells 3 [Ux s1.1]), (8, .obj (.deferred (some []))), (9, Zd a0 s1), (10, GJ s1 x5)], [], 11, 98, []⟩) (fun (o37 : (Qa UN Ent)) => (some o37) = some y11) ?_ ?_
  refine Qb h2 (fun o38 hl3 h2 => ?_)
  refine QQ (m11_l1 x5 s1) (fun s3 => ⟨[(0, .v (.one (.yld 9))), (1, .v (.one (.ptr 7 0))), (2, .v (.one (.ptr 6 0))), (78, .v (.one (Uv x5.funs))), (79, .v (.one (Ux (x5.funs.length : Int)))), (80, .v (.one (Ux s3.1)))], [(0, .mp (QO s3.2.1) s3.2.2), (1, .cells 62 [Uv ((a0.take s1.1.toNat) : List Dcl), .mp 0]), (2, .cells 59 [.ptr 1 0]), (3, .cells 45 (UA x5)), (5, .cells 25 [Ux x7]), (6, .cells 45 (UA x5)), (7, .cells 3 [Ux s1.1]), (8, .obj (.deferred (some []))), (9, Zd a0 s1), (10, GJ s1 x5)], [], 11, 98, []⟩) (0, s1.2.1) o38 (Qu (Ua rfl) (hA rfl) Un rfl (Nat.le_trans hv2 (Um rfl)) rfl rfl rfl (UE rfl (UG rfl)) rfl rfl) hl3 (fun s3 n3 oo3 h3 ho3 => ?_)
  unfold m11_l1 at h3
  refine Q5 <| Q0 <| Ue rfl rfl rfl (Q7 rfl rfl rfl) <| Q4 <| Q3 <| Q5 ?_
  refine Qg (b := (decide (s3.1 < (x5.funs.length : Int)))) rfl (fun c39 => ?_) (fun c39 => ?_)
  replace h3 := Qk c39 h3
  refine Qj <| Q3 <| Q5 <| Qf <| Q5 <| Q0 <| Uf rfl rfl rfl ?_
  refine Qb h3 (fun x40 hx40 h3 => ?_)
  refine Ue rfl rfl rfl (Qq (α := Fn) Yk rfl (.d _) rfl hx40) <| Ue rfl rfl rfl (Qv (x40 : Fn) Zx rfl) <| Q9 rfl rfl (Um rfl) (Qm Wi rfl) <| Ug rfl rfl rfl <| Qy rfl rfl (QC (x40 : Fn) Zx rfl rfl rfl rfl rfl) <| Q4 <| Q3 <| Q5 <| Q0 <| Uf rfl rfl rfl <| Ue rfl rfl rfl (Q1 Gp rfl) <| Ue rfl rfl rfl (Q6 JG rfl rfl rfl) <| Ue rfl rfl rfl (Q6 QZ rfl rfl rfl) <| Uf rfl rfl rfl ?_
  refine Ue rfl rfl rfl (Q1 Ym rfl) <| Ue rfl rfl rfl (Q6 QZ rfl rfl rfl) <| Ue rfl rfl rfl (Q1 KT rfl) <| Ue rfl rfl rfl (Qi QW rfl rfl rfl rfl) <| Ue rfl rfl rfl (Y1 K9 rfl (.cons rfl (.cons rfl (.cons rfl (.cons rfl (.cons rfl .nil))))) rfl) ?_
  refine Qb h3 (fun y41 h4 h3 => ?_)
  have ha42 : ExecOK Try.prog (some 9) GL ⟨[(0, .v (.one (Uv a0))), (4, .v (.one (.ptr 2 0))), (16, .v (.one (Uv a0))), (17, .v (.one (Ux (a0.length : Int)))), (18, .v (.one (Ux s1.1))), (38, .v (.one (.fn 49 [(7, 0), (6, 0)]))), (39, .v (.one (Jl x40.name))), (40, .v (.agg [Ux 6, Ux s1.1, Ux s3.1, Ux x5.params, Ux x40.ty.kind, Ux x40.ty.index, Jl x40.ty.name, Uv x40.ty.levels, Uv x40.ty.kids]))], m11_h36 s3 a0 s1 x5 x7 x40, [], 12, 48, []⟩ .normal ⟨[(4, .v (.one (.ptr 2 0))), (8, .v (.one (Jl x40.name))), (9, .v (.one (.ptr 12 0)))], m11_h39 s3 a0 s1 x5 x7 x40, [], 13, 48, []⟩ := by
   refine QI (fun w0 M V0 ro n Q hv4 hro4 hQn4 => ?_)
   refine Q5 <| Q0 <| Ug rfl rfl rfl <| Q4 <| Q3 <| Q0 <| Q9 rfl rfl (Um rfl) (Qm ZB rfl) <| Qy rfl rfl (Qr Jm rfl rfl rfl rfl (Um rfl) rfl) <| Q4 ?_
   exact Jr hQn4 (Qu (Ua rfl) (hA rfl) Un rfl (Nat.le_trans hv4 (Um rfl)) rfl rfl rfl (UE rfl (UG rfl)) rfl rfl)
  have hb43 : ExecOK Try.prog (some 9) GK ⟨[(4, .v (.one (.ptr 2 0))), (8, .v (.one (Jl x40.name))), (9, .v (.one (.ptr 12 0)))], m11_h38 s3 a0 s1 x5 x7 x40, [], 13, 48, []⟩ .normal ⟨[], m11_h41 s3 x40 s1 x5 a0 x7, [], 13, 48, []⟩ := by
   refine QI (fun w0 M V0 ro n Q hv4 hro4 hQn4 => ?_)
   refine Qf ?_
   refine Jv [6] [] YI (by kernel_rfl) (by kernel_rfl) (by kernel_rfl) ?_
   refine RunA.rd rfl rfl rfl (Q2 (Q6 Xa rfl rfl rfl)) rfl <| RunA.rd rfl rfl rfl (Q2 (Jx rfl)) rfl <| RunA.rd rfl rfl rfl (Q2 (Q1 K3 rfl)) rfl <| RunA.rd rfl rfl rfl (Q2 (Q6 YA rfl rfl rfl)) rfl <| RunA.rd rfl rfl rfl (Q2 (Qt rfl)) rfl <| RunA.rd rfl rfl rfl (Q2 (Qi Jm rfl rfl rfl rfl)) rfl <| RunA.eff rfl rfl rfl (Je (M := s3.2) (k := x40.name) (v := (⟨6, s1.1, s3.1, x5.params, x40.ty⟩ : Ent)) YL rfl rfl rfl rfl rfl) rfl ?_
   refine RunA.nil ⟨?ex, _, _, rfl, ?_⟩
   case ex => exact trivial
   refine JX (st' := ⟨[], m11_h42 s3 x40 s1 x5 a0 x7, [], 13, 48, []⟩) (Qu U9 (hA rfl) Un rfl (Nat.le_trans hv4 (Um rfl)) rfl rfl rfl (UE rfl (UG rfl)) rfl rfl) <| Qe ?_
   have e := Uc h4; subst e
   exact Jr hQn4 (Qu U9 (hA rfl) Un rfl (Nat.le_trans hv4 (Um rfl)) rfl rfl rfl (UE rfl (UG rfl)) rfl rfl)
  refine Q9 rfl rfl (Um rfl) (Jc (jump := none) rfl rfl rfl rfl rfl (Qw ha42 (fun E hv => (Qu (Ua rfl) (hA rfl) Un rfl (Nat.le_trans hv (Um rfl)) rfl rfl rfl (UE rfl (UG rfl)) rfl rfl))) rfl (Qw hb43 (fun E hv => (Qu (Ua rfl) (hA rfl) Un rfl (Nat.le_trans hv (Um rfl)) rfl rfl rfl (UE rfl (UG rfl)) rfl rfl))) rfl rfl) ?_
  refine Ue rfl rfl rfl (Jb rfl) <| Q4 <| Q3 ?_
  refine Qg rfl (fun h => nomatch h) (fun _ => ?_)
  refine Qj <| Qe <| Q3 <| Q0 <| Ue rfl rfl rfl (Q7 rfl rfl rfl) <| Uf rfl rfl rfl <| Q4 ?_
  have e := Uc h3; subst e
  refine QM ((Jk (s3.1 + 1)), (J5 s3.2 x40.name (⟨6, s1.1, s3.1, x5.params, x40.ty⟩ : Ent))) (Qu (Ua rfl) (hA rfl) Un rfl (Nat.le_trans hv2 (Um rfl)) rfl rfl rfl (UE rfl (UG rfl)) rfl rfl) ho3
  replace h3 := Ql c39 h3
  refine J1 <| Qn <| Qn ?_
  have e := Uc h3; subst e
  have e_ : _ = _ := ho3
  subst e_
  exact QP s3.2 (Qu U9 (hA rfl) Un rfl (Nat.le_trans hv2 (Um rfl)) rfl rfl rfl (UE rfl (UG rfl)) rfl rfl) h2
  intro o37 h2
  refine QF <| Qe ?_
  have e := Uc h2; subst e
  exact hQ2 _ _ _ (.inl rfl) rfl (Qu U9 (hA rfl) Un rfl (Nat.le_trans hv2 (Um rfl)) rfl rfl rfl (UE rfl (UG rfl)) rfl rfl)
  replace h2 := Ql c36 h2
  refine Qj <| Qe ?_
  have e := Uc h2; subst e
  exact hQ2 _ _ _ (.inl rfl) rfl (Qu U9 (hA rfl) Un rfl (Nat.le_trans hv2 (Um rfl)) rfl rfl rfl (UE rfl (UG rfl)) rfl rfl)
 refine ZK (Y5 (e := .normal) rfl hc12 rfl rfl (by intro h; cases h) rfl) rfl ?_
 refine Qe <| Qe <| Q3 <| Q0 <| Ue rfl rfl rfl (Q7 rfl rfl rfl) <| Uf rfl rfl rfl <| Q4 ?_
 have e := Uc h1; subst e
 refine QM ((Jk (s1.1 + 1)), y11, (a0.take s1.1.toNat)) (Qu (Ua rfl) (hA rfl) Un rfl (Nat.zero_le _) rfl rfl rfl (UE rfl (UG rfl)) rfl rfl) ho1
 replace h1 := Ql c4 h1
 refine J1 <| Qn <| Qn ?_
 have e := Uc h1; subst e
 have e_ : _ = _ := ho1
 subst e_
 exact QP (s1.2.1, s1.2.2) (Qu U9 (hA rfl) Un rfl (Nat.zero_le _) rfl rfl rfl (UE rfl (UG rfl)) rfl rfl) h0
 intro o2 h0
 refine QF <| Q3 <| Q5 <| Q0 <| Ug rfl rfl rfl <| Ug rfl rfl rfl <| Q4 <| Q3 <| QA ?_
 have e := Uc h0; subst e
 exact QL (fun _ _ h => h) rfl (Qz rfl (Qz rfl .nil)) (.cons (.one (.d _)) (.cons (.one (.d _)) .nil))
end Go.Proofs.Ytafddfoefeploaa
