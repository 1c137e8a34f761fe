/- The statement DependNeedsUpto is proved here: for every list of declarations and every list of names the law returns true, and the arguments read behind the call as they did before; condition: the arguments are of bulk at most 1048576 (the second form). -/
import Derived.Test.YtijcchddnnnmdaaK45
import Derived.Deep.Slices
import Derived.ChangeSame
import Derived.Test.YtijcchddnnnmdaaRows
import Derived.Test.YtijcchddnnnmdaaProg
import Derived.Test.YtijcchddnnnmdaaChecked
import Derived.ProofKit
import Derived.Carry
import Derived.JoinedCond
namespace Go.Proofs.Ytijcchddnnnmdaa
open Go.RowKit Go.Shelf
set_option linter.unusedSimpArgs false
set_option linter.unusedVariables false
theorem en_10 : J2 Try.prog 10 := enters_of Try.func10 (by kernel_rfl) rfl
theorem en_32 : J2 Try.prog 32 := enters_of Try.func32 (by kernel_rfl) rfl
def GF (a0 : List UN) (s4 : Int) : Option (LO Int (Unit ⊕ Int)) :=
 cond (decide (s4 < (a0.length : Int)))
   (Option.bind (Jg a0 s4) fun (x9 : UN) =>
 Option.bind (some ()) (fun (y10 : Unit) => cond (decide (100 < (x9.length : Int)))
   (some (.done (.inr s4)))
   (some (.next (J1 (s4 + 1))))))
   (some (.done (.inl ())))
def WO (a0 : List UN) : Option Bool :=
 Option.bind (cond (decide ((a0.length : Int) ≤ 20))
   (Option.bind (Option.bind (Option.bind (Qv (GF a0) QH 0) (Sum.elim (fun (o7 : Unit) => some (-1)) (fun o => some o))) (fun (y5 : Int) => some (decide (0 ≤ y5)))) (fun (y3 : Bool) => some (!y3)))
   (some false)) (fun (v1 : Bool) => some v1)
set_option maxRecDepth 100000 in
set_option maxHeartbeats 2000000 in
theorem m10_ok (a0 : List UN) (r : Bool) (h0 : WO a0 = some r) : Fun Try.prog 10 [.one (Ut a0)] (Qy [.one (Uw r)]) := by
 unfold WO at h0
 refine QS 9 11 Try.func10 rfl en_10 rfl (Ug rfl) (fun S w => ?_)
 simp only [J8]
 refine Q2 <| Q0 <| U7 rfl rfl rfl <| Q3 <| Q1 <| Q2 ?_
 refine Ja (fun (v1 : Bool) => ⟨[(2, .v (.one (Uw v1)))], [], [], 0, 11, []⟩) (fun (v1 : Bool) => (some v1) = some r) ?_ ?_
 refine Qb h0 (fun w1_ h1 h0 => ?_)
 refine Q0 <| U6 rfl rfl rfl <| U5 rfl rfl rfl (QB (α := UN) QU rfl (.d _)) <| U5 rfl rfl rfl (Q5 rfl rfl rfl) <| U6 rfl rfl rfl ?_
 refine QV (d := 6) (c := (decide ((a0.length : Int) ≤ 20))) rfl (fun c2 => ?_) (fun c2 => ?_)
 replace h1 := Qm c2 h1
 refine U6 rfl rfl rfl ?_
 refine Qb h1 (fun y3 h2 h1 => ?_)
 have hc4 : CallM Try.prog 31 [.one (Ut a0), .one (.fn 32 [])] ⟨[], [], 0⟩ (Qy [.one (Uw y3)]) ⟨[], [], 0⟩ := by
  refine QP ⟨[(4, .v (.one (Uw y3)))], [], [], 0, 9, []⟩ rfl rfl en_31 (Ug rfl) rfl (Qk rfl .nil) (fun w0 M V0 Q hv2 hQ2 => ?_)
  simp only [J8]
  refine Q2 <| Q0 <| U7 rfl rfl rfl <| Q3 <| Q1 <| Q2 <| Q0 <| U6 rfl rfl rfl <| U6 rfl rfl rfl ?_
  refine Qb h2 (fun y5 h3 h2 => ?_)
  have hc6 : CallM Try.prog 52 [.one (Ut a0), .one (.fn 32 [])] ⟨[], [], 0⟩ (Qy [.one (Uv y5)]) ⟨[], [], 0⟩ := by
   refine QP ⟨[(4, .v (.one (Uv y5)))], [], [], 0, 19, []⟩ rfl rfl en_52 (Ug rfl) rfl (Qk rfl .nil) (fun w0 M V0 Q hv3 hQ3 => ?_)
   simp only [J8]
   refine Q2 <| Q0 <| U7 rfl rfl rfl <| Q3 <| Q1 <| Q2 <| Q2 <| Q0 <| U6 rfl rfl rfl <| U5 rfl rfl rfl (QB (α := UN) QU rfl (.d _)) <| U6 rfl rfl rfl <| Q3 <| Q1 <| Qc ?_
   refine QF 0 (fun (o7 : Unit) => ⟨[], [], [], 0, 19, []⟩) (fun (o7 : Unit) => (some (-1)) = some y5) ?_ ?_
   refine Qb h3 (fun o8 hl4 h3 => ?_)
   refine QE (GF a0) (fun s4 => ⟨[(0, .v (.one (Ut a0))), (1, .v (.one (.fn 32 []))), (7, .v (.one (Uv (a0.length : Int)))), (8, .v (.one (Uv s4)))], [], [], 0, 19, []⟩) 0 o8 (Qf (U1 rfl (U1 rfl (U1 rfl (U1 rfl U0)))) Ul Uh rfl (Nat.le_trans hv3 (Ug rfl)) rfl rfl rfl UB rfl rfl) hl4 (fun s4 n4 oo4 h4 ho4 => ?_)
   unfold GF at h4
   refine Q2 <| Q0 <| U5 rfl rfl rfl (Q5 rfl rfl rfl) <| Q3 <| Q1 <| Q2 ?_
   refine Qe (b := (decide (s4 < (a0.length : Int)))) rfl (fun c9 => ?_) (fun c9 => ?_)
   replace h4 := Qm c9 h4
   refine Qg <| Q1 <| Q2 <| Qc <| Q2 <| Q0 <| U6 rfl rfl rfl <| U7 rfl rfl rfl <| Q3 <| Q1 <| Q2 <| Q0 <| U6 rfl rfl rfl <| U6 rfl rfl rfl ?_
   refine U6 rfl rfl rfl ?_
   refine Qb h4 (fun x10 hx10 h4 => ?_)
   refine U5 rfl rfl rfl (Qi (α := UN) QU rfl (.d _) rfl hx10) <| U5 rfl rfl rfl (QI JG rfl rfl) ?_
   refine Qb h4 (fun y11 h5 h4 => ?_)
   have hc12 : CallM Try.prog 32 [.one (YZ x10)] ⟨[], [], 0⟩ (Qy [.one (Uw (decide (100 < (x10.length : Int))))]) ⟨[], [], 0⟩ := by
    refine QP ⟨[(2, .v (.one (Uw (decide (100 < (x10.length : Int))))))], [], [], 0, 6, []⟩ rfl rfl en_32 (Ug rfl) rfl (Qk rfl .nil) (fun w0 M V0 Q hv5 hQ5 => ?_)
    simp only [J8]
    refine Q2 <| Q0 <| U7 rfl rfl rfl <| Q3 <| Q1 <| Q2 <| Q0 <| U6 rfl rfl rfl <| U5 rfl rfl rfl (X3 Wk rfl) <| U5 rfl rfl rfl (Q5 rfl rfl rfl) <| U7 rfl rfl rfl <| Q3 <| Q1 <| Qz ?_
    have e := U3 h5; subst e
    exact hQ5 _ _ _ (.inr rfl) rfl (Qf (U1 rfl U0) Ul Uh rfl (Nat.le_trans hv5 (Ug rfl)) rfl rfl rfl UB rfl rfl)
   refine Q9 rfl rfl (Ug rfl) (J4 rfl rfl rfl hc12 rfl Ul Uh) <| Q3 <| Q1 ?_
   refine Qe (b := (decide (100 < (x10.length : Int)))) rfl (fun c13 => ?_) (fun c13 => ?_)
   replace h4 := Qm c13 h4
   refine Q2 <| Q0 <| U6 rfl rfl rfl <| U7 rfl rfl rfl <| Q3 <| Q1 <| Qz ?_
   have e := U3 h4; subst e
   have e_ : _ = _ := ho4
   subst e_
   try dsimp only [Sum.elim_inl, Sum.elim_inr] at h3
   have e := U3 h3; subst e
   exact hQ3 _ _ _ (.inr rfl) rfl (Qf (U1 rfl U0) Ul Uh rfl (Nat.le_trans hv3 (Ug rfl)) rfl rfl rfl UB rfl rfl)
   replace h4 := Qn c13 h4
   refine Qg <| Qh <| Q1 <| Q0 <| U5 rfl rfl rfl (Q5 rfl rfl rfl) <| U6 rfl rfl rfl <| Q3 ?_
   have e := U3 h4; subst e
   refine QA (J1 (s4 + 1)) (Qf (U1 rfl (U1 rfl (U1 rfl (U1 rfl U0)))) Ul Uh rfl (Nat.le_trans hv3 (Ug rfl)) rfl rfl rfl UB rfl rfl) ho4
   replace h4 := Qn c9 h4
   refine QJ <| Qd <| Qd ?_
   have e := U3 h4; subst e
   have e_ : _ = _ := ho4
   subst e_
   exact QD () (Qf U0 Ul Uh rfl (Nat.le_trans hv3 (Ug rfl)) rfl rfl rfl UB rfl rfl) h3
   intro o7 h3
   refine Qu <| Q1 <| Q2 <| Q0 <| U7 rfl rfl rfl <| Q3 <| Q1 <| Qz ?_
   have e := U3 h3; subst e
   exact hQ3 _ _ _ (.inr rfl) rfl (Qf (U1 rfl U0) Ul Uh rfl (Nat.le_trans hv3 (Ug rfl)) rfl rfl rfl UB rfl rfl)
  refine Q9 rfl rfl (Ug rfl) (J4 rfl rfl rfl hc6 rfl Ul Uh) <| U5 rfl rfl rfl (Q5 rfl rfl rfl) <| U7 rfl rfl rfl <| Q3 <| Q1 <| Qz ?_
  have e := U3 h2; subst e
  exact hQ2 _ _ _ (.inr rfl) rfl (Qf (U1 rfl U0) Ul Uh rfl (Nat.le_trans hv2 (Ug rfl)) rfl rfl rfl UB rfl rfl)
 refine Q9 rfl rfl (Ug rfl) (J4 rfl rfl rfl hc4 rfl Ul Uh) <| U5 rfl rfl rfl (J9 rfl) <| U5 rfl rfl rfl (Qo rfl rfl) <| U7 rfl rfl rfl <| Q3 ?_
 have e := U3 h1; subst e
 exact Qr (!y3) (Qf (U1 rfl U0) Ul Uh rfl (Nat.zero_le _) rfl rfl rfl UB rfl rfl) h0
 replace h1 := Qn c2 h1
 refine Q8 rfl rfl <| Q8 rfl rfl <| Q8 rfl rfl <| U5 rfl rfl rfl (QG rfl rfl) <| U7 rfl rfl rfl <| Q3 ?_
 have e := U3 h1; subst e
 exact Qr false (Qf (U1 rfl U0) Ul Uh rfl (Nat.zero_le _) rfl rfl rfl UB rfl rfl) h0
 intro v1 h0
 refine Q1 <| Qz ?_
 have e := U3 h0; subst e
 exact QK (fun _ _ h => h) rfl (Qk rfl .nil) (.cons (.one (.d _)) .nil)
end Go.Proofs.Ytijcchddnnnmdaa
namespace Go.Proofs.Ytijcchddnnnmdaa
open Go.RowKit Go.Shelf
set_option linter.unusedSimpArgs false
set_option linter.unusedVariables false
def Ue (a0 : List Dcl) (a1 : List UN) : Option Bool :=
 Option.bind (Option.bind (Uc a0) fun (x2 : Bool) =>
 cond (!x2)
   (some true)
   (Option.bind (WO a1) fun (x4 : Bool) =>
 some (!x4))) (fun (v1 : Bool) => cond v1
   (Option.bind (Wv ) fun (x3 : Bool) =>
 some x3)
   (Option.bind (m12 a0 a1) fun (x4 : (List UN) × Int) =>
 Option.bind (m13 a0 a1) fun (x5 : (List UN) × Int) =>
 Option.bind (cond (x4.2 == x5.2)
   (Option.bind (WZ x4.1 x5.1) fun (x8 : Bool) =>
 cond x8
   (Option.bind (Wv ) fun (x10 : Bool) =>
 some x10)
   (some false))
   (some false)) (fun (v6 : Bool) => some v6)))
end Go.Proofs.Ytijcchddnnnmdaa
namespace Go.Proofs.Ytijcchddnnnmdaa
open Go.RowKit Go.Lib
set_option linter.unusedSimpArgs false
set_option linter.unusedVariables false
set_option linter.unusedSectionVars false
def W8 (b : List Bool) : Nat → List Dcl → List Dcl
  | _, [] => []
  | i, d :: l => cond (b[i]? == some true) (d :: W8 b (i + 1) l) (W8 b (i + 1) l)
theorem sel_app (b : List Bool) (c : List Dcl) : ∀ (a : List Dcl) (i : Nat), W8 b i (a ++ c) = W8 b i a ++ W8 b (i + a.length) c
  | [], i => rfl
  | d :: a, i => by
    simp only [List.cons_append, W8]
    rw [sel_app b c a (i + 1), show i + 1 + a.length = i + (d :: a).length by simp only [List.length_cons]; omega]
    cases (b[i]? == some true) <;> rfl
theorem sel_sub (b : List Bool) : ∀ (l : List Dcl) (i : Nat), (W8 b i l).Sublist l
  | [], i => List.Sublist.refl _
  | d :: l, i => by
    simp only [W8]
    cases (b[i]? == some true) with
    | true => exact (sel_sub b l (i + 1)).cons_cons d
    | false => exact (sel_sub b l (i + 1)).cons d
theorem sel_flat {β : Type} (f : Dcl → List β) (b : List Bool) : ∀ (l : List Dcl) (i : Nat), (((W8 b i l).map f).flatten).length ≤ ((l.map f).flatten).length
  | [], i => Nat.le_refl _
  | d :: l, i => by
    have := sel_flat f b l (i + 1)
    simp only [W8]
    cases (b[i]? == some true) <;> simp only [cond_true, cond_false, List.map_cons, List.flatten_cons, List.length_append] <;> omega
theorem sel_loop {β : Type} {step : List β × Int → Option (LO (List β × Int) (List β))} (b : List Bool) (f : Dcl → List β) (env : List Dcl) (hl : env.length ≤ 900000000) (hb : b.length = env.length)
    (hoff : ∀ a x c out, env = a ++ x :: c → Jg b (a.length : Int) = some false → step (out, (a.length : Int)) = some (.next (out, J1 ((a.length : Int) + 1))))
    (hon : ∀ a x c out, env = a ++ x :: c → Jg b (a.length : Int) = some true → out.length + (f x).length ≤ ((env.map f).flatten).length → step (out, (a.length : Int)) = some (.next (out ++ f x, J1 ((a.length : Int) + 1))))
    (hout : ∀ s, step (s, (env.length : Int)) = some (.done s)) : Qv step QH ([], 0) = some ((W8 b 0 env).map f).flatten := by
  obtain ⟨r, e, rfl⟩ := Jb (step := step) env (fun i s => (s, i)) (fun a s => s = ((W8 b 0 a).map f).flatten) (fun r => r = ((W8 b 0 env).map f).flatten) hl
    (fun a x c s e hs => by
      have hal := YD e
      have hab : a.length < b.length := by omega
      have h1 : b[a.length]? = some b[a.length] := List.getElem?_eq_getElem hab
      have hsl : W8 b 0 (a ++ [x]) = W8 b 0 a ++ cond (b[a.length]? == some true) [x] [] := by
        rw [sel_app, Nat.zero_add]
        rfl
      cases h2 : b[a.length] with
      | true =>
        rw [h2] at h1
        refine .inr ⟨s ++ f x, hon a x c s e h1 ?_, by rw [hs, hsl, h1]; simp⟩
        have h3 := sel_flat f b a 0
        rw [hs, e, List.map_append, List.flatten_append, List.length_append, List.map_cons, List.flatten_cons, List.length_append]
        omega
      | false =>
        rw [h2] at h1
        exact .inr ⟨s, hoff a x c s e h1, by rw [hs, hsl, h1]; simp⟩)
    (fun s hs => ⟨s, hout s, hs⟩) [] rfl
  exact e
inductive RSays {β : Type} (d : Bool) (f : Dcl → List β) (env : List Dcl) (nm : List UN) : List β × Int → Prop
  | twice (h : ¬ (QM env).Nodup) : RSays d f env nm ([], 8)
  | none (h : (QM env).Nodup) (h2 : ¬ JU env env) : RSays d f env nm ([], 9)
  | miss (h : (QM env).Nodup) (h2 : JU env env) (h3 : ¬ ∀ s ∈ nm, s ∈ QM env) : RSays d f env nm ([], 9)
  | ok (h : (QM env).Nodup) (h2 : JU env env) (h3 : ∀ s ∈ nm, s ∈ QM env) (b : List Bool) (hb : Least (UM d (Zz env)) env.length (Gk env nm) b) : RSays d f env nm (((W8 b 0 env).map f).flatten, 0)
theorem RSays.uniq {β : Type} {d : Bool} {f : Dcl → List β} {env : List Dcl} {nm : List UN} {r s : List β × Int} (h1 : RSays d f env nm r) (h2 : RSays d f env nm s) : r = s := by
  cases h1 with
  | twice h => cases h2 <;> first | rfl | contradiction
  | none h h' => cases h2 <;> first | rfl | contradiction
  | miss h h' h'' => cases h2 <;> first | rfl | contradiction
  | ok h h' h'' b hb =>
    cases h2 with
    | twice g => contradiction
    | none g g' => contradiction
    | miss g g' g'' => contradiction
    | ok g g' g'' c hc => rw [hb.uniq hc (fun _ _ => Iff.rfl) fun _ => Iff.rfl]
theorem Least.of_iff {E E' : Nat → Nat → Prop} {n : Nat} {S S' : Nat → Prop} {b : List Bool} (h : Least E n S b) (hE : ∀ i j, E i j ↔ E' i j) (hS : ∀ i, S i ↔ S' i) : Least E' n S' b :=
  ⟨h.len, fun i hi => h.start i ((hS i).2 hi), fun i j e => h.cl i j ((hE i j).2 e), fun C Un hE' => h.min C (fun i hi => Un i ((hS i).1 hi)) fun i j e => hE' i j ((hE i j).1 e)⟩
theorem flags_eq (env : List Dcl) (h : env.length ≤ 900000000) : Qv (Xk env) QH ([], 0) = some (List.replicate env.length false) := by
  obtain ⟨r, e, rfl⟩ := Jb (step := Xk env) env (fun i (s : List Bool) => (s, i)) (fun a s => s = List.replicate a.length false) (fun r => r = List.replicate env.length false) h
    (fun a x b s e hs => .inr ⟨s ++ [false], by
      have := YD e
      unfold Xk
      dsimp only
      rw [e, QX, hs]
      simp only [cond_true]
      rw [Jf (by simp; omega)], by rw [hs, List.length_append]; exact (List.replicate_succ' ..).symm⟩)
    (fun s hs => ⟨s, by unfold Xk; dsimp only; rw [J7]; rfl, hs⟩) [] rfl
  exact e
theorem marks_eq (env : List Dcl) (nm : List UN) (hl : Yg env ≤ 100000000) (hm : nm.length ≤ 900000000) (z : List Bool) (hz : z = List.replicate env.length false) : ∃ r, Qv (GE nm env z) QH (z, 0) = some r ∧
    (((∀ s ∈ nm, s ∈ QM env) ∧ ∃ b, r = .inl b ∧ b.length = env.length ∧ ∀ i, UI b i ↔ Gk env nm i) ∨ (¬ (∀ s ∈ nm, s ∈ QM env) ∧ r = .inr (.inl ()))) := by
  have hzl : z.length = env.length := by rw [hz, List.length_replicate]
  refine Jb (step := GE nm env z) nm (fun k s => (s, k)) (fun p s => (∀ x ∈ p, x ∈ QM env) ∧ s.length = env.length ∧ ∀ i, UI s i ↔ Gk env p i) _ hm ?_ ?_ _ ⟨fun x hx => by (cases hx), hzl, fun i => ⟨fun h => by rw [hz] at h; exact absurd h (off_on _ _), fun ⟨s, hs, _⟩ => by cases hs⟩⟩
  · rintro p x c s e ⟨hp, hsl, hI⟩
    have e0 := m48_eq env x hl
    by_cases hx : x ∈ QM env
    · obtain ⟨k, hk, e1⟩ := ZU hx
      have hks : k < s.length := by omega
      have ek : s[k]? = some s[k] := List.getElem?_eq_getElem hks
      rw [e1] at e0
      refine .inr ⟨s.set k true, ?_, fun y hy => (List.mem_append.1 hy).elim (hp y) (fun h => by rw [List.mem_singleton.1 h]; exact hx), by rw [List.length_set]; exact hsl, fun i => ?_⟩
      · unfold GE
        dsimp only
        rw [e, QX, QR]
        simp only [cond_true, Option.bind_some]
        rw [e0]
        simp only [Option.bind_some, Option.getD_some]
        rw [show decide ((k : Int) < 0) = false from by rw [decide_eq_false_iff_not]; omega, Zy ek]
        simp only [cond_false, Option.bind_some, Int.toNat_natCast]
        rw [K2 (by rw [Enc.len, Enc.len, hsl, hzl])]
      · rw [KM (by omega), hI]
        unfold Gk
        constructor
        · rintro (rfl | ⟨y, hy, e3⟩)
          · exact ⟨x, by simp, e1⟩
          · exact ⟨y, List.mem_append_left _ hy, e3⟩
        · rintro ⟨y, hy, e3⟩
          rcases List.mem_append.1 hy with h | h
          · exact .inr ⟨y, h, e3⟩
          · rw [List.mem_singleton.1 h, e1] at e3
            exact .inl (by injection e3; omega)
    · rw [(Ze x env 0).2 hx] at e0
      refine .inl ⟨_, ?_, .inr ⟨fun h => hx (h x (by rw [e]; simp)), rfl⟩⟩
      unfold GE
      dsimp only
      rw [e, QX, QR]
      simp only [cond_true, Option.bind_some]
      rw [e0]; rfl
  · rintro s ⟨hp, hsl, hI⟩
    refine ⟨.inl s, ?_, .inl ⟨hp, s, rfl, hsl, hI⟩⟩
    unfold GE
    dsimp only
    rw [J7]; rfl
theorem m10_some (nm : List UN) : ∃ b, WO nm = some b ∧ (b = true → nm.length ≤ 20) := by
  unfold WO
  by_cases h : nm.length ≤ 20
  · obtain ⟨r, e⟩ : ∃ r, Qv (GF nm) QH 0 = some r := by
      obtain ⟨r, e, -⟩ := Jb (step := GF nm) nm (fun i (s : Unit) => i) (fun _ _ => True) (fun _ => True) (by omega)
        (fun a x c s e _ => by
          unfold GF
          rw [e, QX, QR]
          simp only [cond_true, Option.bind_some]
          cases decide (100 < (x.length : Int)) with
          | true => exact .inl ⟨_, rfl, trivial⟩
          | false => exact .inr ⟨(), rfl, trivial⟩) (fun s _ => ⟨_, by unfold GF; rw [J7]; rfl, trivial⟩) () trivial
      exact ⟨r, e⟩
    rw [e, show decide ((nm.length : Int) ≤ 20) = true from by rw [decide_eq_true_eq]; omega]
    cases r with
    | inl u => exact ⟨_, rfl, fun _ => h⟩
    | inr u => exact ⟨_, rfl, fun _ => h⟩
  · rw [show decide ((nm.length : Int) ≤ 20) = false from by rw [decide_eq_false_iff_not]; omega]
    exact ⟨false, rfl, fun h => by cases h⟩
end Go.Proofs.Ytijcchddnnnmdaa
namespace Go.Proofs.Ytijcchddnnnmdaa
open Go.RowKit
set_option linter.unusedSimpArgs false
set_option linter.unusedVariables false
set_option linter.unusedSectionVars false
section
variable {E : Env} {V : Vu} {hp : List (Nat × HB)} {tk : List (Nat × Option Tok)} {w : World}
theorem grow_alloc (h : HRel E V hp tk w) (o : Obj) : Kf w (w.alloc o) ∧ V.Grow V w (w.alloc o) := by
  have hx : Kf w (w.alloc o) := ⟨rfl, rfl, rfl, by simp, fun k hk _ => Below.heap_alloc w o k hk⟩
  exact ⟨hx, Nat.le_refl _, fun _ _ => rfl, fun _ _ => rfl, fun _ _ _ _ => rfl, fun _ _ h => h, fun _ _ h => .inl h, fun b o' hs => Nat.lt_of_lt_of_le (h.sz b o' hs) hx.size⟩
theorem HRel.ownAt (h : HRel E V hp tk w) {i : Nat} (hi : i < V.nx) (hι : V.ι i = w.heap.size) (o : Obj) (B : HB) (hB : B.rel V (w.alloc o) o) : HRel E V ((i, B) :: hp) tk (w.alloc o) := by
  obtain ⟨hx, hg⟩ := grow_alloc h o
  have H := h.later hx hg
  have hsize : ∀ j A, Uf hp j = some A → V.ι j < w.heap.size := fun j A hj => by
    obtain ⟨-, o1, ho1, -⟩ := h.own j A hj
    exact Y8 ho1
  refine ⟨H.ext, H.le0, H.sz, H.sub, ?_, ?_, ?_, ?_, H.tki⟩
  · intro j A hj
    rw [Qx] at hj
    split at hj
    · rename_i e; subst e; cases hj
      exact ⟨hi, o, by rw [hι]; exact heap_alloc_new w o, hB⟩
    · exact H.own j A hj
  · intro j k A A' hj hk e
    rw [Qx] at hj hk
    split at hj
    · rename_i e1; subst e1
      split at hk
      · assumption
      · have := hsize k A' hk; omega
    · split at hk
      · rename_i e2; subst e2
        have := hsize j A hj; omega
      · exact H.inj j k A A' hj hk e
  · intro j A hj
    rw [Qx] at hj
    split at hj
    · rename_i e; subst e
      rw [hι]
      exact ⟨.inl h.ext.size, fun o' hs => by have := h.sz _ _ hs; omega⟩
    · exact H.new j A hj
  · intro j T hj
    obtain ⟨h1, hcu, xs, hown, hgg⟩ := H.tok j T hj
    refine ⟨h1, hcu, xs, hown, fun g hgb => ⟨(hgg g hgb).1, (hgg g hgb).2.1, fun k A hk => ?_⟩⟩
    rw [Qx] at hk
    split at hk
    · rename_i e; subst e
      obtain ⟨h1', hcu', xs', hown', -⟩ := h.tok j T hj
      have := (hown'.1.lt g hgb).2
      omega
    · exact (hgg g hgb).2.2 k A hk
theorem HRel.aside (h : HRel E V hp tk w) (o : Obj) (B : HB) (hB : ∀ V' : Vu, B.rel V' (w.alloc o) o) :
    HRel E ((V.add (w.heap.size + 1)).add w.heap.size) ((V.nx + 1, B) :: hp) tk (w.alloc o) ∧ V.Le ((V.add (w.heap.size + 1)).add w.heap.size) w (w.alloc o) ∧
    ((V.add (w.heap.size + 1)).add w.heap.size).ι V.nx = (w.alloc o).heap.size ∧ ((V.add (w.heap.size + 1)).add w.heap.size).ι (V.nx + 1) = w.heap.size := by
  have hx0 : Kf w w := ExtM.refl _ _
  have hg0 := V.add_grow (w.heap.size + 1) h.sz hx0
  have H0 := h.later hx0 hg0
  obtain ⟨hx, -⟩ := grow_alloc h o
  refine ⟨H0.addOwn o B (hB _), (h.le hx0 hg0).trans (H0.le hx ((V.add (w.heap.size + 1)).add_grow w.heap.size H0.sz hx)), ?_, (V.add (w.heap.size + 1)).add_at _⟩
  show (if V.nx = V.nx + 1 then w.heap.size else if V.nx = V.nx then w.heap.size + 1 else V.ι V.nx) = _
  rw [if_neg (by omega), if_pos rfl, World.size_alloc]
end
theorem wpIn_alloc {E : Env} {dd : Option Tmp} {ty : TypeId} {pos : String} {af : Array Edge} {g : Option (Nat × Bool)} {t : TypeId} {zs : List Value} (hz : Js E.P t = some zs) {a : Act} {w : World} {ro : Option Nat} {n : Nat} {K : Act → World → Prop} {Q : Exit → Act → World → Prop}
    (hK : K (a.put dd (.pointer (some ⟨w.heap.size, 0, none⟩))) (w.alloc (.cells zs.toArray t))) : Oper.wpIn (UL ro) n E.P (⟨dd, .alloc t, ty, pos, af, g⟩ : Oper) a w K Q := by
  refine ⟨fun _ _ => trivial, ?_⟩
  rw [Oper.semAt_eq _ _ _ (by intro c h; cases h)]
  obtain ⟨z, hz1, hz2⟩ := YT hz
  have hrun : (execOp a.eval ⟨dd, .alloc t, ty, pos, af, g⟩).run E.P w = .ok (.value (.pointer (some ⟨w.heap.size, 0, none⟩))) (w.alloc (.cells zs.toArray t)) := by
    simp [execOp, Instr.alloc, hz1, newVar, newRow, hz2]
  rw [hrun]
  exact hK
abbrev Wj (t : TypeId) (zs : List Value) : HB := .cells t (zs.map fun z => .d (.v z))
def PairOK (E : Env) (ops : Array Oper) (st : St) (fx : List (Nat × TV)) (effs : List Nat) (dns : List (List Nat)) (ms : List Mem) (js p q : Nat) (m : Mem) : Prop :=
  ∃ (dp : Tmp) (tp typ : TypeId) (posp : String) (afp : Array Edge) (zp : List Value) (dq : Tmp) (tq tyq : TypeId) (posq : String) (afq : Array Edge) (zq : List Value) (j2 : Nat) (d2 : List Nat),
    ops[p]? = some ⟨some dp, .alloc tp, typ, posp, afp, none⟩ ∧ ops[q]? = some ⟨some dq, .alloc tq, tyq, posq, afq, none⟩ ∧
    Js E.P tp = some zp ∧ zp.all (·.oneCell') = true ∧ Js E.P tq = some zq ∧ zq.all (·.oneCell') = true ∧
    Uf fx p = some (.v (.one (.ptr st.nx 0))) ∧ Uf fx q = some (.v (.one (.ptr (st.nx + 1) 0))) ∧ KG st (some dp) = true ∧ KG st (some dq) = true ∧ effs.contains p = true ∧ effs.contains q = true ∧
    dns[js]? = some [q] ∧ ms[js]? = some m ∧ m = ⟨(st.nx + 1, Wj tq zq) :: st.hp, st.tk, st.nx + 2⟩ ∧
    dns[j2]? = some d2 ∧ GL d2 [q] p = true ∧ ms[j2]? = some ⟨(st.nx + 1, Wj tq zq) :: (st.nx, Wj tp zp) :: st.hp, st.tk, st.nx + 2⟩
def RdOp (E : Env) (ops : Array Oper) (st : St) (fx : List (Nat × TV)) (i : Nat) (m : Mem) : Prop :=
  ∃ o x, ops[i]? = some o ∧ Uf fx i = some x ∧ KG st o.dst = true ∧
    ((JR ops (JX ops st fx i m).tm o = some true ∧ RO E o (JX ops st fx i m) x) ∨ (JR ops (JX ops st fx i m).tm o = some false ∧ x = .tup []))
section
variable {E : Env} {ops : Array Oper} {st : St} {fx : List (Nat × TV)} {effs : List Nat} {dns : List (List Nat)} {ms : List Mem} {listed : Array Bool} {a : Act} {w : World} {V : Vu} {j : Nat} {d : List Nat} {m : Mem}
theorem XC.pairOrder {ro : Option Nat} {n : Nat} {Q : Exit → Act → World → Prop} {id : Nat} {ops : Array Oper} {st : St} (fx : List (Nat × TV)) (effs : List Nat) (dns : List (List Nat)) (ms : List Mem) (jE : Nat) {mE : Mem} (js p q : Nat) {mS : Mem} (hm : E.P.follows .mixedOrders = true) (hB : Wz ops effs = true) (h0 : ms[0]? = some st.mem) (hd0 : dns[0]? = some []) (hE : ms[jE]? = some mE)
    (hfin : ∀ (j : Nat) (d : List Nat), dns[j]? = some d → (∀ e ∈ effs, e ∈ d) → j = jE)
    (hops : ∀ (i j : Nat) (d : List Nat) (m : Mem), i < ops.size → dns[j]? = some d → ms[j]? = some m → XR ops effs d i = true → d ≠ [q] → ¬ (d = [] ∧ i = q) → SwOp E ops st fx effs dns ms i d m)
    (hP : PairOK E ops st fx effs dns ms js p q mS) (h0u : ∀ j, dns[j]? = some [] → j = 0) (hsu : ∀ j, dns[j]? = some [q] → j = js)
    (hrd : ∀ i, i < ops.size → XR ops effs [q] i = true → i ≠ p → effs.contains i = false ∧ RdOp E ops st fx i mS)
    (k : XQ E Q .normal (X0 ops st fx mE)) : XC E ro n Q (.region id ops true) st := by
  intro V a w hr
  obtain ⟨dp, tp, typ, posp, afp, zp, dq, tq, tyq, posq, afq, zq, j2, d2, hop, hoq, hzp, hzp1, hzq, hzq1, hfp, hfq, hdp, hdq, hcp, hcq, hds, hms, hmS, hd2, hs2, hm2⟩ := hP
  subst hmS
  have hjs0 : js ≠ 0 := fun e => by rw [e, hd0] at hds; cases hds
  refine wpIn_region_any hm ?_
  have hr' := hr.drew
  have hB' := hB
  simp only [Wz, Bool.and_eq_true, decide_eq_true_eq] at hB'
  obtain ⟨⟨hdag, -⟩, heff⟩ := hB'
  have hrdy : ∀ listed : Array Bool, listed.size = ops.size → Region.ready .any ops listed = [] → ∀ i, i < ops.size → listed.getD i false = true := by
    intro listed hsz hrd i
    induction i using Nat.strongRecOn with
    | ind i ih =>
      intro hi
      cases hc : listed.getD i false with
      | true => rfl
      | false =>
        exfalso
        have hnm : i ∉ Region.ready .any ops listed := by rw [hrd]; exact List.not_mem_nil
        refine hnm (mem_ready.2 ?_)
        obtain ⟨o, ho⟩ : ∃ o, ops[i]? = some o := ⟨_, Array.getElem?_eq_getElem hi⟩
        refine ⟨getD_in (by rw [hsz]; exact hi) hc, o, ho, fun e he hb => ?_⟩
        have hem : e.on ∈ Jw ops i := (ZL ho).2 ⟨e, he, hb, rfl⟩
        have hlt := List.all_eq_true.1 (List.all_eq_true.1 hdag i (by simpa using hi)) _ hem
        have hlt' : e.on < i := by simpa using hlt
        exact ih e.on hlt' (by omega)
  have fin : ∀ (listed : Array Bool) (a : Act) (w : World) (V : Vu) (j : Nat) (d : List Nat) (m : Mem), SwInv E ops st fx effs dns ms listed a w V j d m → (∀ i, i < ops.size → listed.getD i false = true) → Q .normal a w := by
    intro listed a w V j d m hI hall
    have hjk : j = jE := hfin j d hI.stage fun e he => by
      by_cases hed : e ∈ d
      · exact hed
      · exfalso
        have h2 := hI.todo e he hed
        have h3 := hall e (by simpa using List.all_eq_true.1 heff e he)
        rw [h2] at h3; cases h3
    subst hjk
    have e1 : m = mE := Option.some.inj (hI.mem.symm.trans hE)
    subst e1
    refine k V a w ⟨hI.rel.h, hI.rel.nx, hI.rel.nt, hI.rel.df, fun t x hx => ?_⟩
    simp only [X0, YY] at hx
    split at hx
    · rename_i y hy; cases hx
      obtain ⟨i, h1, h2, h3⟩ := K1 _ t x hy
      exact hI.fact i (hall i (by simpa using h1)) t x h2 h3
    · exact hI.rel.tm t x hx
  have main : ∀ (fuel : Nat) (listed : Array Bool) (a : Act) (w : World) (V : Vu) (j : Nat) (d : List Nat) (m : Mem), SwInv E ops st fx effs dns ms listed a w V j d m →
      (j = js → V.ι st.nx = w.heap.size) →
      ops.size ≤ fuel + ((List.range ops.size).filter fun i => listed.getD i false).length → wpAnyIn (UL ro) n E.P .any ops Q fuel listed a w := by
    intro fuel
    induction fuel with
    | zero =>
      intro listed a w V j d m hI _ hc
      have hall : ∀ i, i < ops.size → listed.getD i false = true := by
        intro i hi
        have h1 : ((List.range ops.size).filter fun i => listed.getD i false).length = (List.range ops.size).length := by
          have := List.length_filter_le (fun i => listed.getD i false) (List.range ops.size)
          simp only [List.length_range] at this ⊢; omega
        exact List.length_filter_eq_length_iff.1 h1 i (by simpa using hi)
      refine ⟨?_, fin listed a w V j d m hI hall⟩
      unfold Region.ready
      rw [List.filter_eq_nil_iff]
      intro i hi
      have hi' : i < ops.size := by simpa using hi
      have : listed.getD i true = true := by
        have h1 := hall i hi'
        have : i < listed.size := by rw [hI.size]; exact hi'
        simp [this] at h1 ⊢; exact h1
      rw [this]; simp
    | succ fuel ih =>
      intro listed a w V j d m hI hS hc
      refine ⟨fun hrd => fin listed a w V j d m hI (hrdy listed hI.size hrd), fun i hi => ?_⟩
      obtain ⟨hun, o, ho, hdeps⟩ := mem_ready.1 hi
      have hlt : i < ops.size := (Array.getElem?_eq_some_iff.1 ho).1
      have hno : listed.getD i false = false := by
        have : i < listed.size := by rw [hI.size]; exact hlt
        simp [this] at hun ⊢; exact hun
      have hd : ∀ k ∈ Jw ops i, listed.getD k false = true := fun k hk => by
        obtain ⟨e, he, hb, rfl⟩ := (ZL ho).1 hk
        exact hdeps e he hb
      have hmay := hI.may hlt hno hd
      have hrel := hI.depsRel hno hd
      have hcnt : ops.size ≤ fuel + ((List.range ops.size).filter fun i' => (listed.setIfInBounds i true).getD i' false).length := by
        have h1 : ((List.range ops.size).filter fun i => listed.getD i false).length < ((List.range ops.size).filter fun i' => (listed.setIfInBounds i true).getD i' false).length := by
          have key : ∀ (l : List Nat), l.Nodup → i ∈ l → (l.filter fun i => listed.getD i false).length < (l.filter fun i' => (listed.setIfInBounds i true).getD i' false).length := by
            have hget : ∀ k, (listed.setIfInBounds i true).getD k false = if k = i then true else listed.getD k false := fun k => by
              by_cases hk : k = i
              · subst hk
                have : k < listed.size := by rw [hI.size]; exact hlt
                simp [this]
              · rw [if_neg hk, getD_set_ne false (fun e => hk e.symm)]
            have hle : ∀ (l : List Nat), (l.filter fun i => listed.getD i false).length ≤ (l.filter fun i' => (listed.setIfInBounds i true).getD i' false).length := by
              intro l
              induction l with
              | nil => exact Nat.le_refl _
              | cons p l ih =>
                rw [List.filter_cons, List.filter_cons, hget]
                by_cases hp : p = i
                · subst hp; rw [hno]; simp only [if_true]; rw [List.length_cons]; simp only [Bool.false_eq_true, if_false]; omega
                · rw [if_neg hp]; split <;> (try rw [List.length_cons, List.length_cons]) <;> omega
            intro l
            induction l with
            | nil => intro _ h; cases h
            | cons p l ih =>
              intro hnd' hi'
              rw [List.nodup_cons] at hnd'
              rw [List.filter_cons, List.filter_cons, hget]
              rcases List.mem_cons.1 hi' with rfl | hi'
              · rw [hno]; simp only [if_true, Bool.false_eq_true, if_false]; rw [List.length_cons]; have := hle l; omega
              · have := ih hnd'.2 hi'
                have hp : p ≠ i := fun e => hnd'.1 (by rw [e]; exact hi')
                rw [if_neg hp]; split <;> (try rw [List.length_cons, List.length_cons]) <;> omega
          exact key _ List.nodup_range (by simpa using hlt)
        omega
      unfold wpOpIn
      simp only [ho]
      by_cases hjs : j = js
      · subst hjs
        have ed : d = [q] := Option.some.inj (hI.stage.symm.trans hds)
        subst ed
        have em : m = _ := Option.some.inj (hI.mem.symm.trans hms)
        subst em
        have hι := hS rfl
        by_cases hip : i = p
        · subst hip
          rw [hop] at ho; cases ho
          rw [if_pos (Y6 (b := true) hrel rfl)]
          refine wpIn_alloc hzp ?_
          have hqp : st.nx < V.nx := by rw [hI.rel.nx]; show st.nx < st.nx + 2; omega
          have H := hI.rel.h.ownAt hqp hι (.cells zp.toArray tp) (Wj tp zp) ⟨_, rfl, ZH hzp1⟩
          obtain ⟨hxa, hga⟩ := grow_alloc hI.rel.h (.cells zp.toArray tp)
          have hj2 : j2 ≠ j := fun e => by
            subst e
            rw [hds] at hd2
            cases hd2
            simp only [XR, Bool.and_eq_true, Bool.not_eq_true'] at hmay
            simp only [GL, Bool.and_eq_true] at hs2
            rw [hs2.2] at hmay
            exact absurd hmay.2 Bool.noConfusion
          refine ih _ _ _ V j2 d2 _ (hI.step hB hlt hno hop hfp hdp (.inl ⟨hcp, hs2⟩) hd2 hm2 (H.congr (fun t => ?_) (fun _ => rfl)) hI.rel.nx (hI.rel.h.le hxa hga) ⟨hqp, by rw [hι]⟩ hd) (fun e => absurd e hj2) hcnt
          simp only [Qx]
          by_cases h1 : st.nx = t
          · have h2 : ¬ st.nx + 1 = t := by omega
            repeat (first | rw [if_pos h1] | rw [if_neg h2])
          · simp only [h1, if_false]
        · obtain ⟨hce, o', x, ho', hx, hdst, hcase⟩ := hrd i hlt hmay hip
          rw [ho] at ho'; cases ho'
          rcases hcase with ⟨hw, hro⟩ | ⟨hw, rfl⟩
          · rw [if_pos (Y6 hrel hw)]
            exact wpIn_of_ro hro hrel fun v hxv => ih _ _ _ V j _ _ (hI.step hB hlt hno ho hx hdst (.inr ⟨hce, rfl⟩) hI.stage hI.mem hI.rel.h hI.rel.nx (Vu.Le.refl _ _) hxv hd) (fun _ => hι) hcnt
          · rw [if_neg (by rw [Y6 hrel hw]; exact Bool.false_ne_true)]
            exact ⟨fun _ _ => trivial, ih _ _ _ V j _ _ (hI.step hB hlt hno ho hx hdst (.inr ⟨hce, rfl⟩) hI.stage hI.mem hI.rel.h hI.rel.nx (Vu.Le.refl _ _) ZC hd) (fun _ => hι) hcnt⟩
      · by_cases hfst : d = [] ∧ i = q
        · obtain ⟨ed, ei⟩ := hfst
          subst ed; subst ei
          have ej : j = 0 := h0u j hI.stage
          subst ej
          have em : m = st.mem := Option.some.inj (hI.mem.symm.trans h0)
          subst em
          rw [hoq] at ho; cases ho
          rw [if_pos (Y6 (b := true) hrel rfl)]
          refine wpIn_alloc hzq ?_
          obtain ⟨H, L, e1, e2⟩ := hI.rel.h.aside (.cells zq.toArray tq) (Wj tq zq) (fun V' => ⟨_, rfl, ZH hzq1⟩)
          have hnx : V.nx = st.nx := hI.rel.nx
          rw [hnx] at H e1 e2
          refine ih _ _ _ _ js [i] _ (hI.step hB hlt hno hoq hfq hdq (.inl ⟨hcq, by simp [GL]⟩) hds hms H (by show V.nx + 1 + 1 = st.nx + 2; omega) L ⟨by show st.nx + 1 < V.nx + 1 + 1; omega, by rw [e2]⟩ hd) (fun _ => e1) hcnt
        · have hdq' : d ≠ [q] := fun e => hjs (hsu j (by rw [← e]; exact hI.stage))
          obtain ⟨o', x, ho', hx, hdst, hcase⟩ := hops i j d m hlt hI.stage hI.mem hmay hdq' hfst
          rw [ho] at ho'; cases ho'
          rcases hcase with ⟨hw, m', hok, hm'⟩ | ⟨hw, rfl, hc'⟩
          · rw [if_pos (Y6 hrel hw)]
            refine hok V a w hrel ro n _ Q (fun V' w' v H hn L hxv => ?_)
            rcases hm' with ⟨hce, j', d', hs1, hs2', hm'⟩ | ⟨hce, hm'⟩
            · refine ih _ _ _ V' j' d' m' (hI.step hB hlt hno ho hx hdst (.inl ⟨hce, hs2'⟩) hs1 hm' H hn L hxv hd) (fun e => ?_) hcnt
              exfalso
              subst e
              rw [hds] at hs1; cases hs1
              simp only [GL, Bool.and_eq_true, List.contains_eq_mem, List.all_eq_true, decide_eq_true_eq, List.mem_singleton] at hs2'
              simp only [XR, Bool.and_eq_true, Bool.not_eq_true', List.contains_eq_mem, decide_eq_false_iff_not] at hmay
              refine hfst ⟨?_, hs2'.2⟩
              cases d with
              | nil => rfl
              | cons y r =>
                exfalso
                have h1 := hs2'.1.2 y (by simp)
                exact hmay.2 (by rw [hs2'.2, ← h1]; simp)
            · subst hm'
              exact ih _ _ _ V' j d m' (hI.step hB hlt hno ho hx hdst (.inr ⟨hce, rfl⟩) hI.stage hI.mem H hn L hxv hd) (fun e => absurd e hjs) hcnt
          · rw [if_neg (by rw [Y6 hrel hw]; exact Bool.false_ne_true)]
            exact ⟨fun _ _ => trivial, ih _ _ _ V j d m (hI.step hB hlt hno ho hx hdst (.inr ⟨hc', rfl⟩) hI.stage hI.mem hI.rel.h hI.rel.nx (Vu.Le.refl _ _) ZC hd) (fun e => absurd e hjs) hcnt⟩
  refine main ops.size _ a _ V 0 [] st.mem ⟨by simp, fun i hi => ?_, hd0, fun e he => by simp at he, fun e _ _ => getD_replicate_false _ _, h0, ⟨hr'.h, hr'.nx, hr'.nt, hr'.df, fun t y hy => hr'.tm t y (KB _ _ _ hy).1⟩, fun i hi => ?_, fun t y hy _ => hr'.tm t y hy⟩ (fun e => absurd e.symm hjs0) (by omega)
  · rw [getD_replicate_false] at hi; cases hi
  · rw [getD_replicate_false] at hi; cases hi
end
section
variable {E : Env} {ops : Array Oper} {st : St} {effs : List Nat} {dns : List (List Nat)}
def AllRd (E : Env) (ops : Array Oper) (st : St) (fx : List (Nat × TV)) (m : Mem) : List Nat → Prop
  | [] => True
  | i :: r => RdOp E ops st fx i m ∧ AllRd E ops st fx m r
theorem AllRd.get {fx : List (Nat × TV)} {m : Mem} : ∀ {l : List Nat} {i : Nat}, AllRd E ops st fx m l → l.contains i = true → RdOp E ops st fx i m
  | [], i, _, h => by cases h
  | a :: r, i, ha, h => by
    simp only [List.contains_cons, Bool.or_eq_true, beq_iff_eq] at h
    rcases h with h | h
    · cases h; exact ha.1
    · exact AllRd.get ha.2 h
def exP (ops : Array Oper) (effs : List Nat) (dns : List (List Nat)) (ex : List (Nat × Nat)) (js q : Nat) : Bool :=
  (List.range ops.size).all fun i => (List.range dns.length).all fun j => !(XR ops effs (dns.getD j []) i) || (j == js || (j == 0 && i == q) || j == Km effs i || ex.contains (i, j))
def rdP (ops : Array Oper) (effs : List Nat) (p q : Nat) (rd : List Nat) : Bool :=
  (List.range ops.size).all fun i => !(XR ops effs [q] i) || (i == p || (rd.contains i && !(effs.contains i)))
def onlyP (dns : List (List Nat)) (js q : Nat) : Bool := (List.range dns.length).all fun j => (j == 0 || !((dns.getD j []).isEmpty)) && (j == js || !(dns.getD j [] == [q]))
theorem XC.pairRun {ro : Option Nat} {n id : Nat} {Q : Exit → Act → World → Prop} (effs : List Nat) (dns : List (List Nat)) (ex : List (Nat × Nat)) (js p q : Nat) (rd : List Nat) (hm : E.P.follows .mixedOrders = true) (hB : Wz ops effs = true) (hex : exP ops effs dns ex js q = true) (hrp : rdP ops effs p q rd = true) (hop : onlyP dns js q = true) (hho : homeS ops effs dns = true) (hfi : finS effs dns = true) (hd0 : dns[0]? = some []) (hlen : ((List.range' 0 ops.size).filter effs.contains).length = effs.length)
    (h : RunA E ops st effs (fun fx ms => ∃ xm : List Mem, AllSw E ops st effs dns fx (ms.reverse ++ xm) ex ∧ (∃ mS, PairOK E ops st fx effs dns (ms.reverse ++ xm) js p q mS ∧ AllRd E ops st fx mS rd) ∧ ∃ mE r, ms = mE :: r ∧ XQ E Q .normal (X0 ops st fx mE)) (List.range' 0 ops.size) [] [st.mem]) : XC E ro n Q (.region id ops true) st := by
  have hB' := hB
  simp only [Wz, Bool.and_eq_true] at hB'
  obtain ⟨⟨hdag, -⟩, -⟩ := hB'
  have hdag' : ∀ i, i < ops.size → ∀ k ∈ Jw ops i, k < i := fun i hi k hk => by
    have := List.all_eq_true.1 (List.all_eq_true.1 hdag i (by simpa using hi)) k hk
    simpa using this
  obtain ⟨fx', ms', ⟨xm, hall, ⟨mS, hpair, hard⟩, mE, r, hmE, hQ⟩, -, hms, hrun⟩ := run_home hdag' _ 0 [] st.mem [] h (fun p hp => by cases hp) (by rw [Nat.sub_zero]) (Nat.zero_le _)
  rw [List.append_nil] at hall hpair hard hQ
  rw [hlen] at hms
  have hl : ((ms' ++ [st.mem]).reverse).length = effs.length + 1 := by simp [hms]
  have hin : ∀ {q : Nat} {m : Mem}, (ms' ++ [st.mem]).reverse[q]? = some m → ((ms' ++ [st.mem]).reverse ++ xm)[q]? = some m := fun {q m} hq => by
    rw [List.getElem?_append_left (List.getElem?_eq_some_iff.1 hq).1]; exact hq
  refine XC.pairOrder fx' effs dns ((ms' ++ [st.mem]).reverse ++ xm) effs.length (mE := mE) js p q (mS := mS) hm hB (hin (by simp)) hd0 ?_ (fun j d hj hall => ?_) (fun i j d m hi hj hmj hmay hnq hn0 => ?_) hpair (fun j hj => ?_) (fun j hj => ?_) (fun i hi hmay hip => ?_) hQ
  · refine hin ?_
    rw [hmE]
    have : r.length = effs.length := by have := congrArg List.length hmE; simp at this; omega
    rw [List.reverse_cons, List.getElem?_append_right (by simp; omega)]; simp [this]
  · have hlt := (List.getElem?_eq_some_iff.1 hj).1
    have h1 := List.all_eq_true.1 hfi j (by simpa using hlt)
    have hd : dns.getD j [] = d := by rw [List.getD_eq_getElem?_getD, hj]; rfl
    rw [hd] at h1
    have h2 : (effs.all fun e => d.contains e) = true := List.all_eq_true.2 fun e he => by simpa using hall e he
    rw [h2] at h1
    simpa using h1
  · have hlt := (List.getElem?_eq_some_iff.1 hj).1
    have hd : dns.getD j [] = d := by rw [List.getD_eq_getElem?_getD, hj]; rfl
    have h1 := List.all_eq_true.1 (List.all_eq_true.1 hex i (by simpa using hi)) j (by simpa using hlt)
    rw [hd, hmay] at h1
    have hjn : j ≠ js := fun e => by
      subst e
      obtain ⟨_, _, _, _, _, _, _, _, _, _, _, _, _, _, -, -, -, -, -, -, -, -, -, -, -, -, h9, -⟩ := hpair
      rw [hj] at h9
      exact hnq (Option.some.inj h9)
    have hjz : ¬ (j = 0 ∧ i = q) := fun e => by
      obtain ⟨rfl, rfl⟩ := e
      rw [hd0] at hj
      exact hn0 ⟨(Option.some.inj hj).symm, rfl⟩
    simp only [Bool.not_true, Bool.false_or, Bool.or_eq_true, Bool.and_eq_true, beq_iff_eq] at h1
    replace h1 : j = Km effs i ∨ ex.contains (i, j) = true := by
      rcases h1 with ((h1 | h1) | h1) | h1
      · exact absurd h1 hjn
      · exact absurd h1 hjz
      · exact .inl h1
      · exact .inr h1
    rcases h1 with h1 | h1
    · obtain ⟨mi, h2, o, x, h3, h4, h5, h6⟩ := hrun i (List.mem_range'_1.2 ⟨Nat.zero_le _, by omega⟩)
      rw [List.append_nil] at h4 h6
      simp only [List.length_nil, Nat.zero_add, Nat.sub_zero] at h2 h6
      subst h1
      have e1 : mi = m := by
        have := hin h2
        unfold Km at hmj
        rw [hmj] at this
        exact (Option.some.inj this).symm
      subst e1
      refine ⟨o, x, h3, h4, h5, ?_⟩
      rcases h6 with ⟨h6, m', h7, h8⟩ | h6
      · refine .inl ⟨h6, m', h7, ?_⟩
        cases hc : effs.contains i with
        | false => rw [hc] at h8; exact .inr ⟨rfl, by simpa using h8⟩
        | true =>
          rw [hc] at h8
          have h9 := List.all_eq_true.1 hho i (by simpa using hi)
          rw [hc, hj] at h9
          simp only [Bool.not_true, Bool.false_or] at h9
          split at h9
          · rename_i d1 d2 e2 e3
            cases e2
            exact .inl ⟨rfl, Km effs i + 1, d2, e3, h9, hin (by simpa [Km] using h8)⟩
          · cases h9
      · exact .inr h6
    · obtain ⟨d', m', h2, h3, h4⟩ := hall.get h1
      rw [hj] at h2; cases h2
      rw [hmj] at h3; cases h3
      exact h4
  · have hlt := (List.getElem?_eq_some_iff.1 hj).1
    have h1 := List.all_eq_true.1 hop j (by simpa using hlt)
    rw [List.getD_eq_getElem?_getD, hj] at h1
    simp only [Option.getD_some, Bool.and_eq_true, Bool.or_eq_true, beq_iff_eq] at h1
    rcases h1.1 with h2 | h2
    · exact h2
    · simp at h2
  · have hlt := (List.getElem?_eq_some_iff.1 hj).1
    have h1 := List.all_eq_true.1 hop j (by simpa using hlt)
    rw [List.getD_eq_getElem?_getD, hj] at h1
    simp only [Option.getD_some, Bool.and_eq_true, Bool.or_eq_true, beq_iff_eq] at h1
    rcases h1.2 with h2 | h2
    · exact h2
    · simp at h2
  · have h1 := List.all_eq_true.1 hrp i (by simpa using hi)
    rw [hmay] at h1
    simp only [Bool.not_true, Bool.false_or, Bool.or_eq_true, Bool.and_eq_true, beq_iff_eq, Bool.not_eq_true'] at h1
    rcases h1 with h1 | ⟨h1, h2⟩
    · exact absurd h1 hip
    · exact ⟨h2, AllRd.get hard h1⟩
end
end Go.Proofs.Ytijcchddnnnmdaa
namespace Go.Proofs.Ytijcchddnnnmdaa
open Go.RowKit Go.Shelf
set_option linter.unusedSimpArgs false
set_option linter.unusedVariables false
theorem fo_42_1 : J5 Try.prog 42 1 = some 1 := by kernel_rfl
theorem fo_42_3 : J5 Try.prog 42 3 = some 3 := by kernel_rfl
theorem fo_45_0 : J5 Try.prog 45 0 = some 0 := by kernel_rfl
theorem fo_48_2 : J5 Try.prog 48 2 = some 2 := by kernel_rfl
theorem fo_48_5 : J5 Try.prog 48 5 = some 13 := by kernel_rfl
theorem fo_87_2 : J5 Try.prog 87 2 = some 6 := by kernel_rfl
theorem fo_89_2 : J5 Try.prog 89 2 = some 6 := by kernel_rfl
theorem fo_102_0 : J5 Try.prog 102 0 = some 0 := by kernel_rfl
theorem G3 : J5 Try.prog 102 1 = some 1 := by kernel_rfl
theorem ag_39 : Jp Try.prog 39 = some (false, 1) := by kernel_rfl
theorem ag_45 : Jp Try.prog 45 = some (true, 7) := by kernel_rfl
theorem XN : Jp Try.prog 100 = some (false, 1) := by kernel_rfl
theorem ag_102 : Jp Try.prog 102 = some (true, 2) := by kernel_rfl
theorem ag_149 : Jp Try.prog 149 = some (true, 2) := by kernel_rfl
theorem Xr : J6 Try.prog 100 = some (149, 2) := by kernel_rfl
theorem ib_4 : G0 Try.prog 4 = true := by kernel_rfl
theorem ip_149 : KZ Try.prog 149 = true := by kernel_rfl
theorem en_17 : J2 Try.prog 17 := enters_of Try.func17 (by kernel_rfl) rfl
theorem en_40 : J2 Try.prog 40 := enters_of Try.func40 (by kernel_rfl) rfl
theorem en_57 : J2 Try.prog 57 := enters_of Try.func57 (by kernel_rfl) rfl
theorem en_58 : J2 Try.prog 58 := enters_of Try.func58 (by kernel_rfl) rfl
theorem en_59 : J2 Try.prog 59 := enters_of Try.func59 (by kernel_rfl) rfl
theorem en_70 : J2 Try.prog 70 := enters_of Try.func70 (by kernel_rfl) rfl
theorem en_71 : J2 Try.prog 71 := enters_of Try.func71 (by kernel_rfl) rfl
theorem en_87 : J2 Try.prog 87 := enters_of Try.func87 (by kernel_rfl) rfl
def X7 (a0 : Lvl) (a1 : Lvl) (s1 : Int) : Option (LO Int (Unit ⊕ Bool)) :=
 cond (decide (s1 < (a0.vs.length : Int)))
   (Option.bind (Jg a0.vs s1) fun (x5 : UK) =>
 Option.bind (Jg a1.vs s1) fun (x6 : UK) =>
 cond (!((x5.1 == x6.1) && (x5.2 == x6.2)))
   (some (.done (.inr false)))
   (some (.next (J1 (s1 + 1)))))
   (some (.done (.inl ())))
def WT (a0 : Lvl) (a1 : Lvl) : Option Bool :=
 Option.bind (cond (a0.c != a1.c)
   (some true)
   (some ((a0.vs.length : Int) != (a1.vs.length : Int)))) (fun (v1 : Bool) => cond v1
   (some false)
   (Option.bind (Qv (X7 a0 a1) QH 0) (Sum.elim (fun (o3 : Unit) => some true) (fun o => some o))))
set_option maxRecDepth 100000 in
set_option maxHeartbeats 2000000 in
theorem m87_ok (a0 : Lvl) (a1 : Lvl) (r : Bool) (h0 : WT a0 a1 = some r) : Fun Try.prog 87 [.agg (Uy a0), .agg (Uy a1)] (Qy [.one (Uw r)]) := by
 unfold WT at h0
 refine QS 9 38 Try.func87 rfl en_87 rfl (Ug rfl) (fun S w => ?_)
 simp only [J8]
 refine Q2 <| Q0 <| Q9 rfl rfl (Ug rfl) (Jc rfl) <| Q9 rfl rfl (Ug rfl) (Jc rfl) <| U7 rfl rfl rfl <| Q3 <| Q1 <| Q2 <| Q2 ?_
 refine Ja (fun (v1 : Bool) => ⟨[(2, .v (.one (.ptr 0 0))), (3, .v (.one (.ptr 1 0))), (19, .v (.one (Uw v1)))], [(0, .cells 102 (Uy a0)), (1, .cells 102 (Uy a1))], [], 2, 38, []⟩) (fun (v1 : Bool) => (cond v1
     (some false)
     (Option.bind (Qv (X7 a0 a1) QH 0) (Sum.elim (fun (o3 : Unit) => some true) (fun o => some o)))) = some r) ?_ ?_
 refine Qb h0 (fun w1_ h1 h0 => ?_)
 refine Q0 <| U5 rfl rfl rfl (Q4 fo_102_0 rfl) <| U5 rfl rfl rfl (Q7 Yx rfl rfl rfl) <| U5 rfl rfl rfl (Q4 fo_102_0 rfl) <| U5 rfl rfl rfl (Q7 Yx rfl rfl rfl) <| U5 rfl rfl rfl (Q5 rfl rfl rfl) <| U6 rfl rfl rfl ?_
 refine QV (d := 11) (c := (a0.c != a1.c)) rfl (fun c2 => ?_) (fun c2 => ?_)
 replace h1 := Qm c2 h1
 refine Q8 rfl rfl <| Q8 rfl rfl <| Q8 rfl rfl <| Q8 rfl rfl <| Q8 rfl rfl <| Q8 rfl rfl <| Q8 rfl rfl <| U5 rfl rfl rfl (Qo rfl rfl) <| Q3 ?_
 have e := U3 h1; subst e
 exact Qr true (Qf (U1 rfl (U1 rfl (U1 rfl U0))) (Um rfl (Um rfl Ul)) Uh rfl (Nat.zero_le _) rfl rfl rfl (UE rfl rfl (UE rfl rfl UB)) rfl rfl) h0
 replace h1 := Qn c2 h1
 refine U5 rfl rfl rfl (Q4 G3 rfl) <| U5 rfl rfl rfl (Q7 XN rfl rfl rfl) <| U5 rfl rfl rfl (QB (α := UK) Xr rfl (.d _)) <| U5 rfl rfl rfl (Q4 G3 rfl) <| U5 rfl rfl rfl (Q7 XN rfl rfl rfl) <| U5 rfl rfl rfl (QB (α := UK) Xr rfl (.d _)) <| U5 rfl rfl rfl (Q5 rfl rfl rfl) <| U5 rfl rfl rfl (QG rfl rfl) <| Q3 ?_
 have e := U3 h1; subst e
 exact Qr ((a0.vs.length : Int) != (a1.vs.length : Int)) (Qf (U1 rfl (U1 rfl (U1 rfl U0))) (Um rfl (Um rfl Ul)) Uh rfl (Nat.zero_le _) rfl rfl rfl (UE rfl rfl (UE rfl rfl UB)) rfl rfl) h0
 intro v1 h0
 refine Q1 ?_
 refine Qe (b := v1) rfl (fun c3 => ?_) (fun c3 => ?_)
 replace h0 := Qm c3 h0
 refine Q2 <| Q0 <| U7 rfl rfl rfl <| Q3 <| Q1 <| Qz ?_
 have e := U3 h0; subst e
 exact QK (fun _ _ h => h) rfl (Qk rfl .nil) (.cons (.one (.d _)) .nil)
 replace h0 := Qn c3 h0
 refine Qg <| Q1 <| Q2 <| Q2 <| Q0 <| U7 rfl rfl rfl <| Q3 <| Q1 <| Qc ?_
 refine QF 0 (fun (o4 : Unit) => ⟨[], [(0, .cells 102 (Uy a0)), (1, .cells 102 (Uy a1))], [], 2, 38, []⟩) (fun (o4 : Unit) => (some true) = some r) ?_ ?_
 refine Qb h0 (fun o5 hl1 h0 => ?_)
 refine QE (X7 a0 a1) (fun s1 => ⟨[(2, .v (.one (.ptr 0 0))), (3, .v (.one (.ptr 1 0))), (5, .v (.one (Uv s1)))], [(0, .cells 102 (Uy a0)), (1, .cells 102 (Uy a1))], [], 2, 38, []⟩) 0 o5 (Qf (U1 rfl (U1 rfl (U1 rfl U0))) (Um rfl (Um rfl Ul)) Uh rfl (Nat.zero_le _) rfl rfl rfl (UE rfl rfl (UE rfl rfl UB)) rfl rfl) hl1 (fun s1 n1 oo1 h1 ho1 => ?_)
 unfold X7 at h1
 refine Q2 <| Q2 <| Q0 <| U6 rfl rfl rfl <| U5 rfl rfl rfl (Q4 G3 rfl) <| U5 rfl rfl rfl (Q7 XN rfl rfl rfl) <| U5 rfl rfl rfl (QB (α := UK) Xr rfl (.d _)) <| U5 rfl rfl rfl (Q5 rfl rfl rfl) <| Q3 <| Q1 ?_
 refine Qe (b := (decide (s1 < (a0.vs.length : Int)))) rfl (fun c6 => ?_) (fun c6 => ?_)
 replace h1 := Qm c6 h1
 refine Qg <| Q1 <| Q2 <| Qc <| Q2 ?_
 refine JO [] [] mixed (by kernel_rfl) (by kernel_rfl) (by kernel_rfl) ?_
 refine RunA.rd rfl rfl rfl (Q6 (Q4 G3 rfl)) rfl <| RunA.rd rfl rfl rfl (Q6 (Q7 XN rfl rfl rfl)) rfl <| RunA.rd rfl rfl rfl (Q6 (J0 rfl)) rfl ?_
 refine Qb h1 (fun x7 hx7 h1 => ?_)
 refine RunA.rd rfl rfl rfl (Q6 (Qi (α := UK) Xr rfl (.d _) rfl hx7)) rfl <| RunA.rd rfl rfl rfl (Q6 (QN (x7 : UK) ag_149 rfl)) rfl <| RunA.rd rfl rfl rfl (Q6 (Q4 G3 rfl)) rfl <| RunA.rd rfl rfl rfl (Q6 (Q7 XN rfl rfl rfl)) rfl <| RunA.rd rfl rfl rfl (Q6 (J0 rfl)) rfl ?_
 refine Qb h1 (fun x8 hx8 h1 => ?_)
 refine RunA.rd rfl rfl rfl (Q6 (Qi (α := UK) Xr rfl (.d _) rfl hx8)) rfl <| RunA.rd rfl rfl rfl (Q6 (QN (x8 : UK) ag_149 rfl)) rfl <| RunA.rd rfl rfl rfl (Q6 (RO.neqPair ip_149 rfl rfl)) rfl ?_
 refine RunA.nil ⟨?ex, _, _, rfl, ?_⟩
 case ex => exact trivial
 refine JV (st' := ⟨[(2, .v (.one (.ptr 0 0))), (3, .v (.one (.ptr 1 0))), (5, .v (.one (Uv s1))), (37, .v (.one (Uw (!((x7.1 == x8.1) && (x7.2 == x8.2))))))], [(0, .cells 102 (Uy a0)), (1, .cells 102 (Uy a1))], [], 2, 38, []⟩) (Qf (U1 rfl (U1 rfl (U1 rfl (U1 rfl U0)))) (Um rfl (Um rfl Ul)) Uh rfl (Nat.zero_le _) rfl rfl rfl (UE rfl rfl (UE rfl rfl UB)) rfl rfl) <| Q1 ?_
 refine Qe (b := (!((x7.1 == x8.1) && (x7.2 == x8.2)))) rfl (fun c9 => ?_) (fun c9 => ?_)
 replace h1 := Qm c9 h1
 refine Q2 <| Q0 <| U7 rfl rfl rfl <| Q3 <| Q1 <| Qz ?_
 have e := U3 h1; subst e
 have e_ : _ = _ := ho1
 subst e_
 try dsimp only [Sum.elim_inl, Sum.elim_inr] at h0
 have e := U3 h0; subst e
 exact QK (fun _ _ h => h) rfl (Qk rfl .nil) (.cons (.one (.d _)) .nil)
 replace h1 := Qn c9 h1
 refine Qg <| Qh <| Q1 <| Q0 <| U6 rfl rfl rfl <| U5 rfl rfl rfl (Q5 rfl rfl rfl) <| U7 rfl rfl rfl <| Q3 ?_
 have e := U3 h1; subst e
 refine QA (J1 (s1 + 1)) (Qf (U1 rfl (U1 rfl (U1 rfl U0))) (Um rfl (Um rfl Ul)) Uh rfl (Nat.zero_le _) rfl rfl rfl (UE rfl rfl (UE rfl rfl UB)) rfl rfl) ho1
 replace h1 := Qn c6 h1
 refine QJ <| Qd <| Qd ?_
 have e := U3 h1; subst e
 have e_ : _ = _ := ho1
 subst e_
 exact QD () (Qf U0 (Um rfl (Um rfl Ul)) Uh rfl (Nat.zero_le _) rfl rfl rfl (UE rfl rfl (UE rfl rfl UB)) rfl rfl) h0
 intro o4 h0
 refine Qu <| Q1 <| Q2 <| Q0 <| U7 rfl rfl rfl <| Q3 <| Q1 <| Qz ?_
 have e := U3 h0; subst e
 exact QK (fun _ _ h => h) rfl (Qk rfl .nil) (.cons (.one (.d _)) .nil)
def Xz (a0 : List Lvl) (a1 : List Lvl) (s1 : Int) : Option (LO Int (Unit ⊕ Bool)) :=
 cond (decide (s1 < (a0.length : Int)))
   (Option.bind (Jg a0 s1) fun (x4 : Lvl) =>
 Option.bind (Jg a1 s1) fun (x5 : Lvl) =>
 Option.bind (WT x4 x5) fun (x6 : Bool) =>
 cond (!x6)
   (some (.done (.inr false)))
   (some (.next (J1 (s1 + 1)))))
   (some (.done (.inl ())))
def WV (a0 : List Lvl) (a1 : List Lvl) : Option Bool :=
 cond ((a0.length : Int) != (a1.length : Int))
   (some false)
   (Option.bind (Qv (Xz a0 a1) QH 0) (Sum.elim (fun (o2 : Unit) => some true) (fun o => some o)))
set_option maxRecDepth 100000 in
set_option maxHeartbeats 2000000 in
theorem m70_ok (a0 : List Lvl) (a1 : List Lvl) (r : Bool) (h0 : WV a0 a1 = some r) : Fun Try.prog 70 [.one (Ut a0), .one (Ut a1)] (Qy [.one (Uw r)]) := by
 unfold WV at h0
 refine QS 9 27 Try.func70 rfl en_70 rfl (Ug rfl) (fun S w => ?_)
 simp only [J8]
 refine Q2 <| Q0 <| U7 rfl rfl rfl <| Q3 <| Q1 <| Q2 <| Q2 <| Q0 <| U6 rfl rfl rfl <| U5 rfl rfl rfl (QB (α := Lvl) XT rfl (.d _)) <| U6 rfl rfl rfl <| U5 rfl rfl rfl (QB (α := Lvl) XT rfl (.d _)) <| U5 rfl rfl rfl (Q5 rfl rfl rfl) <| Q3 ?_
 refine Q1 ?_
 refine Qe (b := ((a0.length : Int) != (a1.length : Int))) rfl (fun c1 => ?_) (fun c1 => ?_)
 replace h0 := Qm c1 h0
 refine Q2 <| Q0 <| U7 rfl rfl rfl <| Q3 <| Q1 <| Qz ?_
 have e := U3 h0; subst e
 exact QK (fun _ _ h => h) rfl (Qk rfl .nil) (.cons (.one (.d _)) .nil)
 replace h0 := Qn c1 h0
 refine Qg <| Q1 <| Q2 <| Q2 <| Q0 <| U7 rfl rfl rfl <| Q3 <| Q1 <| Qc ?_
 refine QF 0 (fun (o2 : Unit) => ⟨[], [], [], 0, 27, []⟩) (fun (o2 : Unit) => (some true) = some r) ?_ ?_
 refine Qb h0 (fun o3 hl1 h0 => ?_)
 refine QE (Xz a0 a1) (fun s1 => ⟨[(0, .v (.one (Ut a0))), (1, .v (.one (Ut a1))), (5, .v (.one (Uv s1)))], [], [], 0, 27, []⟩) 0 o3 (Qf (U1 rfl (U1 rfl (U1 rfl U0))) Ul Uh rfl (Nat.zero_le _) rfl rfl rfl UB rfl rfl) hl1 (fun s1 n1 oo1 h1 ho1 => ?_)
 unfold Xz at h1
 refine Q2 <| Q2 <| Q0 <| U6 rfl rfl rfl <| U6 rfl rfl rfl <| U5 rfl rfl rfl (QB (α := Lvl) XT rfl (.d _)) <| U5 rfl rfl rfl (Q5 rfl rfl rfl) <| Q3 <| Q1 ?_
 refine Qe (b := (decide (s1 < (a0.length : Int)))) rfl (fun c4 => ?_) (fun c4 => ?_)
 replace h1 := Qm c4 h1
 refine Qg <| Q1 <| Q2 <| Qc <| Q2 ?_
 refine JO [] [] mixed (by kernel_rfl) (by kernel_rfl) (by kernel_rfl) ?_
 refine RunA.rd rfl rfl rfl (Q6 (J0 rfl)) rfl <| RunA.rd rfl rfl rfl (Q6 (J0 rfl)) rfl ?_
 refine Qb h1 (fun x5 hx5 h1 => ?_)
 refine RunA.rd rfl rfl rfl (Q6 (Qi (α := Lvl) XT rfl (.d _) rfl hx5)) rfl <| RunA.rd rfl rfl rfl (Q6 (QN (x5 : Lvl) ag_102 rfl)) rfl <| RunA.rd rfl rfl rfl (Q6 (J0 rfl)) rfl <| RunA.rd rfl rfl rfl (Q6 (J0 rfl)) rfl ?_
 refine Qb h1 (fun x6 hx6 h1 => ?_)
 refine RunA.rd rfl rfl rfl (Q6 (Qi (α := Lvl) XT rfl (.d _) rfl hx6)) rfl <| RunA.rd rfl rfl rfl (Q6 (QN (x6 : Lvl) ag_102 rfl)) rfl ?_
 refine Qb h1 (fun x7 hx7 h1 => ?_)
 refine RunA.rd rfl rfl rfl (Ql (m87_ok x5 x6 x7 hx7) rfl (.cons (.agg (.cons (.d _) (.cons (.d _) .nil))) (.cons (.agg (.cons (.d _) (.cons (.d _) .nil))) .nil))) rfl <| RunA.rd rfl rfl rfl (Q6 (J9 rfl)) rfl ?_
 refine RunA.nil ⟨?ex, _, _, rfl, ?_⟩
 case ex => exact trivial
 refine JV (st' := ⟨[(0, .v (.one (Ut a0))), (1, .v (.one (Ut a1))), (5, .v (.one (Uv s1))), (26, .v (.one (Uw (!x7))))], [], [], 0, 27, []⟩) (Qf (U1 rfl (U1 rfl (U1 rfl (U1 rfl U0)))) Ul Uh rfl (Nat.zero_le _) rfl rfl rfl UB rfl rfl) <| Q1 ?_
 refine Qe (b := (!x7)) rfl (fun c8 => ?_) (fun c8 => ?_)
 replace h1 := Qm c8 h1
 refine Q2 <| Q0 <| U7 rfl rfl rfl <| Q3 <| Q1 <| Qz ?_
 have e := U3 h1; subst e
 have e_ : _ = _ := ho1
 subst e_
 try dsimp only [Sum.elim_inl, Sum.elim_inr] at h0
 have e := U3 h0; subst e
 exact QK (fun _ _ h => h) rfl (Qk rfl .nil) (.cons (.one (.d _)) .nil)
 replace h1 := Qn c8 h1
 refine Qg <| Qh <| Q1 <| Q0 <| U6 rfl rfl rfl <| U5 rfl rfl rfl (Q5 rfl rfl rfl) <| U7 rfl rfl rfl <| Q3 ?_
 have e := U3 h1; subst e
 refine QA (J1 (s1 + 1)) (Qf (U1 rfl (U1 rfl (U1 rfl U0))) Ul Uh rfl (Nat.zero_le _) rfl rfl rfl UB rfl rfl) ho1
 replace h1 := Qn c4 h1
 refine QJ <| Qd <| Qd ?_
 have e := U3 h1; subst e
 have e_ : _ = _ := ho1
 subst e_
 exact QD () (Qf U0 Ul Uh rfl (Nat.zero_le _) rfl rfl rfl UB rfl rfl) h0
 intro o2 h0
 refine Qu <| Q1 <| Q2 <| Q0 <| U7 rfl rfl rfl <| Q3 <| Q1 <| Qz ?_
 have e := U3 h0; subst e
 exact QK (fun _ _ h => h) rfl (Qk rfl .nil) (.cons (.one (.d _)) .nil)
def Xc (a0 : Tm) (a1 : Tm) (rc : Tm × Tm → Option Bool) (s1 : Int) : Option (LO Int (Unit ⊕ Bool)) :=
 cond (decide (s1 < (a0.kids.length : Int)))
   (Option.bind (Jg a0.kids s1) fun (x5 : Tm) =>
 Option.bind (Jg a1.kids s1) fun (x6 : Tm) =>
 Option.bind (rc (x5, x6)) fun (x7 : Bool) =>
 cond (!x7)
   (some (.done (.inr false)))
   (some (.next (J1 (s1 + 1)))))
   (some (.done (.inl ())))
def Wr (rc : Tm × Tm → Option Bool) (a0 : Tm) (a1 : Tm) : Option Bool :=
 Option.bind (cond (a0.kind != a1.kind)
   (some true)
   (cond (a0.index != a1.index)
   (some true)
   (cond (!(a0.name == a1.name))
   (some true)
   (Option.bind (WV a0.levels a1.levels) fun (x5 : Bool) =>
 cond (!x5)
   (some true)
   (some ((a0.kids.length : Int) != (a1.kids.length : Int))))))) (fun (v1 : Bool) => cond v1
   (some false)
   (Option.bind (Qv (Xc a0 a1 rc) QH 0) (Sum.elim (fun (o3 : Unit) => some true) (fun o => some o))))
def m57F (rc : Tm × Tm → Option Bool) (u : Tm × Tm) : Option Bool := Wr rc u.1 u.2
def WB (a0 : Tm) (a1 : Tm) : Option Bool := JY m57F QH (a0, a1)
set_option maxRecDepth 100000 in
set_option maxHeartbeats 2000000 in
theorem m57s_ok (rc : Tm × Tm → Option Bool) (H : ∀ (a0 : Tm) (a1 : Tm) (r : Bool), rc (a0, a1) = some r → Fun Try.prog 57 [.agg (Uy a0), .agg (Uy a1)] (Qy [.one (Uw r)])) (a0 : Tm) (a1 : Tm) (r : Bool) (h0 : Wr rc a0 a1 = some r) : Fun Try.prog 57 [.agg (Uy a0), .agg (Uy a1)] (Qy [.one (Uw r)]) := by
 unfold Wr at h0
 refine QS 9 61 Try.func57 rfl en_57 rfl (Ug rfl) (fun S w => ?_)
 simp only [J8]
 refine Q2 <| Q0 <| Q9 rfl rfl (Ug rfl) (Jc rfl) <| Q9 rfl rfl (Ug rfl) (Jc rfl) <| U7 rfl rfl rfl <| Q3 <| Q1 <| Q2 <| Q2 ?_
 refine Ja (fun (v1 : Bool) => ⟨[(2, .v (.one (.ptr 0 0))), (3, .v (.one (.ptr 1 0))), (41, .v (.one (Uw v1)))], [(0, .cells 42 (Uy a0)), (1, .cells 42 (Uy a1))], [], 2, 61, []⟩) (fun (v1 : Bool) => (cond v1
     (some false)
     (Option.bind (Qv (Xc a0 a1 rc) QH 0) (Sum.elim (fun (o3 : Unit) => some true) (fun o => some o)))) = some r) ?_ ?_
 refine Qb h0 (fun w1_ h1 h0 => ?_)
 refine Q0 <| U5 rfl rfl rfl (Q4 Ka rfl) <| U5 rfl rfl rfl (Q7 Yx rfl rfl rfl) <| U5 rfl rfl rfl (Q4 Ka rfl) <| U5 rfl rfl rfl (Q7 Yx rfl rfl rfl) <| U5 rfl rfl rfl (Q5 rfl rfl rfl) <| U6 rfl rfl rfl ?_
 refine QV (d := 11) (c := (a0.kind != a1.kind)) rfl (fun c2 => ?_) (fun c2 => ?_)
 replace h1 := Qm c2 h1
 refine Q8 rfl rfl <| Q8 rfl rfl <| Q8 rfl rfl <| Q8 rfl rfl <| Q8 rfl rfl <| U5 rfl rfl rfl (Qo rfl rfl) <| U6 rfl rfl rfl <| Q8 rfl rfl <| Q8 rfl rfl <| Q8 rfl rfl <| Q8 rfl rfl <| Q8 rfl rfl <| U5 rfl rfl rfl (Qo rfl rfl) <| U6 rfl rfl rfl ?_
 refine Q8 rfl rfl <| Q8 rfl rfl <| Q8 rfl rfl <| Q8 rfl rfl <| Q8 rfl rfl <| Q8 rfl rfl <| U5 rfl rfl rfl (Qo rfl rfl) <| U6 rfl rfl rfl <| Q8 rfl rfl <| Q8 rfl rfl <| Q8 rfl rfl <| Q8 rfl rfl <| Q8 rfl rfl <| Q8 rfl rfl ?_
 refine Q8 rfl rfl <| U5 rfl rfl rfl (Qo rfl rfl) <| Q3 ?_
 have e := U3 h1; subst e
 exact Qr true (Qf (U1 rfl (U1 rfl (U1 rfl U0))) (Um rfl (Um rfl Ul)) Uh rfl (Nat.zero_le _) rfl rfl rfl (UE rfl rfl (UE rfl rfl UB)) rfl rfl) h0
 replace h1 := Qn c2 h1
 refine U5 rfl rfl rfl (Q4 fo_42_1 rfl) <| U5 rfl rfl rfl (Q7 Yx rfl rfl rfl) <| U5 rfl rfl rfl (Q4 fo_42_1 rfl) <| U5 rfl rfl rfl (Q7 Yx rfl rfl rfl) <| U5 rfl rfl rfl (Q5 rfl rfl rfl) <| U5 rfl rfl rfl (QG rfl rfl) <| U6 rfl rfl rfl ?_
 refine QV (d := 18) (c := (a0.index != a1.index)) rfl (fun c3 => ?_) (fun c3 => ?_)
 replace h1 := Qm c3 h1
 refine Q8 rfl rfl <| Q8 rfl rfl <| Q8 rfl rfl <| Q8 rfl rfl <| Q8 rfl rfl <| U5 rfl rfl rfl (Qo rfl rfl) <| U6 rfl rfl rfl <| Q8 rfl rfl <| Q8 rfl rfl <| Q8 rfl rfl <| Q8 rfl rfl <| Q8 rfl rfl <| Q8 rfl rfl <| U5 rfl rfl rfl (Qo rfl rfl) ?_
 refine U6 rfl rfl rfl <| Q8 rfl rfl <| Q8 rfl rfl <| Q8 rfl rfl <| Q8 rfl rfl <| Q8 rfl rfl <| Q8 rfl rfl <| Q8 rfl rfl <| U5 rfl rfl rfl (Qo rfl rfl) <| Q3 ?_
 have e := U3 h1; subst e
 exact Qr true (Qf (U1 rfl (U1 rfl (U1 rfl U0))) (Um rfl (Um rfl Ul)) Uh rfl (Nat.zero_le _) rfl rfl rfl (UE rfl rfl (UE rfl rfl UB)) rfl rfl) h0
 replace h1 := Qn c3 h1
 refine U5 rfl rfl rfl (Q4 ZE rfl) <| U5 rfl rfl rfl (Q7 JG rfl rfl rfl) <| U5 rfl rfl rfl (Q4 ZE rfl) <| U5 rfl rfl rfl (Q7 JG rfl rfl rfl) <| U5 rfl rfl rfl (Xm rfl rfl) <| U5 rfl rfl rfl (QG rfl rfl) <| U6 rfl rfl rfl ?_
 refine QV (d := 25) (c := (!(a0.name == a1.name))) rfl (fun c4 => ?_) (fun c4 => ?_)
 replace h1 := Qm c4 h1
 refine Q8 rfl rfl <| Q8 rfl rfl <| Q8 rfl rfl <| Q8 rfl rfl <| Q8 rfl rfl <| Q8 rfl rfl <| U5 rfl rfl rfl (Qo rfl rfl) <| U6 rfl rfl rfl <| Q8 rfl rfl <| Q8 rfl rfl <| Q8 rfl rfl <| Q8 rfl rfl <| Q8 rfl rfl <| Q8 rfl rfl ?_
 refine Q8 rfl rfl <| U5 rfl rfl rfl (Qo rfl rfl) <| Q3 ?_
 have e := U3 h1; subst e
 exact Qr true (Qf (U1 rfl (U1 rfl (U1 rfl U0))) (Um rfl (Um rfl Ul)) Uh rfl (Nat.zero_le _) rfl rfl rfl (UE rfl rfl (UE rfl rfl UB)) rfl rfl) h0
 replace h1 := Qn c4 h1
 refine U5 rfl rfl rfl (Q4 fo_42_3 rfl) <| U5 rfl rfl rfl (Q7 ag_39 rfl rfl rfl) <| U5 rfl rfl rfl (Q4 fo_42_3 rfl) <| U5 rfl rfl rfl (Q7 ag_39 rfl rfl rfl) ?_
 refine Qb h1 (fun x5 hx5 h1 => ?_)
 refine Q9 rfl rfl (Ug rfl) (Ql (m70_ok a0.levels a1.levels x5 hx5) rfl (.cons (.one (.d _)) (.cons (.one (.d _)) .nil))) <| U5 rfl rfl rfl (J9 rfl) <| U5 rfl rfl rfl (QG rfl rfl) <| U6 rfl rfl rfl ?_
 refine QV (d := 33) (c := (!x5)) rfl (fun c6 => ?_) (fun c6 => ?_)
 replace h1 := Qm c6 h1
 refine Q8 rfl rfl <| Q8 rfl rfl <| Q8 rfl rfl <| Q8 rfl rfl <| Q8 rfl rfl <| Q8 rfl rfl <| Q8 rfl rfl <| U5 rfl rfl rfl (Qo rfl rfl) <| Q3 ?_
 have e := U3 h1; subst e
 exact Qr true (Qf (U1 rfl (U1 rfl (U1 rfl U0))) (Um rfl (Um rfl Ul)) Uh rfl (Nat.zero_le _) rfl rfl rfl (UE rfl rfl (UE rfl rfl UB)) rfl rfl) h0
 replace h1 := Qn c6 h1
 refine U5 rfl rfl rfl (Q4 YE rfl) <| U5 rfl rfl rfl (Q7 Y3 rfl rfl rfl) <| U5 rfl rfl rfl (QB (α := Tm) JH rfl (.d _)) <| U5 rfl rfl rfl (Q4 YE rfl) <| U5 rfl rfl rfl (Q7 Y3 rfl rfl rfl) <| U5 rfl rfl rfl (QB (α := Tm) JH rfl (.d _)) <| U5 rfl rfl rfl (Q5 rfl rfl rfl) <| U5 rfl rfl rfl (QG rfl rfl) <| Q3 ?_
 have e := U3 h1; subst e
 exact Qr ((a0.kids.length : Int) != (a1.kids.length : Int)) (Qf (U1 rfl (U1 rfl (U1 rfl U0))) (Um rfl (Um rfl Ul)) Uh rfl (Nat.zero_le _) rfl rfl rfl (UE rfl rfl (UE rfl rfl UB)) rfl rfl) h0
 intro v1 h0
 refine Q1 ?_
 refine Qe (b := v1) rfl (fun c7 => ?_) (fun c7 => ?_)
 replace h0 := Qm c7 h0
 refine Q2 <| Q0 <| U7 rfl rfl rfl <| Q3 <| Q1 <| Qz ?_
 have e := U3 h0; subst e
 exact QK (fun _ _ h => h) rfl (Qk rfl .nil) (.cons (.one (.d _)) .nil)
 replace h0 := Qn c7 h0
 refine Qg <| Q1 <| Q2 <| Q2 <| Q0 <| U7 rfl rfl rfl <| Q3 <| Q1 <| Qc ?_
 refine QF 0 (fun (o8 : Unit) => ⟨[], [(0, .cells 42 (Uy a0)), (1, .cells 42 (Uy a1))], [], 2, 61, []⟩) (fun (o8 : Unit) => (some true) = some r) ?_ ?_
 refine Qb h0 (fun o9 hl1 h0 => ?_)
 refine QE (Xc a0 a1 rc) (fun s1 => ⟨[(2, .v (.one (.ptr 0 0))), (3, .v (.one (.ptr 1 0))), (5, .v (.one (Uv s1)))], [(0, .cells 42 (Uy a0)), (1, .cells 42 (Uy a1))], [], 2, 61, []⟩) 0 o9 (Qf (U1 rfl (U1 rfl (U1 rfl U0))) (Um rfl (Um rfl Ul)) Uh rfl (Nat.zero_le _) rfl rfl rfl (UE rfl rfl (UE rfl rfl UB)) rfl rfl) hl1 (fun s1 n1 oo1 h1 ho1 => ?_)
 unfold Xc at h1
 refine Q2 <| Q2 <| Q0 <| U6 rfl rfl rfl <| U5 rfl rfl rfl (Q4 YE rfl) <| U5 rfl rfl rfl (Q7 Y3 rfl rfl rfl) <| U5 rfl rfl rfl (QB (α := Tm) JH rfl (.d _)) <| U5 rfl rfl rfl (Q5 rfl rfl rfl) <| Q3 <| Q1 ?_
 refine Qe (b := (decide (s1 < (a0.kids.length : Int)))) rfl (fun c10 => ?_) (fun c10 => ?_)
 replace h1 := Qm c10 h1
 refine Qg <| Q1 <| Q2 <| Qc <| Q2 ?_
 refine JO [] [] mixed (by kernel_rfl) (by kernel_rfl) (by kernel_rfl) ?_
 refine RunA.rd rfl rfl rfl (Q6 (Q4 YE rfl)) rfl <| RunA.rd rfl rfl rfl (Q6 (Q7 Y3 rfl rfl rfl)) rfl <| RunA.rd rfl rfl rfl (Q6 (J0 rfl)) rfl ?_
 refine Qb h1 (fun x11 hx11 h1 => ?_)
 refine RunA.rd rfl rfl rfl (Q6 (Qi (α := Tm) JH rfl (.d _) rfl hx11)) rfl <| RunA.rd rfl rfl rfl (Q6 (QN (x11 : Tm) Jh rfl)) rfl <| RunA.rd rfl rfl rfl (Q6 (Q4 YE rfl)) rfl <| RunA.rd rfl rfl rfl (Q6 (Q7 Y3 rfl rfl rfl)) rfl <| RunA.rd rfl rfl rfl (Q6 (J0 rfl)) rfl ?_
 refine Qb h1 (fun x12 hx12 h1 => ?_)
 refine RunA.rd rfl rfl rfl (Q6 (Qi (α := Tm) JH rfl (.d _) rfl hx12)) rfl <| RunA.rd rfl rfl rfl (Q6 (QN (x12 : Tm) Jh rfl)) rfl ?_
 refine Qb h1 (fun x13 hx13 h1 => ?_)
 refine RunA.rd rfl rfl rfl (Ql (H x11 x12 x13 hx13) rfl (.cons (.agg (.cons (.d _) (.cons (.d _) (.cons (.d _) (.cons (.d _) (.cons (.d _) .nil)))))) (.cons (.agg (.cons (.d _) (.cons (.d _) (.cons (.d _) (.cons (.d _) (.cons (.d _) .nil)))))) .nil))) rfl <| RunA.rd rfl rfl rfl (Q6 (J9 rfl)) rfl ?_
 refine RunA.nil ⟨?ex, _, _, rfl, ?_⟩
 case ex => exact trivial
 refine JV (st' := ⟨[(2, .v (.one (.ptr 0 0))), (3, .v (.one (.ptr 1 0))), (5, .v (.one (Uv s1))), (60, .v (.one (Uw (!x13))))], [(0, .cells 42 (Uy a0)), (1, .cells 42 (Uy a1))], [], 2, 61, []⟩) (Qf (U1 rfl (U1 rfl (U1 rfl (U1 rfl U0)))) (Um rfl (Um rfl Ul)) Uh rfl (Nat.zero_le _) rfl rfl rfl (UE rfl rfl (UE rfl rfl UB)) rfl rfl) <| Q1 ?_
 refine Qe (b := (!x13)) rfl (fun c14 => ?_) (fun c14 => ?_)
 replace h1 := Qm c14 h1
 refine Q2 <| Q0 <| U7 rfl rfl rfl <| Q3 <| Q1 <| Qz ?_
 have e := U3 h1; subst e
 have e_ : _ = _ := ho1
 subst e_
 try dsimp only [Sum.elim_inl, Sum.elim_inr] at h0
 have e := U3 h0; subst e
 exact QK (fun _ _ h => h) rfl (Qk rfl .nil) (.cons (.one (.d _)) .nil)
 replace h1 := Qn c14 h1
 refine Qg <| Qh <| Q1 <| Q0 <| U6 rfl rfl rfl <| U5 rfl rfl rfl (Q5 rfl rfl rfl) <| U7 rfl rfl rfl <| Q3 ?_
 have e := U3 h1; subst e
 refine QA (J1 (s1 + 1)) (Qf (U1 rfl (U1 rfl (U1 rfl U0))) (Um rfl (Um rfl Ul)) Uh rfl (Nat.zero_le _) rfl rfl rfl (UE rfl rfl (UE rfl rfl UB)) rfl rfl) ho1
 replace h1 := Qn c10 h1
 refine QJ <| Qd <| Qd ?_
 have e := U3 h1; subst e
 have e_ : _ = _ := ho1
 subst e_
 exact QD () (Qf U0 (Um rfl (Um rfl Ul)) Uh rfl (Nat.zero_le _) rfl rfl rfl (UE rfl rfl (UE rfl rfl UB)) rfl rfl) h0
 intro o8 h0
 refine Qu <| Q1 <| Q2 <| Q0 <| U7 rfl rfl rfl <| Q3 <| Q1 <| Qz ?_
 have e := U3 h0; subst e
 exact QK (fun _ _ h => h) rfl (Qk rfl .nil) (.cons (.one (.d _)) .nil)
theorem m57_all (n : Nat) (u : Tm × Tm) (r : Bool) (h0 : JY m57F n u = some r) : Fun Try.prog 57 [.agg (Uy u.1), .agg (Uy u.2)] (Qy [.one (Uw r)]) :=
 Yy (C := fun u r => Fun Try.prog 57 [.agg (Uy u.1), .agg (Uy u.2)] (Qy [.one (Uw r)])) (fun rc H u r h => m57s_ok rc (fun a0 a1 r h => H (a0, a1) r h) u.1 u.2 r h) n u r h0
theorem Gl (a0 : Tm) (a1 : Tm) (r : Bool) (h0 : WB a0 a1 = some r) : Fun Try.prog 57 [.agg (Uy a0), .agg (Uy a1)] (Qy [.one (Uw r)]) := m57_all QH (a0, a1) r h0
def Xy (a0 : List Tm) (a1 : List Tm) (s1 : Int) : Option (LO Int (Unit ⊕ Bool)) :=
 cond (decide (s1 < (a0.length : Int)))
   (Option.bind (Jg a0 s1) fun (x4 : Tm) =>
 Option.bind (Jg a1 s1) fun (x5 : Tm) =>
 Option.bind (WB x4 x5) fun (x6 : Bool) =>
 cond (!x6)
   (some (.done (.inr false)))
   (some (.next (J1 (s1 + 1)))))
   (some (.done (.inl ())))
def WU (a0 : List Tm) (a1 : List Tm) : Option Bool :=
 cond ((a0.length : Int) != (a1.length : Int))
   (some false)
   (Option.bind (Qv (Xy a0 a1) QH 0) (Sum.elim (fun (o2 : Unit) => some true) (fun o => some o)))
set_option maxRecDepth 100000 in
set_option maxHeartbeats 2000000 in
theorem m71_ok (a0 : List Tm) (a1 : List Tm) (r : Bool) (h0 : WU a0 a1 = some r) : Fun Try.prog 71 [.one (Ut a0), .one (Ut a1)] (Qy [.one (Uw r)]) := by
 unfold WU at h0
 refine QS 9 27 Try.func71 rfl en_71 rfl (Ug rfl) (fun S w => ?_)
 simp only [J8]
 refine Q2 <| Q0 <| U7 rfl rfl rfl <| Q3 <| Q1 <| Q2 <| Q2 <| Q0 <| U6 rfl rfl rfl <| U5 rfl rfl rfl (QB (α := Tm) JH rfl (.d _)) <| U6 rfl rfl rfl <| U5 rfl rfl rfl (QB (α := Tm) JH rfl (.d _)) <| U5 rfl rfl rfl (Q5 rfl rfl rfl) <| Q3 ?_
 refine Q1 ?_
 refine Qe (b := ((a0.length : Int) != (a1.length : Int))) rfl (fun c1 => ?_) (fun c1 => ?_)
 replace h0 := Qm c1 h0
 refine Q2 <| Q0 <| U7 rfl rfl rfl <| Q3 <| Q1 <| Qz ?_
 have e := U3 h0; subst e
 exact QK (fun _ _ h => h) rfl (Qk rfl .nil) (.cons (.one (.d _)) .nil)
 replace h0 := Qn c1 h0
 refine Qg <| Q1 <| Q2 <| Q2 <| Q0 <| U7 rfl rfl rfl <| Q3 <| Q1 <| Qc ?_
 refine QF 0 (fun (o2 : Unit) => ⟨[], [], [], 0, 27, []⟩) (fun (o2 : Unit) => (some true) = some r) ?_ ?_
 refine Qb h0 (fun o3 hl1 h0 => ?_)
 refine QE (Xy a0 a1) (fun s1 => ⟨[(0, .v (.one (Ut a0))), (1, .v (.one (Ut a1))), (5, .v (.one (Uv s1)))], [], [], 0, 27, []⟩) 0 o3 (Qf (U1 rfl (U1 rfl (U1 rfl U0))) Ul Uh rfl (Nat.zero_le _) rfl rfl rfl UB rfl rfl) hl1 (fun s1 n1 oo1 h1 ho1 => ?_)
 unfold Xy at h1
 refine Q2 <| Q2 <| Q0 <| U6 rfl rfl rfl <| U6 rfl rfl rfl <| U5 rfl rfl rfl (QB (α := Tm) JH rfl (.d _)) <| U5 rfl rfl rfl (Q5 rfl rfl rfl) <| Q3 <| Q1 ?_
 refine Qe (b := (decide (s1 < (a0.length : Int)))) rfl (fun c4 => ?_) (fun c4 => ?_)
 replace h1 := Qm c4 h1
 refine Qg <| Q1 <| Q2 <| Qc <| Q2 ?_
 refine JO [] [] mixed (by kernel_rfl) (by kernel_rfl) (by kernel_rfl) ?_
 refine RunA.rd rfl rfl rfl (Q6 (J0 rfl)) rfl <| RunA.rd rfl rfl rfl (Q6 (J0 rfl)) rfl ?_
 refine Qb h1 (fun x5 hx5 h1 => ?_)
 refine RunA.rd rfl rfl rfl (Q6 (Qi (α := Tm) JH rfl (.d _) rfl hx5)) rfl <| RunA.rd rfl rfl rfl (Q6 (QN (x5 : Tm) Jh rfl)) rfl <| RunA.rd rfl rfl rfl (Q6 (J0 rfl)) rfl <| RunA.rd rfl rfl rfl (Q6 (J0 rfl)) rfl ?_
 refine Qb h1 (fun x6 hx6 h1 => ?_)
 refine RunA.rd rfl rfl rfl (Q6 (Qi (α := Tm) JH rfl (.d _) rfl hx6)) rfl <| RunA.rd rfl rfl rfl (Q6 (QN (x6 : Tm) Jh rfl)) rfl ?_
 refine Qb h1 (fun x7 hx7 h1 => ?_)
 refine RunA.rd rfl rfl rfl (Ql (Gl x5 x6 x7 hx7) rfl (.cons (.agg (.cons (.d _) (.cons (.d _) (.cons (.d _) (.cons (.d _) (.cons (.d _) .nil)))))) (.cons (.agg (.cons (.d _) (.cons (.d _) (.cons (.d _) (.cons (.d _) (.cons (.d _) .nil)))))) .nil))) rfl <| RunA.rd rfl rfl rfl (Q6 (J9 rfl)) rfl ?_
 refine RunA.nil ⟨?ex, _, _, rfl, ?_⟩
 case ex => exact trivial
 refine JV (st' := ⟨[(0, .v (.one (Ut a0))), (1, .v (.one (Ut a1))), (5, .v (.one (Uv s1))), (26, .v (.one (Uw (!x7))))], [], [], 0, 27, []⟩) (Qf (U1 rfl (U1 rfl (U1 rfl (U1 rfl U0)))) Ul Uh rfl (Nat.zero_le _) rfl rfl rfl UB rfl rfl) <| Q1 ?_
 refine Qe (b := (!x7)) rfl (fun c8 => ?_) (fun c8 => ?_)
 replace h1 := Qm c8 h1
 refine Q2 <| Q0 <| U7 rfl rfl rfl <| Q3 <| Q1 <| Qz ?_
 have e := U3 h1; subst e
 have e_ : _ = _ := ho1
 subst e_
 try dsimp only [Sum.elim_inl, Sum.elim_inr] at h0
 have e := U3 h0; subst e
 exact QK (fun _ _ h => h) rfl (Qk rfl .nil) (.cons (.one (.d _)) .nil)
 replace h1 := Qn c8 h1
 refine Qg <| Qh <| Q1 <| Q0 <| U6 rfl rfl rfl <| U5 rfl rfl rfl (Q5 rfl rfl rfl) <| U7 rfl rfl rfl <| Q3 ?_
 have e := U3 h1; subst e
 refine QA (J1 (s1 + 1)) (Qf (U1 rfl (U1 rfl (U1 rfl U0))) Ul Uh rfl (Nat.zero_le _) rfl rfl rfl UB rfl rfl) ho1
 replace h1 := Qn c4 h1
 refine QJ <| Qd <| Qd ?_
 have e := U3 h1; subst e
 have e_ : _ = _ := ho1
 subst e_
 exact QD () (Qf U0 Ul Uh rfl (Nat.zero_le _) rfl rfl rfl UB rfl rfl) h0
 intro o2 h0
 refine Qu <| Q1 <| Q2 <| Q0 <| U7 rfl rfl rfl <| Q3 <| Q1 <| Qz ?_
 have e := U3 h0; subst e
 exact QK (fun _ _ h => h) rfl (Qk rfl .nil) (.cons (.one (.d _)) .nil)
def WJ (a0 : Rcr) (a1 : Rcr) : Option Bool :=
 Option.bind (cond (a0.params == a1.params)
   (Option.bind (WB a0.ty a1.ty) fun (x3 : Bool) =>
 cond x3
   (Option.bind (WU a0.rules a1.rules) fun (x5 : Bool) =>
 some x5)
   (some false))
   (some false)) (fun (v1 : Bool) => some v1)
set_option maxRecDepth 100000 in
set_option maxHeartbeats 2000000 in
theorem m58_ok (a0 : Rcr) (a1 : Rcr) (r : Bool) (h0 : WJ a0 a1 = some r) : Fun Try.prog 58 [.agg (Uy a0), .agg (Uy a1)] (Qy [.one (Uw r)]) := by
 unfold WJ at h0
 refine QS 9 24 Try.func58 rfl en_58 rfl (Ug rfl) (fun S w => ?_)
 simp only [J8]
 refine Q2 <| Q0 <| Q9 rfl rfl (Ug rfl) (Jc rfl) <| Q9 rfl rfl (Ug rfl) (Jc rfl) <| U7 rfl rfl rfl <| Q3 <| Q1 <| Q2 ?_
 refine Ja (fun (v1 : Bool) => ⟨[(4, .v (.one (Uw v1)))], [(0, .cells 45 (Uy a0)), (1, .cells 45 (Uy a1))], [], 2, 24, []⟩) (fun (v1 : Bool) => (some v1) = some r) ?_ ?_
 refine Qb h0 (fun w1_ h1 h0 => ?_)
 refine Q0 <| U5 rfl rfl rfl (Q4 fo_45_0 rfl) <| U5 rfl rfl rfl (Q7 Yx rfl rfl rfl) <| U5 rfl rfl rfl (Q4 fo_45_0 rfl) <| U5 rfl rfl rfl (Q7 Yx rfl rfl rfl) <| U5 rfl rfl rfl (Q5 rfl rfl rfl) <| U6 rfl rfl rfl ?_
 refine QV (d := 10) (c := (a0.params == a1.params)) rfl (fun c2 => ?_) (fun c2 => ?_)
 replace h1 := Qm c2 h1
 refine U5 rfl rfl rfl (Q4 GZ rfl) <| U5 rfl rfl rfl (Qq Jh rfl rfl rfl rfl) <| U5 rfl rfl rfl (Q4 GZ rfl) <| U5 rfl rfl rfl (Qq Jh rfl rfl rfl rfl) ?_
 refine Qb h1 (fun x3 hx3 h1 => ?_)
 refine Q9 rfl rfl (Ug rfl) (Ql (Gl a0.ty a1.ty x3 hx3) rfl (.cons (.agg (.cons (.d _) (.cons (.d _) (.cons (.d _) (.cons (.d _) (.cons (.d _) .nil)))))) (.cons (.agg (.cons (.d _) (.cons (.d _) (.cons (.d _) (.cons (.d _) (.cons (.d _) .nil)))))) .nil))) <| U5 rfl rfl rfl (Qo rfl rfl) <| U6 rfl rfl rfl ?_
 refine QV (d := 17) (c := x3) rfl (fun c4 => ?_) (fun c4 => ?_)
 replace h1 := Qm c4 h1
 refine U5 rfl rfl rfl (Q4 ZD rfl) <| U5 rfl rfl rfl (Q7 Y3 rfl rfl rfl) <| U5 rfl rfl rfl (Q4 ZD rfl) <| U5 rfl rfl rfl (Q7 Y3 rfl rfl rfl) ?_
 refine Qb h1 (fun x5 hx5 h1 => ?_)
 refine Q9 rfl rfl (Ug rfl) (Ql (m71_ok a0.rules a1.rules x5 hx5) rfl (.cons (.one (.d _)) (.cons (.one (.d _)) .nil))) <| U5 rfl rfl rfl (Qo rfl rfl) <| U7 rfl rfl rfl <| Q3 ?_
 have e := U3 h1; subst e
 exact Qr x5 (Qf (U1 rfl U0) (Um rfl (Um rfl Ul)) Uh rfl (Nat.zero_le _) rfl rfl rfl (UE rfl rfl (UE rfl rfl UB)) rfl rfl) h0
 replace h1 := Qn c4 h1
 refine Q8 rfl rfl <| Q8 rfl rfl <| Q8 rfl rfl <| Q8 rfl rfl <| Q8 rfl rfl <| U5 rfl rfl rfl (QG rfl rfl) <| U7 rfl rfl rfl <| Q3 ?_
 have e := U3 h1; subst e
 exact Qr false (Qf (U1 rfl U0) (Um rfl (Um rfl Ul)) Uh rfl (Nat.zero_le _) rfl rfl rfl (UE rfl rfl (UE rfl rfl UB)) rfl rfl) h0
 replace h1 := Qn c2 h1
 refine Q8 rfl rfl <| Q8 rfl rfl <| Q8 rfl rfl <| Q8 rfl rfl <| Q8 rfl rfl <| U5 rfl rfl rfl (QG rfl rfl) <| U6 rfl rfl rfl <| Q8 rfl rfl <| Q8 rfl rfl <| Q8 rfl rfl <| Q8 rfl rfl <| Q8 rfl rfl <| U5 rfl rfl rfl (QG rfl rfl) <| U7 rfl rfl rfl ?_
 refine Q3 ?_
 have e := U3 h1; subst e
 exact Qr false (Qf (U1 rfl U0) (Um rfl (Um rfl Ul)) Uh rfl (Nat.zero_le _) rfl rfl rfl (UE rfl rfl (UE rfl rfl UB)) rfl rfl) h0
 intro v1 h0
 refine Q1 <| Qz ?_
 have e := U3 h0; subst e
 exact QK (fun _ _ h => h) rfl (Qk rfl .nil) (.cons (.one (.d _)) .nil)
def Xb (a0 : Tr) (a1 : Tr) (rc : Tr × Tr → Option Bool) (s1 : Int) : Option (LO Int (Unit ⊕ Bool)) :=
 cond (decide (s1 < (a0.branches.length : Int)))
   (Option.bind (Jg a0.branches s1) fun (x5 : UO) =>
 Option.bind (Jg a1.branches s1) fun (x6 : UO) =>
 Option.bind (cond (!(x5.ctor == x6.ctor))
   (some true)
   (cond (!(x5.absurd == x6.absurd))
   (some true)
   (Option.bind (rc (x5.tree, x6.tree)) fun (x10 : Bool) =>
 some (!x10)))) (fun (v7 : Bool) => cond v7
   (some (.done (.inr false)))
   (some (.next (J1 (s1 + 1))))))
   (some (.done (.inl ())))
def Wq (rc : Tr × Tr → Option Bool) (a0 : Tr) (a1 : Tr) : Option Bool :=
 Option.bind (cond (a0.kind != a1.kind)
   (some true)
   (cond (a0.var != a1.var)
   (some true)
   (Option.bind (WB a0.body a1.body) fun (x4 : Bool) =>
 cond (!x4)
   (some true)
   (some ((a0.branches.length : Int) != (a1.branches.length : Int)))))) (fun (v1 : Bool) => cond v1
   (some false)
   (Option.bind (Qv (Xb a0 a1 rc) QH 0) (Sum.elim (fun (o3 : Unit) => some true) (fun o => some o))))
def m59F (rc : Tr × Tr → Option Bool) (u : Tr × Tr) : Option Bool := Wq rc u.1 u.2
def m59 (a0 : Tr) (a1 : Tr) : Option Bool := JY m59F QH (a0, a1)
set_option maxRecDepth 100000 in
set_option maxHeartbeats 2000000 in
theorem m59s_ok (rc : Tr × Tr → Option Bool) (H : ∀ (a0 : Tr) (a1 : Tr) (r : Bool), rc (a0, a1) = some r → Fun Try.prog 59 [.agg (Uy a0), .agg (Uy a1)] (Qy [.one (Uw r)])) (a0 : Tr) (a1 : Tr) (r : Bool) (h0 : Wq rc a0 a1 = some r) : Fun Try.prog 59 [.agg (Uy a0), .agg (Uy a1)] (Qy [.one (Uw r)]) := by
 unfold Wq at h0
 refine QS 9 74 Try.func59 rfl en_59 rfl (Ug rfl) (fun S w => ?_)
 simp only [J8]
 refine Q2 <| Q0 <| Q9 rfl rfl (Ug rfl) (Jc rfl) <| Q9 rfl rfl (Ug rfl) (Jc rfl) <| U7 rfl rfl rfl <| Q3 <| Q1 <| Q2 <| Q2 ?_
 refine Ja (fun (v1 : Bool) => ⟨[(2, .v (.one (.ptr 0 0))), (3, .v (.one (.ptr 1 0))), (36, .v (.one (Uw v1)))], [(0, .cells 87 (Uy a0)), (1, .cells 87 (Uy a1))], [], 2, 74, []⟩) (fun (v1 : Bool) => (cond v1
     (some false)
     (Option.bind (Qv (Xb a0 a1 rc) QH 0) (Sum.elim (fun (o3 : Unit) => some true) (fun o => some o)))) = some r) ?_ ?_
 refine Qb h0 (fun w1_ h1 h0 => ?_)
 refine Q0 <| U5 rfl rfl rfl (Q4 fo_87_0 rfl) <| U5 rfl rfl rfl (Q7 Yx rfl rfl rfl) <| U5 rfl rfl rfl (Q4 fo_87_0 rfl) <| U5 rfl rfl rfl (Q7 Yx rfl rfl rfl) <| U5 rfl rfl rfl (Q5 rfl rfl rfl) <| U6 rfl rfl rfl ?_
 refine QV (d := 13) (c := (a0.kind != a1.kind)) rfl (fun c2 => ?_) (fun c2 => ?_)
 replace h1 := Qm c2 h1
 refine Q8 rfl rfl <| Q8 rfl rfl <| Q8 rfl rfl <| Q8 rfl rfl <| Q8 rfl rfl <| U5 rfl rfl rfl (Qo rfl rfl) <| U6 rfl rfl rfl <| Q8 rfl rfl <| Q8 rfl rfl <| Q8 rfl rfl <| Q8 rfl rfl <| Q8 rfl rfl <| Q8 rfl rfl <| U5 rfl rfl rfl (Qo rfl rfl) ?_
 refine U6 rfl rfl rfl <| Q8 rfl rfl <| Q8 rfl rfl <| Q8 rfl rfl <| Q8 rfl rfl <| Q8 rfl rfl <| Q8 rfl rfl <| Q8 rfl rfl <| U5 rfl rfl rfl (Qo rfl rfl) <| Q3 ?_
 have e := U3 h1; subst e
 exact Qr true (Qf (U1 rfl (U1 rfl (U1 rfl U0))) (Um rfl (Um rfl Ul)) Uh rfl (Nat.zero_le _) rfl rfl rfl (UE rfl rfl (UE rfl rfl UB)) rfl rfl) h0
 replace h1 := Qn c2 h1
 refine U5 rfl rfl rfl (Q4 fo_87_2 rfl) <| U5 rfl rfl rfl (Q7 Yx rfl rfl rfl) <| U5 rfl rfl rfl (Q4 fo_87_2 rfl) <| U5 rfl rfl rfl (Q7 Yx rfl rfl rfl) <| U5 rfl rfl rfl (Q5 rfl rfl rfl) <| U5 rfl rfl rfl (QG rfl rfl) <| U6 rfl rfl rfl ?_
 refine QV (d := 20) (c := (a0.var != a1.var)) rfl (fun c3 => ?_) (fun c3 => ?_)
 replace h1 := Qm c3 h1
 refine Q8 rfl rfl <| Q8 rfl rfl <| Q8 rfl rfl <| Q8 rfl rfl <| Q8 rfl rfl <| Q8 rfl rfl <| U5 rfl rfl rfl (Qo rfl rfl) <| U6 rfl rfl rfl <| Q8 rfl rfl <| Q8 rfl rfl <| Q8 rfl rfl <| Q8 rfl rfl <| Q8 rfl rfl <| Q8 rfl rfl ?_
 refine Q8 rfl rfl <| U5 rfl rfl rfl (Qo rfl rfl) <| Q3 ?_
 have e := U3 h1; subst e
 exact Qr true (Qf (U1 rfl (U1 rfl (U1 rfl U0))) (Um rfl (Um rfl Ul)) Uh rfl (Nat.zero_le _) rfl rfl rfl (UE rfl rfl (UE rfl rfl UB)) rfl rfl) h0
 replace h1 := Qn c3 h1
 refine U5 rfl rfl rfl (Q4 GV rfl) <| U5 rfl rfl rfl (Qq Jh rfl rfl rfl rfl) <| U5 rfl rfl rfl (Q4 GV rfl) <| U5 rfl rfl rfl (Qq Jh rfl rfl rfl rfl) ?_
 refine Qb h1 (fun x4 hx4 h1 => ?_)
 refine Q9 rfl rfl (Ug rfl) (Ql (Gl a0.body a1.body x4 hx4) rfl (.cons (.agg (.cons (.d _) (.cons (.d _) (.cons (.d _) (.cons (.d _) (.cons (.d _) .nil)))))) (.cons (.agg (.cons (.d _) (.cons (.d _) (.cons (.d _) (.cons (.d _) (.cons (.d _) .nil)))))) .nil))) <| U5 rfl rfl rfl (J9 rfl) <| U5 rfl rfl rfl (QG rfl rfl) <| U6 rfl rfl rfl ?_
 refine QV (d := 28) (c := (!x4)) rfl (fun c5 => ?_) (fun c5 => ?_)
 replace h1 := Qm c5 h1
 refine Q8 rfl rfl <| Q8 rfl rfl <| Q8 rfl rfl <| Q8 rfl rfl <| Q8 rfl rfl <| Q8 rfl rfl <| Q8 rfl rfl <| U5 rfl rfl rfl (Qo rfl rfl) <| Q3 ?_
 have e := U3 h1; subst e
 exact Qr true (Qf (U1 rfl (U1 rfl (U1 rfl U0))) (Um rfl (Um rfl Ul)) Uh rfl (Nat.zero_le _) rfl rfl rfl (UE rfl rfl (UE rfl rfl UB)) rfl rfl) h0
 replace h1 := Qn c5 h1
 refine U5 rfl rfl rfl (Q4 JS rfl) <| U5 rfl rfl rfl (Q7 YO rfl rfl rfl) <| U5 rfl rfl rfl (QB (α := UO) YL rfl (.d _)) <| U5 rfl rfl rfl (Q4 JS rfl) <| U5 rfl rfl rfl (Q7 YO rfl rfl rfl) <| U5 rfl rfl rfl (QB (α := UO) YL rfl (.d _)) <| U5 rfl rfl rfl (Q5 rfl rfl rfl) <| U5 rfl rfl rfl (QG rfl rfl) <| Q3 ?_
 have e := U3 h1; subst e
 exact Qr ((a0.branches.length : Int) != (a1.branches.length : Int)) (Qf (U1 rfl (U1 rfl (U1 rfl U0))) (Um rfl (Um rfl Ul)) Uh rfl (Nat.zero_le _) rfl rfl rfl (UE rfl rfl (UE rfl rfl UB)) rfl rfl) h0
 intro v1 h0
 refine Q1 ?_
 refine Qe (b := v1) rfl (fun c6 => ?_) (fun c6 => ?_)
 replace h0 := Qm c6 h0
 refine Q2 <| Q0 <| U7 rfl rfl rfl <| Q3 <| Q1 <| Qz ?_
 have e := U3 h0; subst e
 exact QK (fun _ _ h => h) rfl (Qk rfl .nil) (.cons (.one (.d _)) .nil)
 replace h0 := Qn c6 h0
 refine Qg <| Q1 <| Q2 <| Q2 <| Q0 <| U7 rfl rfl rfl <| Q3 <| Q1 <| Qc ?_
 refine QF 0 (fun (o7 : Unit) => ⟨[], [(0, .cells 87 (Uy a0)), (1, .cells 87 (Uy a1))], [], 2, 74, []⟩) (fun (o7 : Unit) => (some true) = some r) ?_ ?_
 refine Qb h0 (fun o8 hl1 h0 => ?_)
 refine QE (Xb a0 a1 rc) (fun s1 => ⟨[(2, .v (.one (.ptr 0 0))), (3, .v (.one (.ptr 1 0))), (5, .v (.one (Uv s1)))], [(0, .cells 87 (Uy a0)), (1, .cells 87 (Uy a1))], [], 2, 74, []⟩) 0 o8 (Qf (U1 rfl (U1 rfl (U1 rfl U0))) (Um rfl (Um rfl Ul)) Uh rfl (Nat.zero_le _) rfl rfl rfl (UE rfl rfl (UE rfl rfl UB)) rfl rfl) hl1 (fun s1 n1 oo1 h1 ho1 => ?_)
 unfold Xb at h1
 refine Q2 <| Q2 <| Q0 <| U6 rfl rfl rfl <| U5 rfl rfl rfl (Q4 JS rfl) <| U5 rfl rfl rfl (Q7 YO rfl rfl rfl) <| U5 rfl rfl rfl (QB (α := UO) YL rfl (.d _)) <| U5 rfl rfl rfl (Q5 rfl rfl rfl) <| Q3 <| Q1 ?_
 refine Qe (b := (decide (s1 < (a0.branches.length : Int)))) rfl (fun c9 => ?_) (fun c9 => ?_)
 replace h1 := Qm c9 h1
 refine Qg <| Q1 <| Q2 <| Qc <| Q2 ?_
 refine XC.pairRun [10, 11, 12, 13] [[], [10], [10, 11], [10, 11, 12], [10, 11, 12, 13], [11]] [(0, 1), (0, 2), (1, 1), (1, 2), (2, 1), (2, 2), (3, 1), (3, 2), (4, 1), (4, 2), (5, 1), (5, 2), (5, 3), (6, 1), (6, 2), (6, 3), (7, 1), (7, 2), (7, 3), (8, 1), (8, 2), (8, 3), (9, 1), (9, 2), (9, 3)] 5 10 11 [0, 1, 2, 3, 4, 5, 6, 7, 8, 9] mixed (by kernel_rfl) (by kernel_rfl) (by kernel_rfl) (by kernel_rfl) (by kernel_rfl) (by kernel_rfl) rfl (by kernel_rfl) ?_
 refine RunA.rd rfl rfl rfl (Q6 (Q4 JS rfl)) rfl <| RunA.rd rfl rfl rfl (Q6 (Q7 YO rfl rfl rfl)) rfl <| RunA.rd rfl rfl rfl (Q6 (J0 rfl)) rfl ?_
 refine Qb h1 (fun x10 hx10 h1 => ?_)
 refine RunA.rd rfl rfl rfl (Q6 (Qi (α := UO) YL rfl (.d _) rfl hx10)) rfl <| RunA.rd rfl rfl rfl (Q6 (QN (x10 : UO) Zi rfl)) rfl <| RunA.rd rfl rfl rfl (Q6 (Q4 JS rfl)) rfl <| RunA.rd rfl rfl rfl (Q6 (Q7 YO rfl rfl rfl)) rfl <| RunA.rd rfl rfl rfl (Q6 (J0 rfl)) rfl ?_
 refine Qb h1 (fun x11 hx11 h1 => ?_)
 refine RunA.rd rfl rfl rfl (Q6 (Qi (α := UO) YL rfl (.d _) rfl hx11)) rfl <| RunA.rd rfl rfl rfl (Q6 (QN (x11 : UO) Zi rfl)) rfl <| RunA.eff rfl rfl rfl (QC W0 rfl) rfl <| RunA.eff rfl rfl rfl (QC W0 rfl) rfl <| RunA.eff rfl rfl rfl (Jo (x10 : UO) Zi rfl rfl rfl rfl rfl) rfl <| RunA.eff rfl rfl rfl (Jo (x11 : UO) Zi rfl rfl rfl rfl rfl) rfl ?_
 refine RunA.nil ⟨[_], ⟨⟨_, _, rfl, rfl, _, _, rfl, rfl, rfl, .inl ⟨rfl, _, (Q6 (Q4 JS rfl)), .inr ⟨rfl, rfl⟩⟩⟩, ⟨⟨_, _, rfl, rfl, _, _, rfl, rfl, rfl, .inl ⟨rfl, _, (Q6 (Q4 JS rfl)), .inr ⟨rfl, rfl⟩⟩⟩, ⟨⟨_, _, rfl, rfl, _, _, rfl, rfl, rfl, .inl ⟨rfl, _, (Q6 (Q7 YO rfl rfl rfl)), .inr ⟨rfl, rfl⟩⟩⟩, ⟨⟨_, _, rfl, rfl, _, _, rfl, rfl, rfl, .inl ⟨rfl, _, (Q6 (Q7 YO rfl rfl rfl)), .inr ⟨rfl, rfl⟩⟩⟩, ⟨⟨_, _, rfl, rfl, _, _, rfl, rfl, rfl, .inl ⟨rfl, _, (Q6 (J0 rfl)), .inr ⟨rfl, rfl⟩⟩⟩, ⟨⟨_, _, rfl, rfl, _, _, rfl, rfl, rfl, .inl ⟨rfl, _, (Q6 (J0 rfl)), .inr ⟨rfl, rfl⟩⟩⟩, ⟨⟨_, _, rfl, rfl, _, _, rfl, rfl, rfl, .inl ⟨rfl, _, (Q6 (Qi (α := UO) YL rfl (.d _) rfl hx10)), .inr ⟨rfl, rfl⟩⟩⟩, ⟨⟨_, _, rfl, rfl, _, _, rfl, rfl, rfl, .inl ⟨rfl, _, (Q6 (Qi (α := UO) YL rfl (.d _) rfl hx10)), .inr ⟨rfl, rfl⟩⟩⟩, ⟨⟨_, _, rfl, rfl, _, _, rfl, rfl, rfl, .inl ⟨rfl, _, (Q6 (QN (x10 : UO) Zi rfl)), .inr ⟨rfl, rfl⟩⟩⟩, ⟨⟨_, _, rfl, rfl, _, _, rfl, rfl, rfl, .inl ⟨rfl, _, (Q6 (QN (x10 : UO) Zi rfl)), .inr ⟨rfl, rfl⟩⟩⟩, ⟨⟨_, _, rfl, rfl, _, _, rfl, rfl, rfl, .inl ⟨rfl, _, (Q6 (Q4 JS rfl)), .inr ⟨rfl, rfl⟩⟩⟩, ⟨⟨_, _, rfl, rfl, _, _, rfl, rfl, rfl, .inl ⟨rfl, _, (Q6 (Q4 JS rfl)), .inr ⟨rfl, rfl⟩⟩⟩, ⟨⟨_, _, rfl, rfl, _, _, rfl, rfl, rfl, .inl ⟨rfl, _, (Q6 (Q4 JS rfl)), .inr ⟨rfl, rfl⟩⟩⟩, ⟨⟨_, _, rfl, rfl, _, _, rfl, rfl, rfl, .inl ⟨rfl, _, (Q6 (Q7 YO rfl rfl rfl)), .inr ⟨rfl, rfl⟩⟩⟩, ⟨⟨_, _, rfl, rfl, _, _, rfl, rfl, rfl, .inl ⟨rfl, _, (Q6 (Q7 YO rfl rfl rfl)), .inr ⟨rfl, rfl⟩⟩⟩, ⟨⟨_, _, rfl, rfl, _, _, rfl, rfl, rfl, .inl ⟨rfl, _, (Q6 (Q7 YO rfl rfl rfl)), .inr ⟨rfl, rfl⟩⟩⟩, ⟨⟨_, _, rfl, rfl, _, _, rfl, rfl, rfl, .inl ⟨rfl, _, (Q6 (J0 rfl)), .inr ⟨rfl, rfl⟩⟩⟩, ⟨⟨_, _, rfl, rfl, _, _, rfl, rfl, rfl, .inl ⟨rfl, _, (Q6 (J0 rfl)), .inr ⟨rfl, rfl⟩⟩⟩, ⟨⟨_, _, rfl, rfl, _, _, rfl, rfl, rfl, .inl ⟨rfl, _, (Q6 (J0 rfl)), .inr ⟨rfl, rfl⟩⟩⟩, ⟨⟨_, _, rfl, rfl, _, _, rfl, rfl, rfl, .inl ⟨rfl, _, (Q6 (Qi (α := UO) YL rfl (.d _) rfl hx11)), .inr ⟨rfl, rfl⟩⟩⟩, ⟨⟨_, _, rfl, rfl, _, _, rfl, rfl, rfl, .inl ⟨rfl, _, (Q6 (Qi (α := UO) YL rfl (.d _) rfl hx11)), .inr ⟨rfl, rfl⟩⟩⟩, ⟨⟨_, _, rfl, rfl, _, _, rfl, rfl, rfl, .inl ⟨rfl, _, (Q6 (Qi (α := UO) YL rfl (.d _) rfl hx11)), .inr ⟨rfl, rfl⟩⟩⟩, ⟨⟨_, _, rfl, rfl, _, _, rfl, rfl, rfl, .inl ⟨rfl, _, (Q6 (QN (x11 : UO) Zi rfl)), .inr ⟨rfl, rfl⟩⟩⟩, ⟨⟨_, _, rfl, rfl, _, _, rfl, rfl, rfl, .inl ⟨rfl, _, (Q6 (QN (x11 : UO) Zi rfl)), .inr ⟨rfl, rfl⟩⟩⟩, ⟨⟨_, _, rfl, rfl, _, _, rfl, rfl, rfl, .inl ⟨rfl, _, (Q6 (QN (x11 : UO) Zi rfl)), .inr ⟨rfl, rfl⟩⟩⟩, trivial⟩⟩⟩⟩⟩⟩⟩⟩⟩⟩⟩⟩⟩⟩⟩⟩⟩⟩⟩⟩⟩⟩⟩⟩⟩, ⟨_, ⟨_, _, _, _, _, _, _, _, _, _, _, _, 2, _, rfl, rfl, W0, rfl, W0, rfl, rfl, rfl, rfl, rfl, rfl, rfl, rfl, rfl, rfl, rfl, rfl, rfl⟩, ⟨⟨_, _, rfl, rfl, rfl, .inl ⟨rfl, Q4 JS rfl⟩⟩, ⟨⟨_, _, rfl, rfl, rfl, .inl ⟨rfl, Q7 YO rfl rfl rfl⟩⟩, ⟨⟨_, _, rfl, rfl, rfl, .inl ⟨rfl, J0 rfl⟩⟩, ⟨⟨_, _, rfl, rfl, rfl, .inl ⟨rfl, Qi (α := UO) YL rfl (.d _) rfl hx10⟩⟩, ⟨⟨_, _, rfl, rfl, rfl, .inl ⟨rfl, QN (x10 : UO) Zi rfl⟩⟩, ⟨⟨_, _, rfl, rfl, rfl, .inl ⟨rfl, Q4 JS rfl⟩⟩, ⟨⟨_, _, rfl, rfl, rfl, .inl ⟨rfl, Q7 YO rfl rfl rfl⟩⟩, ⟨⟨_, _, rfl, rfl, rfl, .inl ⟨rfl, J0 rfl⟩⟩, ⟨⟨_, _, rfl, rfl, rfl, .inl ⟨rfl, Qi (α := UO) YL rfl (.d _) rfl hx11⟩⟩, ⟨⟨_, _, rfl, rfl, rfl, .inl ⟨rfl, QN (x11 : UO) Zi rfl⟩⟩, trivial⟩⟩⟩⟩⟩⟩⟩⟩⟩⟩⟩, _, _, rfl, ?_⟩
 refine JV (st' := ⟨[(2, .v (.one (.ptr 0 0))), (3, .v (.one (.ptr 1 0))), (5, .v (.one (Uv s1))), (6, .v (.one (.ptr 2 0))), (7, .v (.one (.ptr 3 0)))], [(0, .cells 87 (Uy a0)), (1, .cells 87 (Uy a1)), (2, .cells 115 (Uy x10)), (3, .cells 115 (Uy x11))], [], 4, 74, []⟩) (Qf (U1 rfl (U1 rfl (U1 rfl (U1 rfl (U1 rfl U0))))) (Um rfl (Um rfl (Um rfl (Um rfl Ul)))) Uh rfl (Nat.zero_le _) rfl rfl rfl (UE rfl rfl (UE rfl rfl (UE rfl rfl (UE rfl rfl UB)))) rfl rfl) <| Q1 <| Q2 ?_
 refine Ja (fun (v12 : Bool) => ⟨[(2, .v (.one (.ptr 0 0))), (3, .v (.one (.ptr 1 0))), (5, .v (.one (Uv s1))), (73, .v (.one (Uw v12)))], [(0, .cells 87 (Uy a0)), (1, .cells 87 (Uy a1)), (2, .cells 115 (Uy x10)), (3, .cells 115 (Uy x11))], [], 4, 74, []⟩) (fun (v12 : Bool) => (cond v12
     (some (.done (.inr false)))
     (some (.next (J1 (s1 + 1))))) = some oo1) ?_ ?_
 refine Qb h1 (fun w2_ h2 h1 => ?_)
 refine Q0 <| U5 rfl rfl rfl (Q4 G2 rfl) <| U5 rfl rfl rfl (Q7 JG rfl rfl rfl) <| U5 rfl rfl rfl (Q4 G2 rfl) <| U5 rfl rfl rfl (Q7 JG rfl rfl rfl) <| U5 rfl rfl rfl (Xm rfl rfl) <| U6 rfl rfl rfl ?_
 refine QV (d := 59) (c := (!(x10.ctor == x11.ctor))) rfl (fun c13 => ?_) (fun c13 => ?_)
 replace h2 := Qm c13 h2
 refine Q8 rfl rfl <| Q8 rfl rfl <| Q8 rfl rfl <| Q8 rfl rfl <| Q8 rfl rfl <| U5 rfl rfl rfl (Qo rfl rfl) <| U6 rfl rfl rfl <| Q8 rfl rfl <| Q8 rfl rfl <| Q8 rfl rfl <| Q8 rfl rfl <| Q8 rfl rfl <| Q8 rfl rfl <| U5 rfl rfl rfl (Qo rfl rfl) ?_
 refine Q3 ?_
 have e := U3 h2; subst e
 exact Qr true (Qf (U1 rfl (U1 rfl (U1 rfl (U1 rfl U0)))) (Um rfl (Um rfl (Um rfl (Um rfl Ul)))) Uh rfl (Nat.zero_le _) rfl rfl rfl (UE rfl rfl (UE rfl rfl (UE rfl rfl (UE rfl rfl UB)))) rfl rfl) h1
 replace h2 := Qn c13 h2
 refine U5 rfl rfl rfl (Q4 fo_115_1 rfl) <| U5 rfl rfl rfl (Q7 Kr rfl rfl rfl) <| U5 rfl rfl rfl (Q4 fo_115_1 rfl) <| U5 rfl rfl rfl (Q7 Kr rfl rfl rfl) <| U5 rfl rfl rfl (RO.neqBool ib_4 rfl rfl) <| U5 rfl rfl rfl (QG rfl rfl) <| U6 rfl rfl rfl ?_
 refine QV (d := 66) (c := (!(x10.absurd == x11.absurd))) rfl (fun c14 => ?_) (fun c14 => ?_)
 replace h2 := Qm c14 h2
 refine Q8 rfl rfl <| Q8 rfl rfl <| Q8 rfl rfl <| Q8 rfl rfl <| Q8 rfl rfl <| Q8 rfl rfl <| U5 rfl rfl rfl (Qo rfl rfl) <| Q3 ?_
 have e := U3 h2; subst e
 exact Qr true (Qf (U1 rfl (U1 rfl (U1 rfl (U1 rfl U0)))) (Um rfl (Um rfl (Um rfl (Um rfl Ul)))) Uh rfl (Nat.zero_le _) rfl rfl rfl (UE rfl rfl (UE rfl rfl (UE rfl rfl (UE rfl rfl UB)))) rfl rfl) h1
 replace h2 := Qn c14 h2
 refine U5 rfl rfl rfl (Q4 G1 rfl) <| U5 rfl rfl rfl (Qq Gh rfl rfl rfl rfl) <| U5 rfl rfl rfl (Q4 G1 rfl) <| U5 rfl rfl rfl (Qq Gh rfl rfl rfl rfl) ?_
 refine Qb h2 (fun x15 hx15 h2 => ?_)
 refine Q9 rfl rfl (Ug rfl) (Ql (H x10.tree x11.tree x15 hx15) rfl (.cons (.agg (.cons (.d _) (.cons (.d _) (.cons (.d _) (.cons (.d _) (.cons (.d _) (.cons (.d _) (.cons (.d _) (.cons (.d _) .nil))))))))) (.cons (.agg (.cons (.d _) (.cons (.d _) (.cons (.d _) (.cons (.d _) (.cons (.d _) (.cons (.d _) (.cons (.d _) (.cons (.d _) .nil))))))))) .nil))) <| U5 rfl rfl rfl (J9 rfl) <| U5 rfl rfl rfl (QG rfl rfl) <| Q3 ?_
 have e := U3 h2; subst e
 exact Qr (!x15) (Qf (U1 rfl (U1 rfl (U1 rfl (U1 rfl U0)))) (Um rfl (Um rfl (Um rfl (Um rfl Ul)))) Uh rfl (Nat.zero_le _) rfl rfl rfl (UE rfl rfl (UE rfl rfl (UE rfl rfl (UE rfl rfl UB)))) rfl rfl) h1
 intro v12 h1
 refine Q1 ?_
 refine Qe (b := v12) rfl (fun c16 => ?_) (fun c16 => ?_)
 replace h1 := Qm c16 h1
 refine Q2 <| Q0 <| U7 rfl rfl rfl <| Q3 <| Q1 <| Qz ?_
 have e := U3 h1; subst e
 have e_ : _ = _ := ho1
 subst e_
 try dsimp only [Sum.elim_inl, Sum.elim_inr] at h0
 have e := U3 h0; subst e
 exact QK (fun _ _ h => h) rfl (Qk rfl .nil) (.cons (.one (.d _)) .nil)
 replace h1 := Qn c16 h1
 refine Qg <| Qh <| Q1 <| Q0 <| U6 rfl rfl rfl <| U5 rfl rfl rfl (Q5 rfl rfl rfl) <| U7 rfl rfl rfl <| Q3 ?_
 have e := U3 h1; subst e
 refine QA (J1 (s1 + 1)) (Qf (U1 rfl (U1 rfl (U1 rfl U0))) (Um rfl (Um rfl Ul)) Uh rfl (Nat.zero_le _) rfl rfl rfl (UE rfl rfl (UE rfl rfl UB)) rfl rfl) ho1
 replace h1 := Qn c9 h1
 refine QJ <| Qd <| Qd ?_
 have e := U3 h1; subst e
 have e_ : _ = _ := ho1
 subst e_
 exact QD () (Qf U0 (Um rfl (Um rfl Ul)) Uh rfl (Nat.zero_le _) rfl rfl rfl (UE rfl rfl (UE rfl rfl UB)) rfl rfl) h0
 intro o7 h0
 refine Qu <| Q1 <| Q2 <| Q0 <| U7 rfl rfl rfl <| Q3 <| Q1 <| Qz ?_
 have e := U3 h0; subst e
 exact QK (fun _ _ h => h) rfl (Qk rfl .nil) (.cons (.one (.d _)) .nil)
theorem m59_all (n : Nat) (u : Tr × Tr) (r : Bool) (h0 : JY m59F n u = some r) : Fun Try.prog 59 [.agg (Uy u.1), .agg (Uy u.2)] (Qy [.one (Uw r)]) :=
 Yy (C := fun u r => Fun Try.prog 59 [.agg (Uy u.1), .agg (Uy u.2)] (Qy [.one (Uw r)])) (fun rc H u r h => m59s_ok rc (fun a0 a1 r h => H (a0, a1) r h) u.1 u.2 r h) n u r h0
theorem m59_ok (a0 : Tr) (a1 : Tr) (r : Bool) (h0 : m59 a0 a1 = some r) : Fun Try.prog 59 [.agg (Uy a0), .agg (Uy a1)] (Qy [.one (Uw r)]) := m59_all QH (a0, a1) r h0
def Gw (a0 : Dcl) (a1 : Dcl) (s1 : Int) : Option (LO Int (Unit ⊕ Bool)) :=
 cond (decide (s1 < (a0.ctors.length : Int)))
   (Option.bind (Option.bind (Jg a0.ctors s1) fun (x8 : Ctr) =>
 Option.bind (Jg a1.ctors s1) fun (x9 : Ctr) =>
 cond (!(x8.name == x9.name))
   (some true)
   (Option.bind (Jg a0.ctors s1) fun (x11 : Ctr) =>
 Option.bind (Jg a1.ctors s1) fun (x12 : Ctr) =>
 Option.bind (WB x11.ty x12.ty) fun (x13 : Bool) =>
 some (!x13))) (fun (v7 : Bool) => cond v7
   (some (.done (.inr false)))
   (some (.next (J1 (s1 + 1))))))
   (some (.done (.inl ())))
def KT (a0 : Dcl) (a1 : Dcl) (s1 : Int) : Option (LO Int (Unit ⊕ Bool)) :=
 cond (decide (s1 < (a0.funs.length : Int)))
   (Option.bind (Jg a0.funs s1) fun (x8 : Fn) =>
 Option.bind (Jg a1.funs s1) fun (x9 : Fn) =>
 Option.bind (cond (!(x8.name == x9.name))
   (some true)
   (cond (x8.arity != x9.arity)
   (some true)
   (Option.bind (WB x8.ty x9.ty) fun (x13 : Bool) =>
 cond (!x13)
   (some true)
   (Option.bind (m59 x8.tree x9.tree) fun (x15 : Bool) =>
 some (!x15))))) (fun (v10 : Bool) => cond v10
   (some (.done (.inr false)))
   (some (.next (J1 (s1 + 1))))))
   (some (.done (.inl ())))
def WY (a0 : Dcl) (a1 : Dcl) : Option Bool :=
 Option.bind (cond (a0.kind != a1.kind)
   (some true)
   (cond (!(a0.name == a1.name))
   (some true)
   (cond (a0.params != a1.params)
   (some true)
   (cond (a0.fixed != a1.fixed)
   (some true)
   (Option.bind (WB a0.ty a1.ty) fun (x6 : Bool) =>
 cond (!x6)
   (some true)
   (Option.bind (WB a0.value a1.value) fun (x8 : Bool) =>
 some (!x8))))))) (fun (v1 : Bool) => cond v1
   (some false)
   (Option.bind (cond ((a0.ctors.length : Int) != (a1.ctors.length : Int))
   (some true)
   (cond ((a0.funs.length : Int) != (a1.funs.length : Int))
   (some true)
   (Option.bind (WJ a0.rcr a1.rcr) fun (x6 : Bool) =>
 some (!x6)))) (fun (v3 : Bool) => cond v3
   (some false)
   (Option.bind (Qv (Gw a0 a1) QH 0) (Sum.elim (fun (o5 : Unit) => Option.bind (Qv (KT a0 a1) QH 0) (Sum.elim (fun (o6 : Unit) => some true) (fun o => some o))) (fun o => some o))))))
set_option maxRecDepth 100000 in
set_option maxHeartbeats 2000000 in
theorem m40_ok (a0 : Dcl) (a1 : Dcl) (r : Bool) (h0 : WY a0 a1 = some r) : Fun Try.prog 40 [.agg (Uy a0), .agg (Uy a1)] (Qy [.one (Uw r)]) := by
 unfold WY at h0
 refine QS 9 156 Try.func40 rfl en_40 rfl (Ug rfl) (fun S w => ?_)
 simp only [J8]
 refine Q2 <| Q0 <| Q9 rfl rfl (Ug rfl) (Jc rfl) <| Q9 rfl rfl (Ug rfl) (Jc rfl) <| U7 rfl rfl rfl <| Q3 <| Q1 <| Q2 <| Q2 ?_
 refine Ja (fun (v1 : Bool) => ⟨[(2, .v (.one (.ptr 0 0))), (3, .v (.one (.ptr 1 0))), (50, .v (.one (Uw v1)))], [(0, .cells 48 (Uy a0)), (1, .cells 48 (Uy a1))], [], 2, 156, []⟩) (fun (v1 : Bool) => (cond v1
     (some false)
     (Option.bind (cond ((a0.ctors.length : Int) != (a1.ctors.length : Int))
     (some true)
     (cond ((a0.funs.length : Int) != (a1.funs.length : Int))
     (some true)
     (Option.bind (WJ a0.rcr a1.rcr) fun (x6 : Bool) =>
   some (!x6)))) (fun (v3 : Bool) => cond v3
     (some false)
     (Option.bind (Qv (Gw a0 a1) QH 0) (Sum.elim (fun (o5 : Unit) => Option.bind (Qv (KT a0 a1) QH 0) (Sum.elim (fun (o6 : Unit) => some true) (fun o => some o))) (fun o => some o)))))) = some r) ?_ ?_
 refine Qb h0 (fun w1_ h1 h0 => ?_)
 refine Q0 <| U5 rfl rfl rfl (Q4 fo_48_0 rfl) <| U5 rfl rfl rfl (Q7 Yx rfl rfl rfl) <| U5 rfl rfl rfl (Q4 fo_48_0 rfl) <| U5 rfl rfl rfl (Q7 Yx rfl rfl rfl) <| U5 rfl rfl rfl (Q5 rfl rfl rfl) <| U6 rfl rfl rfl ?_
 refine QV (d := 14) (c := (a0.kind != a1.kind)) rfl (fun c2 => ?_) (fun c2 => ?_)
 replace h1 := Qm c2 h1
 refine Q8 rfl rfl <| Q8 rfl rfl <| Q8 rfl rfl <| Q8 rfl rfl <| Q8 rfl rfl <| U5 rfl rfl rfl (Qo rfl rfl) <| U6 rfl rfl rfl <| Q8 rfl rfl <| Q8 rfl rfl <| Q8 rfl rfl <| Q8 rfl rfl <| Q8 rfl rfl <| U5 rfl rfl rfl (Qo rfl rfl) <| U6 rfl rfl rfl ?_
 refine Q8 rfl rfl <| Q8 rfl rfl <| Q8 rfl rfl <| Q8 rfl rfl <| Q8 rfl rfl <| U5 rfl rfl rfl (Qo rfl rfl) <| U6 rfl rfl rfl <| Q8 rfl rfl <| Q8 rfl rfl <| Q8 rfl rfl <| Q8 rfl rfl <| Q8 rfl rfl <| Q8 rfl rfl <| U5 rfl rfl rfl (Qo rfl rfl) ?_
 refine U6 rfl rfl rfl <| Q8 rfl rfl <| Q8 rfl rfl <| Q8 rfl rfl <| Q8 rfl rfl <| Q8 rfl rfl <| Q8 rfl rfl <| U5 rfl rfl rfl (Qo rfl rfl) <| Q3 ?_
 have e := U3 h1; subst e
 exact Qr true (Qf (U1 rfl (U1 rfl (U1 rfl U0))) (Um rfl (Um rfl Ul)) Uh rfl (Nat.zero_le _) rfl rfl rfl (UE rfl rfl (UE rfl rfl UB)) rfl rfl) h0
 replace h1 := Qn c2 h1
 refine U5 rfl rfl rfl (Q4 Z6 rfl) <| U5 rfl rfl rfl (Q7 JG rfl rfl rfl) <| U5 rfl rfl rfl (Q4 Z6 rfl) <| U5 rfl rfl rfl (Q7 JG rfl rfl rfl) <| U5 rfl rfl rfl (Xm rfl rfl) <| U5 rfl rfl rfl (QG rfl rfl) <| U6 rfl rfl rfl ?_
 refine QV (d := 21) (c := (!(a0.name == a1.name))) rfl (fun c3 => ?_) (fun c3 => ?_)
 replace h1 := Qm c3 h1
 refine Q8 rfl rfl <| Q8 rfl rfl <| Q8 rfl rfl <| Q8 rfl rfl <| Q8 rfl rfl <| U5 rfl rfl rfl (Qo rfl rfl) <| U6 rfl rfl rfl <| Q8 rfl rfl <| Q8 rfl rfl <| Q8 rfl rfl <| Q8 rfl rfl <| Q8 rfl rfl <| U5 rfl rfl rfl (Qo rfl rfl) <| U6 rfl rfl rfl ?_
 refine Q8 rfl rfl <| Q8 rfl rfl <| Q8 rfl rfl <| Q8 rfl rfl <| Q8 rfl rfl <| Q8 rfl rfl <| U5 rfl rfl rfl (Qo rfl rfl) <| U6 rfl rfl rfl <| Q8 rfl rfl <| Q8 rfl rfl <| Q8 rfl rfl <| Q8 rfl rfl <| Q8 rfl rfl <| Q8 rfl rfl ?_
 refine U5 rfl rfl rfl (Qo rfl rfl) <| Q3 ?_
 have e := U3 h1; subst e
 exact Qr true (Qf (U1 rfl (U1 rfl (U1 rfl U0))) (Um rfl (Um rfl Ul)) Uh rfl (Nat.zero_le _) rfl rfl rfl (UE rfl rfl (UE rfl rfl UB)) rfl rfl) h0
 replace h1 := Qn c3 h1
 refine U5 rfl rfl rfl (Q4 fo_48_2 rfl) <| U5 rfl rfl rfl (Q7 Yx rfl rfl rfl) <| U5 rfl rfl rfl (Q4 fo_48_2 rfl) <| U5 rfl rfl rfl (Q7 Yx rfl rfl rfl) <| U5 rfl rfl rfl (Q5 rfl rfl rfl) <| U5 rfl rfl rfl (QG rfl rfl) <| U6 rfl rfl rfl ?_
 refine QV (d := 28) (c := (a0.params != a1.params)) rfl (fun c4 => ?_) (fun c4 => ?_)
 replace h1 := Qm c4 h1
 refine Q8 rfl rfl <| Q8 rfl rfl <| Q8 rfl rfl <| Q8 rfl rfl <| Q8 rfl rfl <| U5 rfl rfl rfl (Qo rfl rfl) <| U6 rfl rfl rfl <| Q8 rfl rfl <| Q8 rfl rfl <| Q8 rfl rfl <| Q8 rfl rfl <| Q8 rfl rfl <| Q8 rfl rfl <| U5 rfl rfl rfl (Qo rfl rfl) ?_
 refine U6 rfl rfl rfl <| Q8 rfl rfl <| Q8 rfl rfl <| Q8 rfl rfl <| Q8 rfl rfl <| Q8 rfl rfl <| Q8 rfl rfl <| U5 rfl rfl rfl (Qo rfl rfl) <| Q3 ?_
 have e := U3 h1; subst e
 exact Qr true (Qf (U1 rfl (U1 rfl (U1 rfl U0))) (Um rfl (Um rfl Ul)) Uh rfl (Nat.zero_le _) rfl rfl rfl (UE rfl rfl (UE rfl rfl UB)) rfl rfl) h0
 replace h1 := Qn c4 h1
 refine U5 rfl rfl rfl (Q4 fo_48_5 rfl) <| U5 rfl rfl rfl (Q7 Yx rfl rfl rfl) <| U5 rfl rfl rfl (Q4 fo_48_5 rfl) <| U5 rfl rfl rfl (Q7 Yx rfl rfl rfl) <| U5 rfl rfl rfl (Q5 rfl rfl rfl) <| U5 rfl rfl rfl (QG rfl rfl) <| U6 rfl rfl rfl ?_
 refine QV (d := 35) (c := (a0.fixed != a1.fixed)) rfl (fun c5 => ?_) (fun c5 => ?_)
 replace h1 := Qm c5 h1
 refine Q8 rfl rfl <| Q8 rfl rfl <| Q8 rfl rfl <| Q8 rfl rfl <| Q8 rfl rfl <| Q8 rfl rfl <| U5 rfl rfl rfl (Qo rfl rfl) <| U6 rfl rfl rfl <| Q8 rfl rfl <| Q8 rfl rfl <| Q8 rfl rfl <| Q8 rfl rfl <| Q8 rfl rfl <| Q8 rfl rfl ?_
 refine U5 rfl rfl rfl (Qo rfl rfl) <| Q3 ?_
 have e := U3 h1; subst e
 exact Qr true (Qf (U1 rfl (U1 rfl (U1 rfl U0))) (Um rfl (Um rfl Ul)) Uh rfl (Nat.zero_le _) rfl rfl rfl (UE rfl rfl (UE rfl rfl UB)) rfl rfl) h0
 replace h1 := Qn c5 h1
 refine U5 rfl rfl rfl (Q4 GY rfl) <| U5 rfl rfl rfl (Qq Jh rfl rfl rfl rfl) <| U5 rfl rfl rfl (Q4 GY rfl) <| U5 rfl rfl rfl (Qq Jh rfl rfl rfl rfl) ?_
 refine Qb h1 (fun x6 hx6 h1 => ?_)
 refine Q9 rfl rfl (Ug rfl) (Ql (Gl a0.ty a1.ty x6 hx6) rfl (.cons (.agg (.cons (.d _) (.cons (.d _) (.cons (.d _) (.cons (.d _) (.cons (.d _) .nil)))))) (.cons (.agg (.cons (.d _) (.cons (.d _) (.cons (.d _) (.cons (.d _) (.cons (.d _) .nil)))))) .nil))) <| U5 rfl rfl rfl (J9 rfl) <| U5 rfl rfl rfl (QG rfl rfl) <| U6 rfl rfl rfl ?_
 refine QV (d := 43) (c := (!x6)) rfl (fun c7 => ?_) (fun c7 => ?_)
 replace h1 := Qm c7 h1
 refine Q8 rfl rfl <| Q8 rfl rfl <| Q8 rfl rfl <| Q8 rfl rfl <| Q8 rfl rfl <| Q8 rfl rfl <| U5 rfl rfl rfl (Qo rfl rfl) <| Q3 ?_
 have e := U3 h1; subst e
 exact Qr true (Qf (U1 rfl (U1 rfl (U1 rfl U0))) (Um rfl (Um rfl Ul)) Uh rfl (Nat.zero_le _) rfl rfl rfl (UE rfl rfl (UE rfl rfl UB)) rfl rfl) h0
 replace h1 := Qn c7 h1
 refine U5 rfl rfl rfl (Q4 KD rfl) <| U5 rfl rfl rfl (Qq Jh rfl rfl rfl rfl) <| U5 rfl rfl rfl (Q4 KD rfl) <| U5 rfl rfl rfl (Qq Jh rfl rfl rfl rfl) ?_
 refine Qb h1 (fun x8 hx8 h1 => ?_)
 refine Q9 rfl rfl (Ug rfl) (Ql (Gl a0.value a1.value x8 hx8) rfl (.cons (.agg (.cons (.d _) (.cons (.d _) (.cons (.d _) (.cons (.d _) (.cons (.d _) .nil)))))) (.cons (.agg (.cons (.d _) (.cons (.d _) (.cons (.d _) (.cons (.d _) (.cons (.d _) .nil)))))) .nil))) <| U5 rfl rfl rfl (J9 rfl) <| U5 rfl rfl rfl (QG rfl rfl) <| Q3 ?_
 have e := U3 h1; subst e
 exact Qr (!x8) (Qf (U1 rfl (U1 rfl (U1 rfl U0))) (Um rfl (Um rfl Ul)) Uh rfl (Nat.zero_le _) rfl rfl rfl (UE rfl rfl (UE rfl rfl UB)) rfl rfl) h0
 intro v1 h0
 refine Q1 ?_
 refine Qe (b := v1) rfl (fun c9 => ?_) (fun c9 => ?_)
 replace h0 := Qm c9 h0
 refine Q2 <| Q0 <| U7 rfl rfl rfl <| Q3 <| Q1 <| Qz ?_
 have e := U3 h0; subst e
 exact QK (fun _ _ h => h) rfl (Qk rfl .nil) (.cons (.one (.d _)) .nil)
 replace h0 := Qn c9 h0
 refine Qg <| Q1 <| Q2 <| Q2 ?_
 refine Ja (fun (v10 : Bool) => ⟨[(2, .v (.one (.ptr 0 0))), (3, .v (.one (.ptr 1 0))), (74, .v (.one (Uw v10)))], [(0, .cells 48 (Uy a0)), (1, .cells 48 (Uy a1))], [], 2, 156, []⟩) (fun (v10 : Bool) => (cond v10
     (some false)
     (Option.bind (Qv (Gw a0 a1) QH 0) (Sum.elim (fun (o12 : Unit) => Option.bind (Qv (KT a0 a1) QH 0) (Sum.elim (fun (o13 : Unit) => some true) (fun o => some o))) (fun o => some o)))) = some r) ?_ ?_
 refine Qb h0 (fun w1_ h1 h0 => ?_)
 refine Q0 <| U5 rfl rfl rfl (Q4 Yf rfl) <| U5 rfl rfl rfl (Q7 Zu rfl rfl rfl) <| U5 rfl rfl rfl (QB (α := Ctr) YU rfl (.d _)) <| U5 rfl rfl rfl (Q4 Yf rfl) <| U5 rfl rfl rfl (Q7 Zu rfl rfl rfl) <| U5 rfl rfl rfl (QB (α := Ctr) YU rfl (.d _)) <| U5 rfl rfl rfl (Q5 rfl rfl rfl) <| U6 rfl rfl rfl ?_
 refine QV (d := 58) (c := ((a0.ctors.length : Int) != (a1.ctors.length : Int))) rfl (fun c11 => ?_) (fun c11 => ?_)
 replace h1 := Qm c11 h1
 refine Q8 rfl rfl <| Q8 rfl rfl <| Q8 rfl rfl <| Q8 rfl rfl <| Q8 rfl rfl <| Q8 rfl rfl <| Q8 rfl rfl <| U5 rfl rfl rfl (Qo rfl rfl) <| U6 rfl rfl rfl <| Q8 rfl rfl <| Q8 rfl rfl <| Q8 rfl rfl <| Q8 rfl rfl <| Q8 rfl rfl ?_
 refine Q8 rfl rfl <| U5 rfl rfl rfl (Qo rfl rfl) <| Q3 ?_
 have e := U3 h1; subst e
 exact Qr true (Qf (U1 rfl (U1 rfl (U1 rfl U0))) (Um rfl (Um rfl Ul)) Uh rfl (Nat.zero_le _) rfl rfl rfl (UE rfl rfl (UE rfl rfl UB)) rfl rfl) h0
 replace h1 := Qn c11 h1
 refine U5 rfl rfl rfl (Q4 JB rfl) <| U5 rfl rfl rfl (Q7 Yu rfl rfl rfl) <| U5 rfl rfl rfl (QB (α := Fn) Yd rfl (.d _)) <| U5 rfl rfl rfl (Q4 JB rfl) <| U5 rfl rfl rfl (Q7 Yu rfl rfl rfl) <| U5 rfl rfl rfl (QB (α := Fn) Yd rfl (.d _)) <| U5 rfl rfl rfl (Q5 rfl rfl rfl) <| U5 rfl rfl rfl (QG rfl rfl) <| U6 rfl rfl rfl ?_
 refine QV (d := 67) (c := ((a0.funs.length : Int) != (a1.funs.length : Int))) rfl (fun c12 => ?_) (fun c12 => ?_)
 replace h1 := Qm c12 h1
 refine Q8 rfl rfl <| Q8 rfl rfl <| Q8 rfl rfl <| Q8 rfl rfl <| Q8 rfl rfl <| Q8 rfl rfl <| U5 rfl rfl rfl (Qo rfl rfl) <| Q3 ?_
 have e := U3 h1; subst e
 exact Qr true (Qf (U1 rfl (U1 rfl (U1 rfl U0))) (Um rfl (Um rfl Ul)) Uh rfl (Nat.zero_le _) rfl rfl rfl (UE rfl rfl (UE rfl rfl UB)) rfl rfl) h0
 replace h1 := Qn c12 h1
 refine U5 rfl rfl rfl (Q4 YQ rfl) <| U5 rfl rfl rfl (Qq ag_45 rfl rfl rfl rfl) <| U5 rfl rfl rfl (Q4 YQ rfl) <| U5 rfl rfl rfl (Qq ag_45 rfl rfl rfl rfl) ?_
 refine Qb h1 (fun x13 hx13 h1 => ?_)
 refine Q9 rfl rfl (Ug rfl) (Ql (m58_ok a0.rcr a1.rcr x13 hx13) rfl (.cons (.agg (.cons (.d _) (.cons (.d _) (.cons (.d _) (.cons (.d _) (.cons (.d _) (.cons (.d _) (.cons (.d _) .nil)))))))) (.cons (.agg (.cons (.d _) (.cons (.d _) (.cons (.d _) (.cons (.d _) (.cons (.d _) (.cons (.d _) (.cons (.d _) .nil)))))))) .nil))) <| U5 rfl rfl rfl (J9 rfl) <| U5 rfl rfl rfl (QG rfl rfl) <| Q3 ?_
 have e := U3 h1; subst e
 exact Qr (!x13) (Qf (U1 rfl (U1 rfl (U1 rfl U0))) (Um rfl (Um rfl Ul)) Uh rfl (Nat.zero_le _) rfl rfl rfl (UE rfl rfl (UE rfl rfl UB)) rfl rfl) h0
 intro v10 h0
 refine Q1 ?_
 refine Qe (b := v10) rfl (fun c14 => ?_) (fun c14 => ?_)
 replace h0 := Qm c14 h0
 refine Q2 <| Q0 <| U7 rfl rfl rfl <| Q3 <| Q1 <| Qz ?_
 have e := U3 h0; subst e
 exact QK (fun _ _ h => h) rfl (Qk rfl .nil) (.cons (.one (.d _)) .nil)
 replace h0 := Qn c14 h0
 refine Qg <| Q1 <| Q2 <| Q2 <| Q0 <| U7 rfl rfl rfl <| Q3 <| Q1 <| Qc ?_
 refine QF 0 (fun (o15 : Unit) => ⟨[(2, .v (.one (.ptr 0 0))), (3, .v (.one (.ptr 1 0)))], [(0, .cells 48 (Uy a0)), (1, .cells 48 (Uy a1))], [], 2, 156, []⟩) (fun (o15 : Unit) => (Option.bind (Qv (KT a0 a1) QH 0) (Sum.elim (fun (o16 : Unit) => some true) (fun o => some o))) = some r) ?_ ?_
 refine Qb h0 (fun o16 hl1 h0 => ?_)
 refine QE (Gw a0 a1) (fun s1 => ⟨[(2, .v (.one (.ptr 0 0))), (3, .v (.one (.ptr 1 0))), (5, .v (.one (Uv s1)))], [(0, .cells 48 (Uy a0)), (1, .cells 48 (Uy a1))], [], 2, 156, []⟩) 0 o16 (Qf (U1 rfl (U1 rfl (U1 rfl U0))) (Um rfl (Um rfl Ul)) Uh rfl (Nat.zero_le _) rfl rfl rfl (UE rfl rfl (UE rfl rfl UB)) rfl rfl) hl1 (fun s1 n1 oo1 h1 ho1 => ?_)
 unfold Gw at h1
 refine Q2 <| Q2 <| Q0 <| U6 rfl rfl rfl <| U5 rfl rfl rfl (Q4 Yf rfl) <| U5 rfl rfl rfl (Q7 Zu rfl rfl rfl) <| U5 rfl rfl rfl (QB (α := Ctr) YU rfl (.d _)) <| U5 rfl rfl rfl (Q5 rfl rfl rfl) <| Q3 <| Q1 ?_
 refine Qe (b := (decide (s1 < (a0.ctors.length : Int)))) rfl (fun c17 => ?_) (fun c17 => ?_)
 replace h1 := Qm c17 h1
 refine Qg <| Q1 <| Q2 <| Qc <| Q2 ?_
 refine Ja (fun (v18 : Bool) => ⟨[(2, .v (.one (.ptr 0 0))), (3, .v (.one (.ptr 1 0))), (5, .v (.one (Uv s1))), (110, .v (.one (Uw v18)))], [(0, .cells 48 (Uy a0)), (1, .cells 48 (Uy a1))], [], 2, 156, []⟩) (fun (v18 : Bool) => (cond v18
     (some (.done (.inr false)))
     (some (.next (J1 (s1 + 1))))) = some oo1) ?_ ?_
 refine Qb h1 (fun w2_ h2 h1 => ?_)
 refine JO [] [] mixed (by kernel_rfl) (by kernel_rfl) (by kernel_rfl) ?_
 refine RunA.rd rfl rfl rfl (Q6 (Q4 Yf rfl)) rfl <| RunA.rd rfl rfl rfl (Q6 (Q7 Zu rfl rfl rfl)) rfl <| RunA.rd rfl rfl rfl (Q6 (J0 rfl)) rfl ?_
 refine Qb h2 (fun x19 hx19 h2 => ?_)
 refine RunA.rd rfl rfl rfl (Q6 (Qi (α := Ctr) YU rfl (.d _) rfl hx19)) rfl <| RunA.rd rfl rfl rfl (Q6 (Jj GX rfl)) rfl <| RunA.rd rfl rfl rfl (Q6 (QI JG rfl rfl)) rfl <| RunA.rd rfl rfl rfl (Q6 (Q4 Yf rfl)) rfl <| RunA.rd rfl rfl rfl (Q6 (Q7 Zu rfl rfl rfl)) rfl <| RunA.rd rfl rfl rfl (Q6 (J0 rfl)) rfl ?_
 refine Qb h2 (fun x20 hx20 h2 => ?_)
 refine RunA.rd rfl rfl rfl (Q6 (Qi (α := Ctr) YU rfl (.d _) rfl hx20)) rfl <| RunA.rd rfl rfl rfl (Q6 (Jj GX rfl)) rfl <| RunA.rd rfl rfl rfl (Q6 (QI JG rfl rfl)) rfl <| RunA.rd rfl rfl rfl (Q6 (Xm rfl rfl)) rfl ?_
 refine RunA.case (c := (!(x19.name == x20.name))) rfl rfl rfl (Q6 (J0 rfl)) rfl (fun c21 => ?_) (fun c21 => ?_)
 replace h2 := Qm c21 h2
 refine RunA.no rfl rfl rfl rfl <| RunA.no rfl rfl rfl rfl <| RunA.no rfl rfl rfl rfl <| RunA.no rfl rfl rfl rfl <| RunA.no rfl rfl rfl rfl <| RunA.no rfl rfl rfl rfl <| RunA.no rfl rfl rfl rfl <| RunA.no rfl rfl rfl rfl <| RunA.no rfl rfl rfl rfl <| RunA.no rfl rfl rfl rfl <| RunA.no rfl rfl rfl rfl <| RunA.no rfl rfl rfl rfl <| RunA.no rfl rfl rfl rfl <| RunA.no rfl rfl rfl rfl ?_
 refine RunA.rd rfl rfl rfl (Q6 (Qo rfl rfl)) rfl ?_
 refine RunA.nil ⟨?ex, _, _, rfl, ?_⟩
 case ex => exact trivial
 have e := U3 h2; subst e
 exact Qr true (Qf (U1 rfl (U1 rfl (U1 rfl (U1 rfl U0)))) (Um rfl (Um rfl Ul)) Uh rfl (Nat.zero_le _) rfl rfl rfl (UE rfl rfl (UE rfl rfl UB)) rfl rfl) h1
 replace h2 := Qn c21 h2
 refine RunA.rd rfl rfl rfl (Q6 (Q4 Yf rfl)) rfl <| RunA.rd rfl rfl rfl (Q6 (Q7 Zu rfl rfl rfl)) rfl <| RunA.rd rfl rfl rfl (Q6 (J0 rfl)) rfl ?_
 refine Qb h2 (fun x22 hx22 h2 => ?_)
 refine RunA.rd rfl rfl rfl (Q6 (Qi (α := Ctr) YU rfl (.d _) rfl hx22)) rfl <| RunA.rd rfl rfl rfl (Q6 (Jj GW rfl)) rfl <| RunA.rd rfl rfl rfl (Q6 (QY Jh rfl rfl rfl)) rfl <| RunA.rd rfl rfl rfl (Q6 (Q4 Yf rfl)) rfl <| RunA.rd rfl rfl rfl (Q6 (Q7 Zu rfl rfl rfl)) rfl <| RunA.rd rfl rfl rfl (Q6 (J0 rfl)) rfl ?_
 refine Qb h2 (fun x23 hx23 h2 => ?_)
 refine RunA.rd rfl rfl rfl (Q6 (Qi (α := Ctr) YU rfl (.d _) rfl hx23)) rfl <| RunA.rd rfl rfl rfl (Q6 (Jj GW rfl)) rfl <| RunA.rd rfl rfl rfl (Q6 (QY Jh rfl rfl rfl)) rfl ?_
 refine Qb h2 (fun x24 hx24 h2 => ?_)
 refine RunA.rd rfl rfl rfl (Ql (Gl x22.ty x23.ty x24 hx24) rfl (.cons (.agg (.cons (.d _) (.cons (.d _) (.cons (.d _) (.cons (.d _) (.cons (.d _) .nil)))))) (.cons (.agg (.cons (.d _) (.cons (.d _) (.cons (.d _) (.cons (.d _) (.cons (.d _) .nil)))))) .nil))) rfl <| RunA.rd rfl rfl rfl (Q6 (J9 rfl)) rfl <| RunA.rd rfl rfl rfl (Q6 (QG rfl rfl)) rfl ?_
 refine RunA.nil ⟨?ex, _, _, rfl, ?_⟩
 case ex => exact trivial
 have e := U3 h2; subst e
 exact Qr (!x24) (Qf (U1 rfl (U1 rfl (U1 rfl (U1 rfl U0)))) (Um rfl (Um rfl Ul)) Uh rfl (Nat.zero_le _) rfl rfl rfl (UE rfl rfl (UE rfl rfl UB)) rfl rfl) h1
 intro v18 h1
 refine Q1 ?_
 refine Qe (b := v18) rfl (fun c25 => ?_) (fun c25 => ?_)
 replace h1 := Qm c25 h1
 refine Q2 <| Q0 <| U7 rfl rfl rfl <| Q3 <| Q1 <| Qz ?_
 have e := U3 h1; subst e
 have e_ : _ = _ := ho1
 subst e_
 try dsimp only [Sum.elim_inl, Sum.elim_inr] at h0
 have e := U3 h0; subst e
 exact QK (fun _ _ h => h) rfl (Qk rfl .nil) (.cons (.one (.d _)) .nil)
 replace h1 := Qn c25 h1
 refine Qg <| Qh <| Q1 <| Q0 <| U6 rfl rfl rfl <| U5 rfl rfl rfl (Q5 rfl rfl rfl) <| U7 rfl rfl rfl <| Q3 ?_
 have e := U3 h1; subst e
 refine QA (J1 (s1 + 1)) (Qf (U1 rfl (U1 rfl (U1 rfl U0))) (Um rfl (Um rfl Ul)) Uh rfl (Nat.zero_le _) rfl rfl rfl (UE rfl rfl (UE rfl rfl UB)) rfl rfl) ho1
 replace h1 := Qn c17 h1
 refine QJ <| Qd <| Qd ?_
 have e := U3 h1; subst e
 have e_ : _ = _ := ho1
 subst e_
 exact QD () (Qf (U1 rfl (U1 rfl U0)) (Um rfl (Um rfl Ul)) Uh rfl (Nat.zero_le _) rfl rfl rfl (UE rfl rfl (UE rfl rfl UB)) rfl rfl) h0
 intro o15 h0
 refine Qu <| Q1 <| Q2 <| Q2 <| Q0 <| U7 rfl rfl rfl <| Q3 <| Q1 <| Qc ?_
 refine QF 2 (fun (o26 : Unit) => ⟨[], [(0, .cells 48 (Uy a0)), (1, .cells 48 (Uy a1))], [], 2, 156, []⟩) (fun (o26 : Unit) => (some true) = some r) ?_ ?_
 refine Qb h0 (fun o27 hl1 h0 => ?_)
 refine QE (KT a0 a1) (fun s1 => ⟨[(2, .v (.one (.ptr 0 0))), (3, .v (.one (.ptr 1 0))), (6, .v (.one (Uv s1)))], [(0, .cells 48 (Uy a0)), (1, .cells 48 (Uy a1))], [], 2, 156, []⟩) 0 o27 (Qf (U1 rfl (U1 rfl (U1 rfl U0))) (Um rfl (Um rfl Ul)) Uh rfl (Nat.zero_le _) rfl rfl rfl (UE rfl rfl (UE rfl rfl UB)) rfl rfl) hl1 (fun s1 n1 oo1 h1 ho1 => ?_)
 unfold KT at h1
 refine Q2 <| Q2 <| Q0 <| U6 rfl rfl rfl <| U5 rfl rfl rfl (Q4 JB rfl) <| U5 rfl rfl rfl (Q7 Yu rfl rfl rfl) <| U5 rfl rfl rfl (QB (α := Fn) Yd rfl (.d _)) <| U5 rfl rfl rfl (Q5 rfl rfl rfl) <| Q3 <| Q1 ?_
 refine Qe (b := (decide (s1 < (a0.funs.length : Int)))) rfl (fun c28 => ?_) (fun c28 => ?_)
 replace h1 := Qm c28 h1
 refine Qg <| Q1 <| Q2 <| Qc <| Q2 ?_
 refine XC.pairRun [10, 11, 12, 13] [[], [10], [10, 11], [10, 11, 12], [10, 11, 12, 13], [11]] [(0, 1), (0, 2), (1, 1), (1, 2), (2, 1), (2, 2), (3, 1), (3, 2), (4, 1), (4, 2), (5, 1), (5, 2), (5, 3), (6, 1), (6, 2), (6, 3), (7, 1), (7, 2), (7, 3), (8, 1), (8, 2), (8, 3), (9, 1), (9, 2), (9, 3)] 5 10 11 [0, 1, 2, 3, 4, 5, 6, 7, 8, 9] mixed (by kernel_rfl) (by kernel_rfl) (by kernel_rfl) (by kernel_rfl) (by kernel_rfl) (by kernel_rfl) rfl (by kernel_rfl) ?_
 refine RunA.rd rfl rfl rfl (Q6 (Q4 JB rfl)) rfl <| RunA.rd rfl rfl rfl (Q6 (Q7 Yu rfl rfl rfl)) rfl <| RunA.rd rfl rfl rfl (Q6 (J0 rfl)) rfl ?_
 refine Qb h1 (fun x29 hx29 h1 => ?_)
 refine RunA.rd rfl rfl rfl (Q6 (Qi (α := Fn) Yd rfl (.d _) rfl hx29)) rfl <| RunA.rd rfl rfl rfl (Q6 (QN (x29 : Fn) Zt rfl)) rfl <| RunA.rd rfl rfl rfl (Q6 (Q4 JB rfl)) rfl <| RunA.rd rfl rfl rfl (Q6 (Q7 Yu rfl rfl rfl)) rfl <| RunA.rd rfl rfl rfl (Q6 (J0 rfl)) rfl ?_
 refine Qb h1 (fun x30 hx30 h1 => ?_)
 refine RunA.rd rfl rfl rfl (Q6 (Qi (α := Fn) Yd rfl (.d _) rfl hx30)) rfl <| RunA.rd rfl rfl rfl (Q6 (QN (x30 : Fn) Zt rfl)) rfl <| RunA.eff rfl rfl rfl (QC W9 rfl) rfl <| RunA.eff rfl rfl rfl (QC W9 rfl) rfl <| RunA.eff rfl rfl rfl (Jo (x29 : Fn) Zt rfl rfl rfl rfl rfl) rfl <| RunA.eff rfl rfl rfl (Jo (x30 : Fn) Zt rfl rfl rfl rfl rfl) rfl ?_
 refine RunA.nil ⟨[_], ⟨⟨_, _, rfl, rfl, _, _, rfl, rfl, rfl, .inl ⟨rfl, _, (Q6 (Q4 JB rfl)), .inr ⟨rfl, rfl⟩⟩⟩, ⟨⟨_, _, rfl, rfl, _, _, rfl, rfl, rfl, .inl ⟨rfl, _, (Q6 (Q4 JB rfl)), .inr ⟨rfl, rfl⟩⟩⟩, ⟨⟨_, _, rfl, rfl, _, _, rfl, rfl, rfl, .inl ⟨rfl, _, (Q6 (Q7 Yu rfl rfl rfl)), .inr ⟨rfl, rfl⟩⟩⟩, ⟨⟨_, _, rfl, rfl, _, _, rfl, rfl, rfl, .inl ⟨rfl, _, (Q6 (Q7 Yu rfl rfl rfl)), .inr ⟨rfl, rfl⟩⟩⟩, ⟨⟨_, _, rfl, rfl, _, _, rfl, rfl, rfl, .inl ⟨rfl, _, (Q6 (J0 rfl)), .inr ⟨rfl, rfl⟩⟩⟩, ⟨⟨_, _, rfl, rfl, _, _, rfl, rfl, rfl, .inl ⟨rfl, _, (Q6 (J0 rfl)), .inr ⟨rfl, rfl⟩⟩⟩, ⟨⟨_, _, rfl, rfl, _, _, rfl, rfl, rfl, .inl ⟨rfl, _, (Q6 (Qi (α := Fn) Yd rfl (.d _) rfl hx29)), .inr ⟨rfl, rfl⟩⟩⟩, ⟨⟨_, _, rfl, rfl, _, _, rfl, rfl, rfl, .inl ⟨rfl, _, (Q6 (Qi (α := Fn) Yd rfl (.d _) rfl hx29)), .inr ⟨rfl, rfl⟩⟩⟩, ⟨⟨_, _, rfl, rfl, _, _, rfl, rfl, rfl, .inl ⟨rfl, _, (Q6 (QN (x29 : Fn) Zt rfl)), .inr ⟨rfl, rfl⟩⟩⟩, ⟨⟨_, _, rfl, rfl, _, _, rfl, rfl, rfl, .inl ⟨rfl, _, (Q6 (QN (x29 : Fn) Zt rfl)), .inr ⟨rfl, rfl⟩⟩⟩, ⟨⟨_, _, rfl, rfl, _, _, rfl, rfl, rfl, .inl ⟨rfl, _, (Q6 (Q4 JB rfl)), .inr ⟨rfl, rfl⟩⟩⟩, ⟨⟨_, _, rfl, rfl, _, _, rfl, rfl, rfl, .inl ⟨rfl, _, (Q6 (Q4 JB rfl)), .inr ⟨rfl, rfl⟩⟩⟩, ⟨⟨_, _, rfl, rfl, _, _, rfl, rfl, rfl, .inl ⟨rfl, _, (Q6 (Q4 JB rfl)), .inr ⟨rfl, rfl⟩⟩⟩, ⟨⟨_, _, rfl, rfl, _, _, rfl, rfl, rfl, .inl ⟨rfl, _, (Q6 (Q7 Yu rfl rfl rfl)), .inr ⟨rfl, rfl⟩⟩⟩, ⟨⟨_, _, rfl, rfl, _, _, rfl, rfl, rfl, .inl ⟨rfl, _, (Q6 (Q7 Yu rfl rfl rfl)), .inr ⟨rfl, rfl⟩⟩⟩, ⟨⟨_, _, rfl, rfl, _, _, rfl, rfl, rfl, .inl ⟨rfl, _, (Q6 (Q7 Yu rfl rfl rfl)), .inr ⟨rfl, rfl⟩⟩⟩, ⟨⟨_, _, rfl, rfl, _, _, rfl, rfl, rfl, .inl ⟨rfl, _, (Q6 (J0 rfl)), .inr ⟨rfl, rfl⟩⟩⟩, ⟨⟨_, _, rfl, rfl, _, _, rfl, rfl, rfl, .inl ⟨rfl, _, (Q6 (J0 rfl)), .inr ⟨rfl, rfl⟩⟩⟩, ⟨⟨_, _, rfl, rfl, _, _, rfl, rfl, rfl, .inl ⟨rfl, _, (Q6 (J0 rfl)), .inr ⟨rfl, rfl⟩⟩⟩, ⟨⟨_, _, rfl, rfl, _, _, rfl, rfl, rfl, .inl ⟨rfl, _, (Q6 (Qi (α := Fn) Yd rfl (.d _) rfl hx30)), .inr ⟨rfl, rfl⟩⟩⟩, ⟨⟨_, _, rfl, rfl, _, _, rfl, rfl, rfl, .inl ⟨rfl, _, (Q6 (Qi (α := Fn) Yd rfl (.d _) rfl hx30)), .inr ⟨rfl, rfl⟩⟩⟩, ⟨⟨_, _, rfl, rfl, _, _, rfl, rfl, rfl, .inl ⟨rfl, _, (Q6 (Qi (α := Fn) Yd rfl (.d _) rfl hx30)), .inr ⟨rfl, rfl⟩⟩⟩, ⟨⟨_, _, rfl, rfl, _, _, rfl, rfl, rfl, .inl ⟨rfl, _, (Q6 (QN (x30 : Fn) Zt rfl)), .inr ⟨rfl, rfl⟩⟩⟩, ⟨⟨_, _, rfl, rfl, _, _, rfl, rfl, rfl, .inl ⟨rfl, _, (Q6 (QN (x30 : Fn) Zt rfl)), .inr ⟨rfl, rfl⟩⟩⟩, ⟨⟨_, _, rfl, rfl, _, _, rfl, rfl, rfl, .inl ⟨rfl, _, (Q6 (QN (x30 : Fn) Zt rfl)), .inr ⟨rfl, rfl⟩⟩⟩, trivial⟩⟩⟩⟩⟩⟩⟩⟩⟩⟩⟩⟩⟩⟩⟩⟩⟩⟩⟩⟩⟩⟩⟩⟩⟩, ⟨_, ⟨_, _, _, _, _, _, _, _, _, _, _, _, 2, _, rfl, rfl, W9, rfl, W9, rfl, rfl, rfl, rfl, rfl, rfl, rfl, rfl, rfl, rfl, rfl, rfl, rfl⟩, ⟨⟨_, _, rfl, rfl, rfl, .inl ⟨rfl, Q4 JB rfl⟩⟩, ⟨⟨_, _, rfl, rfl, rfl, .inl ⟨rfl, Q7 Yu rfl rfl rfl⟩⟩, ⟨⟨_, _, rfl, rfl, rfl, .inl ⟨rfl, J0 rfl⟩⟩, ⟨⟨_, _, rfl, rfl, rfl, .inl ⟨rfl, Qi (α := Fn) Yd rfl (.d _) rfl hx29⟩⟩, ⟨⟨_, _, rfl, rfl, rfl, .inl ⟨rfl, QN (x29 : Fn) Zt rfl⟩⟩, ⟨⟨_, _, rfl, rfl, rfl, .inl ⟨rfl, Q4 JB rfl⟩⟩, ⟨⟨_, _, rfl, rfl, rfl, .inl ⟨rfl, Q7 Yu rfl rfl rfl⟩⟩, ⟨⟨_, _, rfl, rfl, rfl, .inl ⟨rfl, J0 rfl⟩⟩, ⟨⟨_, _, rfl, rfl, rfl, .inl ⟨rfl, Qi (α := Fn) Yd rfl (.d _) rfl hx30⟩⟩, ⟨⟨_, _, rfl, rfl, rfl, .inl ⟨rfl, QN (x30 : Fn) Zt rfl⟩⟩, trivial⟩⟩⟩⟩⟩⟩⟩⟩⟩⟩⟩, _, _, rfl, ?_⟩
 refine JV (st' := ⟨[(2, .v (.one (.ptr 0 0))), (3, .v (.one (.ptr 1 0))), (6, .v (.one (Uv s1))), (7, .v (.one (.ptr 2 0))), (8, .v (.one (.ptr 3 0)))], [(0, .cells 48 (Uy a0)), (1, .cells 48 (Uy a1)), (2, .cells 89 (Uy x29)), (3, .cells 89 (Uy x30))], [], 4, 156, []⟩) (Qf (U1 rfl (U1 rfl (U1 rfl (U1 rfl (U1 rfl U0))))) (Um rfl (Um rfl (Um rfl (Um rfl Ul)))) Uh rfl (Nat.zero_le _) rfl rfl rfl (UE rfl rfl (UE rfl rfl (UE rfl rfl (UE rfl rfl UB)))) rfl rfl) <| Q1 <| Q2 ?_
 refine Ja (fun (v31 : Bool) => ⟨[(2, .v (.one (.ptr 0 0))), (3, .v (.one (.ptr 1 0))), (6, .v (.one (Uv s1))), (155, .v (.one (Uw v31)))], [(0, .cells 48 (Uy a0)), (1, .cells 48 (Uy a1)), (2, .cells 89 (Uy x29)), (3, .cells 89 (Uy x30))], [], 4, 156, []⟩) (fun (v31 : Bool) => (cond v31
     (some (.done (.inr false)))
     (some (.next (J1 (s1 + 1))))) = some oo1) ?_ ?_
 refine Qb h1 (fun w2_ h2 h1 => ?_)
 refine Q0 <| U5 rfl rfl rfl (Q4 GU rfl) <| U5 rfl rfl rfl (Q7 JG rfl rfl rfl) <| U5 rfl rfl rfl (Q4 GU rfl) <| U5 rfl rfl rfl (Q7 JG rfl rfl rfl) <| U5 rfl rfl rfl (Xm rfl rfl) <| U6 rfl rfl rfl ?_
 refine QV (d := 133) (c := (!(x29.name == x30.name))) rfl (fun c32 => ?_) (fun c32 => ?_)
 replace h2 := Qm c32 h2
 refine Q8 rfl rfl <| Q8 rfl rfl <| Q8 rfl rfl <| Q8 rfl rfl <| Q8 rfl rfl <| U5 rfl rfl rfl (Qo rfl rfl) <| U6 rfl rfl rfl <| Q8 rfl rfl <| Q8 rfl rfl <| Q8 rfl rfl <| Q8 rfl rfl <| Q8 rfl rfl <| Q8 rfl rfl <| U5 rfl rfl rfl (Qo rfl rfl) ?_
 refine U6 rfl rfl rfl <| Q8 rfl rfl <| Q8 rfl rfl <| Q8 rfl rfl <| Q8 rfl rfl <| Q8 rfl rfl <| Q8 rfl rfl <| U5 rfl rfl rfl (Qo rfl rfl) <| Q3 ?_
 have e := U3 h2; subst e
 exact Qr true (Qf (U1 rfl (U1 rfl (U1 rfl (U1 rfl U0)))) (Um rfl (Um rfl (Um rfl (Um rfl Ul)))) Uh rfl (Nat.zero_le _) rfl rfl rfl (UE rfl rfl (UE rfl rfl (UE rfl rfl (UE rfl rfl UB)))) rfl rfl) h1
 replace h2 := Qn c32 h2
 refine U5 rfl rfl rfl (Q4 fo_89_2 rfl) <| U5 rfl rfl rfl (Q7 Yx rfl rfl rfl) <| U5 rfl rfl rfl (Q4 fo_89_2 rfl) <| U5 rfl rfl rfl (Q7 Yx rfl rfl rfl) <| U5 rfl rfl rfl (Q5 rfl rfl rfl) <| U5 rfl rfl rfl (QG rfl rfl) <| U6 rfl rfl rfl ?_
 refine QV (d := 140) (c := (x29.arity != x30.arity)) rfl (fun c33 => ?_) (fun c33 => ?_)
 replace h2 := Qm c33 h2
 refine Q8 rfl rfl <| Q8 rfl rfl <| Q8 rfl rfl <| Q8 rfl rfl <| Q8 rfl rfl <| Q8 rfl rfl <| U5 rfl rfl rfl (Qo rfl rfl) <| U6 rfl rfl rfl <| Q8 rfl rfl <| Q8 rfl rfl <| Q8 rfl rfl <| Q8 rfl rfl <| Q8 rfl rfl <| Q8 rfl rfl ?_
 refine U5 rfl rfl rfl (Qo rfl rfl) <| Q3 ?_
 have e := U3 h2; subst e
 exact Qr true (Qf (U1 rfl (U1 rfl (U1 rfl (U1 rfl U0)))) (Um rfl (Um rfl (Um rfl (Um rfl Ul)))) Uh rfl (Nat.zero_le _) rfl rfl rfl (UE rfl rfl (UE rfl rfl (UE rfl rfl (UE rfl rfl UB)))) rfl rfl) h1
 replace h2 := Qn c33 h2
 refine U5 rfl rfl rfl (Q4 GT rfl) <| U5 rfl rfl rfl (Qq Jh rfl rfl rfl rfl) <| U5 rfl rfl rfl (Q4 GT rfl) <| U5 rfl rfl rfl (Qq Jh rfl rfl rfl rfl) ?_
 refine Qb h2 (fun x34 hx34 h2 => ?_)
 refine Q9 rfl rfl (Ug rfl) (Ql (Gl x29.ty x30.ty x34 hx34) rfl (.cons (.agg (.cons (.d _) (.cons (.d _) (.cons (.d _) (.cons (.d _) (.cons (.d _) .nil)))))) (.cons (.agg (.cons (.d _) (.cons (.d _) (.cons (.d _) (.cons (.d _) (.cons (.d _) .nil)))))) .nil))) <| U5 rfl rfl rfl (J9 rfl) <| U5 rfl rfl rfl (QG rfl rfl) <| U6 rfl rfl rfl ?_
 refine QV (d := 148) (c := (!x34)) rfl (fun c35 => ?_) (fun c35 => ?_)
 replace h2 := Qm c35 h2
 refine Q8 rfl rfl <| Q8 rfl rfl <| Q8 rfl rfl <| Q8 rfl rfl <| Q8 rfl rfl <| Q8 rfl rfl <| U5 rfl rfl rfl (Qo rfl rfl) <| Q3 ?_
 have e := U3 h2; subst e
 exact Qr true (Qf (U1 rfl (U1 rfl (U1 rfl (U1 rfl U0)))) (Um rfl (Um rfl (Um rfl (Um rfl Ul)))) Uh rfl (Nat.zero_le _) rfl rfl rfl (UE rfl rfl (UE rfl rfl (UE rfl rfl (UE rfl rfl UB)))) rfl rfl) h1
 replace h2 := Qn c35 h2
 refine U5 rfl rfl rfl (Q4 GS rfl) <| U5 rfl rfl rfl (Qq Gh rfl rfl rfl rfl) <| U5 rfl rfl rfl (Q4 GS rfl) <| U5 rfl rfl rfl (Qq Gh rfl rfl rfl rfl) ?_
 refine Qb h2 (fun x36 hx36 h2 => ?_)
 refine Q9 rfl rfl (Ug rfl) (Ql (m59_ok x29.tree x30.tree x36 hx36) rfl (.cons (.agg (.cons (.d _) (.cons (.d _) (.cons (.d _) (.cons (.d _) (.cons (.d _) (.cons (.d _) (.cons (.d _) (.cons (.d _) .nil))))))))) (.cons (.agg (.cons (.d _) (.cons (.d _) (.cons (.d _) (.cons (.d _) (.cons (.d _) (.cons (.d _) (.cons (.d _) (.cons (.d _) .nil))))))))) .nil))) <| U5 rfl rfl rfl (J9 rfl) <| U5 rfl rfl rfl (QG rfl rfl) <| Q3 ?_
 have e := U3 h2; subst e
 exact Qr (!x36) (Qf (U1 rfl (U1 rfl (U1 rfl (U1 rfl U0)))) (Um rfl (Um rfl (Um rfl (Um rfl Ul)))) Uh rfl (Nat.zero_le _) rfl rfl rfl (UE rfl rfl (UE rfl rfl (UE rfl rfl (UE rfl rfl UB)))) rfl rfl) h1
 intro v31 h1
 refine Q1 ?_
 refine Qe (b := v31) rfl (fun c37 => ?_) (fun c37 => ?_)
 replace h1 := Qm c37 h1
 refine Q2 <| Q0 <| U7 rfl rfl rfl <| Q3 <| Q1 <| Qz ?_
 have e := U3 h1; subst e
 have e_ : _ = _ := ho1
 subst e_
 try dsimp only [Sum.elim_inl, Sum.elim_inr] at h0
 have e := U3 h0; subst e
 exact QK (fun _ _ h => h) rfl (Qk rfl .nil) (.cons (.one (.d _)) .nil)
 replace h1 := Qn c37 h1
 refine Qg <| Qh <| Q1 <| Q0 <| U6 rfl rfl rfl <| U5 rfl rfl rfl (Q5 rfl rfl rfl) <| U7 rfl rfl rfl <| Q3 ?_
 have e := U3 h1; subst e
 refine QA (J1 (s1 + 1)) (Qf (U1 rfl (U1 rfl (U1 rfl U0))) (Um rfl (Um rfl Ul)) Uh rfl (Nat.zero_le _) rfl rfl rfl (UE rfl rfl (UE rfl rfl UB)) rfl rfl) ho1
 replace h1 := Qn c28 h1
 refine QJ <| Qd <| Qd ?_
 have e := U3 h1; subst e
 have e_ : _ = _ := ho1
 subst e_
 exact QD () (Qf U0 (Um rfl (Um rfl Ul)) Uh rfl (Nat.zero_le _) rfl rfl rfl (UE rfl rfl (UE rfl rfl UB)) rfl rfl) h0
 intro o26 h0
 refine Qu <| Q1 <| Q2 <| Q0 <| U7 rfl rfl rfl <| Q3 <| Q1 <| Qz ?_
 have e := U3 h0; subst e
 exact QK (fun _ _ h => h) rfl (Qk rfl .nil) (.cons (.one (.d _)) .nil)
def XF (a0 : List Dcl) (a1 : List Dcl) (s1 : Int) : Option (LO Int (Unit ⊕ Bool)) :=
 cond (decide (s1 < (a0.length : Int)))
   (Option.bind (Jg a0 s1) fun (x4 : Dcl) =>
 Option.bind (Jg a1 s1) fun (x5 : Dcl) =>
 Option.bind (WY x4 x5) fun (x6 : Bool) =>
 cond (!x6)
   (some (.done (.inr false)))
   (some (.next (J1 (s1 + 1)))))
   (some (.done (.inl ())))
def WF (a0 : List Dcl) (a1 : List Dcl) : Option Bool :=
 cond ((a0.length : Int) != (a1.length : Int))
   (some false)
   (Option.bind (Qv (XF a0 a1) QH 0) (Sum.elim (fun (o2 : Unit) => some true) (fun o => some o)))
set_option maxRecDepth 100000 in
set_option maxHeartbeats 2000000 in
theorem m17_ok (a0 : List Dcl) (a1 : List Dcl) (r : Bool) (h0 : WF a0 a1 = some r) : Fun Try.prog 17 [.one (Ut a0), .one (Ut a1)] (Qy [.one (Uw r)]) := by
 unfold WF at h0
 refine QS 9 27 Try.func17 rfl en_17 rfl (Ug rfl) (fun S w => ?_)
 simp only [J8]
 refine Q2 <| Q0 <| U7 rfl rfl rfl <| Q3 <| Q1 <| Q2 <| Q2 <| Q0 <| U6 rfl rfl rfl <| U5 rfl rfl rfl (QB (α := Dcl) Jm rfl (.d _)) <| U6 rfl rfl rfl <| U5 rfl rfl rfl (QB (α := Dcl) Jm rfl (.d _)) <| U5 rfl rfl rfl (Q5 rfl rfl rfl) <| Q3 ?_
 refine Q1 ?_
 refine Qe (b := ((a0.length : Int) != (a1.length : Int))) rfl (fun c1 => ?_) (fun c1 => ?_)
 replace h0 := Qm c1 h0
 refine Q2 <| Q0 <| U7 rfl rfl rfl <| Q3 <| Q1 <| Qz ?_
 have e := U3 h0; subst e
 exact QK (fun _ _ h => h) rfl (Qk rfl .nil) (.cons (.one (.d _)) .nil)
 replace h0 := Qn c1 h0
 refine Qg <| Q1 <| Q2 <| Q2 <| Q0 <| U7 rfl rfl rfl <| Q3 <| Q1 <| Qc ?_
 refine QF 0 (fun (o2 : Unit) => ⟨[], [], [], 0, 27, []⟩) (fun (o2 : Unit) => (some true) = some r) ?_ ?_
 refine Qb h0 (fun o3 hl1 h0 => ?_)
 refine QE (XF a0 a1) (fun s1 => ⟨[(0, .v (.one (Ut a0))), (1, .v (.one (Ut a1))), (5, .v (.one (Uv s1)))], [], [], 0, 27, []⟩) 0 o3 (Qf (U1 rfl (U1 rfl (U1 rfl U0))) Ul Uh rfl (Nat.zero_le _) rfl rfl rfl UB rfl rfl) hl1 (fun s1 n1 oo1 h1 ho1 => ?_)
 unfold XF at h1
 refine Q2 <| Q2 <| Q0 <| U6 rfl rfl rfl <| U6 rfl rfl rfl <| U5 rfl rfl rfl (QB (α := Dcl) Jm rfl (.d _)) <| U5 rfl rfl rfl (Q5 rfl rfl rfl) <| Q3 <| Q1 ?_
 refine Qe (b := (decide (s1 < (a0.length : Int)))) rfl (fun c4 => ?_) (fun c4 => ?_)
 replace h1 := Qm c4 h1
 refine Qg <| Q1 <| Q2 <| Qc <| Q2 ?_
 refine JO [] [] mixed (by kernel_rfl) (by kernel_rfl) (by kernel_rfl) ?_
 refine RunA.rd rfl rfl rfl (Q6 (J0 rfl)) rfl <| RunA.rd rfl rfl rfl (Q6 (J0 rfl)) rfl ?_
 refine Qb h1 (fun x5 hx5 h1 => ?_)
 refine RunA.rd rfl rfl rfl (Q6 (Qi (α := Dcl) Jm rfl (.d _) rfl hx5)) rfl <| RunA.rd rfl rfl rfl (Q6 (QN (x5 : Dcl) Jt rfl)) rfl <| RunA.rd rfl rfl rfl (Q6 (J0 rfl)) rfl <| RunA.rd rfl rfl rfl (Q6 (J0 rfl)) rfl ?_
 refine Qb h1 (fun x6 hx6 h1 => ?_)
 refine RunA.rd rfl rfl rfl (Q6 (Qi (α := Dcl) Jm rfl (.d _) rfl hx6)) rfl <| RunA.rd rfl rfl rfl (Q6 (QN (x6 : Dcl) Jt rfl)) rfl ?_
 refine Qb h1 (fun x7 hx7 h1 => ?_)
 refine RunA.rd rfl rfl rfl (Ql (m40_ok x5 x6 x7 hx7) rfl (.cons (.agg (.cons (.d _) (.cons (.d _) (.cons (.d _) (.cons (.d _) (.cons (.d _) (.cons (.d _) (.cons (.d _) (.cons (.d _) (.cons (.d _) (.cons (.d _) (.cons (.d _) (.cons (.d _) (.cons (.d _) (.cons (.d _) (.cons (.d _) (.cons (.d _) (.cons (.d _) (.cons (.d _) (.cons (.d _) (.cons (.d _) (.cons (.d _) (.cons (.d _) (.cons (.d _) .nil)))))))))))))))))))))))) (.cons (.agg (.cons (.d _) (.cons (.d _) (.cons (.d _) (.cons (.d _) (.cons (.d _) (.cons (.d _) (.cons (.d _) (.cons (.d _) (.cons (.d _) (.cons (.d _) (.cons (.d _) (.cons (.d _) (.cons (.d _) (.cons (.d _) (.cons (.d _) (.cons (.d _) (.cons (.d _) (.cons (.d _) (.cons (.d _) (.cons (.d _) (.cons (.d _) (.cons (.d _) (.cons (.d _) .nil)))))))))))))))))))))))) .nil))) rfl <| RunA.rd rfl rfl rfl (Q6 (J9 rfl)) rfl ?_
 refine RunA.nil ⟨?ex, _, _, rfl, ?_⟩
 case ex => exact trivial
 refine JV (st' := ⟨[(0, .v (.one (Ut a0))), (1, .v (.one (Ut a1))), (5, .v (.one (Uv s1))), (26, .v (.one (Uw (!x7))))], [], [], 0, 27, []⟩) (Qf (U1 rfl (U1 rfl (U1 rfl (U1 rfl U0)))) Ul Uh rfl (Nat.zero_le _) rfl rfl rfl UB rfl rfl) <| Q1 ?_
 refine Qe (b := (!x7)) rfl (fun c8 => ?_) (fun c8 => ?_)
 replace h1 := Qm c8 h1
 refine Q2 <| Q0 <| U7 rfl rfl rfl <| Q3 <| Q1 <| Qz ?_
 have e := U3 h1; subst e
 have e_ : _ = _ := ho1
 subst e_
 try dsimp only [Sum.elim_inl, Sum.elim_inr] at h0
 have e := U3 h0; subst e
 exact QK (fun _ _ h => h) rfl (Qk rfl .nil) (.cons (.one (.d _)) .nil)
 replace h1 := Qn c8 h1
 refine Qg <| Qh <| Q1 <| Q0 <| U6 rfl rfl rfl <| U5 rfl rfl rfl (Q5 rfl rfl rfl) <| U7 rfl rfl rfl <| Q3 ?_
 have e := U3 h1; subst e
 refine QA (J1 (s1 + 1)) (Qf (U1 rfl (U1 rfl (U1 rfl U0))) Ul Uh rfl (Nat.zero_le _) rfl rfl rfl UB rfl rfl) ho1
 replace h1 := Qn c4 h1
 refine QJ <| Qd <| Qd ?_
 have e := U3 h1; subst e
 have e_ : _ = _ := ho1
 subst e_
 exact QD () (Qf U0 Ul Uh rfl (Nat.zero_le _) rfl rfl rfl UB rfl rfl) h0
 intro o2 h0
 refine Qu <| Q1 <| Q2 <| Q0 <| U7 rfl rfl rfl <| Q3 <| Q1 <| Qz ?_
 have e := U3 h0; subst e
 exact QK (fun _ _ h => h) rfl (Qk rfl .nil) (.cons (.one (.d _)) .nil)
end Go.Proofs.Ytijcchddnnnmdaa
namespace Go.Proofs.Ytijcchddnnnmdaa
open Go.RowKit Go.Lib
set_option linter.unusedSimpArgs false
set_option linter.unusedVariables false
set_option linter.unusedSectionVars false
theorem YV {α : Type} {step : Int → Option (LO Int (Unit ⊕ Bool))} (l : List α) (h : l.length ≤ 900000000)
    (hin : ∀ (a : List α) (x : α) (c : List α), l = a ++ x :: c → step (a.length : Int) = some (.next (J1 ((a.length : Int) + 1)))) (hout : step (l.length : Int) = some (.done (.inl ()))) : Qv step QH 0 = some (.inl ()) := by
  obtain ⟨r, e, rfl⟩ := Jb (step := step) l (fun i (s : Unit) => i) (fun _ _ => True) (fun r => r = .inl ()) h
    (fun a x c s e _ => .inr ⟨(), hin a x c e, trivial⟩) (fun s _ => ⟨_, hout, rfl⟩) () trivial
  exact e
theorem YH (a : Int) : (a != a) = false := by simp
theorem eq_selfI (a : Int) : (a == a) = true := by simp
theorem G5 (a : UN) : (a == a) = true := by simp
theorem eq_selfb (a : Bool) : (a == a) = true := by simp
theorem m87_self (l : Lvl) (h : lvz l ≤ 900000000) : WT l l = some true := by
  have hl := Zm (fun _ : UK => 1) (fun _ => Nat.le_refl _) l.vs
  unfold lvz at h
  unfold WT
  rw [YH, YH]
  simp only [cond_false, Option.bind_some]
  rw [YV l.vs (by omega)]
  · rfl
  · intro a x c e
    unfold X7
    rw [e, QX, QR]
    simp only [cond_true, Option.bind_some, eq_selfI, Bool.and_self, Bool.not_true, cond_false]
  · unfold X7; rw [J7]; rfl
theorem m70_self (ls : List Lvl) (h : (ls.map lvz).sum ≤ 900000000) : WV ls ls = some true := by
  have hl := Zm lvz (fun _ => by unfold lvz; omega) ls
  unfold WV
  rw [YH]
  simp only [cond_false]
  rw [YV ls (by omega)]
  · rfl
  · intro a x c e
    have hx := Z2 lvz (show x ∈ ls by rw [e]; simp)
    unfold Xz
    rw [e, QX, QR]
    simp only [cond_true, Option.bind_some]
    rw [m87_self x (by omega)]
    rfl
  · unfold Xz; rw [J7]; rfl
theorem m57_selfN : ∀ (n : Nat) (t : Tm), t.size ≤ n → t.size ≤ 900000000 → JY m57F n (t, t) = some true
  | 0, t, h, _ => by rw [t.size_eq] at h; omega
  | n + 1, t, h, hs => by
    have hl := Kk t
    have he := t.size_eq
    show Wr (JY m57F n) t t = some true
    unfold Wr
    rw [YH, YH, YH, G5, m70_self t.levels (by omega)]
    simp only [cond_false, Option.bind_some, Bool.not_true]
    rw [YV t.kids (by omega)]
    · rfl
    · intro a x c e
      have hx := YF (t := t) (k := x) (by rw [e]; simp)
      unfold Xc
      rw [show Jg t.kids (a.length : Int) = some x from by rw [e, QR], show decide ((a.length : Int) < (t.kids.length : Int)) = true from by rw [e, QX]]
      simp only [cond_true, Option.bind_some]
      rw [m57_selfN n x (by omega) (by omega)]
      rfl
    · unfold Xc; rw [J7]; rfl
theorem ZY (t : Tm) (h : t.size ≤ 900000000) : WB t t = some true := m57_selfN QH t (by unfold QH; omega) h
theorem m71_self (l : List Tm) (h : (l.map Tm.size).sum ≤ 900000000) : WU l l = some true := by
  have hl := Zm Tm.size (fun t => by rw [t.size_eq]; omega) l
  unfold WU
  rw [YH]
  simp only [cond_false]
  rw [YV l (by omega)]
  · rfl
  · intro a x c e
    have hx := Z2 Tm.size (show x ∈ l by rw [e]; simp)
    unfold Xy
    rw [e, QX, QR]
    simp only [cond_true, Option.bind_some]
    rw [ZY x (by omega)]
    rfl
  · unfold Xy; rw [J7]; rfl
theorem m58_self (r : Rcr) (h1 : r.ty.size ≤ 900000000) (h2 : (r.rules.map Tm.size).sum ≤ 900000000) : WJ r r = some true := by
  unfold WJ
  rw [eq_selfI, ZY r.ty h1, m71_self r.rules h2]
  rfl
theorem m59_selfN : ∀ (n : Nat) (t : Tr), t.size ≤ n → t.size ≤ 900000000 → JY m59F n (t, t) = some true
  | 0, t, h, _ => by rw [t.size_eq] at h; omega
  | n + 1, t, h, hs => by
    have hl := branches_len t
    have he := t.size_eq
    show Wq (JY m59F n) t t = some true
    unfold Wq
    rw [YH, YH, YH, ZY t.body (by omega)]
    simp only [cond_false, Option.bind_some, Bool.not_true]
    rw [YV t.branches (by omega)]
    · rfl
    · intro a x c e
      have hx := Zv (t := t) (b := x) (by rw [e]; simp)
      unfold Xb
      rw [show Jg t.branches (a.length : Int) = some x from by rw [e, QR], show decide ((a.length : Int) < (t.branches.length : Int)) = true from by rw [e, QX]]
      simp only [cond_true, Option.bind_some, G5, eq_selfb, Bool.not_true, cond_false]
      rw [m59_selfN n x.tree (by omega) (by omega)]
      rfl
    · unfold Xb; rw [J7]; rfl
theorem m59_self (t : Tr) (h : t.size ≤ 900000000) : m59 t t = some true := m59_selfN QH t (by unfold QH; omega) h
theorem m40_self (d : Dcl) (h : d.size ≤ 900000000) : WY d d = some true := by
  have hc := Zg d
  have hf := Zr d
  have hs : d.size = 1 + d.name.length + d.ty.size + d.value.size + (d.ctors.map csz).sum + d.rcr.ty.size + (d.rcr.rules.map Tm.size).sum + (d.funs.map fsz).sum := rfl
  unfold WY
  simp only [YH, G5, Bool.not_true, cond_false]
  rw [ZY d.ty (by omega), ZY d.value (by omega), m58_self d.rcr (by omega) (by omega)]
  simp only [Option.bind_some, Bool.not_true, cond_false]
  rw [YV d.ctors (by omega), YV d.funs (by omega)]
  · rfl
  · intro a x c e
    have hx := Z2 fsz (show x ∈ d.funs by rw [e]; simp)
    have hx2 : fsz x = 1 + x.name.length + x.ty.size + x.tree.size := rfl
    unfold KT
    rw [show Jg d.funs (a.length : Int) = some x from by rw [e, QR], show decide ((a.length : Int) < (d.funs.length : Int)) = true from by rw [e, QX]]
    simp only [cond_true, Option.bind_some, G5, YH, Bool.not_true, cond_false]
    rw [ZY x.ty (by omega), m59_self x.tree (by omega)]
    rfl
  · unfold KT; rw [J7]; rfl
  · intro a x c e
    have hx := Z2 csz (show x ∈ d.ctors by rw [e]; simp)
    have hx2 : csz x = 1 + x.name.length + x.ty.size := rfl
    unfold Gw
    rw [show Jg d.ctors (a.length : Int) = some x from by rw [e, QR], show decide ((a.length : Int) < (d.ctors.length : Int)) = true from by rw [e, QX]]
    simp only [cond_true, Option.bind_some, G5, Bool.not_true, cond_false]
    rw [ZY x.ty (by omega)]
    rfl
  · unfold Gw; rw [J7]; rfl
theorem m17_self (l : List Dcl) (hl : l.length ≤ 900000000) (h : ∀ d ∈ l, d.size ≤ 900000000) : WF l l = some true := by
  unfold WF
  rw [YH]
  simp only [cond_false]
  rw [YV l hl]
  · rfl
  · intro a x c e
    have hx := h x (by rw [e]; simp)
    unfold XF
    rw [e, QX, QR]
    simp only [cond_true, Option.bind_some]
    rw [m40_self x hx]
    rfl
  · unfold XF; rw [J7]; rfl
end Go.Proofs.Ytijcchddnnnmdaa
namespace Go.Proofs.Ytijcchddnnnmdaa
open Go.RowKit Go.Shelf
set_option linter.unusedSimpArgs false
set_option linter.unusedVariables false
theorem en_4 : J2 Try.prog 4 := enters_of Try.func4 (by kernel_rfl) rfl
def Ud (a0 : List Dcl) (a1 : List UN) : Option Bool :=
 Option.bind (Option.bind (Uc a0) fun (x2 : Bool) =>
 cond (!x2)
   (some true)
   (Option.bind (WO a1) fun (x4 : Bool) =>
 some (!x4))) (fun (v1 : Bool) => cond v1
   (Option.bind (Wv ) fun (x3 : Bool) =>
 some x3)
   (Option.bind (WN a0 a1) fun (x4 : (List Dcl) × Int) =>
 Option.bind (WM a0 a1) fun (x5 : (List Dcl) × Int) =>
 Option.bind (cond (x4.2 == x5.2)
   (Option.bind (WF x4.1 x5.1) fun (x8 : Bool) =>
 cond x8
   (Option.bind (Wv ) fun (x10 : Bool) =>
 some x10)
   (some false))
   (some false)) (fun (v6 : Bool) => some v6)))
set_option maxRecDepth 100000 in
set_option maxHeartbeats 2000000 in
theorem m4_ok (a0 : List Dcl) (a1 : List UN) (r : Bool) (h0 : Ud a0 a1 = some r) : Fun Try.prog 4 [.one (Ut a0), .one (Ut a1)] (Qy [.one (Uw r)]) := by
 unfold Ud at h0
 refine QS 9 41 Try.func4 rfl en_4 rfl (Ug rfl) (fun S w => ?_)
 simp only [J8]
 refine Q2 <| Q0 <| U7 rfl rfl rfl <| Q3 <| Q1 <| Q2 <| Q2 ?_
 refine Ja (fun (v1 : Bool) => ⟨[(0, .v (.one (Ut a0))), (1, .v (.one (Ut a1))), (16, .v (.one (Uw v1)))], [], [], 0, 41, []⟩) (fun (v1 : Bool) => (cond v1
     (Option.bind (Wv ) fun (x3 : Bool) =>
   some x3)
     (Option.bind (WN a0 a1) fun (x4 : (List Dcl) × Int) =>
   Option.bind (WM a0 a1) fun (x5 : (List Dcl) × Int) =>
   Option.bind (cond (x4.2 == x5.2)
     (Option.bind (WF x4.1 x5.1) fun (x8 : Bool) =>
   cond x8
     (Option.bind (Wv ) fun (x10 : Bool) =>
   some x10)
     (some false))
     (some false)) (fun (v6 : Bool) => some v6))) = some r) ?_ ?_
 refine Qb h0 (fun w1_ h1 h0 => ?_)
 refine Q0 <| U6 rfl rfl rfl ?_
 refine Qb h1 (fun x2 hx2 h1 => ?_)
 refine Q9 rfl rfl (Ug rfl) (Ql (m9_ok a0 x2 hx2) rfl (.cons (.one (.d _)) .nil)) <| U5 rfl rfl rfl (J9 rfl) <| U6 rfl rfl rfl ?_
 refine QV (d := 12) (c := (!x2)) rfl (fun c3 => ?_) (fun c3 => ?_)
 replace h1 := Qm c3 h1
 refine Q8 rfl rfl <| Q8 rfl rfl <| Q8 rfl rfl <| U5 rfl rfl rfl (Qo rfl rfl) <| Q3 ?_
 have e := U3 h1; subst e
 exact Qr true (Qf (U1 rfl (U1 rfl (U1 rfl U0))) Ul Uh rfl (Nat.zero_le _) rfl rfl rfl UB rfl rfl) h0
 replace h1 := Qn c3 h1
 refine U6 rfl rfl rfl ?_
 refine Qb h1 (fun x4 hx4 h1 => ?_)
 refine Q9 rfl rfl (Ug rfl) (Ql (m10_ok a1 x4 hx4) rfl (.cons (.one (.d _)) .nil)) <| U5 rfl rfl rfl (J9 rfl) <| U5 rfl rfl rfl (QG rfl rfl) <| Q3 ?_
 have e := U3 h1; subst e
 exact Qr (!x4) (Qf (U1 rfl (U1 rfl (U1 rfl U0))) Ul Uh rfl (Nat.zero_le _) rfl rfl rfl UB rfl rfl) h0
 intro v1 h0
 refine Q1 ?_
 refine Qe (b := v1) rfl (fun c5 => ?_) (fun c5 => ?_)
 replace h0 := Qm c5 h0
 refine Q2 <| Q0 ?_
 refine Qb h0 (fun x6 hx6 h0 => ?_)
 refine Q9 rfl rfl (Ug rfl) (Ql (m11_ok  x6 hx6) rfl .nil) <| U7 rfl rfl rfl <| Q3 <| Q1 <| Qz ?_
 have e := U3 h0; subst e
 exact QK (fun _ _ h => h) rfl (Qk rfl .nil) (.cons (.one (.d _)) .nil)
 replace h0 := Qn c5 h0
 refine Qg <| Q1 <| Q2 <| Q0 <| U6 rfl rfl rfl <| U6 rfl rfl rfl ?_
 refine Qb h0 (fun x7 hx7 h0 => ?_)
 refine Q9 rfl rfl (Ug rfl) (Ql (m15_ok a0 a1 x7 hx7) rfl (.cons (.one (.d _)) (.cons (.one (.d _)) .nil))) <| U6 rfl rfl rfl <| U5 rfl rfl rfl (Qp rfl rfl) <| U5 rfl rfl rfl (Qp rfl rfl) <| U7 rfl rfl rfl <| U7 rfl rfl rfl <| Q3 <| Q1 <| Q2 <| Q0 <| U6 rfl rfl rfl <| U6 rfl rfl rfl ?_
 refine Qb h0 (fun x8 hx8 h0 => ?_)
 refine Q9 rfl rfl (Ug rfl) (Ql (m16_ok a0 a1 x8 hx8) rfl (.cons (.one (.d _)) (.cons (.one (.d _)) .nil))) <| U6 rfl rfl rfl <| U5 rfl rfl rfl (Qp rfl rfl) <| U5 rfl rfl rfl (Qp rfl rfl) <| U7 rfl rfl rfl <| U7 rfl rfl rfl <| Q3 <| Q1 <| Q2 ?_
 refine Ja (fun (v9 : Bool) => ⟨[(4, .v (.one (Uw v9)))], [], [], 0, 41, []⟩) (fun (v9 : Bool) => (some v9) = some r) ?_ ?_
 refine Qb h0 (fun w1_ h1 h0 => ?_)
 refine Q0 <| U6 rfl rfl rfl <| U6 rfl rfl rfl <| U5 rfl rfl rfl (Q5 rfl rfl rfl) <| U6 rfl rfl rfl ?_
 refine QV (d := 33) (c := (x7.2 == x8.2)) rfl (fun c10 => ?_) (fun c10 => ?_)
 replace h1 := Qm c10 h1
 refine U6 rfl rfl rfl <| U6 rfl rfl rfl ?_
 refine Qb h1 (fun x11 hx11 h1 => ?_)
 refine Q9 rfl rfl (Ug rfl) (Ql (m17_ok x7.1 x8.1 x11 hx11) rfl (.cons (.one (.d _)) (.cons (.one (.d _)) .nil))) <| U5 rfl rfl rfl (Qo rfl rfl) <| U6 rfl rfl rfl ?_
 refine QV (d := 38) (c := x11) rfl (fun c12 => ?_) (fun c12 => ?_)
 replace h1 := Qm c12 h1
 refine Qb h1 (fun x13 hx13 h1 => ?_)
 refine Q9 rfl rfl (Ug rfl) (Ql (m11_ok  x13 hx13) rfl .nil) <| U5 rfl rfl rfl (Qo rfl rfl) <| U7 rfl rfl rfl <| Q3 ?_
 have e := U3 h1; subst e
 exact Qr x13 (Qf (U1 rfl U0) Ul Uh rfl (Nat.zero_le _) rfl rfl rfl UB rfl rfl) h0
 replace h1 := Qn c12 h1
 refine Q8 rfl rfl <| U5 rfl rfl rfl (QG rfl rfl) <| U7 rfl rfl rfl <| Q3 ?_
 have e := U3 h1; subst e
 exact Qr false (Qf (U1 rfl U0) Ul Uh rfl (Nat.zero_le _) rfl rfl rfl UB rfl rfl) h0
 replace h1 := Qn c10 h1
 refine Q8 rfl rfl <| Q8 rfl rfl <| Q8 rfl rfl <| U5 rfl rfl rfl (QG rfl rfl) <| U6 rfl rfl rfl <| Q8 rfl rfl <| U5 rfl rfl rfl (QG rfl rfl) <| U7 rfl rfl rfl <| Q3 ?_
 have e := U3 h1; subst e
 exact Qr false (Qf (U1 rfl U0) Ul Uh rfl (Nat.zero_le _) rfl rfl rfl UB rfl rfl) h0
 intro v9 h0
 refine Q1 <| Qz ?_
 have e := U3 h0; subst e
 exact QK (fun _ _ h => h) rfl (Qk rfl .nil) (.cons (.one (.d _)) .nil)
end Go.Proofs.Ytijcchddnnnmdaa
namespace Go.Proofs.Ytijcchddnnnmdaa
open Go.RowKit Go.Lib
set_option linter.unusedSimpArgs false
set_option linter.unusedVariables false
set_option linter.unusedSectionVars false
def one (d : Dcl) : List Dcl := [d]
theorem one_flat : ∀ l : List Dcl, (l.map one).flatten = l
  | [] => rfl
  | d :: l => by rw [List.map_cons, List.flatten_cons, one_flat l]; rfl
theorem f11_f12 : m56f11F = m56f12F := rfl
theorem m56_11 : XB = m56f12 := by
  funext a b c d
  unfold XB m56f12
  rw [f11_f12]
theorem l4_eq (a : List UN) (y : List (List Int) × UJ) : XH a y = KY a y y.1 := by
  funext s
  unfold XH KY
  rw [m56_11]
theorem m15_eq (env : List Dcl) (nm : List UN) (hl : Yg env ≤ 100000000) (hm : nm.length ≤ 900000000) : ∃ r, WN env nm = some r ∧ RSays false one env nm r := by
  have hel := Z8 env
  unfold WN
  obtain ⟨r, e, hr⟩ := newGraph_eq (γ := Unit) env hl
  rw [show Qv (m15_l1 env) QH (0, gmNil) = Qv (KX env) QH (0, gmNil) from rfl]
  rw [show (fun (o6 : UJ) => Option.bind (Qv (XI env o6) QH (0, ([] : List (List Int)))) (Sum.elim (fun (o7 : List (List Int)) => some (Sum.inl (o7, o6) : (List (List Int) × UJ) ⊕ Unit ⊕ Unit)) (fun o => some o))) = (fun (o6 : UJ) => Option.bind (Qv (KW env o6) QH (0, ([] : List (List Int)))) (Sum.elim (fun (o7 : List (List Int)) => some (.inl (o7, o6))) (fun o => some o))) from rfl]
  rw [e, Option.bind_some]
  rcases hr with ⟨h1, rfl⟩ | ⟨h1, h2, rfl⟩ | ⟨h1, h2, M, rfl, hM⟩
  · exact ⟨_, rfl, .twice h1⟩
  · exact ⟨_, rfl, .none h1 h2⟩
  · have hg := graph_gr h2
    obtain ⟨r, e2, hr⟩ := visits_eq (g := Zz env) (M := M) rfl hg (by omega) (by omega) hM nm hm
    dsimp only [Sum.elim]
    rw [hg.1]
    simp only [Int.toNat_natCast]
    rw [show decide (0 ≤ (env.length : Int)) = true from by rw [decide_eq_true_eq]; omega]
    simp only [cond_true]
    rw [Jf (by omega), l4_eq, e2, Option.bind_some]
    rcases hr with ⟨h3, b, rfl, hb⟩ | ⟨h3, rfl⟩
    · simp only [Sum.elim_inl, Sum.elim_inr, Option.bind_some]
      rw [sel_loop b one env (by omega) hb.len]
      · exact ⟨_, rfl, .ok h1 h2 h3 b hb⟩
      · intro a x c out e3 e4
        unfold Xj
        dsimp only
        rw [e4, show decide ((a.length : Int) < (env.length : Int)) = true from by rw [e3, QX], show Jg env (a.length : Int) = some x from by rw [e3, QR]]
        simp only [cond_true, Option.bind_some, Int.toNat_natCast]
        rw [hg.1, K2 hb.len]; rfl
      · intro a x c out e3 e4 h5
        rw [one_flat] at h5
        unfold Xj
        dsimp only
        rw [e4, show decide ((a.length : Int) < (env.length : Int)) = true from by rw [e3, QX], show Jg env (a.length : Int) = some x from by rw [e3, QR]]
        simp only [cond_true, Option.bind_some, Int.toNat_natCast]
        rw [hg.1, K2 hb.len]
        exact Jf (Nat.le_trans h5 (by omega))
      · intro s
        unfold Xj
        dsimp only
        rw [J7]; rfl
    · exact ⟨_, rfl, .miss h1 h2 h3⟩
theorem m16_eq (env : List Dcl) (nm : List UN) (hl : Yg env ≤ 100000000) (hm : nm.length ≤ 900000000) : ∃ r, WM env nm = some r ∧ RSays false one env nm r := by
  have hel := Z8 env
  unfold WM
  obtain ⟨x1, e, hx⟩ := m25_eq env hl
  rw [e, Option.bind_some]
  cases hx with
  | twice h1 => exact ⟨_, rfl, .twice h1⟩
  | none h1 h2 => exact ⟨_, rfl, .none h1 h2⟩
  | ok h1 h2 =>
    have hg := graph_gr h2
    dsimp only
    rw [show m16_l0 env = Xk env from rfl, show XG nm env = GE nm env from rfl]
    rw [flags_eq env (by omega)]
    obtain ⟨r, e2, hr⟩ := marks_eq env nm hl hm _ rfl
    rw [show ((0 : Int) != 0) = false from rfl]
    simp only [cond_false, Option.bind_some]
    rw [e2, Option.bind_some]
    rcases hr with ⟨h3, z, rfl, hzl, hz⟩ | ⟨h3, rfl⟩
    · dsimp only [Sum.elim]
      rw [K2 (by rw [Enc.len, Enc.len, hzl, List.length_replicate])]
      simp only [Option.bind_some, Sum.elim_inr]
      obtain ⟨b, e3, hb⟩ := spread_eq hg (by omega) (by omega) false z hzl
      rw [e3, Option.bind_some, sel_loop b one env (by omega) hb.len]
      · exact ⟨_, rfl, .ok h1 h2 h3 b (hb.of_iff (fun _ _ => Iff.rfl) hz)⟩
      · intro a x c out e3 e4
        unfold Xi
        dsimp only
        rw [e4, show decide ((a.length : Int) < (env.length : Int)) = true from by rw [e3, QX]]
        rfl
      · intro a x c out e3 e4 h5
        rw [one_flat] at h5
        unfold Xi
        dsimp only
        rw [e4, show decide ((a.length : Int) < (env.length : Int)) = true from by rw [e3, QX], show Jg env (a.length : Int) = some x from by rw [e3, QR]]
        simp only [cond_true, Option.bind_some]
        exact Jf (Nat.le_trans h5 (by omega))
      · intro s
        unfold Xi
        dsimp only
        rw [J7]; rfl
    · exact ⟨_, rfl, .miss h1 h2 h3⟩
theorem RSays.sub {d : Bool} {env : List Dcl} {nm : List UN} {r : List Dcl × Int} (h : RSays d one env nm r) : r.1.Sublist env := by
  cases h with
  | ok h h2 h3 b hb => rw [one_flat]; exact sel_sub b env 0
  | _ => exact List.nil_sublist _
theorem m17_sub {env l : List Dcl} (h : l.Sublist env) (hl : Yg env ≤ 100000000) : WF l l = some true :=
  m17_self l (by have := h.length_le; have := Z8 env; omega) fun d hd => by have := K9 (h.subset hd); omega
theorem m4_true (env : List Dcl) (nm : List UN) (h : Yg env ≤ 100000000) : Ud env nm = some true := by
  have hel := Z8 env
  unfold Ud
  obtain ⟨b, hb, hb70⟩ := m9_some env (by omega)
  obtain ⟨c, hc, hc20⟩ := m10_some nm
  rw [hb, hc, m11_true]
  cases b with
  | false => rfl
  | true =>
    cases c with
    | false => rfl
    | true =>
      have h20 := hc20 rfl
      obtain ⟨r1, e1, h1⟩ := m15_eq env nm h (by omega)
      obtain ⟨r2, e2, h2⟩ := m16_eq env nm h (by omega)
      obtain rfl := h1.uniq h2
      rw [e1, e2]
      simp only [Option.bind_some, Bool.not_true, cond_false]
      rw [m17_sub h1.sub h]
      simp [beqI]
end Go.Proofs.Ytijcchddnnnmdaa
namespace Go.Proofs.Ytijcchddnnnmdaa
open Go.RowKit Go.ChangeShapes Go.WideShapes
set_option linter.unusedSimpArgs false
set_option linter.unusedVariables false
set_option linter.unusedSectionVars false
def Wd (w : World) : Nat → Nat → Prop := fun b _ => b < w.heap.size
def RC (w : World) (e : List C) (cs : List Value) : Prop := cs.length = e.length ∧ ∀ (j : Nat) (c : C), e[j]? = some c → ∃ u, cs[j]? = some u ∧ Reads (Wd w) w c u
theorem RC.app {w : World} {e0 e1 : List C} {cs : List Value} (h0 : RC w e0 (cs.take e0.length)) (h1 : RC w e1 (cs.drop e0.length)) (hl : cs.length = e0.length + e1.length) : RC w (e0 ++ e1) cs := by
  refine ⟨by rw [hl, List.length_append], fun j c hj => ?_⟩
  rcases Nat.lt_or_ge j e0.length with h | h
  · rw [List.getElem?_append_left h] at hj
    obtain ⟨u, h2, h3⟩ := h0.2 j c hj
    rw [List.getElem?_take, if_pos h] at h2
    exact ⟨u, h2, h3⟩
  · rw [List.getElem?_append_right h] at hj
    obtain ⟨u, h2, h3⟩ := h1.2 _ c hj
    rw [List.getElem?_drop, show e0.length + (j - e0.length) = j by omega] at h2
    exact ⟨u, h2, h3⟩
section
variable {H : Type} (enc : TypeId × Value → H) (P : Program) (w : World)
end
section
variable {H : Type} {enc : TypeId × Value → H} {P : Program} {w : World}
end
end Go.Proofs.Ytijcchddnnnmdaa
namespace Go.Proofs.Ytijcchddnnnmdaa
open Go.RowKit Go.ChangeShapes Go.WideShapes
set_option linter.unusedSimpArgs false
set_option linter.unusedVariables false
set_option linter.unusedSectionVars false
theorem G6 {H : Type} (d : DataW H) : 1 ≤ Rows.uptoBulk d := by
  cases d with
  | lit l => cases l <;> simp [Rows.uptoBulk]
  | nil => simp [Rows.uptoBulk]
  | ptr d => simp [Rows.uptoBulk]
  | slice elems spare => simp [Rows.uptoBulk]
  | agg parts => simp [Rows.uptoBulk]
  | iface t d => simp [Rows.uptoBulk]
  | map entries => simp [Rows.uptoBulk]
  | held h => simp [Rows.uptoBulk]
theorem bulk_all {H : Type} : ∀ l : List (DataW H), Rows.uptoBulkAll l = (l.map Rows.uptoBulk).sum
  | [] => by simp [Rows.uptoBulkAll]
  | x :: l => by simp only [Rows.uptoBulkAll, List.map_cons, List.sum_cons, bulk_all l]
theorem RC.nil {w : World} {cs : List Value} : RC w [] (cs.take 0) := ⟨by simp, fun j c h => by cases h⟩
theorem RC.snoc {w : World} {e0 e1 : List C} {cs : List Value} {m k : Nat} (h0 : RC w e0 (cs.take m)) (h1 : RC w e1 ((cs.drop m).take k)) (hm : e0.length = m) : RC w (e0 ++ e1) (cs.take (m + k)) := by
  have h2 := h0.1
  have h3 := h1.1
  refine RC.app ?_ ?_ ?_
  · rw [List.take_take, hm, Nat.min_eq_left (by omega)]; exact h0
  · rw [hm, List.drop_take, Nat.add_sub_cancel_left]; exact h1
  · rw [← h3, hm]
    simp only [List.length_take, List.length_drop] at h2 ⊢
    omega
section
variable {H : Type} (enc : TypeId × Value → H) (P : Program) (w : World)
def J3 (N : Nat) (t : TypeId) (α : Type) [Enc α] (μ : α → Nat) : Prop := ∀ (fuel : Nat) (cs : List Value) (x : DataW H × List MemPlace), DataW.trod enc P w 0 (fun _ => true) true fuel t cs = some x → Rows.uptoBulk x.1 ≤ N → ∃ v : α, RC w (Enc.enc v) cs ∧ μ v ≤ Rows.uptoBulk x.1
end
section
variable {H : Type} {enc : TypeId × Value → H} {P : Program} {w : World} {N : Nat}
theorem KE {t : TypeId} (ht : P.underlying t = some (.int .i64)) : J3 enc P w N t Int (fun _ => 1) := by
  intro fuel cs x h hb
  obtain ⟨n, rfl, rfl, -⟩ := DataW.trod_int ht h
  refine ⟨n, ⟨rfl, fun j c hj => ?_⟩, G6 _⟩
  cases j with
  | zero => cases hj; exact ⟨_, rfl, Reads.v _ rfl⟩
  | succ j => cases hj
theorem z_bool {t : TypeId} (ht : P.underlying t = some .bool) : J3 enc P w N t Bool (fun _ => 1) := by
  intro fuel cs x h hb
  obtain ⟨n, rfl, rfl⟩ := DataW.trod_bool ht h
  refine ⟨n, ⟨rfl, fun j c hj => ?_⟩, G6 _⟩
  cases j with
  | zero => cases hj; exact ⟨_, rfl, Reads.v _ rfl⟩
  | succ j => cases hj
theorem XS {t : TypeId} (ht : P.underlying t = some .string) : J3 enc P w N t UN (fun s => 1 + s.length) := by
  intro fuel cs x h hb
  obtain ⟨s, rfl, rfl, -⟩ := DataW.trod_string ht h
  refine ⟨s.data.toList, ⟨rfl, fun j c hj => ?_⟩, by simp [Rows.uptoBulk]; omega⟩
  cases j with
  | zero => cases hj; exact ⟨_, rfl, by rw [show U4 s.data.toList = s from rfl]; exact Reads.v _ rfl⟩
  | succ j => cases hj
theorem ZB {α : Type} [Enc α] [EncLen α] {μ : α → Nat} {t e : TypeId} (ht : P.underlying t = some (.slice e)) (hc : P.cellsOf e = Enc.sz α) (ho : J3 enc P w N e α μ) : J3 enc P w N t (List α) (fun l => 1 + (l.map μ).sum) := by
  intro fuel cs x h hb
  rcases Deep.open_slice ht h with ⟨rfl, rfl⟩ | ⟨a, len, cap, m, n, D, Pl, rfl, -, hlc, -, hm, rfl, hel⟩
  · refine ⟨[], ⟨rfl, fun j c hj => ?_⟩, by simp [Rows.uptoBulk]⟩
    cases j with
    | zero =>
      cases hj
      refine ⟨_, rfl, ?_⟩
      rw [Enc.nil]
      exact .sl _ [] none 0 0 0 (fun _ _ => undef) (Nat.le_refl _) (fun h => absurd rfl h) (fun i e h => by simp at h) (fun i e j c h => by simp at h) (fun i e j c h => by simp at h) (fun i e j c h => by simp at h)
    | succ j => cases hj
  · have hm' : m = cap := by rw [hm]; rfl
    have hbk : ((List.range len).map fun i => Rows.uptoBulk (D i)).sum + 1 ≤ Rows.uptoBulk (DataW.slice (H := H) ((List.range len).map D) ((List.range (m - len)).map fun j => D (len + j))) := by
      simp only [Rows.uptoBulk, bulk_all, List.map_map]
      have : (List.map (Rows.uptoBulk ∘ D) (List.range len)).sum = ((List.range len).map fun i => Rows.uptoBulk (D i)).sum := rfl
      omega
    dsimp only at hb
    have hD : ∀ k, k < len → Rows.uptoBulk (D k) ≤ N := fun k hk => by
      have := Z2 (fun i => Rows.uptoBulk (D i)) (List.mem_range.2 hk)
      omega
    have hall : ∀ k, k ≤ len → ∃ l : List α, l.length = k ∧ (l.map μ).sum ≤ ((List.range k).map fun i => Rows.uptoBulk (D i)).sum ∧ ∀ (i : Nat) (v : α), l[i]? = some v → ∃ cs', w.cells? 0 (a.add (i * Enc.sz α)) (Enc.sz α) = some cs' ∧ RC w (Enc.enc v) cs' := by
      intro k
      induction k with
      | zero => intro _; exact ⟨[], rfl, Nat.le_refl _, fun i v h => by simp at h⟩
      | succ k ih =>
        intro hk
        obtain ⟨l, h1, hsum, h2⟩ := ih (by omega)
        obtain ⟨cs', h3, h4⟩ := hel k (by omega)
        rw [hc] at h3
        obtain ⟨v, hv, hμ⟩ := ho _ _ _ h4 (hD k (by omega))
        refine ⟨l ++ [v], by simp [h1], ?_, fun i v' hi => ?_⟩
        · rw [List.range_succ]
          simp only [List.map_append, List.map_cons, List.map_nil, List.sum_append, List.sum_cons, List.sum_nil]
          dsimp only at hμ
          omega
        rcases Nat.lt_or_ge i l.length with h | h
        · rw [List.getElem?_append_left h] at hi; exact h2 i v' hi
        · rw [List.getElem?_append_right h] at hi
          have hi0 : i - l.length = 0 := by
            rcases Nat.eq_zero_or_pos (i - l.length) with h0 | h0
            · exact h0
            · rw [List.getElem?_eq_none (by simp only [List.length_singleton]; omega)] at hi; cases hi
          have hik : i = k := by omega
          rw [hi0] at hi; cases hi
          rw [hik]; exact ⟨cs', h3, hv⟩
    obtain ⟨l, hl, hsum, hcells⟩ := hall len (Nat.le_refl _)
    have hpos : 0 < Enc.sz α := EncLen.pos
    have hspot : l ≠ [] → a.spot = none ∧ a.block < w.heap.size := by
      intro hne
      obtain ⟨v, r, rfl⟩ := List.exists_cons_of_ne_nil hne
      obtain ⟨cs', h1, h2⟩ := hcells 0 v rfl
      obtain ⟨-, h3, h4⟩ := World.cells?_some h1
      have h5 := h4 0 hpos
      rw [Nat.zero_mul, Deep.add_add, Nat.zero_add] at h5
      have h6 : (cs'[0]?).isSome := by rw [List.getElem?_eq_getElem (by omega)]; rfl
      rw [← h5] at h6
      have h7 : (a.add 0) = a := by simp [Addr.add]
      rw [h7] at h6
      unfold World.cell? at h6
      split at h6
      · rename_i c _ _ hb
        refine ⟨?_, (Array.getElem?_eq_some_iff.1 hb).1⟩
        split at h6
        · cases h6
        · rename_i hs
          cases hsp : a.spot with
          | none => rfl
          | some q => rw [hsp] at hs; exact absurd rfl hs
      · cases h6
    have hadd : l ≠ [] → ∀ k, a.add k = ⟨a.block, a.off + k, none⟩ := by
      intro hne k
      have h1 := (hspot hne).1
      unfold Addr.add
      split
      · rename_i h0; subst h0
        obtain ⟨b, o, sp⟩ := a
        simp only at h1; subst h1; rfl
      · rfl
    have hcell : ∀ (i : Nat) (e' : List C) (j : Nat) (c : C), (Enc.encL l)[i]? = some e' → e'[j]? = some c → ∃ u, w.cell? ⟨a.block, a.off + i * Enc.sz α + j, none⟩ = some u ∧ Reads (Wd w) w c u := by
      intro i e' j c hi hj
      rw [Enc.map, List.getElem?_map] at hi
      cases hx : l[i]? with
      | none => rw [hx] at hi; cases hi
      | some v =>
        rw [hx] at hi; cases hi
        have hne : l ≠ [] := by intro h0; rw [h0] at hx; simp at hx
        obtain ⟨cs', h1, h2⟩ := hcells i v hx
        obtain ⟨u, h3, h4⟩ := h2.2 j c hj
        obtain ⟨-, h5, h6⟩ := World.cells?_some h1
        have hjl : j < Enc.sz α := by have := (List.getElem?_eq_some_iff.1 h3).1; omega
        have h7 := h6 j hjl
        rw [Deep.add_add, hadd hne, h3, ← Nat.add_assoc] at h7
        exact ⟨u, h7, h4⟩
    refine ⟨l, ⟨rfl, fun j c hj => ?_⟩, by dsimp only; omega⟩
    cases j with
    | succ j => cases hj
    | zero =>
      cases hj
      refine ⟨_, rfl, ?_⟩
      have Um := Reads.sl (S := Wd w) (w := w) (Enc.sz α) (Enc.encL l) (some a) cap a.block a.off (fun i j => (w.cell? ⟨a.block, a.off + i * Enc.sz α + j, none⟩).getD undef) (by rw [Enc.len, hl]; exact hlc)
        (fun hne => by
          have hne' : l ≠ [] := by intro h0; rw [h0, Enc.nil] at hne; exact hne rfl
          have h7 : (a.add 0) = a := by simp [Addr.add]
          rw [← h7, hadd hne'])
        (fun i e' hi => YK l e' (List.mem_of_getElem? hi))
        (fun i e' j c hi hj => by obtain ⟨u, h1, -⟩ := hcell i e' j c hi hj; rw [h1]; rfl)
        (fun i e' j c hi hj => by
          have hne : l ≠ [] := by intro h0; rw [h0, Enc.nil] at hi; simp at hi
          exact (hspot hne).2)
        (fun i e' j c hi hj => by obtain ⟨u, h1, h2⟩ := hcell i e' j c hi hj; rw [h1]; exact h2)
      rw [Enc.len, hl] at Um
      exact Um
theorem Xo {α : Type} [Enc α] {μ : α → Nat} {t : TypeId} (h : ∀ N, J3 enc P w N t α μ → J3 enc P w (N + 1) t α μ) : ∀ N, J3 enc P w N t α μ
  | 0 => fun fuel cs x _ hb => by have := G6 x.1; omega
  | N + 1 => h N (Xo h N)
end
section
variable {H : Type} {enc : TypeId × Value → H} {w : World} {N : Nat}
theorem YR : Try.prog.cellsOf 3 = 1 := by kernel_rfl
theorem cells_4 : Try.prog.cellsOf 4 = 1 := by kernel_rfl
theorem X1 : Try.prog.cellsOf 9 = 1 := by kernel_rfl
theorem cells_39 : Try.prog.cellsOf 39 = 1 := by kernel_rfl
theorem cells_40 : Try.prog.cellsOf 40 = 1 := by kernel_rfl
theorem K4 : Try.prog.cellsOf 42 = 5 := by kernel_rfl
theorem cells_43 : Try.prog.cellsOf 43 = 1 := by kernel_rfl
theorem cells_45 : Try.prog.cellsOf 45 = 7 := by kernel_rfl
theorem cells_46 : Try.prog.cellsOf 46 = 1 := by kernel_rfl
theorem cells_48 : Try.prog.cellsOf 48 = 23 := by kernel_rfl
theorem cells_84 : Try.prog.cellsOf 84 = 6 := by kernel_rfl
theorem cells_85 : Try.prog.cellsOf 85 = 1 := by kernel_rfl
theorem cells_87 : Try.prog.cellsOf 87 = 8 := by kernel_rfl
theorem cells_89 : Try.prog.cellsOf 89 = 15 := by kernel_rfl
theorem cells_100 : Try.prog.cellsOf 100 = 1 := by kernel_rfl
theorem cells_102 : Try.prog.cellsOf 102 = 2 := by kernel_rfl
theorem cells_115 : Try.prog.cellsOf 115 = 10 := by kernel_rfl
theorem cells_149 : Try.prog.cellsOf 149 = 2 := by kernel_rfl
theorem z_lv : J3 enc Try.prog w (N + 1) 149 UK (fun _ => 1) := by
  intro fuel cs x h hb
  obtain ⟨xs, n, _, rfl, hl, hlen, hf⟩ := DataW.trod_struct Try.underlying149 h
  match xs, hlen with
  | [y0, y1], _ =>
    have hb' : Rows.uptoBulk y0.1 + Rows.uptoBulk y1.1 + 1 ≤ Rows.uptoBulk (DataW.agg (H := H) [y0.1, y1.1]) := by simp only [Rows.uptoBulk, Rows.uptoBulkAll]; omega
    have hb2 : Rows.uptoBulk (DataW.agg (H := H) [y0.1, y1.1]) ≤ N + 1 := hb
    obtain ⟨v0, r0, m0⟩ := (KE Try.underlying3 : J3 enc Try.prog w N _ _ _) n _ _ (hf 0 _ rfl) (by omega)
    change RC w (Enc.enc v0) ((cs.drop 0).take (Try.prog.cellsOf 3)) at r0
    rw [YR] at r0
    obtain ⟨v1, r1, m1⟩ := (KE Try.underlying3 : J3 enc Try.prog w N _ _ _) n _ _ (hf 1 _ rfl) (by omega)
    change RC w (Enc.enc v1) ((cs.drop 1).take (Try.prog.cellsOf 3)) at r1
    rw [YR] at r1
    have hcs : cs.take 2 = cs := List.take_of_length_le (by rw [hl]; exact Nat.le_of_eq cells_149)
    have Um := ((((RC.nil).snoc (k := 1) r0 rfl)).snoc (k := 1) r1 rfl)
    refine ⟨(v0, v1), by rw [← hcs]; exact Um, Nat.le_trans ?_ hb'⟩
    show 1 ≤ _
    omega
theorem z_lv' : J3 enc Try.prog w N 149 UK (fun _ => 1) := Xo (fun _ _ => z_lv) N
theorem z_lvl : J3 enc Try.prog w (N + 1) 102 Lvl lvz := by
  intro fuel cs x h hb
  obtain ⟨xs, n, _, rfl, hl, hlen, hf⟩ := DataW.trod_struct Try.underlying102 h
  match xs, hlen with
  | [y0, y1], _ =>
    have hb' : Rows.uptoBulk y0.1 + Rows.uptoBulk y1.1 + 1 ≤ Rows.uptoBulk (DataW.agg (H := H) [y0.1, y1.1]) := by simp only [Rows.uptoBulk, Rows.uptoBulkAll]; omega
    have hb2 : Rows.uptoBulk (DataW.agg (H := H) [y0.1, y1.1]) ≤ N + 1 := hb
    obtain ⟨v0, r0, m0⟩ := (KE Try.underlying3 : J3 enc Try.prog w N _ _ _) n _ _ (hf 0 _ rfl) (by omega)
    change RC w (Enc.enc v0) ((cs.drop 0).take (Try.prog.cellsOf 3)) at r0
    rw [YR] at r0
    obtain ⟨v1, r1, m1⟩ := (ZB Try.underlying100 (by kernel_rfl) z_lv' : J3 enc Try.prog w N _ _ _) n _ _ (hf 1 _ rfl) (by omega)
    change RC w (Enc.enc v1) ((cs.drop 1).take (Try.prog.cellsOf 100)) at r1
    rw [cells_100] at r1
    have hcs : cs.take 2 = cs := List.take_of_length_le (by rw [hl]; exact Nat.le_of_eq cells_102)
    have Um := ((((RC.nil).snoc (k := 1) r0 rfl)).snoc (k := 1) r1 rfl)
    refine ⟨⟨v0, v1⟩, by rw [← hcs]; exact Um, Nat.le_trans ?_ hb'⟩
    show lvz ⟨v0, v1⟩ ≤ _
    unfold lvz
    dsimp only at m0 m1 ⊢
    omega
theorem z_lvl' : J3 enc Try.prog w N 102 Lvl lvz := Xo (fun _ _ => z_lvl) N
theorem z_tm (hk : J3 enc Try.prog w N 42 Tm Tm.size) : J3 enc Try.prog w (N + 1) 42 Tm Tm.size := by
  intro fuel cs x h hb
  obtain ⟨xs, n, _, rfl, hl, hlen, hf⟩ := DataW.trod_struct Try.underlying42 h
  match xs, hlen with
  | [y0, y1, y2, y3, y4], _ =>
    have hb' : Rows.uptoBulk y0.1 + Rows.uptoBulk y1.1 + Rows.uptoBulk y2.1 + Rows.uptoBulk y3.1 + Rows.uptoBulk y4.1 + 1 ≤ Rows.uptoBulk (DataW.agg (H := H) [y0.1, y1.1, y2.1, y3.1, y4.1]) := by simp only [Rows.uptoBulk, Rows.uptoBulkAll]; omega
    have hb2 : Rows.uptoBulk (DataW.agg (H := H) [y0.1, y1.1, y2.1, y3.1, y4.1]) ≤ N + 1 := hb
    obtain ⟨v0, r0, m0⟩ := (KE Try.underlying3 : J3 enc Try.prog w N _ _ _) n _ _ (hf 0 _ rfl) (by omega)
    change RC w (Enc.enc v0) ((cs.drop 0).take (Try.prog.cellsOf 3)) at r0
    rw [YR] at r0
    obtain ⟨v1, r1, m1⟩ := (KE Try.underlying3 : J3 enc Try.prog w N _ _ _) n _ _ (hf 1 _ rfl) (by omega)
    change RC w (Enc.enc v1) ((cs.drop 1).take (Try.prog.cellsOf 3)) at r1
    rw [YR] at r1
    obtain ⟨v2, r2, m2⟩ := (XS Try.underlying9 : J3 enc Try.prog w N _ _ _) n _ _ (hf 2 _ rfl) (by omega)
    change RC w (Enc.enc v2) ((cs.drop 2).take (Try.prog.cellsOf 9)) at r2
    rw [X1] at r2
    obtain ⟨v3, r3, Ue⟩ := (ZB Try.underlying39 (by kernel_rfl) z_lvl' : J3 enc Try.prog w N _ _ _) n _ _ (hf 3 _ rfl) (by omega)
    change RC w (Enc.enc v3) ((cs.drop 3).take (Try.prog.cellsOf 39)) at r3
    rw [cells_39] at r3
    obtain ⟨v4, r4, Ud⟩ := (ZB Try.underlying40 (by kernel_rfl) hk : J3 enc Try.prog w N _ _ _) n _ _ (hf 4 _ rfl) (by omega)
    change RC w (Enc.enc v4) ((cs.drop 4).take (Try.prog.cellsOf 40)) at r4
    rw [cells_40] at r4
    have hcs : cs.take 5 = cs := List.take_of_length_le (by rw [hl]; exact Nat.le_of_eq K4)
    have Um := ((((((((((RC.nil).snoc (k := 1) r0 rfl)).snoc (k := 1) r1 rfl)).snoc (k := 1) r2 rfl)).snoc (k := 1) r3 rfl)).snoc (k := 1) r4 rfl)
    refine ⟨Tm.mk v0 v1 v2 v3 v4, by rw [← hcs]; exact Um, Nat.le_trans ?_ hb'⟩
    rw [Tm.size_eq]
    simp only [Tm.name, Tm.kids, Tm.levels]
    dsimp only at m0 m1 m2 Ue Ud ⊢
    omega
theorem Xp : J3 enc Try.prog w N 42 Tm Tm.size := Xo (fun _ h => z_tm h) N
theorem z_ctr : J3 enc Try.prog w (N + 1) 84 Ctr csz := by
  intro fuel cs x h hb
  obtain ⟨xs, n, _, rfl, hl, hlen, hf⟩ := DataW.trod_struct Try.underlying84 h
  match xs, hlen with
  | [y0, y1], _ =>
    have hb' : Rows.uptoBulk y0.1 + Rows.uptoBulk y1.1 + 1 ≤ Rows.uptoBulk (DataW.agg (H := H) [y0.1, y1.1]) := by simp only [Rows.uptoBulk, Rows.uptoBulkAll]; omega
    have hb2 : Rows.uptoBulk (DataW.agg (H := H) [y0.1, y1.1]) ≤ N + 1 := hb
    obtain ⟨v0, r0, m0⟩ := (XS Try.underlying9 : J3 enc Try.prog w N _ _ _) n _ _ (hf 0 _ rfl) (by omega)
    change RC w (Enc.enc v0) ((cs.drop 0).take (Try.prog.cellsOf 9)) at r0
    rw [X1] at r0
    obtain ⟨v1, r1, m1⟩ := (Xp : J3 enc Try.prog w N _ _ _) n _ _ (hf 1 _ rfl) (by omega)
    change RC w (Enc.enc v1) ((cs.drop 1).take (Try.prog.cellsOf 42)) at r1
    rw [K4] at r1
    have hcs : cs.take 6 = cs := List.take_of_length_le (by rw [hl]; exact Nat.le_of_eq cells_84)
    have Um := ((((RC.nil).snoc (k := 1) r0 rfl)).snoc (k := 5) r1 rfl)
    refine ⟨⟨v0, v1⟩, by rw [← hcs]; exact Um, Nat.le_trans ?_ hb'⟩
    show csz ⟨v0, v1⟩ ≤ _
    unfold csz
    dsimp only at m0 m1 ⊢
    omega
theorem z_ctr' : J3 enc Try.prog w N 84 Ctr csz := Xo (fun _ _ => z_ctr) N
theorem z_rcr : J3 enc Try.prog w (N + 1) 45 Rcr (fun r => r.ty.size + (r.rules.map Tm.size).sum) := by
  intro fuel cs x h hb
  obtain ⟨xs, n, _, rfl, hl, hlen, hf⟩ := DataW.trod_struct Try.underlying45 h
  match xs, hlen with
  | [y0, y1, y2], _ =>
    have hb' : Rows.uptoBulk y0.1 + Rows.uptoBulk y1.1 + Rows.uptoBulk y2.1 + 1 ≤ Rows.uptoBulk (DataW.agg (H := H) [y0.1, y1.1, y2.1]) := by simp only [Rows.uptoBulk, Rows.uptoBulkAll]; omega
    have hb2 : Rows.uptoBulk (DataW.agg (H := H) [y0.1, y1.1, y2.1]) ≤ N + 1 := hb
    obtain ⟨v0, r0, m0⟩ := (KE Try.underlying3 : J3 enc Try.prog w N _ _ _) n _ _ (hf 0 _ rfl) (by omega)
    change RC w (Enc.enc v0) ((cs.drop 0).take (Try.prog.cellsOf 3)) at r0
    rw [YR] at r0
    obtain ⟨v1, r1, m1⟩ := (Xp : J3 enc Try.prog w N _ _ _) n _ _ (hf 1 _ rfl) (by omega)
    change RC w (Enc.enc v1) ((cs.drop 1).take (Try.prog.cellsOf 42)) at r1
    rw [K4] at r1
    obtain ⟨v2, r2, m2⟩ := (ZB Try.underlying40 (by kernel_rfl) Xp : J3 enc Try.prog w N _ _ _) n _ _ (hf 2 _ rfl) (by omega)
    change RC w (Enc.enc v2) ((cs.drop 6).take (Try.prog.cellsOf 40)) at r2
    rw [cells_40] at r2
    have hcs : cs.take 7 = cs := List.take_of_length_le (by rw [hl]; exact Nat.le_of_eq cells_45)
    have Um := ((((((RC.nil).snoc (k := 1) r0 rfl)).snoc (k := 5) r1 rfl)).snoc (k := 1) r2 rfl)
    refine ⟨⟨v0, v1, v2⟩, by rw [← hcs]; exact Um, Nat.le_trans ?_ hb'⟩
    dsimp only at m0 m1 m2 ⊢
    omega
theorem z_rcr' : J3 enc Try.prog w N 45 Rcr (fun r => r.ty.size + (r.rules.map Tm.size).sum) := Xo (fun _ _ => z_rcr) N
theorem z_tr (hk : J3 enc Try.prog w N 115 UO bsz) : J3 enc Try.prog w (N + 1) 87 Tr Tr.size := by
  intro fuel cs x h hb
  obtain ⟨xs, n, _, rfl, hl, hlen, hf⟩ := DataW.trod_struct Try.underlying87 h
  match xs, hlen with
  | [y0, y1, y2, y3], _ =>
    have hb' : Rows.uptoBulk y0.1 + Rows.uptoBulk y1.1 + Rows.uptoBulk y2.1 + Rows.uptoBulk y3.1 + 1 ≤ Rows.uptoBulk (DataW.agg (H := H) [y0.1, y1.1, y2.1, y3.1]) := by simp only [Rows.uptoBulk, Rows.uptoBulkAll]; omega
    have hb2 : Rows.uptoBulk (DataW.agg (H := H) [y0.1, y1.1, y2.1, y3.1]) ≤ N + 1 := hb
    obtain ⟨v0, r0, m0⟩ := (KE Try.underlying3 : J3 enc Try.prog w N _ _ _) n _ _ (hf 0 _ rfl) (by omega)
    change RC w (Enc.enc v0) ((cs.drop 0).take (Try.prog.cellsOf 3)) at r0
    rw [YR] at r0
    obtain ⟨v1, r1, m1⟩ := (Xp : J3 enc Try.prog w N _ _ _) n _ _ (hf 1 _ rfl) (by omega)
    change RC w (Enc.enc v1) ((cs.drop 1).take (Try.prog.cellsOf 42)) at r1
    rw [K4] at r1
    obtain ⟨v2, r2, m2⟩ := (KE Try.underlying3 : J3 enc Try.prog w N _ _ _) n _ _ (hf 2 _ rfl) (by omega)
    change RC w (Enc.enc v2) ((cs.drop 6).take (Try.prog.cellsOf 3)) at r2
    rw [YR] at r2
    obtain ⟨v3, r3, Ue⟩ := (ZB Try.underlying85 (by kernel_rfl) hk : J3 enc Try.prog w N _ _ _) n _ _ (hf 3 _ rfl) (by omega)
    change RC w (Enc.enc v3) ((cs.drop 7).take (Try.prog.cellsOf 85)) at r3
    rw [cells_85] at r3
    have hcs : cs.take 8 = cs := List.take_of_length_le (by rw [hl]; exact Nat.le_of_eq cells_87)
    have Um := ((((((((RC.nil).snoc (k := 1) r0 rfl)).snoc (k := 5) r1 rfl)).snoc (k := 1) r2 rfl)).snoc (k := 1) r3 rfl)
    refine ⟨Tr.mk v0 v1 v2 v3, by rw [← hcs]; exact Um, Nat.le_trans ?_ hb'⟩
    rw [Tr.size_eq]
    simp only [Tr.body, Tr.branches]
    dsimp only at m0 m1 m2 Ue ⊢
    omega
theorem z_br (hk : J3 enc Try.prog w N 87 Tr Tr.size) : J3 enc Try.prog w (N + 1) 115 UO bsz := by
  intro fuel cs x h hb
  obtain ⟨xs, n, _, rfl, hl, hlen, hf⟩ := DataW.trod_struct Try.underlying115 h
  match xs, hlen with
  | [y0, y1, y2], _ =>
    have hb' : Rows.uptoBulk y0.1 + Rows.uptoBulk y1.1 + Rows.uptoBulk y2.1 + 1 ≤ Rows.uptoBulk (DataW.agg (H := H) [y0.1, y1.1, y2.1]) := by simp only [Rows.uptoBulk, Rows.uptoBulkAll]; omega
    have hb2 : Rows.uptoBulk (DataW.agg (H := H) [y0.1, y1.1, y2.1]) ≤ N + 1 := hb
    obtain ⟨v0, r0, m0⟩ := (XS Try.underlying9 : J3 enc Try.prog w N _ _ _) n _ _ (hf 0 _ rfl) (by omega)
    change RC w (Enc.enc v0) ((cs.drop 0).take (Try.prog.cellsOf 9)) at r0
    rw [X1] at r0
    obtain ⟨v1, r1, m1⟩ := (z_bool Try.underlying4 : J3 enc Try.prog w N _ _ _) n _ _ (hf 1 _ rfl) (by omega)
    change RC w (Enc.enc v1) ((cs.drop 1).take (Try.prog.cellsOf 4)) at r1
    rw [cells_4] at r1
    obtain ⟨v2, r2, m2⟩ := hk n _ _ (hf 2 _ rfl) (by omega)
    change RC w (Enc.enc v2) ((cs.drop 2).take (Try.prog.cellsOf 87)) at r2
    rw [cells_87] at r2
    have hcs : cs.take 10 = cs := List.take_of_length_le (by rw [hl]; exact Nat.le_of_eq cells_115)
    have Um := ((((((RC.nil).snoc (k := 1) r0 rfl)).snoc (k := 1) r1 rfl)).snoc (k := 8) r2 rfl)
    refine ⟨⟨v0, v1, v2⟩, by rw [← hcs]; exact Um, Nat.le_trans ?_ hb'⟩
    show bsz ⟨v0, v1, v2⟩ ≤ _
    unfold bsz
    dsimp only at m0 m1 m2 ⊢
    omega
theorem z_trbr : ∀ N, J3 enc Try.prog w N 87 Tr Tr.size ∧ J3 enc Try.prog w N 115 UO bsz
  | 0 => ⟨fun fuel cs x _ hb => by have := G6 x.1; omega, fun fuel cs x _ hb => by have := G6 x.1; omega⟩
  | N + 1 => ⟨z_tr (z_trbr N).2, z_br (z_trbr N).1⟩
theorem z_fn : J3 enc Try.prog w (N + 1) 89 Fn fsz := by
  intro fuel cs x h hb
  obtain ⟨xs, n, _, rfl, hl, hlen, hf⟩ := DataW.trod_struct Try.underlying89 h
  match xs, hlen with
  | [y0, y1, y2, y3], _ =>
    have hb' : Rows.uptoBulk y0.1 + Rows.uptoBulk y1.1 + Rows.uptoBulk y2.1 + Rows.uptoBulk y3.1 + 1 ≤ Rows.uptoBulk (DataW.agg (H := H) [y0.1, y1.1, y2.1, y3.1]) := by simp only [Rows.uptoBulk, Rows.uptoBulkAll]; omega
    have hb2 : Rows.uptoBulk (DataW.agg (H := H) [y0.1, y1.1, y2.1, y3.1]) ≤ N + 1 := hb
    obtain ⟨v0, r0, m0⟩ := (XS Try.underlying9 : J3 enc Try.prog w N _ _ _) n _ _ (hf 0 _ rfl) (by omega)
    change RC w (Enc.enc v0) ((cs.drop 0).take (Try.prog.cellsOf 9)) at r0
    rw [X1] at r0
    obtain ⟨v1, r1, m1⟩ := (Xp : J3 enc Try.prog w N _ _ _) n _ _ (hf 1 _ rfl) (by omega)
    change RC w (Enc.enc v1) ((cs.drop 1).take (Try.prog.cellsOf 42)) at r1
    rw [K4] at r1
    obtain ⟨v2, r2, m2⟩ := (KE Try.underlying3 : J3 enc Try.prog w N _ _ _) n _ _ (hf 2 _ rfl) (by omega)
    change RC w (Enc.enc v2) ((cs.drop 6).take (Try.prog.cellsOf 3)) at r2
    rw [YR] at r2
    obtain ⟨v3, r3, Ue⟩ := (z_trbr N).1 n _ _ (hf 3 _ rfl) (by omega)
    change RC w (Enc.enc v3) ((cs.drop 7).take (Try.prog.cellsOf 87)) at r3
    rw [cells_87] at r3
    have hcs : cs.take 15 = cs := List.take_of_length_le (by rw [hl]; exact Nat.le_of_eq cells_89)
    have Um := ((((((((RC.nil).snoc (k := 1) r0 rfl)).snoc (k := 5) r1 rfl)).snoc (k := 1) r2 rfl)).snoc (k := 8) r3 rfl)
    refine ⟨⟨v0, v1, v2, v3⟩, by rw [← hcs]; exact Um, Nat.le_trans ?_ hb'⟩
    show fsz ⟨v0, v1, v2, v3⟩ ≤ _
    unfold fsz
    dsimp only at m0 m1 m2 Ue ⊢
    omega
theorem z_fn' : J3 enc Try.prog w N 89 Fn fsz := Xo (fun _ _ => z_fn) N
theorem z_dcl : J3 enc Try.prog w (N + 1) 48 Dcl Dcl.size := by
  intro fuel cs x h hb
  obtain ⟨xs, n, _, rfl, hl, hlen, hf⟩ := DataW.trod_struct Try.underlying48 h
  match xs, hlen with
  | [y0, y1, y2, y3, y4, y5, y6, y7, y8], _ =>
    have hb' : Rows.uptoBulk y0.1 + Rows.uptoBulk y1.1 + Rows.uptoBulk y2.1 + Rows.uptoBulk y3.1 + Rows.uptoBulk y4.1 + Rows.uptoBulk y5.1 + Rows.uptoBulk y6.1 + Rows.uptoBulk y7.1 + Rows.uptoBulk y8.1 + 1 ≤ Rows.uptoBulk (DataW.agg (H := H) [y0.1, y1.1, y2.1, y3.1, y4.1, y5.1, y6.1, y7.1, y8.1]) := by simp only [Rows.uptoBulk, Rows.uptoBulkAll]; omega
    have hb2 : Rows.uptoBulk (DataW.agg (H := H) [y0.1, y1.1, y2.1, y3.1, y4.1, y5.1, y6.1, y7.1, y8.1]) ≤ N + 1 := hb
    obtain ⟨v0, r0, m0⟩ := (KE Try.underlying3 : J3 enc Try.prog w N _ _ _) n _ _ (hf 0 _ rfl) (by omega)
    change RC w (Enc.enc v0) ((cs.drop 0).take (Try.prog.cellsOf 3)) at r0
    rw [YR] at r0
    obtain ⟨v1, r1, m1⟩ := (XS Try.underlying9 : J3 enc Try.prog w N _ _ _) n _ _ (hf 1 _ rfl) (by omega)
    change RC w (Enc.enc v1) ((cs.drop 1).take (Try.prog.cellsOf 9)) at r1
    rw [X1] at r1
    obtain ⟨v2, r2, m2⟩ := (KE Try.underlying3 : J3 enc Try.prog w N _ _ _) n _ _ (hf 2 _ rfl) (by omega)
    change RC w (Enc.enc v2) ((cs.drop 2).take (Try.prog.cellsOf 3)) at r2
    rw [YR] at r2
    obtain ⟨v3, r3, Ue⟩ := (Xp : J3 enc Try.prog w N _ _ _) n _ _ (hf 3 _ rfl) (by omega)
    change RC w (Enc.enc v3) ((cs.drop 3).take (Try.prog.cellsOf 42)) at r3
    rw [K4] at r3
    obtain ⟨v4, r4, Ud⟩ := (Xp : J3 enc Try.prog w N _ _ _) n _ _ (hf 4 _ rfl) (by omega)
    change RC w (Enc.enc v4) ((cs.drop 8).take (Try.prog.cellsOf 42)) at r4
    rw [K4] at r4
    obtain ⟨v5, r5, m5⟩ := (KE Try.underlying3 : J3 enc Try.prog w N _ _ _) n _ _ (hf 5 _ rfl) (by omega)
    change RC w (Enc.enc v5) ((cs.drop 13).take (Try.prog.cellsOf 3)) at r5
    rw [YR] at r5
    obtain ⟨v6, r6, m6⟩ := (ZB Try.underlying43 (by kernel_rfl) z_ctr' : J3 enc Try.prog w N _ _ _) n _ _ (hf 6 _ rfl) (by omega)
    change RC w (Enc.enc v6) ((cs.drop 14).take (Try.prog.cellsOf 43)) at r6
    rw [cells_43] at r6
    obtain ⟨v7, r7, m7⟩ := (z_rcr' : J3 enc Try.prog w N _ _ _) n _ _ (hf 7 _ rfl) (by omega)
    change RC w (Enc.enc v7) ((cs.drop 15).take (Try.prog.cellsOf 45)) at r7
    rw [cells_45] at r7
    obtain ⟨v8, r8, m8⟩ := (ZB Try.underlying46 (by kernel_rfl) z_fn' : J3 enc Try.prog w N _ _ _) n _ _ (hf 8 _ rfl) (by omega)
    change RC w (Enc.enc v8) ((cs.drop 22).take (Try.prog.cellsOf 46)) at r8
    rw [cells_46] at r8
    have hcs : cs.take 23 = cs := List.take_of_length_le (by rw [hl]; exact Nat.le_of_eq cells_48)
    have Um := ((((((((((((((((((RC.nil).snoc (k := 1) r0 rfl)).snoc (k := 1) r1 rfl)).snoc (k := 1) r2 rfl)).snoc (k := 5) r3 rfl)).snoc (k := 5) r4 rfl)).snoc (k := 1) r5 rfl)).snoc (k := 1) r6 rfl)).snoc (k := 7) r7 rfl)).snoc (k := 1) r8 rfl)
    refine ⟨⟨v0, v1, v2, v3, v4, v5, v6, v7, v8⟩, by rw [← hcs]; exact Um, Nat.le_trans ?_ hb'⟩
    show Dcl.size ⟨v0, v1, v2, v3, v4, v5, v6, v7, v8⟩ ≤ _
    unfold Dcl.size
    dsimp only at m0 m1 m2 Ue Ud m5 m6 m7 m8 ⊢
    omega
theorem z_dcl' : J3 enc Try.prog w N 48 Dcl Dcl.size := Xo (fun _ _ => z_dcl) N
theorem z_env : J3 enc Try.prog w N 22 (List Dcl) (fun l => 1 + Yg l) := ZB Try.underlying22 (by kernel_rfl) z_dcl'
theorem z_names : J3 enc Try.prog w N 23 (List UN) (fun l => 1 + (l.map fun s => 1 + s.length).sum) := ZB Try.underlying23 (by kernel_rfl) (XS Try.underlying9)
end
end Go.Proofs.Ytijcchddnnnmdaa
namespace Go.Proofs.Ytijcchddnnnmdaa
open Go.ChangeShapes Go.WideShapes Go.ChangeAt Go.RowKit Go.WideElems
set_option linter.unusedSimpArgs false
set_option linter.unusedVariables false
set_option linter.unusedSectionVars false
theorem own : ownKnob Try.prog.godebug = none := by kernel_rfl
theorem laidOut : laidOutB Try.prog = true := by kernel_rfl
set_option maxRecDepth 100000 in
theorem slice_readsZ {H : Type} {enc : TypeId × Value → H} {α : Type} [Enc α] [EncLen α] {μ : List α → Nat} {W : World} {base : Nat} {t e : TypeId} {v : Value} {d : DataW H} {p : List MemPlace} (ht : Try.prog.underlying t = some (.slice e)) (ho : ∀ N, J3 enc Try.prog W N t (List α) μ)
    (hval : Value.okWide Try.prog W .any base t v) (h : DataW.Trod enc Try.prog W 0 (fun _ => true) true t v d p) : ∃ l : List α, Reads (Wd W) W (.sl (Enc.sz α) (Enc.encL l)) v ∧ μ l ≤ Rows.uptoBulk d := by
  obtain ⟨fuel, hf⟩ := h
  obtain ⟨l, hl, hμ⟩ := ho _ _ _ _ hf (Nat.le_refl _)
  refine ⟨l, ?_, hμ⟩
  obtain ⟨u, h2, h3⟩ := hl.2 0 _ rfl
  have h4 : v.cells = #[v] := by
    have h5 := hl.1
    cases v with
    | agg cs =>
      exfalso
      obtain ⟨s, n, c, h7⟩ := okWide_slice ht hval
      cases h7
    | _ => rfl
  rw [h4] at h2
  cases h2
  exact h3
end Go.Proofs.Ytijcchddnnnmdaa
namespace Go.Proofs.Ytijcchddnnnmdaa
open Go.ChangeShapes Go.WideShapes Go.ChangeAt Go.RowKit Go.WideElems
set_option linter.unusedSimpArgs false
set_option linter.unusedVariables false
set_option linter.unusedSectionVars false
theorem law4 {W : World} (a0 : List Dcl) (a1 : List UN) (hs : Yg a0 ≤ 100000000) {v0 v1 : Value} (hv0 : Reads (Wd W) W (.sl 23 (Enc.encL a0)) v0) (hv1 : Reads (Wd W) W (.sl 1 (Enc.encL a1)) v1) : Calls Try.prog 4 #[v0, v1] W fun e W' => e = .returned (.bool true) ∧ Below W.heap.size W W' := by
  have hF := m4_ok a0 a1 true (m4_true a0 a1 hs)
  refine Calls.mono (hF.2 (Wd W) W #[v0, v1] (fun b o h => h) ⟨rfl, fun i y hy => ?_⟩) ?_
  · match i, hy with
    | 0, hy => cases hy; exact ⟨_, rfl, hv0⟩
    | 1, hy => cases hy; exact ⟨_, rfl, hv1⟩
  · rintro e W' ⟨u, S', rfl, hx, -, -, hu⟩
    have e1 : u = .bool true := by cases hu; rfl
    rw [e1]
    exact ⟨rfl, hx.os, hx.tape, hx.output, hx.size, fun k hk => hx.block k hk (fun h => h)⟩
set_option maxRecDepth 100000 in
theorem contract (H : Type) (enc : TypeId × Value → H) (W : World) (base : Nat) (args : Array Value) (ds gs : List (DataW H)) (before : List MemPlace) (hk : Rows.uptoSmall H (ds ++ gs) = true)
    (hval0 : ∀ (j : Nat) t v, Try.f4.params[j]? = some t → args[j]? = some v → Value.okWide Try.prog W .any base t v)
    (hW : DataW.Whole enc Try.prog Try.f4.params.toList Rows.dependNeedsSpec.vars false W args.toList ds gs before) :
    Calls Try.prog 4 args W fun e W' => ∃ v, e = .returned v ∧ Rows.dependNeedsSpec.post enc Try.prog Try.f4 false true false false W args v W' := by
  have hval : ∀ (j : Nat) t v, Try.f4.params[j]? = some t → args[j]? = some v → Value.okWide Try.prog W .any base t v := hval0
  have hW' := hW
  obtain ⟨p, q, hA0, hV, rfl, hfz, hnd⟩ := hW
  have hA : DataW.TrodAll enc Try.prog W 0 (fun _ => true) true Try.f4.params.toList args.toList ds p := hA0
  rw [Try.params4] at hA hval
  obtain ⟨v0, v1, d0, d1, p0, p1, rfl, rfl, rfl, h0, h1⟩ := trodAll_two hA
  obtain ⟨rfl, rfl⟩ := trodVars_none hV
  have h0k := h0
  have h1k := h1
  obtain ⟨a0, hv0, hz⟩ := slice_readsZ Try.underlying22 (fun N => z_env) (hval 0 22 v0 rfl rfl) h0
  obtain ⟨a1, hv1, hz1⟩ := slice_readsZ Try.underlying23 (fun N => z_names) (hval 1 23 v1 rfl rfl) h1
  have hbk : Rows.uptoBulkAll ([d0, d1] ++ ([] : List (DataW H))) ≤ 1048576 := of_decide_eq_true hk
  simp only [List.append_nil, Rows.uptoBulkAll] at hbk
  clear hA0 hval0
  simp only [List.append_nil] at hW'
  have hlt : ∀ x ∈ p0 ++ p1, x.block < W.heap.size := fun x hx => by simpa using hW'.lt x hx
  refine (law4 a0 a1 (by omega) hv0 hv1).mono fun e W' ⟨he, hb⟩ => ?_
  subst he
  have hargs : ∀ sp : Nat → Bool, (∀ x ∈ p0 ++ p1, sp x.block = true) → DataW.TrodAll enc Try.prog W' 0 sp true [22, 23] [v0, v1] [d0, d1] (p0 ++ p1) := fun sp hsp =>
    trodAll_mk2 (WideElems.Trod_stays laidOut (by kernel_rfl) (of_decide_eq_true (by kernel_rfl)) h0k (fun x hx => hb.same (hlt x (by simp [hx]))) (fun x hx => hsp x (by simp [hx]))) (WideElems.Trod_stays laidOut (by kernel_rfl) (of_decide_eq_true (by kernel_rfl)) h1k (fun x hx => hb.same (hlt x (by simp [hx]))) (fun x hx => hsp x (by simp [hx])))
  exact ⟨_, rfl, _, _, _, [], p0 ++ p1, [], hW', trodAll_mk1 (shut_bool Try.underlying4 true), hargs _ (fun x hx => by simpa using hlt x hx), rfl, hb.frame _, fun h => by cases h⟩
set_option maxRecDepth 100000 in
theorem lifted (os : Os) (started : os.Started) (H : Type) (enc : TypeId × Value → H) (F : Stop.Interp) :
    ReturnsInHanded {} Try.checked os 4 .any ((Rows.OpenSpec.upto Rows.dependNeedsSpec).pre6 enc Try.prog Try.f4 Rows.dependNeedsUptoRow.domain false) (((Rows.OpenSpec.upto Rows.dependNeedsSpec).at F).post enc Try.prog Try.f4 false true false false) := by
  refine returnsInHanded_of_cond (C := Try.checked) (s := Rows.OpenSpec.upto Rows.dependNeedsSpec) (k := Rows.uptoSmall) rfl own started (by kernel_rfl) Try.func4
    (OpenSpec.witness (enc := enc) (C := Try.checked) (s := Rows.OpenSpec.upto Rows.dependNeedsSpec) (k := Rows.uptoSmall) rfl false ⟨#[], #[.slice none 0 0, .slice none 0 0], []⟩ 8 (by kernel_rfl) (by kernel_rfl) (by kernel_rfl)
      (x := ([.nil, .nil], [], [])) (by kernel_rfl) rfl (by kernel_rfl)) ?_
  intro W base args ds gs before hval hW _ hk _
  exact contract H enc W base args ds gs before hk hval hW
theorem over : Rows.dependNeedsUptoRow.holds Try.pinned (Rows.OpenSpec.upto Rows.dependNeedsSpec) :=
  OpenClaim.holds_of_cond 4 Try.f4 rfl rfl rfl rfl rfl rfl rfl ⟨rfl, rfl, rfl, rfl, rfl⟩ rfl rfl rfl rfl rfl (by kernel_rfl) Try.func4 (by kernel_rfl)
    (of_decide_eq_true (by kernel_rfl)) (by unfold Func.isWrapper; first | (rw [if_pos (by decide +kernel)]; kernel_rfl) | (rw [if_neg (by decide +kernel)]; exact ⟨rfl, rfl⟩))
    (fun os started H enc _ F => lifted os started H enc F)
theorem dependNeedsUpto : Rows.DependNeedsUptoSaid := over
#print axioms dependNeedsUpto
end Go.Proofs.Ytijcchddnnnmdaa
