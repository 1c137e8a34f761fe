/- Calls walked within a walk. -/
import Derived.Test.YtcapifnaceegmaaGreatDoorEncs
namespace Go.Proofs.YtcapifnaceegmaaGreatDoor
open Go.RowKit
set_option linter.unusedSimpArgs false
set_option linter.unusedVariables false
set_option linter.unusedSectionVars false

section
variable {E : Env} {ro : Option Nat} {n : Nat} {Q : Exit → Act → World → Prop} {st : St} {c : Code}

theorem XC.begin (h : E.V0.nx ≤ st.nx → XC E ro n Q c st) : XC E ro n Q c st := fun V a w hr => h (by rw [← hr.nx]; exact hr.h.le0.nx) V a w hr
theorem XQ.of {st' : St} {e : Exit} (hQ : XQ E Q e st') (hl : StLe E st st') : XQ E Q e st := XQ.less hl hQ
theorem XC.exec {st' : St} {e : Exit} {rn : Option Nat} (h : ExecOK E.P rn c st e st') (hro : RoundOf E rn ro) (k : XQ E Q e st') : XC E ro n Q c st := h E ro n Q rfl hro k
end

/-- A function's body, walked: the call. -/
theorem CallM.of_body {P : Program} {f : FuncId} {fn : Func} {c : Code} {args : List AV} {m : Mem} (st' : St) {hp' : List (Nat × HB)} {xs : List AV} (hf : P.funcs[f]? = some fn) (hb : fn.body = some c) (hen : Enters P f) (hnt : args.length ≤ fn.ntmps)
    (hdf : takeMarks st'.df st'.hp = some hp') (hres : RAs P ⟨st'.tm, hp', st'.tk, st'.nx, st'.nt, []⟩ fn.results.toList xs)
    (h : ∀ (w0 : World) (M : Nat → Prop) (V0 : Vu) (Q : Exit → Act → World → Prop), V0.nx ≤ m.nx → XQ ⟨P, w0, M, V0⟩ Q .normal st' → XQ ⟨P, w0, M, V0⟩ Q .ret st' → XC ⟨P, w0, M, V0⟩ none 0 Q c ⟨entry 0 args, m.hp, m.tk, m.nx, fn.ntmps, []⟩) :
    CallM P f args m (resOf xs) ⟨hp', st'.tk, st'.nx⟩ := by
  refine ⟨hen, fun E V w vs hP H hn hargs => ?_⟩
  refine (callsIn_wide (n := 0)).1 (callsIn_of_wp_marks (F := Fence.wide) hf hb trivial ?_)
  have hR0 : Rel (E.at V w) V ⟨entry 0 args, m.hp, m.tk, m.nx, fn.ntmps, []⟩ { tmps := vs ++ Array.replicate (fn.ntmps - vs.size) undef, defers := [] } w := by
    refine ⟨H.rebase, hn, by simp [hargs.1]; omega, dfRel.nil, fun t x hx => ?_⟩
    obtain ⟨k, y, h1, h2, rfl⟩ := lk_entry args 0 t x hx
    obtain ⟨u, hu, hy⟩ := hargs.2 k y h2
    have hk : k < vs.size := (Array.getElem?_eq_some_iff.1 hu).1
    have : (vs ++ Array.replicate (fn.ntmps - vs.size) undef).getD t undef = u := by
      rw [show t = k by omega, Array.getD_eq_getD_getElem?, Array.getElem?_append_left hk, hu]; rfl
    rw [this]; exact hy
  have key : ∀ (V1 : Vu) (a1 : Act) (w1 : World), Rel (E.at V w) V1 st' a1 w1 → LeavesInM Fence.wide 0 P fn a1.tmps (fun e w' => ∃ v V', e = .returned v ∧ HRel E V' hp' st'.tk w' ∧ V'.nx = st'.nx ∧ V.Le V' w w' ∧ (resOf xs).rel V' w' v) a1.defers .returning w1 := by
    intro V1 a1 w1 hr1
    refine leaves_marks st'.df a1.defers st'.hp hp' w1 hr1.h hr1.df hdf (fun w' H' L' => ?_)
    have hr' : Rel (E.at V w) V1 ⟨st'.tm, hp', st'.tk, st'.nx, st'.nt, []⟩ { tmps := a1.tmps, defers := [] } w' := ⟨H', hr1.nx, hr1.nt, dfRel.nil, fun t x hx => (hr1.tm t x hx).mono L'⟩
    obtain ⟨v, h1, h2⟩ := results_run (E := E.at V w) hres hP hr'
    obtain ⟨H5, L5⟩ := H.back H'
    exact ⟨v, h1, v, V1, rfl, H5, hr1.nx, L5, h2⟩
  have hgo : ∀ E' : Env, E' = E.at V w → E'.P = P → E'.V0 = V → XC E' none 0 (bodyPostM Fence.wide 0 P fn (fun e w' => ∃ v V', e = .returned v ∧ HRel E V' hp' st'.tk w' ∧ V'.nx = st'.nx ∧ V.Le V' w w' ∧ (resOf xs).rel V' w' v)) c ⟨entry 0 args, m.hp, m.tk, m.nx, fn.ntmps, []⟩ := by
    rintro ⟨P', w0, M, V0⟩ he hP' hV'
    dsimp only at hP' hV'
    subst hP'
    refine h w0 M V0 _ (by rw [hV', hn]; exact Nat.le_refl _) ?_ ?_
    · rw [he]; exact key
    · rw [he]; exact key
  have := hgo (E.at V w) rfl hP rfl V _ w hR0
  rw [show (E.at V w).P = P from hP] at this
  exact this

/-- A call where more is known of the memory. -/
theorem OpOK.callW {E : Env} {st : St} {dd : Option Tmp} {ty : TypeId} {pos : String} {af : Array Edge} {g : Option (Nat × Bool)} {x : Operand} {f : FuncId} {caps : List (Nat × Nat)} {as : Array Operand} {args args' : List AV} {ats : Array TypeId} {res : TV} {m' : Mem} {hp0 : List (Nat × HB)} {tk0 : List (Nat × Option Tok)} {nx0 : Nat} (hx : ev st.tm x = some (.v (.one (.fn f caps)))) (ha : evArgs st.tm as.toList = some args) (he : args ++ ptrs caps = args')
    (hc : CallM E.P f args' ⟨hp0, tk0, nx0⟩ res m') (hn0 : st.nx = nx0) (hh : hpLe st.hp hp0) (ht : tkLe st.tk tk0) : OpOK E ⟨dd, .call { callee := .value x, args := as, argTypes := ats }, ty, pos, af, g⟩ st res m' := by
  subst hn0; subst he
  intro V a w hr
  have hr' : Rel E V { st with hp := hp0, tk := tk0 } a w := ⟨hr.h.forgetLe hh ht, hr.nx, hr.nt, hr.df, hr.tm⟩
  exact OpOK.call (st := { st with hp := hp0, tk := tk0 }) hx ha hc V a w hr'

/-- Code, walked: its run. -/
theorem ExecOK.walk {P : Program} {rn : Option Nat} {c : Code} {st st' : St} {e : Exit}
    (h : ∀ (w0 : World) (M : Nat → Prop) (V0 : Vu) (ro : Option Nat) (n : Nat) (Q : Exit → Act → World → Prop), V0.nx ≤ st.nx → RoundOf ⟨P, w0, M, V0⟩ rn ro → XQ ⟨P, w0, M, V0⟩ Q e st' → XC ⟨P, w0, M, V0⟩ ro n Q c st) : ExecOK P rn c st e st' := by
  rintro ⟨P', w0, M, V0⟩ ro n Q hP hro hQ
  dsimp only at hP
  subst hP
  exact XC.begin (fun hv => h w0 M V0 ro n Q hv hro hQ)

theorem ExecOK.from {P : Program} {rn : Option Nat} {c : Code} {st st1 st' : St} {e : Exit} (h : ExecOK P rn c st1 e st') (hl : ∀ E : Env, E.V0.nx ≤ st.nx → StLe E st st1) : ExecOK P rn c st e st' := by
  intro E ro n Q hP hro hQ
  exact XC.begin (fun hv => XC.less (hl E hv) (h E ro n Q hP hro hQ))

/-! ### Ways into code -/
def cA : Code → Code
  | .seq a _ => a
  | .cond _ a _ => a
  | .block _ a => a
  | .loop a => a
  | .rangeFunc _ _ a _ => a
  | c => c
def cB : Code → Code
  | .seq _ b => b
  | .cond _ _ b => b
  | .rangeFunc _ _ _ b => b
  | c => c
def bodyC (f : Func) : Code := f.body.getD .skip

theorem cond_left {a b : Bool} (h : cond a b false = true) : a = true := by cases a <;> simp_all
theorem cond_right {a b : Bool} (h : cond a b false = true) : b = true := by cases a <;> simp_all

section
variable {E : Env} {st : St} {d : Option Tmp} {ty : TypeId} {pos : String} {af : Array Edge} {g : Option (Nat × Bool)}
theorem RO.conv2 {s t : TypeId} {x : Operand} {k k0 k' : IntKind} {m : Int} (hs : tyInt E.P s = some k0) (ht : tyInt E.P t = some k') (hx : ev st.tm x = some (TVv (.int k m))) : RO E ⟨d, .convert s t x, ty, pos, af, g⟩ st (TVv (.int k' (k'.wrap m))) := by
  refine RO.convInt ht ?_ hx
  unfold tyInt at hs
  split at hs
  · rename_i hu; exact ⟨_, hu⟩
  · cases hs
theorem RO.remI {t t' : TypeId} {x y : Operand} {k : IntKind} {a b : Int} (hx : ev st.tm x = some (TVv (.int k a))) (hy : ev st.tm y = some (TVv (.int k b))) (hb : (!(b == 0)) = true) : RO E ⟨d, .binOp .rem t x y t', ty, pos, af, g⟩ st (TVv (.int k (Int.tmod a b))) := by
  refine RO.binInt hx hy ?_
  have h0 : b ≠ 0 := by simpa using hb
  unfold intBin
  simp [h0]
end
end Go.Proofs.YtcapifnaceegmaaGreatDoor
