/- Calls, rounds and ranges over functions, seen as data. -/
import Derived.Test.YtcapifnaceegmaaGreatDoorOp
namespace Go.Proofs.YtcapifnaceegmaaGreatDoor
open Go.RowKit
set_option linter.unusedSimpArgs false
set_option linter.unusedVariables false
set_option linter.unusedSectionVars false

def evArgs (tm : List (Nat × TV)) : List Operand → Option (List AV)
  | [] => some []
  | o :: os => match ev tm o, evArgs tm os with
    | some (.v x), some xs => some (x :: xs)
    | _, _ => none

theorem evArgs_spec {tm : List (Nat × TV)} : ∀ {os : List Operand} {xs : List AV}, evArgs tm os = some xs → os.length = xs.length ∧ ∀ (i : Nat) (y : AV), xs[i]? = some y → ∃ o, os[i]? = some o ∧ ev tm o = some (.v y)
  | [], xs, h => by cases h; exact ⟨rfl, fun i y hy => by simp at hy⟩
  | o :: os, xs, h => by
    simp only [evArgs] at h
    split at h
    · rename_i x ys hx hys
      cases h
      obtain ⟨h1, h2⟩ := evArgs_spec hys
      refine ⟨by simp [h1], fun i y hy => ?_⟩
      cases i with
      | zero => simp at hy; subst hy; exact ⟨o, rfl, hx⟩
      | succ i => exact h2 i y (by simpa using hy)
    · cases h

def ptrs (caps : List (Nat × Nat)) : List AV := caps.map fun p => .one (.ptr p.1 p.2)

theorem args_rel {E : Env} {V : Vu} {st : St} {a : Act} {w : World} (hr : Rel E V st a w) {as : Array Operand} {args : List AV} (ha : evArgs st.tm as.toList = some args) : argsRel V w args (as.map a.eval) := by
  obtain ⟨h1, h2⟩ := evArgs_spec ha
  refine ⟨by simpa using h1, fun i y hy => ?_⟩
  obtain ⟨o, h3, h4⟩ := h2 i y hy
  exact ⟨a.eval o, by simp at h3; simp [h3], hr.ev h4⟩

theorem argsRel.append {V : Vu} {w : World} {xs ys : List AV} {us vs : Array Value} (h : argsRel V w xs us) (k : argsRel V w ys vs) : argsRel V w (xs ++ ys) (us ++ vs) := by
  refine ⟨by simp [h.1, k.1], fun i y hy => ?_⟩
  by_cases hi : i < xs.length
  · rw [List.getElem?_append_left hi] at hy
    obtain ⟨u, h1, h2⟩ := h.2 i y hy
    exact ⟨u, by rw [Array.getElem?_append_left (by rw [h.1]; exact hi)]; exact h1, h2⟩
  · rw [List.getElem?_append_right (by omega)] at hy
    obtain ⟨u, h1, h2⟩ := k.2 _ y hy
    exact ⟨u, by rw [Array.getElem?_append_right (by rw [h.1]; omega), h.1]; exact h1, h2⟩

theorem ptrs_rel {V : Vu} {w : World} {caps : List (Nat × Nat)} (h : ∀ p ∈ caps, p.1 < V.nx) : argsRel V w (ptrs caps) (caps.map fun p => Value.pointer (some ⟨V.ι p.1, p.2, none⟩)).toArray := by
  refine ⟨by simp [ptrs], fun i y hy => ?_⟩
  simp only [ptrs, List.getElem?_map] at hy
  cases hi : caps[i]? with
  | none => rw [hi] at hy; cases hy
  | some p =>
    rw [hi] at hy; cases hy
    exact ⟨.pointer (some ⟨V.ι p.1, p.2, none⟩), by simp [hi], h p (List.mem_of_getElem? hi), rfl⟩

section
variable {E : Env} {st : St} {dd : Option Nat} {ty : TypeId} {pos : String} {af : Array Edge} {g : Option (Nat × Bool)}

/-- A call of a function or of a closure. -/
theorem OpOK.call {x : Operand} {f : FuncId} {caps : List (Nat × Nat)} {as : Array Operand} {args : List AV} {ats : Array TypeId} {res : TV} {m' : Mem} (hx : ev st.tm x = some (.v (.one (.fn f caps)))) (ha : evArgs st.tm as.toList = some args)
    (hc : CallM E.P f (args ++ ptrs caps) st.mem res m') : OpOK E ⟨dd, .call { callee := .value x, args := as, argTypes := ats }, ty, pos, af, g⟩ st res m' := by
  intro V a w hr ro n K Q hK
  refine ⟨fun _ _ => trivial, ?_⟩
  rw [Oper.semAt_eq _ _ _ (by intro c h; cases h)]
  obtain ⟨hv1, hv2⟩ := hr.ev hx
  have hrun : (execOp a.eval ⟨dd, .call { callee := .value x, args := as, argTypes := ats }, ty, pos, af, g⟩).run E.P w = .ok (.enter f (as.map a.eval ++ (caps.map fun p => Value.pointer (some ⟨V.ι p.1, p.2, none⟩)).toArray)) w := by
    have := hc.1 (as.map a.eval ++ (caps.map fun p => Value.pointer (some ⟨V.ι p.1, p.2, none⟩)).toArray) w
    simp [execOp, resolve, hv2, Deferred.ofValue, invoke]
    simpa using this
  rw [hrun]
  refine ⟨(by intro h; cases h), ?_⟩
  have hc' : CallsIn Fence.wide (n - 1) E.P f _ w _ := callsIn_wide.2 (hc.2 E V w _ rfl hr.h hr.nx ((args_rel hr ha).append (ptrs_rel hv1)))
  refine CallsIn.mono (F := FR ro) hc' ?_
  rintro e w' ⟨v, V', rfl, H, hn, L, hres⟩
  exact hK V' w' v H hn L hres

def putArgs : List Nat → List AV → List (Nat × TV) → List (Nat × TV)
  | t :: ts, x :: xs, tm => putArgs ts xs ((t, .v x) :: dropK t tm)
  | _, _, tm => tm

theorem putArgs_rel {V : Vu} {w : World} : ∀ (ts : List Nat) (xs : List AV) (vs : List Value) (tm : List (Nat × TV)) (tmps : Array Value), xs.length = vs.length → (∀ (i : Nat) (y : AV), xs[i]? = some y → ∃ u, vs[i]? = some u ∧ y.rel V w u) → (∀ t ∈ ts, t < tmps.size) →
    (∀ t x, lk tm t = some x → x.rel V w (tmps.getD t undef)) → ((ts.zip vs).foldl (fun tmps (p : Nat × Value) => tmps.setIfInBounds p.1 p.2) tmps).size = tmps.size ∧ ∀ t x, lk (putArgs ts xs tm) t = some x → x.rel V w (((ts.zip vs).foldl (fun tmps (p : Nat × Value) => tmps.setIfInBounds p.1 p.2) tmps).getD t undef)
  | [], xs, vs, tm, tmps, _, _, _, h => by simpa [putArgs] using h
  | t :: ts, [], vs, tm, tmps, hl, _, _, h => by
    have : vs = [] := List.eq_nil_of_length_eq_zero (by simpa using hl.symm)
    subst this
    simpa [putArgs] using h
  | t :: ts, x :: xs, vs, tm, tmps, hl, hx, ht, h => by
    match vs, hl with
    | v :: vs, hl =>
      obtain ⟨u, hu, hxu⟩ := hx 0 x rfl
      simp at hu; subst hu
      have ht0 := ht t (by simp)
      have ih := putArgs_rel (V := V) (w := w) ts xs vs ((t, .v x) :: dropK t tm) (tmps.setIfInBounds t v) (by simpa using hl) (fun i y hy => by have := hx (i + 1) y (by simpa using hy); simpa using this) (fun t' ht' => by simpa using ht t' (by simp [ht'])) (fun t' y hy => by
        rw [lk_put, lk_cons] at hy
        rw [getD_put ht0]
        split at hy
        · rename_i e; subst e; cases hy; rw [if_pos rfl]; exact hxu
        · rename_i e; rw [if_neg e]; exact h t' y hy)
      simp only [List.zip_cons_cons, List.foldl_cons, putArgs]
      exact ⟨by rw [ih.1]; simp, ih.2⟩

def jumpOf : Exit → Option (Option Code)
  | .normal => some none
  | .ret => some (some .ret)
  | .exit id => some (some (.exit id))
  | _ => none

theorem run_yieldOp {P : Program} {o : Oper} {x : Operand} {as : Array Operand} {ats : Array TypeId} {ρ : Operand → Value} {l : Nat} {r : Loop} {w : World} (ho : o.op = .call { callee := .value x, args := as, argTypes := ats }) (hx : ρ x = .func (.yield l) #[] #[]) (hl : w.heap[l]? = some (.loop r)) (hs : as.size = r.params.size) :
    (execOp ρ o).run P w = .ok (.round l r.fn ((r.params.zip (as.map ρ)).foldl (fun tmps (t, a) => tmps.setIfInBounds t a) r.tmps) r.assign r.body) w := by
  have := run_yield (P := P) (args := as.map ρ) hl (by simpa using hs)
  simp only [execOp, ho, resolve, hx, Deferred.ofValue, Sem.run_bind, Sem.run_pure, Result.andThen_ok, invoke, Array.empty_append]
  exact this

/-- A call of yield: one round of the loop. -/
theorem OpOK.yield {x : Operand} {L : Nat} {as : Array Operand} {args : List AV} {ats : Array TypeId} {p0 p1 p2 : Option Code} {tm0 tm1 tm2 : List (Nat × TV)} {nt0 nt1 nt2 : Nat} {ps0 ps1 ps2 : Array Nat} {as0 as1 as2 bd0 bd1 bd2 : Code} {D0 D1 D2 : Nat} {sa sb : St} {e : Exit} {jump : Option Code}
    (hx : ev st.tm x = some (.v (.one (.yld L)))) (ha : evArgs st.tm as.toList = some args) (hL : lk st.hp L = some (.loop .ready p0 tm0 nt0 ps0 as0 bd0 D0)) (hlen : as.size = ps0.size) (hps : ps0.toList.all (fun t => Nat.blt t nt0) = true)
    (h1 : ExecOK E.P (some L) as0 ⟨putArgs ps0.toList args tm0, st.hp, st.tk, st.nx, nt0, []⟩ .normal sa)
    (h2 : lk sa.hp L = some (.loop .ready p1 tm1 nt1 ps1 as1 bd1 D1))
    (h3 : ExecOK E.P (some L) bd0 ⟨sa.tm, (L, .loop .busy p1 tm1 nt1 ps1 as1 bd1 D1) :: dropK L sa.hp, sa.tk, sa.nx, sa.nt, sa.df⟩ e sb)
    (h4 : lk sb.hp L = some (.loop .busy p2 tm2 nt2 ps2 as2 bd2 D2)) (he : jumpOf e = some jump) :
    OpOK E ⟨dd, .call { callee := .value x, args := as, argTypes := ats }, ty, pos, af, g⟩ st (TB jump.isNone) ⟨(L, .loop (if jump.isNone then .ready else .done) jump tm2 nt2 ps2 as2 bd2 D2) :: dropK L sb.hp, sb.tk, sb.nx⟩ := by
  intro V a w hr ro n K Q hK
  refine ⟨fun _ _ => trivial, ?_⟩
  rw [Oper.semAt_eq _ _ _ (by intro c h; cases h)]
  obtain ⟨hLnx, hv⟩ := hr.ev hx
  obtain ⟨-, ob, hob, hD, fn, tmps, rfl, hsz, htm⟩ := hr.h.own L _ hL
  rw [run_yieldOp rfl hv hob hlen]
  refine ⟨(by intro h; cases h), ?_⟩
  have har := args_rel hr ha
  obtain ⟨hal, -⟩ := evArgs_spec ha
  have hput := putArgs_rel (V := V) (w := w) ps0.toList args (as.map a.eval).toList tm0 tmps (by simpa using hal.symm) (fun i y hy => by
    obtain ⟨u, hu1, hu2⟩ := har.2 i y hy
    exact ⟨u, by simpa using hu1, hu2⟩) (fun t ht => by rw [hsz]; exact Nat.le_of_ble_eq_true (List.all_eq_true.1 hps t ht)) htm
  have hfold : (ps0.zip (as.map a.eval)).foldl (fun tmps (x : Nat × Value) => tmps.setIfInBounds x.1 x.2) tmps = (ps0.toList.zip (as.map a.eval).toList).foldl (fun tmps (p : Nat × Value) => tmps.setIfInBounds p.1 p.2) tmps := by
    rw [← Array.foldl_toList, Array.toList_zip]
  refine roundIn_of_wpIn (F := FR ro) trivial ?_
  have hR0 : Rel (E.at V w) V ⟨putArgs ps0.toList args tm0, st.hp, st.tk, st.nx, nt0, []⟩ { tmps := (ps0.zip (as.map a.eval)).foldl (fun tmps (x : Nat × Value) => tmps.setIfInBounds x.1 x.2) tmps, defers := [] } w :=
    ⟨hr.h.rebase, hr.nx, by rw [hfold, hput.1]; exact hsz, dfRel.nil, fun t y hy => by rw [hfold]; exact hput.2 t y hy⟩
  refine h1 (E.at V w) (some (V.ι L)) (n - 1) _ rfl ⟨hLnx, rfl⟩ ?_ V _ w hR0
  intro V1 a1 w1 hr1
  obtain ⟨hL1, ob1, hob1, hD1, fn1, tmps1, rfl, hsz1, htm1⟩ := hr1.h.own L _ h2
  have hι1 : V1.ι L = V.ι L := hr1.h.le0.ι L hLnx
  have hb := run_beginRound (P := E.P) hob1 rfl
  rw [hι1] at hb hob1
  refine ⟨_, hb, ?_⟩
  obtain ⟨H2, L2⟩ := hr1.h.putObj (o' := .loop { state := .busy, pending := p1, fn := fn1, tmps := tmps1, params := ps1, assign := as1, body := bd1, defers := V1.ι D1 }) (B' := .loop .busy p1 tm1 nt1 ps1 as1 bd1 D1) h2 (fun hle => ⟨hD1, fn1, tmps1, rfl, hsz1, fun t y hy => (htm1 t y hy).mono hle⟩)
  rw [hι1] at H2 L2
  have hR1 : Rel (E.at V w) V1 ⟨sa.tm, (L, .loop .busy p1 tm1 nt1 ps1 as1 bd1 D1) :: dropK L sa.hp, sa.tk, sa.nx, sa.nt, sa.df⟩ a1 _ :=
    ⟨H2.congr (fun j => lk_put L _ sa.hp j) (fun _ => rfl), hr1.nx, hr1.nt, hr1.df.le L2, fun t y hy => (hr1.tm t y hy).mono L2⟩
  refine h3 (E.at V w) (some (V.ι L)) (n - 1) _ rfl ⟨hLnx, rfl⟩ ?_ V1 a1 _ hR1
  intro V3 a3 w3 hr3
  obtain ⟨hL3, ob3, hob3, hD3, fn3, tmps3, rfl, hsz3, htm3⟩ := hr3.h.own L _ h4
  have hι3 : V3.ι L = V.ι L := hr3.h.le0.ι L hLnx
  have fin : ∃ v w', (Instr.endRound (V.ι L) jump).run E.P w3 = .ok v w' ∧ K (a.put dd v) w' := by
    have hb := run_endRound (P := E.P) jump hob3
    obtain ⟨H4, L4⟩ := hr3.h.putObj (o' := .loop { state := if jump.isNone then .ready else .done, pending := jump, fn := fn3, tmps := tmps3, params := ps2, assign := as2, body := bd2, defers := V3.ι D2 }) (B' := .loop (if jump.isNone then .ready else .done) jump tm2 nt2 ps2 as2 bd2 D2) h4 (fun hle => ⟨hD3, fn3, tmps3, rfl, hsz3, fun t y hy => (htm3 t y hy).mono hle⟩)
    obtain ⟨H5, L5⟩ := hr.h.back H4
    rw [hι3] at hb
    rw [hι3] at H5 L5
    refine ⟨_, _, hb, hK V3 _ _ (H5.congr (fun j => lk_put L _ sb.hp j) (fun _ => rfl)) hr3.nx L5 (rel_of rfl)⟩
  cases e with
  | normal => cases he; exact fin
  | ret => cases he; exact fin
  | exit id => cases he; exact fin
  | goto t => cases he
  | panic c => cases he
  | outgrown => cases he
end

/-! ### A function's body -/
def takeMarks : List Nat → List (Nat × HB) → Option (List (Nat × HB))
  | [], hp => some hp
  | D :: ds, hp => match lk hp D with
    | some (.obj (.deferred (some []))) => takeMarks ds (dropK D hp)
    | _ => none

theorem HRel.drop {E : Env} {V : Vu} {hp : List (Nat × HB)} {tk : List (Nat × Option Tok)} {w : World} (h : HRel E V hp tk w) (i : Nat) : HRel E V (dropK i hp) tk w := h.forget (fun j B hj => (lk_dropK_some hj).1) (fun j T hj => hj)

theorem leaves_marks {E : Env} {V : Vu} {tk : List (Nat × Option Tok)} {n : Nat} {P : Program} {fn : Func} {tmps : Array Value} {R : Ending → World → Prop} : ∀ (df : List Nat) (ds : List Deferred) (hp hp' : List (Nat × HB)) (w : World), HRel E V hp tk w → dfRel V df ds → takeMarks df hp = some hp' →
    (∀ w', HRel E V hp' tk w' → V.Le V w w' → ∃ v, (results fn tmps).run P w' = .ok v w' ∧ R (.returned v) w') → LeavesInM Fence.wide n P fn tmps R ds .returning w
  | [], ds, hp, hp', w, h, hd, ht, hK => by
    rw [show ds = [] from hd.2]
    cases ht
    exact hK w h (Vu.Le.refl _ _)
  | D :: df, ds, hp, hp', w, h, hd, ht, hK => by
    rw [show ds = _ from hd.2]
    simp only [takeMarks] at ht
    split at ht
    · rename_i hD
      obtain ⟨hDn, o, ho, hrel⟩ := h.own D _ hD
      have ho' : o = .deferred (some []) := hrel
      subst ho'
      refine ⟨by simp, .inl ⟨V.ι D, _, rfl, run_takeDeferred ho, ?_⟩⟩
      obtain ⟨H, L⟩ := h.putObj (o' := .deferred none) (B' := .obj (.deferred none)) hD (fun _ => rfl)
      refine leaves_marks df _ _ hp' _ ((H.drop D).congr (hp' := dropK D hp) (fun j => ?_) (fun _ => rfl)) ⟨fun i hi => hd.1 i (by simp [hi]), rfl⟩ ht (fun w' hw' L' => hK w' hw' (L.trans L'))
      rw [lk_dropK, lk_dropK, lk_cons]
      split
      · rfl
      · rename_i e; rw [if_neg (fun e' => e e'.symm)]
    · cases ht

/-- The results, read at the end. -/
inductive RAs (P : Program) (st : St) : List ResultVar → List AV → Prop
  | nil : RAs P st [] []
  | cons {r : ResultVar} {rs : List ResultVar} {x : AV} {xs : List AV} (h : ∀ E : Env, E.P = P → RA E st r x) (t : RAs P st rs xs) : RAs P st (r :: rs) (x :: xs)

def resOf : List AV → TV
  | [x] => .v x
  | xs => .tup xs

theorem RAs.get {P : Program} {st : St} : ∀ {rs : List ResultVar} {xs : List AV}, RAs P st rs xs → ∀ {E : Env} {V : Vu} {a : Act} {w : World}, E.P = P → Rel E V st a w → ∃ us : List Value, rs.length = us.length ∧ us.length = xs.length ∧
    (∀ (i : Nat) (r : ResultVar), rs[i]? = some r → ∃ u, us[i]? = some u ∧ loadR P a.tmps w u r) ∧ ∀ (i : Nat) (x : AV) (u : Value), xs[i]? = some x → us[i]? = some u → x.rel V w u := by
  intro rs xs h
  induction h with
  | nil => intro E V a w _ _; exact ⟨[], rfl, rfl, fun i r hr => by simp at hr, fun i x u hx => by simp at hx⟩
  | cons h t ih =>
    intro E V a w hP hr
    obtain ⟨us, h1, h2, h3, h4⟩ := ih hP hr
    obtain ⟨u, h5, h6⟩ := h E hP V a w hr
    refine ⟨u :: us, by simp [h1], by simp [h2], fun i r hi => ?_, fun i x u' hx hu' => ?_⟩
    · cases i with
      | zero => simp at hi; subst hi; exact ⟨u, rfl, by rw [← hP]; exact h5⟩
      | succ i => exact h3 i r (by simpa using hi)
    · cases i with
      | zero => simp at hx hu'; subst hx; subst hu'; exact h6
      | succ i => exact h4 i x u' (by simpa using hx) (by simpa using hu')

theorem results_run {P : Program} {fn : Func} {st : St} {xs : List AV} {E : Env} {V : Vu} {a : Act} {w : World} (h : RAs P st fn.results.toList xs) (hP : E.P = P) (hr : Rel E V st a w) : ∃ v, (results fn a.tmps).run P w = .ok v w ∧ (resOf xs).rel V w v := by
  obtain ⟨us, h1, h2, h3, h4⟩ := h.get hP hr
  by_cases hn : us.length = 1
  · obtain ⟨u, rfl⟩ : ∃ u, us = [u] := by match us, hn with | [u], _ => exact ⟨u, rfl⟩
    obtain ⟨x, rfl⟩ : ∃ x, xs = [x] := by match xs, h2 with | [x], _ => exact ⟨x, rfl⟩
    obtain ⟨r, hrr⟩ : ∃ r, fn.results.toList = [r] := by match hq : fn.results.toList, h1 with | [r], _ => exact ⟨r, rfl⟩
    obtain ⟨u', hu', hl⟩ := h3 0 r (by rw [hrr]; rfl)
    simp at hu'; subst hu'
    have hre : fn.results = #[r] := by apply Array.ext'; simpa using hrr
    refine ⟨u, ?_, h4 0 x u rfl rfl⟩
    cases r with
    | tmp t =>
      have e1 : a.tmps.getD t undef = u := hl
      simp only [Array.getD_eq_getD_getElem?] at e1
      simp [results, hre, e1]
    | cell ad t =>
      obtain ⟨p, e1, e2⟩ := hl
      simp only [Array.getD_eq_getD_getElem?] at e1
      simp [results, hre, e1, e2, asAddr]
  · refine ⟨_, results_of rfl h1 h3 hn, ?_⟩
    have : resOf xs = .tup xs := by
      match xs, h2 with
      | [], _ => rfl
      | [x], h2 => simp at h2; exact absurd h2 hn
      | x :: y :: l, _ => rfl
    rw [this]
    exact tup_rel h2 h4

theorem CallM.of_exec {P : Program} {f : FuncId} {fn : Func} {c : Code} {args : List AV} {m : Mem} {st' : St} {e : Exit} {hp' : List (Nat × HB)} {xs : List AV} (hf : P.funcs[f]? = some fn) (hb : fn.body = some c) (hen : Enters P f) (hnt : args.length ≤ fn.ntmps)
    (h : ExecOK P none c ⟨entry 0 args, m.hp, m.tk, m.nx, fn.ntmps, []⟩ e st') (he : e = .normal ∨ e = .ret) (hdf : takeMarks st'.df st'.hp = some hp') (hres : RAs P ⟨st'.tm, hp', st'.tk, st'.nx, st'.nt, []⟩ fn.results.toList xs) :
    CallM P f args m (resOf xs) ⟨hp', st'.tk, st'.nx⟩ := by
  refine ⟨hen, fun E V w vs hP H hn hargs => ?_⟩
  refine (callsIn_wide (n := 0)).1 (callsIn_of_wp_marks (F := Fence.wide) hf hb trivial ?_)
  have hR0 : Rel (E.at V w) V ⟨entry 0 args, m.hp, m.tk, m.nx, fn.ntmps, []⟩ { tmps := vs ++ Array.replicate (fn.ntmps - vs.size) undef, defers := [] } w := by
    refine ⟨H.rebase, hn, by simp [hargs.1]; omega, dfRel.nil, fun t x hx => ?_⟩
    obtain ⟨k, y, h1, h2, rfl⟩ := lk_entry args 0 t x hx
    obtain ⟨u, hu, hy⟩ := hargs.2 k y h2
    have hk : k < vs.size := (Array.getElem?_eq_some_iff.1 hu).1
    have : (vs ++ Array.replicate (fn.ntmps - vs.size) undef).getD t undef = u := by
      rw [show t = k by omega, Array.getD_eq_getD_getElem?, Array.getElem?_append_left hk, hu]; rfl
    rw [this]; exact hy
  have key : ∀ (V1 : Vu) (a1 : Act) (w1 : World), Rel (E.at V w) V1 st' a1 w1 → LeavesInM Fence.wide 0 P fn a1.tmps (fun e w' => ∃ v V', e = .returned v ∧ HRel E V' hp' st'.tk w' ∧ V'.nx = st'.nx ∧ V.Le V' w w' ∧ (resOf xs).rel V' w' v) a1.defers .returning w1 := by
    intro V1 a1 w1 hr1
    refine leaves_marks st'.df a1.defers st'.hp hp' w1 hr1.h hr1.df hdf (fun w' H' L' => ?_)
    have hr' : Rel (E.at V w) V1 ⟨st'.tm, hp', st'.tk, st'.nx, st'.nt, []⟩ { tmps := a1.tmps, defers := [] } w' := ⟨H', hr1.nx, hr1.nt, dfRel.nil, fun t x hx => (hr1.tm t x hx).mono L'⟩
    obtain ⟨v, h1, h2⟩ := results_run (E := E.at V w) hres hP hr'
    obtain ⟨H5, L5⟩ := H.back H'
    exact ⟨v, h1, v, V1, rfl, H5, hr1.nx, L5, h2⟩
  have := h (E.at V w) none 0 (bodyPostM Fence.wide 0 P fn (fun e w' => ∃ v V', e = .returned v ∧ HRel E V' hp' st'.tk w' ∧ V'.nx = st'.nx ∧ V.Le V' w w' ∧ (resOf xs).rel V' w' v)) hP rfl (by
    rcases he with rfl | rfl
    · exact key
    · exact key) V _ w hR0
  rw [show (E.at V w).P = P from hP] at this
  exact this

/-! ### A range over a function -/
theorem rangeFunc_out {P : Program} {g : Operand} {ps : Array Nat} {assign body : Code} {st : St} {gf : FuncId} {caps : List (Nat × Nat)} {res : TV} {m2 : Mem} {s : LoopState} {jump : Option Code} {e : Exit} {tm2 : List (Nat × TV)} {nt2 : Nat} {ps2 : Array Nat} {as2 bd2 : Code} {D2 : Nat}
    (hg : ev st.tm g = some (.v (.one (.fn gf caps))))
    (hc : CallM P gf (.one (.yld (st.nx + 1)) :: ptrs caps) ⟨(st.nx + 1, .loop .ready none st.tm st.nt ps assign body st.nx) :: (st.nx, .obj (.deferred (some []))) :: st.hp, st.tk, st.nx + 2⟩ res m2)
    (hL : lk m2.hp (st.nx + 1) = some (.loop s jump tm2 nt2 ps2 as2 bd2 D2)) (hs : s ≠ .busy) (he : jumpOf e = some jump) :
    ExecOK P none (.rangeFunc g ps assign body) st e ⟨st.tm, dropK (st.nx + 1) m2.hp, m2.tk, m2.nx, st.nt, st.nx :: st.df⟩ := by
  intro E ro n Q hP hro hQ V a w hr
  subst hP
  cases hro
  refine wpIn_rangeFunc (fun fn _ => ?_)
  obtain ⟨hv1, hv2⟩ := hr.ev hg
  have H1 := hr.h.addOwn (.deferred (some [])) (.obj (.deferred (some []))) rfl
  have L1 := hr.h.le (w' := w.alloc (.deferred (some []))) ⟨rfl, rfl, rfl, by simp, fun k hk _ => Below.heap_alloc w _ k hk⟩ (V.add_grow w.heap.size hr.h.sz ⟨rfl, rfl, rfl, by simp, fun k hk _ => Below.heap_alloc w _ k hk⟩)
  have L2 := H1.le (w' := (w.alloc (.deferred (some []))).alloc (.loop { state := .ready, pending := none, fn := fn, tmps := a.tmps, params := ps, assign := assign, body := body, defers := w.heap.size })) ⟨rfl, rfl, rfl, by simp, fun k hk _ => Below.heap_alloc _ _ k hk⟩ (Vu.add_grow _ (w.alloc (.deferred (some []))).heap.size H1.sz ⟨rfl, rfl, rfl, by simp, fun k hk _ => Below.heap_alloc _ _ k hk⟩)
  have hι : ((V.add w.heap.size).add (w.alloc (.deferred (some []))).heap.size).ι V.nx = w.heap.size := by
    rw [L2.ι V.nx (Nat.lt_succ_self _), V.add_at]
  have H2 := H1.addOwn (.loop { state := .ready, pending := none, fn := fn, tmps := a.tmps, params := ps, assign := assign, body := body, defers := w.heap.size }) (.loop .ready none st.tm st.nt ps assign body V.nx)
    ⟨Nat.lt_of_lt_of_le (Nat.lt_succ_self _) (Nat.le_succ _), fn, a.tmps, by rw [hι], hr.nt, fun t x hx => ((hr.tm t x hx).mono L1).mono L2⟩
  have L12 := L1.trans L2
  generalize hV2 : (V.add w.heap.size).add (w.alloc (.deferred (some []))).heap.size = V2 at H2 L2 L12 hι
  have hnx2 : V2.nx = st.nx + 2 := by rw [← hV2]; show V.nx + 1 + 1 = _; rw [hr.nx]
  have hιL : V2.ι (V.nx + 1) = w.heap.size + 1 := by
    rw [← hV2]
    have := (V.add w.heap.size).add_at (w.alloc (.deferred (some []))).heap.size
    rw [World.size_alloc] at this
    rw [World.size_alloc]; exact this
  have hcl : (V.add w.heap.size).nx = V.nx + 1 := rfl
  rw [hcl] at H2
  rw [hr.nx] at H2 hιL hι
  obtain ⟨W2, hW2⟩ : ∃ W2, (w.alloc (.deferred (some []))).alloc (.loop { state := .ready, pending := none, fn := fn, tmps := a.tmps, params := ps, assign := assign, body := body, defers := w.heap.size }) = W2 := ⟨_, rfl⟩
  rw [hW2] at H2 L12
  refine ⟨w.heap.size + 1, [{ target := .collected w.heap.size, args := #[] }], W2, { target := .fn (.func gf) (caps.map fun p => Value.pointer (some ⟨V.ι p.1, p.2, none⟩)).toArray, args := #[.func (.yield (w.heap.size + 1)) #[] #[]] }, W2, gf,
    #[.func (.yield (w.heap.size + 1)) #[] #[]] ++ (caps.map fun p => Value.pointer (some ⟨V.ι p.1, p.2, none⟩)).toArray, W2, ?_, ?_, ?_, ?_, (by intro h; cases h), ?_⟩
  · rw [← hW2]; exact run_enterLoop_outer fn a.tmps ps assign body
  · simp only [resolve, hv2]
    simp [go_sem]
  · exact fun _ _ => trivial
  · have := hc.1 (#[.func (.yield (w.heap.size + 1)) #[] #[]] ++ (caps.map fun p => Value.pointer (some ⟨V.ι p.1, p.2, none⟩)).toArray) W2
    simp only [invoke]; exact this
  · have hargs : argsRel V2 W2 (.one (.yld (st.nx + 1)) :: ptrs caps) (#[.func (.yield (w.heap.size + 1)) #[] #[]] ++ (caps.map fun p => Value.pointer (some ⟨V.ι p.1, p.2, none⟩)).toArray) := by
      have h1 : argsRel V2 W2 [.one (.yld (st.nx + 1))] #[.func (.yield (w.heap.size + 1)) #[] #[]] := ⟨rfl, fun i y hy => by
        match i, hy with
        | 0, hy => cases hy; exact ⟨_, rfl, by rw [hnx2]; omega, by rw [hιL]; rfl⟩⟩
      have h2 : argsRel V2 W2 (ptrs caps) (caps.map fun p => Value.pointer (some ⟨V.ι p.1, p.2, none⟩)).toArray := by
        have h3 := ptrs_rel (V := V2) (w := W2) (caps := caps) (fun p hp => Nat.lt_of_lt_of_le (hv1 p hp) L12.nx)
        rw [List.map_congr_left (g := fun p => Value.pointer (some ⟨V.ι p.1, p.2, none⟩)) (fun p hp => by rw [L12.ι p.1 (hv1 p hp)])] at h3
        exact h3
      exact h1.append h2
    have hcall := hc.2 E V2 W2 _ rfl H2 hnx2 hargs
    have hcall' : CallsIn Fence.wide (n - 1) E.P gf _ W2 _ := callsIn_wide.2 hcall
    refine CallsIn.mono (F := FR none) hcall' ?_
    rintro e' w3 ⟨v, V3, rfl, H3, hn3, L3, -⟩
    obtain ⟨hL3, ob3, hob3, hD3, fn3, tmps3, rfl, hsz3, htm3⟩ := H3.own _ _ hL
    have hι3 : V3.ι (st.nx + 1) = w.heap.size + 1 := by rw [L3.ι _ (by rw [hnx2]; omega)]; exact hιL
    have hend := run_endLoop (P := E.P) hob3 hs
    obtain ⟨H4, L4⟩ := H3.putObj (o' := .loop { state := .exhausted, pending := jump, fn := fn3, tmps := tmps3, params := ps2, assign := as2, body := bd2, defers := V3.ι D2 }) (B' := .loop .exhausted jump tm2 nt2 ps2 as2 bd2 D2) hL (fun hle => ⟨hD3, fn3, tmps3, rfl, hsz3, fun t y hy => (htm3 t y hy).mono hle⟩)
    rw [hι3] at hend H4 L4
    have hR : Rel E V3 ⟨st.tm, dropK (st.nx + 1) m2.hp, m2.tk, m2.nx, st.nt, st.nx :: st.df⟩ { a with defers := [{ target := .collected w.heap.size, args := #[] }] ++ a.defers } (w3.putObj (w.heap.size + 1) (.loop { state := .exhausted, pending := jump, fn := fn3, tmps := tmps3, params := ps2, assign := as2, body := bd2, defers := V3.ι D2 })) := by
      have L := (L12.trans L3).trans L4
      have hd := hr.df.le L
      refine ⟨(H4.drop (st.nx + 1)).congr (fun j => ?_) (fun _ => rfl), hn3, hr.nt, ⟨fun i hi => ?_, ?_⟩, fun t x hx => (hr.tm t x hx).mono L⟩
      · rw [lk_dropK, lk_dropK, lk_cons]
        split
        · rfl
        · rename_i e; rw [if_neg (fun e' => e e'.symm)]
      · rcases List.mem_cons.1 hi with rfl | hi
        · have := L3.nx; rw [hnx2] at this; omega
        · exact hd.1 i hi
      · have e1 : V3.ι st.nx = w.heap.size := by rw [L3.ι _ (by rw [hnx2]; omega)]; exact hι
        simp only [List.map_cons, e1, List.cons_append, List.nil_append]
        rw [hd.2]
    refine ⟨jump, _, hend, ?_⟩
    cases e with
    | normal => cases he; exact hQ V3 _ _ hR
    | ret => cases he; exact wpIn_ret (hQ V3 _ _ hR)
    | exit id => cases he; exact wpIn_exit (hQ V3 _ _ hR)
    | goto t => cases he
    | panic c => cases he
    | outgrown => cases he

theorem rangeFunc_in {P : Program} {g : Operand} {ps : Array Nat} {assign body : Code} {st : St} {gf : FuncId} {caps : List (Nat × Nat)} {res : TV} {m2 : Mem} {s s0 : LoopState} {jump p0 : Option Code} {e : Exit} {tm2 tm0 : List (Nat × TV)} {nt2 nt0 : Nat} {ps2 ps0 : Array Nat} {as2 bd2 as0 bd0 : Code} {D2 D0 L0 : Nat}
    (hg : ev st.tm g = some (.v (.one (.fn gf caps)))) (h0 : lk st.hp L0 = some (.loop s0 p0 tm0 nt0 ps0 as0 bd0 D0))
    (hc : CallM P gf (.one (.yld st.nx) :: ptrs caps) ⟨(st.nx, .loop .ready none st.tm st.nt ps assign body D0) :: st.hp, st.tk, st.nx + 1⟩ res m2)
    (hL : lk m2.hp st.nx = some (.loop s jump tm2 nt2 ps2 as2 bd2 D2)) (hs : s ≠ .busy) (he : jumpOf e = some jump) :
    ExecOK P (some L0) (.rangeFunc g ps assign body) st e ⟨st.tm, dropK st.nx m2.hp, m2.tk, m2.nx, st.nt, st.df⟩ := by
  intro E ro n Q hP hro hQ V a w hr
  subst hP
  obtain ⟨hL0, rfl⟩ := hro
  refine wpIn_rangeFunc (fun fn _ => ?_)
  obtain ⟨hv1, hv2⟩ := hr.ev hg
  obtain ⟨-, ob0, hob0, hD0, fn0, tmps0, rfl, hsz0, htm0⟩ := hr.h.own L0 _ h0
  have hι0 : V.ι L0 = E.V0.ι L0 := hr.h.le0.ι L0 hL0
  have H1 := hr.h.addOwn (.loop { state := .ready, pending := none, fn := fn, tmps := a.tmps, params := ps, assign := assign, body := body, defers := V.ι D0 }) (.loop .ready none st.tm st.nt ps assign body D0)
    (by
      have L1 := hr.h.le (w' := w.alloc (.loop { state := .ready, pending := none, fn := fn, tmps := a.tmps, params := ps, assign := assign, body := body, defers := V.ι D0 })) ⟨rfl, rfl, rfl, by simp, fun k hk _ => Below.heap_alloc w _ k hk⟩ (V.add_grow w.heap.size hr.h.sz ⟨rfl, rfl, rfl, by simp, fun k hk _ => Below.heap_alloc w _ k hk⟩)
      exact ⟨Nat.lt_of_lt_of_le hD0 L1.nx, fn, a.tmps, by rw [L1.ι D0 hD0], hr.nt, fun t x hx => (hr.tm t x hx).mono L1⟩)
  have L1 := hr.h.le (w' := w.alloc (.loop { state := .ready, pending := none, fn := fn, tmps := a.tmps, params := ps, assign := assign, body := body, defers := V.ι D0 })) ⟨rfl, rfl, rfl, by simp, fun k hk _ => Below.heap_alloc w _ k hk⟩ (V.add_grow w.heap.size hr.h.sz ⟨rfl, rfl, rfl, by simp, fun k hk _ => Below.heap_alloc w _ k hk⟩)
  have hιL : (V.add w.heap.size).ι V.nx = w.heap.size := V.add_at _
  generalize hV2 : V.add w.heap.size = V2 at H1 L1 hιL
  have hnx2 : V2.nx = st.nx + 1 := by rw [← hV2]; show V.nx + 1 = _; rw [hr.nx]
  rw [hr.nx] at H1 hιL
  obtain ⟨W2, hW2⟩ : ∃ W2, w.alloc (.loop { state := .ready, pending := none, fn := fn, tmps := a.tmps, params := ps, assign := assign, body := body, defers := V.ι D0 }) = W2 := ⟨_, rfl⟩
  rw [hW2] at H1 L1
  refine ⟨w.heap.size, [], W2, { target := .fn (.func gf) (caps.map fun p => Value.pointer (some ⟨V.ι p.1, p.2, none⟩)).toArray, args := #[.func (.yield w.heap.size) #[] #[]] }, W2, gf,
    #[.func (.yield w.heap.size) #[] #[]] ++ (caps.map fun p => Value.pointer (some ⟨V.ι p.1, p.2, none⟩)).toArray, W2, ?_, ?_, ?_, ?_, (by intro h; cases h), ?_⟩
  · rw [← hW2]
    rw [hι0] at hob0
    unfold Instr.enterLoop
    simp only [FR, Sem.run_bind, run_getLoop hob0, run_newObj_alloc, Result.andThen, Sem.run_pure]
  · simp only [resolve, hv2]
    simp [go_sem]
  · exact fun _ _ => trivial
  · have := hc.1 (#[.func (.yield w.heap.size) #[] #[]] ++ (caps.map fun p => Value.pointer (some ⟨V.ι p.1, p.2, none⟩)).toArray) W2
    simp only [invoke]; exact this
  · have hargs : argsRel V2 W2 (.one (.yld st.nx) :: ptrs caps) (#[.func (.yield w.heap.size) #[] #[]] ++ (caps.map fun p => Value.pointer (some ⟨V.ι p.1, p.2, none⟩)).toArray) := by
      have h1 : argsRel V2 W2 [.one (.yld st.nx)] #[.func (.yield w.heap.size) #[] #[]] := ⟨rfl, fun i y hy => by
        match i, hy with
        | 0, hy => cases hy; exact ⟨_, rfl, by rw [hnx2]; omega, by rw [hιL]; rfl⟩⟩
      have h2 : argsRel V2 W2 (ptrs caps) (caps.map fun p => Value.pointer (some ⟨V.ι p.1, p.2, none⟩)).toArray := by
        have h3 := ptrs_rel (V := V2) (w := W2) (caps := caps) (fun p hp => Nat.lt_of_lt_of_le (hv1 p hp) L1.nx)
        rw [List.map_congr_left (g := fun p => Value.pointer (some ⟨V.ι p.1, p.2, none⟩)) (fun p hp => by rw [L1.ι p.1 (hv1 p hp)])] at h3
        exact h3
      exact h1.append h2
    have hcall := hc.2 E V2 W2 _ rfl H1 hnx2 hargs
    have hcall' : CallsIn Fence.wide (n - 1) E.P gf _ W2 _ := callsIn_wide.2 hcall
    refine CallsIn.mono (F := FR (some (E.V0.ι L0))) hcall' ?_
    rintro e' w3 ⟨v, V3, rfl, H3, hn3, L3, -⟩
    obtain ⟨hL3, ob3, hob3, hD3, fn3, tmps3, rfl, hsz3, htm3⟩ := H3.own _ _ hL
    have hι3 : V3.ι st.nx = w.heap.size := by rw [L3.ι _ (by rw [hnx2]; omega)]; exact hιL
    have hend := run_endLoop (P := E.P) hob3 hs
    obtain ⟨H4, L4⟩ := H3.putObj (o' := .loop { state := .exhausted, pending := jump, fn := fn3, tmps := tmps3, params := ps2, assign := as2, body := bd2, defers := V3.ι D2 }) (B' := .loop .exhausted jump tm2 nt2 ps2 as2 bd2 D2) hL (fun hle => ⟨hD3, fn3, tmps3, rfl, hsz3, fun t y hy => (htm3 t y hy).mono hle⟩)
    rw [hι3] at hend H4 L4
    have hR : Rel E V3 ⟨st.tm, dropK st.nx m2.hp, m2.tk, m2.nx, st.nt, st.df⟩ { a with defers := [] ++ a.defers } (w3.putObj w.heap.size (.loop { state := .exhausted, pending := jump, fn := fn3, tmps := tmps3, params := ps2, assign := as2, body := bd2, defers := V3.ι D2 })) := by
      have L := (L1.trans L3).trans L4
      refine ⟨(H4.drop st.nx).congr (fun j => ?_) (fun _ => rfl), hn3, hr.nt, hr.df.le L, fun t x hx => (hr.tm t x hx).mono L⟩
      rw [lk_dropK, lk_dropK, lk_cons]
      split
      · rfl
      · rename_i e; rw [if_neg (fun e' => e e'.symm)]
    refine ⟨jump, _, hend, ?_⟩
    cases e with
    | normal => cases he; exact hQ V3 _ _ hR
    | ret => cases he; exact wpIn_ret (hQ V3 _ _ hR)
    | exit id => cases he; exact wpIn_exit (hQ V3 _ _ hR)
    | goto t => cases he
    | panic c => cases he
    | outgrown => cases he
end Go.Proofs.YtcapifnaceegmaaGreatDoor
