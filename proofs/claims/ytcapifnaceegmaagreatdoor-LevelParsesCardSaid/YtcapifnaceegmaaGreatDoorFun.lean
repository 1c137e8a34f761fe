/- A function's beginning and its end; loops; regions that draw their order. -/
import Derived.Test.YtcapifnaceegmaaGreatDoorWrite
namespace Go.Proofs.YtcapifnaceegmaaGreatDoor
open Go.RowKit
set_option linter.unusedSimpArgs false
set_option linter.unusedVariables false
set_option linter.unusedSectionVars false

/-- The frame of a call, as far as it is known. -/
def entry : Nat → List AV → List (Nat × TV)
  | _, [] => []
  | i, x :: xs => (i, .v x) :: entry (i + 1) xs

theorem lk_entry : ∀ (args : List AV) (i t : Nat) (x : TV), lk (entry i args) t = some x → ∃ k y, t = i + k ∧ args[k]? = some y ∧ x = .v y
  | [], i, t, x, h => by cases h
  | y :: ys, i, t, x, h => by
    simp only [entry, lk_cons] at h
    split at h
    · rename_i e; cases h; exact ⟨0, y, e.symm, rfl, rfl⟩
    · obtain ⟨k, z, h1, h2, h3⟩ := lk_entry ys (i + 1) t x h
      exact ⟨k + 1, z, by omega, by simpa using h2, h3⟩

/-- What the walk of a body owes at its return. -/
def FunPost (P : Program) (fn : Func) (S : Nat → Nat → Prop) (w : World) (res : TV) : Exit → Act → World → Prop :=
  bodyPost P fn fun e w' => ∃ v S', e = .returned v ∧ ExtF w w' ∧ (∀ b o, S b o → S' b o) ∧ (∀ b o, S' b o → (S b o ∨ w.heap.size ≤ b) ∧ b < w'.heap.size) ∧ res.rel (Vu.of S') w' v

def EnvF (P : Program) (w : World) (S : Nat → Nat → Prop) : Env := ⟨P, w, fun _ => False, Vu.of S⟩

theorem Fun.of_body {P : Program} {f : FuncId} {fn : Func} {c : Code} {args : List AV} {res : TV} (n nt : Nat) (hf : P.funcs[f]? = some fn) (hb : fn.body = some c) (hen : Enters P f) (hn : fn.ntmps = nt) (hnt : args.length ≤ nt)
    (h : ∀ (S : Nat → Nat → Prop) (w : World), XC (EnvF P w S) none n (FunPost P fn S w res) c ⟨entry 0 args, [], [], 0, nt, []⟩) : Fun P f args res := by
  subst hn
  refine ⟨hen, fun S w vs hS hargs => ?_⟩
  refine (callsIn_wide (n := n)).1 (callsIn_of_wp (F := Fence.wide) hf hb trivial ?_)
  refine h S w (Vu.of S) _ w ⟨⟨ExtM.refl _ _, Vu.Le.refl _ _, hS, fun b o h => .inl h, ?_, ?_, ?_, ?_, ?_⟩, rfl, ?_, dfRel.nil, ?_⟩
  · intro i B hi; cases hi
  · intro i j A B hi; cases hi
  · intro i B hi; cases hi
  · intro i T hi; cases hi
  · intro i j T U g hi; cases hi
  · simp [hargs.1]; omega
  · intro t x hx
    obtain ⟨k, y, h1, h2, rfl⟩ := lk_entry args 0 t x hx
    obtain ⟨u, hu, hy⟩ := hargs.2 k y h2
    have hk : k < vs.size := (Array.getElem?_eq_some_iff.1 hu).1
    have : (vs ++ Array.replicate (fn.ntmps - vs.size) undef).getD t undef = u := by
      rw [show t = k by omega, Array.getD_eq_getD_getElem?, Array.getElem?_append_left hk, hu]; rfl
    rw [this]; exact hy

section
variable {E : Env} {st : St}

/-- A result variable, read at the end. -/
def loadR (P : Program) (tmps : Array Value) (w : World) (v : Value) : ResultVar → Prop
  | .tmp t => tmps.getD t undef = v
  | .cell ad t => ∃ p, tmps.getD ad undef = .pointer (some p) ∧ (loadVar t p).run P w = .ok v w

def RA (E : Env) (st : St) (r : ResultVar) (x : AV) : Prop := ∀ V a w, Rel E V st a w → ∃ v, loadR E.P a.tmps w v r ∧ x.rel V w v

theorem RA.tmp {t : Nat} {x : AV} (h : lk st.tm t = some (.v x)) : RA E st (.tmp t) x := fun V a w hr => ⟨_, rfl, hr.tm t _ h⟩

theorem run_loadVar_of_at {P : Program} {w : World} {t : TypeId} {p : Addr} {v : Value} (h : (Instr.loadAt t (.pointer (some p))).run P w = .ok v w) : (loadVar t p).run P w = .ok v w := by
  simpa [Instr.loadAt, Instr.sureAddr] using h

theorem RA.cell {ad t n i off : Nat} {T : TypeId} {xs : List CA} {y : CA} (ht : tyAgg E.P t = some (false, n)) (h : lk st.tm ad = some (.v (.one (.ptr i off)))) (hi : lk st.hp i = some (.cells T xs)) (hy : xs[off]? = some y) : RA E st (.cell ad t) (.one y) := fun V a w hr => by
  obtain ⟨v, h1, h2⟩ := (RO.loadOwn (E := E) (st := st) (d := none) (ty := 0) (pos := "") (af := #[]) (g := none) (x := .tmp ad) ht h hi hy).2 V a w hr
  have h3 := (hr.tm ad _ h).2
  simp only [execOp, Act.eval, h3] at h1
  have h4 : (Instr.loadAt t (.pointer (some ⟨V.ι i, off, none⟩))).run E.P w = .ok v w := by
    revert h1
    cases hq : (Instr.loadAt t (.pointer (some ⟨V.ι i, off, none⟩))).run E.P w <;> simp [hq]
  exact ⟨v, ⟨_, h3, run_loadVar_of_at h4⟩, h2⟩

theorem RA.cellAgg {ad t n i off : Nat} {T : TypeId} {xs ys : List CA} (ht : tyAgg E.P t = some (true, n)) (h : lk st.tm ad = some (.v (.one (.ptr i off)))) (hi : lk st.hp i = some (.cells T xs)) (hy : (xs.drop off).take n = ys) (hn : ys.length = n) : RA E st (.cell ad t) (.agg ys) := fun V a w hr => by
  obtain ⟨v, h1, h2⟩ := (RO.loadOwnAgg (E := E) (st := st) (d := none) (ty := 0) (pos := "") (af := #[]) (g := none) (x := .tmp ad) ht h hi hy hn).2 V a w hr
  have h3 := (hr.tm ad _ h).2
  simp only [execOp, Act.eval, h3] at h1
  have h4 : (Instr.loadAt t (.pointer (some ⟨V.ι i, off, none⟩))).run E.P w = .ok v w := by
    revert h1
    cases hq : (Instr.loadAt t (.pointer (some ⟨V.ι i, off, none⟩))).run E.P w <;> simp [hq]
  exact ⟨v, ⟨_, h3, run_loadVar_of_at h4⟩, h2⟩
end

section
variable {P : Program} {fn : Func} {S : Nat → Nat → Prop} {w0 : World} {st : St} {Q : Exit → Act → World → Prop} {e : Exit}

theorem funPost_of {V : Vu} {a : Act} {w : World} (hr : Rel (EnvF P w0 S) V st a w) (hdf : st.df = []) {res : TV} {v : Value} (hv : (results fn a.tmps).run P w = .ok v w) (hres : res.rel (Vu.of V.S) w v) :
    FunPost P fn S w0 res .ret a w := by
  refine ⟨(by have := hr.df.2; rw [hdf] at this; exact this), v, hv, v, V.S, rfl, hr.h.ext, hr.h.le0.S, fun b o h => ⟨?_, hr.h.sz b o h⟩, hres⟩
  rcases hr.h.sub b o h with h1 | h1 | h1
  · exact .inl h1
  · exact .inr h1
  · exact h1.elim

theorem XQ.ret1 {r : ResultVar} {x y : AV} (hQ : ∀ a w, FunPost P fn S w0 (.v y) .ret a w → Q e a w) (hres : fn.results = #[r]) (h : RA (EnvF P w0 S) st r x) (hs : ASub x y) (hdf : st.df = []) : XQ (EnvF P w0 S) Q e st := by
  intro V a w hr
  obtain ⟨v, h1, h2⟩ := h V a w hr
  refine hQ a w (funPost_of hr hdf ?_ (hs.rel h2))
  cases r with
  | tmp t => subst h1; simp [results, hres]
  | cell ad t => obtain ⟨p, e1, e2⟩ := h1; simp only [Array.getD_eq_getD_getElem?] at e1; simp only [EnvF] at e2; simp [results, hres, e1, e2, asAddr]

theorem tup_rel {V : Vu} {w : World} {xs : List AV} {us : List Value} (hl : us.length = xs.length) (h : ∀ (i : Nat) (x : AV) (u : Value), xs[i]? = some x → us[i]? = some u → x.rel V w u) : (TV.tup xs).rel V w (.tuple us.toArray) := by
  refine ⟨_, rfl, by simpa using hl, fun i x hx => ?_⟩
  have hi : i < us.length := by have := (List.getElem?_eq_some_iff.1 hx).1; omega
  exact ⟨us[i], by simp [hi], h i x _ hx (List.getElem?_eq_getElem hi)⟩

def getR (tmps : Array Value) : ResultVar → Sem Value
  | .tmp t => pure (tmps.getD t undef)
  | .cell a t => do loadVar t (← asAddr (tmps.getD a undef))

theorem run_getR {P : Program} {tmps : Array Value} {w : World} {v : Value} {r : ResultVar} (h : loadR P tmps w v r) : (getR tmps r).run P w = .ok v w := by
  cases r with
  | tmp t => simp only [loadR] at h; simp only [getR, h]; rfl
  | cell ad t => obtain ⟨p, e1, e2⟩ := h; simp only [getR, e1, asAddr, Sem.run_bind, Sem.run_pure, Result.andThen_ok, e2]

theorem run_mapM_getR {P : Program} {tmps : Array Value} {w : World} : ∀ (rs : List ResultVar) (us : List Value), rs.length = us.length → (∀ (i : Nat) (r : ResultVar), rs[i]? = some r → ∃ u, us[i]? = some u ∧ loadR P tmps w u r) →
    (rs.mapM (getR tmps)).run P w = .ok us w
  | [], [], _, _ => by simp
  | r :: rs, u :: us, hl, h => by
    obtain ⟨u', h1, h2⟩ := h 0 r rfl
    cases h1
    have ih := run_mapM_getR rs us (by simpa using hl) (fun i r hr => by have := h (i + 1) r (by simpa using hr); simpa using this)
    simp [List.mapM_cons, run_getR h2, ih]

theorem results_of {rs : Array ResultVar} {us : List Value} {a : Act} {w : World} (hres : fn.results = rs) (hl : rs.toList.length = us.length) (h : ∀ (i : Nat) (r : ResultVar), rs.toList[i]? = some r → ∃ u, us[i]? = some u ∧ loadR P a.tmps w u r) (hn : us.length ≠ 1) :
    (results fn a.tmps).run P w = .ok (.tuple us.toArray) w := by
  have h1 := run_mapM_getR rs.toList us hl h
  have h2 : (results fn a.tmps) = (do let vs ← rs.mapM (getR a.tmps); pure (if h : vs.size = 1 then vs[0] else .tuple vs)) := by
    rw [← hres]; rfl
  rw [h2, Array.mapM_eq_mapM_toList]
  simp [h1, hn]

theorem XQ.ret2 {r1 r2 : ResultVar} {x1 y1 x2 y2 : AV} (hQ : ∀ a w, FunPost P fn S w0 (.tup [y1, y2]) .ret a w → Q e a w) (hres : fn.results = #[r1, r2]) (h1 : RA (EnvF P w0 S) st r1 x1) (s1 : ASub x1 y1) (h2 : RA (EnvF P w0 S) st r2 x2) (s2 : ASub x2 y2) (hdf : st.df = []) : XQ (EnvF P w0 S) Q e st := by
  intro V a w hr
  obtain ⟨v1, a1, b1⟩ := h1 V a w hr
  obtain ⟨v2, a2, b2⟩ := h2 V a w hr
  refine hQ a w (funPost_of (v := .tuple [v1, v2].toArray) hr hdf ?_ (tup_rel rfl (fun i x u hx hu => ?_)))
  · exact results_of hres (by simp) (fun i r hr' => by
      match i, hr' with
      | 0, hr' => cases hr'; exact ⟨v1, rfl, a1⟩
      | 1, hr' => cases hr'; exact ⟨v2, rfl, a2⟩) (by simp)
  · match i, hx, hu with
    | 0, hx, hu => cases hx; cases hu; exact s1.rel b1
    | 1, hx, hu => cases hx; cases hu; exact s2.rel b2

theorem XQ.ret3 {r1 r2 r3 : ResultVar} {x1 y1 x2 y2 x3 y3 : AV} (hQ : ∀ a w, FunPost P fn S w0 (.tup [y1, y2, y3]) .ret a w → Q e a w) (hres : fn.results = #[r1, r2, r3]) (h1 : RA (EnvF P w0 S) st r1 x1) (s1 : ASub x1 y1) (h2 : RA (EnvF P w0 S) st r2 x2) (s2 : ASub x2 y2) (h3 : RA (EnvF P w0 S) st r3 x3) (s3 : ASub x3 y3) (hdf : st.df = []) : XQ (EnvF P w0 S) Q e st := by
  intro V a w hr
  obtain ⟨v1, a1, b1⟩ := h1 V a w hr
  obtain ⟨v2, a2, b2⟩ := h2 V a w hr
  obtain ⟨v3, a3, b3⟩ := h3 V a w hr
  refine hQ a w (funPost_of (v := .tuple [v1, v2, v3].toArray) hr hdf ?_ (tup_rel rfl (fun i x u hx hu => ?_)))
  · exact results_of hres (by simp) (fun i r hr' => by
      match i, hr' with
      | 0, hr' => cases hr'; exact ⟨v1, rfl, a1⟩
      | 1, hr' => cases hr'; exact ⟨v2, rfl, a2⟩
      | 2, hr' => cases hr'; exact ⟨v3, rfl, a3⟩) (by simp)
  · match i, hx, hu with
    | 0, hx, hu => cases hx; cases hu; exact s1.rel b1
    | 1, hx, hu => cases hx; cases hu; exact s2.rel b2
    | 2, hx, hu => cases hx; cases hu; exact s3.rel b3
end

/-! ### Less is known -/
inductive CLe : CA → CA → Prop
  | refl (x : CA) : CLe x x
  | sub {x : CA} {c : C} (h : CSub x c) : CLe x (.d c)
inductive CLs : List CA → List CA → Prop
  | nil : CLs [] []
  | cons {x y : CA} {xs ys : List CA} (h : CLe x y) (t : CLs xs ys) : CLs (x :: xs) (y :: ys)
inductive BLe : HB → HB → Prop
  | refl (x : HB) : BLe x x
  | cells {T : TypeId} {xs ys : List CA} (h : CLs xs ys) : BLe (.cells T xs) (.cells T ys)
theorem CLe.rel {x y : CA} (h : CLe x y) {V : Vu} {w : World} {v : Value} (hv : x.rel V w v) : y.rel V w v := by
  cases h with
  | refl => exact hv
  | sub h => exact (show Reads V.S w _ v from h.reads hv)
theorem CLs.spec {xs ys : List CA} (h : CLs xs ys) : xs.length = ys.length ∧ ∀ (i : Nat) (y : CA), ys[i]? = some y → ∃ x, xs[i]? = some x ∧ CLe x y := by
  induction h with
  | nil => exact ⟨rfl, fun i y hy => by simp at hy⟩
  | cons h t ih =>
    refine ⟨by simp [ih.1], fun i y hy => ?_⟩
    cases i with
    | zero => simp at hy; subst hy; exact ⟨_, rfl, h⟩
    | succ i => exact ih.2 i y (by simpa using hy)
theorem CLs.rel {xs ys : List CA} (h : CLs xs ys) {V : Vu} {w : World} {vs : Array Value} (hv : rels V w xs vs) : rels V w ys vs := by
  obtain ⟨h1, h2⟩ := h.spec
  exact ⟨hv.1.trans h1, fun i y hy => let ⟨x, hx, hxy⟩ := h2 i y hy; let ⟨u, h3, h4⟩ := hv.2 i x hx; ⟨u, h3, hxy.rel h4⟩⟩
theorem BLe.rel {x y : HB} (h : BLe x y) {V : Vu} {w : World} {o : Obj} (hv : x.rel V w o) : y.rel V w o := by
  cases h with
  | refl => exact hv
  | cells h => obtain ⟨vs, h1, h2⟩ := hv; exact ⟨vs, h1, h.rel h2⟩

inductive TLe : TV → TV → Prop
  | refl (x : TV) : TLe x x
  | unk (x : TV) : TLe x .unk
  | sub {x : CA} {c : C} (h : CSub x c) : TLe (.v (.one x)) (.v (.one (.d c)))
  | agg {xs ys : List CA} (h : CLs xs ys) : TLe (.v (.agg xs)) (.v (.agg ys))

theorem TLe.rel {x y : TV} (h : TLe x y) {V : Vu} {w : World} {v : Value} (hv : x.rel V w v) : y.rel V w v := by
  cases h with
  | refl => exact hv
  | unk => trivial
  | sub h => exact (show Reads V.S w _ v from h.reads hv)
  | agg h => obtain ⟨vs, h1, h2⟩ := hv; exact ⟨vs, h1, h.rel h2⟩

/-- each entry of the second is known of the first -/
def tmLe (tm : List (Nat × TV)) : List (Nat × TV) → Prop
  | [] => True
  | (t, y) :: r => (∃ x, lk tm t = some x ∧ TLe x y) ∧ tmLe tm r

theorem tmLe.get {tm : List (Nat × TV)} : ∀ {tm' : List (Nat × TV)}, tmLe tm tm' → ∀ t y, lk tm' t = some y → ∃ x, lk tm t = some x ∧ TLe x y
  | [], _, t, y, h => by cases h
  | (k, z) :: r, hl, t, y, h => by
    rw [lk_cons] at h
    split at h
    · rename_i e; subst e; cases h; exact hl.1
    · exact hl.2.get t y h

def hpLe (hp : List (Nat × HB)) : List (Nat × HB) → Prop
  | [] => True
  | (t, y) :: r => (∃ x, lk hp t = some x ∧ BLe x y) ∧ hpLe hp r

theorem hpLe.get {hp : List (Nat × HB)} : ∀ {hp' : List (Nat × HB)}, hpLe hp hp' → ∀ t y, lk hp' t = some y → ∃ x, lk hp t = some x ∧ BLe x y
  | [], _, t, y, h => by cases h
  | (k, z) :: r, hl, t, y, h => by
    rw [lk_cons] at h
    split at h
    · rename_i e; subst e; cases h; exact hl.1
    · exact hl.2.get t y h

def tkLe (tk : List (Nat × Option Tok)) : List (Nat × Option Tok) → Prop
  | [] => True
  | (t, y) :: r => (∀ T, y = some T → lk tk t = some (some T)) ∧ tkLe tk r

theorem tkLe.get {tk : List (Nat × Option Tok)} : ∀ {tk' : List (Nat × Option Tok)}, tkLe tk tk' → ∀ t T, lk tk' t = some (some T) → lk tk t = some (some T)
  | [], _, t, y, h => by cases h
  | (k, z) :: r, hl, t, y, h => by
    rw [lk_cons] at h
    split at h
    · rename_i e; subst e; cases h; exact hl.1 _ rfl
    · exact hl.2.get t y h

def CA.below (m : Nat) : CA → Prop
  | .ptr i _ => i < m
  | .fn _ caps => ∀ p ∈ caps, p.1 < m
  | .app i _ _ => i < m
  | .osl i _ _ _ => i < m
  | .mp i => i < m
  | .yld i => i < m
  | _ => True

def AV.below (m : Nat) : AV → Prop
  | .one x => x.below m
  | .agg xs => ∀ x ∈ xs, x.below m

def TV.below (m : Nat) : TV → Prop
  | .v x => x.below m
  | .tup xs => ∀ x ∈ xs, x.below m
  | .unk => True

def mpBelow (m : Nat) (es : List (Value × AV × Nat)) : Prop := ∀ e ∈ es, e.2.1.below m
def HB.below (m : Nat) : HB → Prop
  | .cells _ xs => ∀ x ∈ xs, x.below m
  | .obj _ => True
  | .loop _ _ tm _ _ _ _ D => D < m ∧ ∀ t x, lk tm t = some x → x.below m
  | .mp es _ => mpBelow m es

def tmBelow (m : Nat) : List (Nat × TV) → Prop
  | [] => True
  | (_, x) :: r => x.below m ∧ tmBelow m r
def hpBelow (m : Nat) : List (Nat × HB) → Prop
  | [] => True
  | (i, x) :: r => i < m ∧ x.below m ∧ hpBelow m r
def tkBelow (m : Nat) : List (Nat × Option Tok) → Prop
  | [] => True
  | (i, _) :: r => i < m ∧ tkBelow m r

theorem tmBelow.get {m : Nat} : ∀ {l : List (Nat × TV)}, tmBelow m l → ∀ t x, lk l t = some x → x.below m
  | [], _, t, y, h => by cases h
  | (k, z) :: r, hl, t, y, h => by
    rw [lk_cons] at h
    split at h
    · cases h; exact hl.1
    · exact hl.2.get t y h
theorem hpBelow.get {m : Nat} : ∀ {l : List (Nat × HB)}, hpBelow m l → ∀ t x, lk l t = some x → t < m ∧ x.below m
  | [], _, t, y, h => by cases h
  | (k, z) :: r, hl, t, y, h => by
    rw [lk_cons] at h
    split at h
    · rename_i e; subst e; cases h; exact ⟨hl.1, hl.2.1⟩
    · exact hl.2.2.get t y h
theorem tkBelow.get {m : Nat} : ∀ {l : List (Nat × Option Tok)}, tkBelow m l → ∀ t x, lk l t = some x → t < m
  | [], _, t, y, h => by cases h
  | (k, z) :: r, hl, t, y, h => by
    rw [lk_cons] at h
    split at h
    · rename_i e; subst e; exact hl.1
    · exact hl.2.get t y h

theorem CA.rel.trim {V : Vu} {w : World} {m : Nat} {x : CA} {v : Value} (h : x.rel V w v) (hb : x.below m) : x.rel { V with nx := m } w v := by
  cases x with
  | ptr i off => exact ⟨hb, h.2⟩
  | fn f caps => exact ⟨hb, h.2⟩
  | app i sz es => exact ⟨hb, h.2⟩
  | osl i off len cap => exact ⟨hb, h.2⟩
  | mp i => exact ⟨hb, h.2⟩
  | yld i => exact ⟨hb, h.2⟩
  | d c => exact h
  | pel e off => exact h
  | clo f caps => exact h
  | any => exact h

theorem rels.trim {V : Vu} {w : World} {m : Nat} {xs : List CA} {vs : Array Value} (h : rels V w xs vs) (hb : ∀ x ∈ xs, x.below m) : rels { V with nx := m } w xs vs :=
  ⟨h.1, fun i x hx => let ⟨u, h1, h2⟩ := h.2 i x hx; ⟨u, h1, h2.trim (hb x (List.mem_of_getElem? hx))⟩⟩

theorem AV.rel.trim {V : Vu} {w : World} {m : Nat} {x : AV} {v : Value} (h : x.rel V w v) (hb : x.below m) : x.rel { V with nx := m } w v := by
  cases x with
  | one x => exact CA.rel.trim h hb
  | agg xs => obtain ⟨vs, h1, h2⟩ := h; exact ⟨vs, h1, h2.trim hb⟩

theorem TV.rel.trim {V : Vu} {w : World} {m : Nat} {x : TV} {v : Value} (h : x.rel V w v) (hb : x.below m) : x.rel { V with nx := m } w v := by
  cases x with
  | v x => exact AV.rel.trim h hb
  | tup xs => obtain ⟨vs, h1, h2, h3⟩ := h; exact ⟨vs, h1, h2, fun i x hx => let ⟨u, h4, h5⟩ := h3 i x hx; ⟨u, h4, h5.trim (hb x (List.mem_of_getElem? hx))⟩⟩
  | unk => trivial

/-- Less is known; names that are of no more use are given up. -/
structure StLe (E : Env) (st st' : St) : Prop where
  tm : tmLe st.tm st'.tm
  hp : hpLe st.hp st'.hp
  tk : tkLe st.tk st'.tk
  nx : st'.nx ≤ st.nx
  v0 : E.V0.nx ≤ st'.nx
  nt : st.nt = st'.nt
  df : st.df = st'.df
  btm : tmBelow st'.nx st'.tm
  bhp : hpBelow st'.nx st'.hp
  btk : tkBelow st'.nx st'.tk
  bdf : ∀ i ∈ st'.df, i < st'.nx

theorem HRel.forgetLe {E : Env} {V : Vu} {hp hp' : List (Nat × HB)} {tk tk' : List (Nat × Option Tok)} {w : World} (h : HRel E V hp tk w) (hh : hpLe hp hp') (ht : tkLe tk tk') : HRel E V hp' tk' w := by
  refine ⟨h.ext, h.le0, h.sz, h.sub, fun i B hi => ?_, fun i j A B hi hj => ?_, fun i B hi => ?_, fun i T hi => ?_, fun i j T U g hi hj => h.tki i j T U g (ht.get i T hi) (ht.get j U hj)⟩
  · obtain ⟨x, hx, hxy⟩ := hh.get i B hi
    obtain ⟨h1, o, h2, h3⟩ := h.own i x hx
    exact ⟨h1, o, h2, hxy.rel h3⟩
  · obtain ⟨x, hx, -⟩ := hh.get i A hi
    obtain ⟨y, hy, -⟩ := hh.get j B hj
    exact h.inj i j x y hx hy
  · obtain ⟨x, hx, -⟩ := hh.get i B hi
    exact h.new i x hx
  · obtain ⟨h1, h2, xs, h3, h4⟩ := h.tok i T (ht.get i T hi)
    refine ⟨h1, h2, xs, h3, fun g hg => ⟨(h4 g hg).1, (h4 g hg).2.1, fun j B hj => ?_⟩⟩
    obtain ⟨x, hx, -⟩ := hh.get j B hj
    exact (h4 g hg).2.2 j x hx

theorem Rel.less {E : Env} {V : Vu} {st st' : St} {a : Act} {w : World} (h : Rel E V st a w) (hl : StLe E st st') : ∃ V', Rel E V' st' a w := by
  have H := h.h.forgetLe hl.hp hl.tk
  refine ⟨{ V with nx := st'.nx }, ⟨H.ext, ⟨hl.v0, H.le0.ι, H.le0.cu, H.le0.κ, H.le0.S, H.le0.cell⟩, H.sz, H.sub, ?_, H.inj, H.new, ?_, ?_⟩, rfl, h.nt.trans hl.nt, (by have := h.df; rw [hl.df] at this; exact this.trim hl.bdf), ?_⟩
  · intro i B hi
    obtain ⟨h1, h2⟩ := hl.bhp.get i B hi
    obtain ⟨-, o, ho, hB⟩ := H.own i B hi
    refine ⟨h1, o, ho, ?_⟩
    cases B with
    | cells T xs => obtain ⟨vs, h3, h4⟩ := hB; exact ⟨vs, h3, h4.trim h2⟩
    | obj o' => exact hB
    | loop s p tm nt ps assign body D => obtain ⟨-, fn, tmps, h3, h4, h5⟩ := hB; exact ⟨h2.1, fn, tmps, h3, h4, fun t x hx => (h5 t x hx).trim (h2.2 t x hx)⟩
    | mp es clock => obtain ⟨ents, h3, h4, h5⟩ := hB; exact ⟨ents, h3, h4, fun i k x b hi => let ⟨v, h6, h7⟩ := h5 i k x b hi; ⟨v, h6, h7.trim (h2 _ (List.mem_of_getElem? hi))⟩⟩
  · intro i T hi
    obtain ⟨h1, hcu, xs, h2, h3⟩ := H.tok i T hi
    exact ⟨hl.btk.get i _ hi, hcu, xs, h2, h3⟩
  · exact H.tki
  · intro t y hy
    obtain ⟨x, hx, hxy⟩ := hl.tm.get t y hy
    exact (hxy.rel (h.tm t x hx)).trim (hl.btm.get t y hy)

section
variable {E : Env} {ro : Option Nat} {n : Nat} {Q : Exit → Act → World → Prop} {st : St}

theorem XC.less {c : Code} {st' : St} (hl : StLe E st st') (h : XC E ro n Q c st') : XC E ro n Q c st := fun V a w hr => by
  obtain ⟨V', hr'⟩ := hr.less hl
  exact h V' a w hr'

theorem XQ.less {e : Exit} {st' : St} (hl : StLe E st st') (h : XQ E Q e st') : XQ E Q e st := fun V a w hr => by
  obtain ⟨V', hr'⟩ := hr.less hl
  exact h V' a w hr'

theorem wpIn_loop_ghost {F : Fence} {P : Program} {a : Act} {w : World} {c : Code} (I : Nat → Act → World → Prop) (n₀ : Nat) (h₀ : I n₀ a w)
    (round : ∀ k a w, I k a w → c.wpIn F n P (Exit.then (fun a' w' => ∃ k', k' < k ∧ I k' a' w') Q) a w) : (Code.loop c).wpIn F n P Q a w := by
  refine wpIn_loop (fun a w => ∃ n, I n a w) (fun a w => leastOf (fun n => I n a w)) ⟨n₀, h₀⟩ ?_
  intro a w hI
  refine wpIn_mono (round _ a w (leastOf_spec hI).1) ?_
  intro e a' w' hq
  cases e with
  | normal =>
    obtain ⟨n', hlt, hI'⟩ := hq
    exact show (∃ n, I n a' w') ∧ leastOf (fun n => I n a' w') < leastOf (fun n => I n a w) from ⟨⟨n', hI'⟩, Nat.lt_of_le_of_lt ((leastOf_spec ⟨n', hI'⟩).2 n' hI') hlt⟩
  | exit id => exact hq
  | goto l => exact hq
  | ret => exact hq
  | panic ch => exact hq
  | outgrown => exact hq

/-- A round has come to its end at some x' of smaller measure. -/
def Next {X : Type} (E : Env) (inv : X → St) (ok : X → Prop) (μ : X → Nat) (k : Nat) (a : Act) (w : World) : Prop := ∃ x' V, μ x' < k ∧ ok x' ∧ Rel E V (inv x') a w

/-- A loop: what is known at its head, for some x; a measure of x that every round lowers. -/
theorem XC.loop {X : Type} {c : Code} (inv : X → St) (ok : X → Prop) (μ : X → Nat) (x0 : X) (h0 : StLe E st (inv x0)) (hok : ok x0)
    (round : ∀ x, ok x → XC E ro n (Exit.then (Next E inv ok μ (μ x)) Q) c (inv x)) : XC E ro n Q (.loop c) st := by
  intro V a w hr
  obtain ⟨V', hr'⟩ := hr.less h0
  refine wpIn_loop_ghost (fun k a w => ∃ x V, μ x = k ∧ ok x ∧ Rel E V (inv x) a w) (μ x0) ⟨x0, V', rfl, hok, hr'⟩ ?_
  rintro k a w ⟨x, V, rfl, hx, hr⟩
  refine wpIn_mono (round x hx V a w hr) ?_
  intro e a' w' hq
  cases e with
  | normal =>
    obtain ⟨x', V', h1, h2, h3⟩ := hq
    exact ⟨μ x', h1, x', V', rfl, h2, h3⟩
  | exit id => exact hq
  | goto l => exact hq
  | ret => exact hq
  | panic ch => exact hq
  | outgrown => exact hq

theorem XQ.next {X : Type} {inv : X → St} {ok : X → Prop} {μ : X → Nat} {k : Nat} (x' : X) (hl : StLe E st (inv x')) (hok : ok x') (hμ : μ x' < k) : XQ E (Exit.then (Next E inv ok μ k) Q) .normal st := fun V a w hr => by
  obtain ⟨V', hr'⟩ := hr.less hl
  exact ⟨x', V', hμ, hok, hr'⟩
end
end Go.Proofs.YtcapifnaceegmaaGreatDoor
