/- Mirrors: plain functions that say what the code does; the rules by which a walk is held against its mirror. A region in whatever order, walked in the text's order. -/
import Derived.Test.YtcapifnaceegmaaGreatDoorEvE
namespace Go.Proofs.YtcapifnaceegmaaGreatDoor
section
open Go.RowKit
set_option linter.unusedSimpArgs false
set_option linter.unusedVariables false
set_option linter.unusedSectionVars false

/-! ### Plain words of mirrors -/
abbrev w64 (x : Int) : Int := IntKind.wrap .i64 x

/-- A round of a loop: on, or out. -/
inductive LO (σ β : Type) where
  | next (s : σ)
  | done (b : β)

def loopN {σ β : Type} (step : σ → Option (LO σ β)) : Nat → σ → Option β
  | 0, _ => none
  | n + 1, s => match step s with
    | none => none
    | some (.next s') => loopN step n s'
    | some (.done b) => some b

def FUEL : Nat := 1000000

def idx {α : Type} (l : List α) : Int → Option α
  | .ofNat k => l[k]?
  | .negSucc _ => none

/-- a condition that is not decided by the code -/
def guardO {α : Type} (b : Bool) (x : Option α) : Option α := cond b x none

theorem bindO {α β : Type} {o : Option α} {f : α → Option β} {r : β} (h : Option.bind o f = some r) : ∃ x, o = some x ∧ f x = some r := by
  cases o with
  | none => cases h
  | some x => exact ⟨x, rfl, h⟩
theorem bindK {α β : Type} {o : Option α} {f : α → Option β} {r : β} {G : Prop} (h : Option.bind o f = some r) (k : ∀ x, o = some x → f x = some r → G) : G := by
  obtain ⟨x, h1, h2⟩ := bindO h
  exact k x h1 h2
theorem condT {α : Type} {b : Bool} {x y r : Option α} (hb : b = true) (h : cond b x y = r) : x = r := by subst hb; exact h
theorem condF {α : Type} {b : Bool} {x y r : Option α} (hb : b = false) (h : cond b x y = r) : y = r := by subst hb; exact h
theorem guardS {α : Type} {b : Bool} {x : Option α} {r : α} (h : guardO b x = some r) : b = true ∧ x = some r := by
  cases b with
  | false => cases h
  | true => exact ⟨rfl, h⟩
theorem guardK {α : Type} {b : Bool} {x : Option α} {r : α} {G : Prop} (h : guardO b x = some r) (k : b = true → x = some r → G) : G := by
  obtain ⟨h1, h2⟩ := guardS h
  exact k h1 h2
theorem idxS {α : Type} {l : List α} {i : Int} {x : α} (h : idx l i = some x) : ∃ k : Nat, i = (k : Int) ∧ l[k]? = some x := by
  cases i with
  | ofNat k => exact ⟨k, rfl, h⟩
  | negSucc k => cases h
theorem loopS {σ β : Type} {step : σ → Option (LO σ β)} {n : Nat} {s : σ} {b : β} (h : loopN step n s = some b) : ∃ n' o, n = n' + 1 ∧ step s = some o ∧ (match o with
    | .next s' => loopN step n' s'
    | .done b' => some b') = some b := by
  cases n with
  | zero => cases h
  | succ n =>
    simp only [loopN] at h
    split at h
    · cases h
    · rename_i s' hs; exact ⟨n, _, rfl, hs, h⟩
    · rename_i b' hs; exact ⟨n, _, rfl, hs, h⟩

/-- What a round says: on or out. -/
def RoundSays {σ β : Type} (step : σ → Option (LO σ β)) (n : Nat) (b : β) : LO σ β → Prop
  | .next s' => loopN step n s' = some b
  | .done b' => b' = b
/-! ### Typed data -/
class Enc (α : Type) where
  sz : Nat
  enc : α → List C
  encL : List α → List (List C)
  nil : encL [] = []
  app : ∀ a b, encL (a ++ b) = encL a ++ encL b
  one : ∀ x, encL [x] = [enc x]

theorem Enc.cons {α : Type} [Enc α] (x : α) (l : List α) : Enc.encL (x :: l) = Enc.enc x :: Enc.encL l := by
  have := Enc.app [x] l
  rw [Enc.one] at this
  exact this
theorem Enc.map {α : Type} [Enc α] : ∀ l : List α, Enc.encL l = l.map Enc.enc
  | [] => Enc.nil
  | x :: l => by rw [Enc.cons, Enc.map l]; rfl
theorem Enc.len {α : Type} [Enc α] (l : List α) : (Enc.encL l).length = l.length := by rw [Enc.map, List.length_map]
theorem Enc.get {α : Type} [Enc α] {l : List α} {k : Nat} {x : α} (h : l[k]? = some x) : (Enc.encL l)[k]? = some (Enc.enc x) := by rw [Enc.map, List.getElem?_map, h]; rfl
theorem Enc.drop {α : Type} [Enc α] (l : List α) (k : Nat) : Enc.encL (l.drop k) = (Enc.encL l).drop k := by rw [Enc.map, Enc.map, List.map_drop]
theorem Enc.take {α : Type} [Enc α] (l : List α) (k : Nat) : Enc.encL (l.take k) = (Enc.encL l).take k := by rw [Enc.map, Enc.map, List.map_take]

section
variable {E : Env} {ro : Option Nat} {n : Nat} {ops : Array Oper} {Q : Exit → Act → World → Prop} {rest : List Oper} {st : St} {o : Oper} {x : TV} {d : Option Tmp} {ty : TypeId} {pos : String} {af : Array Edge} {g : Option (Nat × Bool)}

/-- What a cell reads as, typed. -/
inductive SlE {α : Type} [Enc α] : CA → List α → Prop
  | d (l : List α) : SlE (.d (.sl (Enc.sz α) (Enc.encL l))) l
  | app (i : Nat) (l : List α) : SlE (.app i (Enc.sz α) (Enc.encL l)) l
  | nil : SlE (.d (.v (.slice none 0 0))) []

theorem SlE.sl {α : Type} [Enc α] {y : CA} {l : List α} (h : SlE y l) : SlOf y (Enc.sz α) (Enc.encL l) := by
  cases h with
  | d => exact .d _ _
  | app => exact .app _ _ _
  | nil => rw [Enc.nil]; exact .nil _

theorem RO.lenE {α : Type} [Enc α] {t : TypeId} {e : Nat} {o : Operand} {y : CA} {l : List α} (ht : tySlice E.P t = some (e, Enc.sz α)) (hx : ev st.tm o = some (.v (.one y))) (hs : SlE y l) :
    RO E ⟨d, .call { callee := .builtin .len, args := #[o], argTypes := #[t] }, ty, pos, af, g⟩ st (TI l.length) := by
  have := RO.len (E := E) (d := d) (ty := ty) (pos := pos) (af := af) (g := g) ht hx hs.sl
  rw [Enc.len] at this; exact this

theorem RO.indexE {α : Type} [Enc α] {t : TypeId} {e : Nat} {o i : Operand} {y : CA} {l : List α} {v : α} {m : Int} (ht : tySlice E.P t = some (e, Enc.sz α)) (hx : ev st.tm o = some (.v (.one y))) (hs : SlE y l)
    (hi : ev st.tm i = some (TI m)) (hv : idx l m = some v) : RO E ⟨d, .indexAddr t o i, ty, pos, af, g⟩ st (.v (.one (.pel (Enc.enc v) 0))) := by
  obtain ⟨k, hk, hl⟩ := idxS hv
  exact RO.index ht hx hs.sl hi hk (Enc.get hl)

/-- A slice of what is read, from l to h. -/
theorem RO.sliceE {α : Type} [Enc α] {t e : Nat} {o : Operand} {y : CA} {l : List α} {lo hi mx : Option Operand} {a b : Nat} (ht : tySlice E.P t = some (e, Enc.sz α)) (hx : ev st.tm o = some (.v (.one y))) (hs : SlE y l) (hb : boundsOf st l.length lo hi mx = some (a, b)) :
    RO E ⟨d, .slice t o lo hi mx, ty, pos, af, g⟩ st (.v (.one (.d (.sl (Enc.sz α) (Enc.encL ((l.drop a).take (b - a))))))) := by
  have := RO.sliceD (E := E) (d := d) (ty := ty) (pos := pos) (af := af) (g := g) ht hx hs.sl (by rw [Enc.len]; exact hb)
  rw [Enc.take, Enc.drop]; exact this

theorem OpOK.appendE {α : Type} [Enc α] {t e by_ i : Nat} {o1 o2 : Operand} {y : CA} {l l2 : List α} {m : Nat} (ht : tySlice E.P t = some (e, Enc.sz α)) (hte : tyElem E.P e = some (Enc.sz α, by_)) (hb : Nat.ble by_ 100000 = true)
    (h1 : ev st.tm o1 = some (.v (.one (.app i (Enc.sz α) (Enc.encL l))))) (hi : lk st.tk i = some (some ⟨e, Enc.sz α, m⟩)) (hm' : m = (Enc.encL l).length) (h2 : ev st.tm o2 = some (.v (.one y))) (hs : SlE y l2) (hm : Nat.ble (l.length + l2.length) 1000000000 = true) :
    OpOK E ⟨d, .call { callee := .builtin .append, args := #[o1, o2], argTypes := #[t, t] }, ty, pos, af, g⟩ st (.v (.one (.app i (Enc.sz α) (Enc.encL (l ++ l2))))) ⟨st.hp, (i, some ⟨e, Enc.sz α, (Enc.encL (l ++ l2)).length⟩) :: dropK i st.tk, st.nx⟩ := by
  subst hm'
  have := OpOK.appendApp (E := E) (dd := d) (ty := ty) (pos := pos) (af := af) (g := g) ht hte (Nat.le_of_ble_eq_true hb) h1 hi h2 hs.sl (by rw [Enc.len, Enc.len]; exact Nat.le_of_ble_eq_true hm)
  rw [Enc.app]; exact this

theorem OpOK.appendNilE {α : Type} [Enc α] {t e by_ : Nat} {o1 o2 : Operand} {y : CA} {l2 : List α} (ht : tySlice E.P t = some (e, Enc.sz α)) (hte : tyElem E.P e = some (Enc.sz α, by_)) (hb : Nat.ble by_ 100000 = true)
    (h1 : ev st.tm o1 = some (TVv (.slice none 0 0))) (h2 : ev st.tm o2 = some (.v (.one y))) (hs : SlE y l2) (hm : Nat.ble l2.length 1000000000 = true) :
    OpOK E ⟨d, .call { callee := .builtin .append, args := #[o1, o2], argTypes := #[t, t] }, ty, pos, af, g⟩ st (.v (.one (.app st.nx (Enc.sz α) (Enc.encL l2)))) ⟨st.hp, (st.nx, some ⟨e, Enc.sz α, (Enc.encL l2).length⟩) :: st.tk, st.nx + 1⟩ := by
  by_cases h0 : Enc.encL l2 = []
  · intro V a w hr ro n K Q hK
    refine ⟨fun _ _ => trivial, ?_⟩
    rw [Oper.semAt_eq _ _ _ (by intro c h; cases h)]
    have r1 := val_of (hr.ev h1)
    have r2 := hs.sl.reads (hr.ev h2)
    have hexec : ∀ v' w', (Builtin.append_ #[t, t] ty #[a.eval o1, a.eval o2]).run E.P w = .ok v' w' → (execOp a.eval ⟨d, .call { callee := .builtin .append, args := #[o1, o2], argTypes := #[t, t] }, ty, pos, af, g⟩).run E.P w = .ok (.value v') w' := fun v' w' h => by
      simp [execOp, resolve, invoke, builtin, h]
    rw [h0] at r2 hK
    obtain ⟨hu, i1, hi1, -⟩ := tySlice_spec ht
    obtain ⟨-, a2, cap2, b2, off2, us2, e2, -⟩ := r2.row
    have := run_append0 (P := E.P) (w := w) (ty := ty) hu hi1 none a2 0 0 cap2 (Nat.le_refl _)
    rw [hexec _ w (by rw [r1, e2]; exact this)]
    obtain ⟨H, L⟩ := hr.h.tokNil e (Enc.sz α)
    refine hK _ w _ (by dsimp only; rw [← hr.nx]; exact H) (by show max V.nx (V.nx + 1) = st.nx + 1; rw [hr.nx]; omega) L ?_
    rw [← hr.nx]; exact app_nil_rel e (Enc.sz α)
  · exact OpOK.appendNil ht hte (Nat.le_of_ble_eq_true hb) h1 h2 hs.sl (by rw [Enc.len]; exact Nat.le_of_ble_eq_true hm) h0

theorem OpOK.lit1E {α : Type} [Enc α] (v : α) {t e : Nat} {zs : List Value} {o1 : Operand} {x1 : AV} {ys : List CA} (ht : tySlice E.P t = some (e, Enc.sz α)) (hze : tyZero E.P e = some zs) (hzl : zs.length = Enc.sz α) (hz : zs.all (·.oneCell') = true) (hpos : 0 < Enc.sz α) (hlen : 1 * Enc.sz α ≤ 16777216)
    (h1 : ev st.tm o1 = some (.v x1)) (hf : fillL (rowPlaces (Enc.sz α) 1) (zeroRow zs 1) [(0, x1)] = some ys) (hs : CSubs ys (Enc.enc v)) (hel : (Enc.enc v).length = Enc.sz α) :
    OpOK E ⟨d, .buildSlice t 1 #[(0, o1)], ty, pos, af, g⟩ st (.v (.one (.app st.nx (Enc.sz α) (Enc.encL [v])))) ⟨st.hp, (st.nx, some ⟨e, Enc.sz α, (Enc.encL [v]).length⟩) :: st.tk, st.nx + 1⟩ :=
  OpOK.litApp (avs := [(0, x1)]) (Enc.encL [v]) ht hze hzl hz hpos hlen rfl (fun j i x hx => by
    match j, hx with
    | 0, hx => cases hx; exact ⟨o1, rfl, h1⟩) hf (by rw [Enc.one]; simpa using hs) (fun x hx => by rw [Enc.one] at hx; simp at hx; subst hx; exact hel) (by rw [Enc.one]; rfl)
theorem OpOK.lit0E {α : Type} [Enc α] {t e : Nat} {zs : List Value} (ht : tySlice E.P t = some (e, Enc.sz α)) (hze : tyZero E.P e = some zs) (hzl : zs.length = Enc.sz α) (hz : zs.all (·.oneCell') = true) (hpos : 0 < Enc.sz α) :
    OpOK E ⟨d, .buildSlice t 0 #[], ty, pos, af, g⟩ st (.v (.one (.app st.nx (Enc.sz α) (Enc.encL ([] : List α))))) ⟨st.hp, (st.nx, some ⟨e, Enc.sz α, (Enc.encL ([] : List α)).length⟩) :: st.tk, st.nx + 1⟩ :=
  OpOK.litApp (avs := []) (ys := []) (Enc.encL ([] : List α)) ht hze hzl hz hpos (by simp) rfl (fun j i x hx => by simp at hx) (by simp [fillL, zeroRow]) (by rw [Enc.nil]; exact .nil) (fun x hx => by rw [Enc.nil] at hx; simp at hx) (by rw [Enc.nil]; rfl)
theorem OpOK.data1E {α : Type} [Enc α] (v : α) {t e : Nat} {zs : List Value} {o1 : Operand} {x1 : AV} {ys : List CA} (ht : tySlice E.P t = some (e, Enc.sz α)) (hze : tyZero E.P e = some zs) (hzl : zs.length = Enc.sz α) (hz : zs.all (·.oneCell') = true) (hlen : 1 * Enc.sz α ≤ 16777216)
    (h1 : ev st.tm o1 = some (.v x1)) (hf : fillL (rowPlaces (Enc.sz α) 1) (zeroRow zs 1) [(0, x1)] = some ys) (hs : CSubs ys (Enc.enc v)) (hel : (Enc.enc v).length = Enc.sz α) :
    OpOK E ⟨d, .buildSlice t 1 #[(0, o1)], ty, pos, af, g⟩ st (.v (.one (.d (.sl (Enc.sz α) (Enc.encL [v]))))) ⟨st.hp, st.tk, st.nx⟩ :=
  OpOK.litData (avs := [(0, x1)]) (Enc.encL [v]) ht hze hzl hz hlen rfl (fun j i x hx => by
    match j, hx with
    | 0, hx => cases hx; exact ⟨o1, rfl, h1⟩) hf (by rw [Enc.one]; simpa using hs) (fun x hx => by rw [Enc.one] at hx; simp at hx; subst hx; exact hel) (by rw [Enc.one]; rfl)

/-- What comes behind an operation, spelt out. -/
theorem XL.put {t : Nat} {hp : List (Nat × HB)} {tk : List (Nat × Option Tok)} {nx : Nat} (hg : wantedA ops st.tm o = some true) (hdst : o.dst = some t) (hd : t < st.nt) (ho : OpOK E o st x ⟨hp, tk, nx⟩) (k : XL E ro n ops Q rest ⟨(t, x) :: st.tm, hp, tk, nx, st.nt, st.df⟩) : XL E ro n ops Q (o :: rest) st := by
  intro V a w h
  unfold wpListIn
  rw [if_pos (wanted_of h hg)]
  refine ho V a w h ro n _ Q (fun V' w' v H hn L hx => k V' _ w' ?_)
  rw [hdst]
  exact (h.mem H hn L).put (d := t) hd hx
theorem XL.eff {hp : List (Nat × HB)} {tk : List (Nat × Option Tok)} {nx : Nat} (hg : wantedA ops st.tm o = some true) (hdst : o.dst = none) (ho : OpOK E o st x ⟨hp, tk, nx⟩) (k : XL E ro n ops Q rest ⟨st.tm, hp, tk, nx, st.nt, st.df⟩) : XL E ro n ops Q (o :: rest) st := by
  intro V a w h
  unfold wpListIn
  rw [if_pos (wanted_of h hg)]
  refine ho V a w h ro n _ Q (fun V' w' v H hn L hx => k V' _ w' ?_)
  rw [hdst]
  exact h.mem H hn L
theorem XL.rd {t : Nat} (hg : wantedA ops st.tm o = some true) (hdst : o.dst = some t) (hd : t < st.nt) (ho : RO E o st x) (k : XL E ro n ops Q rest ⟨(t, x) :: st.tm, st.hp, st.tk, st.nx, st.nt, st.df⟩) : XL E ro n ops Q (o :: rest) st :=
  XL.put hg hdst hd (OpOK.of_ro ho) k
theorem rR {t : Nat} (hg : wantedA ops st.tm o = some true) (hdst : o.dst = some t) (hd : Nat.ble (t + 1) st.nt = true) (ho : RO E o st x) (k : XL E ro n ops Q rest ⟨(t, x) :: st.tm, st.hp, st.tk, st.nx, st.nt, st.df⟩) : XL E ro n ops Q (o :: rest) st := XL.rd hg hdst (lb hd) ho k
theorem rM {t : Nat} {y : Operand} (hg : wantedA ops st.tm ⟨some t, .move y, ty, pos, af, g⟩ = some true) (hd : Nat.ble (t + 1) st.nt = true) (h : ev st.tm y = some x) (k : XL E ro n ops Q rest ⟨(t, x) :: st.tm, st.hp, st.tk, st.nx, st.nt, st.df⟩) : XL E ro n ops Q (⟨some t, .move y, ty, pos, af, g⟩ :: rest) st := XL.rd hg rfl (lb hd) (RO.move h) k
theorem rA {t : Nat} {y : Operand} (hg : wantedA ops st.tm ⟨some t, .assign y, ty, pos, af, g⟩ = some true) (hd : Nat.ble (t + 1) st.nt = true) (h : ev st.tm y = some x) (k : XL E ro n ops Q rest ⟨(t, x) :: st.tm, st.hp, st.tk, st.nx, st.nt, st.df⟩) : XL E ro n ops Q (⟨some t, .assign y, ty, pos, af, g⟩ :: rest) st := XL.rd hg rfl (lb hd) (RO.assign h) k
theorem XL.no {t : Nat} (hg : wantedA ops st.tm o = some false) (hdst : o.dst = some t) (k : XL E ro n ops Q rest ⟨(t, .tup []) :: st.tm, st.hp, st.tk, st.nx, st.nt, st.df⟩) : XL E ro n ops Q (o :: rest) st := by
  intro V a w h
  unfold wpListIn
  rw [if_neg (by rw [wanted_of h hg]; exact Bool.false_ne_true)]
  refine ⟨fun _ _ => trivial, ?_⟩
  rw [hdst]
  exact k V _ w (h.und t)

/-! ### Loops -/
def NextM {σ β : Type} (E : Env) (inv : σ → St) (step : σ → Option (LO σ β)) (n : Nat) (b : β) (a : Act) (w : World) : Prop :=
  Next (X := σ × Nat) E (fun p => inv p.1) (fun p => loopN step p.2 p.1 = some b) (fun p => p.2) (n + 1) a w

theorem XC.loopM {σ β : Type} {c : Code} (step : σ → Option (LO σ β)) (inv : σ → St) (s0 : σ) (b : β) (h0 : StLe E st (inv s0)) (hok : loopN step FUEL s0 = some b)
    (round : ∀ (s : σ) (m : Nat) (o : LO σ β), step s = some o → RoundSays step m b o → XC E ro n (Exit.then (NextM E inv step m b) Q) c (inv s)) : XC E ro n Q (.loop c) st := by
  refine XC.loop (X := σ × Nat) (fun p => inv p.1) (fun p => loopN step p.2 p.1 = some b) (fun p => p.2) (s0, FUEL) h0 hok ?_
  rintro ⟨s, k⟩ hs
  obtain ⟨m, o, rfl, h1, h2⟩ := loopS hs
  refine round s m o h1 ?_
  cases o with
  | next s' => exact h2
  | done b' => exact Option.some.inj h2

theorem XQ.nextM {σ β : Type} {step : σ → Option (LO σ β)} {inv : σ → St} {m : Nat} {b : β} (s' : σ) (hl : StLe E st (inv s')) (ho : RoundSays step m b (.next s')) : XQ E (Exit.then (NextM E inv step m b) Q) .normal st :=
  XQ.next (s', m) hl ho (Nat.lt_succ_self _)

/-! ### Joins: what several ends of a piece of code have in common -/
def JnX {γ : Type} (E : Env) (i : Nat) (inv : γ → St) (K : γ → Prop) (Q : Exit → Act → World → Prop) : Exit → Act → World → Prop
  | .exit j, a, w => if j = i then ∃ v V, K v ∧ Rel E V (inv v) a w else Q (.exit j) a w
  | .normal, a, w => Q .normal a w
  | .goto l, a, w => Q (.goto l) a w
  | .ret, a, w => Q .ret a w
  | .panic c, a, w => Q (.panic c) a w
  | .outgrown, a, w => Q .outgrown a w
theorem XC.joinX {γ : Type} {c : Code} (i : Nat) (inv : γ → St) (K : γ → Prop) (h : XC E ro n (JnX E i inv K Q) c st) (k : ∀ v, K v → XQ E Q (.exit i) (inv v)) : XC E ro n Q c st := by
  intro V a w hr
  refine wpIn_mono (h V a w hr) (fun e a' w' hq => ?_)
  cases e with
  | exit j =>
    simp only [JnX] at hq
    split at hq
    · rename_i hj; subst hj
      obtain ⟨v, V', hv, hr'⟩ := hq
      exact k v hv V' a' w' hr'
    · exact hq
  | _ => exact hq
theorem XQ.joinX {γ : Type} {i : Nat} {inv : γ → St} {K : γ → Prop} (v : γ) (hl : StLe E st (inv v)) (hK : K v) : XQ E (JnX E i inv K Q) (.exit i) st := fun V a w hr => by
  obtain ⟨V', hr'⟩ := hr.less hl
  simp only [JnX, if_pos]
  exact ⟨v, V', hK, hr'⟩
theorem XQ.joinN {γ : Type} {i j : Nat} {inv : γ → St} {K : γ → Prop} (hne : j ≠ i) (h : XQ E Q (.exit j) st) : XQ E (JnX E i inv K Q) (.exit j) st := fun V a w hr => by
  simp only [JnX, if_neg hne]
  exact h V a w hr

def JnR {γ : Type} (E : Env) (inv : γ → St) (K : γ → Prop) (Q : Exit → Act → World → Prop) : Exit → Act → World → Prop
  | .normal, a, w => ∃ v V, K v ∧ Rel E V (inv v) a w
  | .exit j, a, w => Q (.exit j) a w
  | .goto l, a, w => Q (.goto l) a w
  | .ret, a, w => Q .ret a w
  | .panic c, a, w => Q (.panic c) a w
  | .outgrown, a, w => Q .outgrown a w
theorem XC.joinR {γ : Type} {c : Code} (inv : γ → St) (K : γ → Prop) (h : XC E ro n (JnR E inv K Q) c st) (k : ∀ v, K v → XQ E Q .normal (inv v)) : XC E ro n Q c st := by
  intro V a w hr
  refine wpIn_mono (h V a w hr) (fun e a' w' hq => ?_)
  cases e with
  | normal =>
    obtain ⟨v, V', hv, hr'⟩ := hq
    exact k v hv V' a' w' hr'
  | _ => exact hq
theorem XQ.joinR {γ : Type} {inv : γ → St} {K : γ → Prop} (v : γ) (hl : StLe E st (inv v)) (hK : K v) : XQ E (JnR E inv K Q) .normal st := fun V a w hr => by
  obtain ⟨V', hr'⟩ := hr.less hl
  exact ⟨v, V', hK, hr'⟩

/-! ### Calls by contract -/
inductive ASubL : List AV → List AV → Prop
  | nil : ASubL [] []
  | cons {x y : AV} {xs ys : List AV} (h : ASub x y) (t : ASubL xs ys) : ASubL (x :: xs) (y :: ys)
theorem ASubL.spec {xs ys : List AV} (h : ASubL xs ys) : xs.length = ys.length ∧ ∀ (i : Nat) (y : AV), ys[i]? = some y → ∃ x, xs[i]? = some x ∧ ASub x y := by
  induction h with
  | nil => exact ⟨rfl, fun i y hy => by simp at hy⟩
  | cons h t ih =>
    refine ⟨by simp [ih.1], fun i y hy => ?_⟩
    cases i with
    | zero => simp at hy; subst hy; exact ⟨_, rfl, h⟩
    | succ i => exact ih.2 i y (by simpa using hy)

theorem OpOK.callFun {f : FuncId} {as : Array Operand} {args ys : List AV} {ats : Array TypeId} {res : TV} (hF : Fun E.P f ys res) (ha : evArgs st.tm as.toList = some args) (hs : ASubL args ys) :
    OpOK E ⟨d, .call { callee := .value (.func f), args := as, argTypes := ats }, ty, pos, af, g⟩ st res ⟨st.hp, st.tk, st.nx⟩ := by
  intro V a w hr ro n K Q hK
  refine ⟨fun _ _ => trivial, ?_⟩
  rw [Oper.semAt_eq _ _ _ (by intro c h; cases h)]
  rw [call_enters rfl hF.1]
  refine ⟨(by intro h; cases h), ?_⟩
  have har : argsRel (Vu.of V.S) w ys (as.map a.eval) := by
    obtain ⟨h1, h2⟩ := args_rel hr ha
    obtain ⟨h3, h4⟩ := hs.spec
    refine ⟨by omega, fun i y hy => ?_⟩
    obtain ⟨x, hx', hxy⟩ := h4 i y hy
    obtain ⟨u, hu, hxu⟩ := h2 i x hx'
    exact ⟨u, hu, hxy.rel hxu⟩
  have hc' : CallsIn Fence.wide (n - 1) E.P f _ w _ := callsIn_wide.2 (hF.2 V.S w _ hr.h.sz har)
  refine CallsIn.mono (F := FR ro) hc' ?_
  rintro e w' ⟨v, S', rfl, hx, hS, hS', hv⟩
  have hg : V.Grow { V with S := S' } w w' := ⟨Nat.le_refl _, fun _ _ => rfl, fun _ _ => rfl, fun _ _ _ _ => rfl, hS, fun b o h => (hS' b o h).1, fun b o h => (hS' b o h).2⟩
  exact hK { V with S := S' } w' v (hr.h.later hx hg) hr.nx (hr.h.le hx hg) (hv.mono (of_le (V := { V with S := S' })))
end

/-! ### A function's beginning and end -/
def FunPostM (P : Program) (n : Nat) (fn : Func) (S : Nat → Nat → Prop) (w : World) (res : TV) : Exit → Act → World → Prop :=
  bodyPostM Fence.wide n P fn fun e w' => ∃ v S', e = .returned v ∧ ExtF w w' ∧ (∀ b o, S b o → S' b o) ∧ (∀ b o, S' b o → (S b o ∨ w.heap.size ≤ b) ∧ b < w'.heap.size) ∧ res.rel (Vu.of S') w' v

theorem Fun.of_bodyM {P : Program} {f : FuncId} {fn : Func} {c : Code} {args : List AV} {res : TV} (n nt : Nat) (hf : P.funcs[f]? = some fn) (hb : fn.body = some c) (hen : Enters P f) (hn : fn.ntmps = nt) (hnt : args.length ≤ nt)
    (h : ∀ (S : Nat → Nat → Prop) (w : World), XC (EnvF P w S) none n (FunPostM P n fn S w res) c ⟨entry 0 args, [], [], 0, nt, []⟩) : Fun P f args res := by
  subst hn
  refine ⟨hen, fun S w vs hS hargs => ?_⟩
  refine (callsIn_wide (n := n)).1 (callsIn_of_wp_marks (F := Fence.wide) hf hb trivial ?_)
  refine h S w (Vu.of S) _ w ⟨hrel0 hS, rfl, ?_, dfRel.nil, ?_⟩
  · simp [hargs.1]; omega
  · intro t x hx
    obtain ⟨k, y, h1, h2, rfl⟩ := lk_entry args 0 t x hx
    obtain ⟨u, hu, hy⟩ := hargs.2 k y h2
    have hk : k < vs.size := (Array.getElem?_eq_some_iff.1 hu).1
    have : (vs ++ Array.replicate (fn.ntmps - vs.size) undef).getD t undef = u := by
      rw [show t = k by omega, Array.getD_eq_getD_getElem?, Array.getElem?_append_left hk, hu]; rfl
    rw [this]; exact hy

theorem res_sub {xs ys : List AV} (h : ASubL xs ys) {V : Vu} {w : World} {v : Value} (hv : (resOf xs).rel V w v) : (resOf ys).rel (Vu.of V.S) w v := by
  obtain ⟨hl, hs⟩ := h.spec
  match xs, ys, hl with
  | [], [], _ => obtain ⟨vs, h1, h2, h3⟩ := hv; exact ⟨vs, h1, h2, fun i x hx => by simp at hx⟩
  | [x], [y], _ =>
    obtain ⟨x', hx, hxy⟩ := hs 0 y rfl
    cases hx
    exact hxy.rel hv
  | x :: x2 :: xs, y :: y2 :: ys, hl =>
    obtain ⟨vs, h1, h2, h3⟩ := hv
    refine ⟨vs, h1, by rw [h2]; exact hl, fun i z hz => ?_⟩
    obtain ⟨x', hx, hxy⟩ := hs i z hz
    obtain ⟨u, hu, hr⟩ := h3 i x' hx
    exact ⟨u, hu, hxy.rel hr⟩

/-- The end of a function that hands back data. -/
theorem XQ.retF {P : Program} {n : Nat} {fn : Func} {S : Nat → Nat → Prop} {w0 : World} {st : St} {Q : Exit → Act → World → Prop} {e : Exit} {hp' : List (Nat × HB)} {xs ys : List AV} (hQ : ∀ a w, FunPostM P n fn S w0 (resOf ys) .ret a w → Q e a w) (hdf : takeMarks st.df st.hp = some hp')
    (hres : RAs P ⟨st.tm, hp', st.tk, st.nx, st.nt, []⟩ fn.results.toList xs) (hs : ASubL xs ys) : XQ (EnvF P w0 S) Q e st := by
  intro V a w hr
  refine hQ a w ?_
  refine leaves_marks st.df a.defers st.hp hp' w hr.h hr.df hdf (fun w' H' L' => ?_)
  have hr' : Rel (EnvF P w0 S) V ⟨st.tm, hp', st.tk, st.nx, st.nt, []⟩ { tmps := a.tmps, defers := [] } w' := ⟨H', hr.nx, hr.nt, dfRel.nil, fun t x hx => (hr.tm t x hx).mono L'⟩
  obtain ⟨v, h1, h2⟩ := results_run hres rfl hr'
  refine ⟨v, h1, v, V.S, rfl, H'.ext, H'.le0.S, fun b o h => ⟨?_, H'.sz b o h⟩, res_sub hs h2⟩
  rcases H'.sub b o h with h1 | h1 | h1
  · exact .inl h1
  · exact .inr h1
  · exact h1.elim

theorem RAs.tmp {P : Program} {st : St} {t : Nat} {x : AV} {rs : List ResultVar} {xs : List AV} (h : lk st.tm t = some (.v x)) (k : RAs P st rs xs) : RAs P st (.tmp t :: rs) (x :: xs) := .cons (fun _ _ => RA.tmp h) k
theorem RAs.cell {P : Program} {st : St} {ad t n i off : Nat} {T : TypeId} {xs : List CA} {y : CA} {rs : List ResultVar} {ys : List AV} (ht : tyAgg P t = some (false, n)) (h : lk st.tm ad = some (.v (.one (.ptr i off)))) (hi : lk st.hp i = some (.cells T xs)) (hy : xs[off]? = some y) (k : RAs P st rs ys) : RAs P st (.cell ad t :: rs) (.one y :: ys) :=
  .cons (fun E hE => RA.cell (by rw [hE]; exact ht) h hi hy) k
theorem RAs.agg {P : Program} {st : St} {ad t n i off : Nat} {T : TypeId} {xs zs : List CA} {rs : List ResultVar} {ys : List AV} (ht : tyAgg P t = some (true, n)) (h : lk st.tm ad = some (.v (.one (.ptr i off)))) (hi : lk st.hp i = some (.cells T xs)) (hy : (xs.drop off).take n = zs) (hn : zs.length = n) (k : RAs P st rs ys) : RAs P st (.cell ad t :: rs) (.agg zs :: ys) :=
  .cons (fun E hE => RA.cellAgg (by rw [hE]; exact ht) h hi hy hn) k
end

section
open Go.RowKit
set_option linter.unusedSimpArgs false
set_option linter.unusedVariables false
set_option linter.unusedSectionVars false

section
variable (E : Env) (ops : Array Oper) (st : St) (effs : List Nat)

/-- Operations in the text's order: the facts so far, the memories so far (the last one in front). -/
inductive RunA (F : List (Nat × TV) → List Mem → Prop) : List Nat → List (Nat × TV) → List Mem → Prop
  | nil {fx : List (Nat × TV)} {ms : List Mem} (h : F fx ms) : RunA F [] fx ms
  | rd {i : Nat} {rest : List Nat} {fx : List (Nat × TV)} {m : Mem} {ms : List Mem} {o : Oper} {x : TV} (ho : ops[i]? = some o) (he : effs.contains i = false) (hw : wantedA ops (depsSt ops st fx i m).tm o = some true) (h : OpOK E o (depsSt ops st fx i m) x m) (hd : dstOK st o.dst = true)
      (k : RunA F rest ((i, x) :: fx) (m :: ms)) : RunA F (i :: rest) fx (m :: ms)
  | no {i : Nat} {rest : List Nat} {fx : List (Nat × TV)} {m : Mem} {ms : List Mem} {o : Oper} (ho : ops[i]? = some o) (he : effs.contains i = false) (hw : wantedA ops (depsSt ops st fx i m).tm o = some false) (hd : dstOK st o.dst = true)
      (k : RunA F rest ((i, .tup []) :: fx) (m :: ms)) : RunA F (i :: rest) fx (m :: ms)
  | eff {i : Nat} {rest : List Nat} {fx : List (Nat × TV)} {m : Mem} {ms : List Mem} {o : Oper} {x : TV} {m' : Mem} (ho : ops[i]? = some o) (he : effs.contains i = true) (hw : wantedA ops (depsSt ops st fx i m).tm o = some true) (h : OpOK E o (depsSt ops st fx i m) x m') (hd : dstOK st o.dst = true)
      (k : RunA F rest ((i, x) :: fx) (m' :: m :: ms)) : RunA F (i :: rest) fx (m :: ms)
end

section
variable {E : Env} {ops : Array Oper} {st : St} {effs : List Nat} {F : List (Nat × TV) → List Mem → Prop}

theorem RunA.case {i : Nat} {rest : List Nat} {fx : List (Nat × TV)} {m : Mem} {ms : List Mem} {o : Oper} {c : Bool} (ho : ops[i]? = some o) (he : effs.contains i = false) (hw : wantedA ops (depsSt ops st fx i m).tm o = some true) (h : OpOK E o (depsSt ops st fx i m) (TB c) m) (hd : dstOK st o.dst = true)
    (kt : c = true → RunA E ops st effs F rest ((i, TB true) :: fx) (m :: ms)) (kf : c = false → RunA E ops st effs F rest ((i, TB false) :: fx) (m :: ms)) : RunA E ops st effs F (i :: rest) fx (m :: ms) := by
  cases c with
  | true => exact .rd ho he hw h hd (kt rfl)
  | false => exact .rd ho he hw h hd (kf rfl)

theorem facts_later {fx' fx : List (Nat × TV)} {js : List Nat} (h : ∀ j ∈ js, ∀ p ∈ fx', p.1 ≠ j) : factsOf ops (fx' ++ fx) js = factsOf ops fx js := by
  have key : ∀ j ∈ js, lk (fx' ++ fx) j = lk fx j := fun j hj => by
    rw [lk_append]
    have : lk fx' j = none := by
      cases hc : lk fx' j with
      | none => rfl
      | some x => exact absurd rfl (h j hj _ (lk_mem hc))
    rw [this]
  unfold factsOf
  induction js with
  | nil => rfl
  | cons j js ih =>
    rw [List.filterMap_cons, List.filterMap_cons, key j (by simp), ih (fun j hj => h j (by simp [hj])) (fun j hj => key j (by simp [hj]))]

/-- Where operation i stands among the effects. -/
def homeOf (effs : List Nat) (i : Nat) : Nat := (effs.filter fun e => decide (e < i)).length

theorem run_home (hdag : ∀ i, i < ops.size → ∀ k ∈ edgesOf ops i, k < i) : ∀ (todo : List Nat) (i0 : Nat) (fx : List (Nat × TV)) (m : Mem) (ms : List Mem), RunA E ops st effs F todo fx (m :: ms) → (∀ p ∈ fx, p.1 < i0) → todo = List.range' i0 (ops.size - i0) → i0 ≤ ops.size →
    ∃ fx' ms', F (fx' ++ fx) (ms' ++ m :: ms) ∧ (∀ p ∈ fx', i0 ≤ p.1) ∧ ms'.length = (todo.filter effs.contains).length ∧ ∀ i ∈ todo, ∃ mi,
      (ms' ++ m :: ms).reverse[ms.length + ((List.range' i0 (i - i0)).filter effs.contains).length]? = some mi ∧
      ∃ o x, ops[i]? = some o ∧ lk (fx' ++ fx) i = some x ∧ dstOK st o.dst = true ∧
        ((wantedA ops (depsSt ops st (fx' ++ fx) i mi).tm o = some true ∧ ∃ m', OpOK E o (depsSt ops st (fx' ++ fx) i mi) x m' ∧ (if effs.contains i then (ms' ++ m :: ms).reverse[ms.length + ((List.range' i0 (i - i0)).filter effs.contains).length + 1]? = some m' else m' = mi)) ∨
         (wantedA ops (depsSt ops st (fx' ++ fx) i mi).tm o = some false ∧ x = .tup [] ∧ effs.contains i = false)) := by
  intro todo
  induction todo with
  | nil =>
    intro i0 fx m ms h _ _ _
    cases h with
    | nil h => exact ⟨[], [], h, (fun p hp => by cases hp), rfl, (fun i hi => by cases hi)⟩
  | cons j todo ih =>
    intro i0 fx m ms h hfx htodo hle
    have hlt : i0 < ops.size := by
      rcases Nat.lt_or_ge i0 ops.size with h1 | h1
      · exact h1
      · rw [Nat.sub_eq_zero_of_le h1] at htodo; cases htodo
    rw [show ops.size - i0 = (ops.size - (i0 + 1)) + 1 by omega, List.range'_succ] at htodo
    have hj : j = i0 := (List.cons.inj htodo).1
    have ht : todo = List.range' (i0 + 1) (ops.size - (i0 + 1)) := (List.cons.inj htodo).2
    subst hj
    have hmem : ∀ i ∈ todo, j + 1 ≤ i := fun i hi => by rw [ht] at hi; have := List.mem_range'_1.1 hi; omega
    have hdeps : ∀ (x : TV) (fx' : List (Nat × TV)) (mi : Mem), (∀ p ∈ fx', j + 1 ≤ p.1) → depsSt ops st (fx' ++ (j, x) :: fx) j mi = depsSt ops st fx j mi := fun x fx' mi hf => by
      unfold depsSt
      rw [show fx' ++ (j, x) :: fx = (fx' ++ [(j, x)]) ++ fx by simp, facts_later (fun k hk p hp => ?_)]
      have := hdag j hlt k hk
      rcases List.mem_append.1 hp with hp | hp
      · have := hf p hp; omega
      · simp at hp; subst hp; dsimp only; omega
    have hlkj : ∀ (x : TV) (fx' : List (Nat × TV)), (∀ p ∈ fx', j + 1 ≤ p.1) → lk (fx' ++ (j, x) :: fx) j = some x := fun x fx' hf => by
      rw [lk_append]
      have : lk fx' j = none := by
        cases hc : lk fx' j with
        | none => rfl
        | some y => have := hf _ (lk_mem hc); dsimp only at this; omega
      rw [this]; dsimp only; rw [lk_cons, if_pos rfl]
    have hfx1 : ∀ (x : TV), ∀ p ∈ (j, x) :: fx, p.1 < j + 1 := fun x p hp => by
      rcases List.mem_cons.1 hp with rfl | hp
      · exact Nat.lt_succ_self _
      · have := hfx p hp; omega
    have hrng : ∀ i, j + 1 ≤ i → List.range' j (i - j) = j :: List.range' (j + 1) (i - (j + 1)) := fun i hi => by
      rw [show i - j = (i - (j + 1)) + 1 by omega, List.range'_succ]
    have hself : ∀ (ms' : List Mem) (m : Mem) (ms : List Mem), (ms' ++ m :: ms).reverse[ms.length]? = some m := fun ms' m ms => by
      rw [List.reverse_append, List.getElem?_append_left (by simp), List.reverse_cons, List.getElem?_append_right (by simp)]; simp
    cases h with
    | rd ho he hw hok hd k =>
      rename_i o x
      obtain ⟨fx', ms', h1, h2, h3, h4⟩ := ih (j + 1) _ m ms k (hfx1 x) ht (by omega)
      refine ⟨fx' ++ [(j, x)], ms', by rw [List.append_assoc]; exact h1, fun p hp => ?_, by rw [List.filter_cons, if_neg (by rw [he]; exact Bool.false_ne_true)]; exact h3, fun i hi => ?_⟩
      · rcases List.mem_append.1 hp with hp | hp
        · have := h2 p hp; omega
        · simp at hp; subst hp; exact Nat.le_refl _
      · rw [show (fx' ++ [(j, x)]) ++ fx = fx' ++ (j, x) :: fx by simp]
        rcases List.mem_cons.1 hi with rfl | hi
        · rw [Nat.sub_self, List.range'_zero, List.filter_nil, List.length_nil, Nat.add_zero]
          exact ⟨m, hself ms' m ms, o, x, ho, hlkj x fx' h2, hd, .inl ⟨by rw [hdeps x fx' m h2]; exact hw, m, by rw [hdeps x fx' m h2]; exact hok, by rw [if_neg (by rw [he]; exact Bool.false_ne_true)]⟩⟩
        · have := h4 i hi
          rw [hrng i (hmem i hi), List.filter_cons, if_neg (by rw [he]; exact Bool.false_ne_true)]
          exact this
    | no ho he hw hd k =>
      rename_i o
      obtain ⟨fx', ms', h1, h2, h3, h4⟩ := ih (j + 1) _ m ms k (hfx1 _) ht (by omega)
      refine ⟨fx' ++ [(j, .tup [])], ms', by rw [List.append_assoc]; exact h1, fun p hp => ?_, by rw [List.filter_cons, if_neg (by rw [he]; exact Bool.false_ne_true)]; exact h3, fun i hi => ?_⟩
      · rcases List.mem_append.1 hp with hp | hp
        · have := h2 p hp; omega
        · simp at hp; subst hp; exact Nat.le_refl _
      · rw [show (fx' ++ [(j, TV.tup [])]) ++ fx = fx' ++ (j, .tup []) :: fx by simp]
        rcases List.mem_cons.1 hi with rfl | hi
        · rw [Nat.sub_self, List.range'_zero, List.filter_nil, List.length_nil, Nat.add_zero]
          exact ⟨m, hself ms' m ms, o, .tup [], ho, hlkj _ fx' h2, hd, .inr ⟨by rw [hdeps _ fx' m h2]; exact hw, rfl, he⟩⟩
        · have := h4 i hi
          rw [hrng i (hmem i hi), List.filter_cons, if_neg (by rw [he]; exact Bool.false_ne_true)]
          exact this
    | eff ho he hw hok hd k =>
      rename_i o x m'
      obtain ⟨fx', ms', h1, h2, h3, h4⟩ := ih (j + 1) _ m' (m :: ms) k (hfx1 x) ht (by omega)
      refine ⟨fx' ++ [(j, x)], ms' ++ [m'], by rw [List.append_assoc, List.append_assoc]; exact h1, fun p hp => ?_, by rw [List.filter_cons, if_pos he]; simp [h3], fun i hi => ?_⟩
      · rcases List.mem_append.1 hp with hp | hp
        · have := h2 p hp; omega
        · simp at hp; subst hp; exact Nat.le_refl _
      · rw [show (fx' ++ [(j, x)]) ++ fx = fx' ++ (j, x) :: fx by simp, show (ms' ++ [m']) ++ m :: ms = ms' ++ m' :: m :: ms by simp]
        rcases List.mem_cons.1 hi with rfl | hi
        · rw [Nat.sub_self, List.range'_zero, List.filter_nil, List.length_nil, Nat.add_zero]
          refine ⟨m, ?_, o, x, ho, hlkj x fx' h2, hd, .inl ⟨by rw [hdeps x fx' m h2]; exact hw, m', by rw [hdeps x fx' m h2]; exact hok, ?_⟩⟩
          · simp
          · rw [if_pos he]
            simp
        · obtain ⟨mi, h5, h6⟩ := h4 i hi
          have e1 : ((List.range' j (i - j)).filter effs.contains).length = ((List.range' (j + 1) (i - (j + 1))).filter effs.contains).length + 1 := by
            rw [hrng i (hmem i hi), List.filter_cons, if_pos he, List.length_cons]
          refine ⟨mi, ?_, ?_⟩
          · rw [e1, ← h5]; congr 1; simp; omega
          · rw [e1]
            rw [show ms.length + (((List.range' (j + 1) (i - (j + 1))).filter effs.contains).length + 1) = (m :: ms).length + ((List.range' (j + 1) (i - (j + 1))).filter effs.contains).length by simp; omega]
            exact h6

/-- The other places at which operations may come up. -/
def AllEx (E : Env) (ops : Array Oper) (st : St) (effs : List Nat) (fx : List (Nat × TV)) (ms : List Mem) : List (Nat × Nat) → Prop
  | [] => True
  | (i, j) :: r => (∃ m, ms[j]? = some m ∧ AnyOp E ops st fx effs ms i j m) ∧ AllEx E ops st effs fx ms r

theorem AllEx.get {fx : List (Nat × TV)} {ms : List Mem} : ∀ {l : List (Nat × Nat)} {i j : Nat}, AllEx E ops st effs fx ms l → l.contains (i, j) = true → ∃ m, ms[j]? = some m ∧ AnyOp E ops st fx effs ms i j m
  | [], i, j, _, h => by cases h
  | (a, b) :: r, i, j, ha, h => by
    simp only [List.contains_cons, Bool.or_eq_true, beq_iff_eq] at h
    rcases h with h | h
    · cases h; exact ha.1
    · exact AllEx.get ha.2 h

def homeK (effs : List Nat) (i : Nat) : Nat := ((List.range' 0 i).filter effs.contains).length

def exOK (ops : Array Oper) (effs : List Nat) (ex : List (Nat × Nat)) : Bool :=
  (List.range ops.size).all fun i => (List.range (effs.length + 1)).all fun j => !(mayAt ops effs i j) || j == homeK effs i || ex.contains (i, j)

theorem XC.anyRun {ro : Option Nat} {n id : Nat} {Q : Exit → Act → World → Prop} (effs : List Nat) (ex : List (Nat × Nat)) (hm : E.P.follows .mixedOrders = true) (hB : anyB ops effs = true) (hex : exOK ops effs ex = true) (hlen : ((List.range' 0 ops.size).filter effs.contains).length = effs.length)
    (h : RunA E ops st effs (fun fx ms => AllEx E ops st effs fx ms.reverse ex ∧ ∃ mE r, ms = mE :: r ∧ XQ E Q .normal (endSt ops st fx mE)) (List.range' 0 ops.size) [] [st.mem]) : XC E ro n Q (.region id ops true) st := by
  have hB' := hB
  simp only [anyB, Bool.and_eq_true] at hB'
  obtain ⟨⟨⟨⟨hdag, -⟩, -⟩, -⟩, -⟩ := hB'
  have hdag' : ∀ i, i < ops.size → ∀ k ∈ edgesOf ops i, k < i := fun i hi k hk => by
    have := List.all_eq_true.1 (List.all_eq_true.1 hdag i (by simpa using hi)) k hk
    simpa using this
  obtain ⟨fx', ms', ⟨hall, mE, r, hmE, hQ⟩, -, hms, hrun⟩ := run_home hdag' _ 0 [] st.mem [] h (fun p hp => by cases hp) (by rw [Nat.sub_zero]) (Nat.zero_le _)
  rw [List.append_nil] at hall hQ
  rw [hlen] at hms
  refine XC.anyOrder fx' effs (ms' ++ [st.mem]).reverse (mE := mE) hm hB (by simp) ?_ (fun i j m hi hj hmj hmay => ?_) hQ
  · rw [hmE]
    have : r.length = effs.length := by have := congrArg List.length hmE; simp at this; omega
    rw [List.reverse_cons, List.getElem?_append_right (by simp; omega)]; simp [this]
  · have h1 := List.all_eq_true.1 (List.all_eq_true.1 hex i (by simpa using hi)) j (by simpa using Nat.lt_succ_of_le hj)
    rw [hmay] at h1
    simp only [Bool.not_true, Bool.false_or, Bool.or_eq_true, beq_iff_eq] at h1
    rcases h1 with h1 | h1
    · obtain ⟨mi, h2, h3⟩ := hrun i (List.mem_range'_1.2 ⟨Nat.zero_le _, by omega⟩)
      rw [List.append_nil] at h3
      simp only [List.length_nil, Nat.zero_add, Nat.sub_zero] at h2 h3
      subst h1
      unfold homeK at hmj ⊢
      rw [hmj] at h2; cases h2
      exact h3
    · obtain ⟨m', h2, h3⟩ := hall.get h1
      rw [hmj] at h2; cases h2
      exact h3
end
end

end Go.Proofs.YtcapifnaceegmaaGreatDoor
