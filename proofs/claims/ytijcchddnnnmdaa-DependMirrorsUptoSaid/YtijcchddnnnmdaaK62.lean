/- Part 2 of the proof: rules, mirrors and plain laws. The statement DependMirrorsUpto is proved here: for every list of declarations and every two bytes the law returns true, and the arguments read behind the call as they did before; condition: the arguments are of bulk at most 1048576 (the second form). -/
import Derived.Test.YtijcchddnnnmdaaK61
import Derived.WalkKit
import Derived.Lib.Bytes
import Derived.Laws.Cover3
import Derived.Laws.BytesArg
import Derived.Shelf.Sort.Plain
import Derived.Shelf.Slices.CompactI
import Derived.Shelf.Slices.In.SortNone
import Derived.Ground.NamesProg
import Derived.Ground.Names2Prog
import Derived.Test.YtijcchddnnnmdaaProg
import Derived.Sort.OwnSortedInts
import Derived.Lib.RowBridge
namespace Go.Proofs.Ytijcchddnnnmdaa
section
open Go.RowKit
set_option linter.unusedSimpArgs false
set_option linter.unusedVariables false
set_option linter.unusedSectionVars false
abbrev QW (x : Int) : Int := IntKind.wrap .i64 x
inductive LO (σ β : Type) where
  | next (s : σ)
  | done (b : β)
def Qo {σ β : Type} (step : σ → Option (LO σ β)) : Nat → σ → Option β
  | 0, _ => none
  | n + 1, s => match step s with
    | none => none
    | some (.next s') => Qo step n s'
    | some (.done b) => some b
def QB : Nat := 1000000000
def J1 {α : Type} (l : List α) : Int → Option α
  | .ofNat k => l[k]?
  | .negSucc _ => none
def Qm {α : Type} (b : Bool) (x : Option α) : Option α := cond b x none
theorem XN {α : Type} {a b : α} (h : some a = some b) : a = b := Option.some.inj h
theorem bindO {α β : Type} {o : Option α} {f : α → Option β} {r : β} (h : Option.bind o f = some r) : ∃ x, o = some x ∧ f x = some r := by
  cases o with
  | none => cases h
  | some x => exact ⟨x, rfl, h⟩
theorem Qb {α β : Type} {o : Option α} {f : α → Option β} {r : β} {G : Prop} (h : Option.bind o f = some r) (k : ∀ x, o = some x → f x = some r → G) : G := by
  obtain ⟨x, h1, h2⟩ := bindO h
  exact k x h1 h2
theorem Qu {α : Type} {b : Bool} {x y r : Option α} (hb : b = true) (h : cond b x y = r) : x = r := by subst hb; exact h
theorem Qv {α : Type} {b : Bool} {x y r : Option α} (hb : b = false) (h : cond b x y = r) : y = r := by subst hb; exact h
theorem guardS {α : Type} {b : Bool} {x : Option α} {r : α} (h : Qm b x = some r) : b = true ∧ x = some r := by
  cases b with
  | false => cases h
  | true => exact ⟨rfl, h⟩
theorem QO {α : Type} {b : Bool} {x : Option α} {r : α} {G : Prop} (h : Qm b x = some r) (k : b = true → x = some r → G) : G := by
  obtain ⟨h1, h2⟩ := guardS h
  exact k h1 h2
theorem GN {α : Type} {l : List α} {i : Int} {x : α} (h : J1 l i = some x) : ∃ k : Nat, i = (k : Int) ∧ l[k]? = some x := by
  cases i with
  | ofNat k => exact ⟨k, rfl, h⟩
  | negSucc k => cases h
theorem loopS {σ β : Type} {step : σ → Option (LO σ β)} {n : Nat} {s : σ} {b : β} (h : Qo step n s = some b) : ∃ n' o, n = n' + 1 ∧ step s = some o ∧ (match o with
    | .next s' => Qo step n' s'
    | .done b' => some b') = some b := by
  cases n with
  | zero => cases h
  | succ n =>
    simp only [Qo] at h
    split at h
    · cases h
    · rename_i s' hs; exact ⟨n, _, rfl, hs, h⟩
    · rename_i b' hs; exact ⟨n, _, rfl, hs, h⟩
def RoundSays {σ β : Type} (step : σ → Option (LO σ β)) (n : Nat) (b : β) : LO σ β → Prop
  | .next s' => Qo step n s' = some b
  | .done b' => b' = b
class Enc (α : Type) where
  sz : Nat
  enc : α → List C
  encL : List α → List (List C)
  nil : encL [] = []
  app : ∀ a b, encL (a ++ b) = encL a ++ encL b
  one : ∀ x, encL [x] = [enc x]
theorem Enc.cons {α : Type} [Enc α] (x : α) (l : List α) : Enc.encL (x :: l) = Enc.enc x :: Enc.encL l := by
  have := Enc.app [x] l
  rw [Enc.one] at this
  exact this
theorem Enc.map {α : Type} [Enc α] : ∀ l : List α, Enc.encL l = l.map Enc.enc
  | [] => Enc.nil
  | x :: l => by rw [Enc.cons, Enc.map l]; rfl
theorem Enc.len {α : Type} [Enc α] (l : List α) : (Enc.encL l).length = l.length := by rw [Enc.map, List.length_map]
theorem Enc.get {α : Type} [Enc α] {l : List α} {k : Nat} {x : α} (h : l[k]? = some x) : (Enc.encL l)[k]? = some (Enc.enc x) := by rw [Enc.map, List.getElem?_map, h]; rfl
theorem Enc.drop {α : Type} [Enc α] (l : List α) (k : Nat) : Enc.encL (l.drop k) = (Enc.encL l).drop k := by rw [Enc.map, Enc.map, List.map_drop]
theorem Enc.take {α : Type} [Enc α] (l : List α) (k : Nat) : Enc.encL (l.take k) = (Enc.encL l).take k := by rw [Enc.map, Enc.map, List.map_take]
section
variable {E : Env} {ro : Option Nat} {n : Nat} {ops : Array Oper} {Q : Exit → Act → World → Prop} {rest : List Oper} {st : St} {o : Oper} {x : TV} {d : Option Tmp} {ty : TypeId} {pos : String} {af : Array Edge} {g : Option (Nat × Bool)}
inductive SlE {α : Type} [Enc α] : CA → List α → Prop
  | d (l : List α) : SlE (.d (.sl (Enc.sz α) (Enc.encL l))) l
  | app (i : Nat) (l : List α) : SlE (.app i (Enc.sz α) (Enc.encL l)) l
  | nil : SlE (.d (.v (.slice none 0 0))) []
theorem SlE.sl {α : Type} [Enc α] {y : CA} {l : List α} (h : SlE y l) : SlOf y (Enc.sz α) (Enc.encL l) := by
  cases h with
  | d => exact .d _ _
  | app => exact .app _ _ _
  | nil => rw [Enc.nil]; exact .nil _
theorem Qy {α : Type} [Enc α] {t : TypeId} {e : Nat} {o : Operand} {y : CA} {l : List α} (ht : QT E.P t = some (e, Enc.sz α)) (hx : ev st.tm o = some (.v (.one y))) (hs : SlE y l) :
    RO E ⟨d, .call { callee := .builtin .len, args := #[o], argTypes := #[t] }, ty, pos, af, g⟩ st (Wr l.length) := by
  have := RO.len (E := E) (d := d) (ty := ty) (pos := pos) (af := af) (g := g) ht hx hs.sl
  rw [Enc.len] at this; exact this
theorem Qq {α : Type} [Enc α] {t : TypeId} {e : Nat} {o i : Operand} {y : CA} {l : List α} {v : α} {m : Int} (ht : QT E.P t = some (e, Enc.sz α)) (hx : ev st.tm o = some (.v (.one y))) (hs : SlE y l)
    (hi : ev st.tm i = some (Wr m)) (hv : J1 l m = some v) : RO E ⟨d, .indexAddr t o i, ty, pos, af, g⟩ st (.v (.one (.pel (Enc.enc v) 0))) := by
  obtain ⟨k, hk, hl⟩ := GN hv
  exact RO.index ht hx hs.sl hi hk (Enc.get hl)
theorem RO.sliceE {α : Type} [Enc α] {t e : Nat} {o : Operand} {y : CA} {l : List α} {lo hi mx : Option Operand} {a b : Nat} (ht : QT E.P t = some (e, Enc.sz α)) (hx : ev st.tm o = some (.v (.one y))) (hs : SlE y l) (hb : Kr st l.length lo hi mx = some (a, b)) :
    RO E ⟨d, .slice t o lo hi mx, ty, pos, af, g⟩ st (.v (.one (.d (.sl (Enc.sz α) (Enc.encL ((l.drop a).take (b - a))))))) := by
  have := RO.sliceD (E := E) (d := d) (ty := ty) (pos := pos) (af := af) (g := g) ht hx hs.sl (by rw [Enc.len]; exact hb)
  rw [Enc.take, Enc.drop]; exact this
theorem QU {α : Type} [Enc α] {t e by_ i : Nat} {o1 o2 : Operand} {y : CA} {l l2 : List α} {m : Nat} (ht : QT E.P t = some (e, Enc.sz α)) (hte : Ya E.P e = some (Enc.sz α, by_)) (hb : Nat.ble by_ 100000 = true)
    (h1 : ev st.tm o1 = some (.v (.one (.app i (Enc.sz α) (Enc.encL l))))) (hi : W0 st.tk i = some (some ⟨e, Enc.sz α, m, []⟩)) (hm' : m = (Enc.encL l).length) (h2 : ev st.tm o2 = some (.v (.one y))) (hs : SlE y l2) (hm : Nat.ble (l.length + l2.length) 1000000000 = true) :
    OpOK E ⟨d, .call { callee := .builtin .append, args := #[o1, o2], argTypes := #[t, t] }, ty, pos, af, g⟩ st (.v (.one (.app i (Enc.sz α) (Enc.encL (l ++ l2))))) ⟨st.hp, (i, some ⟨e, Enc.sz α, (Enc.encL (l ++ l2)).length, []⟩) :: Jv i st.tk, st.nx⟩ := by
  subst hm'
  have := OpOK.appendApp (E := E) (dd := d) (ty := ty) (pos := pos) (af := af) (g := g) ht hte (Nat.le_of_ble_eq_true hb) h1 hi h2 hs.sl (by rw [Enc.len, Enc.len]; exact Nat.le_of_ble_eq_true hm)
  rw [Enc.app]; exact this
theorem OpOK.appendNilE {α : Type} [Enc α] {t e by_ : Nat} {o1 o2 : Operand} {y : CA} {l2 : List α} (ht : QT E.P t = some (e, Enc.sz α)) (hte : Ya E.P e = some (Enc.sz α, by_)) (hb : Nat.ble by_ 100000 = true)
    (h1 : ev st.tm o1 = some (Ku (.slice none 0 0))) (h2 : ev st.tm o2 = some (.v (.one y))) (hs : SlE y l2) (hm : Nat.ble l2.length 1000000000 = true) :
    OpOK E ⟨d, .call { callee := .builtin .append, args := #[o1, o2], argTypes := #[t, t] }, ty, pos, af, g⟩ st (.v (.one (.app st.nx (Enc.sz α) (Enc.encL l2)))) ⟨st.hp, (st.nx, some ⟨e, Enc.sz α, (Enc.encL l2).length, []⟩) :: st.tk, st.nx + 1⟩ := by
  by_cases h0 : Enc.encL l2 = []
  · intro V a w hr ro n K Q hK
    refine ⟨fun _ _ => trivial, ?_⟩
    rw [Oper.semAt_eq _ _ _ (by intro c h; cases h)]
    have r1 := JL (hr.ev h1)
    have r2 := hs.sl.reads (hr.ev h2)
    have hexec : ∀ v' w', (Builtin.append_ #[t, t] ty #[a.eval o1, a.eval o2]).run E.P w = .ok v' w' → (execOp a.eval ⟨d, .call { callee := .builtin .append, args := #[o1, o2], argTypes := #[t, t] }, ty, pos, af, g⟩).run E.P w = .ok (.value v') w' := fun v' w' h => by
      simp [execOp, resolve, invoke, builtin, h]
    rw [h0] at r2 hK
    obtain ⟨hu, i1, hi1, -⟩ := Jw ht
    obtain ⟨-, a2, cap2, b2, off2, us2, e2, -⟩ := r2.row
    have := run_append0 (P := E.P) (w := w) (ty := ty) hu hi1 none a2 0 0 cap2 (Nat.le_refl _)
    rw [hexec _ w (by rw [r1, e2]; exact this)]
    obtain ⟨H, L⟩ := hr.h.tokNil e (Enc.sz α)
    refine hK _ w _ (by dsimp only; rw [← hr.nx]; exact H) (by show max V.nx (V.nx + 1) = st.nx + 1; rw [hr.nx]; omega) L ?_
    rw [← hr.nx]; exact Z4 e (Enc.sz α)
  · exact OpOK.appendNil ht hte (Nat.le_of_ble_eq_true hb) h1 h2 hs.sl (by rw [Enc.len]; exact Nat.le_of_ble_eq_true hm) h0
theorem QY {α : Type} [Enc α] (v : α) {t e : Nat} {zs : List Value} {o1 : Operand} {x1 : AV} {ys : List CA} (ht : QT E.P t = some (e, Enc.sz α)) (hze : Jg E.P e = some zs) (hzl : zs.length = Enc.sz α) (hz : zs.all (·.oneCell') = true) (hpos : 0 < Enc.sz α) (hlen : 1 * Enc.sz α ≤ 16777216)
    (h1 : ev st.tm o1 = some (.v x1)) (hf : Yy (JB (Enc.sz α) 1) (Je zs 1) [(0, x1)] = some ys) (hs : CSubs ys (Enc.enc v)) (hel : (Enc.enc v).length = Enc.sz α) :
    OpOK E ⟨d, .buildSlice t 1 #[(0, o1)], ty, pos, af, g⟩ st (.v (.one (.app st.nx (Enc.sz α) (Enc.encL [v])))) ⟨st.hp, (st.nx, some ⟨e, Enc.sz α, (Enc.encL [v]).length, []⟩) :: st.tk, st.nx + 1⟩ :=
  OpOK.litApp (avs := [(0, x1)]) (Enc.encL [v]) ht hze hzl hz hpos hlen rfl (fun j i x hx => by
    match j, hx with
    | 0, hx => cases hx; exact ⟨o1, rfl, h1⟩) hf (by rw [Enc.one]; simpa using hs) (fun x hx => by rw [Enc.one] at hx; simp at hx; subst hx; exact hel) (by rw [Enc.one]; rfl)
theorem JX {α : Type} [Enc α] (v : α) {t e : Nat} {zs : List Value} {o1 : Operand} {x1 : AV} {ys : List CA} (ht : QT E.P t = some (e, Enc.sz α)) (hze : Jg E.P e = some zs) (hzl : zs.length = Enc.sz α) (hz : zs.all (·.oneCell') = true) (hlen : 1 * Enc.sz α ≤ 16777216)
    (h1 : ev st.tm o1 = some (.v x1)) (hf : Yy (JB (Enc.sz α) 1) (Je zs 1) [(0, x1)] = some ys) (hs : CSubs ys (Enc.enc v)) (hel : (Enc.enc v).length = Enc.sz α) :
    OpOK E ⟨d, .buildSlice t 1 #[(0, o1)], ty, pos, af, g⟩ st (.v (.one (.d (.sl (Enc.sz α) (Enc.encL [v]))))) ⟨st.hp, st.tk, st.nx⟩ :=
  OpOK.litData (avs := [(0, x1)]) (Enc.encL [v]) ht hze hzl hz hlen rfl (fun j i x hx => by
    match j, hx with
    | 0, hx => cases hx; exact ⟨o1, rfl, h1⟩) hf (by rw [Enc.one]; simpa using hs) (fun x hx => by rw [Enc.one] at hx; simp at hx; subst hx; exact hel) (by rw [Enc.one]; rfl)
theorem Q9 {t : Nat} {hp : List (Nat × HB)} {tk : List (Nat × Option Tok)} {nx : Nat} (hg : JO ops st.tm o = some true) (hdst : o.dst = some t) (hd : t < st.nt) (ho : OpOK E o st x ⟨hp, tk, nx⟩) (k : XL E ro n ops Q rest ⟨(t, x) :: st.tm, hp, tk, nx, st.nt, st.df⟩) : XL E ro n ops Q (o :: rest) st := by
  intro V a w h
  unfold wpListIn
  rw [if_pos (JY h hg)]
  refine ho V a w h ro n _ Q (fun V' w' v H hn L hx => k V' _ w' ?_)
  rw [hdst]
  exact (h.mem H hn L).put (d := t) hd hx
theorem QA {hp : List (Nat × HB)} {tk : List (Nat × Option Tok)} {nx : Nat} (hg : JO ops st.tm o = some true) (hdst : o.dst = none) (ho : OpOK E o st x ⟨hp, tk, nx⟩) (k : XL E ro n ops Q rest ⟨st.tm, hp, tk, nx, st.nt, st.df⟩) : XL E ro n ops Q (o :: rest) st := by
  intro V a w h
  unfold wpListIn
  rw [if_pos (JY h hg)]
  refine ho V a w h ro n _ Q (fun V' w' v H hn L hx => k V' _ w' ?_)
  rw [hdst]
  exact h.mem H hn L
theorem XL.rd {t : Nat} (hg : JO ops st.tm o = some true) (hdst : o.dst = some t) (hd : t < st.nt) (ho : RO E o st x) (k : XL E ro n ops Q rest ⟨(t, x) :: st.tm, st.hp, st.tk, st.nx, st.nt, st.df⟩) : XL E ro n ops Q (o :: rest) st :=
  Q9 hg hdst hd (Q5 ho) k
theorem XP {t : Nat} (hg : JO ops st.tm o = some true) (hdst : o.dst = some t) (hd : Nat.ble (t + 1) st.nt = true) (ho : RO E o st x) (k : XL E ro n ops Q rest ⟨(t, x) :: st.tm, st.hp, st.tk, st.nx, st.nt, st.df⟩) : XL E ro n ops Q (o :: rest) st := XL.rd hg hdst (W1 hd) ho k
theorem XR {t : Nat} {y : Operand} (hg : JO ops st.tm ⟨some t, .move y, ty, pos, af, g⟩ = some true) (hd : Nat.ble (t + 1) st.nt = true) (h : ev st.tm y = some x) (k : XL E ro n ops Q rest ⟨(t, x) :: st.tm, st.hp, st.tk, st.nx, st.nt, st.df⟩) : XL E ro n ops Q (⟨some t, .move y, ty, pos, af, g⟩ :: rest) st := XL.rd hg rfl (W1 hd) (QV h) k
theorem XS {t : Nat} {y : Operand} (hg : JO ops st.tm ⟨some t, .assign y, ty, pos, af, g⟩ = some true) (hd : Nat.ble (t + 1) st.nt = true) (h : ev st.tm y = some x) (k : XL E ro n ops Q rest ⟨(t, x) :: st.tm, st.hp, st.tk, st.nx, st.nt, st.df⟩) : XL E ro n ops Q (⟨some t, .assign y, ty, pos, af, g⟩ :: rest) st := XL.rd hg rfl (W1 hd) (Yg h) k
theorem Qa {t : Nat} (hg : JO ops st.tm o = some false) (hdst : o.dst = some t) (k : XL E ro n ops Q rest ⟨(t, .tup []) :: st.tm, st.hp, st.tk, st.nx, st.nt, st.df⟩) : XL E ro n ops Q (o :: rest) st := by
  intro V a w h
  unfold wpListIn
  rw [if_neg (by rw [JY h hg]; exact Bool.false_ne_true)]
  refine ⟨fun _ _ => trivial, ?_⟩
  rw [hdst]
  exact k V _ w (h.und t)
def NextM {σ β : Type} (E : Env) (inv : σ → St) (step : σ → Option (LO σ β)) (n : Nat) (b : β) (a : Act) (w : World) : Prop :=
  Next (X := σ × Nat) E (fun p => inv p.1) (fun p => Qo step p.2 p.1 = some b) (fun p => p.2) (n + 1) a w
theorem QH {σ β : Type} {c : Code} (step : σ → Option (LO σ β)) (inv : σ → St) (s0 : σ) (b : β) (h0 : StLe E st (inv s0)) (hok : Qo step QB s0 = some b)
    (round : ∀ (s : σ) (m : Nat) (o : LO σ β), step s = some o → RoundSays step m b o → XC E ro n (Exit.then (NextM E inv step m b) Q) c (inv s)) : XC E ro n Q (.loop c) st := by
  refine XC.loop (X := σ × Nat) (fun p => inv p.1) (fun p => Qo step p.2 p.1 = some b) (fun p => p.2) (s0, QB) h0 hok ?_
  rintro ⟨s, k⟩ hs
  obtain ⟨m, o, rfl, h1, h2⟩ := loopS hs
  refine round s m o h1 ?_
  cases o with
  | next s' => exact h2
  | done b' => exact Option.some.inj h2
theorem QD {σ β : Type} {step : σ → Option (LO σ β)} {inv : σ → St} {m : Nat} {b : β} (s' : σ) (hl : StLe E st (inv s')) (ho : RoundSays step m b (.next s')) : XQ E (Exit.then (NextM E inv step m b) Q) .normal st :=
  XQ.next (s', m) hl ho (Nat.lt_succ_self _)
def JnX {γ : Type} (E : Env) (i : Nat) (inv : γ → St) (K : γ → Prop) (Q : Exit → Act → World → Prop) : Exit → Act → World → Prop
  | .exit j, a, w => if j = i then ∃ v V, K v ∧ Rel E V (inv v) a w else Q (.exit j) a w
  | .normal, a, w => Q .normal a w
  | .goto l, a, w => Q (.goto l) a w
  | .ret, a, w => Q .ret a w
  | .panic c, a, w => Q (.panic c) a w
  | .outgrown, a, w => Q .outgrown a w
theorem QI {γ : Type} {c : Code} (i : Nat) (inv : γ → St) (K : γ → Prop) (h : XC E ro n (JnX E i inv K Q) c st) (k : ∀ v, K v → XQ E Q (.exit i) (inv v)) : XC E ro n Q c st := by
  intro V a w hr
  refine wpIn_mono (h V a w hr) (fun e a' w' hq => ?_)
  cases e with
  | exit j =>
    simp only [JnX] at hq
    split at hq
    · rename_i hj; subst hj
      obtain ⟨v, V', hv, hr'⟩ := hq
      exact k v hv V' a' w' hr'
    · exact hq
  | _ => exact hq
theorem QF {γ : Type} {i : Nat} {inv : γ → St} {K : γ → Prop} (v : γ) (hl : StLe E st (inv v)) (hK : K v) : XQ E (JnX E i inv K Q) (.exit i) st := fun V a w hr => by
  obtain ⟨V', hr'⟩ := hr.less hl
  simp only [JnX, if_pos]
  exact ⟨v, V', hK, hr'⟩
def JnR {γ : Type} (E : Env) (inv : γ → St) (K : γ → Prop) (Q : Exit → Act → World → Prop) : Exit → Act → World → Prop
  | .normal, a, w => ∃ v V, K v ∧ Rel E V (inv v) a w
  | .exit j, a, w => Q (.exit j) a w
  | .goto l, a, w => Q (.goto l) a w
  | .ret, a, w => Q .ret a w
  | .panic c, a, w => Q (.panic c) a w
  | .outgrown, a, w => Q .outgrown a w
theorem Jy {γ : Type} {c : Code} (inv : γ → St) (K : γ → Prop) (h : XC E ro n (JnR E inv K Q) c st) (k : ∀ v, K v → XQ E Q .normal (inv v)) : XC E ro n Q c st := by
  intro V a w hr
  refine wpIn_mono (h V a w hr) (fun e a' w' hq => ?_)
  cases e with
  | normal =>
    obtain ⟨v, V', hv, hr'⟩ := hq
    exact k v hv V' a' w' hr'
  | _ => exact hq
theorem QG {γ : Type} {inv : γ → St} {K : γ → Prop} (v : γ) (hl : StLe E st (inv v)) (hK : K v) : XQ E (JnR E inv K Q) .normal st := fun V a w hr => by
  obtain ⟨V', hr'⟩ := hr.less hl
  exact ⟨v, V', hK, hr'⟩
inductive ASubL : List AV → List AV → Prop
  | nil : ASubL [] []
  | cons {x y : AV} {xs ys : List AV} (h : ASub x y) (t : ASubL xs ys) : ASubL (x :: xs) (y :: ys)
theorem ASubL.spec {xs ys : List AV} (h : ASubL xs ys) : xs.length = ys.length ∧ ∀ (i : Nat) (y : AV), ys[i]? = some y → ∃ x, xs[i]? = some x ∧ ASub x y := by
  induction h with
  | nil => exact ⟨rfl, fun i y hy => by simp at hy⟩
  | cons h t ih =>
    refine ⟨by simp [ih.1], fun i y hy => ?_⟩
    cases i with
    | zero => simp at hy; subst hy; exact ⟨_, rfl, h⟩
    | succ i => exact ih.2 i y (by simpa using hy)
theorem Qt {f : FuncId} {ars : Array Operand} {args ys : List AV} {ats : Array TypeId} {res : TV} (hF : Fun E.P f ys res) (ha : ZF st.tm ars.toList = some args) (hs : ASubL args ys) :
    OpOK E ⟨d, .call { callee := .value (.func f), args := ars, argTypes := ats }, ty, pos, af, g⟩ st res ⟨st.hp, st.tk, st.nx⟩ := by
  intro V a w hr ro n K Q hK
  refine ⟨fun _ _ => trivial, ?_⟩
  rw [Oper.semAt_eq _ _ _ (by intro c h; cases h)]
  rw [call_enters rfl hF.1]
  refine ⟨(by intro h; cases h), ?_⟩
  have har : argsRel (Kg V.S) w ys (ars.map a.eval) := by
    obtain ⟨h1, h2⟩ := Ks hr ha
    obtain ⟨h3, h4⟩ := hs.spec
    refine ⟨by omega, fun i y hy => ?_⟩
    obtain ⟨x, hx', hxy⟩ := h4 i y hy
    obtain ⟨u, hu, hxu⟩ := h2 i x hx'
    exact ⟨u, hu, hxy.rel hxu⟩
  have hc' : CallsIn Fence.wide (n - 1) E.P f _ w _ := callsIn_wide.2 (hF.2 V.S w _ hr.h.sz har)
  refine CallsIn.mono (F := Ww ro) hc' ?_
  rintro e w' ⟨v, S', rfl, hx, hS, hS', hv⟩
  have hg : V.Grow { V with S := S' } w w' := ⟨Nat.le_refl _, fun _ _ => rfl, fun _ _ => rfl, fun _ _ _ _ => rfl, hS, fun b o h => (hS' b o h).1, fun b o h => (hS' b o h).2⟩
  exact hK { V with S := S' } w' v (hr.h.later hx hg) hr.nx (hr.h.le hx hg) (hv.mono (of_le (V := { V with S := S' })))
end
def FunPostM (P : Program) (n : Nat) (fn : Func) (S : Nat → Nat → Prop) (w : World) (res : TV) : Exit → Act → World → Prop :=
  bodyPostM Fence.wide n P fn fun e w' => ∃ v S', e = .returned v ∧ ZH w w' ∧ (∀ b o, S b o → S' b o) ∧ (∀ b o, S' b o → (S b o ∨ w.heap.size ≤ b) ∧ b < w'.heap.size) ∧ res.rel (Kg S') w' v
theorem Jd {P : Program} {f : FuncId} {fn : Func} {c : Code} {args : List AV} {res : TV} (n nt : Nat) (hf : P.funcs[f]? = some fn) (hb : fn.body = some c) (hen : J9 P f) (hn : fn.ntmps = nt) (hnt : args.length ≤ nt)
    (h : ∀ (S : Nat → Nat → Prop) (w : World), XC (EnvF P w S) none n (FunPostM P n fn S w res) c ⟨Jc 0 args, [], [], 0, nt, []⟩) : Fun P f args res := by
  subst hn
  refine ⟨hen, fun S w vs hS hargs => ?_⟩
  refine (callsIn_wide (n := n)).1 (callsIn_of_wp_marks (F := Fence.wide) hf hb trivial ?_)
  refine h S w (Kg S) _ w ⟨GJ hS, rfl, ?_, dfRel.nil, ?_⟩
  · simp [hargs.1]; omega
  · intro t x hx
    obtain ⟨k, y, h1, h2, rfl⟩ := lk_entry args 0 t x hx
    obtain ⟨u, hu, hy⟩ := hargs.2 k y h2
    have hk : k < vs.size := (Array.getElem?_eq_some_iff.1 hu).1
    have : (vs ++ Array.replicate (fn.ntmps - vs.size) undef).getD t undef = u := by
      rw [show t = k by omega, Array.getD_eq_getD_getElem?, Array.getElem?_append_left hk, hu]; rfl
    rw [this]; exact hy
theorem res_sub {xs ys : List AV} (h : ASubL xs ys) {V : Vu} {w : World} {v : Value} (hv : (Qr xs).rel V w v) : (Qr ys).rel (Kg V.S) w v := by
  obtain ⟨hl, hs⟩ := h.spec
  match xs, ys, hl with
  | [], [], _ => obtain ⟨vs, h1, h2, h3⟩ := hv; exact ⟨vs, h1, h2, fun i x hx => by simp at hx⟩
  | [x], [y], _ =>
    obtain ⟨x', hx, hxy⟩ := hs 0 y rfl
    cases hx
    exact hxy.rel hv
  | x :: x2 :: xs, y :: y2 :: ys, hl =>
    obtain ⟨vs, h1, h2, h3⟩ := hv
    refine ⟨vs, h1, by rw [h2]; exact hl, fun i z hz => ?_⟩
    obtain ⟨x', hx, hxy⟩ := hs i z hz
    obtain ⟨u, hu, hr⟩ := h3 i x' hx
    exact ⟨u, hu, hxy.rel hr⟩
theorem QX {P : Program} {n : Nat} {fn : Func} {S : Nat → Nat → Prop} {w0 : World} {st : St} {Q : Exit → Act → World → Prop} {e : Exit} {hp' : List (Nat × HB)} {xs ys : List AV} (hQ : ∀ a w, FunPostM P n fn S w0 (Qr ys) .ret a w → Q e a w) (hdf : Ze st.df st.hp = some hp')
    (hres : RAs P ⟨st.tm, hp', st.tk, st.nx, st.nt, []⟩ fn.results.toList xs) (hs : ASubL xs ys) : XQ (EnvF P w0 S) Q e st := by
  intro V a w hr
  refine hQ a w ?_
  refine leaves_marks st.df a.defers st.hp hp' w hr.h hr.df hdf (fun w' V' H' hn' L' => ?_)
  have hr' : Rel (EnvF P w0 S) V' ⟨st.tm, hp', st.tk, st.nx, st.nt, []⟩ { tmps := a.tmps, defers := [] } w' := ⟨H', hn'.trans hr.nx, hr.nt, dfRel.nil, fun t x hx => (hr.tm t x hx).keep L'⟩
  obtain ⟨v, h1, h2⟩ := results_run hres rfl hr'
  refine ⟨v, h1, v, V'.S, rfl, H'.ext, H'.le0.S, fun b o h => ⟨?_, H'.sz b o h⟩, res_sub hs h2⟩
  rcases H'.sub b o h with h1 | h1 | h1
  · exact .inl h1
  · exact .inr h1
  · exact h1.elim
theorem Qp {P : Program} {st : St} {t : Nat} {x : AV} {rs : List ResultVar} {xs : List AV} (h : W0 st.tm t = some (.v x)) (k : RAs P st rs xs) : RAs P st (.tmp t :: rs) (x :: xs) := .cons (fun _ _ => RA.tmp h) k
theorem JU {P : Program} {st : St} {ad t n i off : Nat} {T : TypeId} {xs zs : List CA} {rs : List ResultVar} {ys : List AV} (ht : Jn P t = some (true, n)) (h : W0 st.tm ad = some (.v (.one (.ptr i off)))) (hi : W0 st.hp i = some (.cells T xs)) (hy : (xs.drop off).take n = zs) (hn : zs.length = n) (k : RAs P st rs ys) : RAs P st (.cell ad t :: rs) (.agg zs :: ys) :=
  .cons (fun E hE => RA.cellAgg (by rw [hE]; exact ht) h hi hy hn) k
end
section
open Go.RowKit
set_option linter.unusedSimpArgs false
set_option linter.unusedVariables false
set_option linter.unusedSectionVars false
section
variable (E : Env) (ops : Array Oper) (st : St) (effs : List Nat)
inductive RunA (F : List (Nat × TV) → List Mem → Prop) : List Nat → List (Nat × TV) → List Mem → Prop
  | nil {fx : List (Nat × TV)} {ms : List Mem} (h : F fx ms) : RunA F [] fx ms
  | rd {i : Nat} {rest : List Nat} {fx : List (Nat × TV)} {m : Mem} {ms : List Mem} {o : Oper} {x : TV} (ho : ops[i]? = some o) (he : effs.contains i = false) (hw : JO ops (JS ops st fx i m).tm o = some true) (h : OpOK E o (JS ops st fx i m) x m) (hd : Kp st o.dst = true)
      (k : RunA F rest ((i, x) :: fx) (m :: ms)) : RunA F (i :: rest) fx (m :: ms)
  | no {i : Nat} {rest : List Nat} {fx : List (Nat × TV)} {m : Mem} {ms : List Mem} {o : Oper} (ho : ops[i]? = some o) (he : effs.contains i = false) (hw : JO ops (JS ops st fx i m).tm o = some false) (hd : Kp st o.dst = true)
      (k : RunA F rest ((i, .tup []) :: fx) (m :: ms)) : RunA F (i :: rest) fx (m :: ms)
  | eff {i : Nat} {rest : List Nat} {fx : List (Nat × TV)} {m : Mem} {ms : List Mem} {o : Oper} {x : TV} {m' : Mem} (ho : ops[i]? = some o) (he : effs.contains i = true) (hw : JO ops (JS ops st fx i m).tm o = some true) (h : OpOK E o (JS ops st fx i m) x m') (hd : Kp st o.dst = true)
      (k : RunA F rest ((i, x) :: fx) (m' :: m :: ms)) : RunA F (i :: rest) fx (m :: ms)
end
section
variable {E : Env} {ops : Array Oper} {st : St} {effs : List Nat} {F : List (Nat × TV) → List Mem → Prop}
theorem facts_later {fx' fx : List (Nat × TV)} {js : List Nat} (h : ∀ j ∈ js, ∀ p ∈ fx', p.1 ≠ j) : ZB ops (fx' ++ fx) js = ZB ops fx js := by
  have key : ∀ j ∈ js, W0 (fx' ++ fx) j = W0 fx j := fun j hj => by
    rw [YD]
    have : W0 fx' j = none := by
      cases hc : W0 fx' j with
      | none => rfl
      | some x => exact absurd rfl (h j hj _ (lk_mem hc))
    rw [this]
  unfold ZB
  induction js with
  | nil => rfl
  | cons j js ih =>
    rw [List.filterMap_cons, List.filterMap_cons, key j (by simp), ih (fun j hj => h j (by simp [hj])) (fun j hj => key j (by simp [hj]))]
theorem run_home (hdag : ∀ i, i < ops.size → ∀ k ∈ Jt ops i, k < i) : ∀ (todo : List Nat) (i0 : Nat) (fx : List (Nat × TV)) (m : Mem) (ms : List Mem), RunA E ops st effs F todo fx (m :: ms) → (∀ p ∈ fx, p.1 < i0) → todo = List.range' i0 (ops.size - i0) → i0 ≤ ops.size →
    ∃ fx' ms', F (fx' ++ fx) (ms' ++ m :: ms) ∧ (∀ p ∈ fx', i0 ≤ p.1) ∧ ms'.length = (todo.filter effs.contains).length ∧ ∀ i ∈ todo, ∃ mi,
      (ms' ++ m :: ms).reverse[ms.length + ((List.range' i0 (i - i0)).filter effs.contains).length]? = some mi ∧
      ∃ o x, ops[i]? = some o ∧ W0 (fx' ++ fx) i = some x ∧ Kp st o.dst = true ∧
        ((JO ops (JS ops st (fx' ++ fx) i mi).tm o = some true ∧ ∃ m', OpOK E o (JS ops st (fx' ++ fx) i mi) x m' ∧ (if effs.contains i then (ms' ++ m :: ms).reverse[ms.length + ((List.range' i0 (i - i0)).filter effs.contains).length + 1]? = some m' else m' = mi)) ∨
         (JO ops (JS ops st (fx' ++ fx) i mi).tm o = some false ∧ x = .tup [] ∧ effs.contains i = false)) := by
  intro todo
  induction todo with
  | nil =>
    intro i0 fx m ms h _ _ _
    cases h with
    | nil h => exact ⟨[], [], h, (fun p hp => by cases hp), rfl, (fun i hi => by cases hi)⟩
  | cons j todo ih =>
    intro i0 fx m ms h hfx htodo hle
    have hlt : i0 < ops.size := by
      rcases Nat.lt_or_ge i0 ops.size with h1 | h1
      · exact h1
      · rw [Nat.sub_eq_zero_of_le h1] at htodo; cases htodo
    rw [show ops.size - i0 = (ops.size - (i0 + 1)) + 1 by omega, List.range'_succ] at htodo
    have hj : j = i0 := (List.cons.inj htodo).1
    have ht : todo = List.range' (i0 + 1) (ops.size - (i0 + 1)) := (List.cons.inj htodo).2
    subst hj
    have hmem : ∀ i ∈ todo, j + 1 ≤ i := fun i hi => by rw [ht] at hi; have := List.mem_range'_1.1 hi; omega
    have hdeps : ∀ (x : TV) (fx' : List (Nat × TV)) (mi : Mem), (∀ p ∈ fx', j + 1 ≤ p.1) → JS ops st (fx' ++ (j, x) :: fx) j mi = JS ops st fx j mi := fun x fx' mi hf => by
      unfold JS
      rw [show fx' ++ (j, x) :: fx = (fx' ++ [(j, x)]) ++ fx by simp, facts_later (fun k hk p hp => ?_)]
      have := hdag j hlt k hk
      rcases List.mem_append.1 hp with hp | hp
      · have := hf p hp; omega
      · simp at hp; subst hp; dsimp only; omega
    have hlkj : ∀ (x : TV) (fx' : List (Nat × TV)), (∀ p ∈ fx', j + 1 ≤ p.1) → W0 (fx' ++ (j, x) :: fx) j = some x := fun x fx' hf => by
      rw [YD]
      have : W0 fx' j = none := by
        cases hc : W0 fx' j with
        | none => rfl
        | some y => have := hf _ (lk_mem hc); dsimp only at this; omega
      rw [this]; dsimp only; rw [Qn, if_pos rfl]
    have hfx1 : ∀ (x : TV), ∀ p ∈ (j, x) :: fx, p.1 < j + 1 := fun x p hp => by
      rcases List.mem_cons.1 hp with rfl | hp
      · exact Nat.lt_succ_self _
      · have := hfx p hp; omega
    have hrng : ∀ i, j + 1 ≤ i → List.range' j (i - j) = j :: List.range' (j + 1) (i - (j + 1)) := fun i hi => by
      rw [show i - j = (i - (j + 1)) + 1 by omega, List.range'_succ]
    have hself : ∀ (ms' : List Mem) (m : Mem) (ms : List Mem), (ms' ++ m :: ms).reverse[ms.length]? = some m := fun ms' m ms => by
      rw [List.reverse_append, List.getElem?_append_left (by simp), List.reverse_cons, List.getElem?_append_right (by simp)]; simp
    cases h with
    | rd ho he hw hok hd k =>
      rename_i o x
      obtain ⟨fx', ms', h1, h2, h3, h4⟩ := ih (j + 1) _ m ms k (hfx1 x) ht (by omega)
      refine ⟨fx' ++ [(j, x)], ms', by rw [List.append_assoc]; exact h1, fun p hp => ?_, by rw [List.filter_cons, if_neg (by rw [he]; exact Bool.false_ne_true)]; exact h3, fun i hi => ?_⟩
      · rcases List.mem_append.1 hp with hp | hp
        · have := h2 p hp; omega
        · simp at hp; subst hp; exact Nat.le_refl _
      · rw [show (fx' ++ [(j, x)]) ++ fx = fx' ++ (j, x) :: fx by simp]
        rcases List.mem_cons.1 hi with rfl | hi
        · rw [Nat.sub_self, List.range'_zero, List.filter_nil, List.length_nil, Nat.add_zero]
          exact ⟨m, hself ms' m ms, o, x, ho, hlkj x fx' h2, hd, .inl ⟨by rw [hdeps x fx' m h2]; exact hw, m, by rw [hdeps x fx' m h2]; exact hok, by rw [if_neg (by rw [he]; exact Bool.false_ne_true)]⟩⟩
        · have := h4 i hi
          rw [hrng i (hmem i hi), List.filter_cons, if_neg (by rw [he]; exact Bool.false_ne_true)]
          exact this
    | no ho he hw hd k =>
      rename_i o
      obtain ⟨fx', ms', h1, h2, h3, h4⟩ := ih (j + 1) _ m ms k (hfx1 _) ht (by omega)
      refine ⟨fx' ++ [(j, .tup [])], ms', by rw [List.append_assoc]; exact h1, fun p hp => ?_, by rw [List.filter_cons, if_neg (by rw [he]; exact Bool.false_ne_true)]; exact h3, fun i hi => ?_⟩
      · rcases List.mem_append.1 hp with hp | hp
        · have := h2 p hp; omega
        · simp at hp; subst hp; exact Nat.le_refl _
      · rw [show (fx' ++ [(j, TV.tup [])]) ++ fx = fx' ++ (j, .tup []) :: fx by simp]
        rcases List.mem_cons.1 hi with rfl | hi
        · rw [Nat.sub_self, List.range'_zero, List.filter_nil, List.length_nil, Nat.add_zero]
          exact ⟨m, hself ms' m ms, o, .tup [], ho, hlkj _ fx' h2, hd, .inr ⟨by rw [hdeps _ fx' m h2]; exact hw, rfl, he⟩⟩
        · have := h4 i hi
          rw [hrng i (hmem i hi), List.filter_cons, if_neg (by rw [he]; exact Bool.false_ne_true)]
          exact this
    | eff ho he hw hok hd k =>
      rename_i o x m'
      obtain ⟨fx', ms', h1, h2, h3, h4⟩ := ih (j + 1) _ m' (m :: ms) k (hfx1 x) ht (by omega)
      refine ⟨fx' ++ [(j, x)], ms' ++ [m'], by rw [List.append_assoc, List.append_assoc]; exact h1, fun p hp => ?_, by rw [List.filter_cons, if_pos he]; simp [h3], fun i hi => ?_⟩
      · rcases List.mem_append.1 hp with hp | hp
        · have := h2 p hp; omega
        · simp at hp; subst hp; exact Nat.le_refl _
      · rw [show (fx' ++ [(j, x)]) ++ fx = fx' ++ (j, x) :: fx by simp, show (ms' ++ [m']) ++ m :: ms = ms' ++ m' :: m :: ms by simp]
        rcases List.mem_cons.1 hi with rfl | hi
        · rw [Nat.sub_self, List.range'_zero, List.filter_nil, List.length_nil, Nat.add_zero]
          refine ⟨m, ?_, o, x, ho, hlkj x fx' h2, hd, .inl ⟨by rw [hdeps x fx' m h2]; exact hw, m', by rw [hdeps x fx' m h2]; exact hok, ?_⟩⟩
          · simp
          · rw [if_pos he]
            simp
        · obtain ⟨mi, h5, h6⟩ := h4 i hi
          have e1 : ((List.range' j (i - j)).filter effs.contains).length = ((List.range' (j + 1) (i - (j + 1))).filter effs.contains).length + 1 := by
            rw [hrng i (hmem i hi), List.filter_cons, if_pos he, List.length_cons]
          refine ⟨mi, ?_, ?_⟩
          · rw [e1, ← h5]; congr 1; simp; omega
          · rw [e1]
            rw [show ms.length + (((List.range' (j + 1) (i - (j + 1))).filter effs.contains).length + 1) = (m :: ms).length + ((List.range' (j + 1) (i - (j + 1))).filter effs.contains).length by simp; omega]
            exact h6
def AllEx (E : Env) (ops : Array Oper) (st : St) (effs : List Nat) (fx : List (Nat × TV)) (ms : List Mem) : List (Nat × Nat) → Prop
  | [] => True
  | (i, j) :: r => (∃ m, ms[j]? = some m ∧ AnyOp E ops st fx effs ms i j m) ∧ AllEx E ops st effs fx ms r
theorem AllEx.get {fx : List (Nat × TV)} {ms : List Mem} : ∀ {l : List (Nat × Nat)} {i j : Nat}, AllEx E ops st effs fx ms l → l.contains (i, j) = true → ∃ m, ms[j]? = some m ∧ AnyOp E ops st fx effs ms i j m
  | [], i, j, _, h => by cases h
  | (a, b) :: r, i, j, ha, h => by
    simp only [List.contains_cons, Bool.or_eq_true, beq_iff_eq] at h
    rcases h with h | h
    · cases h; exact ha.1
    · exact AllEx.get ha.2 h
def ZQ (effs : List Nat) (i : Nat) : Nat := ((List.range' 0 i).filter effs.contains).length
def exOK (ops : Array Oper) (effs : List Nat) (ex : List (Nat × Nat)) : Bool :=
  (List.range ops.size).all fun i => (List.range (effs.length + 1)).all fun j => !(X0 ops effs i j) || j == ZQ effs i || ex.contains (i, j)
theorem JZ {ro : Option Nat} {n id : Nat} {Q : Exit → Act → World → Prop} (effs : List Nat) (ex : List (Nat × Nat)) (hm : E.P.follows .mixedOrders = true) (hB : X3 ops effs = true) (hex : exOK ops effs ex = true) (hlen : ((List.range' 0 ops.size).filter effs.contains).length = effs.length)
    (h : RunA E ops st effs (fun fx ms => AllEx E ops st effs fx ms.reverse ex ∧ ∃ mE r, ms = mE :: r ∧ XQ E Q .normal (G6 ops st fx mE)) (List.range' 0 ops.size) [] [st.mem]) : XC E ro n Q (.region id ops true) st := by
  have hB' := hB
  simp only [X3, Bool.and_eq_true] at hB'
  obtain ⟨⟨⟨⟨hdag, -⟩, -⟩, -⟩, -⟩ := hB'
  have hdag' : ∀ i, i < ops.size → ∀ k ∈ Jt ops i, k < i := fun i hi k hk => by
    have := List.all_eq_true.1 (List.all_eq_true.1 hdag i (by simpa using hi)) k hk
    simpa using this
  obtain ⟨fx', ms', ⟨hall, mE, r, hmE, hQ⟩, -, hms, hrun⟩ := run_home hdag' _ 0 [] st.mem [] h (fun p hp => by cases hp) (by rw [Nat.sub_zero]) (Nat.zero_le _)
  rw [List.append_nil] at hall hQ
  rw [hlen] at hms
  refine XC.anyOrder fx' effs (ms' ++ [st.mem]).reverse (mE := mE) hm hB (by simp) ?_ (fun i j m hi hj hmj hmay => ?_) hQ
  · rw [hmE]
    have : r.length = effs.length := by have := congrArg List.length hmE; simp at this; omega
    rw [List.reverse_cons, List.getElem?_append_right (by simp; omega)]; simp [this]
  · have h1 := List.all_eq_true.1 (List.all_eq_true.1 hex i (by simpa using hi)) j (by simpa using Nat.lt_succ_of_le hj)
    rw [hmay] at h1
    simp only [Bool.not_true, Bool.false_or, Bool.or_eq_true, beq_iff_eq] at h1
    rcases h1 with h1 | h1
    · obtain ⟨mi, h2, h3⟩ := hrun i (List.mem_range'_1.2 ⟨Nat.zero_le _, by omega⟩)
      rw [List.append_nil] at h3
      simp only [List.length_nil, Nat.zero_add, Nat.sub_zero] at h2 h3
      subst h1
      unfold ZQ at hmj ⊢
      rw [hmj] at h2; cases h2
      exact h3
    · obtain ⟨m', h2, h3⟩ := hall.get h1
      rw [hmj] at h2; cases h2
      exact h3
end
end
end Go.Proofs.Ytijcchddnnnmdaa
namespace Go.Proofs.Ytijcchddnnnmdaa
set_option linter.unusedSimpArgs false
set_option linter.unusedVariables false
set_option linter.unusedSectionVars false
abbrev Wv := Int × Int
structure Lvl where
  c : Int
  vs : List Wv
structure Bnd where
  lo : Lvl
  hi : Lvl
end Go.Proofs.Ytijcchddnnnmdaa
namespace Go.Proofs.Ytijcchddnnnmdaa
open Go.RowKit
set_option linter.unusedSimpArgs false
set_option linter.unusedVariables false
set_option linter.unusedSectionVars false
def lvC (x : Wv) : List C := [.v (.int .i64 x.1), .v (.int .i64 x.2)]
def vsC (l : List Wv) : C := .sl 2 (l.map lvC)
def lvlC (L : Lvl) : List C := [.v (.int .i64 L.c), vsC L.vs]
def bndC (B : Bnd) : List C := [.v (.int .i64 B.lo.c), vsC B.lo.vs, .v (.int .i64 B.hi.c), vsC B.hi.vs]
def intC (n : Int) : List C := [.v (.int .i64 n)]
end Go.Proofs.Ytijcchddnnnmdaa
namespace Go.Proofs.Ytijcchddnnnmdaa
open Go.RowKit
set_option linter.unusedSimpArgs false
set_option linter.unusedVariables false
set_option linter.unusedSectionVars false
instance : Enc Wv := ⟨2, lvC, fun l => l.map lvC, rfl, fun a b => List.map_append, fun _ => rfl⟩
instance : Enc Lvl := ⟨2, lvlC, fun l => l.map lvlC, rfl, fun a b => List.map_append, fun _ => rfl⟩
instance : Enc Bnd := ⟨4, bndC, fun l => l.map bndC, rfl, fun a b => List.map_append, fun _ => rfl⟩
instance : Enc Int := ⟨1, intC, fun l => l.map intC, rfl, fun a b => List.map_append, fun _ => rfl⟩
def strC (s : ByteArray) : List C := [.v (.string s)]
instance : Enc ByteArray := ⟨1, strC, fun l => l.map strC, rfl, fun a b => List.map_append, fun _ => rfl⟩
def boolC (b : Bool) : List C := [.v (.bool b)]
instance : Enc Bool := ⟨1, boolC, fun l => l.map boolC, rfl, fun a b => List.map_append, fun _ => rfl⟩
def slC {α : Type} [Enc α] (l : List α) : List C := [.sl (Enc.sz α) (Enc.encL l)]
instance {α : Type} [Enc α] : Enc (List α) := ⟨1, slC, fun l => l.map slC, rfl, fun a b => List.map_append, fun _ => rfl⟩
structure Edg where
  fr : Int
  to : Int
  by_ : Int
def edgC (e : Edg) : List C := [.v (.int .i64 e.fr), .v (.int .i64 e.to), .v (.int .i64 e.by_)]
instance : Enc Edg := ⟨3, edgC, fun l => l.map edgC, rfl, fun a b => List.map_append, fun _ => rfl⟩
end Go.Proofs.Ytijcchddnnnmdaa
namespace Go.Proofs.Ytijcchddnnnmdaa
open Go.RowKit
set_option linter.unusedSimpArgs false
set_option linter.unusedVariables false
set_option linter.unusedSectionVars false
section
variable {E : Env} {ro : Option Nat} {n : Nat} {Q : Exit → Act → World → Prop} {st : St} {c : Code}
theorem XC.begin (h : E.V0.nx ≤ st.nx → XC E ro n Q c st) : XC E ro n Q c st := fun V a w hr => h (by rw [← hr.nx]; exact hr.h.le0.nx) V a w hr
theorem Kf {st' : St} {e : Exit} (hQ : XQ E Q e st') (hl : StLe E st st') : XQ E Q e st := JT hl hQ
theorem XC.exec {st' : St} {e : Exit} {rn : Option Nat} (h : ExecOK E.P rn c st e st') (hro : RoundOf E rn ro) (k : XQ E Q e st') : XC E ro n Q c st := h E ro n Q rfl hro k
end
theorem QP {E : Env} {st : St} {dd : Option Tmp} {ty : TypeId} {pos : String} {af : Array Edge} {g : Option (Nat × Bool)} {x : Operand} {f : FuncId} {caps : List (Nat × Nat)} {ars : Array Operand} {args args' : List AV} {ats : Array TypeId} {res : TV} {m' : Mem} {hp0 : List (Nat × HB)} {tk0 : List (Nat × Option Tok)} {nx0 : Nat} (hx : ev st.tm x = some (.v (.one (.fn f caps)))) (ha : ZF st.tm ars.toList = some args) (he : args ++ GW caps = args')
    (hc : CallM E.P f args' ⟨hp0, tk0, nx0⟩ res m') (hn0 : st.nx = nx0) (hh : hpLe st.hp hp0) (ht : tkLe st.tk tk0) : OpOK E ⟨dd, .call { callee := .value x, args := ars, argTypes := ats }, ty, pos, af, g⟩ st res m' := by
  subst hn0; subst he
  intro V a w hr
  have hr' : Rel E V { st with hp := hp0, tk := tk0 } a w := ⟨hr.h.forgetLe hh ht, hr.nx, hr.nt, hr.df, hr.tm⟩
  exact OpOK.call (st := { st with hp := hp0, tk := tk0 }) hx ha hc V a w hr'
theorem Yi {P : Program} {rn : Option Nat} {c : Code} {st st' : St} {e : Exit}
    (h : ∀ (w0 : World) (M : Nat → Prop) (V0 : Vu) (ro : Option Nat) (n : Nat) (Q : Exit → Act → World → Prop), V0.nx ≤ st.nx → RoundOf ⟨P, w0, M, V0⟩ rn ro → XQ ⟨P, w0, M, V0⟩ Q e st' → XC ⟨P, w0, M, V0⟩ ro n Q c st) : ExecOK P rn c st e st' := by
  rintro ⟨P', w0, M, V0⟩ ro n Q hP hro hQ
  dsimp only at hP
  subst hP
  exact XC.begin (fun hv => h w0 M V0 ro n Q hv hro hQ)
theorem Yj {P : Program} {rn : Option Nat} {c : Code} {st st1 st' : St} {e : Exit} (h : ExecOK P rn c st1 e st') (hl : ∀ E : Env, E.V0.nx ≤ st.nx → StLe E st st1) : ExecOK P rn c st e st' := by
  intro E ro n Q hP hro hQ
  exact XC.begin (fun hv => XC.less (hl E hv) (h E ro n Q hP hro hQ))
def Wl : Code → Code
  | .seq a _ => a
  | .cond _ a _ => a
  | .block _ a => a
  | .loop a => a
  | .rangeFunc _ _ a _ => a
  | c => c
def Wk : Code → Code
  | .seq _ b => b
  | .cond _ _ b => b
  | .rangeFunc _ _ _ b => b
  | c => c
def bodyC (f : Func) : Code := f.body.getD .skip
theorem ZV {a b : Bool} (h : cond a b false = true) : a = true := by cases a <;> simp_all
theorem Zt {a b : Bool} (h : cond a b false = true) : b = true := by cases a <;> simp_all
section
variable {E : Env} {st : St} {d : Option Tmp} {ty : TypeId} {pos : String} {af : Array Edge} {g : Option (Nat × Bool)}
theorem YQ {s t : TypeId} {x : Operand} {k k0 k' : IntKind} {m : Int} (hs : Gs E.P s = some k0) (ht : Gs E.P t = some k') (hx : ev st.tm x = some (Ku (.int k m))) : RO E ⟨d, .convert s t x, ty, pos, af, g⟩ st (Ku (.int k' (k'.wrap m))) := by
  refine RO.convInt ht ?_ hx
  unfold Gs at hs
  split at hs
  · rename_i hu; exact ⟨_, hu⟩
  · cases hs
theorem Zc {t t' : TypeId} {x y : Operand} {k : IntKind} {a b : Int} (hx : ev st.tm x = some (Ku (.int k a))) (hy : ev st.tm y = some (Ku (.int k b))) (hb : (!(b == 0)) = true) : RO E ⟨d, .binOp .rem t x y t', ty, pos, af, g⟩ st (Ku (.int k (Int.tmod a b))) := by
  refine Q4 hx hy ?_
  have h0 : b ≠ 0 := by simpa using hb
  unfold intBin
  simp [h0]
end
end Go.Proofs.Ytijcchddnnnmdaa
namespace Go.Proofs.Ytijcchddnnnmdaa
open Go.RowKit
set_option linter.unusedSimpArgs false
set_option linter.unusedVariables false
set_option linter.unusedSectionVars false
abbrev Wg (x : Int) : CA := .d (.v (.int .i64 x))
abbrev Wh (b : Bool) : CA := .d (.v (.bool b))
abbrev We {α : Type} [Enc α] (l : List α) : CA := .d (.sl (Enc.sz α) (Enc.encL l))
abbrev Wi {α : Type} [Enc α] (n : Nat) (l : List α) : CA := .app n (Enc.sz α) (Enc.encL l)
abbrev Wf : CA := .d (.v (.slice none 0 0))
abbrev Wj {α : Type} [Enc α] (x : α) : List CA := (Enc.enc x).map CA.d
def Q6 {α : Type} [Enc α] (l : List α) : List CA := (Enc.encL l).flatten.map CA.d
class EncLen (α : Type) [Enc α] : Prop where
  len : ∀ x : α, (Enc.enc x).length = Enc.sz α
  pos : 0 < Enc.sz α
instance : EncLen Lvl := ⟨fun _ => rfl, by decide⟩
instance : EncLen Wv := ⟨fun _ => rfl, by decide⟩
instance : EncLen Int := ⟨fun _ => rfl, by decide⟩
instance : EncLen Bnd := ⟨fun _ => rfl, by decide⟩
section
variable {α : Type} [Enc α] [EncLen α]
theorem YU (l : List α) : ∀ e ∈ Enc.encL l, e.length = Enc.sz α := by
  intro e he
  rw [Enc.map] at he
  obtain ⟨x, -, rfl⟩ := List.mem_map.1 he
  exact EncLen.len x
theorem flatE_len (l : List α) : (Q6 l).length = l.length * Enc.sz α := by
  unfold Q6; rw [List.length_map, Jx _ (YU l), Enc.len]
theorem flatE_get {l : List α} {k j : Nat} {x : α} (h : l[k]? = some x) (hj : j < Enc.sz α) : (Q6 l)[k * Enc.sz α + j]? = ((Enc.enc x)[j]?).map CA.d := by
  unfold Q6; rw [List.getElem?_map, Kn _ (YU l) k j _ (Enc.get h) hj]
end
section
variable {α : Type} [Enc α]
theorem flatE_cons (x : α) (l : List α) : Q6 (x :: l) = (Enc.enc x).map CA.d ++ Q6 l := by
  unfold Q6; rw [Enc.cons, List.flatten_cons, List.map_append]
end
theorem flatE_mem {α : Type} [Enc α] {l : List α} {x : CA} (h : x ∈ Q6 l) : ∃ c : C, True ∧ CA.d c = x := by
  obtain ⟨c, -, rfl⟩ := List.mem_map.1 h
  exact ⟨c, trivial, rfl⟩
theorem setL_app : ∀ (ys ars xs : List CA) (off : Nat), setL (ars ++ xs) (ars.length + off) ys = ars ++ setL xs off ys
  | [], ars, xs, off => rfl
  | y :: ys, ars, xs, off => by
    simp only [setL]
    rw [List.set_append_right _ _ (by omega), Nat.add_sub_cancel_left, Nat.add_assoc, setL_app ys]
theorem setL_all : ∀ (ys ars xs : List CA), ars.length = ys.length → setL (ars ++ xs) 0 ys = ys ++ xs
  | [], [], xs, _ => rfl
  | y :: ys, a :: ars, xs, h => by
    have h2 := setL_app ys [y] (ars ++ xs) 0
    simp only [List.length_singleton] at h2
    simp only [setL, List.cons_append, List.set_cons_zero]
    rw [show (y :: (ars ++ xs)) = [y] ++ (ars ++ xs) from rfl, show 0 + 1 = 1 + 0 from rfl, h2, setL_all ys ars xs (by simpa using h)]; rfl
theorem setL_flat {α : Type} [Enc α] [EncLen α] : ∀ (l : List α) (k : Nat) (v : α), k < l.length → setL (Q6 l) (k * Enc.sz α) ((Enc.enc v).map CA.d) = Q6 (l.set k v)
  | x :: l, 0, v, _ => by
    rw [Nat.zero_mul, flatE_cons, List.set_cons_zero, flatE_cons, setL_all _ _ _ (by simp [EncLen.len])]
  | x :: l, k + 1, v, h => by
    rw [flatE_cons, List.set_cons_succ, flatE_cons, ← setL_flat l k v (by simpa using h)]
    have := setL_app ((Enc.enc v).map CA.d) ((Enc.enc x).map CA.d) (Q6 l) (k * Enc.sz α)
    rw [List.length_map, EncLen.len] at this
    rw [← this, Nat.succ_mul, Nat.add_comm]
section
variable {E : Env} {st : St} {dd d : Option Tmp} {ty : TypeId} {pos : String} {af : Array Edge} {g : Option (Nat × Bool)}
theorem Jk {α : Type} [Enc α] {t e i n : Nat} {x y : Operand} {m : Int} {l : List α} {v : α} (ht : QT E.P t = some (e, Enc.sz α)) (hx : ev st.tm x = some (.v (.one (.osl i 0 n n)))) (hy : ev st.tm y = some (Wr m)) (hv : J1 l m = some v) (hn : Nat.beq l.length n = true) :
    RO E ⟨d, .indexAddr t x y, ty, pos, af, g⟩ st (.v (.one (.ptr i (m.toNat * Enc.sz α)))) := by
  obtain ⟨k, rfl, hk⟩ := GN hv
  have hl : l.length = n := Nat.eq_of_beq_eq_true hn
  have := RO.indexOsl (E := E) (st := st) (d := d) (ty := ty) (pos := pos) (af := af) (g := g) (k := k) ht hx hy rfl (by rw [← hl]; exact (List.getElem?_eq_some_iff.1 hk).1)
  rw [Nat.zero_add] at this; exact this
theorem Yq {α : Type} [Enc α] [EncLen α] {t i : Nat} {T : TypeId} {x : Operand} {m : Int} {l : List α} {v : α} {ys : List CA} (ht : Jn E.P t = some (true, Enc.sz α)) (hx : ev st.tm x = some (.v (.one (.ptr i (m.toNat * Enc.sz α))))) (hi : W0 st.hp i = some (.cells T (Q6 l))) (hv : J1 l m = some v) (hy : (Enc.enc v).map CA.d = ys) :
    RO E ⟨d, .load t x, ty, pos, af, g⟩ st (.v (.agg ys)) := by
  subst hy
  obtain ⟨k, rfl, hk⟩ := GN hv
  simp only [Int.toNat_natCast] at hx
  refine Qz ht hx hi ?_ (by rw [List.length_map, EncLen.len])
  apply List.ext_getElem?
  intro j
  rw [List.getElem?_take]
  split
  · rename_i hj
    rw [List.getElem?_drop, flatE_get hk hj, List.getElem?_map]
  · rename_i hj
    rw [List.getElem?_map, List.getElem?_eq_none (by rw [EncLen.len]; omega)]; rfl
theorem YI {α : Type} [Enc α] [EncLen α] {t i n f : Nat} {T : TypeId} {x : Operand} {m : Int} {l : List α} {v : α} {c : C} (ht : Jn E.P t = some (false, n)) (hx : ev st.tm x = some (.v (.one (.ptr i (m.toNat * Enc.sz α + f))))) (hi : W0 st.hp i = some (.cells T (Q6 l))) (hv : J1 l m = some v) (hc : (Enc.enc v)[f]? = some c) :
    RO E ⟨d, .load t x, ty, pos, af, g⟩ st (.v (.one (.d c))) := by
  obtain ⟨k, rfl, hk⟩ := GN hv
  simp only [Int.toNat_natCast] at hx
  refine Q7 ht hx hi ?_
  rw [flatE_get hk (by have := (List.getElem?_eq_some_iff.1 hc).1; rw [EncLen.len] at this; exact this), hc]; rfl
theorem OpOK.storeS {t n i off : Nat} {ag : Bool} {T : TypeId} {xs : List CA} {o1 o2 : Operand} {y y' : AV} (ht : Jn E.P t = some (ag, n)) (h1 : ev st.tm o1 = some (.v (.one (.ptr i off)))) (h2 : ev st.tm o2 = some (.v y)) (hs : ASub y y')
    (hi : W0 st.hp i = some (.cells T xs)) (hn : y'.cells.length = n) (hle : off + n ≤ xs.length) (hdd : dd = none) :
    OpOK E ⟨dd, .store t o1 o2, ty, pos, af, g⟩ st (.tup []) ⟨(i, .cells T (setL xs off y'.cells)) :: Jv i st.hp, st.tk, st.nx⟩ := by
  intro V a w hr ro n' K Q hK
  refine ⟨fun _ _ => trivial, ?_⟩
  rw [Oper.semAt_eq _ _ _ (by intro c h; cases h)]
  have e1 := hr.ev h1
  have e2 := (hs.rel (hr.ev h2)).cells
  obtain ⟨-, hsz⟩ := Zm ht w
  obtain ⟨w', hw', H, L⟩ := HRel.storeL (T := T) y'.cells (a.eval o2).cells.toList 0 off xs st.hp w hr.h hi (by simpa [hn] using hle) (by simpa using e2.1) (fun j z hz => by
    obtain ⟨u, hu, hz'⟩ := e2.2 j z hz
    exact ⟨u, by simpa using hu, hz'.mono of_le⟩)
  have hrun : (execOp a.eval ⟨dd, .store t o1 o2, ty, pos, af, g⟩).run E.P w = .ok .skip w' := by
    have hs2 : (a.eval o2).cells.size = n := by rw [e2.1, hn]
    simp only [execOp, e1.2, Instr.storeAt, Instr.sureAddr, storeVar, Sem.run_bind, Sem.run_pure, Result.andThen_ok, hsz, hs2]
    simp [hw']
  rw [hrun]
  subst hdd
  exact hK V w' undef (H.congr (fun j => Yk i _ st.hp j) (fun _ => rfl)) hr.nx L Z9
theorem OpOK.storeOE {α : Type} [Enc α] [EncLen α] {t i : Nat} {ag : Bool} {T : TypeId} {o1 o2 : Operand} {y y' : AV} {m : Int} {l : List α} {v0 v : α} (ht : Jn E.P t = some (ag, Enc.sz α)) (h1 : ev st.tm o1 = some (.v (.one (.ptr i (m.toNat * Enc.sz α))))) (h2 : ev st.tm o2 = some (.v y)) (hs : ASub y y') (he : y'.cells = (Enc.enc v).map CA.d)
    (hi : W0 st.hp i = some (.cells T (Q6 l))) (hv : J1 l m = some v0) (hdd : dd = none) :
    OpOK E ⟨dd, .store t o1 o2, ty, pos, af, g⟩ st (.tup []) ⟨(i, .cells T (Q6 (l.set m.toNat v))) :: Jv i st.hp, st.tk, st.nx⟩ := by
  obtain ⟨k, rfl, hk⟩ := GN hv
  have hlt : k < l.length := (List.getElem?_eq_some_iff.1 hk).1
  have hlen : y'.cells.length = Enc.sz α := by rw [he, List.length_map, EncLen.len]
  have := OpOK.storeS (E := E) (st := st) (dd := dd) (ty := ty) (pos := pos) (af := af) (g := g) ht h1 h2 hs hi hlen (by
    rw [flatE_len, Int.toNat_natCast, ← Nat.succ_mul]; exact Nat.mul_le_mul_right _ hlt) hdd
  rw [he, Int.toNat_natCast, setL_flat l k v hlt] at this
  rw [Int.toNat_natCast]; exact this
theorem HRel.swapLe {V : Vu} {i : Nat} {B B' : HB} {hp : List (Nat × HB)} {tk : List (Nat × Option Tok)} {w : World} (h : HRel E V ((i, B) :: hp) tk w) (hb : BLe B B') : HRel E V ((i, B') :: hp) tk w := by
  have hh : ∀ j A, W0 ((i, B') :: hp) j = some A → ∃ A0, W0 ((i, B) :: hp) j = some A0 ∧ BLe A0 A := fun j A hj => by
    rw [Qn] at hj ⊢
    split at hj
    · rename_i e; cases hj; rw [if_pos e]; exact ⟨_, rfl, hb⟩
    · rename_i e; rw [if_neg e]; exact ⟨_, hj, .refl _⟩
  refine ⟨h.ext, h.le0, h.sz, h.sub, fun j A hj => ?_, fun j k A A' hj hk => ?_, fun j A hj => ?_, fun j T hj => ?_, h.tki⟩
  · obtain ⟨A0, h1, h2⟩ := hh j A hj
    obtain ⟨h3, o, h4, h5⟩ := h.own j A0 h1
    exact ⟨h3, o, h4, h2.rel h5⟩
  · obtain ⟨A0, h1, -⟩ := hh j A hj
    obtain ⟨A1, h2, -⟩ := hh k A' hk
    exact h.inj j k _ _ h1 h2
  · obtain ⟨A0, h1, -⟩ := hh j A hj
    exact h.new j A0 h1
  · obtain ⟨h1, h2, xs, h3, h4⟩ := h.tok j T hj
    refine ⟨h1, h2, xs, h3, fun g hg => ⟨(h4 g hg).1, (h4 g hg).2.1, fun k A hk => ?_⟩⟩
    obtain ⟨A0, h5, -⟩ := hh k A hk
    exact (h4 g hg).2.2 k A0 h5
theorem CLs.app {ars bs xs ys : List CA} (h : CLs ars bs) (k : CLs xs ys) : CLs (ars ++ xs) (bs ++ ys) := by
  induction h with
  | nil => exact k
  | cons h t ih => exact .cons h ih
theorem zeroRow_flat (zs : List Value) (n : Nat) : Je zs n = (List.replicate n (zs.map fun z => CA.d (.v z))).flatten := by
  have hl : ∀ e ∈ List.replicate n (zs.map fun z => CA.d (.v z)), e.length = zs.length := fun e he => by rw [(List.mem_replicate.1 he).2, List.length_map]
  apply List.ext_getElem?
  intro k
  unfold Je
  rw [List.getElem?_map]
  rcases Nat.lt_or_ge k (n * zs.length) with h | h
  · have hpos : 0 < zs.length := by
      rcases Nat.eq_zero_or_pos zs.length with h0 | h0
      · rw [h0] at h; simp at h
      · exact h0
    have hq : k / zs.length < n := (Nat.div_lt_iff_lt_mul hpos).2 h
    have hr : k % zs.length < zs.length := Nat.mod_lt _ hpos
    have := Kn _ hl (k / zs.length) (k % zs.length) _ (by rw [List.getElem?_replicate, if_pos hq]) hr
    rw [show k / zs.length * zs.length + k % zs.length = k by rw [Nat.mul_comm]; exact Nat.div_add_mod k zs.length] at this
    rw [this, List.getElem?_map, List.getElem?_range h]
    simp [List.getElem?_eq_getElem hr, List.getD_eq_getElem?_getD]
  · rw [List.getElem?_eq_none (by simpa using h), List.getElem?_eq_none (by rw [Jx _ hl, List.length_replicate]; exact h)]; rfl
theorem zeroRow_le {α : Type} [Enc α] (zs : List Value) (z : α) (h : CLs (zs.map fun z => CA.d (.v z)) ((Enc.enc z).map CA.d)) : ∀ n, CLs (Je zs n) (Q6 (List.replicate n z)) := by
  intro n
  rw [zeroRow_flat]
  induction n with
  | zero => unfold Q6; rw [List.replicate_zero, List.replicate_zero, Enc.nil]; exact .nil
  | succ n ih =>
    rw [List.replicate_succ, List.replicate_succ, List.flatten_cons]
    have : Q6 (z :: List.replicate n z) = (Enc.enc z).map CA.d ++ Q6 (List.replicate n z) := by
      unfold Q6; rw [Enc.cons, List.flatten_cons, List.map_append]
    rw [this]; exact h.app ih
theorem Zx {α : Type} [Enc α] {t e by_ : Nat} {zs : List Value} {z : α} {o1 o2 : Operand} {m : Int} (ht : QT E.P t = some (e, Enc.sz α)) (hze : Jg E.P e = some zs) (hzl : zs.length = Enc.sz α) (hz : zs.all (·.oneCell') = true) (hel : Ya E.P e = some (Enc.sz α, by_))
    (h1 : ev st.tm o1 = some (Wr m)) (h2 : ev st.tm o2 = some (Wr m)) (hm : (cond (decide (0 ≤ m)) (Nat.ble (by_ * m.toNat) 281474976710656) false) = true) (hby : Nat.ble 1 by_ = true)
    (hzz : CLs (zs.map fun z => CA.d (.v z)) ((Enc.enc z).map CA.d)) :
    OpOK E ⟨dd, .makeSlice t o1 o2, ty, pos, af, g⟩ st (.v (.one (.osl st.nx 0 m.toNat m.toNat))) ⟨(st.nx, .cells e (Q6 (List.replicate m.toNat z))) :: st.hp, st.tk, st.nx + 1⟩ := by
  have h0 : 0 ≤ m := of_decide_eq_true (ZV hm)
  have hb : by_ * m.toNat ≤ 281474976710656 := Nat.le_of_ble_eq_true (Zt hm)
  have hb1 : 1 ≤ by_ := Nat.le_of_ble_eq_true hby
  obtain ⟨k, rfl⟩ : ∃ k : Nat, m = (k : Int) := ⟨m.toNat, (Int.toNat_of_nonneg h0).symm⟩
  simp only [Int.toNat_natCast] at hb ⊢
  have hk : k ≤ 281474976710656 := Nat.le_trans (by have := Nat.mul_le_mul_right k hb1; omega) hb
  have := OpOK.makeSlice (E := E) (st := st) (dd := dd) (ty := ty) (pos := pos) (af := af) (g := g) ht hze hzl hz hel h1 h2 (Nat.le_refl _) hb (by omega)
  intro V a w hr ro n K Q hK
  exact this V a w hr ro n K Q (fun V' w' v H hn L hx => hK V' w' v (H.swapLe (.cells (zeroRow_le zs z hzz k))) hn L hx)
theorem RO.sliceTo {α : Type} [Enc α] {t e : Nat} {o hi : Operand} {y : CA} {l : List α} {m : Int} (ht : QT E.P t = some (e, Enc.sz α)) (hx : ev st.tm o = some (.v (.one y))) (hs : SlE y l) (hhi : ev st.tm hi = some (Wr m)) (hm : (cond (decide (0 ≤ m)) (Nat.ble m.toNat l.length) false) = true) :
    RO E ⟨d, .slice t o none (some hi) none, ty, pos, af, g⟩ st (.v (.one (.d (.sl (Enc.sz α) (Enc.encL (l.take m.toNat)))))) := by
  have h0 : 0 ≤ m := of_decide_eq_true (ZV hm)
  have hb := Zt hm
  obtain ⟨k, rfl⟩ : ∃ k : Nat, m = (k : Int) := ⟨m.toNat, (Int.toNat_of_nonneg h0).symm⟩
  simp only [Int.toNat_natCast] at hb ⊢
  have := RO.sliceE (E := E) (st := st) (d := d) (ty := ty) (pos := pos) (af := af) (g := g) (a := 0) (b := k) ht hx hs (lo := none) (hi := some hi) (mx := none) (by
    have : ev st.tm hi = some (.v (.one (.d (.v (.int .i64 (.ofNat k)))))) := hhi
    simp only [Kr, hiOf, loOf, this, hb, cond_true])
  rw [List.drop_zero, Nat.sub_zero] at this
  exact this
end
theorem reads_flat {α : Type} [Enc α] [EncLen α] {S : Nat → Nat → Prop} {V : Vu} {w : World} {b n : Nat} {T : TypeId} {l : List α} {vs : Array Value} (hb : w.heap[b]? = some (.cells vs T (0, 0))) (hv : rels V w (Q6 l) vs) (hn : l.length = n) (hS : ∀ o, S b o) (hVS : ∀ b o, V.S b o → S b o) :
    Reads S w (.sl (Enc.sz α) (Enc.encL l)) (.slice (some ⟨b, 0, none⟩) n n) := by
  have hget : ∀ (i : Nat) (e : List C) (j : Nat) (c : C), (Enc.encL l)[i]? = some e → e[j]? = some c → ∃ u, vs[i * Enc.sz α + j]? = some u ∧ Reads V.S w c u := fun i e j c hi hj => by
    rw [Enc.map, List.getElem?_map] at hi
    cases hx : l[i]? with
    | none => rw [hx] at hi; cases hi
    | some x =>
      rw [hx] at hi; cases hi
      have hlt : j < Enc.sz α := by have := (List.getElem?_eq_some_iff.1 hj).1; rw [EncLen.len] at this; exact this
      exact hv.2 _ _ (by rw [flatE_get hx hlt, hj]; rfl)
  have hcell : ∀ (i : Nat) (e : List C) (j : Nat) (c : C), (Enc.encL l)[i]? = some e → e[j]? = some c → w.cell? ⟨b, 0 + i * Enc.sz α + j, none⟩ = some (vs.getD (i * Enc.sz α + j) undef) := fun i e j c hi hj => by
    obtain ⟨u, hu, -⟩ := hget i e j c hi hj
    simp only [World.cell?, hb, Option.isSome_none, Bool.false_eq_true, if_false, Nat.zero_add]
    rw [hu, Array.getD_eq_getD_getElem?, hu]; rfl
  have := Reads.sl (S := S) (w := w) (Enc.sz α) (Enc.encL l) (some ⟨b, 0, none⟩) n b 0 (fun i j => vs.getD (i * Enc.sz α + j) undef) (by rw [Enc.len, hn]; exact Nat.le_refl _) (fun _ => rfl)
    (fun i e hi => YU l e (List.mem_of_getElem? hi)) hcell (fun i e j c hi hj => hS _)
    (fun i e j c hi hj => by
      obtain ⟨u, hu, hr⟩ := hget i e j c hi hj
      rw [Array.getD_eq_getD_getElem?, hu]
      exact hr.mono hVS (fun _ _ _ => rfl))
  rw [Enc.len, hn] at this; exact this
theorem XQ.freezeT {E : Env} {Q : Exit → Act → World → Prop} {st : St} {e : Exit} {α : Type} [Enc α] [EncLen α] {t i n : Nat} {T : TypeId} {l : List α} (ht : W0 st.tm t = some (.v (.one (.osl i 0 n n)))) (hi : W0 st.hp i = some (.cells T (Q6 l))) (hn : Nat.beq l.length n = true)
    (k : XQ E Q e ⟨(t, .v (.one (.d (.sl (Enc.sz α) (Enc.encL l))))) :: st.tm, Jv i st.hp, st.tk, st.nx, st.nt, st.df⟩) : XQ E Q e st := by
  intro V a w hr
  obtain ⟨H, L⟩ := hr.h.freeze hi
  obtain ⟨-, o, ho, vs, rfl, hvs⟩ := hr.h.own i _ hi
  refine k _ a w ⟨H, hr.nx, hr.nt, hr.df.le L, fun t' x hx => ?_⟩
  dsimp only at hx
  rw [Qn] at hx
  split at hx
  · rename_i e1; subst e1; cases hx
    have h1 := (hr.tm _ _ ht).2
    rw [h1]
    exact reads_flat ho hvs (Nat.eq_of_beq_eq_true hn) (fun o => .inr rfl) (fun _ _ h => .inl h)
  · exact (hr.tm t' x hx).mono L
inductive ORen (b : Nat) : List AV → List AV → Prop
  | nil : ORen b [] []
  | osl {off n c : Nat} {xs ys : List AV} (t : ORen b xs ys) : ORen b (.one (.osl b off n c) :: xs) (.one (.osl 0 off n c) :: ys)
  | one {x : CA} {c : C} {xs ys : List AV} (h : CSub x c) (t : ORen b xs ys) : ORen b (.one x :: xs) (.one (.d c) :: ys)
  | agg {x y : List CA} {xs ys : List AV} (h : LSub x y) (t : ORen b xs ys) : ORen b (.agg x :: xs) (.agg y :: ys)
def Vu.lent (V : Vu) (b : Nat) : Vu := ⟨1, fun _ => V.ι b, fun _ _ => undef, fun _ => 0, V.S⟩
theorem rels_datas {V V' : Vu} {w : World} {cs : List C} {vs : Array Value} (h : rels V w (cs.map CA.d) vs) (hS : V'.S = V.S) : rels V' w (cs.map CA.d) vs := by
  refine ⟨h.1, fun i x hx => ?_⟩
  obtain ⟨u, h1, h2⟩ := h.2 i x hx
  rw [List.getElem?_map] at hx
  cases hc : cs[i]? with
  | none => rw [hc] at hx; cases hx
  | some c => rw [hc] at hx; cases hx; exact ⟨u, h1, by show Reads V'.S w c u; rw [hS]; exact h2⟩
theorem LSub.datasOf {xs ys : List CA} (h : LSub xs ys) : ∃ cs : List C, ys = cs.map CA.d := by
  induction h with
  | nil => exact ⟨[], rfl⟩
  | cons h t ih => obtain ⟨cs, rfl⟩ := ih; exact ⟨_ :: cs, rfl⟩
theorem ORen.rel {b : Nat} {xs ys : List AV} (h : ORen b xs ys) {V : Vu} {w : World} : ∀ {i : Nat} {y : AV}, ys[i]? = some y → ∃ x, xs[i]? = some x ∧ ∀ v, x.rel V w v → y.rel (V.lent b) w v := by
  induction h with
  | nil => intro i y hy; simp at hy
  | osl t ih =>
    intro i y hy
    cases i with
    | zero => simp at hy; subst hy; exact ⟨_, rfl, fun v hv => ⟨Nat.zero_lt_one, hv.2⟩⟩
    | succ i => exact ih (by simpa using hy)
  | one h t ih =>
    intro i y hy
    cases i with
    | zero => simp at hy; subst hy; exact ⟨_, rfl, fun v hv => show Reads V.S w _ v from h.reads hv⟩
    | succ i => exact ih (by simpa using hy)
  | agg h t ih =>
    intro i y hy
    cases i with
    | zero =>
      simp at hy; subst hy
      refine ⟨_, rfl, fun v hv => ?_⟩
      obtain ⟨vs, h1, h2⟩ := hv
      obtain ⟨cs, rfl⟩ := h.datasOf
      exact ⟨vs, h1, rels_datas (rels_of_subs h h2) rfl⟩
    | succ i => exact ih (by simpa using hy)
theorem ORen.len {b : Nat} {xs ys : List AV} (h : ORen b xs ys) : xs.length = ys.length := by
  induction h with
  | nil => rfl
  | osl t ih => simp [ih]
  | one h t ih => simp [ih]
  | agg h t ih => simp [ih]
theorem Zy {E : Env} {st : St} {dd : Option Tmp} {ty : TypeId} {pos : String} {af : Array Edge} {g : Option (Nat × Bool)} {f : FuncId} {ars : Array Operand} {args args' : List AV} {ats : Array TypeId} {res res' : TV} {m1 : Mem} {b : Nat} {T : TypeId} {α β : Type} [Enc α] [Enc β] {l : List α} {l' : List β}
    (hc : CallM E.P f args' ⟨[(0, .cells T (Q6 l))], [], 1⟩ res m1) (ha : ZF st.tm ars.toList = some args) (hs : ORen b args args') (hb : W0 st.hp b = some (.cells T (Q6 l))) (hm : W0 m1.hp 0 = some (.cells T (Q6 l'))) (hr' : asTV res = some res') :
    OpOK E ⟨dd, .call { callee := .value (.func f), args := ars, argTypes := ats }, ty, pos, af, g⟩ st res' ⟨(b, .cells T (Q6 l')) :: Jv b st.hp, st.tk, st.nx⟩ := by
  intro V a w hr ro n K Q hK
  refine ⟨fun _ _ => trivial, ?_⟩
  rw [Oper.semAt_eq _ _ _ (by intro c h; cases h)]
  rw [call_enters rfl hc.1]
  refine ⟨(by intro h; cases h), ?_⟩
  obtain ⟨hbl, o, ho, vs0, rfl, hvs0⟩ := hr.h.own b _ hb
  have har : argsRel (V.lent b) w args' (ars.map a.eval) := by
    obtain ⟨h1, h2⟩ := Ks hr ha
    refine ⟨by rw [← hs.len]; exact h1, fun i y hy => ?_⟩
    obtain ⟨x, hx, hxy⟩ := hs.rel (V := V) (w := w) hy
    obtain ⟨u, hu, hxu⟩ := h2 i x hx
    exact ⟨u, hu, hxy u hxu⟩
  have hH : HRel ⟨E.P, w, fun k => k = V.ι b, V.lent b⟩ (V.lent b) [(0, .cells T (Q6 l))] [] w := by
    refine ⟨ExtM.refl _ _, Vu.Le.refl _ _, hr.h.sz, fun b o h => .inl h, ?_, ?_, ?_, ?_, ?_⟩
    · intro i B hi
      rw [Qn] at hi
      split at hi
      · rename_i e; subst e; cases hi; exact ⟨Nat.zero_lt_one, _, ho, vs0, rfl, rels_datas hvs0 rfl⟩
      · cases hi
    · intro i j A B hi hj _
      rw [Qn] at hi hj
      split at hi
      · split at hj
        · rename_i e1 e2; exact e1.symm.trans e2
        · cases hj
      · cases hi
    · intro i B hi; exact ⟨.inr rfl, fun o => (hr.h.new b _ hb).2 o⟩
    · intro i T hi; cases hi
    · intro i j T U g hi; cases hi
  have hc' : CallsIn Fence.wide (n - 1) E.P f _ w _ := callsIn_wide.2 (hc.2 ⟨E.P, w, fun k => k = V.ι b, V.lent b⟩ (V.lent b) w _ rfl hH rfl har)
  refine CallsIn.mono (F := Ww ro) hc' ?_
  rintro e w' ⟨v, V1, rfl, H, hn, L, hres⟩
  have hι : V1.ι 0 = V.ι b := L.ι 0 Nat.zero_lt_one
  obtain ⟨-, o', ho', hB'⟩ := H.own 0 _ hm
  have hnS := (H.new 0 _ hm).2
  rw [hι] at ho' hnS
  have hlt : V.ι b < w.heap.size := Y2 ho
  have hw2 : ∀ k, k ≠ V.ι b → (w'.putObj (V.ι b) (.cells vs0 T (0, 0))).heap[k]? = w'.heap[k]? := fun k hk => World.putObj_heap_other hk
  have hsz2 : (w'.putObj (V.ι b) (.cells vs0 T (0, 0))).heap.size = w'.heap.size := World.putObj_size
  have hx : ZH w (w'.putObj (V.ι b) (.cells vs0 T (0, 0))) := by
    refine ⟨H.ext.os, H.ext.tape, H.ext.output, by rw [hsz2]; exact H.ext.size, fun k hk _ => ?_⟩
    by_cases e : k = V.ι b
    · rw [e, World.putObj_heap_same (Y2 ho')]; exact ho.symm
    · rw [hw2 k e]; exact H.ext.block k hk e
  have hg : V.Grow { V with S := V1.S } w (w'.putObj (V.ι b) (.cells vs0 T (0, 0))) := ⟨Nat.le_refl _, fun _ _ => rfl, fun _ _ => rfl, fun _ _ _ _ => rfl, L.S, fun b' o' h => by
    rcases H.sub b' o' h with h1 | h1 | h1
    · exact .inl h1
    · exact .inr h1
    · exact absurd (by rw [← h1]; exact h) (hnS o'), fun b' o' h => by rw [hsz2]; exact H.sz b' o' h⟩
  have H2 := hr.h.later hx hg
  have L2 := hr.h.le hx hg
  obtain ⟨H3, L3⟩ := H2.setOwn (w' := w') (B' := .cells T (Q6 l')) hb (fun k hk => (hw2 k hk).symm) hsz2.symm rfl rfl rfl ho' (fun _ => by
    obtain ⟨vs, h1, h2⟩ := hB'
    exact ⟨vs, h1, rels_datas h2 rfl⟩)
  refine hK { V with S := V1.S } w' v (H3.congr (fun j => Yk b _ st.hp j) (fun _ => rfl)) hr.nx (L2.trans L3) ((asTV_rel hr' hres).mono (of_le (V := { V with S := V1.S })))
theorem XJ {tm : List (Nat × TV)} : tmLe tm [] := trivial
theorem XK {tm r : List (Nat × TV)} {t : Nat} {y : TV} (h : W0 tm t = some y) (l : tmLe tm r) : tmLe tm ((t, y) :: r) := ⟨⟨y, h, .refl y⟩, l⟩
theorem XM {tm r : List (Nat × TV)} {t : Nat} {x y : TV} (h : W0 tm t = some x) (k : TLe x y) (l : tmLe tm r) : tmLe tm ((t, y) :: r) := ⟨⟨x, h, k⟩, l⟩
theorem W7 {hp : List (Nat × HB)} : hpLe hp [] := trivial
theorem W8 {hp r : List (Nat × HB)} {t : Nat} {y : HB} (h : W0 hp t = some y) (l : hpLe hp r) : hpLe hp ((t, y) :: r) := ⟨⟨y, h, .refl y⟩, l⟩
theorem W9 {hp r : List (Nat × HB)} {t : Nat} {T : TypeId} {xs ys : List CA} (h : W0 hp t = some (.cells T xs)) (k : CLs xs ys) (l : hpLe hp r) : hpLe hp ((t, .cells T ys) :: r) := ⟨⟨_, h, .cells k⟩, l⟩
theorem W3 {tk : List (Nat × Option Tok)} : tkLe tk [] := trivial
theorem W4 {tk r : List (Nat × Option Tok)} {t : Nat} {T : Tok} (h : W0 tk t = some (some T)) (l : tkLe tk r) : tkLe tk ((t, some T) :: r) := ⟨fun T' e => by cases e; exact h, l⟩
theorem Wm {m : Nat} : hpBelow m [] := trivial
theorem Wp {m i : Nat} {x : HB} {r : List (Nat × HB)} (h : Nat.blt i m = true) (k : x.belowB m = true) (l : hpBelow m r) : hpBelow m ((i, x) :: r) := ⟨ZW h, HB.belowB_ok k, l⟩
theorem Wo {m i : Nat} {T : TypeId} {α : Type} [Enc α] {xs : List α} {r : List (Nat × HB)} (h : Nat.blt i m = true) (l : hpBelow m r) : hpBelow m ((i, .cells T (Q6 xs)) :: r) := ⟨ZW h, (fun x hx => by obtain ⟨c, -, rfl⟩ := flatE_mem hx; trivial), l⟩
theorem Qh {E : Env} {st st' : St} (h1 : tmLe st.tm st'.tm) (h2 : hpLe st.hp st'.hp) (h3 : tkLe st.tk st'.tk) (h4 : Nat.ble st'.nx st.nx = true) (h5 : E.V0.nx ≤ st'.nx) (h6 : st.nt = st'.nt) (h7 : st.df = st'.df)
    (h8 : (st'.tm.all fun p => p.2.belowB st'.nx) = true) (h9 : hpBelow st'.nx st'.hp) (h10 : (st'.tk.all fun p => Nat.blt p.1 st'.nx) = true) (h11 : (st'.df.all fun i => Nat.blt i st'.nx) = true) : StLe E st st' := by
  refine ⟨h1, h2, h3, W1 h4, h5, h6, h7, ?_, h9, ?_, fun i hi => ZW (List.all_eq_true.1 h11 i hi)⟩
  · have : ∀ l : List (Nat × TV), (l.all fun p => p.2.belowB st'.nx) = true → tmBelow st'.nx l := by
      intro l
      induction l with
      | nil => intro _; trivial
      | cons p l ih => intro h; simp only [List.all_cons, Bool.and_eq_true] at h; exact ⟨TV.belowB_ok h.1, ih h.2⟩
    exact this _ h8
  · have : ∀ l : List (Nat × Option Tok), (l.all fun p => Nat.blt p.1 st'.nx) = true → tkBelow st'.nx l := by
      intro l
      induction l with
      | nil => intro _; trivial
      | cons p l ih => intro h; simp only [List.all_cons, Bool.and_eq_true] at h; exact ⟨ZW h.1, ih h.2⟩
    exact this _ h10
theorem KA {α β γ : Type} {y : α ⊕ β} {f : α → Option γ} {g : β → Option γ} {r : γ} {G : Prop} {C : α ⊕ β → Prop} (hc : C y) (h : Sum.elim f g y = some r) (k1 : ∀ a, C (.inl a) → f a = some r → G) (k2 : ∀ b, C (.inr b) → g b = some r → G) : G := by
  cases y with
  | inl a => exact k1 a hc h
  | inr b => exact k2 b hc h
theorem QM {P : Program} {f : FuncId} {fn : Func} {c : Code} {args : List AV} {m : Mem} (stf : St) {xs : List AV} (hf : P.funcs[f]? = some fn) (hb : fn.body = some c) (hen : J9 P f) (hnt : args.length ≤ fn.ntmps)
    (hdf : stf.df = []) (hres : RAs P stf fn.results.toList xs)
    (h : ∀ (w0 : World) (M : Nat → Prop) (V0 : Vu) (Q : Exit → Act → World → Prop), V0.nx ≤ m.nx →
      (∀ (e : Exit) (st' : St) (hp' : List (Nat × HB)), (e = .normal ∨ e = .ret) → Ze st'.df st'.hp = some hp' → StLe ⟨P, w0, M, V0⟩ ⟨st'.tm, hp', st'.tk, st'.nx, st'.nt, []⟩ stf → XQ ⟨P, w0, M, V0⟩ Q e st') → XC ⟨P, w0, M, V0⟩ none 0 Q c ⟨Jc 0 args, m.hp, m.tk, m.nx, fn.ntmps, []⟩) :
    CallM P f args m (Qr xs) ⟨stf.hp, stf.tk, stf.nx⟩ := by
  refine ⟨hen, fun E V w vs hP H hn hargs => ?_⟩
  refine (callsIn_wide (n := 0)).1 (callsIn_of_wp_marks (F := Fence.wide) hf hb trivial ?_)
  have hR0 : Rel (E.at V w) V ⟨Jc 0 args, m.hp, m.tk, m.nx, fn.ntmps, []⟩ { tmps := vs ++ Array.replicate (fn.ntmps - vs.size) undef, defers := [] } w := by
    refine ⟨H.rebase, hn, by simp [hargs.1]; omega, dfRel.nil, fun t x hx => ?_⟩
    obtain ⟨k, y, h1, h2, rfl⟩ := lk_entry args 0 t x hx
    obtain ⟨u, hu, hy⟩ := hargs.2 k y h2
    have hk : k < vs.size := (Array.getElem?_eq_some_iff.1 hu).1
    have : (vs ++ Array.replicate (fn.ntmps - vs.size) undef).getD t undef = u := by
      rw [show t = k by omega, Array.getD_eq_getD_getElem?, Array.getElem?_append_left hk, hu]; rfl
    rw [this]; exact hy
  have key : ∀ (st' : St) (hp' : List (Nat × HB)) (V1 : Vu) (a1 : Act) (w1 : World), Ze st'.df st'.hp = some hp' → StLe (E.at V w) ⟨st'.tm, hp', st'.tk, st'.nx, st'.nt, []⟩ stf → Rel (E.at V w) V1 st' a1 w1 →
      LeavesInM Fence.wide 0 P fn a1.tmps (fun e w' => ∃ v V', e = .returned v ∧ HRel E V' stf.hp stf.tk w' ∧ V'.nx = stf.nx ∧ V.Le V' w w' ∧ (Qr xs).rel V' w' v) a1.defers .returning w1 := by
    intro st' hp' V1 a1 w1 htm hle hr1
    refine leaves_marks st'.df a1.defers st'.hp hp' w1 hr1.h hr1.df htm (fun w' V1' H' hn' L' => ?_)
    have hr' : Rel (E.at V w) V1' ⟨st'.tm, hp', st'.tk, st'.nx, st'.nt, []⟩ { tmps := a1.tmps, defers := [] } w' := ⟨H', hn'.trans hr1.nx, hr1.nt, dfRel.nil, fun t x hx => (hr1.tm t x hx).keep L'⟩
    obtain ⟨V2, hr2⟩ := hr'.less hle
    obtain ⟨v, h1, h2⟩ := results_run (E := E.at V w) hres hP hr2
    obtain ⟨H5, L5⟩ := H.back hr2.h
    exact ⟨v, h1, v, V2, rfl, H5, hr2.nx, L5, h2⟩
  have hgo : ∀ E' : Env, E' = E.at V w → E'.P = P → E'.V0 = V → XC E' none 0 (bodyPostM Fence.wide 0 P fn (fun e w' => ∃ v V', e = .returned v ∧ HRel E V' stf.hp stf.tk w' ∧ V'.nx = stf.nx ∧ V.Le V' w w' ∧ (Qr xs).rel V' w' v)) c ⟨Jc 0 args, m.hp, m.tk, m.nx, fn.ntmps, []⟩ := by
    rintro ⟨P', w0, M, V0⟩ he hP' hV'
    dsimp only at hP' hV'
    subst hP'
    refine h w0 M V0 _ (by rw [hV', hn]; exact Nat.le_refl _) ?_
    rintro e st' hp' (rfl | rfl) htm hle
    · intro V1 a1 w1 hr1; rw [he] at hr1 hle; exact key st' hp' V1 a1 w1 htm hle hr1
    · intro V1 a1 w1 hr1; rw [he] at hr1 hle; exact key st' hp' V1 a1 w1 htm hle hr1
  have := hgo (E.at V w) rfl hP rfl V _ w hR0
  rw [show (E.at V w).P = P from hP] at this
  exact this
section
variable {E : Env} {ro : Option Nat} {n : Nat} {Q : Exit → Act → World → Prop} {st : St} {c : Code}
end
end Go.Proofs.Ytijcchddnnnmdaa
namespace Go.Proofs.Ytijcchddnnnmdaa
open Go.RowKit
set_option linter.unusedSimpArgs false
set_option linter.unusedVariables false
set_option linter.unusedSectionVars false
theorem ownsRow_same {w w' : World} {b e s n : Nat} {v : Value} {xs : List Value} (h : w.ownsRow b e s v n xs) (hs : ∀ g, v.ownBlock = some g → w'.heap[g]? = w.heap[g]?) : w'.ownsRow b e s v n xs := by
  obtain ⟨h1, h2⟩ := h
  refine ⟨h1, h2.imp id ?_⟩
  rintro ⟨g, cap, cur, rfl, h3, h4, h5⟩
  exact ⟨g, cap, cur, rfl, h3, (hs g rfl).trans h4, h5⟩
def KY (V : Vu) (hp : List (Nat × HB)) (tk : List (Nat × Option Tok)) (k : Nat) : Prop :=
  (∃ i B, W0 hp i = some B ∧ V.ι i = k) ∨ ∃ i T, W0 tk i = some (some T) ∧ (V.κ i T.n).ownBlock = some k
theorem lk_app {α : Type} : ∀ (a b : List (Nat × α)) (i : Nat), W0 (a ++ b) i = match W0 a i with
    | some x => some x
    | none => W0 b i
  | [], b, i => rfl
  | (k, x) :: a, b, i => by
    rw [List.cons_append, Qn, Qn]
    split
    · rfl
    · exact lk_app a b i
theorem Y8 {α : Type} {a b : List (Nat × α)} {i : Nat} {x : α} (h : W0 (a ++ b) i = some x) : W0 a i = some x ∨ W0 b i = some x := by
  rw [lk_app] at h
  cases h1 : W0 a i with
  | none => rw [h1] at h; exact .inr h
  | some y => rw [h1] at h; exact .inl h
theorem G2 {α : Type} : ∀ {a : List (Nat × α)} {i : Nat} {x : α}, W0 a i = some x → (i, x) ∈ a
  | [], i, x, h => by cases h
  | (k, y) :: a, i, x, h => by
    rw [Qn] at h
    split at h
    · rename_i e; subst e; cases h; exact List.mem_cons_self
    · exact List.mem_cons_of_mem _ (G2 h)
def GZ : List Nat → Nat → Nat → Nat
  | [], n, i => n + i
  | j :: _, _, 0 => j
  | _ :: r, n, i + 1 => GZ r n i
theorem rho_lt : ∀ {rs : List Nat} {n i : Nat}, i < rs.length → ∃ j, rs[i]? = some j ∧ GZ rs n i = j
  | [], n, i, h => by simp at h
  | j :: r, n, 0, h => ⟨j, rfl, rfl⟩
  | j :: r, n, i + 1, h => rho_lt (rs := r) (n := n) (i := i) (by simpa using h)
theorem Gd : ∀ {rs : List Nat} {n i : Nat}, rs.length ≤ i → GZ rs n i = n + (i - rs.length)
  | [], n, i, h => rfl
  | j :: r, n, 0, h => by simp at h
  | j :: r, n, i + 1, h => by
    have h1 : r.length ≤ i := by simpa using h
    have h2 := Gd (rs := r) (n := n) (i := i) h1
    simp only [GZ, List.length_cons]
    omega
theorem KX {rs : List Nat} {n i : Nat} (h : i < rs.length) : GZ rs n i ∈ rs := by
  obtain ⟨j, h1, h2⟩ := rho_lt (n := n) h
  rw [h2]; exact List.mem_of_getElem? h1
theorem nodup_get {α : Type} : ∀ {l : List α} {i j : Nat} {a : α}, l.Nodup → l[i]? = some a → l[j]? = some a → i = j
  | [], i, j, a, _, h, _ => by simp at h
  | x :: l, 0, 0, a, _, _, _ => rfl
  | x :: l, 0, j + 1, a, hn, h1, h2 => by
    simp at h1 h2
    subst h1
    exact absurd (List.mem_of_getElem? h2) (List.nodup_cons.1 hn).1
  | x :: l, i + 1, 0, a, hn, h1, h2 => by
    simp at h1 h2
    subst h2
    exact absurd (List.mem_of_getElem? h1) (List.nodup_cons.1 hn).1
  | x :: l, i + 1, j + 1, a, hn, h1, h2 => by
    simp at h1 h2
    rw [nodup_get (List.nodup_cons.1 hn).2 h1 h2]
theorem rho_inj {rs : List Nat} {n : Nat} (hnd : rs.Nodup) (hlt : ∀ j ∈ rs, j < n) {i j : Nat} (h : GZ rs n i = GZ rs n j) : i = j := by
  by_cases h1 : i < rs.length <;> by_cases h2 : j < rs.length
  · obtain ⟨a, h3, h4⟩ := rho_lt (n := n) h1
    obtain ⟨b, h5, h6⟩ := rho_lt (n := n) h2
    rw [h4, h6] at h
    subst h
    exact nodup_get hnd h3 h5
  · have := hlt _ (KX (n := n) h1)
    rw [h, Gd (Nat.le_of_not_lt h2)] at this; omega
  · have := hlt _ (KX (n := n) h2)
    rw [← h, Gd (Nat.le_of_not_lt h1)] at this; omega
  · rw [Gd (Nat.le_of_not_lt h1), Gd (Nat.le_of_not_lt h2)] at h; omega
def CA.ren (ρ : Nat → Nat) : CA → CA
  | .d c => .d c
  | .ptr i off => .ptr (ρ i) off
  | .pel e off => .pel e off
  | .fn f caps => .fn f (caps.map fun p => (ρ p.1, p.2))
  | .app i sz es => .app (ρ i) sz es
  | .apv i sz n es => .apv (ρ i) sz n es
  | .tp i n off => .tp (ρ i) n off
  | .osl i off len cap => .osl (ρ i) off len cap
  | .mp i => .mp (ρ i)
  | .yld i => .yld (ρ i)
  | .clo f caps => .clo f caps
  | .any => .any
def AV.ren (ρ : Nat → Nat) : AV → AV
  | .one x => .one (x.ren ρ)
  | .agg xs => .agg (xs.map (CA.ren ρ))
def TV.ren (ρ : Nat → Nat) : TV → TV
  | .v x => .v (x.ren ρ)
  | .tup xs => .tup (xs.map (AV.ren ρ))
  | .unk => .unk
def HB.ren (ρ : Nat → Nat) : HB → HB
  | .cells T xs => .cells T (xs.map (CA.ren ρ))
  | .obj o => .obj o
  | .loop s p tm nt ps assign body D => .loop s p (tm.map fun q => (q.1, q.2.ren ρ)) nt ps assign body (ρ D)
  | .mp es c => .mp (es.map fun e => (e.1, e.2.1.ren ρ, e.2.2)) c
def Y4 (ρ : Nat → Nat) (l : List (Nat × HB)) : List (Nat × HB) := l.map fun p => (ρ p.1, p.2.ren ρ)
def YM (ρ : Nat → Nat) (l : List (Nat × Option Tok)) : List (Nat × Option Tok) := l.map fun p => (ρ p.1, p.2)
theorem lk_map2 {α β : Type} (f : α → β) : ∀ (l : List (Nat × α)) (t : Nat), W0 (l.map fun q => (q.1, f q.2)) t = (W0 l t).map f
  | [], t => rfl
  | (k, x) :: l, t => by
    rw [List.map_cons, Qn, Qn]
    split
    · rfl
    · exact lk_map2 f l t
theorem lk_ren {α β : Type} {ρ : Nat → Nat} {f : α → β} (inj : ∀ i j, ρ i = ρ j → i = j) : ∀ (l : List (Nat × α)) (i : Nat), W0 (l.map fun p => (ρ p.1, f p.2)) (ρ i) = (W0 l i).map f
  | [], i => rfl
  | (k, x) :: l, i => by
    rw [List.map_cons, Qn, Qn]
    by_cases h : k = i
    · subst h; rw [if_pos rfl, if_pos rfl]; rfl
    · rw [if_neg h, if_neg (fun e => h (inj _ _ e))]; exact lk_ren inj l i
theorem lk_ren_inv {α β : Type} {ρ : Nat → Nat} {f : α → β} (inj : ∀ i j, ρ i = ρ j → i = j) {l : List (Nat × α)} {j : Nat} {y : β} (h : W0 (l.map fun p => (ρ p.1, f p.2)) j = some y) : ∃ i x, ρ i = j ∧ W0 l i = some x ∧ y = f x := by
  obtain ⟨p, h1, h2⟩ := List.mem_map.1 (G2 h)
  have h3 : ρ p.1 = j := (Prod.mk.inj h2).1
  subst h3
  rw [lk_ren inj] at h
  cases h4 : W0 l p.1 with
  | none => rw [h4] at h; cases h
  | some x => rw [h4] at h; cases h; exact ⟨p.1, x, rfl, h4, rfl⟩
def pull (ρ : Nat → Nat) (V : Vu) (m : Nat) : Vu := ⟨m, fun i => V.ι (ρ i), fun i => V.κ (ρ i), fun i => V.cu (ρ i), V.S⟩
theorem CA.rel.pull {ρ : Nat → Nat} {V : Vu} {w : World} {m : Nat} {x : CA} {v : Value} (h : (x.ren ρ).rel V w v) (hb : x.below m) : x.rel (pull ρ V m) w v := by
  cases x with
  | ptr i off => exact ⟨hb, h.2⟩
  | fn f caps =>
    have := h.2
    rw [List.map_map] at this
    exact ⟨hb, this⟩
  | app i sz es => exact ⟨hb, h.2⟩
  | apv i sz n es => exact ⟨hb, h.2⟩
  | tp i n off => exact ⟨hb, h.2⟩
  | osl i off len cap => exact ⟨hb, h.2⟩
  | mp i => exact ⟨hb, h.2⟩
  | yld i => exact ⟨hb, h.2⟩
  | d c => exact h
  | pel e off => exact h
  | clo f caps => exact h
  | any => exact h
theorem rels.pull {ρ : Nat → Nat} {V : Vu} {w : World} {m : Nat} {xs : List CA} {vs : Array Value} (h : rels V w (xs.map (CA.ren ρ)) vs) (hb : ∀ x ∈ xs, x.below m) : rels (pull ρ V m) w xs vs :=
  ⟨by simpa using h.1, fun i x hx => let ⟨u, h1, h2⟩ := h.2 i (x.ren ρ) (by rw [List.getElem?_map, hx]; rfl); ⟨u, h1, h2.pull (hb x (List.mem_of_getElem? hx))⟩⟩
theorem AV.rel.pull {ρ : Nat → Nat} {V : Vu} {w : World} {m : Nat} {x : AV} {v : Value} (h : (x.ren ρ).rel V w v) (hb : x.below m) : x.rel (pull ρ V m) w v := by
  cases x with
  | one x => exact CA.rel.pull h hb
  | agg xs => obtain ⟨vs, h1, h2⟩ := h; exact ⟨vs, h1, h2.pull hb⟩
theorem TV.rel.pull {ρ : Nat → Nat} {V : Vu} {w : World} {m : Nat} {x : TV} {v : Value} (h : (x.ren ρ).rel V w v) (hb : x.below m) : x.rel (pull ρ V m) w v := by
  cases x with
  | v x => exact AV.rel.pull h hb
  | tup xs =>
    obtain ⟨vs, h1, h2, h3⟩ := h
    exact ⟨vs, h1, by simpa using h2, fun i x hx => let ⟨u, h4, h5⟩ := h3 i (x.ren ρ) (by rw [List.getElem?_map, hx]; rfl); ⟨u, h4, h5.pull (hb x (List.mem_of_getElem? hx))⟩⟩
  | unk => trivial
theorem HB.rel.pull {ρ : Nat → Nat} {V : Vu} {w : World} {m : Nat} {x : HB} {o : Obj} (h : (x.ren ρ).rel V w o) (hb : x.below m) : x.rel (pull ρ V m) w o := by
  cases x with
  | cells T xs => obtain ⟨vs, h3, h4⟩ := h; exact ⟨vs, h3, h4.pull hb⟩
  | obj o' => exact h
  | loop s p tm nt ps assign body D =>
    obtain ⟨-, fn, tmps, h3, h4, h5⟩ := h
    exact ⟨hb.1, fn, tmps, h3, h4, fun t x hx => (h5 t (x.ren ρ) (by rw [lk_map2, hx]; rfl)).pull (hb.2 t x hx)⟩
  | mp es clock =>
    obtain ⟨ents, h3, h4, h5⟩ := h
    exact ⟨ents, h3, by simpa using h4, fun i k x b hi => let ⟨v, h6, h7⟩ := h5 i k (x.ren ρ) b (by rw [List.getElem?_map, hi]; rfl); ⟨v, h6, h7.pull (hb _ (List.mem_of_getElem? hi))⟩⟩
structure Via (ρ : Nat → Nat) (V1 V2 : Vu) : Prop where
  ι : ∀ i, i < V1.nx → ρ i < V2.nx ∧ V2.ι (ρ i) = V1.ι i
  cu : ∀ i, i < V1.nx → V2.cu (ρ i) = V1.cu i
  κ : ∀ i, i < V1.nx → V2.κ (ρ i) = V1.κ i
  S : ∀ b o, V1.S b o → V2.S b o
section
variable {ρ : Nat → Nat} {V1 V2 : Vu} {w : World}
theorem CA.rel.via (hV : Via ρ V1 V2) {x : CA} {v : Value} (h : x.rel V1 w v) : (x.ren ρ).rel V2 w v := by
  cases x with
  | ptr i off => exact ⟨(hV.ι i h.1).1, by rw [(hV.ι i h.1).2]; exact h.2⟩
  | fn f caps =>
    refine ⟨fun p hp => ?_, ?_⟩
    · obtain ⟨q, hq, rfl⟩ := List.mem_map.1 hp
      exact (hV.ι _ (h.1 q hq)).1
    · rw [h.2, List.map_map]
      congr 2
      exact List.map_congr_left fun p hp => by show _ = Value.pointer (some ⟨V2.ι (ρ p.1), p.2, none⟩); rw [(hV.ι _ (h.1 p hp)).2]
  | app i sz es => exact ⟨(hV.ι i h.1).1, by rw [hV.cu i h.1]; exact h.2.1, by rw [hV.κ i h.1]; exact h.2.2.1, Reads.mono hV.S (fun _ _ _ => rfl) h.2.2.2⟩
  | apv i sz n es =>
    obtain ⟨h1, h2, h3, a, cap, h4, h5, h6⟩ := h
    exact ⟨(hV.ι i h1).1, by rw [hV.cu i h1]; exact h2, by rw [hV.κ i h1]; exact h3, a, cap, h4, h5, Reads.mono hV.S (fun _ _ _ => rfl) h6⟩
  | tp i n off =>
    obtain ⟨h1, h2, g, cap, h3, h4⟩ := h
    exact ⟨(hV.ι i h1).1, by rw [hV.cu i h1]; exact h2, g, cap, by rw [hV.κ i h1]; exact h3, h4⟩
  | osl i off len cap => exact ⟨(hV.ι i h.1).1, by rw [(hV.ι i h.1).2]; exact h.2⟩
  | mp i => exact ⟨(hV.ι i h.1).1, by rw [(hV.ι i h.1).2]; exact h.2⟩
  | yld i => exact ⟨(hV.ι i h.1).1, by rw [(hV.ι i h.1).2]; exact h.2⟩
  | d c => exact Reads.mono hV.S (fun _ _ _ => rfl) h
  | pel e off => exact pelRel.mono hV.S (fun _ _ _ => rfl) h
  | clo f caps =>
    obtain ⟨ps, h1, h2, h3⟩ := h
    exact ⟨ps, h1, h2, fun i e off hi => let ⟨p, h4, h5⟩ := h3 i e off hi; ⟨p, h4, h5.mono hV.S (fun _ _ _ => rfl)⟩⟩
  | any => exact h
theorem rels.via (hV : Via ρ V1 V2) {xs : List CA} {vs : Array Value} (h : rels V1 w xs vs) : rels V2 w (xs.map (CA.ren ρ)) vs :=
  ⟨by simpa using h.1, fun i x hx => by
    rw [List.getElem?_map] at hx
    cases h1 : xs[i]? with
    | none => rw [h1] at hx; cases hx
    | some y => rw [h1] at hx; cases hx; obtain ⟨u, h2, h3⟩ := h.2 i y h1; exact ⟨u, h2, h3.via hV⟩⟩
theorem AV.rel.via (hV : Via ρ V1 V2) {x : AV} {v : Value} (h : x.rel V1 w v) : (x.ren ρ).rel V2 w v := by
  cases x with
  | one x => exact CA.rel.via hV h
  | agg xs => obtain ⟨vs, h1, h2⟩ := h; exact ⟨vs, h1, h2.via hV⟩
theorem TV.rel.via (hV : Via ρ V1 V2) {x : TV} {v : Value} (h : x.rel V1 w v) : (x.ren ρ).rel V2 w v := by
  cases x with
  | v x => exact AV.rel.via hV h
  | tup xs =>
    obtain ⟨vs, h1, h2, h3⟩ := h
    refine ⟨vs, h1, by simpa using h2, fun i x hx => ?_⟩
    rw [List.getElem?_map] at hx
    cases h4 : xs[i]? with
    | none => rw [h4] at hx; cases hx
    | some y => rw [h4] at hx; cases hx; obtain ⟨u, h5, h6⟩ := h3 i y h4; exact ⟨u, h5, h6.via hV⟩
  | unk => trivial
theorem HB.rel.via (hV : Via ρ V1 V2) {x : HB} {o : Obj} (h : x.rel V1 w o) : (x.ren ρ).rel V2 w o := by
  cases x with
  | cells T xs => obtain ⟨vs, h3, h4⟩ := h; exact ⟨vs, h3, h4.via hV⟩
  | obj o' => exact h
  | loop s p tm nt ps assign body D =>
    obtain ⟨h1, fn, tmps, h3, h4, h5⟩ := h
    refine ⟨(hV.ι D h1).1, fn, tmps, by rw [(hV.ι D h1).2]; exact h3, h4, fun t x hx => ?_⟩
    rw [lk_map2] at hx
    cases h6 : W0 tm t with
    | none => rw [h6] at hx; cases hx
    | some y => rw [h6] at hx; cases hx; exact (h5 t y h6).via hV
  | mp es clock =>
    obtain ⟨ents, h3, h4, h5⟩ := h
    refine ⟨ents, h3, by simpa using h4, fun i k x b hi => ?_⟩
    rw [List.getElem?_map] at hi
    cases h6 : es[i]? with
    | none => rw [h6] at hi; cases hi
    | some y =>
      obtain ⟨k', x', b'⟩ := y
      rw [h6] at hi; cases hi
      obtain ⟨v, h7, h8⟩ := h5 i _ _ _ h6
      exact ⟨v, h7, h8.via hV⟩
end
open Classical in
noncomputable def Zv (ρ : Nat → Nat) (V V1 : Vu) (n : Nat) : Vu :=
  ⟨n, fun j => if h : ∃ i, ρ i = j then V1.ι h.choose else V.ι j, fun j => if h : ∃ i, ρ i = j then V1.κ h.choose else V.κ j, fun j => if h : ∃ i, ρ i = j then V1.cu h.choose else V.cu j, V1.S⟩
section
open Classical
variable {ρ : Nat → Nat} {V V1 : Vu} {n : Nat}
theorem choose_ren (inj : ∀ i j, ρ i = ρ j → i = j) {i : Nat} (h : ∃ k, ρ k = ρ i) : h.choose = i := inj _ _ h.choose_spec
theorem YN (inj : ∀ i j, ρ i = ρ j → i = j) (i : Nat) : (Zv ρ V V1 n).ι (ρ i) = V1.ι i := by
  have h : ∃ k, ρ k = ρ i := ⟨i, rfl⟩
  show (if h : ∃ k, ρ k = ρ i then V1.ι h.choose else V.ι (ρ i)) = _
  rw [dif_pos h, choose_ren inj h]
theorem ZX (inj : ∀ i j, ρ i = ρ j → i = j) (i : Nat) : (Zv ρ V V1 n).κ (ρ i) = V1.κ i := by
  have h : ∃ k, ρ k = ρ i := ⟨i, rfl⟩
  show (if h : ∃ k, ρ k = ρ i then V1.κ h.choose else V.κ (ρ i)) = _
  rw [dif_pos h, choose_ren inj h]
theorem backV_cu (inj : ∀ i j, ρ i = ρ j → i = j) (i : Nat) : (Zv ρ V V1 n).cu (ρ i) = V1.cu i := by
  have h : ∃ k, ρ k = ρ i := ⟨i, rfl⟩
  show (if h : ∃ k, ρ k = ρ i then V1.cu h.choose else V.cu (ρ i)) = _
  rw [dif_pos h, choose_ren inj h]
theorem YF {j : Nat} (h : ¬ ∃ i, ρ i = j) : (Zv ρ V V1 n).ι j = V.ι j := dif_neg h
theorem Zl {j : Nat} (h : ¬ ∃ i, ρ i = j) : (Zv ρ V V1 n).κ j = V.κ j := dif_neg h
theorem backV_cu' {j : Nat} (h : ¬ ∃ i, ρ i = j) : (Zv ρ V V1 n).cu j = V.cu j := dif_neg h
end
section
variable {E : Env} {V V1 : Vu} {hp hp0 hp1 hpF : List (Nat × HB)} {tk tk0 tk1 tkF : List (Nat × Option Tok)} {w w' : World} {ρ : Nat → Nat} {nx0 n : Nat}
theorem HRel.part (inj : ∀ i j, ρ i = ρ j → i = j) (h : HRel E V (Y4 ρ hp0) (YM ρ tk0) w) (b0 : hpBelow nx0 hp0) (c0 : tkBelow nx0 tk0) :
    HRel ⟨E.P, w, KY V (Y4 ρ hp0) (YM ρ tk0), pull ρ V nx0⟩ (pull ρ V nx0) hp0 tk0 w := by
  have eH : ∀ i B, W0 hp0 i = some B → W0 (Y4 ρ hp0) (ρ i) = some (B.ren ρ) := fun i B hi => by
    have := lk_ren (f := HB.ren ρ) inj hp0 i
    rw [hi] at this; exact this
  have eT : ∀ i T, W0 tk0 i = some T → W0 (YM ρ tk0) (ρ i) = some T := fun i T hi => by
    have := lk_ren (f := fun x : Option Tok => x) inj tk0 i
    rw [hi] at this; exact this
  refine ⟨ExtM.refl _ _, Vu.Le.refl _ _, h.sz, fun b o hs => .inl hs, fun i B hi => ?_, fun i j A B hi hj e => ?_, fun i B hi => ⟨.inr (.inl ⟨ρ i, _, eH i B hi, rfl⟩), (h.new _ _ (eH i B hi)).2⟩, fun i T hi => ?_, fun i j T U g hi hj ei ej => ?_⟩
  · obtain ⟨h1, h2⟩ := b0.get i B hi
    obtain ⟨-, o, h3, h4⟩ := h.own _ _ (eH i B hi)
    exact ⟨h1, o, h3, h4.pull h2⟩
  · exact inj _ _ (h.inj _ _ _ _ (eH i A hi) (eH j B hj) e)
  · obtain ⟨-, h2, xs, h3, h4⟩ := h.tok _ _ (eT i _ hi)
    exact ⟨c0.get i _ hi, h2, xs, h3, fun g hg => ⟨.inr (.inr ⟨ρ i, T, eT i _ hi, hg⟩), (h4 g hg).2.1, fun j B hj => (h4 g hg).2.2 _ _ (eH j B hj)⟩⟩
  · exact inj _ _ (h.tki _ _ T U g (eT i _ hi) (eT j _ hj) ei ej)
theorem HRel.turn (inj : ∀ i j, ρ i = ρ j → i = j) (h : HRel E V hp tk w) (hh : hpLe hp (Y4 ρ hp0)) (ht : tkLe tk (YM ρ tk0)) (hhF : hpLe hp hpF) (htF : tkLe tk tkF)
    (old : ∀ i, i < nx0 → ρ i < V.nx) (new : ∀ i, nx0 ≤ i → ρ i = V.nx + (i - nx0)) (dF : ∀ i B, W0 hpF i = some B → ∀ k, k < nx0 → ρ k ≠ i) (dT : ∀ i T, W0 tkF i = some (some T) → ∀ k, k < nx0 → ρ k ≠ i)
    (b0 : hpBelow nx0 hp0) (c0 : tkBelow nx0 tk0) (hn : V1.nx + V.nx = n + nx0) (hle : nx0 ≤ V1.nx)
    (H : HRel ⟨E.P, w, KY V (Y4 ρ hp0) (YM ρ tk0), pull ρ V nx0⟩ V1 hp1 tk1 w') :
    HRel E (Zv ρ V V1 n) (Y4 ρ hp1 ++ hpF) (YM ρ tk1 ++ tkF) w' ∧ V.Le (Zv ρ V V1 n) w w' ∧ Via ρ V1 (Zv ρ V V1 n) := by
  have L := H.le0
  have h0 := h.forgetLe hh ht
  have hF := h.forgetLe hhF htF
  have eHi : ∀ {l : List (Nat × HB)} {j B}, W0 (Y4 ρ l) j = some B → ∃ i x, ρ i = j ∧ W0 l i = some x ∧ B = x.ren ρ := fun hj => lk_ren_inv inj hj
  have eTi : ∀ {l : List (Nat × Option Tok)} {j T}, W0 (YM ρ l) j = some T → ∃ i x, ρ i = j ∧ W0 l i = some x ∧ T = x := fun hj => lk_ren_inv (f := fun x : Option Tok => x) inj hj
  have pE : ∀ k, KY V (Y4 ρ hp0) (YM ρ tk0) k → E.w0.heap.size ≤ k ∨ E.M k := by
    rintro k (⟨i, B, hi, rfl⟩ | ⟨i, T, hi, hg⟩)
    · exact (h0.new i B hi).1
    · obtain ⟨-, -, xs, -, h4⟩ := h0.tok i T hi
      exact (h4 k hg).1
  have Fl : ∀ i B, W0 hpF i = some B → V.ι i < w.heap.size := fun i B hi => by
    obtain ⟨-, o, ho, -⟩ := hF.own i B hi
    exact Y2 ho
  have Tl : ∀ i T g, W0 tkF i = some (some T) → (V.κ i T.n).ownBlock = some g → g < w.heap.size := fun i T g hi hg => by
    obtain ⟨-, -, xs, h3, -⟩ := hF.tok i T hi
    exact (h3.1.lt g hg).2
  have nF : ∀ i, i < V.nx → (∀ k, k < nx0 → ρ k ≠ i) → ¬ ∃ k, ρ k = i := by
    rintro i hi hk ⟨k, hk2⟩
    rcases Nat.lt_or_ge k nx0 with h1 | h1
    · exact hk k h1 hk2
    · rw [new k h1] at hk2; omega
  have Fn : ∀ i B, W0 hpF i = some B → ¬ ∃ k, ρ k = i := fun i B hi => nF i (hF.own i B hi).1 (dF i B hi)
  have Tn : ∀ i T, W0 tkF i = some (some T) → ¬ ∃ k, ρ k = i := fun i T hi => nF i (hF.tok i T hi).1 (dT i T hi)
  have Fp : ∀ i B, W0 hpF i = some B → ¬ KY V (Y4 ρ hp0) (YM ρ tk0) (V.ι i) := by
    rintro i B hi (⟨j, C, hj, e⟩ | ⟨j, T, hj, hg⟩)
    · obtain ⟨x, hx, -⟩ := hh.get j C hj
      obtain ⟨y, hy, -⟩ := hhF.get i B hi
      have := h.inj j i x y hx hy e
      subst this
      obtain ⟨k, -, hk, -⟩ := eHi hj
      exact Fn _ B hi ⟨k, hk⟩
    · obtain ⟨y, hy, -⟩ := hhF.get i B hi
      obtain ⟨-, -, xs, -, h4⟩ := h.tok j T (ht.get j T hj)
      exact (h4 _ hg).2.2 i y hy rfl
  have Tp : ∀ i T g, W0 tkF i = some (some T) → (V.κ i T.n).ownBlock = some g → ¬ KY V (Y4 ρ hp0) (YM ρ tk0) g := by
    rintro i T g hi hg (⟨j, C, hj, e⟩ | ⟨j, U, hj, hg'⟩)
    · obtain ⟨x, hx, -⟩ := hh.get j C hj
      obtain ⟨-, -, xs, -, h4⟩ := h.tok i T (htF.get i T hi)
      exact (h4 _ hg).2.2 j x hx e
    · have := h.tki i j T U g (htF.get i T hi) (ht.get j U hj) hg hg'
      subst this
      obtain ⟨k, -, hk, -⟩ := eTi hj
      exact Tn _ T hi ⟨k, hk⟩
  have S1 : ∀ b o, V1.S b o → V.S b o ∨ w.heap.size ≤ b ∨ KY V (Y4 ρ hp0) (YM ρ tk0) b := H.sub
  have nn : ∀ i, i < V1.nx → ρ i < n := fun i hi => by
    rcases Nat.lt_or_ge i nx0 with h1 | h1
    · have := old i h1; omega
    · rw [new i h1]; omega
  have A2 : Via ρ V1 (Zv ρ V V1 n) := ⟨fun i hi => ⟨nn i hi, YN inj i⟩, fun i hi => backV_cu inj i, fun i hi => ZX inj i, fun b o hs => hs⟩
  have isNew : ∀ k, ρ k < V.nx → k < nx0 := fun k hk => by
    rcases Nat.lt_or_ge k nx0 with h1 | h1
    · exact h1
    · rw [new k h1] at hk; omega
  have A1 : V.Le (Zv ρ V V1 n) w w' := by
    refine ⟨by show V.nx ≤ n; omega, fun i hi => ?_, fun i hi => ?_, fun i hi m hm => ?_, L.S, L.cell, L.dk⟩
    · by_cases hq : ∃ k, ρ k = i
      · obtain ⟨k, rfl⟩ := hq
        rw [YN inj]; exact L.ι k (isNew k hi)
      · exact YF hq
    · by_cases hq : ∃ k, ρ k = i
      · obtain ⟨k, rfl⟩ := hq
        rw [backV_cu inj]; exact L.cu k (isNew k hi)
      · rw [backV_cu' hq]; exact Nat.le_refl _
    · by_cases hq : ∃ k, ρ k = i
      · obtain ⟨k, rfl⟩ := hq
        rw [ZX inj]; exact L.κ k (isNew k hi) m hm
      · rw [Zl hq]
  have hsize : w.heap.size ≤ w'.heap.size := H.ext.size
  have keep : ∀ k, k < w.heap.size → ¬ KY V (Y4 ρ hp0) (YM ρ tk0) k → w'.heap[k]? = w.heap[k]? := H.ext.block
  have inE : ∀ k, (w.heap.size ≤ k ∨ KY V (Y4 ρ hp0) (YM ρ tk0) k) → E.w0.heap.size ≤ k ∨ E.M k := fun k hk => by
    rcases hk with h1 | h1
    · exact .inl (Nat.le_trans h.ext.size h1)
    · exact pE k h1
  refine ⟨⟨?_, h.le0.trans A1, H.sz, ?_, ?_, ?_, ?_, ?_, ?_⟩, A1, A2⟩
  · refine ⟨H.ext.os.trans h.ext.os, H.ext.tape.trans h.ext.tape, H.ext.output.trans h.ext.output, Nat.le_trans h.ext.size hsize, fun k hk hM => ?_⟩
    refine (keep k (Nat.lt_of_lt_of_le hk h.ext.size) fun hp => ?_).trans (h.ext.block k hk hM)
    rcases pE k hp with h1 | h1
    · omega
    · exact hM h1
  · intro b o hs
    rcases S1 b o hs with h1 | h1
    · exact h.sub b o h1
    · exact .inr (inE b h1)
  · intro i B hi
    rcases Y8 hi with hi | hi
    · obtain ⟨k, x, rfl, hk, rfl⟩ := eHi hi
      obtain ⟨h1, o, h3, h4⟩ := H.own k x hk
      exact ⟨nn k h1, o, by rw [YN inj]; exact h3, h4.via A2⟩
    · obtain ⟨h1, o, h3, h4⟩ := hF.own i B hi
      exact ⟨by show i < n; omega, o, by rw [YF (Fn i B hi), keep _ (Fl i B hi) (Fp i B hi)]; exact h3, h4.mono A1⟩
  · have mix : ∀ i j A B, W0 (Y4 ρ hp1) i = some A → W0 hpF j = some B → (Zv ρ V V1 n).ι i = (Zv ρ V V1 n).ι j → False := fun i j A B hi hj e => by
      obtain ⟨k, x, rfl, hk, -⟩ := eHi hi
      rw [YN inj, YF (Fn j B hj)] at e
      rcases (H.new k x hk).1 with h2 | h2
      · rw [e] at h2
        exact absurd h2 (Nat.not_le.2 (Fl j B hj))
      · rw [e] at h2
        exact Fp j B hj h2
    intro i j A B hi hj e
    rcases Y8 hi with hi | hi <;> rcases Y8 hj with hj | hj
    · obtain ⟨k, x, rfl, hk, -⟩ := eHi hi
      obtain ⟨k', x', rfl, hk', -⟩ := eHi hj
      rw [YN inj, YN inj] at e
      rw [H.inj k k' x x' hk hk' e]
    · exact (mix i j A B hi hj e).elim
    · exact (mix j i B A hj hi e.symm).elim
    · rw [YF (Fn i A hi), YF (Fn j B hj)] at e
      exact hF.inj i j A B hi hj e
  · intro i B hi
    rcases Y8 hi with hi | hi
    · obtain ⟨k, x, rfl, hk, -⟩ := eHi hi
      obtain ⟨h2, h3⟩ := H.new k x hk
      rw [YN inj]
      exact ⟨inE _ h2, h3⟩
    · obtain ⟨h2, h3⟩ := hF.new i B hi
      rw [YF (Fn i B hi)]
      refine ⟨h2, fun o hs => ?_⟩
      rcases S1 _ o hs with h4 | h4 | h4
      · exact h3 o h4
      · exact absurd h4 (Nat.not_le.2 (Fl i B hi))
      · exact Fp i B hi h4
  · intro i T hi
    rcases Y8 hi with hi | hi
    · obtain ⟨k, x, rfl, hk, e⟩ := eTi hi
      subst e
      obtain ⟨h1, h2, xs, h3, h4⟩ := H.tok k T hk
      refine ⟨nn k h1, by rw [backV_cu inj]; exact h2, xs, ⟨by rw [ZX inj]; exact h3.1, h3.2⟩, fun g hg => ?_⟩
      rw [ZX inj] at hg
      obtain ⟨h5, h6, h7⟩ := h4 g hg
      refine ⟨inE g h5, h6, fun j B hj => ?_⟩
      rcases Y8 hj with hj | hj
      · obtain ⟨k', x', rfl, hk', -⟩ := eHi hj
        rw [YN inj]; exact h7 k' x' hk'
      · intro e
        rw [YF (Fn j B hj)] at e
        rcases h5 with h5 | h5
        · have := Fl j B hj
          rw [e] at this
          exact absurd h5 (Nat.not_le.2 this)
        · exact Fp j B hj (by rw [e]; exact h5)
    · have hq := Tn i T hi
      obtain ⟨h1, h2, xs, h3, h4⟩ := hF.tok i T hi
      refine ⟨by show i < n; omega, by rw [backV_cu' hq]; exact h2, xs, ?_, fun g hg => ?_⟩
      · exact h3.keepW (congrFun (Zl hq) T.n) (ownsRow_same h3.1 fun g hg => keep g (Tl i T g hi hg) (Tp i T g hi hg)) A1.lx
      · rw [Zl hq] at hg
        obtain ⟨h5, h6, h7⟩ := h4 g hg
        refine ⟨h5, fun o hs => ?_, fun j B hj => ?_⟩
        · rcases S1 _ o hs with h8 | h8 | h8
          · exact h6 o h8
          · exact absurd h8 (Nat.not_le.2 (Tl i T g hi hg))
          · exact absurd h8 (Tp i T g hi hg)
        · rcases Y8 hj with hj | hj
          · intro e
            obtain ⟨k', x', rfl, hk', -⟩ := eHi hj
            rw [YN inj] at e
            rcases (H.new k' x' hk').1 with h9 | h9
            · rw [e] at h9
              exact absurd h9 (Nat.not_le.2 (Tl i T g hi hg))
            · rw [e] at h9
              exact Tp i T g hi hg h9
          · rw [YF (Fn j B hj)]; exact h7 j B hj
  · have mix : ∀ i j T U g, W0 (YM ρ tk1) i = some (some T) → W0 tkF j = some (some U) → ((Zv ρ V V1 n).κ i T.n).ownBlock = some g → ((Zv ρ V V1 n).κ j U.n).ownBlock = some g → False := fun i j T U g hi hj ei ej => by
      obtain ⟨k, x, rfl, hk, e⟩ := eTi hi
      subst e
      rw [ZX inj] at ei
      rw [Zl (Tn j U hj)] at ej
      obtain ⟨-, -, xs, -, h4⟩ := H.tok k T hk
      rcases (h4 g ei).1 with h5 | h5
      · exact absurd h5 (Nat.not_le.2 (Tl j U g hj ej))
      · exact Tp j U g hj ej h5
    intro i j T U g hi hj ei ej
    rcases Y8 hi with hi | hi <;> rcases Y8 hj with hj | hj
    · obtain ⟨k, x, rfl, hk, e⟩ := eTi hi
      subst e
      obtain ⟨k', x', rfl, hk', e⟩ := eTi hj
      subst e
      rw [ZX inj] at ei ej
      rw [H.tki k k' T U g hk hk' ei ej]
    · exact (mix i j T U g hi hj ei ej).elim
    · exact (mix j i U T g hj hi ej ei).elim
    · rw [Zl (Tn i T hi)] at ei
      rw [Zl (Tn j U hj)] at ej
      exact hF.tki i j T U g hi hj ei ej
end
theorem tkBelow_all {m : Nat} : ∀ {l : List (Nat × Option Tok)}, (l.all fun p => Nat.blt p.1 m) = true → tkBelow m l
  | [], _ => trivial
  | (i, x) :: l, h => by
    rw [List.all_cons, Bool.and_eq_true] at h
    exact ⟨ZW h.1, tkBelow_all h.2⟩
def nodupN : List Nat → Bool
  | [] => true
  | x :: l => cond (l.any fun y => Nat.beq x y) false (nodupN l)
theorem nodupN_ok : ∀ {l : List Nat}, nodupN l = true → l.Nodup
  | [], _ => List.nodup_nil
  | x :: l, h => by
    unfold nodupN at h
    cases h1 : (l.any fun y => Nat.beq x y) with
    | true => rw [h1] at h; cases h
    | false =>
      rw [h1] at h
      refine List.nodup_cons.2 ⟨fun hm => ?_, nodupN_ok h⟩
      have := List.any_eq_false.1 h1 x hm
      simp at this
def apartB {α : Type} (rs : List Nat) (l : List (Nat × α)) : Bool := l.all fun p => rs.all fun q => cond (Nat.beq q p.1) false true
theorem apartB_ok {α : Type} {rs : List Nat} {l : List (Nat × α)} (h : apartB rs l = true) {i : Nat} {x : α} (hi : W0 l i = some x) : i ∉ rs := fun hm => by
  have h1 := List.all_eq_true.1 (List.all_eq_true.1 h _ (G2 hi)) i hm
  have h2 : Nat.beq i i = true := by simp
  dsimp only at h1
  rw [h2] at h1; cases h1
theorem QS {E : Env} {st : St} {dd : Option Tmp} {ty : TypeId} {pos : String} {af : Array Edge} {g : Option (Nat × Bool)} {x : Operand} {f : FuncId} {caps : List (Nat × Nat)} {ars : Array Operand} {args args0 : List AV} {ats : Array TypeId} {res res2 : TV} {hp0 hp1 hp1' hpF : List (Nat × HB)} {tk0 tk1 tk1' tkF : List (Nat × Option Tok)} {nx0 nx1 nx2 n : Nat}
    (rs : List Nat) (hx : ev st.tm x = some (.v (.one (.fn f caps)))) (ha : ZF st.tm ars.toList = some args)
    (hc : CallM E.P f args0 ⟨hp0, tk0, nx0⟩ res ⟨hp1, tk1, nx1⟩) (hst : st.nx = n) (he : args ++ GW caps = args0.map (AV.ren (GZ rs n))) (e3 : Y4 (GZ rs n) hp1 = hp1') (e4 : YM (GZ rs n) tk1 = tk1') (e5 : res.ren (GZ rs n) = res2)
    (hh : hpLe st.hp (Y4 (GZ rs n) hp0)) (ht : tkLe st.tk (YM (GZ rs n) tk0)) (hhF : hpLe st.hp hpF) (htF : tkLe st.tk tkF) (hl : Nat.beq rs.length nx0 = true) (hnd : nodupN rs = true) (hlt : (rs.all fun j => Nat.blt j n) = true) (d1 : apartB rs hpF = true) (d2 : apartB rs tkF = true)
    (b0 : hpBelow nx0 hp0) (c0 : (tk0.all fun p => Nat.blt p.1 nx0) = true) (ba : (args0.all fun y => y.belowB nx0) = true) (hle : Nat.ble nx0 nx1 = true) (hn : Nat.beq (nx1 + n) (nx2 + nx0) = true) :
    OpOK E ⟨dd, .call { callee := .value x, args := ars, argTypes := ats }, ty, pos, af, g⟩ st res2 ⟨hp1' ++ hpF, tk1' ++ tkF, nx2⟩ := by
  subst hst e3 e4 e5
  have c0' := tkBelow_all c0
  have hl' : rs.length = nx0 := Nat.eq_of_beq_eq_true hl
  have hlt' : ∀ j ∈ rs, j < st.nx := fun j hj => ZW (List.all_eq_true.1 hlt j hj)
  have inj : ∀ i j, GZ rs st.nx i = GZ rs st.nx j → i = j := fun i j h => rho_inj (nodupN_ok hnd) hlt' h
  intro V a w hr ro n K Q hK
  refine ⟨fun _ _ => trivial, ?_⟩
  rw [Oper.semAt_eq _ _ _ (by intro c h; cases h)]
  obtain ⟨hv1, hv2⟩ := hr.ev hx
  have hrun : (execOp a.eval ⟨dd, .call { callee := .value x, args := ars, argTypes := ats }, ty, pos, af, g⟩).run E.P w = .ok (.enter f (ars.map a.eval ++ (caps.map fun p => Value.pointer (some ⟨V.ι p.1, p.2, none⟩)).toArray)) w := by
    have := hc.1 (ars.map a.eval ++ (caps.map fun p => Value.pointer (some ⟨V.ι p.1, p.2, none⟩)).toArray) w
    simp [execOp, resolve, hv2, Deferred.ofValue, invoke]
    simpa using this
  rw [hrun]
  refine ⟨(by intro h; cases h), ?_⟩
  have h0 := (hr.h.forgetLe hh ht).part inj b0 c0'
  have har : argsRel (pull (GZ rs st.nx) V nx0) w args0 (ars.map a.eval ++ (caps.map fun p => Value.pointer (some ⟨V.ι p.1, p.2, none⟩)).toArray) := by
    obtain ⟨h1, h2⟩ := (Ks hr ha).append (ptrs_rel hv1)
    rw [he] at h1 h2
    refine ⟨by simpa using h1, fun i y hy => ?_⟩
    obtain ⟨u, hu, hyu⟩ := h2 i (y.ren _) (by rw [List.getElem?_map, hy]; rfl)
    exact ⟨u, hu, hyu.pull (AV.belowB_ok (List.all_eq_true.1 ba y (List.mem_of_getElem? hy)))⟩
  have hc' : CallsIn Fence.wide (n - 1) E.P f _ w _ := callsIn_wide.2 (hc.2 ⟨E.P, w, KY V _ _, pull (GZ rs st.nx) V nx0⟩ _ w _ rfl h0 rfl har)
  refine CallsIn.mono (F := Ww ro) hc' ?_
  rintro e w' ⟨v, V1, rfl, H, hn1, L, hres⟩
  have hn2 := Nat.eq_of_beq_eq_true hn
  have hnx := hr.nx
  dsimp only at hn1
  obtain ⟨H2, L2, L3⟩ := hr.h.turn (n := nx2) inj hh ht hhF htF (fun i hi => by rw [hnx]; exact hlt' _ (KX (by omega))) (fun i hi => by rw [Gd (by omega), hnx, hl'])
    (fun i B hi k hk e => apartB_ok d1 hi (by rw [← e]; exact KX (by omega))) (fun i T hi k hk e => apartB_ok d2 hi (by rw [← e]; exact KX (by omega))) b0 c0' (by rw [hn1, hnx]; exact hn2) (by rw [hn1]; exact Nat.le_of_ble_eq_true hle) H
  exact hK _ w' v H2 rfl L2 (hres.via L3)
theorem XT {ρ : Nat → Nat} : Y4 ρ [] = [] := rfl
theorem XW {ρ : Nat → Nat} {i j : Nat} {x y : HB} {r r' : List (Nat × HB)} (h1 : ρ i = j) (h2 : x.ren ρ = y) (h : Y4 ρ r = r') : Y4 ρ ((i, x) :: r) = (j, y) :: r' := by
  subst h1 h2 h; rfl
theorem flatE_ren {α : Type} [Enc α] (ρ : Nat → Nat) (l : List α) : (Q6 l).map (CA.ren ρ) = Q6 l := by
  unfold Q6; rw [List.map_map]; rfl
theorem XV {ρ : Nat → Nat} {i j : Nat} {T : TypeId} {α : Type} [Enc α] {xs : List α} {r r' : List (Nat × HB)} (h1 : ρ i = j) (h : Y4 ρ r = r') : Y4 ρ ((i, .cells T (Q6 xs)) :: r) = (j, .cells T (Q6 xs)) :: r' :=
  XW h1 (by show HB.cells T ((Q6 xs).map (CA.ren ρ)) = _; rw [flatE_ren]) h
section
variable {ρ : Nat → Nat} {hp : List (Nat × HB)} {tk : List (Nat × Option Tok)}
theorem Wa : hpLe hp (Y4 ρ []) := trivial
theorem Wb {i : Nat} {x : HB} {r : List (Nat × HB)} (h : W0 hp (ρ i) = some (x.ren ρ)) (l : hpLe hp (Y4 ρ r)) : hpLe hp (Y4 ρ ((i, x) :: r)) := ⟨⟨_, h, .refl _⟩, l⟩
theorem Wd {i : Nat} {T : TypeId} {α : Type} [Enc α] {xs : List α} {r : List (Nat × HB)} (h : W0 hp (ρ i) = some (.cells T (Q6 xs))) (l : hpLe hp (Y4 ρ r)) : hpLe hp (Y4 ρ ((i, .cells T (Q6 xs)) :: r)) :=
  Wb (by show _ = some (HB.cells T ((Q6 xs).map (CA.ren ρ))); rw [flatE_ren]; exact h) l
theorem W5 : tkLe tk (YM ρ []) := trivial
theorem W6 {i : Nat} {T : Tok} {r : List (Nat × Option Tok)} (h : W0 tk (ρ i) = some (some T)) (l : tkLe tk (YM ρ r)) : tkLe tk (YM ρ ((i, some T) :: r)) := ⟨fun T' e => by cases e; exact h, l⟩
end
def Yn {σ β : Type} (F : (σ → Option β) → σ → Option β) : Nat → σ → Option β
  | 0, _ => none
  | n + 1, u => F (Yn F n) u
theorem Z0 {σ β : Type} {F : (σ → Option β) → σ → Option β} {C : σ → β → Prop} (h : ∀ rc : σ → Option β, (∀ u y, rc u = some y → C u y) → ∀ u y, F rc u = some y → C u y) : ∀ (n : Nat) (u : σ) (y : β), Yn F n u = some y → C u y
  | 0, u, y, e => by cases e
  | n + 1, u, y, e => h _ (Z0 h n) u y e
end Go.Proofs.Ytijcchddnnnmdaa
namespace Go.Proofs.Ytijcchddnnnmdaa
open Go.RowKit
set_option linter.unusedSimpArgs false
set_option linter.unusedVariables false
set_option linter.unusedSectionVars false
def XO (l : List UInt8) : ByteArray := ⟨l.toArray⟩
theorem sB_size (l : List UInt8) : (XO l).size = l.length := by simp [XO, ByteArray.size]
theorem sB_toList (l : List UInt8) : (XO l).toList = l := by rw [Go.Lib.toList_data]; rfl
theorem sB_append (a b : List UInt8) : XO a ++ XO b = XO (a ++ b) := by
  apply ByteArray.ext
  simp [XO, ByteArray.data_append]
def strL (s : List UInt8) : List C := [.v (.string (XO s))]
instance : Enc (List UInt8) := ⟨1, strL, fun l => l.map strL, rfl, fun a b => List.map_append, fun _ => rfl⟩
abbrev YK (l : List UInt8) : CA := .d (.v (.string (XO l)))
abbrev Wq (l : List UInt8) : TV := Ku (.string (XO l))
section
variable {E : Env} {st : St} {d : Option Tmp} {ty : TypeId} {pos : String} {af : Array Edge} {g : Option (Nat × Bool)}
theorem RO.addS {t t' : TypeId} {x y : Operand} {a b : List UInt8} (hx : ev st.tm x = some (Wq a)) (hy : ev st.tm y = some (Wq b)) (hg : Nat.ble (a.length + b.length) 1000000000 = true) : RO E ⟨d, .binOp .add t x y t', ty, pos, af, g⟩ st (Wq (a ++ b)) := by
  have := RO.binStr (E := E) (d := d) (ty := ty) (pos := pos) (af := af) (g := g) (t := t) (t' := t') (op := .add) hx hy (v := .string (XO a ++ XO b)) (by
    have h1 := Nat.le_of_ble_eq_true hg
    have h2 : decide ((((XO a).size + (XO b).size : Nat) : Int) > IntKind.i64.max) = false := by
      rw [sB_size, sB_size]
      refine decide_eq_false ?_
      have : IntKind.i64.max = 9223372036854775807 := by decide
      omega
    simp only [Gc, h2, cond_false])
  rw [sB_append] at this
  exact this
theorem RO.eqS {t t' : TypeId} {x y : Operand} {a b : List UInt8} (hx : ev st.tm x = some (Wq a)) (hy : ev st.tm y = some (Wq b)) : RO E ⟨d, .binOp .eql t x y t', ty, pos, af, g⟩ st (Ws (a == b)) := by
  have := RO.binStr (E := E) (d := d) (ty := ty) (pos := pos) (af := af) (g := g) (t := t) (t' := t') (op := .eql) hx hy (v := .bool (a == b)) (by simp only [Gc, sB_toList])
  exact this
theorem RO.neS {t t' : TypeId} {x y : Operand} {a b : List UInt8} (hx : ev st.tm x = some (Wq a)) (hy : ev st.tm y = some (Wq b)) : RO E ⟨d, .binOp .neq t x y t', ty, pos, af, g⟩ st (Ws (!(a == b))) := by
  have := RO.binStr (E := E) (d := d) (ty := ty) (pos := pos) (af := af) (g := g) (t := t) (t' := t') (op := .neq) hx hy (v := .bool (!(a == b))) (by simp only [Gc, sB_toList])
  exact this
theorem RO.lenS {t : TypeId} {x : Operand} {a : List UInt8} (ht : Kw E.P t = true) (hx : ev st.tm x = some (Wq a)) : RO E ⟨d, .call { callee := .builtin .len, args := #[x], argTypes := #[t] }, ty, pos, af, g⟩ st (Wr a.length) := by
  have := RO.lenStr (E := E) (d := d) (ty := ty) (pos := pos) (af := af) (g := g) ht hx
  rw [sB_size] at this
  exact this
end
end Go.Proofs.Ytijcchddnnnmdaa
namespace Go.Proofs.Ytijcchddnnnmdaa
open Go.RowKit
set_option linter.unusedSimpArgs false
set_option linter.unusedVariables false
set_option linter.unusedSectionVars false
noncomputable section
abbrev Wy := List UInt8
inductive Tm where
  | mk (kind index : Int) (name : Wy) (levels : List Lvl) (kids : List Tm)
def Tm.kind : Tm → Int | .mk k _ _ _ _ => k
def Tm.index : Tm → Int | .mk _ i _ _ _ => i
def Tm.name : Tm → Wy | .mk _ _ n _ _ => n
def Tm.levels : Tm → List Lvl | .mk _ _ _ l _ => l
def Tm.kids : Tm → List Tm | .mk _ _ _ _ ks => ks
theorem Tm.kids_lt (t : Tm) : SizeOf.sizeOf t.kids < SizeOf.sizeOf t := by
  cases t
  simp only [Tm.kids, Tm.mk.sizeOf_spec]
  omega
def Xy : Nat → List Tm → List (List C)
  | 0, _ => []
  | n + 1, l => l.map fun t => [.v (.int .i64 t.kind), .v (.int .i64 t.index), .v (.string (XO t.name)), .sl 2 (Enc.encL t.levels), .sl 5 (Xy n t.kids)]
theorem tmF_eq : ∀ (n m : Nat) (l : List Tm), SizeOf.sizeOf l ≤ n → SizeOf.sizeOf l ≤ m → Xy n l = Xy m l
  | 0, _, l, h, _ => by cases l <;> simp at h
  | _, 0, l, _, h => by cases l <;> simp at h
  | n + 1, m + 1, l, h1, h2 => by
    unfold Xy
    refine List.map_congr_left fun t ht => ?_
    have h3 := List.sizeOf_lt_of_mem ht
    have h4 := t.kids_lt
    rw [tmF_eq n m t.kids (by omega) (by omega)]
def tmL (l : List Tm) : List (List C) := Xy (SizeOf.sizeOf l) l
def tmC (t : Tm) : List C := [.v (.int .i64 t.kind), .v (.int .i64 t.index), .v (.string (XO t.name)), .sl 2 (Enc.encL t.levels), .sl 5 (tmL t.kids)]
theorem KV (l : List Tm) : tmL l = l.map tmC := by
  unfold tmL
  have hpos : 0 < SizeOf.sizeOf l := by cases l <;> simp <;> omega
  obtain ⟨k, hk⟩ : ∃ k, SizeOf.sizeOf l = k + 1 := ⟨SizeOf.sizeOf l - 1, by omega⟩
  rw [hk]
  unfold Xy tmC
  refine List.map_congr_left fun t ht => ?_
  have h3 := List.sizeOf_lt_of_mem ht
  have h4 := t.kids_lt
  rw [tmF_eq k (SizeOf.sizeOf t.kids) t.kids (by omega) (Nat.le_refl _)]
  rfl
instance : Enc Tm := ⟨5, tmC, tmL, KV [], fun a b => by rw [KV, KV, KV, List.map_append], fun x => KV [x]⟩
structure BrF (α : Type) where
  ctor : Wy
  absurd : Bool
  tree : α
inductive Tr where
  | mk (kind : Int) (body : Tm) (var : Int) (branches : List (BrF Tr))
abbrev Wz := BrF Tr
def Tr.kind : Tr → Int | .mk k _ _ _ => k
def Tr.body : Tr → Tm | .mk _ b _ _ => b
def Tr.var : Tr → Int | .mk _ _ v _ => v
def Tr.branches : Tr → List Wz | .mk _ _ _ l => l
theorem Tr.branches_lt (t : Tr) : SizeOf.sizeOf t.branches < SizeOf.sizeOf t := by
  cases t
  simp only [Tr.branches, Tr.mk.sizeOf_spec]
  omega
theorem BrF.tree_lt (b : Wz) : SizeOf.sizeOf b.tree < SizeOf.sizeOf b := by
  cases b
  simp only [BrF.mk.sizeOf_spec]
  omega
def XF : Nat → List Wz → List (List C)
  | 0, _ => []
  | n + 1, l => l.map fun b => [.v (.string (XO b.ctor)), .v (.bool b.absurd), .v (.int .i64 b.tree.kind), .v (.int .i64 b.tree.body.kind), .v (.int .i64 b.tree.body.index), .v (.string (XO b.tree.body.name)), .sl 2 (Enc.encL b.tree.body.levels), .sl 5 (Enc.encL b.tree.body.kids), .v (.int .i64 b.tree.var), .sl 10 (XF n b.tree.branches)]
theorem brF_eq : ∀ (n m : Nat) (l : List Wz), SizeOf.sizeOf l ≤ n → SizeOf.sizeOf l ≤ m → XF n l = XF m l
  | 0, _, l, h, _ => by cases l <;> simp at h
  | _, 0, l, _, h => by cases l <;> simp at h
  | n + 1, m + 1, l, h1, h2 => by
    unfold XF
    refine List.map_congr_left fun t ht => ?_
    have h3 := List.sizeOf_lt_of_mem ht
    have h4 := t.tree_lt
    have h5 := t.tree.branches_lt
    rw [brF_eq n m t.tree.branches (by omega) (by omega)]
def brL (l : List Wz) : List (List C) := XF (SizeOf.sizeOf l) l
def brC (b : Wz) : List C := [.v (.string (XO b.ctor)), .v (.bool b.absurd), .v (.int .i64 b.tree.kind), .v (.int .i64 b.tree.body.kind), .v (.int .i64 b.tree.body.index), .v (.string (XO b.tree.body.name)), .sl 2 (Enc.encL b.tree.body.levels), .sl 5 (Enc.encL b.tree.body.kids), .v (.int .i64 b.tree.var), .sl 10 (brL b.tree.branches)]
theorem G9 (l : List Wz) : brL l = l.map brC := by
  unfold brL
  have hpos : 0 < SizeOf.sizeOf l := by cases l <;> simp <;> omega
  obtain ⟨k, hk⟩ : ∃ k, SizeOf.sizeOf l = k + 1 := ⟨SizeOf.sizeOf l - 1, by omega⟩
  rw [hk]
  unfold XF brC
  refine List.map_congr_left fun t ht => ?_
  have h3 := List.sizeOf_lt_of_mem ht
  have h4 := t.tree_lt
  have h5 := t.tree.branches_lt
  rw [brF_eq k (SizeOf.sizeOf t.tree.branches) t.tree.branches (by omega) (Nat.le_refl _)]
  rfl
instance : Enc Wz := ⟨10, brC, brL, G9 [], fun a b => by rw [G9, G9, G9, List.map_append], fun x => G9 [x]⟩
def trC (t : Tr) : List C := [.v (.int .i64 t.kind), .v (.int .i64 t.body.kind), .v (.int .i64 t.body.index), .v (.string (XO t.body.name)), .sl 2 (Enc.encL t.body.levels), .sl 5 (Enc.encL t.body.kids), .v (.int .i64 t.var), .sl 10 (Enc.encL t.branches)]
instance : Enc Tr := ⟨8, trC, fun l => l.map trC, rfl, fun a b => List.map_append, fun _ => rfl⟩
structure Ctr where
  name : Wy
  ty : Tm
def ctrC (c : Ctr) : List C := [.v (.string (XO c.name)), .v (.int .i64 c.ty.kind), .v (.int .i64 c.ty.index), .v (.string (XO c.ty.name)), .sl 2 (Enc.encL c.ty.levels), .sl 5 (Enc.encL c.ty.kids)]
instance : Enc Ctr := ⟨6, ctrC, fun l => l.map ctrC, rfl, fun a b => List.map_append, fun _ => rfl⟩
structure Rcr where
  params : Int
  ty : Tm
  rules : List Tm
def rcrC (r : Rcr) : List C := [.v (.int .i64 r.params), .v (.int .i64 r.ty.kind), .v (.int .i64 r.ty.index), .v (.string (XO r.ty.name)), .sl 2 (Enc.encL r.ty.levels), .sl 5 (Enc.encL r.ty.kids), .sl 5 (Enc.encL r.rules)]
instance : Enc Rcr := ⟨7, rcrC, fun l => l.map rcrC, rfl, fun a b => List.map_append, fun _ => rfl⟩
structure Fn where
  name : Wy
  ty : Tm
  arity : Int
  tree : Tr
def fnC (f : Fn) : List C := [.v (.string (XO f.name)), .v (.int .i64 f.ty.kind), .v (.int .i64 f.ty.index), .v (.string (XO f.ty.name)), .sl 2 (Enc.encL f.ty.levels), .sl 5 (Enc.encL f.ty.kids), .v (.int .i64 f.arity),
  .v (.int .i64 f.tree.kind), .v (.int .i64 f.tree.body.kind), .v (.int .i64 f.tree.body.index), .v (.string (XO f.tree.body.name)), .sl 2 (Enc.encL f.tree.body.levels), .sl 5 (Enc.encL f.tree.body.kids), .v (.int .i64 f.tree.var), .sl 10 (Enc.encL f.tree.branches)]
instance : Enc Fn := ⟨15, fnC, fun l => l.map fnC, rfl, fun a b => List.map_append, fun _ => rfl⟩
structure Dcl where
  kind : Int
  name : Wy
  params : Int
  ty : Tm
  value : Tm
  fixed : Int
  ctors : List Ctr
  rcr : Rcr
  funs : List Fn
def dclC (d : Dcl) : List C := [.v (.int .i64 d.kind), .v (.string (XO d.name)), .v (.int .i64 d.params),
  .v (.int .i64 d.ty.kind), .v (.int .i64 d.ty.index), .v (.string (XO d.ty.name)), .sl 2 (Enc.encL d.ty.levels), .sl 5 (Enc.encL d.ty.kids),
  .v (.int .i64 d.value.kind), .v (.int .i64 d.value.index), .v (.string (XO d.value.name)), .sl 2 (Enc.encL d.value.levels), .sl 5 (Enc.encL d.value.kids),
  .v (.int .i64 d.fixed), .sl 6 (Enc.encL d.ctors),
  .v (.int .i64 d.rcr.params), .v (.int .i64 d.rcr.ty.kind), .v (.int .i64 d.rcr.ty.index), .v (.string (XO d.rcr.ty.name)), .sl 2 (Enc.encL d.rcr.ty.levels), .sl 5 (Enc.encL d.rcr.ty.kids), .sl 5 (Enc.encL d.rcr.rules), .sl 15 (Enc.encL d.funs)]
instance : Enc Dcl := ⟨23, dclC, fun l => l.map dclC, rfl, fun a b => List.map_append, fun _ => rfl⟩
structure Ent where
  kind : Int
  decl : Int
  item : Int
  params : Int
  ty : Tm
def entC (e : Ent) : List C := [.v (.int .i64 e.kind), .v (.int .i64 e.decl), .v (.int .i64 e.item), .v (.int .i64 e.params), .v (.int .i64 e.ty.kind), .v (.int .i64 e.ty.index), .v (.string (XO e.ty.name)), .sl 2 (Enc.encL e.ty.levels), .sl 5 (Enc.encL e.ty.kids)]
instance : Enc Ent := ⟨9, entC, fun l => l.map entC, rfl, fun a b => List.map_append, fun _ => rfl⟩
def Xz : Tm := .mk 0 0 [] [] []
def ent0 : Ent := ⟨0, 0, 0, 0, Xz⟩
end
end Go.Proofs.Ytijcchddnnnmdaa
namespace Go.Proofs.Ytijcchddnnnmdaa
open Go.RowKit
set_option linter.unusedSimpArgs false
set_option linter.unusedVariables false
set_option linter.unusedSectionVars false
class MK (κ : Type) extends BEq κ where
  ib : Bool
  val : κ → Value
  key : ∀ a, ZP ib (val a) = true
  eq : ∀ a b, KD (val a) (val b) = some (a == b)
class MV (β : Type) where
  av : β → AV
  z : β
  ren : ∀ ρ x, (av x).ren ρ = av x
  below : ∀ m x, (av x).below m
instance : MK Int := { ib := true, val := fun n => .int .i64 n, key := fun _ => rfl, eq := fun _ _ => rfl }
theorem sB_eq (a b : List UInt8) : KD (.string (XO a)) (.string (XO b)) = some (a == b) := by
  show some (XO a == XO b) = some (a == b)
  congr 1
  show (a.toArray == b.toArray) = (a == b)
  rw [Bool.eq_iff_iff, beq_iff_eq, beq_iff_eq]
  exact ⟨fun h => by have := congrArg Array.toList h; simpa using this, fun h => by rw [h]⟩
instance : MK (List UInt8) := { ib := false, val := fun s => .string (XO s), key := fun _ => rfl, eq := sB_eq }
instance : MV Bool := ⟨fun b => .one (Wh b), false, fun _ _ => rfl, fun _ _ => trivial⟩
instance : MV Int := ⟨fun n => .one (Wg n), 0, fun _ _ => rfl, fun _ _ => trivial⟩
noncomputable instance : MV Ent := ⟨fun e => .agg (Wj e), ent0, fun _ _ => rfl, fun m x y hy => by
  obtain ⟨c, -, rfl⟩ := List.mem_map.1 hy
  trivial⟩
abbrev Qc (κ β : Type) := List (κ × β × Nat) × Nat
section
variable {κ β : Type} [MK κ] [MV β]
def QJ (l : List (κ × β × Nat)) : List (Value × AV × Nat) := l.map fun e => (MK.val e.1, MV.av e.2.1, e.2.2)
def JQ (k : κ) : List (κ × β × Nat) → Nat → Option (Nat × β)
  | [], _ => none
  | e :: l, i => cond (k == e.1) (some (i, e.2.1)) (JQ k l (i + 1))
def Z3 (M : Qc κ β) (k : κ) : Option β := (JQ k M.1 0).map (·.2)
def J7 (M : Qc κ β) (k : κ) : β := (Z3 M k).getD MV.z
def Jr (M : Qc κ β) (k : κ) : Bool := (Z3 M k).isSome
def JR (M : Qc κ β) (k : κ) (v : β) : Qc κ β := match JQ k M.1 0 with
  | some (j, _) => (M.1.modify j fun e => (k, v, e.2.2), M.2)
  | none => (M.1 ++ [(k, v, M.2)], M.2 + 1)
def gmNil : Qc κ β := ([], 0)
theorem mpBelow_gm {m : Nat} {l : List (κ × β × Nat)} : mpBelow m (QJ l) := fun e he => by
  obtain ⟨x, -, rfl⟩ := List.mem_map.1 he
  exact MV.below m x.2.1
theorem findE_gm (k : κ) : ∀ (l : List (κ × β × Nat)) (i : Nat), GK (MK.val k) (QJ l) i = some ((JQ k l i).map fun p => (p.1, MV.av p.2))
  | [], i => rfl
  | e :: l, i => by
    have ih := findE_gm k l (i + 1)
    simp only [QJ] at ih
    simp only [QJ, List.map_cons, GK, MK.eq, JQ]
    cases h : k == e.1 with
    | true => rfl
    | false => simp only [cond_false]; exact ih
theorem gmE_modify (l : List (κ × β × Nat)) (j : Nat) (k : κ) (v : β) : QJ (l.modify j fun e => (k, v, e.2.2)) = (QJ l).modify j fun e => (MK.val k, MV.av v, e.2.2) := by
  unfold QJ
  apply List.ext_getElem?
  intro i
  rw [List.getElem?_map, List.getElem?_modify, List.getElem?_modify, List.getElem?_map]
  cases l[i]? with
  | none => by_cases h : j = i <;> simp [h]
  | some e => by_cases h : j = i <;> simp [h]
theorem gmE_ren (ρ : Nat → Nat) (l : List (κ × β × Nat)) : (QJ l).map (fun e => (e.1, e.2.1.ren ρ, e.2.2)) = QJ l := by
  unfold QJ
  rw [List.map_map]
  refine List.map_congr_left fun e _ => ?_
  show (MK.val e.1, (MV.av e.2.1).ren ρ, e.2.2) = _
  rw [MV.ren]
section
variable {E : Env} {st : St} {dd : Option Tmp} {ty : TypeId} {pos : String} {af : Array Edge} {g : Option (Nat × Bool)}
theorem RO.subV {o : Oper} {x y : AV} (h : RO E o st (.v x)) (hs : ∀ V w v, x.rel V w v → y.rel V w v) : RO E o st (.v y) := ⟨h.1, fun V a w hr => let ⟨v, h1, h2⟩ := h.2 V a w hr; ⟨v, h1, hs V w v h2⟩⟩
theorem RO.subT {o : Oper} {x y z : AV} (h : RO E o st (.tup [x, z])) (hs : ∀ V w v, x.rel V w v → y.rel V w v) : RO E o st (.tup [y, z]) := ⟨h.1, fun V a w hr => by
  obtain ⟨v, h1, vs, h2, h3, h4⟩ := h.2 V a w hr
  refine ⟨v, h1, vs, h2, h3, fun i u hu => ?_⟩
  match i, hu with
  | 0, hu =>
    cases hu
    obtain ⟨q, h5, h6⟩ := h4 0 _ rfl
    exact ⟨q, h5, hs V w q h6⟩
  | 1, hu =>
    cases hu
    exact h4 1 _ rfl⟩
def ZOk (β : Type) [MV β] (z : AV) : Prop := ∀ V w v, z.rel V w v → (MV.av (MV.z : β)).rel V w v
theorem Jo {t : TypeId} {z : AV} {o1 o2 : Operand} {i : Nat} {M : Qc κ β} {k : κ} (ht : KB E.P t = some (MK.ib κ, z)) (hz : ZOk β z) (h1 : ev st.tm o1 = some (.v (.one (.mp i)))) (h2 : ev st.tm o2 = some (Ku (MK.val k))) (hi : W0 st.hp i = some (.mp (QJ M.1) M.2)) :
    RO E ⟨dd, .lookup t o1 o2 true, ty, pos, af, g⟩ st (.tup [MV.av (J7 M k), .one (.d (.v (.bool (Jr M k))))]) := by
  have hf := findE_gm k M.1 0
  unfold J7 Jr Z3
  cases h : JQ k M.1 0 with
  | none => rw [h] at hf; exact RO.subT (RO.lookup (E := E) (dd := dd) (ty := ty) (pos := pos) (af := af) (g := g) ht h1 h2 (MK.key k) hi hf true) hz
  | some p => rw [h] at hf; exact RO.lookup (E := E) (dd := dd) (ty := ty) (pos := pos) (af := af) (g := g) ht h1 h2 (MK.key k) hi hf true
theorem RO.lookupGF {t : TypeId} {z : AV} {o1 o2 : Operand} {i : Nat} {M : Qc κ β} {k : κ} (ht : KB E.P t = some (MK.ib κ, z)) (hz : ZOk β z) (h1 : ev st.tm o1 = some (.v (.one (.mp i)))) (h2 : ev st.tm o2 = some (Ku (MK.val k))) (hi : W0 st.hp i = some (.mp (QJ M.1) M.2)) :
    RO E ⟨dd, .lookup t o1 o2 false, ty, pos, af, g⟩ st (.v (MV.av (J7 M k))) := by
  have hf := findE_gm k M.1 0
  unfold J7 Z3
  cases h : JQ k M.1 0 with
  | none => rw [h] at hf; exact RO.subV (RO.lookup (E := E) (dd := dd) (ty := ty) (pos := pos) (af := af) (g := g) ht h1 h2 (MK.key k) hi hf false) hz
  | some p => rw [h] at hf; exact RO.lookup (E := E) (dd := dd) (ty := ty) (pos := pos) (af := af) (g := g) ht h1 h2 (MK.key k) hi hf false
theorem JI {t : TypeId} {z : AV} {o1 o2 o3 : Operand} {i : Nat} {M : Qc κ β} {k : κ} {v : β} (ht : KB E.P t = some (MK.ib κ, z)) (h1 : ev st.tm o1 = some (.v (.one (.mp i)))) (h2 : ev st.tm o2 = some (Ku (MK.val k))) (h3 : ev st.tm o3 = some (.v (MV.av v))) (hi : W0 st.hp i = some (.mp (QJ M.1) M.2)) (hdd : dd = none) :
    OpOK E ⟨dd, .mapUpdate t o1 o2 o3, ty, pos, af, g⟩ st (.tup []) ⟨(i, .mp (QJ (JR M k v).1) (JR M k v).2) :: Jv i st.hp, st.tk, st.nx⟩ := by
  have hf := findE_gm k M.1 0
  unfold JR
  cases h : JQ k M.1 0 with
  | none =>
    rw [h] at hf
    have e : QJ (M.1 ++ [(k, v, M.2)]) = QJ M.1 ++ [(MK.val k, MV.av v, M.2)] := by simp [QJ]
    dsimp only
    rw [e]; exact OpOK.mapUpdate (E := E) (dd := dd) (ty := ty) (pos := pos) (af := af) (g := g) ht h1 h2 h3 (MK.key k) hi hf hdd
  | some p =>
    rw [h] at hf
    dsimp only
    rw [gmE_modify]; exact OpOK.mapUpdate (E := E) (dd := dd) (ty := ty) (pos := pos) (af := af) (g := g) ht h1 h2 h3 (MK.key k) hi hf hdd
theorem JW (κ β : Type) [MK κ] [MV β] {t : TypeId} : OpOK E ⟨dd, .makeMap t none, ty, pos, af, g⟩ st (.v (.one (.mp st.nx))) ⟨(st.nx, .mp (QJ (gmNil : Qc κ β).1) (gmNil : Qc κ β).2) :: st.hp, st.tk, st.nx + 1⟩ := OpOK.makeMap
end
theorem Wn {m i c : Nat} {xs : List (κ × β × Nat)} {r : List (Nat × HB)} (h : Nat.blt i m = true) (l : hpBelow m r) : hpBelow m ((i, .mp (QJ xs) c) :: r) := ⟨ZW h, mpBelow_gm, l⟩
theorem XU {ρ : Nat → Nat} {i j c : Nat} {xs : List (κ × β × Nat)} {r r' : List (Nat × HB)} (h1 : ρ i = j) (h : Y4 ρ r = r') : Y4 ρ ((i, .mp (QJ xs) c) :: r) = (j, .mp (QJ xs) c) :: r' :=
  XW h1 (by show HB.mp ((QJ xs).map _) c = _; rw [gmE_ren]) h
theorem Wc {ρ : Nat → Nat} {hp : List (Nat × HB)} {i c : Nat} {xs : List (κ × β × Nat)} {r : List (Nat × HB)} (h : W0 hp (ρ i) = some (.mp (QJ xs) c)) (l : hpLe hp (Y4 ρ r)) : hpLe hp (Y4 ρ ((i, .mp (QJ xs) c) :: r)) :=
  Wb (by show _ = some (HB.mp ((QJ xs).map _) c); rw [gmE_ren]; exact h) l
end
theorem zok_bool : ZOk Bool (.one (.d (.v (.bool false)))) := fun _ _ _ h => h
theorem Yb : ZOk Int (.one (.d (.v (.int .i64 0)))) := fun _ _ _ h => h
inductive Parts (st : St) : List (Nat × Operand) → List (Nat × AV) → Prop
  | nil : Parts st [] []
  | cons {i : Nat} {o : Operand} {x : AV} {ps : List (Nat × Operand)} {xs : List (Nat × AV)} (h : ev st.tm o = some (.v x)) (t : Parts st ps xs) : Parts st ((i, o) :: ps) ((i, x) :: xs)
theorem Parts.spec {st : St} {ps : List (Nat × Operand)} {xs : List (Nat × AV)} (h : Parts st ps xs) : ps.length = xs.length ∧ ∀ (j i : Nat) (x : AV), xs[j]? = some (i, x) → ∃ o, ps[j]? = some (i, o) ∧ ev st.tm o = some (.v x) := by
  induction h with
  | nil => exact ⟨rfl, fun j i x hx => by simp at hx⟩
  | cons h t ih =>
    refine ⟨by simp [ih.1], fun j i x hx => ?_⟩
    cases j with
    | zero => simp at hx; obtain ⟨rfl, rfl⟩ := hx; exact ⟨_, rfl, h⟩
    | succ j => exact ih.2 j i x (by simpa using hx)
section
variable {E : Env} {st : St} {dd : Option Tmp} {ty : TypeId} {pos : String} {af : Array Edge} {g : Option (Nat × Bool)}
theorem RO.buildN {t : TypeId} {pl : List (Nat × Nat)} {zs : List Value} {parts : Array (Nat × Operand)} {avs : List (Nat × AV)} {ys : List CA} (ht : Yh E.P t pl zs) (hz : zs.all (·.oneCell') = true) (hp : Parts st parts.toList avs) (hf : Yy pl (zs.map fun z => .d (.v z)) avs = some ys) :
    RO E ⟨dd, .build t parts, ty, pos, af, g⟩ st (.v (.agg ys)) := Kv ht hz hp.spec.1 hp.spec.2 hf
end
end Go.Proofs.Ytijcchddnnnmdaa
namespace Go.Proofs.Ytijcchddnnnmdaa
open Go.RowKit
set_option linter.unusedSimpArgs false
set_option linter.unusedVariables false
set_option linter.unusedSectionVars false
instance : EncLen Tm := ⟨fun t => by cases t; rfl, Nat.succ_pos 4⟩
instance : EncLen Wz := ⟨fun t => by cases t; rfl, Nat.succ_pos 9⟩
instance : EncLen Tr := ⟨fun t => rfl, Nat.succ_pos 7⟩
instance : EncLen Ctr := ⟨fun t => rfl, Nat.succ_pos 5⟩
instance : EncLen Rcr := ⟨fun t => rfl, Nat.succ_pos 6⟩
instance : EncLen Fn := ⟨fun t => rfl, Nat.succ_pos 14⟩
instance : EncLen Dcl := ⟨fun t => rfl, Nat.succ_pos 22⟩
instance : EncLen Ent := ⟨fun t => rfl, Nat.succ_pos 8⟩
instance : EncLen (List UInt8) := ⟨fun _ => rfl, Nat.succ_pos 0⟩
instance : EncLen Bool := ⟨fun _ => rfl, Nat.succ_pos 0⟩
instance {α : Type} [Enc α] : EncLen (List α) := ⟨fun _ => rfl, Nat.succ_pos 0⟩
section
variable {E : Env} {st : St} {dd : Option Tmp} {ty : TypeId} {pos : String} {af : Array Edge} {g : Option (Nat × Bool)} {α : Type} [Enc α] [EncLen α]
theorem Jj {t i : Nat} {T : TypeId} {x : Operand} (v : α) (ht : Jn E.P t = some (true, Enc.sz α)) (hx : ev st.tm x = some (.v (.one (.ptr i 0)))) (hi : W0 st.hp i = some (.cells T (Wj v))) : RO E ⟨dd, .load t x, ty, pos, af, g⟩ st (.v (.agg (Wj v))) := by
  have hl : (Wj v).length = Enc.sz α := by rw [List.length_map, EncLen.len]
  exact Qz ht hx hi (by rw [List.drop_zero, List.take_of_length_le (Nat.le_of_eq hl)]) hl
theorem J4 {t : Nat} {x : Operand} (v : α) (ht : Jn E.P t = some (true, Enc.sz α)) (hx : ev st.tm x = some (.v (.one (.pel (Enc.enc v) 0)))) : RO E ⟨dd, .load t x, ty, pos, af, g⟩ st (.v (.agg (Wj v))) :=
  Jm ht hx (by rw [List.drop_zero, List.take_of_length_le (Nat.le_of_eq (EncLen.len v))]) (EncLen.len v)
theorem Jb {t i : Nat} {ag : Bool} {T : TypeId} {xs : List CA} {o1 o2 : Operand} (v : α) (ht : Jn E.P t = some (ag, Enc.sz α)) (h1 : ev st.tm o1 = some (.v (.one (.ptr i 0)))) (h2 : ev st.tm o2 = some (.v (.agg (Wj v)))) (hi : W0 st.hp i = some (.cells T xs)) (hl : xs.length = Enc.sz α) (hdd : dd = none) :
    OpOK E ⟨dd, .store t o1 o2, ty, pos, af, g⟩ st (.tup []) ⟨(i, .cells T (Wj v)) :: Jv i st.hp, st.tk, st.nx⟩ := by
  have hc : (AV.agg (Wj v)).cells.length = Enc.sz α := by show (Wj v).length = _; rw [List.length_map, EncLen.len]
  have := Qi (dd := dd) (ty := ty) (pos := pos) (af := af) (g := g) ht h1 h2 hi hc (by omega) hdd
  have e1 : setL xs 0 (AV.agg (Wj v)).cells = Wj v := by
    have := setL_all (AV.agg (Wj v)).cells xs [] (by rw [hc, hl])
    rw [List.append_nil, List.append_nil] at this
    exact this
  rw [e1] at this
  exact this
theorem csubs_all : ∀ cs : List C, CSubs (cs.map CA.d) cs
  | [] => .nil
  | c :: cs => .cons (.d _) (csubs_all cs)
theorem fill1 {zs : List Value} (v : α) (hzl : zs.length = Enc.sz α) : Yy (JB (Enc.sz α) 1) (Je zs 1) [(0, .agg (Wj v))] = some (Wj v) := by
  have h0 : (Je zs 1).length = Enc.sz α := by simp [Je, hzl]
  have h1 : (Wj v).length = Enc.sz α := by rw [List.length_map, EncLen.len]
  have h2 : (JB (Enc.sz α) 1)[0]? = some (0, Enc.sz α) := by simp [JB]
  have h3 : setL (Je zs 1) 0 (Wj v) = Wj v := by
    have := setL_all (Wj v) (Je zs 1) [] (by rw [h0, h1])
    rwa [List.append_nil, List.append_nil] at this
  simp only [Yy, h2]
  show cond (Nat.beq (Wj v).length (Enc.sz α) && Nat.ble (0 + Enc.sz α) (Je zs 1).length) (some (setL (Je zs 1) 0 (Wj v))) none = some (Wj v)
  rw [h1, h0, h3, Nat.zero_add, Nat.beq_refl, Nat.ble_eq_true_of_le (Nat.le_refl _)]
  rfl
theorem OpOK.lit1CE (v : α) {t e : Nat} {zs : List Value} {o1 : Operand} (ht : QT E.P t = some (e, Enc.sz α)) (hze : Jg E.P e = some zs) (hzl : zs.length = Enc.sz α) (hz : zs.all (·.oneCell') = true) (hlen : 1 * Enc.sz α ≤ 16777216)
    (h1 : ev st.tm o1 = some (.v (.agg (Wj v)))) :
    OpOK E ⟨dd, .buildSlice t 1 #[(0, o1)], ty, pos, af, g⟩ st (.v (.one (.app st.nx (Enc.sz α) (Enc.encL [v])))) ⟨st.hp, (st.nx, some ⟨e, Enc.sz α, (Enc.encL [v]).length, []⟩) :: st.tk, st.nx + 1⟩ :=
  QY v ht hze hzl hz EncLen.pos hlen h1 (fill1 v hzl) (csubs_all _) (EncLen.len v)
end
end Go.Proofs.Ytijcchddnnnmdaa
namespace Go.Proofs.Ytijcchddnnnmdaa
open Go.RowKit
set_option linter.unusedSimpArgs false
set_option linter.unusedVariables false
set_option linter.unusedSectionVars false
def GM (ops : Array Oper) (effs d : List Nat) (i : Nat) : Bool :=
  d.all (fun e => !((X4 ops [e]).contains i)) && effs.all (fun e => d.contains e || (e == i || !((X4 ops [i]).contains e))) && !(d.contains i)
def KW (d' d : List Nat) (i : Nat) : Bool := d'.all (fun e => e == i || d.contains e) && d.all (fun e => d'.contains e) && d'.contains i
def Xu (ops : Array Oper) (effs : List Nat) : Bool :=
  (List.range ops.size).all (fun i => (Jt ops i).all fun k => decide (k < i)) && decide (KR ops).Nodup && effs.all (fun e => decide (e < ops.size))
structure SwInv (E : Env) (ops : Array Oper) (st : St) (fx : List (Nat × TV)) (effs : List Nat) (dns : List (List Nat)) (ms : List Mem) (listed : Array Bool) (a : Act) (w : World) (V : Vu) (j : Nat) (d : List Nat) (m : Mem) : Prop where
  size : listed.size = ops.size
  closed : ∀ i, listed.getD i false = true → ∀ k ∈ Jt ops i, listed.getD k false = true
  stage : dns[j]? = some d
  done : ∀ e ∈ d, listed.getD e false = true
  todo : ∀ e ∈ effs, e ∉ d → listed.getD e false = false
  mem : ms[j]? = some m
  rel : Rel E V ⟨KS (KR ops) st.tm, m.hp, m.tk, m.nx, st.nt, st.df⟩ a w
  fact : ∀ i, listed.getD i false = true → ∀ d x, Yf ops i = some d → W0 fx i = some x → x.rel V w (a.tmps.getD d undef)
  old : ∀ t x, W0 st.tm t = some x → (∀ k, Yf ops k = some t → listed.getD k false = false) → x.rel V w (a.tmps.getD t undef)
section
variable {E : Env} {ops : Array Oper} {st : St} {fx : List (Nat × TV)} {effs : List Nat} {dns : List (List Nat)} {ms : List Mem} {listed : Array Bool} {a : Act} {w : World} {V : Vu} {j : Nat} {d : List Nat} {m : Mem}
theorem SwInv.depsRel (h : SwInv E ops st fx effs dns ms listed a w V j d m) {i : Nat} (hno : listed.getD i false = false) (hd : ∀ k ∈ Jt ops i, listed.getD k false = true) : Rel E V (JS ops st fx i m) a w := by
  refine ⟨h.rel.h, h.rel.nx, h.rel.nt, h.rel.df, fun t x hx => ?_⟩
  simp only [JS, YD] at hx
  split at hx
  · rename_i y hy; cases hx
    obtain ⟨k, h1, h2, h3⟩ := Zr _ t x hy
    exact h.fact k (hd k h1) t x h2 h3
  · obtain ⟨h1, h2⟩ := lk_keep _ _ _ hx
    refine h.old t x h1 (fun k hk => ?_)
    cases hc : listed.getD k false with
    | false => rfl
    | true =>
      have hk' : k < ops.size := by
        rcases Nat.lt_or_ge k ops.size with h3 | h3
        · exact h3
        · simp [Yf, Array.getElem?_eq_none h3] at hk
      have := h.closed k hc i (hides_no h2 hk hk')
      rw [hno] at this; cases this
theorem SwInv.may (h : SwInv E ops st fx effs dns ms listed a w V j d m) {i : Nat} (hlt : i < ops.size) (hno : listed.getD i false = false) (hd : ∀ k ∈ Jt ops i, listed.getD k false = true) : GM ops effs d i = true := by
  have key : ∀ e, e ≠ i → e ∈ X4 ops [i] → listed.getD e false = true := fun e he hm => by
    have := ancs_all (p := fun x => x = i ∨ listed.getD x false = true) (fun x hx k hk => by
      rcases hx with rfl | hx
      · exact .inr (hd k hk)
      · exact .inr (h.closed x hx k hk)) (l := [i]) (fun x hx => .inl (by simpa using hx)) e hm
    exact this.resolve_left he
  simp only [GM, Bool.and_eq_true, Bool.or_eq_true, Bool.not_eq_true', List.contains_eq_mem, decide_eq_true_eq, decide_eq_false_iff_not, List.all_eq_true, beq_iff_eq]
  refine ⟨⟨fun e he hc => ?_, fun e he => ?_⟩, fun hc => ?_⟩
  · have := ancs_all h.closed (l := [e]) (fun i' hi' => by simp at hi'; subst hi'; exact h.done _ he) i hc
    rw [hno] at this; cases this
  · by_cases hed : e ∈ d
    · exact .inl hed
    · refine .inr ?_
      by_cases hei : e = i
      · exact .inl hei
      · refine .inr fun hc => ?_
        have h1 := key e hei hc
        have h2 := h.todo e he hed
        rw [h2] at h1; cases h1
  · have := h.done i hc
    rw [hno] at this; cases this
def SwOp (E : Env) (ops : Array Oper) (st : St) (fx : List (Nat × TV)) (effs : List Nat) (dns : List (List Nat)) (ms : List Mem) (i : Nat) (d : List Nat) (m : Mem) : Prop :=
  ∃ o x, ops[i]? = some o ∧ W0 fx i = some x ∧ Kp st o.dst = true ∧
    ((JO ops (JS ops st fx i m).tm o = some true ∧ ∃ m', OpOK E o (JS ops st fx i m) x m' ∧ ((effs.contains i = true ∧ ∃ (j' : Nat) (d' : List Nat), dns[j']? = some d' ∧ KW d' d i = true ∧ ms[j']? = some m') ∨ (effs.contains i = false ∧ m' = m))) ∨
     (JO ops (JS ops st fx i m).tm o = some false ∧ x = .tup [] ∧ effs.contains i = false))
theorem SwInv.step (h : SwInv E ops st fx effs dns ms listed a w V j d m) (hB : Xu ops effs = true) {i : Nat} (hlt : i < ops.size) (hno : listed.getD i false = false) {V' : Vu} {w' : World} {v : Value} {o : Oper} {x : TV} (ho : ops[i]? = some o) (hx : W0 fx i = some x) (hd : Kp st o.dst = true) {m' : Mem} {j' : Nat} {d' : List Nat}
    (hj : (effs.contains i = true ∧ KW d' d i = true) ∨ (effs.contains i = false ∧ d' = d)) (hs : dns[j']? = some d') (hm : ms[j']? = some m') (H : HRel E V' m'.hp m'.tk w') (hn : V'.nx = m'.nx) (L : V.Le V' w w') (hxv : x.rel V' w' v) (hdeps : ∀ k ∈ Jt ops i, listed.getD k false = true) :
    SwInv E ops st fx effs dns ms (listed.setIfInBounds i true) (a.put o.dst v) w' V' j' d' m' := by
  have hsz : i < listed.size := by rw [h.size]; exact hlt
  have hget : ∀ k, (listed.setIfInBounds i true).getD k false = if k = i then true else listed.getD k false := fun k => by
    by_cases hk : k = i
    · subst hk; simp [hsz]
    · rw [if_neg hk, getD_set_ne false (fun e => hk e.symm)]
  have hB' := hB
  simp only [Xu, Bool.and_eq_true, decide_eq_true_eq] at hB'
  obtain ⟨⟨-, hnd⟩, -⟩ := hB'
  refine ⟨by simp [h.size], fun k hk e he => ?_, hs, fun e he => ?_, fun e he hed => ?_, hm, ?_, fun k hk d y hd' hy => ?_, fun t y hy hun => ?_⟩
  · rw [hget] at hk ⊢
    split
    · rfl
    · by_cases hki : k = i
      · subst hki; exact hdeps e he
      · rw [if_neg hki] at hk; exact h.closed k hk e he
  · rw [hget]
    split
    · rfl
    · rename_i hei
      rcases hj with ⟨-, hj⟩ | ⟨-, hj⟩
      · simp only [KW, Bool.and_eq_true, List.all_eq_true, Bool.or_eq_true, beq_iff_eq, List.contains_eq_mem, decide_eq_true_eq] at hj
        exact h.done e ((hj.1.1 e he).resolve_left hei)
      · rw [hj] at he; exact h.done e he
  · rw [hget]
    have hmem : e ∉ d ∧ e ≠ i := by
      rcases hj with ⟨-, hj⟩ | ⟨hc, hj⟩
      · simp only [KW, Bool.and_eq_true, List.all_eq_true, Bool.or_eq_true, beq_iff_eq, List.contains_eq_mem, decide_eq_true_eq] at hj
        exact ⟨fun e1 => hed (hj.1.2 e e1), fun e1 => by subst e1; exact hed hj.2⟩
      · rw [hj] at hed
        refine ⟨hed, fun e1 => ?_⟩
        subst e1
        rw [List.contains_eq_mem, decide_eq_false_iff_not] at hc
        exact hc he
    rw [if_neg hmem.2]; exact h.todo e he hmem.1
  · have hr := h.rel.mem (m := m') H hn L
    cases hdst : o.dst with
    | none => exact hr
    | some d =>
      have hlt' : d < st.nt := by rw [hdst] at hd; exact Nat.le_of_ble_eq_true hd
      refine ⟨hr.h, hr.nx, by simp [Act.put, h.rel.nt], hr.df, fun t y hy => ?_⟩
      have h1 := hr.tm t y hy
      have h2 := (K9 _ _ _ hy).2
      simp only [Act.put]
      rw [Yo (by rw [h.rel.nt]; exact hlt'), if_neg]
      · exact h1
      · intro e
        subst e
        exact h2 (by
          simp only [KR, List.mem_filterMap, List.mem_range]
          exact ⟨i, hlt, by simp [Yf, ho, hdst]⟩)
  · by_cases hki : k = i
    · subst hki
      rw [hx] at hy; cases hy
      have hdo : o.dst = some d := by simpa [Yf, ho] using hd'
      have hlt' : d < a.tmps.size := by rw [hdo] at hd; rw [h.rel.nt]; exact Nat.le_of_ble_eq_true hd
      rw [hdo]
      simp only [Act.put]
      rw [Yo hlt', if_pos rfl]
      exact hxv
    · rw [hget, if_neg hki] at hk
      have h1 := (h.fact k hk d y hd' hy).mono L
      cases hdst : o.dst with
      | none => exact h1
      | some d0 =>
        have hlt' : d0 < a.tmps.size := by rw [hdst] at hd; rw [h.rel.nt]; exact Nat.le_of_ble_eq_true hd
        simp only [Act.put]
        rw [Yo hlt', if_neg]
        · exact h1
        · intro e
          subst e
          have hk' : k < ops.size := by
            rcases Nat.lt_or_ge k ops.size with h3 | h3
            · exact h3
            · simp [Yf, Array.getElem?_eq_none h3] at hd'
          have hi' : Yf ops i = some d0 := by simp [Yf, ho, hdst]
          have hp : ∀ (l : List Nat), l.Nodup → (l.filterMap (Yf ops)).Nodup → i ∈ l → k ∈ l → i = k := by
            intro l
            induction l with
            | nil => intro _ _ h; cases h
            | cons p l ih =>
              intro hl hf hi hk
              rw [List.nodup_cons] at hl
              rw [List.filterMap_cons] at hf
              rcases List.mem_cons.1 hi with rfl | hi2
              · rcases List.mem_cons.1 hk with rfl | hk2
                · rfl
                · rw [hi'] at hf
                  simp only [List.nodup_cons] at hf
                  exact absurd (List.mem_filterMap (l := l).2 ⟨k, hk2, hd'⟩) hf.1
              · rcases List.mem_cons.1 hk with rfl | hk2
                · rw [hd'] at hf
                  simp only [List.nodup_cons] at hf
                  exact absurd (List.mem_filterMap (l := l).2 ⟨i, hi2, hi'⟩) hf.1
                · refine ih hl.2 ?_ hi2 hk2
                  split at hf
                  · exact hf
                  · exact (List.nodup_cons.1 hf).2
          exact hki (hp (List.range ops.size) List.nodup_range hnd (by simpa using hlt) (by simpa using hk')).symm
  · have h1 := (h.old t y hy (fun k hk => by
      have := hun k hk
      rw [hget] at this
      split at this
      · cases this
      · exact this)).mono L
    cases hdst : o.dst with
    | none => exact h1
    | some d0 =>
      have hlt' : d0 < a.tmps.size := by rw [hdst] at hd; rw [h.rel.nt]; exact Nat.le_of_ble_eq_true hd
      simp only [Act.put]
      rw [Yo hlt', if_neg]
      · exact h1
      · intro e
        subst e
        have := hun i (by simp [Yf, ho, hdst])
        rw [hget, if_pos rfl] at this; cases this
theorem XC.swOrder {ro : Option Nat} {n : Nat} {Q : Exit → Act → World → Prop} {id : Nat} {ops : Array Oper} {st : St} (fx : List (Nat × TV)) (effs : List Nat) (dns : List (List Nat)) (ms : List Mem) (jE : Nat) {mE : Mem} (hm : E.P.follows .mixedOrders = true) (hB : Xu ops effs = true) (h0 : ms[0]? = some st.mem) (hd0 : dns[0]? = some []) (hE : ms[jE]? = some mE)
    (hfin : ∀ (j : Nat) (d : List Nat), dns[j]? = some d → (∀ e ∈ effs, e ∈ d) → j = jE)
    (hops : ∀ (i j : Nat) (d : List Nat) (m : Mem), i < ops.size → dns[j]? = some d → ms[j]? = some m → GM ops effs d i = true → SwOp E ops st fx effs dns ms i d m)
    (k : XQ E Q .normal (G6 ops st fx mE)) : XC E ro n Q (.region id ops true) st := by
  intro V a w hr
  refine wpIn_region_any hm ?_
  have hr' := hr.drew
  have hB' := hB
  simp only [Xu, Bool.and_eq_true, decide_eq_true_eq] at hB'
  obtain ⟨⟨hdag, -⟩, heff⟩ := hB'
  have hrdy : ∀ listed : Array Bool, listed.size = ops.size → Region.ready .any ops listed = [] → ∀ i, i < ops.size → listed.getD i false = true := by
    intro listed hsz hrd i
    induction i using Nat.strongRecOn with
    | ind i ih =>
      intro hi
      cases hc : listed.getD i false with
      | true => rfl
      | false =>
        exfalso
        have hnm : i ∉ Region.ready .any ops listed := by rw [hrd]; exact List.not_mem_nil
        refine hnm (mem_ready.2 ?_)
        obtain ⟨o, ho⟩ : ∃ o, ops[i]? = some o := ⟨_, Array.getElem?_eq_getElem hi⟩
        refine ⟨getD_in (by rw [hsz]; exact hi) hc, o, ho, fun e he hb => ?_⟩
        have hem : e.on ∈ Jt ops i := (Zg ho).2 ⟨e, he, hb, rfl⟩
        have hlt := List.all_eq_true.1 (List.all_eq_true.1 hdag i (by simpa using hi)) _ hem
        have hlt' : e.on < i := by simpa using hlt
        exact ih e.on hlt' (by omega)
  have fin : ∀ (listed : Array Bool) (a : Act) (w : World) (V : Vu) (j : Nat) (d : List Nat) (m : Mem), SwInv E ops st fx effs dns ms listed a w V j d m → (∀ i, i < ops.size → listed.getD i false = true) → Q .normal a w := by
    intro listed a w V j d m hI hall
    have hjk : j = jE := hfin j d hI.stage fun e he => by
      by_cases hed : e ∈ d
      · exact hed
      · exfalso
        have h2 := hI.todo e he hed
        have h3 := hall e (by simpa using List.all_eq_true.1 heff e he)
        rw [h2] at h3; cases h3
    subst hjk
    have e1 : m = mE := Option.some.inj (hI.mem.symm.trans hE)
    subst e1
    refine k V a w ⟨hI.rel.h, hI.rel.nx, hI.rel.nt, hI.rel.df, fun t x hx => ?_⟩
    simp only [G6, YD] at hx
    split at hx
    · rename_i y hy; cases hx
      obtain ⟨i, h1, h2, h3⟩ := Zr _ t x hy
      exact hI.fact i (hall i (by simpa using h1)) t x h2 h3
    · exact hI.rel.tm t x hx
  have main : ∀ (fuel : Nat) (listed : Array Bool) (a : Act) (w : World) (V : Vu) (j : Nat) (d : List Nat) (m : Mem), SwInv E ops st fx effs dns ms listed a w V j d m →
      (∀ c, ops.size ≤ fuel + c → c ≤ ((List.range ops.size).filter fun i => listed.getD i false).length → True) →
      ops.size ≤ fuel + ((List.range ops.size).filter fun i => listed.getD i false).length → wpAnyIn (Ww ro) n E.P .any ops Q fuel listed a w := by
    intro fuel
    induction fuel with
    | zero =>
      intro listed a w V j d m hI _ hc
      have hall : ∀ i, i < ops.size → listed.getD i false = true := by
        intro i hi
        have h1 : ((List.range ops.size).filter fun i => listed.getD i false).length = (List.range ops.size).length := by
          have := List.length_filter_le (fun i => listed.getD i false) (List.range ops.size)
          simp only [List.length_range] at this ⊢; omega
        exact List.length_filter_eq_length_iff.1 h1 i (by simpa using hi)
      refine ⟨?_, fin listed a w V j d m hI hall⟩
      unfold Region.ready
      rw [List.filter_eq_nil_iff]
      intro i hi
      have hi' : i < ops.size := by simpa using hi
      have : listed.getD i true = true := by
        have h1 := hall i hi'
        have : i < listed.size := by rw [hI.size]; exact hi'
        simp [this] at h1 ⊢; exact h1
      rw [this]; simp
    | succ fuel ih =>
      intro listed a w V j d m hI _ hc
      refine ⟨fun hrd => fin listed a w V j d m hI (hrdy listed hI.size hrd), fun i hi => ?_⟩
      obtain ⟨hun, o, ho, hdeps⟩ := mem_ready.1 hi
      have hlt : i < ops.size := (Array.getElem?_eq_some_iff.1 ho).1
      have hno : listed.getD i false = false := by
        have : i < listed.size := by rw [hI.size]; exact hlt
        simp [this] at hun ⊢; exact hun
      have hd : ∀ k ∈ Jt ops i, listed.getD k false = true := fun k hk => by
        obtain ⟨e, he, hb, rfl⟩ := (Zg ho).1 hk
        exact hdeps e he hb
      have hmay := hI.may hlt hno hd
      obtain ⟨o', x, ho', hx, hdst, hcase⟩ := hops i j d m hlt hI.stage hI.mem hmay
      rw [ho] at ho'; cases ho'
      have hrel := hI.depsRel hno hd
      have hcnt : ops.size ≤ fuel + ((List.range ops.size).filter fun i' => (listed.setIfInBounds i true).getD i' false).length := by
        have h1 : ((List.range ops.size).filter fun i => listed.getD i false).length < ((List.range ops.size).filter fun i' => (listed.setIfInBounds i true).getD i' false).length := by
          have key : ∀ (l : List Nat), l.Nodup → i ∈ l → (l.filter fun i => listed.getD i false).length < (l.filter fun i' => (listed.setIfInBounds i true).getD i' false).length := by
            have hget : ∀ k, (listed.setIfInBounds i true).getD k false = if k = i then true else listed.getD k false := fun k => by
              by_cases hk : k = i
              · subst hk
                have : k < listed.size := by rw [hI.size]; exact hlt
                simp [this]
              · rw [if_neg hk, getD_set_ne false (fun e => hk e.symm)]
            have hle : ∀ (l : List Nat), (l.filter fun i => listed.getD i false).length ≤ (l.filter fun i' => (listed.setIfInBounds i true).getD i' false).length := by
              intro l
              induction l with
              | nil => exact Nat.le_refl _
              | cons p l ih =>
                rw [List.filter_cons, List.filter_cons, hget]
                by_cases hp : p = i
                · subst hp; rw [hno]; simp only [if_true]; rw [List.length_cons]; simp only [Bool.false_eq_true, if_false]; omega
                · rw [if_neg hp]; split <;> (try rw [List.length_cons, List.length_cons]) <;> omega
            intro l
            induction l with
            | nil => intro _ h; cases h
            | cons p l ih =>
              intro hnd' hi'
              rw [List.nodup_cons] at hnd'
              rw [List.filter_cons, List.filter_cons, hget]
              rcases List.mem_cons.1 hi' with rfl | hi'
              · rw [hno]; simp only [if_true, Bool.false_eq_true, if_false]; rw [List.length_cons]; have := hle l; omega
              · have := ih hnd'.2 hi'
                have hp : p ≠ i := fun e => hnd'.1 (by rw [e]; exact hi')
                rw [if_neg hp]; split <;> (try rw [List.length_cons, List.length_cons]) <;> omega
          exact key _ List.nodup_range (by simpa using hlt)
        omega
      unfold wpOpIn
      simp only [ho]
      rcases hcase with ⟨hw, m', hok, hm'⟩ | ⟨hw, rfl, hc'⟩
      · rw [if_pos (JY hrel hw)]
        refine hok V a w hrel ro n _ Q (fun V' w' v H hn L hxv => ?_)
        rcases hm' with ⟨hce, j', d', hs1, hs2, hm'⟩ | ⟨hce, hm'⟩
        · exact ih _ _ _ V' j' d' m' (hI.step hB hlt hno ho hx hdst (.inl ⟨hce, hs2⟩) hs1 hm' H hn L hxv hd) (fun _ _ _ => trivial) hcnt
        · subst hm'
          exact ih _ _ _ V' j d m' (hI.step hB hlt hno ho hx hdst (.inr ⟨hce, rfl⟩) hI.stage hI.mem H hn L hxv hd) (fun _ _ _ => trivial) hcnt
      · rw [if_neg (by rw [JY hrel hw]; exact Bool.false_ne_true)]
        exact ⟨fun _ _ => trivial, ih _ _ _ V j d m (hI.step hB hlt hno ho hx hdst (.inr ⟨hc', rfl⟩) hI.stage hI.mem hI.rel.h hI.rel.nx (Vu.Le.refl _ _) Z9 hd) (fun _ _ _ => trivial) hcnt⟩
  refine main ops.size _ a _ V 0 [] st.mem ⟨by simp, fun i hi => ?_, hd0, fun e he => by simp at he, fun e _ _ => getD_replicate_false _ _, h0, ⟨hr'.h, hr'.nx, hr'.nt, hr'.df, fun t y hy => hr'.tm t y (K9 _ _ _ hy).1⟩, fun i hi => ?_, fun t y hy _ => hr'.tm t y hy⟩ (fun _ _ _ => trivial) (by omega)
  · rw [getD_replicate_false] at hi; cases hi
  · rw [getD_replicate_false] at hi; cases hi
end
section
variable {E : Env} {ops : Array Oper} {st : St} {effs : List Nat} {dns : List (List Nat)}
def AllSw (E : Env) (ops : Array Oper) (st : St) (effs : List Nat) (dns : List (List Nat)) (fx : List (Nat × TV)) (ms : List Mem) : List (Nat × Nat) → Prop
  | [] => True
  | (i, j) :: r => (∃ d m, dns[j]? = some d ∧ ms[j]? = some m ∧ SwOp E ops st fx effs dns ms i d m) ∧ AllSw E ops st effs dns fx ms r
theorem AllSw.get {fx : List (Nat × TV)} {ms : List Mem} : ∀ {l : List (Nat × Nat)} {i j : Nat}, AllSw E ops st effs dns fx ms l → l.contains (i, j) = true → ∃ d m, dns[j]? = some d ∧ ms[j]? = some m ∧ SwOp E ops st fx effs dns ms i d m
  | [], i, j, _, h => by cases h
  | (a, b) :: r, i, j, ha, h => by
    simp only [List.contains_cons, Bool.or_eq_true, beq_iff_eq] at h
    rcases h with h | h
    · cases h; exact ha.1
    · exact AllSw.get ha.2 h
def exS (ops : Array Oper) (effs : List Nat) (dns : List (List Nat)) (ex : List (Nat × Nat)) : Bool :=
  (List.range ops.size).all fun i => (List.range dns.length).all fun j => !(GM ops effs (dns.getD j []) i) || j == ZQ effs i || ex.contains (i, j)
def homeS (ops : Array Oper) (effs : List Nat) (dns : List (List Nat)) : Bool :=
  (List.range ops.size).all fun i => !(effs.contains i) || match dns[ZQ effs i]?, dns[ZQ effs i + 1]? with
    | some d, some d' => KW d' d i
    | _, _ => false
def finS (effs : List Nat) (dns : List (List Nat)) : Bool := (List.range dns.length).all fun j => !(effs.all fun e => (dns.getD j []).contains e) || j == effs.length
theorem XC.swRun {ro : Option Nat} {n id : Nat} {Q : Exit → Act → World → Prop} (effs : List Nat) (dns : List (List Nat)) (ex : List (Nat × Nat)) (hm : E.P.follows .mixedOrders = true) (hB : Xu ops effs = true) (hex : exS ops effs dns ex = true) (hho : homeS ops effs dns = true) (hfi : finS effs dns = true) (hd0 : dns[0]? = some []) (hlen : ((List.range' 0 ops.size).filter effs.contains).length = effs.length)
    (h : RunA E ops st effs (fun fx ms => ∃ xm : List Mem, AllSw E ops st effs dns fx (ms.reverse ++ xm) ex ∧ ∃ mE r, ms = mE :: r ∧ XQ E Q .normal (G6 ops st fx mE)) (List.range' 0 ops.size) [] [st.mem]) : XC E ro n Q (.region id ops true) st := by
  have hB' := hB
  simp only [Xu, Bool.and_eq_true] at hB'
  obtain ⟨⟨hdag, -⟩, -⟩ := hB'
  have hdag' : ∀ i, i < ops.size → ∀ k ∈ Jt ops i, k < i := fun i hi k hk => by
    have := List.all_eq_true.1 (List.all_eq_true.1 hdag i (by simpa using hi)) k hk
    simpa using this
  obtain ⟨fx', ms', ⟨xm, hall, mE, r, hmE, hQ⟩, -, hms, hrun⟩ := run_home hdag' _ 0 [] st.mem [] h (fun p hp => by cases hp) (by rw [Nat.sub_zero]) (Nat.zero_le _)
  rw [List.append_nil] at hall hQ
  rw [hlen] at hms
  have hl : ((ms' ++ [st.mem]).reverse).length = effs.length + 1 := by simp [hms]
  have hin : ∀ {q : Nat} {m : Mem}, (ms' ++ [st.mem]).reverse[q]? = some m → ((ms' ++ [st.mem]).reverse ++ xm)[q]? = some m := fun {q m} hq => by
    rw [List.getElem?_append_left (List.getElem?_eq_some_iff.1 hq).1]; exact hq
  refine XC.swOrder fx' effs dns ((ms' ++ [st.mem]).reverse ++ xm) effs.length (mE := mE) hm hB (hin (by simp)) hd0 ?_ (fun j d hj hall => ?_) (fun i j d m hi hj hmj hmay => ?_) hQ
  · refine hin ?_
    rw [hmE]
    have : r.length = effs.length := by have := congrArg List.length hmE; simp at this; omega
    rw [List.reverse_cons, List.getElem?_append_right (by simp; omega)]; simp [this]
  · have hlt := (List.getElem?_eq_some_iff.1 hj).1
    have h1 := List.all_eq_true.1 hfi j (by simpa using hlt)
    have hd : dns.getD j [] = d := by rw [List.getD_eq_getElem?_getD, hj]; rfl
    rw [hd] at h1
    have h2 : (effs.all fun e => d.contains e) = true := List.all_eq_true.2 fun e he => by simpa using hall e he
    rw [h2] at h1
    simpa using h1
  · have hlt := (List.getElem?_eq_some_iff.1 hj).1
    have hd : dns.getD j [] = d := by rw [List.getD_eq_getElem?_getD, hj]; rfl
    have h1 := List.all_eq_true.1 (List.all_eq_true.1 hex i (by simpa using hi)) j (by simpa using hlt)
    rw [hd, hmay] at h1
    simp only [Bool.not_true, Bool.false_or, Bool.or_eq_true, beq_iff_eq] at h1
    rcases h1 with h1 | h1
    · obtain ⟨mi, h2, o, x, h3, h4, h5, h6⟩ := hrun i (List.mem_range'_1.2 ⟨Nat.zero_le _, by omega⟩)
      rw [List.append_nil] at h4 h6
      simp only [List.length_nil, Nat.zero_add, Nat.sub_zero] at h2 h6
      subst h1
      have e1 : mi = m := by
        have := hin h2
        unfold ZQ at hmj
        rw [hmj] at this
        exact (Option.some.inj this).symm
      subst e1
      refine ⟨o, x, h3, h4, h5, ?_⟩
      rcases h6 with ⟨h6, m', h7, h8⟩ | h6
      · refine .inl ⟨h6, m', h7, ?_⟩
        cases hc : effs.contains i with
        | false => rw [hc] at h8; exact .inr ⟨rfl, by simpa using h8⟩
        | true =>
          rw [hc] at h8
          have h9 := List.all_eq_true.1 hho i (by simpa using hi)
          rw [hc, hj] at h9
          simp only [Bool.not_true, Bool.false_or] at h9
          split at h9
          · rename_i d1 d2 e2 e3
            cases e2
            exact .inl ⟨rfl, ZQ effs i + 1, d2, e3, h9, hin (by simpa [ZQ] using h8)⟩
          · cases h9
      · exact .inr h6
    · obtain ⟨d', m', h2, h3, h4⟩ := hall.get h1
      rw [hj] at h2; cases h2
      rw [hmj] at h3; cases h3
      exact h4
end
end Go.Proofs.Ytijcchddnnnmdaa
namespace Go.Proofs.Ytijcchddnnnmdaa
open Go.RowKit
set_option linter.unusedSimpArgs false
set_option linter.unusedVariables false
set_option linter.unusedSectionVars false
theorem append_runP {E : Env} {V : Vu} {hp : List (Nat × HB)} {tk : List (Nat × Option Tok)} {w : World} (h : HRel E V hp tk w) {t ty e sz by_ i n0 : Nat} {v x : Value} {es es2 : List (List C)} {pv0 : List C} {av : Option Addr} {capv : Nat} (ht : QT E.P t = some (e, sz)) (hte : Ya E.P e = some (sz, by_))
    (hi : W0 tk i = some (some ⟨e, sz, n0, pv0⟩)) (hvk : v = V.κ i n0) (hva : v = .slice av n0 capv) (hv : Reads V.S w (.sl sz es) (.slice av es.length capv)) (hle0 : es.length ≤ n0) (hp0 : es.length * sz + pv0.length = n0 * sz) (hx : Reads V.S w (.sl sz es2) x) (hm : n0 + es2.length ≤ 1000000000) (hb : by_ ≤ 100000) (h2 : es2 ≠ []) :
    ∃ v' w' gb m V' cap', (Builtin.append_ #[t, t] ty #[v, x]).run E.P w = .ok v' w' ∧ V' = V.tok i (n0 + es2.length) v' gb m ∧ HRel E V' hp ((i, some ⟨e, sz, n0 + es2.length, pv0 ++ es2.flatten⟩) :: tk) w' ∧ V.Le V' w w' ∧ v' = .slice (some ⟨gb, 0, none⟩) (n0 + es2.length) cap' ∧ Reads V'.S w' (.sl sz es) (.slice (some ⟨gb, 0, none⟩) es.length cap') := by
  obtain ⟨hu, i1, hi1, hs1⟩ := Jw ht
  obtain ⟨i0, z, hi0, hz, hzs, hpos, hsz, hby⟩ := tyElem_spec hte
  have : i1 = i0 := Option.some.inj (hi1.symm.trans hi0)
  subst this
  obtain ⟨hl1, a1, cap1, b1, off1, us1, hveq, hc1, ha1, hus1, hk1⟩ := hv.row
  injection hveq with q1 q2 q3
  subst q1; subst q3
  obtain ⟨hl2, a2, cap2, b2, off2, us2, rfl, hc2, ha2, hus2, hk2⟩ := hx.row
  have ha2' := ha2 h2
  subst ha2'
  have hlen2 : 0 < es2.length := List.length_pos_iff.2 h2
  have hf2 : es2.flatten.length = es2.length * sz := Jx es2 hl2
  have hnews : ∀ j u, us2[j]? = some u → w.cell? ((⟨b2, off2, none⟩ : Addr).add j) = some u := fun j u hj => by
    have hlt : j < es2.flatten.length := by rw [hf2, ← hus2]; exact (List.getElem?_eq_some_iff.1 hj).1
    obtain ⟨u', h3, h4, -⟩ := hk2 j _ (List.getElem?_eq_getElem hlt)
    rw [hj] at h3; cases h3
    rw [Ys]; exact h4
  have hmax : n0 + es2.length ≤ maxLen := by unfold maxLen; omega
  have hbytes : (n0 + es2.length) * i1.bytes ≤ 140737488355328 := by
    rw [hby]
    calc (n0 + es2.length) * by_ ≤ 1000000000 * 100000 := Nat.mul_le_mul hm hb
      _ ≤ _ := by omega
  obtain ⟨h1, hcu, xs, ⟨hown, hpl, hpv⟩, hg2⟩ := h.tok i _ hi
  dsimp only at hcu hown hg2 hpl hpv
  rw [← hvk] at hown
  have hlim : (Tok.mk e sz n0 pv0).lim = es.length * sz := by show n0 * sz - pv0.length = _; omega
  rw [hlim] at hpv
  have hxl : xs.length = n0 * sz := hown.1
  have hi' : i = V.nx ∨ (i < V.nx ∧ V.cu i < n0 + es2.length) := .inr ⟨h1, by rw [← hcu]; omega⟩
  have hpl2 : (pv0 ++ es2.flatten).length = pv0.length + es2.length * sz := by rw [List.length_append, hf2]
  have hnn : (n0 + es2.length) * sz = n0 * sz + es2.length * sz := Nat.add_mul _ _ _
  have hlim2 : (n0 + es2.length) * sz - (pv0 ++ es2.flatten).length = es.length * sz := by rw [hpl2, hnn]; omega
  have hpre : ∀ (k : Nat) (c : C), es.flatten[k]? = some c → ∃ u, xs[k]? = some u ∧ Reads V.S w c u := fun k c hk => by
    obtain ⟨u, h3, h4, -, h5⟩ := hk1 k c hk
    have hne : es ≠ [] := fun e' => by subst e'; simp at hk
    have hlt : k < es.length * sz := by have := (List.getElem?_eq_some_iff.1 hk).1; rwa [Jx _ hl1] at this
    rcases hown.2 with ⟨hv0, hn0⟩ | ⟨gg, cap, cur, hvv, -, hcells, hncap, hcm, hcs, htake⟩
    · have : es.length = 0 := by omega
      exact absurd (List.eq_nil_of_length_eq_zero this) hne
    · rw [hva] at hvv
      injection hvv with e1 e2 e3
      have := ha1 hne
      rw [e1] at this
      injection this with this
      injection this with e4 e5
      subst e4
      rw [← e5, Nat.zero_add, Jf hcells] at h4
      refine ⟨u, ?_, h5⟩
      have hlt' : k < n0 * sz := by omega
      rw [← htake, List.getElem?_take_of_lt hlt']; simpa using h4
  have hpvs : ∀ (j : Nat) (c : C), (pv0 ++ es2.flatten)[j]? = some c → ∃ u, (xs ++ us2)[es.length * sz + j]? = some u ∧ Reads V.S w c u := fun j c hj => by
    by_cases hlt : j < pv0.length
    · rw [List.getElem?_append_left hlt] at hj
      obtain ⟨u, h3, h4⟩ := hpv j c hj
      exact ⟨u, by rw [List.getElem?_append_left (by omega)]; exact h3, h4⟩
    · rw [List.getElem?_append_right (by omega)] at hj
      obtain ⟨u, h3, -, -, h4⟩ := hk2 _ c hj
      refine ⟨u, ?_, h4⟩
      rw [List.getElem?_append_right (by omega), show es.length * sz + j - xs.length = j - pv0.length by omega]
      exact h3
  have fin : ∀ (V' : Vu) (w' : World) (g' cap' : Nat), V.Le V' w w' → (∀ (k : Nat) (u : Value), (xs ++ us2)[k]? = some u → w'.cell? ⟨g', k, none⟩ = some u) → (∀ o, o < es.length * sz → V'.S g' o) → es.length ≤ cap' → Reads V'.S w' (.sl sz es) (.slice (some ⟨g', 0, none⟩) es.length cap') := by
    intro V' w' g' cap' hL hcell hS' hcap
    refine YO (us := fun k => (xs ++ us2).getD k undef) hl1 hcap (fun k c hk => ?_)
    have hklt : k < es.length * sz := by have := (List.getElem?_eq_some_iff.1 hk).1; rwa [Jx _ hl1] at this
    obtain ⟨u, h3, h4⟩ := hpre k c hk
    have h5 : (xs ++ us2)[k]? = some u := by rw [List.getElem?_append_left (List.getElem?_eq_some_iff.1 h3).1]; exact h3
    have e1 : (xs ++ us2).getD k undef = u := by rw [List.getD_eq_getElem?_getD, h5]; rfl
    rw [e1, Nat.zero_add]
    exact ⟨hcell k u h5, hS' k hklt, h4.mono hL.S hL.cell⟩
  have anew : ∀ (old : Nat), (Builtin.append_ #[t, t] ty #[v, .slice (some ⟨b2, off2, none⟩) es2.length cap2]).run E.P w = .ok (.slice (some ⟨w.heap.size, 0, none⟩) (n0 + es2.length) (grownCap w (n0 + es2.length) old e)) (w.drew.alloc (.cells (xs.toArray ++ us2.toArray ++ Builtin.zeroCells z.cells (grownCap w (n0 + es2.length) old e - (n0 + es2.length))) e)) →
      ∃ v' w' gb m V' cap', (Builtin.append_ #[t, t] ty #[v, .slice (some ⟨b2, off2, none⟩) es2.length cap2]).run E.P w = .ok v' w' ∧ V' = V.tok i (n0 + es2.length) v' gb m ∧ HRel E V' hp ((i, some ⟨e, sz, n0 + es2.length, pv0 ++ es2.flatten⟩) :: tk) w' ∧ V.Le V' w w' ∧ v' = .slice (some ⟨gb, 0, none⟩) (n0 + es2.length) cap' ∧ Reads V'.S w' (.sl sz es) (.slice (some ⟨gb, 0, none⟩) es.length cap') := by
    intro old hrun
    have hge := grownCap_ge w (n0 + es2.length) old e
    have hcm := grownCap_le_maxLen w (n0 + es2.length) old e hmax
    generalize grownCap w (n0 + es2.length) old e = cap' at hrun hge hcm
    have hx' : ZH w (w.drew.alloc (.cells (xs.toArray ++ us2.toArray ++ Builtin.zeroCells z.cells (cap' - (n0 + es2.length))) e)) := ⟨rfl, rfl, rfl, by simp, fun k hk _ => Below.heap_alloc w.drew _ k hk⟩
    have hnew : (w.drew.alloc (.cells (xs.toArray ++ us2.toArray ++ Builtin.zeroCells z.cells (cap' - (n0 + es2.length))) e)).heap[w.heap.size]? = some (.cells (xs.toArray ++ us2.toArray ++ Builtin.zeroCells z.cells (cap' - (n0 + es2.length))) e (0, 0)) := heap_alloc_new w.drew _
    have hcs : (xs.toArray ++ us2.toArray ++ Builtin.zeroCells z.cells (cap' - (n0 + es2.length))).size = cap' * sz := by
      simp only [Array.size_append, List.size_toArray, size_zeroCells, hzs, hxl, hus2, ← Nat.add_mul]
      congr 1; omega
    have hfull : (xs ++ us2).length = (n0 + es2.length) * sz := by rw [List.length_append, hxl, hus2, hnn]
    have hgc : ∀ (k : Nat) (u : Value), (xs ++ us2)[k]? = some u → (xs.toArray ++ us2.toArray ++ Builtin.zeroCells z.cells (cap' - (n0 + es2.length)))[k]? = some u := fun k u hk => by
      rw [← Array.getElem?_toList, Array.toList_append, Array.toList_append, List.getElem?_append_left (by have := (List.getElem?_eq_some_iff.1 hk).1; simpa using this)]
      simpa using hk
    obtain ⟨H, L⟩ := h.tokNewP (i := i) (n := n0 + es2.length) (g := w.heap.size) (e := e) (sz := sz) (cap := cap') (pv0 ++ es2.flatten) (by rw [hpl2, hnn]; omega) (fun j c hj => by
      obtain ⟨u, h3, h4⟩ := hpvs j c hj
      exact ⟨u, by rw [hlim2]; exact hgc _ u h3, h4⟩) hi' hx' (Nat.le_refl _) hnew hcs hge hcm
    refine ⟨_, _, w.heap.size, _, _, cap', hrun, rfl, H, L, rfl, ?_⟩
    refine fin _ _ _ _ L (fun k u hk => ?_) (fun o ho' => .inr ⟨rfl, by rw [hlim2]; exact ho'⟩) (by omega)
    rw [Jf hnew]
    exact hgc k u hk
  rcases hown.2 with ⟨hv0, hn0⟩ | ⟨gg, cap, cur, hvv, -, hcells, hncap, hcm, hcs, htake⟩
  · subst hn0
    have hx0 : xs = [] := List.eq_nil_of_length_eq_zero (by rw [hxl, Nat.zero_mul])
    rw [hv0]
    rw [hv0] at anew
    refine anew 0 ?_
    have hr := run_append_nil (P := E.P) w t ty e i1 z hu hi1 hz ⟨b2, off2, none⟩ es2.length cap2 us2 (by rw [hsz]; exact hus2) hnews hlen2 (by omega) (by have := hbytes; rw [Nat.zero_add] at this; omega)
    rw [hx0, Nat.zero_add]
    simpa using hr
  · rw [hvv] at hva ⊢
    rw [hvv] at anew
    injection hva with e1 e2 e3
    subst e3
    by_cases hroom : n0 + es2.length ≤ cap
    · have hfit : n0 * i1.size + us2.length ≤ cur.size := by rw [hus2, hcs, hsz, ← Nat.add_mul]; exact Nat.mul_le_mul_right _ hroom
      have h1c : ∀ u ∈ us2, u.oneCell' = true := fun u hu' => by
        obtain ⟨k, hk⟩ := List.getElem?_of_mem hu'
        have hlt : k < es2.flatten.length := by rw [hf2, ← hus2]; exact (List.getElem?_eq_some_iff.1 hk).1
        obtain ⟨u', h3, -, -, h4⟩ := hk2 k _ (List.getElem?_eq_getElem hlt)
        rw [hk] at h3; cases h3
        exact h4.one
      have hr := run_append_room (P := E.P) w t ty e i1 hu hi1 gg n0 cap cur hcells ⟨b2, off2, none⟩ es2.length cap2 us2 (by rw [hsz]; exact hus2) hnews h1c hroom hfit
      rw [hsz] at hr hfit
      have hcs' : (cur.toList.take (n0 * sz) ++ us2 ++ cur.toList.drop (n0 * sz + us2.length)).toArray.size = cap * sz := by
        simp only [List.size_toArray, List.length_append, List.length_take, List.length_drop, Array.length_toList]; omega
      have hgc : ∀ (k : Nat) (u : Value), (xs ++ us2)[k]? = some u → (cur.toList.take (n0 * sz) ++ us2 ++ cur.toList.drop (n0 * sz + us2.length)).toArray[k]? = some u := fun k u hk => by
        rw [htake, List.getElem?_toArray, List.getElem?_append_left (List.getElem?_eq_some_iff.1 hk).1]
        exact hk
      obtain ⟨H, L⟩ := h.tokRoomP (n := n0 + es2.length) (cur' := (cur.toList.take (n0 * sz) ++ us2 ++ cur.toList.drop (n0 * sz + us2.length)).toArray) (pv0 ++ es2.flatten) (by rw [hpl2, hnn]; omega) (by rw [hlim2]; omega) (fun j c hj => by
        obtain ⟨u, h3, h4⟩ := hpvs j c hj
        exact ⟨u, by rw [hlim2]; exact hgc _ u h3, h4⟩) hi (hvk.symm.trans hvv) hcells (by omega) hroom hcm hcs' (fun o ho => by
        have ho' : o < n0 * sz := by omega
        rw [List.append_assoc, List.getElem?_toArray, List.getElem?_append_left (by rw [List.length_take]; have e8 : cur.toList.length = cur.size := Array.length_toList; omega), List.getElem?_take_of_lt ho']; simp)
      refine ⟨_, _, gg, _, _, cap, hr, rfl, H, L, rfl, ?_⟩
      refine fin _ _ _ _ L (fun k u hk => ?_) (fun o ho' => .inr ⟨rfl, by rw [hlim2]; exact ho'⟩) (by omega)
      rw [Jf (setRow_heap w gg cur _ e (0, 0) hcells)]
      exact hgc k u hk
    · have holds : ∀ j u, xs[j]? = some u → w.cell? ((⟨gg, 0, none⟩ : Addr).add j) = some u := by
        have := hown.cells (g := gg) (by rw [hvv]; rfl)
        exact this
      have hr := run_append_grow (P := E.P) w t ty e i1 z hu hi1 hz ⟨gg, 0, none⟩ n0 cap xs (by rw [hsz]; exact hown.1) holds ⟨b2, off2, none⟩ es2.length cap2 us2 (by rw [hsz]; exact hus2) hnews (by omega) (by omega) (growslice_fits (by omega) hbytes)
      exact anew cap hr
theorem HRel.storeT {E : Env} {V : Vu} {hp : List (Nat × HB)} {tk : List (Nat × Option Tok)} {w : World} (h : HRel E V hp tk w) {i n e sz g cap : Nat} {pv : List C} (hi : W0 tk i = some (some ⟨e, sz, n, pv⟩)) (hv : V.κ i n = .slice (some ⟨g, 0, none⟩) n cap) {k : Nat} (hk : k < pv.length) {c : C} {u : Value} (hu : Reads V.S w c u) :
    HRel E V hp ((i, some ⟨e, sz, n, pv.set k c⟩) :: tk) (w.setCell ⟨g, n * sz - pv.length + k, none⟩ u) ∧ V.Le V w (w.setCell ⟨g, n * sz - pv.length + k, none⟩ u) ∧ ∃ u0, w.cell? ⟨g, n * sz - pv.length + k, none⟩ = some u0 ∧ w.frozen? ⟨g, n * sz - pv.length + k, none⟩ = false := by
  obtain ⟨h1, hcu, xs, ⟨hown, hpl, hpv⟩, hg2⟩ := h.tok i _ hi
  dsimp only at hcu hown hg2 hpl hpv
  have hlim : (Tok.mk e sz n pv).lim = n * sz - pv.length := rfl
  have hgb : (V.κ i n).ownBlock = some g := by rw [hv]; rfl
  obtain ⟨a1, a2, a3⟩ := hg2 g hgb
  rw [hlim] at a2 hpv
  obtain ⟨hxl, hx⟩ := hown
  rcases hx with ⟨hv0, -⟩ | ⟨gg, cap', cur, hvv, hb0, hcells, hncap, hcm, hcs, htake⟩
  · rw [hv] at hv0; cases hv0
  rw [hv] at hvv
  injection hvv with q1 q2 q3
  injection q1 with q1
  injection q1 with q1
  subst q1 q3
  generalize hoff : n * sz - pv.length + k = off
  have hofflt : off < n * sz := by omega
  have hcap : n * sz ≤ cap * sz := Nat.mul_le_mul_right _ hncap
  have hsz : (w.setCell ⟨g, off, none⟩ u).heap.size = w.heap.size := by simp [World.setCell]
  have hne : ∀ k, k ≠ g → (w.setCell ⟨g, off, none⟩ u).heap[k]? = w.heap[k]? := fun k hk => Below.heap_setCell w ⟨g, off, none⟩ u k hk
  have hnew : (w.setCell ⟨g, off, none⟩ u).heap[g]? = some (.cells (cur.setIfInBounds off u) e (0, 0)) := setCell_block hcells off u
  have hcell : ∀ b o, V.S b o → (w.setCell ⟨g, off, none⟩ u).cell? ⟨b, o, none⟩ = w.cell? ⟨b, o, none⟩ := fun b o hs => by
    by_cases hb : b = g
    · subst hb
      have := a2 o hs
      rw [Jf hnew, Jf hcells, Array.getElem?_setIfInBounds, if_neg (by omega)]
    · exact World.cell?_of_block (w := w) (a := ⟨b, o, none⟩) (hne b hb)
  have hle : V.Le V w (w.setCell ⟨g, off, none⟩ u) := ⟨Nat.le_refl _, fun _ _ => rfl, fun _ _ => Nat.le_refl _, fun _ _ _ _ => rfl, fun _ _ h => h, hcell, fun b o hs ds hd => by
    by_cases hb : b = g
    · subst hb; rw [hcells] at hd; cases hd
    · exact (hne b hb).trans hd⟩
  refine ⟨⟨?_, h.le0.trans hle, fun b o hs => by rw [hsz]; exact h.sz b o hs, h.sub, ?_, h.inj, h.new, ?_, ?_⟩, hle, ?_⟩
  · refine ⟨h.ext.os, h.ext.tape, h.ext.output, by rw [hsz]; exact h.ext.size, fun k hk hM => (hne k fun e1 => ?_).trans (h.ext.block k hk hM)⟩
    rcases a1 with a1 | a1
    · omega
    · rw [← e1] at a1; exact hM a1
  · intro j B hj
    obtain ⟨b1, o, ho, hB⟩ := h.own j B hj
    exact ⟨b1, o, (hne _ (a3 j B hj)).trans ho, hB.mono hle⟩
  · intro j T hj
    rw [Qn] at hj
    split at hj
    · rename_i e1; subst e1; cases hj
      have hll : (pv.set k c).length = pv.length := by simp
      have hlim2 : (Tok.mk e sz n (pv.set k c)).lim = n * sz - pv.length := by show n * sz - (pv.set k c).length = _; rw [hll]
      refine ⟨h1, hcu, xs.set off u, ⟨⟨by rw [List.length_set]; exact hxl, .inr ⟨g, cap, cur.setIfInBounds off u, hv, hb0, hnew, hncap, hcm, by simpa using hcs, ?_⟩⟩, by rw [hll]; exact hpl, fun j c' hj => ?_⟩, fun g' hg' => ?_⟩
      · apply List.ext_getElem?
        intro q
        rw [List.getElem?_take, List.getElem?_set, ← htake]
        by_cases hq : q < n * sz
        · rw [if_pos hq, Array.getElem?_toList, Array.getElem?_setIfInBounds]
          by_cases hqo : off = q
          · subst hqo
            rw [if_pos rfl, if_pos rfl, if_pos (by omega), if_pos (by rw [List.length_take, Array.length_toList]; omega)]
          · rw [if_neg hqo, if_neg hqo, List.getElem?_take, if_pos hq, Array.getElem?_toList]
        · rw [if_neg hq]
          by_cases hqo : off = q
          · omega
          · rw [if_neg hqo, List.getElem?_take, if_neg hq]
      · rw [hlim2]
        rw [List.getElem?_set] at hj
        split at hj
        · rename_i e2
          subst e2
          cases hj
          refine ⟨u, ?_, Reads.mono hle.S hle.cell hu⟩
          rw [hoff, List.getElem?_set, if_pos rfl, if_pos (by rw [hxl]; exact hofflt)]
        · rename_i e2
          obtain ⟨u', h3, h4⟩ := hpv j c' hj
          refine ⟨u', ?_, Reads.mono hle.S hle.cell h4⟩
          rw [List.getElem?_set, if_neg (by omega)]
          exact h3
      · obtain ⟨b1, b2, b3⟩ := hg2 g' hg'
        refine ⟨b1, fun o hs => ?_, b3⟩
        rw [hlim2]; exact b2 o hs
    · rename_i e1
      have e2 : j ≠ i := fun h => e1 h.symm
      obtain ⟨b1, bcu, ys, bown, bg2⟩ := h.tok j T hj
      refine ⟨b1, bcu, ys, bown.keepW rfl (bown.1.kept (row := some g) ⟨rfl, rfl, rfl, by rw [hsz]; exact Nat.le_refl _, fun k _ hk => hne k fun e3 => hk (by rw [e3])⟩ ?_) hle.lx, bg2⟩
      cases hb : (V.κ j T.n).ownBlock with
      | none => exact .inl rfl
      | some g' =>
        refine .inr fun e3 => e2 ?_
        cases e3
        exact h.tki j i T _ g hj hi hb hgb
  · intro j k' T U g' hj hk' ej ek
    rw [Qn] at hj hk'
    split at hj <;> split at hk'
    · rename_i e1 e2; exact e1.symm.trans e2
    · rename_i e1 e2; subst e1; cases hj; exact h.tki _ _ _ _ g' hi hk' ej ek
    · rename_i e1 e2; subst e2; cases hk'; exact h.tki _ _ _ _ g' hj hi ej ek
    · exact h.tki j k' T U g' hj hk' ej ek
  · have hlt : off < cur.size := by omega
    exact ⟨cur[off], by rw [Jf hcells]; exact Array.getElem?_eq_getElem hlt, free_of_own hcells off⟩
def X7 : List C → Nat → List C → List C
  | xs, _, [] => xs
  | xs, off, c :: cs => X7 (xs.set off c) (off + 1) cs
theorem setL_map : ∀ (cs xs : List C) (off : Nat), setL (xs.map CA.d) off (cs.map CA.d) = (X7 xs off cs).map CA.d
  | [], xs, off => rfl
  | c :: cs, xs, off => by
    simp only [X7, List.map_cons, setL]
    rw [← List.map_set, setL_map cs]
theorem setC_flat {α : Type} [Enc α] [EncLen α] (l : List α) (k : Nat) (v : α) (hk : k < l.length) : X7 (Enc.encL l).flatten (k * Enc.sz α) (Enc.enc v) = (Enc.encL (l.set k v)).flatten := by
  have h1 := setL_flat l k v hk
  unfold Q6 at h1
  rw [setL_map] at h1
  have inj : ∀ a b : List C, a.map CA.d = b.map CA.d → a = b := fun a b h => by
    have := congrArg (List.map fun x : CA => match x with | .d c => c | _ => .v undef) h
    rw [List.map_map, List.map_map] at this
    have hid : ((fun x : CA => match x with | .d c => c | _ => .v undef) ∘ CA.d) = id := rfl
    rw [hid, List.map_id, List.map_id] at this
    exact this
  exact inj _ _ h1
theorem HRel.storeTL {E : Env} {V : Vu} {hp : List (Nat × HB)} {i n e sz g cap : Nat} (hv : V.κ i n = .slice (some ⟨g, 0, none⟩) n cap) : ∀ (cs : List C) (us : List Value) (q k : Nat) (pv : List C) (tk : List (Nat × Option Tok)) (w : World), HRel E V hp tk w → W0 tk i = some (some ⟨e, sz, n, pv⟩) →
    q + k + cs.length ≤ pv.length → us.length = cs.length → (∀ (j : Nat) (c : C), cs[j]? = some c → ∃ u, us[j]? = some u ∧ Reads V.S w c u) →
    ∃ w', (storeCells ⟨g, n * sz - pv.length + q, none⟩ us k).run E.P w = .ok () w' ∧ HRel E V hp ((i, some ⟨e, sz, n, X7 pv (q + k) cs⟩) :: tk) w' ∧ V.Le V w w'
  | [], us, q, k, pv, tk, w, h, hi, _, hu, _ => by
    have : us = [] := List.eq_nil_of_length_eq_zero (by simpa using hu)
    subst this
    refine ⟨w, by simp [storeCells], ?_, Vu.Le.refl V w⟩
    simp only [X7]
    exact h.congr (fun _ => rfl) (fun j => by rw [Qn]; split <;> simp_all)
  | c :: cs, us, q, k, pv, tk, w, h, hi, hle, hu, hrel => by
    match us, hu with
    | u :: us, hu =>
      simp only [List.length_cons] at hle hu
      obtain ⟨u', hu', hy⟩ := hrel 0 c rfl
      simp at hu'
      subst hu'
      obtain ⟨H1, L1, u0, hcell, hfro⟩ := h.storeT hi hv (k := q + k) (by omega) hy
      have hone := hy.one
      rw [← Nat.add_assoc] at H1 L1 hcell hfro
      have hst : (Go.store ⟨g, n * sz - pv.length + q + k, none⟩ u).run E.P w = .ok () (w.setCell ⟨g, n * sz - pv.length + q + k, none⟩ u) := by
        rw [run_store _ _ _ _ _ hone, hcell, hfro]; rfl
      have hll : (pv.set (q + k) c).length = pv.length := by simp
      obtain ⟨w2, hw2, H2, L2⟩ := HRel.storeTL hv cs us q (k + 1) (pv.set (q + k) c) _ _ H1 (by rw [Qn, if_pos rfl]) (by rw [hll]; omega) (by omega) (fun j c' hj => by
        obtain ⟨u2, h3, h4⟩ := hrel (j + 1) c' (by simpa using hj)
        exact ⟨u2, by simpa using h3, h4.mono L1.S L1.cell⟩)
      rw [hll] at hw2
      refine ⟨w2, ?_, ?_, L1.trans L2⟩
      · simp only [storeCells, Sem.run_bind, Ys, hst, Result.andThen_ok]
        exact hw2
      · simp only [X7]
        refine H2.congr (fun _ => rfl) (fun j => ?_)
        rw [Qn, Qn, Qn]
        split
        · rw [show q + (k + 1) = q + k + 1 by omega]
        · rfl
theorem HRel.settle {E : Env} {V : Vu} {hp : List (Nat × HB)} {tk : List (Nat × Option Tok)} {w : World} (h : HRel E V hp tk w) {i n e sz : Nat} {pv : List C} (hi : W0 tk i = some (some ⟨e, sz, n, pv⟩)) :
    ∃ V' : Vu, HRel E V' hp ((i, some ⟨e, sz, n, []⟩) :: tk) w ∧ V.Le V' w w ∧ V'.nx = V.nx ∧ V'.κ = V.κ ∧ V'.cu = V.cu ∧ ∀ g, (V.κ i n).ownBlock = some g → ∀ o, o < n * sz → V'.S g o := by
  obtain ⟨h1, hcu, xs, ⟨hown, hpl, hpv⟩, hg2⟩ := h.tok i _ hi
  dsimp only at hcu hown hg2 hpl hpv
  let V' : Vu := { V with S := fun b o => V.S b o ∨ ((V.κ i n).ownBlock = some b ∧ o < n * sz) }
  have hle : V.Le V' w w := ⟨Nat.le_refl _, fun _ _ => rfl, fun _ _ => Nat.le_refl _, fun _ _ _ _ => rfl, fun _ _ h => .inl h, fun _ _ _ => rfl, fun _ _ _ _ h => h⟩
  refine ⟨V', ⟨h.ext, h.le0.trans hle, ?_, ?_, ?_, h.inj, ?_, ?_, ?_⟩, hle, rfl, rfl, rfl, fun g hg o ho => .inr ⟨hg, ho⟩⟩
  · rintro b o (hs | ⟨hb, -⟩)
    · exact h.sz b o hs
    · exact (hown.lt b hb).2
  · rintro b o (hs | ⟨hb, -⟩)
    · exact h.sub b o hs
    · exact .inr (hg2 b hb).1
  · intro j B hj
    obtain ⟨b1, o, ho, hB⟩ := h.own j B hj
    exact ⟨b1, o, ho, hB.mono hle⟩
  · intro j B hj
    refine ⟨(h.new j B hj).1, ?_⟩
    rintro o (hs | ⟨hb, -⟩)
    · exact (h.new j B hj).2 o hs
    · exact (hg2 _ hb).2.2 j B hj rfl
  · intro j T hj
    rw [Qn] at hj
    split at hj
    · rename_i e1; subst e1; cases hj
      refine ⟨h1, hcu, xs, RowOK.all hown, fun g hg => ⟨(hg2 g hg).1, ?_, (hg2 g hg).2.2⟩⟩
      rintro o (hs | ⟨-, ho⟩)
      · exact Nat.lt_of_lt_of_le ((hg2 g hg).2.1 o hs) (Nat.sub_le _ _)
      · exact ho
    · rename_i e1
      obtain ⟨b1, bcu, ys, bown, bg2⟩ := h.tok j T hj
      refine ⟨b1, bcu, ys, bown.keepW rfl bown.1 hle.lx, fun g hg => ⟨(bg2 g hg).1, ?_, (bg2 g hg).2.2⟩⟩
      rintro o (hs | ⟨hb, -⟩)
      · exact (bg2 g hg).2.1 o hs
      · exact absurd (h.tki j i T _ g hj hi hg hb) (fun e => e1 e.symm)
  · intro j k T U g hj hk ej ek
    rw [Qn] at hj hk
    split at hj <;> split at hk
    · rename_i e1 e2; exact e1.symm.trans e2
    · rename_i e1 e2; subst e1; cases hj; exact h.tki _ _ _ _ g hi hk ej ek
    · rename_i e1 e2; subst e2; cases hk; exact h.tki _ _ _ _ g hj hi ej ek
    · exact h.tki j k T U g hj hk ej ek
section
variable {E : Env} {st : St} {dd : Option Tmp} {ty : TypeId} {pos : String} {af : Array Edge} {g : Option (Nat × Bool)}
theorem OpOK.appendP {t e sz by_ i n0 : Nat} {o1 o2 : Operand} {x1 y : CA} {es es2 : List (List C)} {pv0 : List C} (ht : QT E.P t = some (e, sz)) (hte : Ya E.P e = some (sz, by_)) (hb : by_ ≤ 100000)
    (h1 : ev st.tm o1 = some (.v (.one x1))) (hx1 : ∀ V w v, x1.rel V w v → (CA.apv i sz n0 es).rel V w v) (hi : W0 st.tk i = some (some ⟨e, sz, n0, pv0⟩)) (hp0 : es.length * sz + pv0.length = n0 * sz) (h2 : ev st.tm o2 = some (.v (.one y))) (hs : SlOf y sz es2) (hm : n0 + es2.length ≤ 1000000000) (hne : es2 ≠ []) :
    OpOK E ⟨dd, .call { callee := .builtin .append, args := #[o1, o2], argTypes := #[t, t] }, ty, pos, af, g⟩ st (.v (.one (.apv i sz (n0 + es2.length) es))) ⟨st.hp, (i, some ⟨e, sz, n0 + es2.length, pv0 ++ es2.flatten⟩) :: Jv i st.tk, st.nx⟩ := by
  intro V a w hr ro n K Q hK
  refine ⟨fun _ _ => trivial, ?_⟩
  rw [Oper.semAt_eq _ _ _ (by intro c h; cases h)]
  obtain ⟨r1, r2, r3, av, cap, r4, r5, r6⟩ := hx1 V w _ (hr.ev h1)
  have q2 := hs.reads (hr.ev h2)
  have hexec : ∀ v' w', (Builtin.append_ #[t, t] ty #[a.eval o1, a.eval o2]).run E.P w = .ok v' w' → (execOp a.eval ⟨dd, .call { callee := .builtin .append, args := #[o1, o2], argTypes := #[t, t] }, ty, pos, af, g⟩).run E.P w = .ok (.value v') w' := fun v' w' h => by
    simp [execOp, resolve, invoke, builtin, h]
  obtain ⟨v', w', gb, m, V', cap', hrun, rfl, H, L, hv', hrd⟩ := append_runP (ty := ty) hr.h ht hte hi r3 r4 r6 r5 hp0 q2 hm hb hne
  rw [hexec v' w' hrun]
  have hnx : (V.tok i (n0 + es2.length) v' gb m).nx = st.nx := by show max V.nx (i + 1) = st.nx; rw [← hr.nx]; omega
  refine hK _ w' _ (H.congr (fun _ => rfl) (fun j => Yk i _ st.tk j)) hnx L ?_
  exact ⟨Nat.lt_of_lt_of_le r1 L.nx, by rw [tok_cu]; exact Nat.le_refl _, by rw [Y5], some ⟨gb, 0, none⟩, cap', hv', by omega, hrd⟩
theorem app_apv {V : Vu} {w : World} {i sz : Nat} {es : List (List C)} {v : Value} (h : (CA.app i sz es).rel V w v) : (CA.apv i sz es.length es).rel V w v := by
  obtain ⟨h1, h2, h3, h4⟩ := h
  obtain ⟨-, a, cap, b, off, us, e1, -⟩ := h4.row
  exact ⟨h1, h2, h3, a, cap, e1, Nat.le_refl _, by rw [← e1]; exact h4⟩
theorem app_apv0 {V : Vu} {w : World} {i sz : Nat} {v : Value} (h : (CA.app i sz []).rel V w v) : (CA.apv i sz 0 []).rel V w v := app_apv h
theorem RO.indexP {t e sz i n : Nat} {x y : Operand} {es : List (List C)} {pv : List C} {m : Int} (ht : QT E.P t = some (e, sz)) (hx : ev st.tm x = some (.v (.one (.apv i sz n es)))) (hi : W0 st.tk i = some (some ⟨e, sz, n, pv⟩)) (hy : ev st.tm y = some (Wr m)) (hm : (cond (decide (0 ≤ m)) (Nat.blt m.toNat n) false) = true) :
    RO E ⟨dd, .indexAddr t x y, ty, pos, af, g⟩ st (.v (.one (.tp i n (m.toNat * sz)))) := by
  refine ⟨(fun _ h => nomatch h), fun V a w hr => ?_⟩
  obtain ⟨r1, r2, r3, av, cap, r4, r5, r6⟩ := hr.ev hx
  have h0 : 0 ≤ m := of_decide_eq_true (ZV hm)
  have h1 := ZW (Zt hm)
  obtain ⟨k, rfl⟩ : ∃ k : Nat, m = (k : Int) := ⟨m.toNat, (Int.toNat_of_nonneg h0).symm⟩
  rw [Int.toNat_natCast] at h1 ⊢
  obtain ⟨q1, q2, xs, ⟨hown, -⟩, -⟩ := hr.h.tok i _ hi
  dsimp only at q2 hown
  obtain ⟨hu, i0, hi0, hsz⟩ := Jw ht
  have h2 : (k : Int) < (n : Int) := by omega
  rcases hown.2 with ⟨-, hn0⟩ | ⟨gg, cap', cur, hvv, -⟩
  · omega
  · refine ⟨.pointer (some ⟨gg, k * sz, none⟩), ?_, r1, r2, gg, cap', hvv, rfl⟩
    rw [hvv] at r3
    simp only [execOp, r3, JL (hr.ev hy), Instr.indexAt, asIntOf, Sem.run_bind, Sem.run_pure, Result.andThen_ok, run_underlying hu, sizeOf, typeInfo]
    simp [hi0, hsz, Ys, h2, Sem.run, program]
theorem OpOK.storeP {α : Type} [Enc α] [EncLen α] {t i e n k0 m off : Nat} {ag : Bool} {o1 o2 : Operand} {y y' : AV} {l : List α} {v : α} (ht : Jn E.P t = some (ag, Enc.sz α)) (h1 : ev st.tm o1 = some (.v (.one (.tp i n off)))) (h2 : ev st.tm o2 = some (.v y)) (hs : ASub y y') (he : y'.cells = (Enc.enc v).map CA.d)
    (hi : W0 st.tk i = some (some ⟨e, Enc.sz α, n, (Enc.encL l).flatten⟩)) (hn : n = k0 + l.length) (ho : off = (k0 + m) * Enc.sz α) (hm : m < l.length) (hdd : dd = none) :
    OpOK E ⟨dd, .store t o1 o2, ty, pos, af, g⟩ st (.tup []) ⟨st.hp, (i, some ⟨e, Enc.sz α, n, (Enc.encL (l.set m v)).flatten⟩) :: Jv i st.tk, st.nx⟩ := by
  intro V a w hr ro n' K Q hK
  refine ⟨fun _ _ => trivial, ?_⟩
  rw [Oper.semAt_eq _ _ _ (by intro c h; cases h)]
  obtain ⟨r1, r2, gg, cap, r3, r4⟩ := hr.ev h1
  have e2 := (hs.rel (hr.ev h2)).cells
  obtain ⟨-, hsz⟩ := Zm ht w
  have hlen : (Enc.enc v).length = Enc.sz α := EncLen.len v
  have hpl : (Enc.encL l).flatten.length = l.length * Enc.sz α := by rw [Jx _ (YU l), Enc.len]
  rw [he] at e2
  obtain ⟨w', hw', H, L⟩ := HRel.storeTL r3 (Enc.enc v) (a.eval o2).cells.toList (m * Enc.sz α) 0 (Enc.encL l).flatten st.tk w hr.h hi (by
    rw [hpl, hlen, Nat.add_zero, ← Nat.succ_mul]; exact Nat.mul_le_mul_right _ hm) (by simpa using e2.1) (fun j c hj => by
    obtain ⟨u, hu, hz'⟩ := e2.2 j (.d c) (by rw [List.getElem?_map, hj]; rfl)
    exact ⟨u, by simpa using hu, hz'⟩)
  have hoff : n * Enc.sz α - (Enc.encL l).flatten.length + m * Enc.sz α = off := by
    rw [hpl, hn, ho, Nat.add_mul, Nat.add_mul]; omega
  rw [hoff] at hw'
  rw [Nat.add_zero, setC_flat l m v hm] at H
  have hrun : (execOp a.eval ⟨dd, .store t o1 o2, ty, pos, af, g⟩).run E.P w = .ok .skip w' := by
    have hs2 : (a.eval o2).cells.size = Enc.sz α := by rw [e2.1, List.length_map, hlen]
    simp only [execOp, r4, Instr.storeAt, Instr.sureAddr, storeVar, Sem.run_bind, Sem.run_pure, Result.andThen_ok, hsz, hs2]
    simp [hw']
  rw [hrun]
  subst hdd
  exact hK V w' undef (H.congr (fun _ => rfl) (fun j => Yk i _ st.tk j)) hr.nx L Z9
end
theorem settle_reads {E : Env} {V V' : Vu} {hp : List (Nat × HB)} {tk : List (Nat × Option Tok)} {w : World} {i n e sz : Nat} {es es2 : List (List C)} {v : Value} (h : HRel E V hp tk w) (hi : W0 tk i = some (some ⟨e, sz, n, es2.flatten⟩)) (hn : n = es.length + es2.length) (hl2 : ∀ x ∈ es2, x.length = sz)
    (hv : (CA.apv i sz n es).rel V w v) (hL : V.Le V' w w) (hnx : V'.nx = V.nx) (hκ : V'.κ = V.κ) (hcu : V'.cu = V.cu) (hS : ∀ g, (V.κ i n).ownBlock = some g → ∀ o, o < n * sz → V'.S g o) : (CA.app i sz (es ++ es2)).rel V' w v := by
  obtain ⟨r1, r2, r3, a, cap, r4, r5, r6⟩ := hv
  obtain ⟨hl1, a1, cap1, b1, off1, us1, hveq, hc1, ha1, hus1, hk1⟩ := r6.row
  injection hveq with q1 q2 q3
  subst q1; subst q3
  obtain ⟨h1, hcu2, xs, ⟨hown, hpl, hpv⟩, hg2⟩ := h.tok i _ hi
  dsimp only at hown hpl hpv
  have hf2 : es2.flatten.length = es2.length * sz := Jx es2 hl2
  have hlim : (Tok.mk e sz n es2.flatten).lim = es.length * sz := by show n * sz - es2.flatten.length = _; rw [hf2, hn, Nat.add_mul]; omega
  rw [hlim] at hpv
  have hall : ∀ x ∈ es ++ es2, x.length = sz := fun x hx => by rcases List.mem_append.1 hx with h | h; exact hl1 x h; exact hl2 x h
  have hlen : (es ++ es2).length = n := by rw [List.length_append, hn]
  refine ⟨by rw [hnx]; exact r1, by rw [hlen, hcu]; exact r2, by rw [hlen, hκ]; exact r3, ?_⟩
  rw [r4]
  rcases hown.2 with ⟨hv0, hn0⟩ | ⟨gg, cap', cur, hvv, -, hcells, hncap, hcm, hcs, htake⟩
  · have e0 : es ++ es2 = [] := List.eq_nil_of_length_eq_zero (hlen.trans hn0)
    rw [e0]
    subst hn0
    exact Reads.sl sz [] a cap 0 0 (fun _ _ => undef) (Nat.zero_le _) (fun h => absurd rfl h) (fun i x hx => by simp at hx) (fun i x j c hx => by simp at hx) (fun i x j c hx => by simp at hx) (fun i x j c hx => by simp at hx)
  · have e1 : (Value.slice a n cap) = .slice (some ⟨gg, 0, none⟩) n cap' := by rw [← r4, r3]; exact hvv
    injection e1 with e2 e3 e4
    subst e2; subst e4
    have hrow : ∀ (k : Nat) (c : C), (es ++ es2).flatten[k]? = some c → ∃ u, xs[k]? = some u ∧ Reads V.S w c u := fun k c hk => by
      rw [List.flatten_append] at hk
      have hf1 := Jx es hl1
      by_cases hlt : k < es.flatten.length
      · rw [List.getElem?_append_left hlt] at hk
        obtain ⟨u, h3, h4, -, h5⟩ := hk1 k c hk
        have hne : es ≠ [] := fun e' => by subst e'; simp at hk
        have := ha1 hne
        injection this with this
        injection this with e4 e5
        subst e4
        rw [← e5, Nat.zero_add, Jf hcells] at h4
        refine ⟨u, ?_, h5⟩
        have hlt' : k < n * sz := by rw [hn, Nat.add_mul]; omega
        rw [← htake, List.getElem?_take_of_lt hlt']; simpa using h4
      · rw [List.getElem?_append_right (by omega)] at hk
        obtain ⟨u, h3, h4⟩ := hpv _ c hk
        refine ⟨u, ?_, h4⟩
        rw [show es.length * sz + (k - es.flatten.length) = k by omega] at h3
        exact h3
    rw [← hlen]
    refine YO (us := fun k => xs.getD k undef) hall (by rw [hlen]; exact hncap) (fun k c hk => ?_)
    have hklt : k < n * sz := by have := (List.getElem?_eq_some_iff.1 hk).1; rw [Jx _ hall, hlen] at this; exact this
    obtain ⟨u, h3, h4⟩ := hrow k c hk
    have e5 : xs.getD k undef = u := by rw [List.getD_eq_getElem?_getD, h3]; rfl
    rw [e5, Nat.zero_add]
    refine ⟨?_, hS gg (by rw [hvv]; rfl) k hklt, h4.mono hL.S hL.cell⟩
    rw [Jf hcells]
    rw [← htake, List.getElem?_take_of_lt hklt] at h3
    simpa using h3
section
variable {E : Env} {st : St} {Q : Exit → Act → World → Prop} {ex : Exit}
theorem XQ.settleC {α : Type} [Enc α] [EncLen α] {b off i e n : Nat} {T : TypeId} {xs : List CA} {l l2 : List α} (hb : W0 st.hp b = some (.cells T xs)) (hx : xs[off]? = some (.apv i (Enc.sz α) n (Enc.encL l))) (hi : W0 st.tk i = some (some ⟨e, Enc.sz α, n, (Enc.encL l2).flatten⟩)) (hn : n = l.length + l2.length)
    (k : XQ E Q ex ⟨st.tm, (b, .cells T (xs.set off (.app i (Enc.sz α) (Enc.encL (l ++ l2))))) :: Jv b st.hp, (i, some ⟨e, Enc.sz α, (Enc.encL (l ++ l2)).length, []⟩) :: Jv i st.tk, st.nx, st.nt, st.df⟩) : XQ E Q ex st := by
  intro V a w hr
  obtain ⟨V', H, L, e1, e2, e3, e4⟩ := hr.h.settle hi
  have hn' : n = (Enc.encL l).length + (Enc.encL l2).length := by rw [Enc.len, Enc.len]; exact hn
  obtain ⟨hlt, o, ho, vs, rfl, hvs⟩ := hr.h.own b _ hb
  obtain ⟨u, hu, hur⟩ := hvs.2 off _ hx
  have hy := settle_reads hr.h hi hn' (YU l2) hur L e1 e2 e3 e4
  rw [← Enc.app] at hy
  have hcells : ∀ j B, W0 ((b, HB.cells T (xs.set off (.app i (Enc.sz α) (Enc.encL (l ++ l2))))) :: Jv b st.hp) j = some B → ∃ B0, W0 st.hp j = some B0 := fun j B hj => by
    rw [Yk, Qn] at hj
    split at hj
    · rename_i e5; subst e5; exact ⟨_, hb⟩
    · exact ⟨_, hj⟩
  have hrels : rels V' w (xs.set off (.app i (Enc.sz α) (Enc.encL (l ++ l2)))) vs := by
    have h2 := hvs.mono L
    refine ⟨by rw [List.length_set]; exact h2.1, fun j x hj => ?_⟩
    rw [List.getElem?_set] at hj
    split at hj
    · rename_i e5; subst e5
      split at hj
      · cases hj; exact ⟨u, hu, hy⟩
      · cases hj
    · exact h2.2 j x hj
  refine k V' a w ⟨⟨H.ext, H.le0, H.sz, H.sub, fun j B hj => ?_, fun i' j A B hi' hj e5 => ?_, fun j B hj => ?_, fun j T' hj => ?_, fun i' j T' U g hi' hj => ?_⟩, e1.trans hr.nx, hr.nt, hr.df.le L, fun t' x ht' => (hr.tm t' x ht').mono L⟩
  · have hj' := hj
    rw [Yk, Qn] at hj
    split at hj
    · rename_i e5; subst e5; cases hj
      obtain ⟨h5, o', h6, -⟩ := H.own b _ hb
      have hι : V'.ι b = V.ι b := L.ι b hlt
      exact ⟨h5, _, by rw [hι]; exact ho, vs, rfl, hrels⟩
    · exact H.own j B hj
  · obtain ⟨A0, hA⟩ := hcells i' A hi'
    obtain ⟨B0, hB⟩ := hcells j B hj
    exact H.inj i' j A0 B0 hA hB e5
  · obtain ⟨B0, hB⟩ := hcells j B hj
    exact H.new j B0 hB
  · have hl : ∀ q, W0 ((i, some (Tok.mk e (Enc.sz α) (Enc.encL (l ++ l2)).length [])) :: Jv i st.tk) q = W0 ((i, some (Tok.mk e (Enc.sz α) n [])) :: st.tk) q := fun q => by
      rw [Yk, Qn, Qn, Enc.len, List.length_append, hn]
    dsimp only at hj
    rw [hl] at hj
    obtain ⟨b1, b2, ys, b3, b4⟩ := H.tok j T' hj
    exact ⟨b1, b2, ys, b3, fun g hg => ⟨(b4 g hg).1, (b4 g hg).2.1, fun q B hq => by
      obtain ⟨B0, hB⟩ := hcells q B hq
      exact (b4 g hg).2.2 q B0 hB⟩⟩
  · have hl : ∀ q, W0 ((i, some (Tok.mk e (Enc.sz α) (Enc.encL (l ++ l2)).length [])) :: Jv i st.tk) q = W0 ((i, some (Tok.mk e (Enc.sz α) n [])) :: st.tk) q := fun q => by
      rw [Yk, Qn, Qn, Enc.len, List.length_append, hn]
    dsimp only at hi' hj
    rw [hl] at hi' hj
    exact H.tki i' j T' U g hi' hj
end
section
variable {E : Env} {st : St} {dd : Option Tmp} {ty : TypeId} {pos : String} {af : Array Edge} {g : Option (Nat × Bool)} {α : Type} [Enc α] [EncLen α]
theorem enc1_ne (z : α) : Enc.encL [z] ≠ [] := by rw [Enc.one]; simp
theorem OpOK.appendH {t e by_ i : Nat} {o1 o2 : Operand} {y : CA} {l : List α} {z : α} (ht : QT E.P t = some (e, Enc.sz α)) (hte : Ya E.P e = some (Enc.sz α, by_)) (hb : Nat.ble by_ 100000 = true)
    (h1 : ev st.tm o1 = some (.v (.one (.app i (Enc.sz α) (Enc.encL l))))) (hi : W0 st.tk i = some (some ⟨e, Enc.sz α, (Enc.encL l).length, []⟩)) (h2 : ev st.tm o2 = some (.v (.one y))) (hs : SlE y [z]) (hm : Nat.ble (l.length + 1) 1000000000 = true) :
    OpOK E ⟨dd, .call { callee := .builtin .append, args := #[o1, o2], argTypes := #[t, t] }, ty, pos, af, g⟩ st (.v (.one (.apv i (Enc.sz α) ((Enc.encL l).length + 1) (Enc.encL l)))) ⟨st.hp, (i, some ⟨e, Enc.sz α, (Enc.encL l).length + 1, (Enc.encL [z]).flatten⟩) :: Jv i st.tk, st.nx⟩ := by
  have := OpOK.appendP (E := E) (dd := dd) (ty := ty) (pos := pos) (af := af) (g := g) (n0 := (Enc.encL l).length) (es := Enc.encL l) (pv0 := []) ht hte (Nat.le_of_ble_eq_true hb) h1 (fun V w v h => app_apv h) hi (by simp) h2 hs.sl (by rw [Enc.len, Enc.len]; exact Nat.le_of_ble_eq_true hm) (enc1_ne z)
  rw [Enc.len [z], List.nil_append] at this
  exact this
theorem lt_H (l : List α) : (cond (decide (0 ≤ (l.length : Int))) (Nat.blt (l.length : Int).toNat ((Enc.encL l).length + 1)) false) = true := by
  rw [decide_eq_true (by omega), cond_true, Int.toNat_natCast, Enc.len]
  exact Nat.ble_eq_true_of_le (Nat.le_refl _)
theorem OpOK.storeH {t i e : Nat} {ag : Bool} {o1 o2 : Operand} {y y' : AV} {l : List α} {z : α} (v : α) (ht : Jn E.P t = some (ag, Enc.sz α)) (h1 : ev st.tm o1 = some (.v (.one (.tp i ((Enc.encL l).length + 1) ((l.length : Int).toNat * Enc.sz α))))) (h2 : ev st.tm o2 = some (.v y)) (hs : ASub y y') (he : y'.cells = (Enc.enc v).map CA.d)
    (hi : W0 st.tk i = some (some ⟨e, Enc.sz α, (Enc.encL l).length + 1, (Enc.encL [z]).flatten⟩)) (hdd : dd = none) :
    OpOK E ⟨dd, .store t o1 o2, ty, pos, af, g⟩ st (.tup []) ⟨st.hp, (i, some ⟨e, Enc.sz α, (Enc.encL l).length + 1, (Enc.encL [v]).flatten⟩) :: Jv i st.tk, st.nx⟩ :=
  OpOK.storeP (l := [z]) (v := v) (k0 := l.length) (m := 0) ht h1 h2 hs he hi (by rw [Enc.len]; rfl) rfl (Nat.zero_lt_one) hdd
theorem n_H (l : List α) (x : α) : (Enc.encL l).length + 1 = l.length + [x].length := by rw [Enc.len]; rfl
theorem Yr {t e by_ i : Nat} {o1 o2 : Operand} {y : CA} {l l2 : List α} (ht : QT E.P t = some (e, Enc.sz α)) (hte : Ya E.P e = some (Enc.sz α, by_)) (hb : Nat.ble by_ 100000 = true)
    (h1 : ev st.tm o1 = some (.v (.one (.apv i (Enc.sz α) (Enc.encL l).length [])))) (hi : W0 st.tk i = some (some ⟨e, Enc.sz α, (Enc.encL l).length, (Enc.encL l).flatten⟩)) (h2 : ev st.tm o2 = some (.v (.one y))) (hs : SlE y l2) (hne : l2.isEmpty = false) (hm : Nat.ble (l.length + l2.length) 1000000000 = true) :
    OpOK E ⟨dd, .call { callee := .builtin .append, args := #[o1, o2], argTypes := #[t, t] }, ty, pos, af, g⟩ st (.v (.one (.apv i (Enc.sz α) (Enc.encL (l ++ l2)).length []))) ⟨st.hp, (i, some ⟨e, Enc.sz α, (Enc.encL (l ++ l2)).length, (Enc.encL (l ++ l2)).flatten⟩) :: Jv i st.tk, st.nx⟩ := by
  have hne' : Enc.encL l2 ≠ [] := fun h => by
    have := congrArg List.length h
    rw [Enc.len] at this
    cases l2 with
    | nil => cases hne
    | cons a b => simp at this
  have := OpOK.appendP (E := E) (dd := dd) (ty := ty) (pos := pos) (af := af) (g := g) (n0 := (Enc.encL l).length) (es := []) (pv0 := (Enc.encL l).flatten) ht hte (Nat.le_of_ble_eq_true hb) h1 (fun V w v h => h) hi (by rw [Jx _ (YU l)]; simp) h2 hs.sl (by rw [Enc.len, Enc.len]; exact Nat.le_of_ble_eq_true hm) hne'
  rw [← List.flatten_append, ← List.length_append, ← Enc.app] at this
  exact this
theorem ZY {ro : Option Nat} {n : Nat} {Q : Exit → Act → World → Prop} {c : Code} {t i e : Nat} (ht : W0 st.tm t = some (.v (.one (.app i (Enc.sz α) [])))) (hi : W0 st.tk i = some (some ⟨e, Enc.sz α, 0, []⟩))
    (k : XC E ro n Q c ⟨(t, .v (.one (.apv i (Enc.sz α) (Enc.encL ([] : List α)).length []))) :: Jv t st.tm, st.hp, (i, some ⟨e, Enc.sz α, (Enc.encL ([] : List α)).length, (Enc.encL ([] : List α)).flatten⟩) :: Jv i st.tk, st.nx, st.nt, st.df⟩) : XC E ro n Q c st := by
  intro V a w hr
  refine k V a w ⟨?_, hr.nx, hr.nt, hr.df, fun t' x ht' => ?_⟩
  · refine hr.h.congr (fun _ => rfl) (fun j => ?_)
    rw [Yk, Qn]
    split
    · rename_i e1; subst e1; rw [hi, Enc.nil]; rfl
    · rfl
  · rw [Yk, Qn] at ht'
    split at ht'
    · rename_i e1; subst e1; cases ht'
      have := app_apv0 (hr.tm t _ ht)
      show (CA.apv i (Enc.sz α) (Enc.encL ([] : List α)).length []).rel V w _
      rw [Enc.nil]; exact this
    · exact hr.tm t' x ht'
end
section
variable {E : Env} {st : St} {dd : Option Tmp} {ty : TypeId} {pos : String} {af : Array Edge} {g : Option (Nat × Bool)}
theorem RO.loadCol {t b m0 sz f : Nat} {T : TypeId} {xs : List CA} {x : Operand} {col : List Int} {m v : Int} (ht : Jn E.P t = some (false, m0)) (hx : ev st.tm x = some (.v (.one (.ptr b (0 + m.toNat * sz + f))))) (hb : W0 st.hp b = some (.cells T xs))
    (hc : (List.range col.length).map (fun j => xs[j * sz + f]?) = col.map fun n => some (Wg n)) (hv : J1 col m = some v) : RO E ⟨dd, .load t x, ty, pos, af, g⟩ st (Wr v) := by
  obtain ⟨k, rfl, hk⟩ := GN hv
  have h1 := congrArg (fun l : List (Option CA) => l[k]?) hc
  have hlt := (List.getElem?_eq_some_iff.1 hk).1
  rw [List.getElem?_map, List.getElem?_map, List.getElem?_range hlt, hk] at h1
  have h2 := Option.some.inj h1
  refine Q7 (y := Wg v) ht hx hb ?_
  rw [Int.toNat_natCast, Nat.zero_add]
  exact h2
end
section
variable {E : Env} {st : St} {dd : Option Tmp} {ty : TypeId} {pos : String} {af : Array Edge} {g : Option (Nat × Bool)}
theorem OpOK.lit2E {α : Type} [Enc α] (v0 v1 : α) {t e : Nat} {zs : List Value} {o0 o1 : Operand} {x0 x1 : AV} {ys : List CA} (ht : QT E.P t = some (e, Enc.sz α)) (hze : Jg E.P e = some zs) (hzl : zs.length = Enc.sz α) (hz : zs.all (·.oneCell') = true) (hpos : 0 < Enc.sz α) (hlen : 2 * Enc.sz α ≤ 16777216)
    (h0 : ev st.tm o0 = some (.v x0)) (h1 : ev st.tm o1 = some (.v x1)) (hf : Yy (JB (Enc.sz α) 2) (Je zs 2) [(0, x0), (1, x1)] = some ys) (hs : CSubs ys (Enc.enc v0 ++ Enc.enc v1)) (hel : (Enc.enc v0).length = Enc.sz α ∧ (Enc.enc v1).length = Enc.sz α) :
    OpOK E ⟨dd, .buildSlice t 2 #[(0, o0), (1, o1)], ty, pos, af, g⟩ st (.v (.one (.app st.nx (Enc.sz α) (Enc.encL [v0, v1])))) ⟨st.hp, (st.nx, some ⟨e, Enc.sz α, (Enc.encL [v0, v1]).length, []⟩) :: st.tk, st.nx + 1⟩ :=
  OpOK.litApp (avs := [(0, x0), (1, x1)]) (Enc.encL [v0, v1]) ht hze hzl hz hpos hlen rfl (fun j i x hx => by
    match j, hx with
    | 0, hx => cases hx; exact ⟨o0, rfl, h0⟩
    | 1, hx => cases hx; exact ⟨o1, rfl, h1⟩) hf (by rw [Enc.map]; simpa using hs) (fun x hx => by
    rw [Enc.map] at hx
    obtain ⟨y, hy, rfl⟩ := List.mem_map.1 hx
    simp at hy
    rcases hy with rfl | rfl
    · exact hel.1
    · exact hel.2) (by rw [Enc.len]; rfl)
theorem OpOK.lit3E {α : Type} [Enc α] (v0 v1 v2 : α) {t e : Nat} {zs : List Value} {o0 o1 o2 : Operand} {x0 x1 x2 : AV} {ys : List CA} (ht : QT E.P t = some (e, Enc.sz α)) (hze : Jg E.P e = some zs) (hzl : zs.length = Enc.sz α) (hz : zs.all (·.oneCell') = true) (hpos : 0 < Enc.sz α) (hlen : 3 * Enc.sz α ≤ 16777216)
    (h0 : ev st.tm o0 = some (.v x0)) (h1 : ev st.tm o1 = some (.v x1)) (h2 : ev st.tm o2 = some (.v x2)) (hf : Yy (JB (Enc.sz α) 3) (Je zs 3) [(0, x0), (1, x1), (2, x2)] = some ys) (hs : CSubs ys (Enc.enc v0 ++ Enc.enc v1 ++ Enc.enc v2)) (hel : (Enc.enc v0).length = Enc.sz α ∧ (Enc.enc v1).length = Enc.sz α ∧ (Enc.enc v2).length = Enc.sz α) :
    OpOK E ⟨dd, .buildSlice t 3 #[(0, o0), (1, o1), (2, o2)], ty, pos, af, g⟩ st (.v (.one (.app st.nx (Enc.sz α) (Enc.encL [v0, v1, v2])))) ⟨st.hp, (st.nx, some ⟨e, Enc.sz α, (Enc.encL [v0, v1, v2]).length, []⟩) :: st.tk, st.nx + 1⟩ :=
  OpOK.litApp (avs := [(0, x0), (1, x1), (2, x2)]) (Enc.encL [v0, v1, v2]) ht hze hzl hz hpos hlen rfl (fun j i x hx => by
    match j, hx with
    | 0, hx => cases hx; exact ⟨o0, rfl, h0⟩
    | 1, hx => cases hx; exact ⟨o1, rfl, h1⟩
    | 2, hx => cases hx; exact ⟨o2, rfl, h2⟩) hf (by rw [Enc.map]; simpa using hs) (fun x hx => by
    rw [Enc.map] at hx
    obtain ⟨y, hy, rfl⟩ := List.mem_map.1 hx
    simp at hy
    rcases hy with rfl | rfl | rfl
    · exact hel.1
    · exact hel.2.1
    · exact hel.2.2) (by rw [Enc.len]; rfl)
theorem YP {f : FuncId} {o1 o2 o3 : Operand} {i1 k1 i2 k2 i3 k3 : Nat} {dd : Option Tmp} (h1 : ev st.tm o1 = some (.v (.one (.ptr i1 k1)))) (h2 : ev st.tm o2 = some (.v (.one (.ptr i2 k2)))) (h3 : ev st.tm o3 = some (.v (.one (.ptr i3 k3)))) : RO E ⟨dd, .makeFunc (.func f) #[] #[o1, o2, o3], ty, pos, af, g⟩ st (.v (.one (.fn f [(i1, k1), (i2, k2), (i3, k3)]))) :=
  RO.makeFunc rfl (fun k p hk => by
    match k, hk with
    | 0, hk => cases hk; exact ⟨o1, rfl, h1⟩
    | 1, hk => cases hk; exact ⟨o2, rfl, h2⟩
    | 2, hk => cases hk; exact ⟨o3, rfl, h3⟩)
end
theorem HRel.adoptC {E : Env} {V : Vu} {hp : List (Nat × HB)} {tk : List (Nat × Option Tok)} {w : World} (H0 : HRel E V hp tk w) {i off : Nat} {T : TypeId} {xs : List CA} (e sz : Nat) (hi : W0 hp i = some (.cells T xs)) (hx : xs[off]? = some (.d (.v (.slice none 0 0)))) :
    HRel E (V.tok V.nx 0 (.slice none 0 0) 0 0) ((i, .cells T (xs.set off (.app V.nx sz []))) :: hp) ((V.nx, some ⟨e, sz, 0, []⟩) :: tk) w ∧ V.Le (V.tok V.nx 0 (.slice none 0 0) 0 0) w w := by
  obtain ⟨H, L⟩ := H0.tokNil e sz
  have hl : ∀ (A : HB) j, j ≠ i → W0 ((i, A) :: hp) j = W0 hp j := fun A j hj => by rw [Qn, if_neg (fun h => hj h.symm)]
  obtain ⟨hb, o, ho, vs, hvo, hvs⟩ := H.own i _ hi
  obtain ⟨u, hu, hur⟩ := hvs.2 off _ hx
  have hu0 : u = .slice none 0 0 := by cases hur; rfl
  refine ⟨⟨H.ext, H.le0, H.sz, H.sub, ?_, ?_, ?_, ?_, ?_⟩, L⟩
  · intro j B hj
    by_cases e1 : j = i
    · subst e1
      rw [Qn, if_pos rfl] at hj; cases hj
      refine ⟨hb, o, ho, vs, hvo, by rw [List.length_set]; exact hvs.1, fun m y hy => ?_⟩
      rw [List.getElem?_set] at hy
      split at hy
      · rename_i e2; subst e2
        split at hy
        · cases hy; exact ⟨u, hu, by rw [hu0]; exact Z4 e sz⟩
        · cases hy
      · exact hvs.2 m y hy
    · rw [hl _ j e1] at hj; exact H.own j B hj
  · intro j m A B hj hm e1
    rw [Qn] at hj hm
    split at hj <;> split at hm
    · rename_i a1 a2; exact a1.symm.trans a2
    · rename_i a1 a2; subst a1; exact H.inj _ _ _ _ hi hm e1
    · rename_i a1 a2; subst a2; exact H.inj _ _ _ _ hj hi e1
    · exact H.inj _ _ _ _ hj hm e1
  · intro j B hj
    rw [Qn] at hj
    split at hj
    · rename_i a1; subst a1; exact H.new _ _ hi
    · exact H.new _ _ hj
  · intro j T' hj
    obtain ⟨b1, b2, ys, b3, b4⟩ := H.tok j T' hj
    refine ⟨b1, b2, ys, b3, fun g' hg' => ⟨(b4 g' hg').1, (b4 g' hg').2.1, fun m B hm => ?_⟩⟩
    rw [Qn] at hm
    split at hm
    · rename_i a1; subst a1; exact (b4 g' hg').2.2 _ _ hi
    · exact (b4 g' hg').2.2 _ _ hm
  · exact H.tki
section
variable {E : Env} {st : St}
end
end Go.Proofs.Ytijcchddnnnmdaa
namespace Go.Proofs.Ytijcchddnnnmdaa
open Go.RowKit
set_option linter.unusedSimpArgs false
set_option linter.unusedVariables false
set_option linter.unusedSectionVars false
section
variable {E : Env} {st : St} {dd d : Option Tmp} {ty : TypeId} {pos : String} {af : Array Edge} {g : Option (Nat × Bool)}
theorem RO.indexA {t n sz i off : Nat} {x y : Operand} {m : Int} (ht : Gx E.P t = some (n, sz)) (hx : ev st.tm x = some (.v (.one (.ptr i off)))) (hy : ev st.tm y = some (Wr m)) (hm : (cond (decide (0 ≤ m)) (Nat.blt m.toNat n) false) = true) :
    RO E ⟨d, .indexAddr t x y, ty, pos, af, g⟩ st (.v (.one (.ptr i (off + m.toNat * sz)))) :=
  RO.indexArrOwn ht hx hy (Int.toNat_of_nonneg (of_decide_eq_true (ZV hm))).symm (ZW (Zt hm))
theorem HRel.skip {V : Vu} {hp : List (Nat × HB)} {tk : List (Nat × Option Tok)} {w : World} (h : HRel E V hp tk w) (N : Nat) (hN : V.nx ≤ N) : HRel E { V with nx := N } hp tk w ∧ V.Le { V with nx := N } w w := by
  have hle : V.Le { V with nx := N } w w := ⟨hN, fun _ _ => rfl, fun _ _ => Nat.le_refl _, fun _ _ _ _ => rfl, fun _ _ h => h, fun _ _ _ => rfl, fun _ _ _ _ h => h⟩
  refine ⟨⟨h.ext, h.le0.trans hle, h.sz, h.sub, fun i B hi => ?_, h.inj, h.new, fun i T hi => ?_, h.tki⟩, hle⟩
  · obtain ⟨h1, o, h2, h3⟩ := h.own i B hi
    exact ⟨Nat.lt_of_lt_of_le h1 hN, o, h2, h3.mono hle⟩
  · obtain ⟨h1, h2⟩ := h.tok i T hi
    exact ⟨Nat.lt_of_lt_of_le h1 hN, h2⟩
end
end Go.Proofs.Ytijcchddnnnmdaa
namespace Go.Proofs.Ytijcchddnnnmdaa
open Go.RowKit
set_option linter.unusedSimpArgs false
set_option linter.unusedVariables false
set_option linter.unusedSectionVars false
structure Byt where
  n : Int
def bytC (b : Byt) : List C := [.v (.int .u8 b.n)]
instance : Enc Byt := ⟨1, bytC, fun l => l.map bytC, rfl, fun a b => List.map_append, fun _ => rfl⟩
instance : EncLen Byt := ⟨fun _ => rfl, by decide⟩
section
variable {E : Env} {st : St} {d : Option Tmp} {ty : TypeId} {pos : String} {af : Array Edge} {g : Option (Nat × Bool)}
end
end Go.Proofs.Ytijcchddnnnmdaa
namespace Go.Proofs
open Go.Shelf
def Try.sort54_ren : Go.Shelf.Ren := ⟨fun | 189 => 54 | 125 => 69 | 257 => 68 | 128 => 85 | 129 => 86 | 294 => 76 | 295 => 77 | 296 => 78 | 297 => 79 | 298 => 80 | 299 => 81 | 216 => 82 | 300 => 83 | 301 => 84 | 328 => 90 | 329 => 91 | 330 => 92 | 331 => 93 | 332 => 94 | 215 => 95 | 343 => 99 | n => n, fun | 28 => 54 | 3 => 3 | 46 => 121 | 0 => 0 | 51 => 135 | 53 => 137 | 4 => 4 | 183 => 128 | 182 => 127 | 131 => 103 | 5 => 5 | 9 => 9 | 218 => 142 | 222 => 146 | 228 => 156 | 229 => 157 | n => n, fun | n => n⟩
theorem Try.sort54 : Go.Proofs.Lays.n189 Try.prog Try.sort54_ren := {
  mixed := by kernel_rfl
  f125 := Try.func69.trans (congrArg some (by kernel_rfl))
  f128 := Try.func85.trans (congrArg some (by kernel_rfl))
  f129 := Try.func86.trans (congrArg some (by kernel_rfl))
  f189 := Try.func54.trans (congrArg some (by kernel_rfl))
  f215 := Try.func95.trans (congrArg some (by kernel_rfl))
  f216 := Try.func82.trans (congrArg some (by kernel_rfl))
  f257 := Try.func68.trans (congrArg some (by kernel_rfl))
  f294 := Try.func76.trans (congrArg some (by kernel_rfl))
  f295 := Try.func77.trans (congrArg some (by kernel_rfl))
  f296 := Try.func78.trans (congrArg some (by kernel_rfl))
  f297 := Try.func79.trans (congrArg some (by kernel_rfl))
  f298 := Try.func80.trans (congrArg some (by kernel_rfl))
  f299 := Try.func81.trans (congrArg some (by kernel_rfl))
  f300 := Try.func83.trans (congrArg some (by kernel_rfl))
  f301 := Try.func84.trans (congrArg some (by kernel_rfl))
  f328 := Try.func90.trans (congrArg some (by kernel_rfl))
  f329 := Try.func91.trans (congrArg some (by kernel_rfl))
  f330 := Try.func92.trans (congrArg some (by kernel_rfl))
  f331 := Try.func93.trans (congrArg some (by kernel_rfl))
  f332 := Try.func94.trans (congrArg some (by kernel_rfl))
  f343 := Try.func99.trans (congrArg some (by kernel_rfl))
  t0 := Try.underlying0
  a0 := Try.isAgg0
  z0 := Try.sizeOf0
  v0 := Try.zeroValue0
  t3 := Try.underlying3
  a3 := Try.isAgg3
  z3 := Try.sizeOf3
  v3 := Try.zeroValue3
  t4 := Try.underlying4
  a4 := Try.isAgg4
  z4 := Try.sizeOf4
  v4 := Try.zeroValue4
  t5 := Try.underlying5
  a5 := Try.isAgg5
  z5 := Try.sizeOf5
  v5 := Try.zeroValue5
  t9 := Try.underlying9
  a9 := Try.isAgg9
  z9 := Try.sizeOf9
  v9 := Try.zeroValue9
  t28 := Try.underlying54
  a28 := Try.isAgg54
  z28 := Try.sizeOf54
  v28 := Try.zeroValue54
  t46 := Try.underlying121
  a46 := Try.isAgg121
  z46 := Try.sizeOf121
  v46 := Try.zeroValue121
  t51 := Try.underlying135
  a51 := Try.isAgg135
  z51 := Try.sizeOf135
  v51 := Try.zeroValue135
  t53 := Try.underlying137
  a53 := Try.isAgg137
  z53 := Try.sizeOf137
  v53 := Try.zeroValue137
  t131 := Try.underlying103
  a131 := Try.isAgg103
  z131 := Try.sizeOf103
  v131 := Try.zeroValue103
  t182 := Try.underlying127
  a182 := Try.isAgg127
  z182 := Try.sizeOf127
  v182 := Try.zeroValue127
  t183 := Try.underlying128
  a183 := Try.isAgg128
  z183 := Try.sizeOf128
  v183 := Try.zeroValue128
  t218 := Try.underlying142
  a218 := Try.isAgg142
  z218 := Try.sizeOf142
  v218 := Try.zeroValue142
  t222 := Try.underlying146
  a222 := Try.isAgg146
  z222 := Try.sizeOf146
  v222 := Try.zeroValue146
  t228 := Try.underlying156
  a228 := Try.isAgg156
  z228 := Try.sizeOf156
  v228 := Try.zeroValue156
  t229 := Try.underlying157
  a229 := Try.isAgg157
  z229 := Try.sizeOf157
  v229 := Try.zeroValue157 }
def Try.compact55_ren : Go.Shelf.Ren := ⟨fun | 20 => 55 | n => n, fun | 22 => 54 | 3 => 3 | 4 => 4 | 0 => 0 | n => n, fun | n => n⟩
theorem Try.compact55 : Go.Proofs.Lays2.n20 Try.prog Try.compact55_ren := {
  mixed := by kernel_rfl
  f20 := Try.func55.trans (congrArg some (by kernel_rfl))
  t0 := Try.underlying0
  a0 := Try.isAgg0
  z0 := Try.sizeOf0
  v0 := Try.zeroValue0
  t3 := Try.underlying3
  a3 := Try.isAgg3
  z3 := Try.sizeOf3
  v3 := Try.zeroValue3
  t4 := Try.underlying4
  a4 := Try.isAgg4
  z4 := Try.sizeOf4
  v4 := Try.zeroValue4
  t22 := Try.underlying54
  a22 := Try.isAgg54
  z22 := Try.sizeOf54
  v22 := Try.zeroValue54
  i3 := by kernel_rfl }
end Go.Proofs
namespace Go.Proofs.Ytijcchddnnnmdaa
open Go.RowKit Go.Sort Go.Shelf
set_option linter.unusedSimpArgs false
set_option linter.unusedVariables false
set_option linter.unusedSectionVars false
theorem HRel.redo {E : Env} {V : Vu} {hp : List (Nat × HB)} {tk : List (Nat × Option Tok)} {w w' : World} (h : HRel E V hp tk w) {i n e sz g cap : Nat} {pv pv' : List C} {cur' : Array Value} {us : List Value} (hi : W0 tk i = some (some ⟨e, sz, n, pv⟩)) (hpl : pv.length = n * sz)
    (hv : V.κ i n = .slice (some ⟨g, 0, none⟩) n cap) (hg : w.grownBy w' (some g)) (hnew : w'.heap[g]? = some (.cells cur' e (0, 0))) (hcs : cur'.size = cap * sz) (htake : cur'.toList.take (n * sz) = us) (hul : us.length = n * sz) (hpl' : pv'.length = n * sz)
    (hpv' : ∀ (j : Nat) (c : C), pv'[j]? = some c → ∃ u, us[j]? = some u ∧ ∀ S : Nat → Nat → Prop, Reads S w' c u) :
    HRel E V hp ((i, some ⟨e, sz, n, pv'⟩) :: tk) w' ∧ V.Le V w w' := by
  obtain ⟨h1, hcu, xs, ⟨hown, hpl0, hpv⟩, hg2⟩ := h.tok i _ hi
  dsimp only at hcu hown hg2 hpl0 hpv
  have hlim : (Tok.mk e sz n pv).lim = 0 := by show n * sz - pv.length = _; omega
  have hlim' : (Tok.mk e sz n pv').lim = 0 := by show n * sz - pv'.length = _; omega
  have hgb : (V.κ i n).ownBlock = some g := by rw [hv]; rfl
  obtain ⟨a1, a2, a3⟩ := hg2 g hgb
  rw [hlim] at a2
  obtain ⟨hxl, hx⟩ := hown
  rcases hx with ⟨hv0, -⟩ | ⟨gg, cap', cur, hvv, hb0, hcells, hncap, hcm, hcs0, htake0⟩
  · rw [hv] at hv0; cases hv0
  rw [hv] at hvv
  injection hvv with q1 q2 q3
  injection q1 with q1
  injection q1 with q1
  subst q1 q3
  have hne : ∀ k o, k ≠ g → w.heap[k]? = some o → w'.heap[k]? = w.heap[k]? := fun k o hk ho => hg.block k (Y2 ho) fun e1 => hk (Option.some.inj e1)
  have hSg : ∀ b o, V.S b o → b ≠ g := fun b o hs e1 => by subst e1; have := a2 o hs; omega
  have hcell : ∀ b o, V.S b o → w'.cell? ⟨b, o, none⟩ = w.cell? ⟨b, o, none⟩ := fun b o hs =>
    World.cell?_of_block (w := w) (a := ⟨b, o, none⟩) (hg.block b (h.sz b o hs) fun e1 => hSg b o hs (Option.some.inj e1))
  have hle : V.Le V w w' := ⟨Nat.le_refl _, fun _ _ => rfl, fun _ _ => Nat.le_refl _, fun _ _ _ _ => rfl, fun _ _ h => h, hcell, fun b o hs ds hd => by rw [hne b _ (hSg b o hs) hd]; exact hd⟩
  refine ⟨⟨?_, h.le0.trans hle, fun b o hs => Nat.lt_of_lt_of_le (h.sz b o hs) hg.size, h.sub, ?_, h.inj, h.new, ?_, ?_⟩, hle⟩
  · refine ⟨hg.os.trans h.ext.os, hg.tape.trans h.ext.tape, hg.output.trans h.ext.output, Nat.le_trans h.ext.size hg.size, fun k hk hM => (hg.block k (Nat.lt_of_lt_of_le hk h.ext.size) fun e1 => ?_).trans (h.ext.block k hk hM)⟩
    have e1 := Option.some.inj e1
    rcases a1 with a1 | a1
    · omega
    · rw [← e1] at a1; exact hM a1
  · intro j B hj
    obtain ⟨b1, o, ho, hB⟩ := h.own j B hj
    exact ⟨b1, o, (hne _ o (a3 j B hj) ho).trans ho, hB.mono hle⟩
  · intro j T hj
    rw [Qn] at hj
    split at hj
    · rename_i e1; subst e1; cases hj
      refine ⟨h1, hcu, us, ⟨⟨hul, .inr ⟨g, cap, cur', hv, hb0, hnew, hncap, hcm, hcs, htake⟩⟩, by dsimp only; omega, fun j c hj => ?_⟩, fun g' hg' => ?_⟩
      · rw [hlim', Nat.zero_add]
        obtain ⟨u, h3, h4⟩ := hpv' j c hj
        exact ⟨u, h3, h4 _⟩
      · obtain ⟨b1, b2, b3⟩ := hg2 g' hg'
        refine ⟨b1, fun o hs => ?_, b3⟩
        have := b2 o hs
        rw [hlim] at this; omega
    · rename_i e1
      have e2 : j ≠ i := fun h => e1 h.symm
      obtain ⟨b1, bcu, ys, bown, bg2⟩ := h.tok j T hj
      refine ⟨b1, bcu, ys, bown.keepW rfl (bown.1.kept hg ?_) hle.lx, bg2⟩
      cases hb : (V.κ j T.n).ownBlock with
      | none => exact .inl rfl
      | some g' =>
        refine .inr fun e3 => e2 ?_
        cases e3
        exact h.tki j i T _ g hj hi hb hgb
  · intro j k' T U g' hj hk' ej ek
    rw [Qn] at hj hk'
    split at hj <;> split at hk'
    · rename_i e1 e2; exact e1.symm.trans e2
    · rename_i e1 e2; subst e1; cases hj; exact h.tki _ _ _ _ g' hi hk' ej ek
    · rename_i e1 e2; subst e2; cases hk'; exact h.tki _ _ _ _ g' hj hi ej ek
    · exact h.tki j k' T U g' hj hk' ej ek
theorem HRel.shrink {E : Env} {V : Vu} {hp : List (Nat × HB)} {tk : List (Nat × Option Tok)} {w : World} (h : HRel E V hp tk w) {i n n' e sz g cap : Nat} {pv pv' : List C} (hi : W0 tk i = some (some ⟨e, sz, n, pv⟩)) (hpl : pv.length = n * sz)
    (hv : V.κ i n = .slice (some ⟨g, 0, none⟩) n cap) (hn : n' ≤ n) (hpv : pv' = pv.take (n' * sz)) :
    HRel E (V.tok V.nx n' (.slice (some ⟨g, 0, none⟩) n' cap) 0 0) hp ((V.nx, some ⟨e, sz, n', pv'⟩) :: (i, none) :: tk) w ∧ V.Le (V.tok V.nx n' (.slice (some ⟨g, 0, none⟩) n' cap) 0 0) w w := by
  have hle := tok_le (V := V) (g := 0) (m := 0) (n := n') (v := .slice (some ⟨g, 0, none⟩) n' cap) (w := w) (w' := w) (.inl rfl) (fun b o hs => rfl) (fun b o hs ds hd => hd)
  have hS : ∀ b o, (V.tok V.nx n' (.slice (some ⟨g, 0, none⟩) n' cap) 0 0).S b o → V.S b o := fun b o hs => by
    rcases hs with hs | ⟨-, hs⟩
    · exact hs
    · omega
  obtain ⟨h1, hcu, xs, ⟨hown, hpl0, hpv0⟩, hg2⟩ := h.tok i _ hi
  dsimp only at hcu hown hg2 hpl0 hpv0
  have hlim : (Tok.mk e sz n pv).lim = 0 := by show n * sz - pv.length = _; omega
  have hnsz : n' * sz ≤ n * sz := Nat.mul_le_mul_right _ hn
  have hpl' : pv'.length = n' * sz := by rw [hpv, List.length_take]; omega
  have hlim' : (Tok.mk e sz n' pv').lim = 0 := by show n' * sz - pv'.length = _; omega
  have hgb : (V.κ i n).ownBlock = some g := by rw [hv]; rfl
  obtain ⟨a1, a2, a3⟩ := hg2 g hgb
  rw [hlim] at a2 hpv0
  obtain ⟨hxl, hx⟩ := hown
  rcases hx with ⟨hv0, -⟩ | ⟨gg, cap', cur, hvv, hb0, hcells, hncap, hcm, hcs0, htake0⟩
  · rw [hv] at hv0; cases hv0
  rw [hv] at hvv
  injection hvv with q1 q2 q3
  injection q1 with q1
  injection q1 with q1
  subst q1 q3
  have hκ : ∀ j m, j < V.nx → (V.tok V.nx n' (.slice (some ⟨g, 0, none⟩) n' cap) 0 0).κ j m = V.κ j m := fun j m hj => by
    show (if j = V.nx ∧ m = n' then _ else V.κ j m) = _
    rw [if_neg (by rintro ⟨e1, -⟩; omega)]
  have hcu' : ∀ j, j < V.nx → (V.tok V.nx n' (.slice (some ⟨g, 0, none⟩) n' cap) 0 0).cu j = V.cu j := fun j hj => by
    show (if j = V.nx then n' else V.cu j) = _
    rw [if_neg (by omega)]
  have hold : ∀ j T, W0 ((V.nx, some ⟨e, sz, n', pv'⟩) :: (i, none) :: tk) j = some (some T) → (j = V.nx ∧ T = ⟨e, sz, n', pv'⟩) ∨ (j ≠ i ∧ j < V.nx ∧ W0 tk j = some (some T)) := fun j T hj => by
    rw [Qn] at hj
    split at hj
    · rename_i e1; cases hj; exact .inl ⟨e1.symm, rfl⟩
    · rw [Qn] at hj
      split at hj
      · cases hj
      · rename_i e1 e2; exact .inr ⟨fun e3 => e2 e3.symm, (h.tok j T hj).1, hj⟩
  refine ⟨⟨h.ext, h.le0.trans hle, fun b o hs => h.sz b o (hS b o hs), fun b o hs => h.sub b o (hS b o hs), fun j B hj => ?_, h.inj, fun j B hj => ⟨(h.new j B hj).1, fun o hs => (h.new j B hj).2 o (hS _ _ hs)⟩, ?_, ?_⟩, hle⟩
  · obtain ⟨b1, o, ho, hB⟩ := h.own j B hj
    exact ⟨Nat.lt_of_lt_of_le b1 hle.nx, o, ho, hB.mono hle⟩
  · intro j T hj
    rcases hold j T hj with ⟨rfl, rfl⟩ | ⟨-, hlt, hj⟩
    · refine ⟨by show V.nx < max V.nx (V.nx + 1); omega, tok_cu.symm, xs.take (n' * sz), ⟨?_, by dsimp only; omega, fun q c hq => ?_⟩, fun g' hg' => ?_⟩
      · show w.ownsRow 0 e sz ((V.tok V.nx n' (.slice (some ⟨g, 0, none⟩) n' cap) 0 0).κ V.nx n') n' _
        rw [Y5]
        refine ⟨by rw [List.length_take]; omega, .inr ⟨g, cap, cur, rfl, hb0, hcells, by omega, hcm, hcs0, ?_⟩⟩
        rw [← htake0, List.take_take, Nat.min_eq_left hnsz]
      · rw [hlim', Nat.zero_add]
        have hlt : q < n' * sz := by have := (List.getElem?_eq_some_iff.1 hq).1; dsimp only at this; omega
        rw [hpv, List.getElem?_take_of_lt hlt] at hq
        obtain ⟨u, h3, h4⟩ := hpv0 q c hq
        rw [Nat.zero_add] at h3
        exact ⟨u, by rw [List.getElem?_take_of_lt hlt]; exact h3, h4.mono hle.S hle.cell⟩
      · have hg3 : ((V.tok V.nx n' (.slice (some ⟨g, 0, none⟩) n' cap) 0 0).κ V.nx n').ownBlock = some g' := hg'
        rw [Y5] at hg3
        cases hg3
        refine ⟨a1, fun o hs => ?_, a3⟩
        have := a2 o (hS _ _ hs)
        omega
    · obtain ⟨b1, bcu, ys, bown, bg2⟩ := h.tok j T hj
      refine ⟨Nat.lt_of_lt_of_le b1 hle.nx, by rw [hcu' j b1]; exact bcu, ys, bown.keepW (hκ j _ b1) bown.1 hle.lx, fun g' hg' => ?_⟩
      rw [hκ j _ b1] at hg'
      obtain ⟨c1, c2, c3⟩ := bg2 g' hg'
      exact ⟨c1, fun o hs => c2 o (hS _ _ hs), c3⟩
  · intro j k T U g' hj hk ej ek
    rcases hold j T hj with ⟨rfl, rfl⟩ | ⟨j1, j2, j3⟩ <;> rcases hold k U hk with ⟨rfl, rfl⟩ | ⟨k1, k2, k3⟩
    · rfl
    · rw [hκ k _ k2] at ek
      have ej2 : ((V.tok V.nx n' (.slice (some ⟨g, 0, none⟩) n' cap) 0 0).κ V.nx n').ownBlock = some g' := ej
      rw [Y5] at ej2
      cases ej2
      exact absurd (h.tki _ _ _ _ g k3 hi ek hgb) k1
    · rw [hκ j _ j2] at ej
      have ek2 : ((V.tok V.nx n' (.slice (some ⟨g, 0, none⟩) n' cap) 0 0).κ V.nx n').ownBlock = some g' := ek
      rw [Y5] at ek2
      cases ek2
      exact absurd (h.tki _ _ _ _ g j3 hi ej hgb) j1
    · rw [hκ j _ j2] at ej
      rw [hκ k _ k2] at ek
      exact h.tki j k T U g' j3 k3 ej ek
theorem JK (l : List Int) : (Enc.encL l).flatten = l.map fun x => C.v (.int .i64 x) := by
  rw [Enc.map]
  induction l with
  | nil => rfl
  | cons x l ih => rw [List.map_cons, List.flatten_cons, ih]; rfl
theorem ints_row {E : Env} {V : Vu} {hp : List (Nat × HB)} {tk : List (Nat × Option Tok)} {w : World} (h : HRel E V hp tk w) {i n e : Nat} {l : List Int} (hi : W0 tk i = some (some ⟨e, 1, n, (Enc.encL l).flatten⟩)) (hn : l.length = n) :
    (V.κ i n = .slice none 0 0 ∧ l = []) ∨ ∃ g cap cur, V.κ i n = .slice (some ⟨g, 0, none⟩) n cap ∧ g < w.heap.size ∧ w.heap[g]? = some (.cells cur e (0, 0)) ∧ n ≤ cap ∧ cap ≤ maxLen ∧ cur.size = cap * 1 ∧ cur.toList.take l.length = l.map (Value.int .i64) := by
  obtain ⟨h1, hcu, xs, ⟨hown, hpl, hpv⟩, -⟩ := h.tok i _ hi
  dsimp only at hcu hown hpl hpv
  have hlen : (Enc.encL l).flatten.length = n := by rw [JK, List.length_map, hn]
  have hlim : (Tok.mk e 1 n (Enc.encL l).flatten).lim = 0 := by show n * 1 - (Enc.encL l).flatten.length = 0; omega
  rw [hlim] at hpv
  rcases hown.2 with ⟨hv0, hn0⟩ | ⟨g, cap, cur, hv, -, hcells, hncap, hcm, hcs, htake⟩
  · exact .inl ⟨by rw [hv0], List.eq_nil_of_length_eq_zero (by omega)⟩
  · refine .inr ⟨g, cap, cur, hv, Y2 hcells, hcells, hncap, hcm, hcs, ?_⟩
    rw [hn, show n = n * 1 by omega, htake]
    apply List.ext_getElem?
    intro j
    rw [List.getElem?_map]
    cases hj : l[j]? with
    | none =>
      have : l.length ≤ j := List.getElem?_eq_none_iff.1 hj
      rw [Option.map_none, List.getElem?_eq_none_iff, hown.1]; omega
    | some x =>
      obtain ⟨u, h3, h4⟩ := hpv j (.v (.int .i64 x)) (by rw [JK, List.getElem?_map, hj]; rfl)
      rw [Nat.zero_add] at h3
      cases h4
      exact h3
theorem ints_new {l : List Int} {w : World} : ∀ (j : Nat) (c : C), (Enc.encL l).flatten[j]? = some c → ∃ u, (l.map (Value.int .i64))[j]? = some u ∧ ∀ S : Nat → Nat → Prop, Reads S w c u := fun j c hj => by
  rw [JK, List.getElem?_map] at hj
  cases hx : l[j]? with
  | none => rw [hx] at hj; cases hj
  | some x => rw [hx] at hj; cases hj; exact ⟨.int .i64 x, by rw [List.getElem?_map, hx]; rfl, fun S => .v _ rfl⟩
def Xb (x : Int) : List Int → List Int
  | [] => [x]
  | y :: l => cond (decide (x ≤ y)) (x :: y :: l) (y :: Xb x l)
def KC : List Int → List Int
  | [] => []
  | x :: l => Xb x (KC l)
theorem insI_perm (x : Int) : ∀ l : List Int, (Xb x l).Perm (x :: l)
  | [] => .refl _
  | y :: l => by
    unfold Xb
    cases decide (x ≤ y) with
    | true => exact .refl _
    | false => exact ((insI_perm x l).cons y).trans (.swap x y l)
theorem Zo : ∀ l : List Int, (KC l).Perm l
  | [] => .refl _
  | x :: l => (insI_perm x _).trans ((Zo l).cons x)
theorem insI_pair (x : Int) : ∀ l : List Int, l.Pairwise (· ≤ ·) → (Xb x l).Pairwise (· ≤ ·)
  | [], _ => List.pairwise_singleton _ _
  | y :: l, h => by
    have h0 := List.pairwise_cons.1 h
    unfold Xb
    by_cases e : x ≤ y
    · rw [decide_eq_true e]
      refine List.pairwise_cons.2 ⟨fun z hz => ?_, h⟩
      rcases List.mem_cons.1 hz with rfl | hz
      · exact e
      · exact Int.le_trans e (h0.1 z hz)
    · rw [decide_eq_false e]
      refine List.pairwise_cons.2 ⟨fun z hz => ?_, insI_pair x l h0.2⟩
      rcases List.mem_cons.1 ((insI_perm x l).mem_iff.1 hz) with rfl | hz
      · omega
      · exact h0.1 z hz
theorem sortI_pair : ∀ l : List Int, (KC l).Pairwise (· ≤ ·)
  | [] => .nil
  | x :: l => insI_pair x _ (sortI_pair l)
theorem sortI_merge (l : List Int) : KC l = l.mergeSort fun x y => decide (x ≤ y) := by
  refine List.Perm.eq_of_pairwise (le := fun x y : Int => x ≤ y) (fun a b _ _ h1 h2 => Int.le_antisymm h1 h2) (sortI_pair l) ?_ ((Zo l).trans (List.mergeSort_perm l _).symm)
  have := List.pairwise_mergeSort (le := fun x y : Int => decide (x ≤ y)) (fun a b c h1 h2 => by simp at *; omega) (fun a b => by simp; omega) l
  exact this.imp fun h => by simpa using h
def YZ (l : List Int) : Option (List Int) := cond (Nat.ble l.length 1000000000) (some (KC l)) none
def JM (l : List Int) (n : Nat) : Option (List Int) := cond (Nat.beq (Enc.encL l).length n) (some (Lib.compact l)) none
theorem args1 {V : Vu} {w : World} {x : AV} {vs : Array Value} (h : argsRel V w [x] vs) : ∃ u, vs = #[u] ∧ x.rel V w u := by
  obtain ⟨u, h1, h2⟩ := h.2 0 x rfl
  refine ⟨u, ?_, h2⟩
  have h0 : vs.size = 1 := h.1
  apply Array.ext_getElem?
  intro k
  cases k with
  | zero => rw [h1]; rfl
  | succ k => simp [h0]
theorem ZJ (a0 : List Int) (r : List Int) (h0 : YZ a0 = some r) :
    CallM Try.prog 54 [.one (.apv 0 1 (Enc.encL a0).length [])] ⟨[], [(0, some ⟨3, 1, (Enc.encL a0).length, (Enc.encL a0).flatten⟩)], 1⟩ (Qr []) ⟨[], [(0, some ⟨3, 1, (Enc.encL a0).length, (Enc.encL r).flatten⟩)], 1⟩ := by
  unfold YZ at h0
  cases hg : Nat.ble a0.length 1000000000 with
  | false => rw [hg] at h0; cases h0
  | true =>
    rw [hg] at h0
    have hr : KC a0 = r := Option.some.inj h0
    have hb := Nat.le_of_ble_eq_true hg
    have hlr : r.length = a0.length := by rw [← hr]; exact (Zo _).length_eq
    refine ⟨enters_of Try.func54 (by kernel_rfl) rfl, fun E V w vs hP H hn hargs => ?_⟩
    obtain ⟨u, rfl, hu⟩ := args1 hargs
    obtain ⟨-, -, hk, -⟩ := hu
    rw [hk]
    rw [Enc.len] at H hk ⊢
    rcases ints_row (i := 0) (e := 3) (n := a0.length) (l := a0) H rfl rfl with ⟨hv, hl⟩ | ⟨g, cap, cur, hv, hlt, hcells, hncap, hcm, hcs, htake⟩
    · rw [hv]
      refine (Any.slices_Sort_int_none Try.sort54 none 0 w).mono ?_
      rintro e w' ⟨rfl, rfl⟩
      refine ⟨_, V, rfl, ?_, hn, Vu.Le.refl V _, ⟨#[], rfl, rfl, fun i x hx => by cases hx⟩⟩
      have : r = [] := List.eq_nil_of_length_eq_zero (by rw [hlr, hl]; rfl)
      subst this
      subst hl
      exact H
    · rw [hv]
      refine (Any.slices_Sort_int Try.sort54 g 0 cap a0 w (holds_of_blockI hcells htake) hlt (by omega)).mono ?_
      rintro e w' ⟨rfl, q, os, rfl⟩
      have ht := heap_sortedI (n := q) (os := os) (a0.mergeSort fun x y => decide (x ≤ y)).toArray hcells
      have e1 : (a0.mergeSort fun x y => decide (x ≤ y)) = r := by rw [← sortI_merge]; exact hr
      rw [e1] at ht ⊢
      obtain ⟨H2, L2⟩ := H.redo (pv' := (Enc.encL r).flatten) rfl (by rw [JK, List.length_map]; omega) hv (grownBy_sortedI (n := q) (os := os) r.toArray) ht (by simp [putCells]; omega) (by rw [show a0.length * 1 = r.length by omega]; exact take_putCellsI cur r (by omega)) (by rw [List.length_map]; omega) (by rw [JK, List.length_map]; omega) ints_new
      exact ⟨_, V, rfl, H2.congr (fun _ => rfl) (fun j => by rw [Qn, Qn, Qn]; split <;> rfl), hn, L2, ⟨#[], rfl, rfl, fun i x hx => by cases hx⟩⟩
theorem YE (a0 : List Int) (a1 : Nat) (r : List Int) (h0 : JM a0 a1 = some r) :
    CallM Try.prog 55 [.one (.apv 0 1 a1 [])] ⟨[], [(0, some ⟨3, 1, a1, (Enc.encL a0).flatten⟩)], 1⟩ (Qr [.one (.app 1 1 (Enc.encL r))]) ⟨[], [(1, some ⟨3, 1, (Enc.encL r).length, []⟩)], 2⟩ := by
  unfold JM at h0
  cases hg : Nat.beq (Enc.encL a0).length a1 with
  | false => rw [hg] at h0; cases h0
  | true =>
    rw [hg] at h0
    have hr : Lib.compact a0 = r := Option.some.inj h0
    have hb : a0.length = a1 := by rw [← Nat.eq_of_beq_eq_true hg, Enc.len]
    subst hb
    have hlr : r.length ≤ a0.length := by rw [← hr]; exact Lib.compact_length_le a0
    refine ⟨enters_of Try.func55 (by kernel_rfl) rfl, fun E V w vs hP H hn hargs => ?_⟩
    obtain ⟨u, rfl, hu⟩ := args1 hargs
    obtain ⟨hu1, -, hk, -⟩ := hu
    rw [hk]
    rcases ints_row (i := 0) (e := 3) (n := a0.length) (l := a0) H rfl rfl with ⟨hv, hl⟩ | ⟨g, cap, cur, hv, hlt, hcells, hncap, hcm, hcs, htake⟩
    · rw [hv]
      refine (Any.slices_Compact_int_empty Try.compact55 none 0 w).mono ?_
      rintro e w' ⟨rfl, rfl⟩
      have e0 : r = [] := List.eq_nil_of_length_eq_zero (by rw [hl] at hlr; simpa using hlr)
      subst e0
      obtain ⟨H2, L2⟩ := H.tokNil 3 1
      have h3 := Z4 (V := V) (w := w') 3 1
      rw [show V.nx = 1 from hn] at H2 L2 h3
      refine ⟨_, _, rfl, H2.forget (fun j B hj => hj) (fun j T hj => ?_), ?_, L2, h3⟩
      · rw [Qn] at hj
        rw [Qn]
        split at hj
        · rename_i e1; rw [if_pos e1]; exact hj
        · cases hj
      · show max V.nx (1 + 1) = 2
        rw [show V.nx = 1 from hn]; rfl
    · rw [hv]
      have hcap : cap ≤ 9223372036854775807 := by have : maxLen = 9223372036854775807 := by decide
                                                  omega
      refine (Any.slices_Compact_int Try.compact55 g 0 cap a0 w (holds_of_blockI hcells htake) (by omega) hncap).mono ?_
      rintro e w' ⟨rfl, q, rfl⟩
      generalize hz : Lib.compact a0 ++ List.replicate (a0.length - (Lib.compact a0).length) 0 = zs
      have hzl : zs.length = a0.length := by rw [← hz, List.length_append, List.length_replicate, hr]; omega
      have htk : zs.take r.length = r := by rw [← hz, hr, List.take_left' rfl]
      have ht := heap_sortedI (n := q) (os := #[]) zs.toArray hcells
      have hgb := grownBy_sortedI (w := w) (g := g) (n := q) (os := #[]) zs.toArray
      have hgr : grow (putRow (Value.int .i64) (Sort.ahead w q) g 0 zs.toArray) #[] = putRow (Value.int .i64) (Sort.ahead w q) g 0 zs.toArray := by simp only [grow, Array.append_empty]
      rw [hgr] at ht hgb
      obtain ⟨H2, L2⟩ := H.redo (pv' := (Enc.encL zs).flatten) rfl (by rw [JK, List.length_map]; omega) hv hgb ht (by simp [putCells]; omega) (by rw [show a0.length * 1 = zs.length by omega]; exact take_putCellsI cur zs (by omega)) (by rw [List.length_map]; omega) (by rw [JK, List.length_map]; omega) ints_new
      have hpl : (Enc.encL zs).flatten.length = a0.length * 1 := by rw [JK, List.length_map]; omega
      obtain ⟨H3, L3⟩ := H2.shrink (n' := r.length) (pv' := (Enc.encL r).flatten) rfl hpl hv hlr (by rw [JK, JK, ← List.map_take, Nat.mul_one, htk])
      rw [show V.nx = 1 from hn] at H3 L3
      obtain ⟨V4, H4, L4, h5, h6, h7, h8⟩ := H3.settle (i := 1) rfl
      have hap : (CA.apv 1 1 r.length []).rel (V.tok 1 r.length (.slice (some ⟨g, 0, none⟩) r.length cap) 0 0) (putRow (Value.int .i64) (Sort.ahead w q) g 0 zs.toArray) (.slice (some ⟨g, 0, none⟩) r.length cap) :=
        ⟨by show 1 < max V.nx (1 + 1); omega, by rw [tok_cu]; exact Nat.le_refl _, by rw [Y5], some ⟨g, 0, none⟩, cap, rfl, Nat.zero_le _, .sl 1 [] (some ⟨g, 0, none⟩) cap 0 0 (fun _ _ => undef) (Nat.zero_le _) (fun h => absurd rfl h) (fun i e h => by simp at h) (fun i e j c h => by simp at h) (fun i e j c h => by simp at h) (fun i e j c h => by simp at h)⟩
      have hrel := settle_reads (es2 := Enc.encL r) H3 rfl (by rw [List.length_nil, Enc.len, Nat.zero_add]) (fun x hx => by
        rw [Enc.map] at hx
        obtain ⟨y, -, rfl⟩ := List.mem_map.1 hx
        rfl) hap L4 h5 h6 h7 h8
      refine ⟨_, V4, by rw [hr], H4.forget (fun j B hj => hj) (fun j T hj => ?_), ?_, L2.trans (L3.trans L4), hrel⟩
      · rw [Qn] at hj
        rw [Qn]
        split at hj
        · rename_i e1; rw [if_pos e1]; rw [Enc.len] at hj; exact hj
        · cases hj
      · rw [h5]
        show max V.nx (1 + 1) = 2
        rw [show V.nx = 1 from hn]; rfl
theorem JC {P : Program} {f : FuncId} {fn : Func} {c : Code} {args : List AV} {m : Mem} {Y : Type} (y : Y) (stf : Y → St) (xf : Y → List AV) (hf : P.funcs[f]? = some fn) (hb : fn.body = some c) (hen : J9 P f) (hnt : args.length ≤ fn.ntmps)
    (hdf : ∀ y, (stf y).df = []) (hres : ∀ y, RAs P (stf y) fn.results.toList (xf y))
    (h : ∀ (w0 : World) (M : Nat → Prop) (V0 : Vu) (Q : Exit → Act → World → Prop), V0.nx ≤ m.nx →
      (∀ (e : Exit) (st' : St) (hp' : List (Nat × HB)), (e = .normal ∨ e = .ret) → Ze st'.df st'.hp = some hp' → StLe ⟨P, w0, M, V0⟩ ⟨st'.tm, hp', st'.tk, st'.nx, st'.nt, []⟩ (stf y) → XQ ⟨P, w0, M, V0⟩ Q e st') → XC ⟨P, w0, M, V0⟩ none 0 Q c ⟨Jc 0 args, m.hp, m.tk, m.nx, fn.ntmps, []⟩) :
    CallM P f args m (Qr (xf y)) ⟨(stf y).hp, (stf y).tk, (stf y).nx⟩ := QM (stf y) hf hb hen hnt (hdf y) (hres y) h
end Go.Proofs.Ytijcchddnnnmdaa
namespace Go.Proofs.Ytijcchddnnnmdaa
open Go.RowKit Go.Shelf
set_option linter.unusedSimpArgs false
set_option linter.unusedVariables false
theorem fo_42_0 : J8 Try.prog 42 0 = some 0 := by kernel_rfl
theorem fo_42_2 : J8 Try.prog 42 2 = some 2 := by kernel_rfl
theorem G5 : J8 Try.prog 42 4 = some 4 := by kernel_rfl
theorem fo_152_4 : J8 Try.prog 152 4 = some 4 := by kernel_rfl
theorem Gb : Jn Try.prog 3 = some (false, 1) := by kernel_rfl
theorem Y6 : Jn Try.prog 9 = some (false, 1) := by kernel_rfl
theorem ZC : Jn Try.prog 23 = some (false, 1) := by kernel_rfl
theorem YG : Jn Try.prog 40 = some (false, 1) := by kernel_rfl
theorem JH : Jn Try.prog 42 = some (true, 5) := by kernel_rfl
theorem Zw : Jn Try.prog 116 = some (false, 1) := by kernel_rfl
theorem ag_150 : Jn Try.prog 150 = some (false, 1) := by kernel_rfl
theorem ag_153 : Jn Try.prog 153 = some (true, 65) := by kernel_rfl
theorem ag_155 : Jn Try.prog 155 = some (false, 1) := by kernel_rfl
theorem QQ : QT Try.prog 23 = some (9, 1) := by kernel_rfl
theorem Ym : QT Try.prog 40 = some (42, 5) := by kernel_rfl
theorem GY : Jg Try.prog 9 = some [.string ByteArray.empty] := by kernel_rfl
theorem z_23 : Jg Try.prog 23 = some [.slice none 0 0] := by kernel_rfl
theorem GT : Jg Try.prog 42 = some [.int .i64 0, .int .i64 0, .string ByteArray.empty, .slice none 0 0, .slice none 0 0] := by kernel_rfl
theorem z_116 : Jg Try.prog 116 = some [.map none] := by kernel_rfl
theorem z_153 : Jg Try.prog 153 = some [.bool false, .bool false, .int .i64 0, .int .i64 0, .int .i64 0, .bool false, .bool false, .int .i64 0, .int .i64 0, .int .i64 0, .bool false, .bool false, .int .i64 0, .int .i64 0, .int .i64 0, .bool false, .bool false, .int .i64 0, .int .i64 0, .int .i64 0, .bool false, .bool false, .int .i64 0, .int .i64 0, .int .i64 0, .bool false, .bool false, .int .i64 0, .int .i64 0, .int .i64 0, .bool false, .bool false, .int .i64 0, .int .i64 0, .int .i64 0, .bool false, .bool false, .int .i64 0, .int .i64 0, .int .i64 0, .bool false, .bool false, .int .i64 0, .int .i64 0, .int .i64 0, .bool false, .bool false, .int .i64 0, .int .i64 0, .int .i64 0, .bool false, .bool false, .int .i64 0, .int .i64 0, .int .i64 0, .bool false, .bool false, .int .i64 0, .int .i64 0, .int .i64 0, .bool false, .bool false, .int .i64 0, .int .i64 0, .int .i64 0] := by kernel_rfl
theorem z_155 : Jg Try.prog 155 = some [.nilFunc] := by kernel_rfl
theorem YW : Yh Try.prog 152 [(0, 1), (1, 1), (2, 1), (3, 1), (4, 1)] [.bool false, .bool false, .int .i64 0, .int .i64 0, .int .i64 0] := ⟨by kernel_rfl, by kernel_rfl⟩
theorem bd_153 : Yh Try.prog 153 [(0, 5), (5, 5), (10, 5), (15, 5), (20, 5), (25, 5), (30, 5), (35, 5), (40, 5), (45, 5), (50, 5), (55, 5), (60, 5)] [.bool false, .bool false, .int .i64 0, .int .i64 0, .int .i64 0, .bool false, .bool false, .int .i64 0, .int .i64 0, .int .i64 0, .bool false, .bool false, .int .i64 0, .int .i64 0, .int .i64 0, .bool false, .bool false, .int .i64 0, .int .i64 0, .int .i64 0, .bool false, .bool false, .int .i64 0, .int .i64 0, .int .i64 0, .bool false, .bool false, .int .i64 0, .int .i64 0, .int .i64 0, .bool false, .bool false, .int .i64 0, .int .i64 0, .int .i64 0, .bool false, .bool false, .int .i64 0, .int .i64 0, .int .i64 0, .bool false, .bool false, .int .i64 0, .int .i64 0, .int .i64 0, .bool false, .bool false, .int .i64 0, .int .i64 0, .int .i64 0, .bool false, .bool false, .int .i64 0, .int .i64 0, .int .i64 0, .bool false, .bool false, .int .i64 0, .int .i64 0, .int .i64 0, .bool false, .bool false, .int .i64 0, .int .i64 0, .int .i64 0] := ⟨by kernel_rfl, by kernel_rfl⟩
theorem G7 : Ya Try.prog 9 = some (1, 16) := by kernel_rfl
theorem arr_153 : Gx Try.prog 153 = some (13, 5) := by kernel_rfl
theorem K3 : KB Try.prog 116 = some (false, .one (.d (.v (.bool false)))) := by kernel_rfl
theorem en_74 : J9 Try.prog 74 := enters_of Try.func74 (by kernel_rfl) rfl
theorem en_88 : J9 Try.prog 88 := enters_of Try.func88 (by kernel_rfl) rfl
theorem en_96 : J9 Try.prog 96 := enters_of Try.func96 (by kernel_rfl) rfl
theorem en_97 : J9 Try.prog 97 := enters_of Try.func97 (by kernel_rfl) rfl
theorem en_98 : J9 Try.prog 98 := enters_of Try.func98 (by kernel_rfl) rfl
noncomputable def JG : Code := (Wl (Wl (Wk (Wl (Wk (Wk (Wk (bodyC Try.f74))))))))
noncomputable def JF : Code := (Wk (Wl (Wk (Wl (Wk (Wk (Wk (bodyC Try.f74))))))))
def Z2 (a0 : Tm) (v9 : Int) (a1 : Int) (rc : Tm × Int × (Qc Wy Bool) × (List Wy) × Tm → Option (Bool × (Qc Wy Bool) × (List Wy))) (a4 : Tm) (s1 : Int × (Qc Wy Bool) × (List Wy)) : Option (LO (Int × (Qc Wy Bool) × (List Wy)) (((Qc Wy Bool) × (List Wy)) ⊕ ((Bool × (Qc Wy Bool) × (List Wy))))) :=
 cond (decide (s1.1 < (a0.kids.length : Int)))
   (Option.bind (J1 a0.kids s1.1) fun (x12 : Tm) =>
 Option.bind (cond (s1.1 == v9)
   (some (QW (a1 + 1)))
   (some a1)) (fun (v13 : Int) => Option.bind (rc (x12, v13, s1.2.1, s1.2.2, a4)) fun (x14 : Bool × (Qc Wy Bool) × (List Wy)) =>
 cond (!x14.1)
   (some (.done (.inr (false, x14.2.1, x14.2.2))))
   (some (.next ((QW (s1.1 + 1)), x14.2.1, x14.2.2)))))
   (some (.done (.inl (s1.2.1, s1.2.2))))
def Gy (rc : Tm × Int × (Qc Wy Bool) × (List Wy) × Tm → Option (Bool × (Qc Wy Bool) × (List Wy))) (a0 : Tm) (a1 : Int) (a2 : Qc Wy Bool) (a3 : List Wy) (a4 : Tm) : Option (Bool × (Qc Wy Bool) × (List Wy)) :=
 Option.bind (Option.bind (cond (a0.kind == 3)
   (some (!(J7 a2 a0.name)))
   (some false)) (fun (v4 : Bool) => cond v4
   (Qm (Nat.ble (a3.length + ([a0.name]).length) 1000000000)
 (some ((JR a2 a0.name true), (a3 ++ ([a0.name])))))
   (some (a2, a3)))) (fun (y1 : (Qc Wy Bool) × (List Wy)) => Option.bind (cond (decide (0 ≤ a0.kind))
   (some (decide (a0.kind < 13)))
   (some false)) (fun (v8 : Bool) => Option.bind (cond v8
   (Qm (cond (decide (0 ≤ a0.kind)) (Nat.blt a0.kind.toNat 13) false)
 (Option.bind (J1 ([(-1), (-1), (-1), (-1), (-1), 1, 1, 1, (-1), (-1), (-1), 2, (-1)] : List Int) a0.kind) fun (x12 : Int) =>
 some x12))
   (some (-1))) (fun (v9 : Int) => Option.bind (Qo (Z2 a0 v9 a1 rc a4) QB (0, y1.1, y1.2)) (Sum.elim (fun (o10 : (Qc Wy Bool) × (List Wy)) => some (true, o10.1, o10.2)) (fun o => some o)))))
def Gz (rc : Tm × Int × (Qc Wy Bool) × (List Wy) × Tm → Option (Bool × (Qc Wy Bool) × (List Wy))) (u : Tm × Int × (Qc Wy Bool) × (List Wy) × Tm) : Option (Bool × (Qc Wy Bool) × (List Wy)) := Gy rc u.1 u.2.1 u.2.2.1 u.2.2.2.1 u.2.2.2.2
def m98f0 (a0 : Tm) (a1 : Int) (a2 : Qc Wy Bool) (a3 : List Wy) (a4 : Tm) : Option (Bool × (Qc Wy Bool) × (List Wy)) := Yn Gz QB (a0, a1, a2, a3, a4)
set_option maxRecDepth 100000 in
set_option maxHeartbeats 8000000 in
theorem m98f0s_ok (rc : Tm × Int × (Qc Wy Bool) × (List Wy) × Tm → Option (Bool × (Qc Wy Bool) × (List Wy))) (H : ∀ (a0 : Tm) (a1 : Int) (a2 : Qc Wy Bool) (a3 : List Wy) (a4 : Tm) (r : Bool × (Qc Wy Bool) × (List Wy)), rc (a0, a1, a2, a3, a4) = some r → CallM Try.prog 98 [.agg (Wj a0), .one (Wg a1), .one (.ptr 0 0), .one (.ptr 8 0), .one (.ptr 9 0)] ⟨[(0, .cells 150 [.yld 1]), (1, .loop .ready none [(3, .v (.one (.ptr 3 0))), (4, .v (.one (.ptr 5 0))), (9, .v (.one (.fn 96 [(7, 0)])))] 31 #[10, 11] JG JF 2), (2, .obj (.deferred (some []))), (3, .cells 116 [.mp 4]), (4, .mp (QJ a2.1) a2.2), (5, .cells 23 [Wi 6 a3]), (7, .cells 42 (Wj a4)), (8, .cells 153 [Wh true, Wh false, Wg 0, Wg 0, Wg (-1), Wh false, Wh false, Wg 0, Wg 0, Wg (-1), Wh false, Wh false, Wg 1, Wg 0, Wg (-1), Wh false, Wh true, Wg (-1), Wg 0, Wg (-1), Wh false, Wh false, Wg 0, Wg 2, Wg (-1), Wh false, Wh false, Wg 0, Wg 2, Wg 1, Wh false, Wh false, Wg 0, Wg 2, Wg 1, Wh false, Wh false, Wg 0, Wg 2, Wg 1, Wh false, Wh false, Wg 0, Wg 3, Wg (-1), Wh false, Wh false, Wg 0, Wg 1, Wg (-1), Wh false, Wh false, Wg 0, Wg 1, Wg (-1), Wh false, Wh false, Wg 0, Wg 3, Wg 2, Wh true, Wh false, Wg 0, Wg 0, Wg (-1)]), (9, .cells 155 [.fn 98 [(0, 0), (8, 0), (9, 0)]])], [(6, some ⟨9, 1, (Enc.encL a3).length, []⟩)], 10⟩ (Qr [.one (Wh r.1)]) ⟨[(0, .cells 150 [.yld 1]), (1, .loop .ready none [(3, .v (.one (.ptr 3 0))), (4, .v (.one (.ptr 5 0))), (9, .v (.one (.fn 96 [(7, 0)])))] 31 #[10, 11] JG JF 2), (2, .obj (.deferred (some []))), (3, .cells 116 [.mp 4]), (4, .mp (QJ r.2.1.1) r.2.1.2), (5, .cells 23 [Wi 6 r.2.2]), (7, .cells 42 (Wj a4)), (8, .cells 153 [Wh true, Wh false, Wg 0, Wg 0, Wg (-1), Wh false, Wh false, Wg 0, Wg 0, Wg (-1), Wh false, Wh false, Wg 1, Wg 0, Wg (-1), Wh false, Wh true, Wg (-1), Wg 0, Wg (-1), Wh false, Wh false, Wg 0, Wg 2, Wg (-1), Wh false, Wh false, Wg 0, Wg 2, Wg 1, Wh false, Wh false, Wg 0, Wg 2, Wg 1, Wh false, Wh false, Wg 0, Wg 2, Wg 1, Wh false, Wh false, Wg 0, Wg 3, Wg (-1), Wh false, Wh false, Wg 0, Wg 1, Wg (-1), Wh false, Wh false, Wg 0, Wg 1, Wg (-1), Wh false, Wh false, Wg 0, Wg 3, Wg 2, Wh true, Wh false, Wg 0, Wg 0, Wg (-1)]), (9, .cells 155 [.fn 98 [(0, 0), (8, 0), (9, 0)]])], [(6, some ⟨9, 1, (Enc.encL r.2.2).length, []⟩)], 12⟩) (a0 : Tm) (a1 : Int) (a2 : Qc Wy Bool) (a3 : List Wy) (a4 : Tm) (r : Bool × (Qc Wy Bool) × (List Wy)) (h0 : Gy rc a0 a1 a2 a3 a4 = some r) : CallM Try.prog 98 [.agg (Wj a0), .one (Wg a1), .one (.ptr 0 0), .one (.ptr 8 0), .one (.ptr 9 0)] ⟨[(0, .cells 150 [.yld 1]), (1, .loop .ready none [(3, .v (.one (.ptr 3 0))), (4, .v (.one (.ptr 5 0))), (9, .v (.one (.fn 96 [(7, 0)])))] 31 #[10, 11] JG JF 2), (2, .obj (.deferred (some []))), (3, .cells 116 [.mp 4]), (4, .mp (QJ a2.1) a2.2), (5, .cells 23 [Wi 6 a3]), (7, .cells 42 (Wj a4)), (8, .cells 153 [Wh true, Wh false, Wg 0, Wg 0, Wg (-1), Wh false, Wh false, Wg 0, Wg 0, Wg (-1), Wh false, Wh false, Wg 1, Wg 0, Wg (-1), Wh false, Wh true, Wg (-1), Wg 0, Wg (-1), Wh false, Wh false, Wg 0, Wg 2, Wg (-1), Wh false, Wh false, Wg 0, Wg 2, Wg 1, Wh false, Wh false, Wg 0, Wg 2, Wg 1, Wh false, Wh false, Wg 0, Wg 2, Wg 1, Wh false, Wh false, Wg 0, Wg 3, Wg (-1), Wh false, Wh false, Wg 0, Wg 1, Wg (-1), Wh false, Wh false, Wg 0, Wg 1, Wg (-1), Wh false, Wh false, Wg 0, Wg 3, Wg 2, Wh true, Wh false, Wg 0, Wg 0, Wg (-1)]), (9, .cells 155 [.fn 98 [(0, 0), (8, 0), (9, 0)]])], [(6, some ⟨9, 1, (Enc.encL a3).length, []⟩)], 10⟩ (Qr [.one (Wh r.1)]) ⟨[(0, .cells 150 [.yld 1]), (1, .loop .ready none [(3, .v (.one (.ptr 3 0))), (4, .v (.one (.ptr 5 0))), (9, .v (.one (.fn 96 [(7, 0)])))] 31 #[10, 11] JG JF 2), (2, .obj (.deferred (some []))), (3, .cells 116 [.mp 4]), (4, .mp (QJ r.2.1.1) r.2.1.2), (5, .cells 23 [Wi 6 r.2.2]), (7, .cells 42 (Wj a4)), (8, .cells 153 [Wh true, Wh false, Wg 0, Wg 0, Wg (-1), Wh false, Wh false, Wg 0, Wg 0, Wg (-1), Wh false, Wh false, Wg 1, Wg 0, Wg (-1), Wh false, Wh true, Wg (-1), Wg 0, Wg (-1), Wh false, Wh false, Wg 0, Wg 2, Wg (-1), Wh false, Wh false, Wg 0, Wg 2, Wg 1, Wh false, Wh false, Wg 0, Wg 2, Wg 1, Wh false, Wh false, Wg 0, Wg 2, Wg 1, Wh false, Wh false, Wg 0, Wg 3, Wg (-1), Wh false, Wh false, Wg 0, Wg 1, Wg (-1), Wh false, Wh false, Wg 0, Wg 1, Wg (-1), Wh false, Wh false, Wg 0, Wg 3, Wg 2, Wh true, Wh false, Wg 0, Wg 0, Wg (-1)]), (9, .cells 155 [.fn 98 [(0, 0), (8, 0), (9, 0)]])], [(6, some ⟨9, 1, (Enc.encL r.2.2).length, []⟩)], 12⟩ := by
 unfold Gy at h0
 refine QM ⟨[(7, .v (.one (Wh r.1)))], [(0, .cells 150 [.yld 1]), (1, .loop .ready none [(3, .v (.one (.ptr 3 0))), (4, .v (.one (.ptr 5 0))), (9, .v (.one (.fn 96 [(7, 0)])))] 31 #[10, 11] JG JF 2), (2, .obj (.deferred (some []))), (3, .cells 116 [.mp 4]), (4, .mp (QJ r.2.1.1) r.2.1.2), (5, .cells 23 [Wi 6 r.2.2]), (7, .cells 42 (Wj a4)), (8, .cells 153 [Wh true, Wh false, Wg 0, Wg 0, Wg (-1), Wh false, Wh false, Wg 0, Wg 0, Wg (-1), Wh false, Wh false, Wg 1, Wg 0, Wg (-1), Wh false, Wh true, Wg (-1), Wg 0, Wg (-1), Wh false, Wh false, Wg 0, Wg 2, Wg (-1), Wh false, Wh false, Wg 0, Wg 2, Wg 1, Wh false, Wh false, Wg 0, Wg 2, Wg 1, Wh false, Wh false, Wg 0, Wg 2, Wg 1, Wh false, Wh false, Wg 0, Wg 3, Wg (-1), Wh false, Wh false, Wg 0, Wg 1, Wg (-1), Wh false, Wh false, Wg 0, Wg 1, Wg (-1), Wh false, Wh false, Wg 0, Wg 3, Wg 2, Wh true, Wh false, Wg 0, Wg 0, Wg (-1)]), (9, .cells 155 [.fn 98 [(0, 0), (8, 0), (9, 0)]])], [(6, some ⟨9, 1, (Enc.encL r.2.2).length, []⟩)], 12, 50, []⟩ rfl rfl en_98 (W1 rfl) rfl (Qp rfl .nil) (fun w0 M V0 Q hv0 hQ0 => ?_)
 simp only [Jc]
 refine Q2 <| Q0 <| Q9 rfl rfl (W1 rfl) (Js rfl) <| XS rfl rfl rfl <| Q3 <| Q1 <| Q2 <| Q2 <| Q0 <| XP rfl rfl rfl (Q7 ag_150 rfl rfl rfl) <| XR rfl rfl rfl <| XP rfl rfl rfl (Qz JH rfl rfl rfl rfl) ?_
 refine Qb h0 (fun y1 h1 h0 => ?_)
 have ha2 : ExecOK Try.prog (some 1) JG ⟨[(3, .v (.one (.ptr 3 0))), (4, .v (.one (.ptr 5 0))), (9, .v (.one (.fn 96 [(7, 0)]))), (10, .v (.one (Wg a1))), (11, .v (.agg (Wj a0)))], [(0, .cells 150 [.yld 1]), (1, .loop .ready none [(3, .v (.one (.ptr 3 0))), (4, .v (.one (.ptr 5 0))), (9, .v (.one (.fn 96 [(7, 0)])))] 31 #[10, 11] JG JF 2), (2, .obj (.deferred (some []))), (3, .cells 116 [.mp 4]), (4, .mp (QJ a2.1) a2.2), (5, .cells 23 [Wi 6 a3]), (7, .cells 42 (Wj a4)), (8, .cells 153 [Wh true, Wh false, Wg 0, Wg 0, Wg (-1), Wh false, Wh false, Wg 0, Wg 0, Wg (-1), Wh false, Wh false, Wg 1, Wg 0, Wg (-1), Wh false, Wh true, Wg (-1), Wg 0, Wg (-1), Wh false, Wh false, Wg 0, Wg 2, Wg (-1), Wh false, Wh false, Wg 0, Wg 2, Wg 1, Wh false, Wh false, Wg 0, Wg 2, Wg 1, Wh false, Wh false, Wg 0, Wg 2, Wg 1, Wh false, Wh false, Wg 0, Wg 3, Wg (-1), Wh false, Wh false, Wg 0, Wg 1, Wg (-1), Wh false, Wh false, Wg 0, Wg 1, Wg (-1), Wh false, Wh false, Wg 0, Wg 3, Wg 2, Wh true, Wh false, Wg 0, Wg 0, Wg (-1)]), (9, .cells 155 [.fn 98 [(0, 0), (8, 0), (9, 0)]]), (10, .cells 42 (Wj a0))], [(6, some ⟨9, 1, (Enc.encL a3).length, []⟩)], 11, 31, []⟩ .normal ⟨[(3, .v (.one (.ptr 3 0))), (4, .v (.one (.ptr 5 0))), (6, .v (.one (.ptr 11 0)))], [(0, .cells 150 [.yld 1]), (1, .loop .ready none [(3, .v (.one (.ptr 3 0))), (4, .v (.one (.ptr 5 0))), (9, .v (.one (.fn 96 [(7, 0)])))] 31 #[10, 11] JG JF 2), (2, .obj (.deferred (some []))), (3, .cells 116 [.mp 4]), (4, .mp (QJ a2.1) a2.2), (5, .cells 23 [Wi 6 a3]), (7, .cells 42 (Wj a4)), (8, .cells 153 [Wh true, Wh false, Wg 0, Wg 0, Wg (-1), Wh false, Wh false, Wg 0, Wg 0, Wg (-1), Wh false, Wh false, Wg 1, Wg 0, Wg (-1), Wh false, Wh true, Wg (-1), Wg 0, Wg (-1), Wh false, Wh false, Wg 0, Wg 2, Wg (-1), Wh false, Wh false, Wg 0, Wg 2, Wg 1, Wh false, Wh false, Wg 0, Wg 2, Wg 1, Wh false, Wh false, Wg 0, Wg 2, Wg 1, Wh false, Wh false, Wg 0, Wg 3, Wg (-1), Wh false, Wh false, Wg 0, Wg 1, Wg (-1), Wh false, Wh false, Wg 0, Wg 1, Wg (-1), Wh false, Wh false, Wg 0, Wg 3, Wg 2, Wh true, Wh false, Wg 0, Wg 0, Wg (-1)]), (9, .cells 155 [.fn 98 [(0, 0), (8, 0), (9, 0)]]), (10, .cells 42 (Wj a0)), (11, .cells 42 (Wj a0))], [(6, some ⟨9, 1, (Enc.encL a3).length, []⟩)], 12, 31, []⟩ := by
  refine Yi (fun w0 M V0 ro n Q hv1 hro1 hQn1 => ?_)
  refine Q0 <| Q9 rfl rfl (W1 rfl) (Ql GT rfl) <| QA rfl rfl (Qi JH rfl rfl rfl rfl (W1 rfl) rfl) <| Q3 ?_
  exact Kf hQn1 (Qh (XK rfl (XK rfl (XK rfl XJ))) (W8 rfl (W8 rfl (W8 rfl (W8 rfl (W8 rfl (W8 rfl (W8 rfl (W8 rfl (W8 rfl (W8 rfl (W8 rfl W7))))))))))) (W4 rfl W3) rfl (Nat.le_trans hv1 (W1 rfl)) rfl rfl rfl (Wp rfl rfl (Wp rfl rfl (Wp rfl rfl (Wp rfl rfl (Wn rfl (Wp rfl rfl (Wp rfl rfl (Wp rfl rfl (Wp rfl rfl (Wp rfl rfl (Wp rfl rfl Wm))))))))))) rfl rfl)
 have hb3 : ExecOK Try.prog (some 1) JF ⟨[(3, .v (.one (.ptr 3 0))), (4, .v (.one (.ptr 5 0))), (6, .v (.one (.ptr 11 0)))], [(0, .cells 150 [.yld 1]), (1, .loop .busy none [(3, .v (.one (.ptr 3 0))), (4, .v (.one (.ptr 5 0))), (9, .v (.one (.fn 96 [(7, 0)])))] 31 #[10, 11] JG JF 2), (2, .obj (.deferred (some []))), (3, .cells 116 [.mp 4]), (4, .mp (QJ a2.1) a2.2), (5, .cells 23 [Wi 6 a3]), (7, .cells 42 (Wj a4)), (8, .cells 153 [Wh true, Wh false, Wg 0, Wg 0, Wg (-1), Wh false, Wh false, Wg 0, Wg 0, Wg (-1), Wh false, Wh false, Wg 1, Wg 0, Wg (-1), Wh false, Wh true, Wg (-1), Wg 0, Wg (-1), Wh false, Wh false, Wg 0, Wg 2, Wg (-1), Wh false, Wh false, Wg 0, Wg 2, Wg 1, Wh false, Wh false, Wg 0, Wg 2, Wg 1, Wh false, Wh false, Wg 0, Wg 2, Wg 1, Wh false, Wh false, Wg 0, Wg 3, Wg (-1), Wh false, Wh false, Wg 0, Wg 1, Wg (-1), Wh false, Wh false, Wg 0, Wg 1, Wg (-1), Wh false, Wh false, Wg 0, Wg 3, Wg 2, Wh true, Wh false, Wg 0, Wg 0, Wg (-1)]), (9, .cells 155 [.fn 98 [(0, 0), (8, 0), (9, 0)]]), (10, .cells 42 (Wj a0)), (11, .cells 42 (Wj a0))], [(6, some ⟨9, 1, (Enc.encL a3).length, []⟩)], 12, 31, []⟩ .normal ⟨[], [(0, .cells 150 [.yld 1]), (1, .loop .busy none [(3, .v (.one (.ptr 3 0))), (4, .v (.one (.ptr 5 0))), (9, .v (.one (.fn 96 [(7, 0)])))] 31 #[10, 11] JG JF 2), (2, .obj (.deferred (some []))), (3, .cells 116 [.mp 4]), (4, .mp (QJ y1.1.1) y1.1.2), (5, .cells 23 [Wi 6 y1.2]), (7, .cells 42 (Wj a4)), (8, .cells 153 [Wh true, Wh false, Wg 0, Wg 0, Wg (-1), Wh false, Wh false, Wg 0, Wg 0, Wg (-1), Wh false, Wh false, Wg 1, Wg 0, Wg (-1), Wh false, Wh true, Wg (-1), Wg 0, Wg (-1), Wh false, Wh false, Wg 0, Wg 2, Wg (-1), Wh false, Wh false, Wg 0, Wg 2, Wg 1, Wh false, Wh false, Wg 0, Wg 2, Wg 1, Wh false, Wh false, Wg 0, Wg 2, Wg 1, Wh false, Wh false, Wg 0, Wg 3, Wg (-1), Wh false, Wh false, Wg 0, Wg 1, Wg (-1), Wh false, Wh false, Wg 0, Wg 1, Wg (-1), Wh false, Wh false, Wg 0, Wg 3, Wg 2, Wh true, Wh false, Wg 0, Wg 0, Wg (-1)]), (9, .cells 155 [.fn 98 [(0, 0), (8, 0), (9, 0)]]), (10, .cells 42 (Wj a0))], [(6, some ⟨9, 1, (Enc.encL y1.2).length, []⟩)], 12, 31, []⟩ := by
  refine Yi (fun w0 M V0 ro n Q hv1 hro1 hQn1 => ?_)
  refine Qd <| Q2 ?_
  refine Jy (fun (v4 : Bool) => ⟨[(3, .v (.one (.ptr 3 0))), (4, .v (.one (.ptr 5 0))), (6, .v (.one (.ptr 11 0))), (21, .v (.one (Wh v4)))], [(0, .cells 150 [.yld 1]), (1, .loop .busy none [(3, .v (.one (.ptr 3 0))), (4, .v (.one (.ptr 5 0))), (9, .v (.one (.fn 96 [(7, 0)])))] 31 #[10, 11] JG JF 2), (2, .obj (.deferred (some []))), (3, .cells 116 [.mp 4]), (4, .mp (QJ a2.1) a2.2), (5, .cells 23 [Wi 6 a3]), (7, .cells 42 (Wj a4)), (8, .cells 153 [Wh true, Wh false, Wg 0, Wg 0, Wg (-1), Wh false, Wh false, Wg 0, Wg 0, Wg (-1), Wh false, Wh false, Wg 1, Wg 0, Wg (-1), Wh false, Wh true, Wg (-1), Wg 0, Wg (-1), Wh false, Wh false, Wg 0, Wg 2, Wg (-1), Wh false, Wh false, Wg 0, Wg 2, Wg 1, Wh false, Wh false, Wg 0, Wg 2, Wg 1, Wh false, Wh false, Wg 0, Wg 2, Wg 1, Wh false, Wh false, Wg 0, Wg 3, Wg (-1), Wh false, Wh false, Wg 0, Wg 1, Wg (-1), Wh false, Wh false, Wg 0, Wg 1, Wg (-1), Wh false, Wh false, Wg 0, Wg 3, Wg 2, Wh true, Wh false, Wg 0, Wg 0, Wg (-1)]), (9, .cells 155 [.fn 98 [(0, 0), (8, 0), (9, 0)]]), (10, .cells 42 (Wj a0)), (11, .cells 42 (Wj a0))], [(6, some ⟨9, 1, (Enc.encL a3).length, []⟩)], 12, 31, []⟩) (fun (v4 : Bool) => (cond v4
      (Qm (Nat.ble (a3.length + ([a0.name]).length) 1000000000)
    (some ((JR a2 a0.name true), (a3 ++ ([a0.name])))))
      (some (a2, a3))) = some y1) ?_ ?_
  refine Qb h1 (fun w2_ h2 h1 => ?_)
  refine Q0 <| XP rfl rfl rfl (Q8 fo_42_0 rfl) <| XP rfl rfl rfl (Q7 Gb rfl rfl rfl) <| XP rfl rfl rfl (Q4 rfl rfl rfl) <| XR rfl rfl rfl ?_
  refine Ja (d := 15) (c := (a0.kind == 3)) rfl (fun c5 => ?_) (fun c5 => ?_)
  replace h2 := Qu c5 h2
  refine XP rfl rfl rfl (Q7 Zw rfl rfl rfl) <| XP rfl rfl rfl (Q8 fo_42_2 rfl) <| XP rfl rfl rfl (Q7 Y6 rfl rfl rfl) <| XP rfl rfl rfl (RO.lookupGF (M := a2) (k := a0.name) K3 zok_bool rfl rfl rfl) <| XP rfl rfl rfl (Jp rfl) <| XP rfl rfl rfl (QC rfl rfl) <| Q3 ?_
  have e := XN h2; subst e
  exact QG (!(J7 a2 a0.name)) (Qh (XK rfl (XK rfl (XK rfl (XK rfl XJ)))) (W8 rfl (W8 rfl (W8 rfl (W8 rfl (W8 rfl (W8 rfl (W8 rfl (W8 rfl (W8 rfl (W8 rfl (W8 rfl W7))))))))))) (W4 rfl W3) rfl (Nat.le_trans hv1 (W1 rfl)) rfl rfl rfl (Wp rfl rfl (Wp rfl rfl (Wp rfl rfl (Wp rfl rfl (Wn rfl (Wp rfl rfl (Wp rfl rfl (Wp rfl rfl (Wp rfl rfl (Wp rfl rfl (Wp rfl rfl Wm))))))))))) rfl rfl) h1
  replace h2 := Qv c5 h2
  refine Qa rfl rfl <| Qa rfl rfl <| Qa rfl rfl <| Qa rfl rfl <| Qa rfl rfl <| XP rfl rfl rfl (QL rfl rfl) <| Q3 ?_
  have e := XN h2; subst e
  exact QG false (Qh (XK rfl (XK rfl (XK rfl (XK rfl XJ)))) (W8 rfl (W8 rfl (W8 rfl (W8 rfl (W8 rfl (W8 rfl (W8 rfl (W8 rfl (W8 rfl (W8 rfl (W8 rfl W7))))))))))) (W4 rfl W3) rfl (Nat.le_trans hv1 (W1 rfl)) rfl rfl rfl (Wp rfl rfl (Wp rfl rfl (Wp rfl rfl (Wp rfl rfl (Wn rfl (Wp rfl rfl (Wp rfl rfl (Wp rfl rfl (Wp rfl rfl (Wp rfl rfl (Wp rfl rfl Wm))))))))))) rfl rfl) h1
  intro v4 h1
  refine Q1 ?_
  refine Qg (b := v4) rfl (fun c6 => ?_) (fun c6 => ?_)
  replace h1 := Qu c6 h1
  refine Q2 <| Q0 <| XP rfl rfl rfl (Q7 Zw rfl rfl rfl) <| XP rfl rfl rfl (Q8 fo_42_2 rfl) <| XP rfl rfl rfl (Q7 Y6 rfl rfl rfl) <| QA rfl rfl (JI (M := a2) (k := a0.name) (v := true) K3 rfl rfl rfl rfl rfl) <| Q3 <| Q1 <| Q0 <| XP rfl rfl rfl (Q7 ZC rfl rfl rfl) <| XP rfl rfl rfl (Q8 fo_42_2 rfl) <| XP rfl rfl rfl (Q7 Y6 rfl rfl rfl) <| Q9 rfl rfl (W1 rfl) (QY (α := Wy) (a0.name) QQ GY rfl rfl (W1 rfl) (W1 rfl) rfl rfl (.cons (.d _) .nil) rfl) ?_
  refine QO h1 (fun g7 h1 => ?_)
  refine Q9 rfl rfl (W1 rfl) (QU (α := Wy) QQ G7 rfl rfl rfl rfl rfl (.app _ _) g7) <| QA rfl rfl (Qi ZC rfl rfl rfl rfl (W1 rfl) rfl) <| Q3 <| Qk ?_
  have e := XN h1; subst e
  exact Kf hQn1 (Qh XJ (W8 rfl (W8 rfl (W8 rfl (W8 rfl (W8 rfl (W8 rfl (W8 rfl (W8 rfl (W8 rfl (W8 rfl W7)))))))))) (W4 rfl W3) rfl (Nat.le_trans hv1 (W1 rfl)) rfl rfl rfl (Wp rfl rfl (Wp rfl rfl (Wp rfl rfl (Wp rfl rfl (Wn rfl (Wp rfl rfl (Wp rfl rfl (Wp rfl rfl (Wp rfl rfl (Wp rfl rfl Wm)))))))))) rfl rfl)
  replace h1 := Qv c6 h1
  refine Qj <| Qk ?_
  have e := XN h1; subst e
  exact Kf hQn1 (Qh XJ (W8 rfl (W8 rfl (W8 rfl (W8 rfl (W8 rfl (W8 rfl (W8 rfl (W8 rfl (W8 rfl (W8 rfl W7)))))))))) (W4 rfl W3) rfl (Nat.le_trans hv1 (W1 rfl)) rfl rfl rfl (Wp rfl rfl (Wp rfl rfl (Wp rfl rfl (Wp rfl rfl (Wn rfl (Wp rfl rfl (Wp rfl rfl (Wp rfl rfl (Wp rfl rfl (Wp rfl rfl Wm)))))))))) rfl rfl)
 refine Q9 rfl rfl (W1 rfl) (OpOK.yield (jump := none) rfl rfl rfl rfl rfl (Yj ha2 (fun E hv => (Qh (XK rfl (XK rfl (XK rfl (XK rfl (XK rfl XJ))))) (W8 rfl (W8 rfl (W8 rfl (W8 rfl (W8 rfl (W8 rfl (W8 rfl (W8 rfl (W8 rfl (W8 rfl W7)))))))))) (W4 rfl W3) rfl (Nat.le_trans hv (W1 rfl)) rfl rfl rfl (Wp rfl rfl (Wp rfl rfl (Wp rfl rfl (Wp rfl rfl (Wn rfl (Wp rfl rfl (Wp rfl rfl (Wp rfl rfl (Wp rfl rfl (Wp rfl rfl Wm)))))))))) rfl rfl))) rfl (Yj hb3 (fun E hv => (Qh (XK rfl (XK rfl (XK rfl XJ))) (W8 rfl (W8 rfl (W8 rfl (W8 rfl (W8 rfl (W8 rfl (W8 rfl (W8 rfl (W8 rfl (W8 rfl (W8 rfl W7))))))))))) (W4 rfl W3) rfl (Nat.le_trans hv (W1 rfl)) rfl rfl rfl (Wp rfl rfl (Wp rfl rfl (Wp rfl rfl (Wp rfl rfl (Wn rfl (Wp rfl rfl (Wp rfl rfl (Wp rfl rfl (Wp rfl rfl (Wp rfl rfl (Wp rfl rfl Wm))))))))))) rfl rfl))) rfl rfl) ?_
 refine XP rfl rfl rfl (Jp rfl) <| Q3 <| Q1 ?_
 refine Qg rfl (fun h => nomatch h) (fun _ => ?_)
 refine Qj <| Q1 <| Q2 <| Q0 <| XS rfl rfl rfl <| Q3 <| Q1 <| Q2 <| Q2 ?_
 refine Jy (fun (v8 : Bool) => ⟨[(1, .v (.one (Wg a1))), (3, .v (.one (.ptr 8 0))), (4, .v (.one (.ptr 9 0))), (5, .v (.one (.ptr 10 0))), (8, .v (.one (Wg (-1)))), (24, .v (.one (Wh v8)))], [(0, .cells 150 [.yld 1]), (1, .loop .ready none [(3, .v (.one (.ptr 3 0))), (4, .v (.one (.ptr 5 0))), (9, .v (.one (.fn 96 [(7, 0)])))] 31 #[10, 11] JG JF 2), (2, .obj (.deferred (some []))), (3, .cells 116 [.mp 4]), (4, .mp (QJ y1.1.1) y1.1.2), (5, .cells 23 [Wi 6 y1.2]), (7, .cells 42 (Wj a4)), (8, .cells 153 [Wh true, Wh false, Wg 0, Wg 0, Wg (-1), Wh false, Wh false, Wg 0, Wg 0, Wg (-1), Wh false, Wh false, Wg 1, Wg 0, Wg (-1), Wh false, Wh true, Wg (-1), Wg 0, Wg (-1), Wh false, Wh false, Wg 0, Wg 2, Wg (-1), Wh false, Wh false, Wg 0, Wg 2, Wg 1, Wh false, Wh false, Wg 0, Wg 2, Wg 1, Wh false, Wh false, Wg 0, Wg 2, Wg 1, Wh false, Wh false, Wg 0, Wg 3, Wg (-1), Wh false, Wh false, Wg 0, Wg 1, Wg (-1), Wh false, Wh false, Wg 0, Wg 1, Wg (-1), Wh false, Wh false, Wg 0, Wg 3, Wg 2, Wh true, Wh false, Wg 0, Wg 0, Wg (-1)]), (9, .cells 155 [.fn 98 [(0, 0), (8, 0), (9, 0)]]), (10, .cells 42 (Wj a0))], [(6, some ⟨9, 1, (Enc.encL y1.2).length, []⟩)], 12, 50, []⟩) (fun (v8 : Bool) => (Option.bind (cond v8
     (Qm (cond (decide (0 ≤ a0.kind)) (Nat.blt a0.kind.toNat 13) false)
   (Option.bind (J1 ([(-1), (-1), (-1), (-1), (-1), 1, 1, 1, (-1), (-1), (-1), 2, (-1)] : List Int) a0.kind) fun (x12 : Int) =>
   some x12))
     (some (-1))) (fun (v9 : Int) => Option.bind (Qo (Z2 a0 v9 a1 rc a4) QB (0, y1.1, y1.2)) (Sum.elim (fun (o10 : (Qc Wy Bool) × (List Wy)) => some (true, o10.1, o10.2)) (fun o => some o)))) = some r) ?_ ?_
 refine Qb h0 (fun w1_ h1 h0 => ?_)
 refine Q0 <| XP rfl rfl rfl (Q8 fo_42_0 rfl) <| XP rfl rfl rfl (Q7 Gb rfl rfl rfl) <| XP rfl rfl rfl (Q4 rfl rfl rfl) <| XR rfl rfl rfl ?_
 refine Ja (d := 20) (c := (decide (0 ≤ a0.kind))) rfl (fun c9 => ?_) (fun c9 => ?_)
 replace h1 := Qu c9 h1
 refine XP rfl rfl rfl (Q8 fo_42_0 rfl) <| XP rfl rfl rfl (Q7 Gb rfl rfl rfl) <| XP rfl rfl rfl (Q4 rfl rfl rfl) <| XP rfl rfl rfl (QC rfl rfl) <| Q3 ?_
 have e := XN h1; subst e
 exact QG (decide (a0.kind < 13)) (Qh (XK rfl (XK rfl (XK rfl (XK rfl (XK rfl (XK rfl XJ)))))) (W8 rfl (W8 rfl (W8 rfl (W8 rfl (W8 rfl (W8 rfl (W8 rfl (W8 rfl (W8 rfl (W8 rfl W7)))))))))) (W4 rfl W3) rfl (Nat.le_trans hv0 (W1 rfl)) rfl rfl rfl (Wp rfl rfl (Wp rfl rfl (Wp rfl rfl (Wp rfl rfl (Wn rfl (Wp rfl rfl (Wp rfl rfl (Wp rfl rfl (Wp rfl rfl (Wp rfl rfl Wm)))))))))) rfl rfl) h0
 replace h1 := Qv c9 h1
 refine Qa rfl rfl <| Qa rfl rfl <| Qa rfl rfl <| XP rfl rfl rfl (QL rfl rfl) <| Q3 ?_
 have e := XN h1; subst e
 exact QG false (Qh (XK rfl (XK rfl (XK rfl (XK rfl (XK rfl (XK rfl XJ)))))) (W8 rfl (W8 rfl (W8 rfl (W8 rfl (W8 rfl (W8 rfl (W8 rfl (W8 rfl (W8 rfl (W8 rfl W7)))))))))) (W4 rfl W3) rfl (Nat.le_trans hv0 (W1 rfl)) rfl rfl rfl (Wp rfl rfl (Wp rfl rfl (Wp rfl rfl (Wp rfl rfl (Wn rfl (Wp rfl rfl (Wp rfl rfl (Wp rfl rfl (Wp rfl rfl (Wp rfl rfl Wm)))))))))) rfl rfl) h0
 intro v8 h0
 refine Q1 ?_
 refine Jy (fun (v10 : Int) => ⟨[(1, .v (.one (Wg a1))), (4, .v (.one (.ptr 9 0))), (5, .v (.one (.ptr 10 0))), (8, .v (.one (Wg v10)))], [(0, .cells 150 [.yld 1]), (1, .loop .ready none [(3, .v (.one (.ptr 3 0))), (4, .v (.one (.ptr 5 0))), (9, .v (.one (.fn 96 [(7, 0)])))] 31 #[10, 11] JG JF 2), (2, .obj (.deferred (some []))), (3, .cells 116 [.mp 4]), (4, .mp (QJ y1.1.1) y1.1.2), (5, .cells 23 [Wi 6 y1.2]), (7, .cells 42 (Wj a4)), (8, .cells 153 [Wh true, Wh false, Wg 0, Wg 0, Wg (-1), Wh false, Wh false, Wg 0, Wg 0, Wg (-1), Wh false, Wh false, Wg 1, Wg 0, Wg (-1), Wh false, Wh true, Wg (-1), Wg 0, Wg (-1), Wh false, Wh false, Wg 0, Wg 2, Wg (-1), Wh false, Wh false, Wg 0, Wg 2, Wg 1, Wh false, Wh false, Wg 0, Wg 2, Wg 1, Wh false, Wh false, Wg 0, Wg 2, Wg 1, Wh false, Wh false, Wg 0, Wg 3, Wg (-1), Wh false, Wh false, Wg 0, Wg 1, Wg (-1), Wh false, Wh false, Wg 0, Wg 1, Wg (-1), Wh false, Wh false, Wg 0, Wg 3, Wg 2, Wh true, Wh false, Wg 0, Wg 0, Wg (-1)]), (9, .cells 155 [.fn 98 [(0, 0), (8, 0), (9, 0)]]), (10, .cells 42 (Wj a0))], [(6, some ⟨9, 1, (Enc.encL y1.2).length, []⟩)], 12, 50, []⟩) (fun (v10 : Int) => (Option.bind (Qo (Z2 a0 v10 a1 rc a4) QB (0, y1.1, y1.2)) (Sum.elim (fun (o11 : (Qc Wy Bool) × (List Wy)) => some (true, o11.1, o11.2)) (fun o => some o))) = some r) ?_ ?_
 refine Qb h0 (fun w1_ h1 h0 => ?_)
 refine Qg (b := v8) rfl (fun c11 => ?_) (fun c11 => ?_)
 replace h1 := Qu c11 h1
 refine Q0 <| XP rfl rfl rfl (Q8 fo_42_0 rfl) <| XP rfl rfl rfl (Q7 Gb rfl rfl rfl) ?_
 refine QO h1 (fun g12 h1 => ?_)
 refine XP rfl rfl rfl (RO.indexA arr_153 rfl rfl g12) <| XP rfl rfl rfl (Q8 fo_152_4 rfl) ?_
 refine Qb h1 (fun x13 hx13 h1 => ?_)
 refine XP rfl rfl rfl (RO.loadCol (m := a0.kind) (sz := 5) (f := 4) (col := ([(-1), (-1), (-1), (-1), (-1), 1, 1, 1, (-1), (-1), (-1), 2, (-1)] : List Int)) Gb rfl rfl rfl hx13) <| XS rfl rfl rfl <| Q3 ?_
 have e := XN h1; subst e
 exact QG x13 (Qh (XK rfl (XK rfl (XK rfl (XK rfl XJ)))) (W8 rfl (W8 rfl (W8 rfl (W8 rfl (W8 rfl (W8 rfl (W8 rfl (W8 rfl (W8 rfl (W8 rfl W7)))))))))) (W4 rfl W3) rfl (Nat.le_trans hv0 (W1 rfl)) rfl rfl rfl (Wp rfl rfl (Wp rfl rfl (Wp rfl rfl (Wp rfl rfl (Wn rfl (Wp rfl rfl (Wp rfl rfl (Wp rfl rfl (Wp rfl rfl (Wp rfl rfl Wm)))))))))) rfl rfl) h0
 replace h1 := Qv c11 h1
 refine Qj ?_
 have e := XN h1; subst e
 exact QG (-1) (Qh (XK rfl (XK rfl (XK rfl (XK rfl XJ)))) (W8 rfl (W8 rfl (W8 rfl (W8 rfl (W8 rfl (W8 rfl (W8 rfl (W8 rfl (W8 rfl (W8 rfl W7)))))))))) (W4 rfl W3) rfl (Nat.le_trans hv0 (W1 rfl)) rfl rfl rfl (Wp rfl rfl (Wp rfl rfl (Wp rfl rfl (Wp rfl rfl (Wn rfl (Wp rfl rfl (Wp rfl rfl (Wp rfl rfl (Wp rfl rfl (Wp rfl rfl Wm)))))))))) rfl rfl) h0
 intro v10 h0
 refine Q1 <| Q2 <| Q2 <| Q0 <| XP rfl rfl rfl (Q8 G5 rfl) <| XP rfl rfl rfl (Q7 YG rfl rfl rfl) <| XP rfl rfl rfl (Qy (α := Tm) Ym rfl (.d _)) <| XR rfl rfl rfl <| Q3 <| Q1 <| Qd ?_
 refine QI 0 (fun (o14 : (Qc Wy Bool) × (List Wy)) => ⟨[], [(0, .cells 150 [.yld 1]), (1, .loop .ready none [(3, .v (.one (.ptr 3 0))), (4, .v (.one (.ptr 5 0))), (9, .v (.one (.fn 96 [(7, 0)])))] 31 #[10, 11] JG JF 2), (2, .obj (.deferred (some []))), (3, .cells 116 [.mp 4]), (4, .mp (QJ o14.1.1) o14.1.2), (5, .cells 23 [Wi 6 o14.2]), (7, .cells 42 (Wj a4)), (8, .cells 153 [Wh true, Wh false, Wg 0, Wg 0, Wg (-1), Wh false, Wh false, Wg 0, Wg 0, Wg (-1), Wh false, Wh false, Wg 1, Wg 0, Wg (-1), Wh false, Wh true, Wg (-1), Wg 0, Wg (-1), Wh false, Wh false, Wg 0, Wg 2, Wg (-1), Wh false, Wh false, Wg 0, Wg 2, Wg 1, Wh false, Wh false, Wg 0, Wg 2, Wg 1, Wh false, Wh false, Wg 0, Wg 2, Wg 1, Wh false, Wh false, Wg 0, Wg 3, Wg (-1), Wh false, Wh false, Wg 0, Wg 1, Wg (-1), Wh false, Wh false, Wg 0, Wg 1, Wg (-1), Wh false, Wh false, Wg 0, Wg 3, Wg 2, Wh true, Wh false, Wg 0, Wg 0, Wg (-1)]), (9, .cells 155 [.fn 98 [(0, 0), (8, 0), (9, 0)]]), (10, .cells 42 (Wj a0))], [(6, some ⟨9, 1, (Enc.encL o14.2).length, []⟩)], 12, 50, []⟩) (fun (o14 : (Qc Wy Bool) × (List Wy)) => (some (true, o14.1, o14.2)) = some r) ?_ ?_
 refine Qb h0 (fun o15 hl1 h0 => ?_)
 refine QH (Z2 a0 v10 a1 rc a4) (fun s1 => ⟨[(1, .v (.one (Wg a1))), (4, .v (.one (.ptr 9 0))), (8, .v (.one (Wg v10))), (31, .v (.one (We a0.kids))), (32, .v (.one (Wg (a0.kids.length : Int)))), (33, .v (.one (Wg s1.1)))], [(0, .cells 150 [.yld 1]), (1, .loop .ready none [(3, .v (.one (.ptr 3 0))), (4, .v (.one (.ptr 5 0))), (9, .v (.one (.fn 96 [(7, 0)])))] 31 #[10, 11] JG JF 2), (2, .obj (.deferred (some []))), (3, .cells 116 [.mp 4]), (4, .mp (QJ s1.2.1.1) s1.2.1.2), (5, .cells 23 [Wi 6 s1.2.2]), (7, .cells 42 (Wj a4)), (8, .cells 153 [Wh true, Wh false, Wg 0, Wg 0, Wg (-1), Wh false, Wh false, Wg 0, Wg 0, Wg (-1), Wh false, Wh false, Wg 1, Wg 0, Wg (-1), Wh false, Wh true, Wg (-1), Wg 0, Wg (-1), Wh false, Wh false, Wg 0, Wg 2, Wg (-1), Wh false, Wh false, Wg 0, Wg 2, Wg 1, Wh false, Wh false, Wg 0, Wg 2, Wg 1, Wh false, Wh false, Wg 0, Wg 2, Wg 1, Wh false, Wh false, Wg 0, Wg 3, Wg (-1), Wh false, Wh false, Wg 0, Wg 1, Wg (-1), Wh false, Wh false, Wg 0, Wg 1, Wg (-1), Wh false, Wh false, Wg 0, Wg 3, Wg 2, Wh true, Wh false, Wg 0, Wg 0, Wg (-1)]), (9, .cells 155 [.fn 98 [(0, 0), (8, 0), (9, 0)]]), (10, .cells 42 (Wj a0))], [(6, some ⟨9, 1, (Enc.encL s1.2.2).length, []⟩)], 12, 50, []⟩) (0, y1.1, y1.2) o15 (Qh (XK rfl (XK rfl (XK rfl (XK rfl (XK rfl (XK rfl XJ)))))) (W8 rfl (W8 rfl (W8 rfl (W8 rfl (W8 rfl (W8 rfl (W8 rfl (W8 rfl (W8 rfl (W8 rfl W7)))))))))) (W4 rfl W3) rfl (Nat.le_trans hv0 (W1 rfl)) rfl rfl rfl (Wp rfl rfl (Wp rfl rfl (Wp rfl rfl (Wp rfl rfl (Wn rfl (Wp rfl rfl (Wp rfl rfl (Wp rfl rfl (Wp rfl rfl (Wp rfl rfl Wm)))))))))) rfl rfl) hl1 (fun s1 n1 oo1 h1 ho1 => ?_)
 unfold Z2 at h1
 refine Q2 <| Q0 <| XP rfl rfl rfl (Q4 rfl rfl rfl) <| Q3 <| Q1 <| Q2 ?_
 refine Qg (b := (decide (s1.1 < (a0.kids.length : Int)))) rfl (fun c16 => ?_) (fun c16 => ?_)
 replace h1 := Qu c16 h1
 refine Qj <| Q1 <| Q2 <| Qd <| Q2 <| Q0 <| XR rfl rfl rfl ?_
 refine Qb h1 (fun x17 hx17 h1 => ?_)
 refine XP rfl rfl rfl (Qq (α := Tm) Ym rfl (.d _) rfl hx17) <| XP rfl rfl rfl (Jm JH rfl rfl rfl) <| Q9 rfl rfl (W1 rfl) (Ql GT rfl) <| XS rfl rfl rfl <| QA rfl rfl (Qi JH rfl rfl rfl rfl (W1 rfl) rfl) <| Q3 <| Q1 <| Q2 <| Q0 <| XR rfl rfl rfl <| XS rfl rfl rfl <| Q3 <| Q1 <| Q2 ?_
 refine Q2 <| Q0 <| XR rfl rfl rfl <| XR rfl rfl rfl <| XP rfl rfl rfl (Q4 rfl rfl rfl) <| Q3 <| Q1 ?_
 refine Jy (fun (v18 : Int) => ⟨[(1, .v (.one (Wg a1))), (4, .v (.one (.ptr 9 0))), (8, .v (.one (Wg v10))), (10, .v (.one (.ptr 12 0))), (11, .v (.one (Wg v18))), (31, .v (.one (We a0.kids))), (32, .v (.one (Wg (a0.kids.length : Int)))), (33, .v (.one (Wg s1.1)))], [(0, .cells 150 [.yld 1]), (1, .loop .ready none [(3, .v (.one (.ptr 3 0))), (4, .v (.one (.ptr 5 0))), (9, .v (.one (.fn 96 [(7, 0)])))] 31 #[10, 11] JG JF 2), (2, .obj (.deferred (some []))), (3, .cells 116 [.mp 4]), (4, .mp (QJ s1.2.1.1) s1.2.1.2), (5, .cells 23 [Wi 6 s1.2.2]), (7, .cells 42 (Wj a4)), (8, .cells 153 [Wh true, Wh false, Wg 0, Wg 0, Wg (-1), Wh false, Wh false, Wg 0, Wg 0, Wg (-1), Wh false, Wh false, Wg 1, Wg 0, Wg (-1), Wh false, Wh true, Wg (-1), Wg 0, Wg (-1), Wh false, Wh false, Wg 0, Wg 2, Wg (-1), Wh false, Wh false, Wg 0, Wg 2, Wg 1, Wh false, Wh false, Wg 0, Wg 2, Wg 1, Wh false, Wh false, Wg 0, Wg 2, Wg 1, Wh false, Wh false, Wg 0, Wg 3, Wg (-1), Wh false, Wh false, Wg 0, Wg 1, Wg (-1), Wh false, Wh false, Wg 0, Wg 1, Wg (-1), Wh false, Wh false, Wg 0, Wg 3, Wg 2, Wh true, Wh false, Wg 0, Wg 0, Wg (-1)]), (9, .cells 155 [.fn 98 [(0, 0), (8, 0), (9, 0)]]), (10, .cells 42 (Wj a0)), (12, .cells 42 (Wj x17))], [(6, some ⟨9, 1, (Enc.encL s1.2.2).length, []⟩)], 13, 50, []⟩) (fun (v18 : Int) => (Option.bind (rc (x17, v18, s1.2.1, s1.2.2, a4)) fun (x19 : Bool × (Qc Wy Bool) × (List Wy)) =>
   cond (!x19.1)
     (some (.done (.inr (false, x19.2.1, x19.2.2))))
     (some (.next ((QW (s1.1 + 1)), x19.2.1, x19.2.2)))) = some oo1) ?_ ?_
 refine Qb h1 (fun w2_ h2 h1 => ?_)
 refine Qg (b := (s1.1 == v10)) rfl (fun c19 => ?_) (fun c19 => ?_)
 replace h2 := Qu c19 h2
 refine Q0 <| XR rfl rfl rfl <| XP rfl rfl rfl (Q4 rfl rfl rfl) <| XS rfl rfl rfl <| Q3 ?_
 have e := XN h2; subst e
 exact QG (QW (a1 + 1)) (Qh (XK rfl (XK rfl (XK rfl (XK rfl (XK rfl (XK rfl (XK rfl (XK rfl XJ)))))))) (W8 rfl (W8 rfl (W8 rfl (W8 rfl (W8 rfl (W8 rfl (W8 rfl (W8 rfl (W8 rfl (W8 rfl (W8 rfl W7))))))))))) (W4 rfl W3) rfl (Nat.le_trans hv0 (W1 rfl)) rfl rfl rfl (Wp rfl rfl (Wp rfl rfl (Wp rfl rfl (Wp rfl rfl (Wn rfl (Wp rfl rfl (Wp rfl rfl (Wp rfl rfl (Wp rfl rfl (Wp rfl rfl (Wp rfl rfl Wm))))))))))) rfl rfl) h1
 replace h2 := Qv c19 h2
 refine Qj ?_
 have e := XN h2; subst e
 exact QG a1 (Qh (XK rfl (XK rfl (XK rfl (XK rfl (XK rfl (XK rfl (XK rfl (XK rfl XJ)))))))) (W8 rfl (W8 rfl (W8 rfl (W8 rfl (W8 rfl (W8 rfl (W8 rfl (W8 rfl (W8 rfl (W8 rfl (W8 rfl W7))))))))))) (W4 rfl W3) rfl (Nat.le_trans hv0 (W1 rfl)) rfl rfl rfl (Wp rfl rfl (Wp rfl rfl (Wp rfl rfl (Wp rfl rfl (Wn rfl (Wp rfl rfl (Wp rfl rfl (Wp rfl rfl (Wp rfl rfl (Wp rfl rfl (Wp rfl rfl Wm))))))))))) rfl rfl) h1
 intro v18 h1
 refine Q1 <| Q2 <| Q0 <| XP rfl rfl rfl (Q7 ag_155 rfl rfl rfl) <| XP rfl rfl rfl (Qz JH rfl rfl rfl rfl) <| XR rfl rfl rfl ?_
 refine Qb h1 (fun x20 hx20 h1 => ?_)
 refine Q9 rfl rfl (W1 rfl) (QS (hp1' := [(0, .cells 150 [.yld 1]), (1, .loop .ready none [(3, .v (.one (.ptr 3 0))), (4, .v (.one (.ptr 5 0))), (9, .v (.one (.fn 96 [(7, 0)])))] 31 #[10, 11] JG JF 2), (2, .obj (.deferred (some []))), (3, .cells 116 [.mp 4]), (4, .mp (QJ x20.2.1.1) x20.2.1.2), (5, .cells 23 [Wi 6 x20.2.2]), (7, .cells 42 (Wj a4)), (8, .cells 153 [Wh true, Wh false, Wg 0, Wg 0, Wg (-1), Wh false, Wh false, Wg 0, Wg 0, Wg (-1), Wh false, Wh false, Wg 1, Wg 0, Wg (-1), Wh false, Wh true, Wg (-1), Wg 0, Wg (-1), Wh false, Wh false, Wg 0, Wg 2, Wg (-1), Wh false, Wh false, Wg 0, Wg 2, Wg 1, Wh false, Wh false, Wg 0, Wg 2, Wg 1, Wh false, Wh false, Wg 0, Wg 2, Wg 1, Wh false, Wh false, Wg 0, Wg 3, Wg (-1), Wh false, Wh false, Wg 0, Wg 1, Wg (-1), Wh false, Wh false, Wg 0, Wg 1, Wg (-1), Wh false, Wh false, Wg 0, Wg 3, Wg 2, Wh true, Wh false, Wg 0, Wg 0, Wg (-1)]), (9, .cells 155 [.fn 98 [(0, 0), (8, 0), (9, 0)]])]) (tk1' := [(6, some ⟨9, 1, (Enc.encL x20.2.2).length, []⟩)]) (hpF := [(10, .cells 42 (Wj a0)), (12, .cells 42 (Wj x17))]) (tkF := []) (res2 := Qr [.one (Wh x20.1)]) (nx2 := 15) [0, 1, 2, 3, 4, 5, 6, 7, 8, 9] rfl rfl (H x17 v18 s1.2.1 s1.2.2 a4 x20 hx20) rfl rfl (XW rfl rfl (XW rfl rfl (XW rfl rfl (XW rfl rfl (XU rfl (XW rfl rfl (XW rfl rfl (XW rfl rfl (XW rfl rfl XT))))))))) rfl rfl (Wb rfl (Wb rfl (Wb rfl (Wb rfl (Wc rfl (Wb rfl (Wb rfl (Wb rfl (Wb rfl Wa))))))))) (W6 rfl W5) (W8 rfl (W8 rfl W7)) W3 rfl rfl rfl rfl rfl (Wp rfl rfl (Wp rfl rfl (Wp rfl rfl (Wp rfl rfl (Wn rfl (Wp rfl rfl (Wp rfl rfl (Wp rfl rfl (Wp rfl rfl Wm))))))))) rfl rfl rfl rfl) <| XP rfl rfl rfl (Jp rfl) <| Q3 <| Q1 ?_
 refine Qg (b := (!x20.1)) rfl (fun c21 => ?_) (fun c21 => ?_)
 replace h1 := Qu c21 h1
 refine Q2 <| Q0 <| XS rfl rfl rfl <| Q3 <| Q1 <| Qw ?_
 have e := XN h1; subst e
 have e_ : _ = _ := ho1
 subst e_
 try dsimp only [Sum.elim_inl, Sum.elim_inr] at h0
 have e := XN h0; subst e
 exact hQ0 _ _ _ (.inr rfl) rfl (Qh (XK rfl XJ) (W8 rfl (W8 rfl (W8 rfl (W8 rfl (W8 rfl (W8 rfl (W8 rfl (W8 rfl (W8 rfl W7))))))))) (W4 rfl W3) rfl (Nat.le_trans hv0 (W1 rfl)) rfl rfl rfl (Wp rfl rfl (Wp rfl rfl (Wp rfl rfl (Wp rfl rfl (Wn rfl (Wp rfl rfl (Wp rfl rfl (Wp rfl rfl (Wp rfl rfl Wm))))))))) rfl rfl)
 replace h1 := Qv c21 h1
 refine Qj <| Qk <| Q1 <| Q0 <| XP rfl rfl rfl (Q4 rfl rfl rfl) <| XR rfl rfl rfl <| Q3 ?_
 have e := XN h1; subst e
 refine QD ((QW (s1.1 + 1)), x20.2.1, x20.2.2) (Qh (XK rfl (XK rfl (XK rfl (XK rfl (XK rfl (XK rfl XJ)))))) (W8 rfl (W8 rfl (W8 rfl (W8 rfl (W8 rfl (W8 rfl (W8 rfl (W8 rfl (W8 rfl (W8 rfl W7)))))))))) (W4 rfl W3) rfl (Nat.le_trans hv0 (W1 rfl)) rfl rfl rfl (Wp rfl rfl (Wp rfl rfl (Wp rfl rfl (Wp rfl rfl (Wn rfl (Wp rfl rfl (Wp rfl rfl (Wp rfl rfl (Wp rfl rfl (Wp rfl rfl Wm)))))))))) rfl rfl) ho1
 replace h1 := Qv c16 h1
 refine QN <| Qf <| Qf ?_
 have e := XN h1; subst e
 have e_ : _ = _ := ho1
 subst e_
 exact QF (s1.2.1, s1.2.2) (Qh XJ (W8 rfl (W8 rfl (W8 rfl (W8 rfl (W8 rfl (W8 rfl (W8 rfl (W8 rfl (W8 rfl (W8 rfl W7)))))))))) (W4 rfl W3) rfl (Nat.le_trans hv0 (W1 rfl)) rfl rfl rfl (Wp rfl rfl (Wp rfl rfl (Wp rfl rfl (Wp rfl rfl (Wn rfl (Wp rfl rfl (Wp rfl rfl (Wp rfl rfl (Wp rfl rfl (Wp rfl rfl Wm)))))))))) rfl rfl) h0
 intro o14 h0
 refine Qx <| Q1 <| Q2 <| Q0 <| XS rfl rfl rfl <| Q3 <| Q1 <| Qw ?_
 have e := XN h0; subst e
 exact hQ0 _ _ _ (.inr rfl) rfl (Qh (XK rfl XJ) (W8 rfl (W8 rfl (W8 rfl (W8 rfl (W8 rfl (W8 rfl (W8 rfl (W8 rfl (W8 rfl W7))))))))) (W4 rfl W3) rfl (Nat.le_trans hv0 (W1 rfl)) rfl rfl rfl (Wp rfl rfl (Wp rfl rfl (Wp rfl rfl (Wp rfl rfl (Wn rfl (Wp rfl rfl (Wp rfl rfl (Wp rfl rfl (Wp rfl rfl Wm))))))))) rfl rfl)
theorem m98f0_all (n : Nat) (u : Tm × Int × (Qc Wy Bool) × (List Wy) × Tm) (r : Bool × (Qc Wy Bool) × (List Wy)) (h0 : Yn Gz n u = some r) : CallM Try.prog 98 [.agg (Wj u.1), .one (Wg u.2.1), .one (.ptr 0 0), .one (.ptr 8 0), .one (.ptr 9 0)] ⟨[(0, .cells 150 [.yld 1]), (1, .loop .ready none [(3, .v (.one (.ptr 3 0))), (4, .v (.one (.ptr 5 0))), (9, .v (.one (.fn 96 [(7, 0)])))] 31 #[10, 11] JG JF 2), (2, .obj (.deferred (some []))), (3, .cells 116 [.mp 4]), (4, .mp (QJ u.2.2.1.1) u.2.2.1.2), (5, .cells 23 [Wi 6 u.2.2.2.1]), (7, .cells 42 (Wj u.2.2.2.2)), (8, .cells 153 [Wh true, Wh false, Wg 0, Wg 0, Wg (-1), Wh false, Wh false, Wg 0, Wg 0, Wg (-1), Wh false, Wh false, Wg 1, Wg 0, Wg (-1), Wh false, Wh true, Wg (-1), Wg 0, Wg (-1), Wh false, Wh false, Wg 0, Wg 2, Wg (-1), Wh false, Wh false, Wg 0, Wg 2, Wg 1, Wh false, Wh false, Wg 0, Wg 2, Wg 1, Wh false, Wh false, Wg 0, Wg 2, Wg 1, Wh false, Wh false, Wg 0, Wg 3, Wg (-1), Wh false, Wh false, Wg 0, Wg 1, Wg (-1), Wh false, Wh false, Wg 0, Wg 1, Wg (-1), Wh false, Wh false, Wg 0, Wg 3, Wg 2, Wh true, Wh false, Wg 0, Wg 0, Wg (-1)]), (9, .cells 155 [.fn 98 [(0, 0), (8, 0), (9, 0)]])], [(6, some ⟨9, 1, (Enc.encL u.2.2.2.1).length, []⟩)], 10⟩ (Qr [.one (Wh r.1)]) ⟨[(0, .cells 150 [.yld 1]), (1, .loop .ready none [(3, .v (.one (.ptr 3 0))), (4, .v (.one (.ptr 5 0))), (9, .v (.one (.fn 96 [(7, 0)])))] 31 #[10, 11] JG JF 2), (2, .obj (.deferred (some []))), (3, .cells 116 [.mp 4]), (4, .mp (QJ r.2.1.1) r.2.1.2), (5, .cells 23 [Wi 6 r.2.2]), (7, .cells 42 (Wj u.2.2.2.2)), (8, .cells 153 [Wh true, Wh false, Wg 0, Wg 0, Wg (-1), Wh false, Wh false, Wg 0, Wg 0, Wg (-1), Wh false, Wh false, Wg 1, Wg 0, Wg (-1), Wh false, Wh true, Wg (-1), Wg 0, Wg (-1), Wh false, Wh false, Wg 0, Wg 2, Wg (-1), Wh false, Wh false, Wg 0, Wg 2, Wg 1, Wh false, Wh false, Wg 0, Wg 2, Wg 1, Wh false, Wh false, Wg 0, Wg 2, Wg 1, Wh false, Wh false, Wg 0, Wg 3, Wg (-1), Wh false, Wh false, Wg 0, Wg 1, Wg (-1), Wh false, Wh false, Wg 0, Wg 1, Wg (-1), Wh false, Wh false, Wg 0, Wg 3, Wg 2, Wh true, Wh false, Wg 0, Wg 0, Wg (-1)]), (9, .cells 155 [.fn 98 [(0, 0), (8, 0), (9, 0)]])], [(6, some ⟨9, 1, (Enc.encL r.2.2).length, []⟩)], 12⟩ :=
 Z0 (C := fun u r => CallM Try.prog 98 [.agg (Wj u.1), .one (Wg u.2.1), .one (.ptr 0 0), .one (.ptr 8 0), .one (.ptr 9 0)] ⟨[(0, .cells 150 [.yld 1]), (1, .loop .ready none [(3, .v (.one (.ptr 3 0))), (4, .v (.one (.ptr 5 0))), (9, .v (.one (.fn 96 [(7, 0)])))] 31 #[10, 11] JG JF 2), (2, .obj (.deferred (some []))), (3, .cells 116 [.mp 4]), (4, .mp (QJ u.2.2.1.1) u.2.2.1.2), (5, .cells 23 [Wi 6 u.2.2.2.1]), (7, .cells 42 (Wj u.2.2.2.2)), (8, .cells 153 [Wh true, Wh false, Wg 0, Wg 0, Wg (-1), Wh false, Wh false, Wg 0, Wg 0, Wg (-1), Wh false, Wh false, Wg 1, Wg 0, Wg (-1), Wh false, Wh true, Wg (-1), Wg 0, Wg (-1), Wh false, Wh false, Wg 0, Wg 2, Wg (-1), Wh false, Wh false, Wg 0, Wg 2, Wg 1, Wh false, Wh false, Wg 0, Wg 2, Wg 1, Wh false, Wh false, Wg 0, Wg 2, Wg 1, Wh false, Wh false, Wg 0, Wg 3, Wg (-1), Wh false, Wh false, Wg 0, Wg 1, Wg (-1), Wh false, Wh false, Wg 0, Wg 1, Wg (-1), Wh false, Wh false, Wg 0, Wg 3, Wg 2, Wh true, Wh false, Wg 0, Wg 0, Wg (-1)]), (9, .cells 155 [.fn 98 [(0, 0), (8, 0), (9, 0)]])], [(6, some ⟨9, 1, (Enc.encL u.2.2.2.1).length, []⟩)], 10⟩ (Qr [.one (Wh r.1)]) ⟨[(0, .cells 150 [.yld 1]), (1, .loop .ready none [(3, .v (.one (.ptr 3 0))), (4, .v (.one (.ptr 5 0))), (9, .v (.one (.fn 96 [(7, 0)])))] 31 #[10, 11] JG JF 2), (2, .obj (.deferred (some []))), (3, .cells 116 [.mp 4]), (4, .mp (QJ r.2.1.1) r.2.1.2), (5, .cells 23 [Wi 6 r.2.2]), (7, .cells 42 (Wj u.2.2.2.2)), (8, .cells 153 [Wh true, Wh false, Wg 0, Wg 0, Wg (-1), Wh false, Wh false, Wg 0, Wg 0, Wg (-1), Wh false, Wh false, Wg 1, Wg 0, Wg (-1), Wh false, Wh true, Wg (-1), Wg 0, Wg (-1), Wh false, Wh false, Wg 0, Wg 2, Wg (-1), Wh false, Wh false, Wg 0, Wg 2, Wg 1, Wh false, Wh false, Wg 0, Wg 2, Wg 1, Wh false, Wh false, Wg 0, Wg 2, Wg 1, Wh false, Wh false, Wg 0, Wg 3, Wg (-1), Wh false, Wh false, Wg 0, Wg 1, Wg (-1), Wh false, Wh false, Wg 0, Wg 1, Wg (-1), Wh false, Wh false, Wg 0, Wg 3, Wg 2, Wh true, Wh false, Wg 0, Wg 0, Wg (-1)]), (9, .cells 155 [.fn 98 [(0, 0), (8, 0), (9, 0)]])], [(6, some ⟨9, 1, (Enc.encL r.2.2).length, []⟩)], 12⟩) (fun rc H u r h => m98f0s_ok rc (fun a0 a1 a2 a3 a4 r h => H (a0, a1, a2, a3, a4) r h) u.1 u.2.1 u.2.2.1 u.2.2.2.1 u.2.2.2.2 r h) n u r h0
theorem m98f0_ok (a0 : Tm) (a1 : Int) (a2 : Qc Wy Bool) (a3 : List Wy) (a4 : Tm) (r : Bool × (Qc Wy Bool) × (List Wy)) (h0 : m98f0 a0 a1 a2 a3 a4 = some r) : CallM Try.prog 98 [.agg (Wj a0), .one (Wg a1), .one (.ptr 0 0), .one (.ptr 8 0), .one (.ptr 9 0)] ⟨[(0, .cells 150 [.yld 1]), (1, .loop .ready none [(3, .v (.one (.ptr 3 0))), (4, .v (.one (.ptr 5 0))), (9, .v (.one (.fn 96 [(7, 0)])))] 31 #[10, 11] JG JF 2), (2, .obj (.deferred (some []))), (3, .cells 116 [.mp 4]), (4, .mp (QJ a2.1) a2.2), (5, .cells 23 [Wi 6 a3]), (7, .cells 42 (Wj a4)), (8, .cells 153 [Wh true, Wh false, Wg 0, Wg 0, Wg (-1), Wh false, Wh false, Wg 0, Wg 0, Wg (-1), Wh false, Wh false, Wg 1, Wg 0, Wg (-1), Wh false, Wh true, Wg (-1), Wg 0, Wg (-1), Wh false, Wh false, Wg 0, Wg 2, Wg (-1), Wh false, Wh false, Wg 0, Wg 2, Wg 1, Wh false, Wh false, Wg 0, Wg 2, Wg 1, Wh false, Wh false, Wg 0, Wg 2, Wg 1, Wh false, Wh false, Wg 0, Wg 3, Wg (-1), Wh false, Wh false, Wg 0, Wg 1, Wg (-1), Wh false, Wh false, Wg 0, Wg 1, Wg (-1), Wh false, Wh false, Wg 0, Wg 3, Wg 2, Wh true, Wh false, Wg 0, Wg 0, Wg (-1)]), (9, .cells 155 [.fn 98 [(0, 0), (8, 0), (9, 0)]])], [(6, some ⟨9, 1, (Enc.encL a3).length, []⟩)], 10⟩ (Qr [.one (Wh r.1)]) ⟨[(0, .cells 150 [.yld 1]), (1, .loop .ready none [(3, .v (.one (.ptr 3 0))), (4, .v (.one (.ptr 5 0))), (9, .v (.one (.fn 96 [(7, 0)])))] 31 #[10, 11] JG JF 2), (2, .obj (.deferred (some []))), (3, .cells 116 [.mp 4]), (4, .mp (QJ r.2.1.1) r.2.1.2), (5, .cells 23 [Wi 6 r.2.2]), (7, .cells 42 (Wj a4)), (8, .cells 153 [Wh true, Wh false, Wg 0, Wg 0, Wg (-1), Wh false, Wh false, Wg 0, Wg 0, Wg (-1), Wh false, Wh false, Wg 1, Wg 0, Wg (-1), Wh false, Wh true, Wg (-1), Wg 0, Wg (-1), Wh false, Wh false, Wg 0, Wg 2, Wg (-1), Wh false, Wh false, Wg 0, Wg 2, Wg 1, Wh false, Wh false, Wg 0, Wg 2, Wg 1, Wh false, Wh false, Wg 0, Wg 2, Wg 1, Wh false, Wh false, Wg 0, Wg 3, Wg (-1), Wh false, Wh false, Wg 0, Wg 1, Wg (-1), Wh false, Wh false, Wg 0, Wg 1, Wg (-1), Wh false, Wh false, Wg 0, Wg 3, Wg 2, Wh true, Wh false, Wg 0, Wg 0, Wg (-1)]), (9, .cells 155 [.fn 98 [(0, 0), (8, 0), (9, 0)]])], [(6, some ⟨9, 1, (Enc.encL r.2.2).length, []⟩)], 12⟩ := m98f0_all QB (a0, a1, a2, a3, a4) r h0
def XA (a0 : Tm) : Option ((List Wy)) :=
 Option.bind (some ()) (fun (y1 : Unit) => Option.bind (Option.bind (some ()) (fun (y5 : Unit) => Option.bind (m98f0 a0 0 gmNil ([]) a0) fun (x7 : Bool × (Qc Wy Bool) × (List Wy)) =>
 some (x7.2.1, x7.2.2))) (fun (y3 : (Qc Wy Bool) × (List Wy)) => some y3.2))
set_option maxRecDepth 100000 in
set_option maxHeartbeats 8000000 in
theorem m74_ok (a0 : Tm) (r : (List Wy)) (h0 : XA a0 = some r) : Fun Try.prog 74 [.agg (Wj a0)] (Qr [.one (We r)]) := by
 unfold XA at h0
 refine Jd 9 31 Try.func74 rfl en_74 rfl (W1 rfl) (fun S w => ?_)
 simp only [Jc]
 refine Q2 <| Q0 <| Q9 rfl rfl (W1 rfl) (Js rfl) <| XS rfl rfl rfl <| Q3 <| Q1 <| Q2 <| Q0 <| Q9 rfl rfl (W1 rfl) (JW Wy Bool) <| Q9 rfl rfl (W1 rfl) (Ql z_116 rfl) <| QA rfl rfl (Qi Zw rfl rfl rfl rfl (W1 rfl) rfl) <| Q3 <| Q1 <| Q2 ?_
 refine Q0 <| Q9 rfl rfl (W1 rfl) (Ql z_23 rfl) <| Q3 <| Q1 <| Q2 <| Q2 <| Q0 <| XP rfl rfl rfl (Qz JH rfl rfl rfl rfl) ?_
 refine Qb h0 (fun y1 h1 h0 => ?_)
 have hc2 : CallM Try.prog 88 [.agg (Wj a0)] ⟨[(0, .cells 42 (Wj a0)), (1, .mp (QJ (gmNil : Qc Wy Bool).1) (gmNil : Qc Wy Bool).2), (2, .cells 116 [.mp 1]), (3, .cells 23 [Wf])], [], 4⟩ (Qr [.one (.fn 96 [(4, 0)])]) ⟨[(0, .cells 42 (Wj a0)), (1, .mp (QJ (gmNil : Qc Wy Bool).1) (gmNil : Qc Wy Bool).2), (2, .cells 116 [.mp 1]), (3, .cells 23 [Wf]), (4, .cells 42 (Wj a0))], [], 5⟩ := by
  refine QM ⟨[(2, .v (.one (.fn 96 [(4, 0)])))], [(0, .cells 42 (Wj a0)), (1, .mp (QJ (gmNil : Qc Wy Bool).1) (gmNil : Qc Wy Bool).2), (2, .cells 116 [.mp 1]), (3, .cells 23 [Wf]), (4, .cells 42 (Wj a0))], [], 5, 4, []⟩ rfl rfl en_88 (W1 rfl) rfl (Qp rfl .nil) (fun w0 M V0 Q hv1 hQ1 => ?_)
  simp only [Jc]
  refine Q2 <| Q0 <| Q9 rfl rfl (W1 rfl) (Js rfl) <| XS rfl rfl rfl <| Q3 <| Q1 <| Q2 <| Q0 <| XP rfl rfl rfl (RO.makeFunc1 rfl) <| XS rfl rfl rfl <| Q3 <| Q1 <| Qw ?_
  have e := XN h1; subst e
  exact hQ1 _ _ _ (.inr rfl) rfl (Qh (XK rfl XJ) (W8 rfl (W8 rfl (W8 rfl (W8 rfl (W8 rfl W7))))) W3 rfl (Nat.le_trans hv1 (W1 rfl)) rfl rfl rfl (Wp rfl rfl (Wn rfl (Wp rfl rfl (Wp rfl rfl (Wp rfl rfl Wm))))) rfl rfl)
 refine Q9 rfl rfl (W1 rfl) (QP rfl rfl rfl hc2 rfl (W8 rfl (W8 rfl (W8 rfl (W8 rfl W7)))) W3) <| Q3 <| Q1 <| Qd <| YH (i := 3) (off := 0) 9 1 rfl rfl <| XC.less (st' := ⟨[(3, .v (.one (.ptr 2 0))), (4, .v (.one (.ptr 3 0))), (9, .v (.one (.fn 96 [(4, 0)])))], [(0, .cells 42 (Wj a0)), (1, .mp (QJ (gmNil : Qc Wy Bool).1) (gmNil : Qc Wy Bool).2), (2, .cells 116 [.mp 1]), (3, .cells 23 [Wi 5 ([] : List Wy)]), (4, .cells 42 (Wj a0))], [(5, some ⟨9, 1, (Enc.encL ([] : List Wy)).length, []⟩)], 6, 31, []⟩) (Qh (XK rfl (XK rfl (XK rfl XJ))) (W8 rfl (W8 rfl (W8 rfl (W8 rfl (W8 rfl W7))))) (W4 rfl W3) rfl (Nat.zero_le _) rfl rfl rfl (Wp rfl rfl (Wn rfl (Wp rfl rfl (Wp rfl rfl (Wp rfl rfl Wm))))) rfl rfl) ?_
 refine Qb h0 (fun y3 h1 h0 => ?_)
 have hc4 : CallM Try.prog 96 [.one (.yld 7), .one (.ptr 4 0)] ⟨[(7, .loop .ready none [(3, .v (.one (.ptr 2 0))), (4, .v (.one (.ptr 3 0))), (9, .v (.one (.fn 96 [(4, 0)])))] 31 #[10, 11] JG JF 6), (6, .obj (.deferred (some []))), (0, .cells 42 (Wj a0)), (1, .mp (QJ (gmNil : Qc Wy Bool).1) (gmNil : Qc Wy Bool).2), (2, .cells 116 [.mp 1]), (3, .cells 23 [Wi 5 ([] : List Wy)]), (4, .cells 42 (Wj a0))], [(5, some ⟨9, 1, (Enc.encL ([] : List Wy)).length, []⟩)], 8⟩ (Qr []) ⟨[(0, .cells 42 (Wj a0)), (1, .mp (QJ y3.1.1) y3.1.2), (2, .cells 116 [.mp 1]), (3, .cells 23 [Wi 5 y3.2]), (4, .cells 42 (Wj a0)), (6, .obj (.deferred (some []))), (7, .loop .ready none [(3, .v (.one (.ptr 2 0))), (4, .v (.one (.ptr 3 0))), (9, .v (.one (.fn 96 [(4, 0)])))] 31 #[10, 11] JG JF 6)], [(5, some ⟨9, 1, (Enc.encL y3.2).length, []⟩)], 14⟩ := by
  refine QM ⟨[], [(0, .cells 42 (Wj a0)), (1, .mp (QJ y3.1.1) y3.1.2), (2, .cells 116 [.mp 1]), (3, .cells 23 [Wi 5 y3.2]), (4, .cells 42 (Wj a0)), (6, .obj (.deferred (some []))), (7, .loop .ready none [(3, .v (.one (.ptr 2 0))), (4, .v (.one (.ptr 3 0))), (9, .v (.one (.fn 96 [(4, 0)])))] 31 #[10, 11] JG JF 6)], [(5, some ⟨9, 1, (Enc.encL y3.2).length, []⟩)], 14, 10, []⟩ rfl rfl en_96 (W1 rfl) rfl .nil (fun w0 M V0 Q hv1 hQ1 => ?_)
  simp only [Jc]
  refine Q2 <| Q0 <| Q9 rfl rfl (W1 rfl) (Js rfl) <| Q3 <| Q1 <| Q2 <| Q0 ?_
  refine Qb h1 (fun y5 h2 h1 => ?_)
  have hc6 : CallM Try.prog 97 [] ⟨[(0, .cells 42 (Wj a0)), (1, .mp (QJ (gmNil : Qc Wy Bool).1) (gmNil : Qc Wy Bool).2), (2, .cells 116 [.mp 1]), (3, .cells 23 [Wi 5 ([] : List Wy)]), (4, .cells 42 (Wj a0)), (6, .obj (.deferred (some []))), (7, .loop .ready none [(3, .v (.one (.ptr 2 0))), (4, .v (.one (.ptr 3 0))), (9, .v (.one (.fn 96 [(4, 0)])))] 31 #[10, 11] JG JF 6), (8, .cells 150 [.yld 7])], [(5, some ⟨9, 1, (Enc.encL ([] : List Wy)).length, []⟩)], 9⟩ (Qr [.agg [Wh true, Wh false, Wg 0, Wg 0, Wg (-1), Wh false, Wh false, Wg 0, Wg 0, Wg (-1), Wh false, Wh false, Wg 1, Wg 0, Wg (-1), Wh false, Wh true, Wg (-1), Wg 0, Wg (-1), Wh false, Wh false, Wg 0, Wg 2, Wg (-1), Wh false, Wh false, Wg 0, Wg 2, Wg 1, Wh false, Wh false, Wg 0, Wg 2, Wg 1, Wh false, Wh false, Wg 0, Wg 2, Wg 1, Wh false, Wh false, Wg 0, Wg 3, Wg (-1), Wh false, Wh false, Wg 0, Wg 1, Wg (-1), Wh false, Wh false, Wg 0, Wg 1, Wg (-1), Wh false, Wh false, Wg 0, Wg 3, Wg 2, Wh true, Wh false, Wg 0, Wg 0, Wg (-1)]]) ⟨[(0, .cells 42 (Wj a0)), (1, .mp (QJ (gmNil : Qc Wy Bool).1) (gmNil : Qc Wy Bool).2), (2, .cells 116 [.mp 1]), (3, .cells 23 [Wi 5 ([] : List Wy)]), (4, .cells 42 (Wj a0)), (6, .obj (.deferred (some []))), (7, .loop .ready none [(3, .v (.one (.ptr 2 0))), (4, .v (.one (.ptr 3 0))), (9, .v (.one (.fn 96 [(4, 0)])))] 31 #[10, 11] JG JF 6), (8, .cells 150 [.yld 7]), (9, .cells 153 [Wh true, Wh false, Wg 0, Wg 0, Wg (-1), Wh false, Wh false, Wg 0, Wg 0, Wg (-1), Wh false, Wh false, Wg 1, Wg 0, Wg (-1), Wh false, Wh true, Wg (-1), Wg 0, Wg (-1), Wh false, Wh false, Wg 0, Wg 2, Wg (-1), Wh false, Wh false, Wg 0, Wg 2, Wg 1, Wh false, Wh false, Wg 0, Wg 2, Wg 1, Wh false, Wh false, Wg 0, Wg 2, Wg 1, Wh false, Wh false, Wg 0, Wg 3, Wg (-1), Wh false, Wh false, Wg 0, Wg 1, Wg (-1), Wh false, Wh false, Wg 0, Wg 1, Wg (-1), Wh false, Wh false, Wg 0, Wg 3, Wg 2, Wh true, Wh false, Wg 0, Wg 0, Wg (-1)])], [(5, some ⟨9, 1, (Enc.encL ([] : List Wy)).length, []⟩)], 10⟩ := by
   refine QM ⟨[(0, .v (.one (.ptr 9 0)))], [(0, .cells 42 (Wj a0)), (1, .mp (QJ (gmNil : Qc Wy Bool).1) (gmNil : Qc Wy Bool).2), (2, .cells 116 [.mp 1]), (3, .cells 23 [Wi 5 ([] : List Wy)]), (4, .cells 42 (Wj a0)), (6, .obj (.deferred (some []))), (7, .loop .ready none [(3, .v (.one (.ptr 2 0))), (4, .v (.one (.ptr 3 0))), (9, .v (.one (.fn 96 [(4, 0)])))] 31 #[10, 11] JG JF 6), (8, .cells 150 [.yld 7]), (9, .cells 153 [Wh true, Wh false, Wg 0, Wg 0, Wg (-1), Wh false, Wh false, Wg 0, Wg 0, Wg (-1), Wh false, Wh false, Wg 1, Wg 0, Wg (-1), Wh false, Wh true, Wg (-1), Wg 0, Wg (-1), Wh false, Wh false, Wg 0, Wg 2, Wg (-1), Wh false, Wh false, Wg 0, Wg 2, Wg 1, Wh false, Wh false, Wg 0, Wg 2, Wg 1, Wh false, Wh false, Wg 0, Wg 2, Wg 1, Wh false, Wh false, Wg 0, Wg 3, Wg (-1), Wh false, Wh false, Wg 0, Wg 1, Wg (-1), Wh false, Wh false, Wg 0, Wg 1, Wg (-1), Wh false, Wh false, Wg 0, Wg 3, Wg 2, Wh true, Wh false, Wg 0, Wg 0, Wg (-1)])], [(5, some ⟨9, 1, (Enc.encL ([] : List Wy)).length, []⟩)], 10, 15, []⟩ rfl rfl en_97 (W1 rfl) rfl (JU ag_153 rfl rfl rfl rfl .nil) (fun w0 M V0 Q hv2 hQ2 => ?_)
   simp only [Jc]
   refine Q2 <| Q0 <| Q9 rfl rfl (W1 rfl) (Ql z_153 rfl) <| Q3 <| Q1 <| Q2 <| Q0 <| XP rfl rfl rfl (JE YW rfl rfl rfl rfl) <| XP rfl rfl rfl (YX YW rfl rfl rfl) <| XP rfl rfl rfl (JE YW rfl rfl rfl rfl) <| XP rfl rfl rfl (RO.build3 YW rfl rfl rfl rfl rfl) <| XP rfl rfl rfl (JE YW rfl rfl rfl rfl) <| XP rfl rfl rfl (JE YW rfl rfl rfl rfl) <| XP rfl rfl rfl (JE YW rfl rfl rfl rfl) ?_
   refine XP rfl rfl rfl (JE YW rfl rfl rfl rfl) <| XP rfl rfl rfl (JE YW rfl rfl rfl rfl) <| XP rfl rfl rfl (JE YW rfl rfl rfl rfl) <| XP rfl rfl rfl (JE YW rfl rfl rfl rfl) <| XP rfl rfl rfl (JE YW rfl rfl rfl rfl) <| XP rfl rfl rfl (JE YW rfl rfl rfl rfl) <| XP rfl rfl rfl (RO.buildN bd_153 rfl (.cons rfl (.cons rfl (.cons rfl (.cons rfl (.cons rfl (.cons rfl (.cons rfl (.cons rfl (.cons rfl (.cons rfl (.cons rfl (.cons rfl (.cons rfl .nil))))))))))))) rfl) <| QA rfl rfl (Qi ag_153 rfl rfl rfl rfl (W1 rfl) rfl) <| Q3 <| Q1 <| Qw ?_
   have e := XN h2; subst e
   exact hQ2 _ _ _ (.inr rfl) rfl (Qh (XK rfl XJ) (W8 rfl (W8 rfl (W8 rfl (W8 rfl (W8 rfl (W8 rfl (W8 rfl (W8 rfl (W8 rfl W7))))))))) (W4 rfl W3) rfl (Nat.le_trans hv2 (W1 rfl)) rfl rfl rfl (Wp rfl rfl (Wn rfl (Wp rfl rfl (Wp rfl rfl (Wp rfl rfl (Wp rfl rfl (Wp rfl rfl (Wp rfl rfl (Wp rfl rfl Wm))))))))) rfl rfl)
  refine Q9 rfl rfl (W1 rfl) (QP rfl rfl rfl hc6 rfl (W8 rfl (W8 rfl (W8 rfl (W8 rfl (W8 rfl (W8 rfl (W8 rfl (W8 rfl W7)))))))) (W4 rfl W3)) <| Q9 rfl rfl (W1 rfl) (Ql z_153 rfl) <| QA rfl rfl (Qi ag_153 rfl rfl rfl rfl (W1 rfl) rfl) <| Q3 <| Q1 <| Q2 <| Q0 <| Q9 rfl rfl (W1 rfl) (Ql z_155 rfl) <| Q3 <| Q1 <| Q2 <| Q0 <| XP rfl rfl rfl (YP rfl rfl rfl) <| QA rfl rfl (Qi ag_155 rfl rfl rfl rfl (W1 rfl) rfl) ?_
  refine Q3 <| Q1 <| Q0 <| XP rfl rfl rfl (Q7 ag_155 rfl rfl rfl) <| XP rfl rfl rfl (Qz JH rfl rfl rfl rfl) ?_
  refine Qb h1 (fun x7 hx7 h1 => ?_)
  refine Q9 rfl rfl (W1 rfl) (QS (hp1' := [(8, .cells 150 [.yld 7]), (7, .loop .ready none [(3, .v (.one (.ptr 2 0))), (4, .v (.one (.ptr 3 0))), (9, .v (.one (.fn 96 [(4, 0)])))] 31 #[10, 11] JG JF 6), (6, .obj (.deferred (some []))), (2, .cells 116 [.mp 1]), (1, .mp (QJ x7.2.1.1) x7.2.1.2), (3, .cells 23 [Wi 5 x7.2.2]), (4, .cells 42 (Wj a0)), (10, .cells 153 [Wh true, Wh false, Wg 0, Wg 0, Wg (-1), Wh false, Wh false, Wg 0, Wg 0, Wg (-1), Wh false, Wh false, Wg 1, Wg 0, Wg (-1), Wh false, Wh true, Wg (-1), Wg 0, Wg (-1), Wh false, Wh false, Wg 0, Wg 2, Wg (-1), Wh false, Wh false, Wg 0, Wg 2, Wg 1, Wh false, Wh false, Wg 0, Wg 2, Wg 1, Wh false, Wh false, Wg 0, Wg 2, Wg 1, Wh false, Wh false, Wg 0, Wg 3, Wg (-1), Wh false, Wh false, Wg 0, Wg 1, Wg (-1), Wh false, Wh false, Wg 0, Wg 1, Wg (-1), Wh false, Wh false, Wg 0, Wg 3, Wg 2, Wh true, Wh false, Wg 0, Wg 0, Wg (-1)]), (11, .cells 155 [.fn 98 [(8, 0), (10, 0), (11, 0)]])]) (tk1' := [(5, some ⟨9, 1, (Enc.encL x7.2.2).length, []⟩)]) (hpF := [(0, .cells 42 (Wj a0)), (9, .cells 153 [Wh true, Wh false, Wg 0, Wg 0, Wg (-1), Wh false, Wh false, Wg 0, Wg 0, Wg (-1), Wh false, Wh false, Wg 1, Wg 0, Wg (-1), Wh false, Wh true, Wg (-1), Wg 0, Wg (-1), Wh false, Wh false, Wg 0, Wg 2, Wg (-1), Wh false, Wh false, Wg 0, Wg 2, Wg 1, Wh false, Wh false, Wg 0, Wg 2, Wg 1, Wh false, Wh false, Wg 0, Wg 2, Wg 1, Wh false, Wh false, Wg 0, Wg 3, Wg (-1), Wh false, Wh false, Wg 0, Wg 1, Wg (-1), Wh false, Wh false, Wg 0, Wg 1, Wg (-1), Wh false, Wh false, Wg 0, Wg 3, Wg 2, Wh true, Wh false, Wg 0, Wg 0, Wg (-1)])]) (tkF := []) (res2 := Qr [.one (Wh x7.1)]) (nx2 := 14) [8, 7, 6, 2, 1, 3, 5, 4, 10, 11] rfl rfl (m98f0_ok a0 0 gmNil ([]) a0 x7 hx7) rfl rfl (XW rfl rfl (XW rfl rfl (XW rfl rfl (XW rfl rfl (XU rfl (XW rfl rfl (XW rfl rfl (XW rfl rfl (XW rfl rfl XT))))))))) rfl rfl (Wb rfl (Wb rfl (Wb rfl (Wb rfl (Wc rfl (Wb rfl (Wb rfl (Wb rfl (Wb rfl Wa))))))))) (W6 rfl W5) (W8 rfl (W8 rfl W7)) W3 rfl rfl rfl rfl rfl (Wp rfl rfl (Wp rfl rfl (Wp rfl rfl (Wp rfl rfl (Wn rfl (Wp rfl rfl (Wp rfl rfl (Wp rfl rfl (Wp rfl rfl Wm))))))))) rfl rfl rfl rfl) <| Q3 ?_
  have e := XN h1; subst e
  exact hQ1 _ _ _ (.inl rfl) rfl (Qh XJ (W8 rfl (W8 rfl (W8 rfl (W8 rfl (W8 rfl (W8 rfl (W8 rfl W7))))))) (W4 rfl W3) rfl (Nat.le_trans hv1 (W1 rfl)) rfl rfl rfl (Wp rfl rfl (Wn rfl (Wp rfl rfl (Wp rfl rfl (Wp rfl rfl (Wp rfl rfl (Wp rfl rfl Wm))))))) rfl rfl)
 refine XC.exec (rangeFunc_out (e := .normal) rfl hc4 rfl rfl (by intro h; cases h) rfl) rfl ?_
 refine Qk <| Q1 <| Q2 <| Q0 <| XP rfl rfl rfl (Q7 ZC rfl rfl rfl) <| XS rfl rfl rfl <| Q3 <| Q1 <| Qw ?_
 have e := XN h0; subst e
 exact QX (fun _ _ h => h) rfl (Qp rfl .nil) (.cons (.one (.app _ _ _)) .nil)
end Go.Proofs.Ytijcchddnnnmdaa
