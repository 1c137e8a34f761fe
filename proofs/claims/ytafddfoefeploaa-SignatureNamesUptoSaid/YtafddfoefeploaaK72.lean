/- Part 2 of the proof: rules, mirrors and plain laws. The statement SignatureNamesUpto is proved here: for every declaration the law returns true, and the declaration reads behind the call as it did before; condition: it is of bulk at most 1048576 (the second form). -/
import Derived.Test.YtafddfoefeploaaK71
import Derived.WalkKit
import Derived.Lib.Bytes
import Derived.Laws.Cover3
import Derived.Laws.BytesArg
import Derived.Shelf.Abstract
namespace Go.Proofs.Ytafddfoefeploaa
section
open Go.RowKit
set_option linter.unusedSimpArgs false
set_option linter.unusedVariables false
set_option linter.unusedSectionVars false
abbrev Jk (x : Int) : Int := IntKind.wrap .i64 x
inductive LO (σ β : Type) where
  | next (s : σ)
  | done (b : β)
def QV {σ β : Type} (step : σ → Option (LO σ β)) : Nat → σ → Option β
  | 0, _ => none
  | n + 1, s => match step s with
    | none => none
    | some (.next s') => QV step n s'
    | some (.done b) => some b
def J2 : Nat := 1000000000
def Yi {α : Type} (l : List α) : Int → Option α
  | .ofNat k => l[k]?
  | .negSucc _ => none
def J8 {α : Type} (b : Bool) (x : Option α) : Option α := cond b x none
theorem Uc {α : Type} {a b : α} (h : some a = some b) : a = b := Option.some.inj h
theorem bindO {α β : Type} {o : Option α} {f : α → Option β} {r : β} (h : Option.bind o f = some r) : ∃ x, o = some x ∧ f x = some r := by
  cases o with
  | none => cases h
  | some x => exact ⟨x, rfl, h⟩
theorem Qb {α β : Type} {o : Option α} {f : α → Option β} {r : β} {G : Prop} (h : Option.bind o f = some r) (k : ∀ x, o = some x → f x = some r → G) : G := by
  obtain ⟨x, h1, h2⟩ := bindO h
  exact k x h1 h2
theorem Qk {α : Type} {b : Bool} {x y r : Option α} (hb : b = true) (h : cond b x y = r) : x = r := by subst hb; exact h
theorem Ql {α : Type} {b : Bool} {x y r : Option α} (hb : b = false) (h : cond b x y = r) : y = r := by subst hb; exact h
theorem guardS {α : Type} {b : Bool} {x : Option α} {r : α} (h : J8 b x = some r) : b = true ∧ x = some r := by
  cases b with
  | false => cases h
  | true => exact ⟨rfl, h⟩
theorem JC {α : Type} {b : Bool} {x : Option α} {r : α} {G : Prop} (h : J8 b x = some r) (k : b = true → x = some r → G) : G := by
  obtain ⟨h1, h2⟩ := guardS h
  exact k h1 h2
theorem idxS {α : Type} {l : List α} {i : Int} {x : α} (h : Yi l i = some x) : ∃ k : Nat, i = (k : Int) ∧ l[k]? = some x := by
  cases i with
  | ofNat k => exact ⟨k, rfl, h⟩
  | negSucc k => cases h
theorem loopS {σ β : Type} {step : σ → Option (LO σ β)} {n : Nat} {s : σ} {b : β} (h : QV step n s = some b) : ∃ n' o, n = n' + 1 ∧ step s = some o ∧ (match o with
    | .next s' => QV step n' s'
    | .done b' => some b') = some b := by
  cases n with
  | zero => cases h
  | succ n =>
    simp only [QV] at h
    split at h
    · cases h
    · rename_i s' hs; exact ⟨n, _, rfl, hs, h⟩
    · rename_i b' hs; exact ⟨n, _, rfl, hs, h⟩
def RoundSays {σ β : Type} (step : σ → Option (LO σ β)) (n : Nat) (b : β) : LO σ β → Prop
  | .next s' => QV step n s' = some b
  | .done b' => b' = b
class Enc (α : Type) where
  sz : Nat
  enc : α → List C
  encL : List α → List (List C)
  nil : encL [] = []
  app : ∀ a b, encL (a ++ b) = encL a ++ encL b
  one : ∀ x, encL [x] = [enc x]
theorem Enc.cons {α : Type} [Enc α] (x : α) (l : List α) : Enc.encL (x :: l) = Enc.enc x :: Enc.encL l := by
  have := Enc.app [x] l
  rw [Enc.one] at this
  exact this
theorem Enc.map {α : Type} [Enc α] : ∀ l : List α, Enc.encL l = l.map Enc.enc
  | [] => Enc.nil
  | x :: l => by rw [Enc.cons, Enc.map l]; rfl
theorem Enc.len {α : Type} [Enc α] (l : List α) : (Enc.encL l).length = l.length := by rw [Enc.map, List.length_map]
theorem Enc.get {α : Type} [Enc α] {l : List α} {k : Nat} {x : α} (h : l[k]? = some x) : (Enc.encL l)[k]? = some (Enc.enc x) := by rw [Enc.map, List.getElem?_map, h]; rfl
theorem Enc.drop {α : Type} [Enc α] (l : List α) (k : Nat) : Enc.encL (l.drop k) = (Enc.encL l).drop k := by rw [Enc.map, Enc.map, List.map_drop]
theorem Enc.take {α : Type} [Enc α] (l : List α) (k : Nat) : Enc.encL (l.take k) = (Enc.encL l).take k := by rw [Enc.map, Enc.map, List.map_take]
section
variable {E : Env} {ro : Option Nat} {n : Nat} {ops : Array Oper} {Q : Exit → Act → World → Prop} {rest : List Oper} {st : St} {o : Oper} {x : TV} {d : Option Tmp} {ty : TypeId} {pos : String} {af : Array Edge} {g : Option (Nat × Bool)}
inductive SlE {α : Type} [Enc α] : CA → List α → Prop
  | d (l : List α) : SlE (.d (.sl (Enc.sz α) (Enc.encL l))) l
  | app (i : Nat) (l : List α) : SlE (.app i (Enc.sz α) (Enc.encL l)) l
  | nil : SlE (.d (.v (.slice none 0 0))) []
theorem SlE.sl {α : Type} [Enc α] {y : CA} {l : List α} (h : SlE y l) : SlOf y (Enc.sz α) (Enc.encL l) := by
  cases h with
  | d => exact .d _ _
  | app => exact .app _ _ _
  | nil => rw [Enc.nil]; exact .nil _
theorem Qx {α : Type} [Enc α] {t : TypeId} {e : Nat} {o : Operand} {y : CA} {l : List α} (ht : Jo E.P t = some (e, Enc.sz α)) (hx : ev st.tm o = some (.v (.one y))) (hs : SlE y l) :
    RO E ⟨d, .call { callee := .builtin .len, args := #[o], argTypes := #[t] }, ty, pos, af, g⟩ st (UJ l.length) := by
  have := RO.len (E := E) (d := d) (ty := ty) (pos := pos) (af := af) (g := g) ht hx hs.sl
  rw [Enc.len] at this; exact this
theorem Qq {α : Type} [Enc α] {t : TypeId} {e : Nat} {o i : Operand} {y : CA} {l : List α} {v : α} {m : Int} (ht : Jo E.P t = some (e, Enc.sz α)) (hx : ev st.tm o = some (.v (.one y))) (hs : SlE y l)
    (hi : ev st.tm i = some (UJ m)) (hv : Yi l m = some v) : RO E ⟨d, .indexAddr t o i, ty, pos, af, g⟩ st (.v (.one (.pel (Enc.enc v) 0))) := by
  obtain ⟨k, hk, hl⟩ := idxS hv
  exact RO.index ht hx hs.sl hi hk (Enc.get hl)
theorem RO.sliceE {α : Type} [Enc α] {t e : Nat} {o : Operand} {y : CA} {l : List α} {lo hi mx : Option Operand} {a b : Nat} (ht : Jo E.P t = some (e, Enc.sz α)) (hx : ev st.tm o = some (.v (.one y))) (hs : SlE y l) (hb : GS st l.length lo hi mx = some (a, b)) :
    RO E ⟨d, .slice t o lo hi mx, ty, pos, af, g⟩ st (.v (.one (.d (.sl (Enc.sz α) (Enc.encL ((l.drop a).take (b - a))))))) := by
  have := RO.sliceD (E := E) (d := d) (ty := ty) (pos := pos) (af := af) (g := g) ht hx hs.sl (by rw [Enc.len]; exact hb)
  rw [Enc.take, Enc.drop]; exact this
theorem Jh {α : Type} [Enc α] {t e by_ i : Nat} {o1 o2 : Operand} {y : CA} {l l2 : List α} {m : Nat} (ht : Jo E.P t = some (e, Enc.sz α)) (hte : ZT E.P e = some (Enc.sz α, by_)) (hb : Nat.ble by_ 100000 = true)
    (h1 : ev st.tm o1 = some (.v (.one (.app i (Enc.sz α) (Enc.encL l))))) (hi : Ul st.tk i = some (some ⟨e, Enc.sz α, m, []⟩)) (hm' : m = (Enc.encL l).length) (h2 : ev st.tm o2 = some (.v (.one y))) (hs : SlE y l2) (hm : Nat.ble (l.length + l2.length) 1000000000 = true) :
    OpOK E ⟨d, .call { callee := .builtin .append, args := #[o1, o2], argTypes := #[t, t] }, ty, pos, af, g⟩ st (.v (.one (.app i (Enc.sz α) (Enc.encL (l ++ l2))))) ⟨st.hp, (i, some ⟨e, Enc.sz α, (Enc.encL (l ++ l2)).length, []⟩) :: JR i st.tk, st.nx⟩ := by
  subst hm'
  have := OpOK.appendApp (E := E) (dd := d) (ty := ty) (pos := pos) (af := af) (g := g) ht hte (Nat.le_of_ble_eq_true hb) h1 hi h2 hs.sl (by rw [Enc.len, Enc.len]; exact Nat.le_of_ble_eq_true hm)
  rw [Enc.app]; exact this
theorem OpOK.appendNilE {α : Type} [Enc α] {t e by_ : Nat} {o1 o2 : Operand} {y : CA} {l2 : List α} (ht : Jo E.P t = some (e, Enc.sz α)) (hte : ZT E.P e = some (Enc.sz α, by_)) (hb : Nat.ble by_ 100000 = true)
    (h1 : ev st.tm o1 = some (X3 (.slice none 0 0))) (h2 : ev st.tm o2 = some (.v (.one y))) (hs : SlE y l2) (hm : Nat.ble l2.length 1000000000 = true) :
    OpOK E ⟨d, .call { callee := .builtin .append, args := #[o1, o2], argTypes := #[t, t] }, ty, pos, af, g⟩ st (.v (.one (.app st.nx (Enc.sz α) (Enc.encL l2)))) ⟨st.hp, (st.nx, some ⟨e, Enc.sz α, (Enc.encL l2).length, []⟩) :: st.tk, st.nx + 1⟩ := by
  by_cases h0 : Enc.encL l2 = []
  · intro V a w hr ro n K Q hK
    refine ⟨fun _ _ => trivial, ?_⟩
    rw [Oper.semAt_eq _ _ _ (by intro c h; cases h)]
    have r1 := Yo (hr.ev h1)
    have r2 := hs.sl.reads (hr.ev h2)
    have hexec : ∀ v' w', (Builtin.append_ #[t, t] ty #[a.eval o1, a.eval o2]).run E.P w = .ok v' w' → (execOp a.eval ⟨d, .call { callee := .builtin .append, args := #[o1, o2], argTypes := #[t, t] }, ty, pos, af, g⟩).run E.P w = .ok (.value v') w' := fun v' w' h => by
      simp [execOp, resolve, invoke, builtin, h]
    rw [h0] at r2 hK
    obtain ⟨hu, i1, hi1, -⟩ := Ys ht
    obtain ⟨-, a2, cap2, b2, off2, us2, e2, -⟩ := r2.row
    have := run_append0 (P := E.P) (w := w) (ty := ty) hu hi1 none a2 0 0 cap2 (Nat.le_refl _)
    rw [hexec _ w (by rw [r1, e2]; exact this)]
    obtain ⟨H, L⟩ := hr.h.tokNil e (Enc.sz α)
    refine hK _ w _ (by dsimp only; rw [← hr.nx]; exact H) (by show max V.nx (V.nx + 1) = st.nx + 1; rw [hr.nx]; omega) L ?_
    rw [← hr.nx]; exact app_nil_rel e (Enc.sz α)
  · exact OpOK.appendNil ht hte (Nat.le_of_ble_eq_true hb) h1 h2 hs.sl (by rw [Enc.len]; exact Nat.le_of_ble_eq_true hm) h0
theorem Jt {α : Type} [Enc α] (v : α) {t e : Nat} {zs : List Value} {o1 : Operand} {x1 : AV} {ys : List CA} (ht : Jo E.P t = some (e, Enc.sz α)) (hze : JE E.P e = some zs) (hzl : zs.length = Enc.sz α) (hz : zs.all (·.oneCell') = true) (hpos : 0 < Enc.sz α) (hlen : 1 * Enc.sz α ≤ 16777216)
    (h1 : ev st.tm o1 = some (.v x1)) (hf : Zh (JQ (Enc.sz α) 1) (JV zs 1) [(0, x1)] = some ys) (hs : CSubs ys (Enc.enc v)) (hel : (Enc.enc v).length = Enc.sz α) :
    OpOK E ⟨d, .buildSlice t 1 #[(0, o1)], ty, pos, af, g⟩ st (.v (.one (.app st.nx (Enc.sz α) (Enc.encL [v])))) ⟨st.hp, (st.nx, some ⟨e, Enc.sz α, (Enc.encL [v]).length, []⟩) :: st.tk, st.nx + 1⟩ :=
  OpOK.litApp (avs := [(0, x1)]) (Enc.encL [v]) ht hze hzl hz hpos hlen rfl (fun j i x hx => by
    match j, hx with
    | 0, hx => cases hx; exact ⟨o1, rfl, h1⟩) hf (by rw [Enc.one]; simpa using hs) (fun x hx => by rw [Enc.one] at hx; simp at hx; subst hx; exact hel) (by rw [Enc.one]; rfl)
theorem OpOK.data1E {α : Type} [Enc α] (v : α) {t e : Nat} {zs : List Value} {o1 : Operand} {x1 : AV} {ys : List CA} (ht : Jo E.P t = some (e, Enc.sz α)) (hze : JE E.P e = some zs) (hzl : zs.length = Enc.sz α) (hz : zs.all (·.oneCell') = true) (hlen : 1 * Enc.sz α ≤ 16777216)
    (h1 : ev st.tm o1 = some (.v x1)) (hf : Zh (JQ (Enc.sz α) 1) (JV zs 1) [(0, x1)] = some ys) (hs : CSubs ys (Enc.enc v)) (hel : (Enc.enc v).length = Enc.sz α) :
    OpOK E ⟨d, .buildSlice t 1 #[(0, o1)], ty, pos, af, g⟩ st (.v (.one (.d (.sl (Enc.sz α) (Enc.encL [v]))))) ⟨st.hp, st.tk, st.nx⟩ :=
  OpOK.litData (avs := [(0, x1)]) (Enc.encL [v]) ht hze hzl hz hlen rfl (fun j i x hx => by
    match j, hx with
    | 0, hx => cases hx; exact ⟨o1, rfl, h1⟩) hf (by rw [Enc.one]; simpa using hs) (fun x hx => by rw [Enc.one] at hx; simp at hx; subst hx; exact hel) (by rw [Enc.one]; rfl)
theorem Q9 {t : Nat} {hp : List (Nat × HB)} {tk : List (Nat × Option Tok)} {nx : Nat} (hg : Yb ops st.tm o = some true) (hdst : o.dst = some t) (hd : t < st.nt) (ho : OpOK E o st x ⟨hp, tk, nx⟩) (k : XL E ro n ops Q rest ⟨(t, x) :: st.tm, hp, tk, nx, st.nt, st.df⟩) : XL E ro n ops Q (o :: rest) st := by
  intro V a w h
  unfold wpListIn
  rw [if_pos (Z5 h hg)]
  refine ho V a w h ro n _ Q (fun V' w' v H hn L hx => k V' _ w' ?_)
  rw [hdst]
  exact (h.mem H hn L).put (d := t) hd hx
theorem Qy {hp : List (Nat × HB)} {tk : List (Nat × Option Tok)} {nx : Nat} (hg : Yb ops st.tm o = some true) (hdst : o.dst = none) (ho : OpOK E o st x ⟨hp, tk, nx⟩) (k : XL E ro n ops Q rest ⟨st.tm, hp, tk, nx, st.nt, st.df⟩) : XL E ro n ops Q (o :: rest) st := by
  intro V a w h
  unfold wpListIn
  rw [if_pos (Z5 h hg)]
  refine ho V a w h ro n _ Q (fun V' w' v H hn L hx => k V' _ w' ?_)
  rw [hdst]
  exact h.mem H hn L
theorem XL.rd {t : Nat} (hg : Yb ops st.tm o = some true) (hdst : o.dst = some t) (hd : t < st.nt) (ho : RO E o st x) (k : XL E ro n ops Q rest ⟨(t, x) :: st.tm, st.hp, st.tk, st.nx, st.nt, st.df⟩) : XL E ro n ops Q (o :: rest) st :=
  Q9 hg hdst hd (Q2 ho) k
theorem Ue {t : Nat} (hg : Yb ops st.tm o = some true) (hdst : o.dst = some t) (hd : Nat.ble (t + 1) st.nt = true) (ho : RO E o st x) (k : XL E ro n ops Q rest ⟨(t, x) :: st.tm, st.hp, st.tk, st.nx, st.nt, st.df⟩) : XL E ro n ops Q (o :: rest) st := XL.rd hg hdst (Um hd) ho k
theorem Uf {t : Nat} {y : Operand} (hg : Yb ops st.tm ⟨some t, .move y, ty, pos, af, g⟩ = some true) (hd : Nat.ble (t + 1) st.nt = true) (h : ev st.tm y = some x) (k : XL E ro n ops Q rest ⟨(t, x) :: st.tm, st.hp, st.tk, st.nx, st.nt, st.df⟩) : XL E ro n ops Q (⟨some t, .move y, ty, pos, af, g⟩ :: rest) st := XL.rd hg rfl (Um hd) (Qt h) k
theorem Ug {t : Nat} {y : Operand} (hg : Yb ops st.tm ⟨some t, .assign y, ty, pos, af, g⟩ = some true) (hd : Nat.ble (t + 1) st.nt = true) (h : ev st.tm y = some x) (k : XL E ro n ops Q rest ⟨(t, x) :: st.tm, st.hp, st.tk, st.nx, st.nt, st.df⟩) : XL E ro n ops Q (⟨some t, .assign y, ty, pos, af, g⟩ :: rest) st := XL.rd hg rfl (Um hd) (JK h) k
theorem Q8 {t : Nat} (hg : Yb ops st.tm o = some false) (hdst : o.dst = some t) (k : XL E ro n ops Q rest ⟨(t, .tup []) :: st.tm, st.hp, st.tk, st.nx, st.nt, st.df⟩) : XL E ro n ops Q (o :: rest) st := by
  intro V a w h
  unfold wpListIn
  rw [if_neg (by rw [Z5 h hg]; exact Bool.false_ne_true)]
  refine ⟨fun _ _ => trivial, ?_⟩
  rw [hdst]
  exact k V _ w (h.und t)
def NextM {σ β : Type} (E : Env) (inv : σ → St) (step : σ → Option (LO σ β)) (n : Nat) (b : β) (a : Act) (w : World) : Prop :=
  Next (X := σ × Nat) E (fun p => inv p.1) (fun p => QV step p.2 p.1 = some b) (fun p => p.2) (n + 1) a w
theorem QQ {σ β : Type} {c : Code} (step : σ → Option (LO σ β)) (inv : σ → St) (s0 : σ) (b : β) (h0 : StLe E st (inv s0)) (hok : QV step J2 s0 = some b)
    (round : ∀ (s : σ) (m : Nat) (o : LO σ β), step s = some o → RoundSays step m b o → XC E ro n (Exit.then (NextM E inv step m b) Q) c (inv s)) : XC E ro n Q (.loop c) st := by
  refine XC.loop (X := σ × Nat) (fun p => inv p.1) (fun p => QV step p.2 p.1 = some b) (fun p => p.2) (s0, J2) h0 hok ?_
  rintro ⟨s, k⟩ hs
  obtain ⟨m, o, rfl, h1, h2⟩ := loopS hs
  refine round s m o h1 ?_
  cases o with
  | next s' => exact h2
  | done b' => exact Option.some.inj h2
theorem QM {σ β : Type} {step : σ → Option (LO σ β)} {inv : σ → St} {m : Nat} {b : β} (s' : σ) (hl : StLe E st (inv s')) (ho : RoundSays step m b (.next s')) : XQ E (Exit.then (NextM E inv step m b) Q) .normal st :=
  XQ.next (s', m) hl ho (Nat.lt_succ_self _)
def JnX {γ : Type} (E : Env) (i : Nat) (inv : γ → St) (K : γ → Prop) (Q : Exit → Act → World → Prop) : Exit → Act → World → Prop
  | .exit j, a, w => if j = i then ∃ v V, K v ∧ Rel E V (inv v) a w else Q (.exit j) a w
  | .normal, a, w => Q .normal a w
  | .goto l, a, w => Q (.goto l) a w
  | .ret, a, w => Q .ret a w
  | .panic c, a, w => Q (.panic c) a w
  | .outgrown, a, w => Q .outgrown a w
theorem QR {γ : Type} {c : Code} (i : Nat) (inv : γ → St) (K : γ → Prop) (h : XC E ro n (JnX E i inv K Q) c st) (k : ∀ v, K v → XQ E Q (.exit i) (inv v)) : XC E ro n Q c st := by
  intro V a w hr
  refine wpV_mono (h V a w hr) (fun e a' w' hq => ?_)
  cases e with
  | exit j =>
    simp only [JnX] at hq
    split at hq
    · rename_i hj; subst hj
      obtain ⟨v, V', hv, hr'⟩ := hq
      exact k v hv V' a' w' hr'
    · exact hq
  | _ => exact hq
theorem QP {γ : Type} {i : Nat} {inv : γ → St} {K : γ → Prop} (v : γ) (hl : StLe E st (inv v)) (hK : K v) : XQ E (JnX E i inv K Q) (.exit i) st := fun V a w hr => by
  obtain ⟨V', hr'⟩ := hr.less hl
  simp only [JnX, if_pos]
  exact ⟨v, V', hK, hr'⟩
def JnR {γ : Type} (E : Env) (inv : γ → St) (K : γ → Prop) (Q : Exit → Act → World → Prop) : Exit → Act → World → Prop
  | .normal, a, w => ∃ v V, K v ∧ Rel E V (inv v) a w
  | .exit j, a, w => Q (.exit j) a w
  | .goto l, a, w => Q (.goto l) a w
  | .ret, a, w => Q .ret a w
  | .panic c, a, w => Q (.panic c) a w
  | .outgrown, a, w => Q .outgrown a w
theorem QS {γ : Type} {c : Code} (inv : γ → St) (K : γ → Prop) (h : XC E ro n (JnR E inv K Q) c st) (k : ∀ v, K v → XQ E Q .normal (inv v)) : XC E ro n Q c st := by
  intro V a w hr
  refine wpV_mono (h V a w hr) (fun e a' w' hq => ?_)
  cases e with
  | normal =>
    obtain ⟨v, V', hv, hr'⟩ := hq
    exact k v hv V' a' w' hr'
  | _ => exact hq
theorem Qc {γ : Type} {inv : γ → St} {K : γ → Prop} (v : γ) (hl : StLe E st (inv v)) (hK : K v) : XQ E (JnR E inv K Q) .normal st := fun V a w hr => by
  obtain ⟨V', hr'⟩ := hr.less hl
  exact ⟨v, V', hK, hr'⟩
inductive ASubL : List AV → List AV → Prop
  | nil : ASubL [] []
  | cons {x y : AV} {xs ys : List AV} (h : ASub x y) (t : ASubL xs ys) : ASubL (x :: xs) (y :: ys)
theorem ASubL.spec {xs ys : List AV} (h : ASubL xs ys) : xs.length = ys.length ∧ ∀ (i : Nat) (y : AV), ys[i]? = some y → ∃ x, xs[i]? = some x ∧ ASub x y := by
  induction h with
  | nil => exact ⟨rfl, fun i y hy => by simp at hy⟩
  | cons h t ih =>
    refine ⟨by simp [ih.1], fun i y hy => ?_⟩
    cases i with
    | zero => simp at hy; subst hy; exact ⟨_, rfl, h⟩
    | succ i => exact ih.2 i y (by simpa using hy)
theorem Qo {f : FuncId} {ars : Array Operand} {args ys : List AV} {ats : Array TypeId} {res : TV} (hF : Fun E.P f ys res) (ha : Zo st.tm ars.toList = some args) (hs : ASubL args ys) :
    OpOK E ⟨d, .call { callee := .value (.func f), args := ars, argTypes := ats }, ty, pos, af, g⟩ st res ⟨st.hp, st.tk, st.nx⟩ := by
  intro V a w hr ro n K Q hK
  refine ⟨fun _ _ => trivial, ?_⟩
  rw [Oper.semAt_eq _ _ _ (by intro c h; cases h)]
  rw [call_enters rfl hF.1]
  refine ⟨(by intro h; cases h), ?_⟩
  have har : argsRel (ZL V.S) w ys (ars.map a.eval) := by
    obtain ⟨h1, h2⟩ := Zi hr ha
    obtain ⟨h3, h4⟩ := hs.spec
    refine ⟨by omega, fun i y hy => ?_⟩
    obtain ⟨x, hx', hxy⟩ := h4 i y hy
    obtain ⟨u, hu, hxu⟩ := h2 i x hx'
    exact ⟨u, hu, hxy.rel hxu⟩
  have hc' : CallsIn Fence.wide (n - 1) E.P f _ w _ := callsIn_wide.2 (hF.2 V.S w _ hr.h.sz har)
  refine CallsIn.mono (F := UM ro) hc' ?_
  rintro e w' ⟨v, S', rfl, hx, hS, hS', hv⟩
  have hg : V.Grow { V with S := S' } w w' := ⟨Nat.le_refl _, fun _ _ => rfl, fun _ _ => rfl, fun _ _ _ _ => rfl, hS, fun b o h => (hS' b o h).1, fun b o h => (hS' b o h).2⟩
  exact hK { V with S := S' } w' v (hr.h.later hx hg) hr.nx (hr.h.le hx hg) (hv.mono (of_le (V := { V with S := S' })))
end
def FunPostM (P : Program) (n : Nat) (fn : Func) (S : Nat → Nat → Prop) (w : World) (res : TV) : Exit → Act → World → Prop :=
  bodyPostM Fence.wide n P fn fun e w' => ∃ v S', e = .returned v ∧ Gv w w' ∧ (∀ b o, S b o → S' b o) ∧ (∀ b o, S' b o → (S b o ∨ w.heap.size ≤ b) ∧ b < w'.heap.size) ∧ res.rel (ZL S') w' v
theorem QY {P : Program} {f : FuncId} {fn : Func} {c : Code} {args : List AV} {res : TV} (n nt : Nat) (hf : P.funcs[f]? = some fn) (hb : fn.body = some c) (hen : J3 P f) (hn : fn.ntmps = nt) (hnt : args.length ≤ nt)
    (h : ∀ (S : Nat → Nat → Prop) (w : World), XC (WD P w S) none n (FunPostM P n fn S w res) c ⟨J7 0 args, [], [], 0, nt, []⟩) (hP0 : P = Try.prog := by rfl) : Fun P f args res := by
  subst hn
  refine ⟨hen, fun S w vs hS hargs => ?_⟩
  refine (callsIn_wide (n := n)).1 (callsIn_of_wpV (F := Fence.wide) (vf_of hP0 hf) hf hb trivial ?_)
  refine h S w (ZL S) _ w ⟨Wv hS, rfl, ?_, dfRel.nil, ?_⟩
  · simp [hargs.1]; omega
  · intro t x hx
    obtain ⟨k, y, h1, h2, rfl⟩ := GM args 0 t x hx
    obtain ⟨u, hu, hy⟩ := hargs.2 k y h2
    have hk : k < vs.size := (Array.getElem?_eq_some_iff.1 hu).1
    have : (vs ++ Array.replicate (fn.ntmps - vs.size) undef).getD t undef = u := by
      rw [show t = k by omega, Array.getD_eq_getD_getElem?, Array.getElem?_append_left hk, hu]; rfl
    rw [this]; exact hy
theorem res_sub {xs ys : List AV} (h : ASubL xs ys) {V : Vu} {w : World} {v : Value} (hv : (QD xs).rel V w v) : (QD ys).rel (ZL V.S) w v := by
  obtain ⟨hl, hs⟩ := h.spec
  match xs, ys, hl with
  | [], [], _ => obtain ⟨vs, h1, h2, h3⟩ := hv; exact ⟨vs, h1, h2, fun i x hx => by simp at hx⟩
  | [x], [y], _ =>
    obtain ⟨x', hx, hxy⟩ := hs 0 y rfl
    cases hx
    exact hxy.rel hv
  | x :: x2 :: xs, y :: y2 :: ys, hl =>
    obtain ⟨vs, h1, h2, h3⟩ := hv
    refine ⟨vs, h1, by rw [h2]; exact hl, fun i z hz => ?_⟩
    obtain ⟨x', hx, hxy⟩ := hs i z hz
    obtain ⟨u, hu, hr⟩ := h3 i x' hx
    exact ⟨u, hu, hxy.rel hr⟩
theorem QL {P : Program} {n : Nat} {fn : Func} {S : Nat → Nat → Prop} {w0 : World} {st : St} {Q : Exit → Act → World → Prop} {e : Exit} {hp' : List (Nat × HB)} {xs ys : List AV} (hQ : ∀ a w, FunPostM P n fn S w0 (QD ys) .ret a w → Q e a w) (hdf : KZ st.df st.hp = some hp')
    (hres : RAs P ⟨st.tm, hp', st.tk, st.nx, st.nt, []⟩ fn.results.toList xs) (hs : ASubL xs ys) : XQ (WD P w0 S) Q e st := by
  intro V a w hr
  refine hQ a w ?_
  refine leaves_marks st.df a.defers st.hp hp' w hr.h hr.df hdf (fun w' V' H' hn' L' => ?_)
  have hr' : Rel (WD P w0 S) V' ⟨st.tm, hp', st.tk, st.nx, st.nt, []⟩ { tmps := a.tmps, defers := [] } w' := ⟨H', hn'.trans hr.nx, hr.nt, dfRel.nil, fun t x hx => (hr.tm t x hx).keep L'⟩
  obtain ⟨v, h1, h2⟩ := results_run hres rfl hr'
  refine ⟨v, h1, v, V'.S, rfl, H'.ext, H'.le0.S, fun b o h => ⟨?_, H'.sz b o h⟩, res_sub hs h2⟩
  rcases H'.sub b o h with h1 | h1 | h1
  · exact .inl h1
  · exact .inr h1
  · exact h1.elim
theorem Qz {P : Program} {st : St} {t : Nat} {x : AV} {rs : List ResultVar} {xs : List AV} (h : Ul st.tm t = some (.v x)) (k : RAs P st rs xs) : RAs P st (.tmp t :: rs) (x :: xs) := .cons (fun _ _ => RA.tmp h) k
theorem KM {P : Program} {st : St} {ad t n i off : Nat} {T : TypeId} {xs : List CA} {y : CA} {rs : List ResultVar} {ys : List AV} (ht : Jy P t = some (false, n)) (h : Ul st.tm ad = some (.v (.one (.ptr i off)))) (hi : Ul st.hp i = some (.cells T xs)) (hy : xs[off]? = some y) (k : RAs P st rs ys) : RAs P st (.cell ad t :: rs) (.one y :: ys) :=
  .cons (fun E hE => RA.cell (by rw [hE]; exact ht) h hi hy) k
theorem Z0 {P : Program} {st : St} {ad t n i off : Nat} {T : TypeId} {xs zs : List CA} {rs : List ResultVar} {ys : List AV} (ht : Jy P t = some (true, n)) (h : Ul st.tm ad = some (.v (.one (.ptr i off)))) (hi : Ul st.hp i = some (.cells T xs)) (hy : (xs.drop off).take n = zs) (hn : zs.length = n) (k : RAs P st rs ys) : RAs P st (.cell ad t :: rs) (.agg zs :: ys) :=
  .cons (fun E hE => RA.cellAgg (by rw [hE]; exact ht) h hi hy hn) k
end
section
open Go.RowKit
set_option linter.unusedSimpArgs false
set_option linter.unusedVariables false
set_option linter.unusedSectionVars false
section
variable (E : Env) (ops : Array Oper) (st : St) (effs : List Nat)
inductive RunA (D : List (Nat × TV) → Nat → Mem → Prop) (F : List (Nat × TV) → List Mem → Prop) : List Nat → List (Nat × TV) → List Mem → Prop
  | nil {fx : List (Nat × TV)} {ms : List Mem} (h : F fx ms) : RunA D F [] fx ms
  | rd {i : Nat} {rest : List Nat} {fx : List (Nat × TV)} {m : Mem} {ms : List Mem} {o : Oper} {x : TV} (ho : ops[i]? = some o) (he : effs.contains i = false) (hw : Yb ops (Ya ops st fx i m).tm o = some true) (h : OpOK E o (Ya ops st fx i m) x m) (hd : X8 st o.dst = true)
      (k : RunA D F rest ((i, x) :: fx) (m :: ms)) : RunA D F (i :: rest) fx (m :: ms)
  | no {i : Nat} {rest : List Nat} {fx : List (Nat × TV)} {m : Mem} {ms : List Mem} {o : Oper} (ho : ops[i]? = some o) (he : effs.contains i = false) (hw : Yb ops (Ya ops st fx i m).tm o = some false) (hd : X8 st o.dst = true)
      (k : RunA D F rest ((i, .tup []) :: fx) (m :: ms)) : RunA D F (i :: rest) fx (m :: ms)
  | eff {i : Nat} {rest : List Nat} {fx : List (Nat × TV)} {m : Mem} {ms : List Mem} {o : Oper} {x : TV} {m' : Mem} (ho : ops[i]? = some o) (he : effs.contains i = true) (hw : Yb ops (Ya ops st fx i m).tm o = some true) (h : OpOK E o (Ya ops st fx i m) x m') (hd : X8 st o.dst = true)
      (k : RunA D F rest ((i, x) :: fx) (m' :: m :: ms)) : RunA D F (i :: rest) fx (m :: ms)
  | die {i : Nat} {fx : List (Nat × TV)} {m : Mem} {ms : List Mem} {o : Oper} (ho : ops[i]? = some o) (he : effs.contains i = true) (hd : X8 st o.dst = true) (h : D ((i, .unk) :: fx) i m)
      (k : F ((i, .unk) :: fx) (⟨[(0, .obj (.deferred none))], [], 0⟩ :: m :: ms)) : RunA D F [i] fx (m :: ms)
end
section
variable {E : Env} {ops : Array Oper} {st : St} {effs : List Nat} {D : List (Nat × TV) → Nat → Mem → Prop} {F : List (Nat × TV) → List Mem → Prop}
theorem Y0 {i : Nat} {rest : List Nat} {fx : List (Nat × TV)} {m : Mem} {ms : List Mem} {o : Oper} {c : Bool} (ho : ops[i]? = some o) (he : effs.contains i = false) (hw : Yb ops (Ya ops st fx i m).tm o = some true) (h : OpOK E o (Ya ops st fx i m) (UK c) m) (hd : X8 st o.dst = true)
    (kt : c = true → RunA E ops st effs D F rest ((i, UK true) :: fx) (m :: ms)) (kf : c = false → RunA E ops st effs D F rest ((i, UK false) :: fx) (m :: ms)) : RunA E ops st effs D F (i :: rest) fx (m :: ms) := by
  cases c with
  | true => exact .rd ho he hw h hd (kt rfl)
  | false => exact .rd ho he hw h hd (kf rfl)
theorem facts_later {fx' fx : List (Nat × TV)} {js : List Nat} (h : ∀ j ∈ js, ∀ p ∈ fx', p.1 ≠ j) : KW ops (fx' ++ fx) js = KW ops fx js := by
  have key : ∀ j ∈ js, Ul (fx' ++ fx) j = Ul fx j := fun j hj => by
    rw [K1]
    have : Ul fx' j = none := by
      cases hc : Ul fx' j with
      | none => rfl
      | some x => exact absurd rfl (h j hj _ (lk_mem hc))
    rw [this]
  unfold KW
  induction js with
  | nil => rfl
  | cons j js ih =>
    rw [List.filterMap_cons, List.filterMap_cons, key j (by simp), ih (fun j hj => h j (by simp [hj])) (fun j hj => key j (by simp [hj]))]
theorem run_home (hdag : ∀ i, i < ops.size → ∀ k ∈ JW ops i, k < i) : ∀ (todo : List Nat) (i0 : Nat) (fx : List (Nat × TV)) (m : Mem) (ms : List Mem), RunA E ops st effs D F todo fx (m :: ms) → (∀ p ∈ fx, p.1 < i0) → todo = List.range' i0 (ops.size - i0) → i0 ≤ ops.size →
    ∃ fx' ms', F (fx' ++ fx) (ms' ++ m :: ms) ∧ (∀ p ∈ fx', i0 ≤ p.1) ∧ ms'.length = (todo.filter effs.contains).length ∧ ∀ i ∈ todo, ∃ mi,
      (ms' ++ m :: ms).reverse[ms.length + ((List.range' i0 (i - i0)).filter effs.contains).length]? = some mi ∧
      ∃ o x, ops[i]? = some o ∧ Ul (fx' ++ fx) i = some x ∧ X8 st o.dst = true ∧
        ((Yb ops (Ya ops st (fx' ++ fx) i mi).tm o = some true ∧ ∃ m', OpOK E o (Ya ops st (fx' ++ fx) i mi) x m' ∧ (if effs.contains i then (ms' ++ m :: ms).reverse[ms.length + ((List.range' i0 (i - i0)).filter effs.contains).length + 1]? = some m' else m' = mi)) ∨
         (Yb ops (Ya ops st (fx' ++ fx) i mi).tm o = some false ∧ x = .tup [] ∧ effs.contains i = false) ∨ D (fx' ++ fx) i mi) := by
  intro todo
  induction todo with
  | nil =>
    intro i0 fx m ms h _ _ _
    cases h with
    | nil h => exact ⟨[], [], h, (fun p hp => by cases hp), rfl, (fun i hi => by cases hi)⟩
  | cons j todo ih =>
    intro i0 fx m ms h hfx htodo hle
    have hlt : i0 < ops.size := by
      rcases Nat.lt_or_ge i0 ops.size with h1 | h1
      · exact h1
      · rw [Nat.sub_eq_zero_of_le h1] at htodo; cases htodo
    rw [show ops.size - i0 = (ops.size - (i0 + 1)) + 1 by omega, List.range'_succ] at htodo
    have hj : j = i0 := (List.cons.inj htodo).1
    have ht : todo = List.range' (i0 + 1) (ops.size - (i0 + 1)) := (List.cons.inj htodo).2
    subst hj
    have hmem : ∀ i ∈ todo, j + 1 ≤ i := fun i hi => by rw [ht] at hi; have := List.mem_range'_1.1 hi; omega
    have hdeps : ∀ (x : TV) (fx' : List (Nat × TV)) (mi : Mem), (∀ p ∈ fx', j + 1 ≤ p.1) → Ya ops st (fx' ++ (j, x) :: fx) j mi = Ya ops st fx j mi := fun x fx' mi hf => by
      unfold Ya
      rw [show fx' ++ (j, x) :: fx = (fx' ++ [(j, x)]) ++ fx by simp, facts_later (fun k hk p hp => ?_)]
      have := hdag j hlt k hk
      rcases List.mem_append.1 hp with hp | hp
      · have := hf p hp; omega
      · simp at hp; subst hp; dsimp only; omega
    have hlkj : ∀ (x : TV) (fx' : List (Nat × TV)), (∀ p ∈ fx', j + 1 ≤ p.1) → Ul (fx' ++ (j, x) :: fx) j = some x := fun x fx' hf => by
      rw [K1]
      have : Ul fx' j = none := by
        cases hc : Ul fx' j with
        | none => rfl
        | some y => have := hf _ (lk_mem hc); dsimp only at this; omega
      rw [this]; dsimp only; rw [QU, if_pos rfl]
    have hfx1 : ∀ (x : TV), ∀ p ∈ (j, x) :: fx, p.1 < j + 1 := fun x p hp => by
      rcases List.mem_cons.1 hp with rfl | hp
      · exact Nat.lt_succ_self _
      · have := hfx p hp; omega
    have hrng : ∀ i, j + 1 ≤ i → List.range' j (i - j) = j :: List.range' (j + 1) (i - (j + 1)) := fun i hi => by
      rw [show i - j = (i - (j + 1)) + 1 by omega, List.range'_succ]
    have hself : ∀ (ms' : List Mem) (m : Mem) (ms : List Mem), (ms' ++ m :: ms).reverse[ms.length]? = some m := fun ms' m ms => by
      rw [List.reverse_append, List.getElem?_append_left (by simp), List.reverse_cons, List.getElem?_append_right (by simp)]; simp
    cases h with
    | rd ho he hw hok hd k =>
      rename_i o x
      obtain ⟨fx', ms', h1, h2, h3, h4⟩ := ih (j + 1) _ m ms k (hfx1 x) ht (by omega)
      refine ⟨fx' ++ [(j, x)], ms', by rw [List.append_assoc]; exact h1, fun p hp => ?_, by rw [List.filter_cons, if_neg (by rw [he]; exact Bool.false_ne_true)]; exact h3, fun i hi => ?_⟩
      · rcases List.mem_append.1 hp with hp | hp
        · have := h2 p hp; omega
        · simp at hp; subst hp; exact Nat.le_refl _
      · rw [show (fx' ++ [(j, x)]) ++ fx = fx' ++ (j, x) :: fx by simp]
        rcases List.mem_cons.1 hi with rfl | hi
        · rw [Nat.sub_self, List.range'_zero, List.filter_nil, List.length_nil, Nat.add_zero]
          exact ⟨m, hself ms' m ms, o, x, ho, hlkj x fx' h2, hd, .inl ⟨by rw [hdeps x fx' m h2]; exact hw, m, by rw [hdeps x fx' m h2]; exact hok, by rw [if_neg (by rw [he]; exact Bool.false_ne_true)]⟩⟩
        · have := h4 i hi
          rw [hrng i (hmem i hi), List.filter_cons, if_neg (by rw [he]; exact Bool.false_ne_true)]
          exact this
    | no ho he hw hd k =>
      rename_i o
      obtain ⟨fx', ms', h1, h2, h3, h4⟩ := ih (j + 1) _ m ms k (hfx1 _) ht (by omega)
      refine ⟨fx' ++ [(j, .tup [])], ms', by rw [List.append_assoc]; exact h1, fun p hp => ?_, by rw [List.filter_cons, if_neg (by rw [he]; exact Bool.false_ne_true)]; exact h3, fun i hi => ?_⟩
      · rcases List.mem_append.1 hp with hp | hp
        · have := h2 p hp; omega
        · simp at hp; subst hp; exact Nat.le_refl _
      · rw [show (fx' ++ [(j, TV.tup [])]) ++ fx = fx' ++ (j, .tup []) :: fx by simp]
        rcases List.mem_cons.1 hi with rfl | hi
        · rw [Nat.sub_self, List.range'_zero, List.filter_nil, List.length_nil, Nat.add_zero]
          exact ⟨m, hself ms' m ms, o, .tup [], ho, hlkj _ fx' h2, hd, .inr (.inl ⟨by rw [hdeps _ fx' m h2]; exact hw, rfl, he⟩)⟩
        · have := h4 i hi
          rw [hrng i (hmem i hi), List.filter_cons, if_neg (by rw [he]; exact Bool.false_ne_true)]
          exact this
    | die ho he hd hD k =>
      rename_i o
      refine ⟨[(j, .unk)], [⟨[(0, .obj (.deferred none))], [], 0⟩], k, fun p hp => ?_, by rw [List.filter_cons, if_pos he]; rfl, fun i hi => ?_⟩
      · simp at hp; subst hp; exact Nat.le_refl _
      · simp at hi; subst hi
        rw [Nat.sub_self, List.range'_zero, List.filter_nil, List.length_nil, Nat.add_zero]
        exact ⟨m, hself _ m ms, o, .unk, ho, by simp [QU], hd, .inr (.inr hD)⟩
    | eff ho he hw hok hd k =>
      rename_i o x m'
      obtain ⟨fx', ms', h1, h2, h3, h4⟩ := ih (j + 1) _ m' (m :: ms) k (hfx1 x) ht (by omega)
      refine ⟨fx' ++ [(j, x)], ms' ++ [m'], by rw [List.append_assoc, List.append_assoc]; exact h1, fun p hp => ?_, by rw [List.filter_cons, if_pos he]; simp [h3], fun i hi => ?_⟩
      · rcases List.mem_append.1 hp with hp | hp
        · have := h2 p hp; omega
        · simp at hp; subst hp; exact Nat.le_refl _
      · rw [show (fx' ++ [(j, x)]) ++ fx = fx' ++ (j, x) :: fx by simp, show (ms' ++ [m']) ++ m :: ms = ms' ++ m' :: m :: ms by simp]
        rcases List.mem_cons.1 hi with rfl | hi
        · rw [Nat.sub_self, List.range'_zero, List.filter_nil, List.length_nil, Nat.add_zero]
          refine ⟨m, ?_, o, x, ho, hlkj x fx' h2, hd, .inl ⟨by rw [hdeps x fx' m h2]; exact hw, m', by rw [hdeps x fx' m h2]; exact hok, ?_⟩⟩
          · simp
          · rw [if_pos he]
            simp
        · obtain ⟨mi, h5, h6⟩ := h4 i hi
          have e1 : ((List.range' j (i - j)).filter effs.contains).length = ((List.range' (j + 1) (i - (j + 1))).filter effs.contains).length + 1 := by
            rw [hrng i (hmem i hi), List.filter_cons, if_pos he, List.length_cons]
          refine ⟨mi, ?_, ?_⟩
          · rw [e1, ← h5]; congr 1; simp; omega
          · rw [e1]
            rw [show ms.length + (((List.range' (j + 1) (i - (j + 1))).filter effs.contains).length + 1) = (m :: ms).length + ((List.range' (j + 1) (i - (j + 1))).filter effs.contains).length by simp; omega]
            exact h6
theorem XQ.bad {Q : Exit → Act → World → Prop} {e : Exit} {fx : List (Nat × TV)} : XQ E Q e (Wf ops st fx ⟨[(0, .obj (.deferred none))], [], 0⟩) := fun V a w hr => by
  have h1 := (hr.h.own 0 _ rfl).1
  have h2 : V.nx = 0 := hr.nx
  omega
def AllEx (E : Env) (ops : Array Oper) (st : St) (effs : List Nat) (fx : List (Nat × TV)) (ms : List Mem) : List (Nat × Nat) → Prop
  | [] => True
  | (i, j) :: r => (∃ m, ms[j]? = some m ∧ AnyOp E ops st fx effs ms i j m) ∧ AllEx E ops st effs fx ms r
theorem AllEx.get {fx : List (Nat × TV)} {ms : List Mem} : ∀ {l : List (Nat × Nat)} {i j : Nat}, AllEx E ops st effs fx ms l → l.contains (i, j) = true → ∃ m, ms[j]? = some m ∧ AnyOp E ops st fx effs ms i j m
  | [], i, j, _, h => by cases h
  | (a, b) :: r, i, j, ha, h => by
    simp only [List.contains_cons, Bool.or_eq_true, beq_iff_eq] at h
    rcases h with h | h
    · cases h; exact ha.1
    · exact AllEx.get ha.2 h
def W4 (effs : List Nat) (i : Nat) : Nat := ((List.range' 0 i).filter effs.contains).length
def exOK (ops : Array Oper) (effs : List Nat) (ex : List (Nat × Nat)) : Bool :=
  (List.range ops.size).all fun i => (List.range (effs.length + 1)).all fun j => !(Wu ops effs i j) || j == W4 effs i || ex.contains (i, j)
theorem Jv {ro : Option Nat} {n id : Nat} {Q : Exit → Act → World → Prop} (effs : List Nat) (ex : List (Nat × Nat)) (hm : E.P.follows .mixedOrders = true) (hB : Ww ops effs = true) (hex : exOK ops effs ex = true) (hlen : ((List.range' 0 ops.size).filter effs.contains).length = effs.length)
    (h : RunA E ops st effs (DieOp E Q ops st) (fun fx ms => AllEx E ops st effs fx ms.reverse ex ∧ ∃ mE r, ms = mE :: r ∧ XQ E Q .normal (Wf ops st fx mE)) (List.range' 0 ops.size) [] [st.mem]) : XC E ro n Q (.region id ops true) st := by
  have hB' := hB
  simp only [Ww, Bool.and_eq_true] at hB'
  obtain ⟨⟨⟨⟨hdag, -⟩, -⟩, -⟩, -⟩ := hB'
  have hdag' : ∀ i, i < ops.size → ∀ k ∈ JW ops i, k < i := fun i hi k hk => by
    have := List.all_eq_true.1 (List.all_eq_true.1 hdag i (by simpa using hi)) k hk
    simpa using this
  obtain ⟨fx', ms', ⟨hall, mE, r, hmE, hQ⟩, -, hms, hrun⟩ := run_home hdag' _ 0 [] st.mem [] h (fun p hp => by cases hp) (by rw [Nat.sub_zero]) (Nat.zero_le _)
  rw [List.append_nil] at hall hQ
  rw [hlen] at hms
  refine XC.anyOrder fx' effs (ms' ++ [st.mem]).reverse (mE := mE) hm hB (by simp) ?_ (fun i j m hi hj hmj hmay => ?_) hQ
  · rw [hmE]
    have : r.length = effs.length := by have := congrArg List.length hmE; simp at this; omega
    rw [List.reverse_cons, List.getElem?_append_right (by simp; omega)]; simp [this]
  · have h1 := List.all_eq_true.1 (List.all_eq_true.1 hex i (by simpa using hi)) j (by simpa using Nat.lt_succ_of_le hj)
    rw [hmay] at h1
    simp only [Bool.not_true, Bool.false_or, Bool.or_eq_true, beq_iff_eq] at h1
    rcases h1 with h1 | h1
    · obtain ⟨mi, h2, h3⟩ := hrun i (List.mem_range'_1.2 ⟨Nat.zero_le _, by omega⟩)
      rw [List.append_nil] at h3
      simp only [List.length_nil, Nat.zero_add, Nat.sub_zero] at h2 h3
      subst h1
      unfold W4 at hmj ⊢
      rw [hmj] at h2; cases h2
      obtain ⟨o, x, h4, h5, h6, h7⟩ := h3
      rcases h7 with h7 | h7 | h7
      · exact .inl ⟨o, x, h4, h5, h6, .inl h7⟩
      · exact .inl ⟨o, x, h4, h5, h6, .inr h7⟩
      · exact .inr h7
    · obtain ⟨m', h2, h3⟩ := hall.get h1
      rw [hmj] at h2; cases h2
      exact .inl h3
end
end
end Go.Proofs.Ytafddfoefeploaa
namespace Go.Proofs.Ytafddfoefeploaa
set_option linter.unusedSimpArgs false
set_option linter.unusedVariables false
set_option linter.unusedSectionVars false
abbrev UL := Int × Int
structure Lvl where
  c : Int
  vs : List UL
structure Bnd where
  lo : Lvl
  hi : Lvl
end Go.Proofs.Ytafddfoefeploaa
namespace Go.Proofs.Ytafddfoefeploaa
open Go.RowKit
set_option linter.unusedSimpArgs false
set_option linter.unusedVariables false
set_option linter.unusedSectionVars false
def lvC (x : UL) : List C := [.v (.int .i64 x.1), .v (.int .i64 x.2)]
def vsC (l : List UL) : C := .sl 2 (l.map lvC)
def lvlC (L : Lvl) : List C := [.v (.int .i64 L.c), vsC L.vs]
def bndC (B : Bnd) : List C := [.v (.int .i64 B.lo.c), vsC B.lo.vs, .v (.int .i64 B.hi.c), vsC B.hi.vs]
def intC (n : Int) : List C := [.v (.int .i64 n)]
end Go.Proofs.Ytafddfoefeploaa
namespace Go.Proofs.Ytafddfoefeploaa
open Go.RowKit
set_option linter.unusedSimpArgs false
set_option linter.unusedVariables false
set_option linter.unusedSectionVars false
instance : Enc UL := ⟨2, lvC, fun l => l.map lvC, rfl, fun a b => List.map_append, fun _ => rfl⟩
instance : Enc Lvl := ⟨2, lvlC, fun l => l.map lvlC, rfl, fun a b => List.map_append, fun _ => rfl⟩
instance : Enc Bnd := ⟨4, bndC, fun l => l.map bndC, rfl, fun a b => List.map_append, fun _ => rfl⟩
instance : Enc Int := ⟨1, intC, fun l => l.map intC, rfl, fun a b => List.map_append, fun _ => rfl⟩
def strC (s : ByteArray) : List C := [.v (.string s)]
instance : Enc ByteArray := ⟨1, strC, fun l => l.map strC, rfl, fun a b => List.map_append, fun _ => rfl⟩
def boolC (b : Bool) : List C := [.v (.bool b)]
instance : Enc Bool := ⟨1, boolC, fun l => l.map boolC, rfl, fun a b => List.map_append, fun _ => rfl⟩
def slC {α : Type} [Enc α] (l : List α) : List C := [.sl (Enc.sz α) (Enc.encL l)]
instance {α : Type} [Enc α] : Enc (List α) := ⟨1, slC, fun l => l.map slC, rfl, fun a b => List.map_append, fun _ => rfl⟩
structure Edg where
  fr : Int
  to : Int
  by_ : Int
def edgC (e : Edg) : List C := [.v (.int .i64 e.fr), .v (.int .i64 e.to), .v (.int .i64 e.by_)]
instance : Enc Edg := ⟨3, edgC, fun l => l.map edgC, rfl, fun a b => List.map_append, fun _ => rfl⟩
end Go.Proofs.Ytafddfoefeploaa
namespace Go.Proofs.Ytafddfoefeploaa
open Go.RowKit
set_option linter.unusedSimpArgs false
set_option linter.unusedVariables false
set_option linter.unusedSectionVars false
section
variable {E : Env} {ro : Option Nat} {n : Nat} {Q : Exit → Act → World → Prop} {st : St} {c : Code}
theorem XC.begin (h : E.V0.nx ≤ st.nx → XC E ro n Q c st) : XC E ro n Q c st := fun V a w hr => h (by rw [← hr.nx]; exact hr.h.le0.nx) V a w hr
theorem Jr {st' : St} {e : Exit} (hQ : XQ E Q e st') (hl : StLe E st st') : XQ E Q e st := JX hl hQ
theorem ZK {st' : St} {e : Exit} {rn : Option Nat} (h : ExecOK E.P rn c st e st') (hro : RoundOf E rn ro) (k : XQ E Q e st') : XC E ro n Q c st := h E ro n Q rfl hro k
end
theorem JM {E : Env} {st : St} {dd : Option Tmp} {ty : TypeId} {pos : String} {af : Array Edge} {g : Option (Nat × Bool)} {x : Operand} {f : FuncId} {caps : List (Nat × Nat)} {ars : Array Operand} {args args' : List AV} {ats : Array TypeId} {res : TV} {m' : Mem} {hp0 : List (Nat × HB)} {tk0 : List (Nat × Option Tok)} {nx0 : Nat} (hx : ev st.tm x = some (.v (.one (.fn f caps)))) (ha : Zo st.tm ars.toList = some args) (he : args ++ Xw caps = args')
    (hc : CallM E.P f args' ⟨hp0, tk0, nx0⟩ res m') (hn0 : st.nx = nx0) (hh : hpLe st.hp hp0) (ht : tkLe st.tk tk0) : OpOK E ⟨dd, .call { callee := .value x, args := ars, argTypes := ats }, ty, pos, af, g⟩ st res m' := by
  subst hn0; subst he
  intro V a w hr
  have hr' : Rel E V { st with hp := hp0, tk := tk0 } a w := ⟨hr.h.forgetLe hh ht, hr.nx, hr.nt, hr.df, hr.tm⟩
  exact OpOK.call (st := { st with hp := hp0, tk := tk0 }) hx ha hc V a w hr'
theorem QI {P : Program} {rn : Option Nat} {c : Code} {st st' : St} {e : Exit}
    (h : ∀ (w0 : World) (M : Nat → Prop) (V0 : Vu) (ro : Option Nat) (n : Nat) (Q : Exit → Act → World → Prop), V0.nx ≤ st.nx → RoundOf ⟨P, w0, M, V0⟩ rn ro → XQ ⟨P, w0, M, V0⟩ Q e st' → XC ⟨P, w0, M, V0⟩ ro n Q c st) : ExecOK P rn c st e st' := by
  rintro ⟨P', w0, M, V0⟩ ro n Q hP hro hQ
  dsimp only at hP
  subst hP
  exact XC.begin (fun hv => h w0 M V0 ro n Q hv hro hQ)
theorem Qw {P : Program} {rn : Option Nat} {c : Code} {st st1 st' : St} {e : Exit} (h : ExecOK P rn c st1 e st') (hl : ∀ E : Env, E.V0.nx ≤ st.nx → StLe E st st1) : ExecOK P rn c st e st' := by
  intro E ro n Q hP hro hQ
  exact XC.begin (fun hv => Km (hl E hv) (h E ro n Q hP hro hQ))
def UC : Code → Code
  | .seq a _ => a
  | .cond _ a _ => a
  | .block _ a => a
  | .loop a => a
  | .rangeFunc _ _ a _ => a
  | c => c
def UB : Code → Code
  | .seq _ b => b
  | .cond _ _ b => b
  | .rangeFunc _ _ _ b => b
  | c => c
def Kf (f : Func) : Code := f.body.getD .skip
theorem cond_left {a b : Bool} (h : cond a b false = true) : a = true := by cases a <;> simp_all
theorem cond_right {a b : Bool} (h : cond a b false = true) : b = true := by cases a <;> simp_all
section
variable {E : Env} {st : St} {d : Option Tmp} {ty : TypeId} {pos : String} {af : Array Edge} {g : Option (Nat × Bool)}
end
end Go.Proofs.Ytafddfoefeploaa
namespace Go.Proofs.Ytafddfoefeploaa
open Go.RowKit
set_option linter.unusedSimpArgs false
set_option linter.unusedVariables false
set_option linter.unusedSectionVars false
abbrev Ux (x : Int) : CA := .d (.v (.int .i64 x))
abbrev Uy (b : Bool) : CA := .d (.v (.bool b))
abbrev Uv {α : Type} [Enc α] (l : List α) : CA := .d (.sl (Enc.sz α) (Enc.encL l))
abbrev Uz {α : Type} [Enc α] (n : Nat) (l : List α) : CA := .app n (Enc.sz α) (Enc.encL l)
abbrev Uw : CA := .d (.v (.slice none 0 0))
abbrev UA {α : Type} [Enc α] (x : α) : List CA := (Enc.enc x).map CA.d
def KV {α : Type} [Enc α] (l : List α) : List CA := (Enc.encL l).flatten.map CA.d
class EncLen (α : Type) [Enc α] : Prop where
  len : ∀ x : α, (Enc.enc x).length = Enc.sz α
  pos : 0 < Enc.sz α
instance : EncLen Lvl := ⟨fun _ => rfl, by decide⟩
instance : EncLen UL := ⟨fun _ => rfl, by decide⟩
instance : EncLen Int := ⟨fun _ => rfl, by decide⟩
instance : EncLen Bnd := ⟨fun _ => rfl, by decide⟩
section
variable {α : Type} [Enc α] [EncLen α]
theorem Ga (l : List α) : ∀ e ∈ Enc.encL l, e.length = Enc.sz α := by
  intro e he
  rw [Enc.map] at he
  obtain ⟨x, -, rfl⟩ := List.mem_map.1 he
  exact EncLen.len x
theorem flatE_len (l : List α) : (KV l).length = l.length * Enc.sz α := by
  unfold KV; rw [List.length_map, JZ _ (Ga l), Enc.len]
theorem flatE_get {l : List α} {k j : Nat} {x : α} (h : l[k]? = some x) (hj : j < Enc.sz α) : (KV l)[k * Enc.sz α + j]? = ((Enc.enc x)[j]?).map CA.d := by
  unfold KV; rw [List.getElem?_map, flat_get _ (Ga l) k j _ (Enc.get h) hj]
end
section
variable {α : Type} [Enc α]
theorem flatE_cons (x : α) (l : List α) : KV (x :: l) = (Enc.enc x).map CA.d ++ KV l := by
  unfold KV; rw [Enc.cons, List.flatten_cons, List.map_append]
end
theorem setL_app : ∀ (ys ars xs : List CA) (off : Nat), setL (ars ++ xs) (ars.length + off) ys = ars ++ setL xs off ys
  | [], ars, xs, off => rfl
  | y :: ys, ars, xs, off => by
    simp only [setL]
    rw [List.set_append_right _ _ (by omega), Nat.add_sub_cancel_left, Nat.add_assoc, setL_app ys]
theorem Ky : ∀ (ys ars xs : List CA), ars.length = ys.length → setL (ars ++ xs) 0 ys = ys ++ xs
  | [], [], xs, _ => rfl
  | y :: ys, a :: ars, xs, h => by
    have h2 := setL_app ys [y] (ars ++ xs) 0
    simp only [List.length_singleton] at h2
    simp only [setL, List.cons_append, List.set_cons_zero]
    rw [show (y :: (ars ++ xs)) = [y] ++ (ars ++ xs) from rfl, show 0 + 1 = 1 + 0 from rfl, h2, Ky ys ars xs (by simpa using h)]; rfl
theorem setL_flat {α : Type} [Enc α] [EncLen α] : ∀ (l : List α) (k : Nat) (v : α), k < l.length → setL (KV l) (k * Enc.sz α) ((Enc.enc v).map CA.d) = KV (l.set k v)
  | x :: l, 0, v, _ => by
    rw [Nat.zero_mul, flatE_cons, List.set_cons_zero, flatE_cons, Ky _ _ _ (by simp [EncLen.len])]
  | x :: l, k + 1, v, h => by
    rw [flatE_cons, List.set_cons_succ, flatE_cons, ← setL_flat l k v (by simpa using h)]
    have := setL_app ((Enc.enc v).map CA.d) ((Enc.enc x).map CA.d) (KV l) (k * Enc.sz α)
    rw [List.length_map, EncLen.len] at this
    rw [← this, Nat.succ_mul, Nat.add_comm]
section
variable {E : Env} {st : St} {dd d : Option Tmp} {ty : TypeId} {pos : String} {af : Array Edge} {g : Option (Nat × Bool)}
theorem RO.sliceTo {α : Type} [Enc α] {t e : Nat} {o hi : Operand} {y : CA} {l : List α} {m : Int} (ht : Jo E.P t = some (e, Enc.sz α)) (hx : ev st.tm o = some (.v (.one y))) (hs : SlE y l) (hhi : ev st.tm hi = some (UJ m)) (hm : (cond (decide (0 ≤ m)) (Nat.ble m.toNat l.length) false) = true) :
    RO E ⟨d, .slice t o none (some hi) none, ty, pos, af, g⟩ st (.v (.one (.d (.sl (Enc.sz α) (Enc.encL (l.take m.toNat)))))) := by
  have h0 : 0 ≤ m := of_decide_eq_true (cond_left hm)
  have hb := cond_right hm
  obtain ⟨k, rfl⟩ : ∃ k : Nat, m = (k : Int) := ⟨m.toNat, (Int.toNat_of_nonneg h0).symm⟩
  simp only [Int.toNat_natCast] at hb ⊢
  have := RO.sliceE (E := E) (st := st) (d := d) (ty := ty) (pos := pos) (af := af) (g := g) (a := 0) (b := k) ht hx hs (lo := none) (hi := some hi) (mx := none) (by
    have : ev st.tm hi = some (.v (.one (.d (.v (.int .i64 (.ofNat k)))))) := hhi
    simp only [GS, hiOf, loOf, this, hb, cond_true])
  rw [List.drop_zero, Nat.sub_zero] at this
  exact this
end
inductive ORen (b : Nat) : List AV → List AV → Prop
  | nil : ORen b [] []
  | osl {off n c : Nat} {xs ys : List AV} (t : ORen b xs ys) : ORen b (.one (.osl b off n c) :: xs) (.one (.osl 0 off n c) :: ys)
  | one {x : CA} {c : C} {xs ys : List AV} (h : CSub x c) (t : ORen b xs ys) : ORen b (.one x :: xs) (.one (.d c) :: ys)
  | agg {x y : List CA} {xs ys : List AV} (h : LSub x y) (t : ORen b xs ys) : ORen b (.agg x :: xs) (.agg y :: ys)
theorem U9 {tm : List (Nat × TV)} : tmLe tm [] := trivial
theorem hZ {hp : List (Nat × HB)} : hpLe hp [] := trivial
theorem Ur {hp r : List (Nat × HB)} {t : Nat} {y : HB} (h : Ul hp t = some y) (l : hpLe hp r) : hpLe hp ((t, y) :: r) := ⟨⟨y, h, .refl y⟩, l⟩
theorem hC {hp r : List (Nat × HB)} {t : Nat} {T : TypeId} {xs ys : List CA} (h : Ul hp t = some (.cells T xs)) (k : CLs xs ys) (l : hpLe hp r) : hpLe hp ((t, .cells T ys) :: r) := ⟨⟨_, h, .cells k⟩, l⟩
theorem Un {tk : List (Nat × Option Tok)} : tkLe tk [] := trivial
theorem UD {m : Nat} : hpBelow m [] := trivial
theorem UF {m i : Nat} {x : HB} {r : List (Nat × HB)} (h : Nat.blt i m = true) (k : x.belowB m = true) (l : hpBelow m r) : hpBelow m ((i, x) :: r) := ⟨Gb h, HB.belowB_ok k, l⟩
theorem Qu {E : Env} {st st' : St} (h1 : tmLe st.tm st'.tm) (h2 : hpLe st.hp st'.hp) (h3 : tkLe st.tk st'.tk) (h4 : Nat.ble st'.nx st.nx = true) (h5 : E.V0.nx ≤ st'.nx) (h6 : st.nt = st'.nt) (h7 : st.df = st'.df)
    (h8 : (st'.tm.all fun p => p.2.belowB st'.nx) = true) (h9 : hpBelow st'.nx st'.hp) (h10 : (st'.tk.all fun p => Nat.blt p.1 st'.nx) = true) (h11 : (st'.df.take 1).all (fun i => Nat.blt i st'.nx) = true) : StLe E st st' := by
  refine ⟨h1, h2, h3, Um h4, h5, h6, h7, ?_, h9, ?_, fun i hi => Gb (List.all_eq_true.1 h11 i (by cases hd : st'.df with
    | nil => rw [hd] at hi; cases hi
    | cons x l => rw [hd] at hi; cases hi; simp))⟩
  · have : ∀ l : List (Nat × TV), (l.all fun p => p.2.belowB st'.nx) = true → tmBelow st'.nx l := by
      intro l
      induction l with
      | nil => intro _; trivial
      | cons p l ih => intro h; simp only [List.all_cons, Bool.and_eq_true] at h; exact ⟨TV.belowB_ok h.1, ih h.2⟩
    exact this _ h8
  · have : ∀ l : List (Nat × Option Tok), (l.all fun p => Nat.blt p.1 st'.nx) = true → tkBelow st'.nx l := by
      intro l
      induction l with
      | nil => intro _; trivial
      | cons p l ih => intro h; simp only [List.all_cons, Bool.and_eq_true] at h; exact ⟨Gb h.1, ih h.2⟩
    exact this _ h10
theorem XM {α β γ : Type} {y : α ⊕ β} {f : α → Option γ} {g : β → Option γ} {r : γ} {G : Prop} {C : α ⊕ β → Prop} (hc : C y) (h : Sum.elim f g y = some r) (k1 : ∀ a, C (.inl a) → f a = some r → G) (k2 : ∀ b, C (.inr b) → g b = some r → G) : G := by
  cases y with
  | inl a => exact k1 a hc h
  | inr b => exact k2 b hc h
theorem QT {P : Program} {f : FuncId} {fn : Func} {c : Code} {args : List AV} {m : Mem} (stf : St) {xs : List AV} (hf : P.funcs[f]? = some fn) (hb : fn.body = some c) (hen : J3 P f) (hnt : args.length ≤ fn.ntmps)
    (hdf : stf.df = []) (hres : RAs P stf fn.results.toList xs)
    (h : ∀ (w0 : World) (M : Nat → Prop) (V0 : Vu) (Q : Exit → Act → World → Prop), V0.nx ≤ m.nx →
      (∀ (e : Exit) (st' : St) (hp' : List (Nat × HB)), (e = .normal ∨ e = .ret) → KZ st'.df st'.hp = some hp' → StLe ⟨P, w0, M, V0⟩ ⟨st'.tm, hp', st'.tk, st'.nx, st'.nt, []⟩ stf → XQ ⟨P, w0, M, V0⟩ Q e st') → XC ⟨P, w0, M, V0⟩ none 0 Q c ⟨J7 0 args, m.hp, m.tk, m.nx, fn.ntmps, []⟩) (hP0 : P = Try.prog := by rfl) :
    CallM P f args m (QD xs) ⟨stf.hp, stf.tk, stf.nx⟩ := by
  refine ⟨hen, fun E V w vs hP H hn hargs => ?_⟩
  refine (callsIn_wide (n := 0)).1 (callsIn_of_wpV (F := Fence.wide) (vf_of hP0 hf) hf hb trivial ?_)
  have hR0 : Rel (E.at V w) V ⟨J7 0 args, m.hp, m.tk, m.nx, fn.ntmps, []⟩ { tmps := vs ++ Array.replicate (fn.ntmps - vs.size) undef, defers := [] } w := by
    refine ⟨H.rebase, hn, by simp [hargs.1]; omega, dfRel.nil, fun t x hx => ?_⟩
    obtain ⟨k, y, h1, h2, rfl⟩ := GM args 0 t x hx
    obtain ⟨u, hu, hy⟩ := hargs.2 k y h2
    have hk : k < vs.size := (Array.getElem?_eq_some_iff.1 hu).1
    have : (vs ++ Array.replicate (fn.ntmps - vs.size) undef).getD t undef = u := by
      rw [show t = k by omega, Array.getD_eq_getD_getElem?, Array.getElem?_append_left hk, hu]; rfl
    rw [this]; exact hy
  have key : ∀ (st' : St) (hp' : List (Nat × HB)) (V1 : Vu) (a1 : Act) (w1 : World), KZ st'.df st'.hp = some hp' → StLe (E.at V w) ⟨st'.tm, hp', st'.tk, st'.nx, st'.nt, []⟩ stf → Rel (E.at V w) V1 st' a1 w1 →
      LeavesInM Fence.wide 0 P fn a1.tmps (fun e w' => ∃ v V', e = .returned v ∧ HRel E V' stf.hp stf.tk w' ∧ V'.nx = stf.nx ∧ V.Le V' w w' ∧ (QD xs).rel V' w' v) a1.defers .returning w1 := by
    intro st' hp' V1 a1 w1 htm hle hr1
    refine leaves_marks st'.df a1.defers st'.hp hp' w1 hr1.h hr1.df htm (fun w' V1' H' hn' L' => ?_)
    have hr' : Rel (E.at V w) V1' ⟨st'.tm, hp', st'.tk, st'.nx, st'.nt, []⟩ { tmps := a1.tmps, defers := [] } w' := ⟨H', hn'.trans hr1.nx, hr1.nt, dfRel.nil, fun t x hx => (hr1.tm t x hx).keep L'⟩
    obtain ⟨V2, hr2⟩ := hr'.less hle
    obtain ⟨v, h1, h2⟩ := results_run (E := E.at V w) hres hP hr2
    obtain ⟨H5, L5⟩ := H.back hr2.h
    exact ⟨v, h1, v, V2, rfl, H5, hr2.nx, L5, h2⟩
  have hgo : ∀ E' : Env, E' = E.at V w → E'.P = P → E'.V0 = V → XC E' none 0 (bodyPostM Fence.wide 0 P fn (fun e w' => ∃ v V', e = .returned v ∧ HRel E V' stf.hp stf.tk w' ∧ V'.nx = stf.nx ∧ V.Le V' w w' ∧ (QD xs).rel V' w' v)) c ⟨J7 0 args, m.hp, m.tk, m.nx, fn.ntmps, []⟩ := by
    rintro ⟨P', w0, M, V0⟩ he hP' hV'
    dsimp only at hP' hV'
    subst hP'
    refine h w0 M V0 _ (by rw [hV', hn]; exact Nat.le_refl _) ?_
    rintro e st' hp' (rfl | rfl) htm hle
    · intro V1 a1 w1 hr1; rw [he] at hr1 hle; exact key st' hp' V1 a1 w1 htm hle hr1
    · intro V1 a1 w1 hr1; rw [he] at hr1 hle; exact key st' hp' V1 a1 w1 htm hle hr1
  have := hgo (E.at V w) rfl hP rfl V _ w hR0
  rw [show (E.at V w).P = P from hP] at this
  exact this
theorem CallM.of_bodyS {P : Program} {f : FuncId} {fn : Func} {c : Code} {args : List AV} {m : Mem} {Y : Type} (y : Y) (stf : Y → St) {xs : List AV} (hf : P.funcs[f]? = some fn) (hb : fn.body = some c) (hen : J3 P f) (hnt : args.length ≤ fn.ntmps)
    (hdf : ∀ y, (stf y).df = []) (hres : ∀ y, RAs P (stf y) fn.results.toList xs)
    (h : ∀ (w0 : World) (M : Nat → Prop) (V0 : Vu) (Q : Exit → Act → World → Prop), V0.nx ≤ m.nx →
      (∀ (e : Exit) (st' : St) (hp' : List (Nat × HB)), (e = .normal ∨ e = .ret) → KZ st'.df st'.hp = some hp' → StLe ⟨P, w0, M, V0⟩ ⟨st'.tm, hp', st'.tk, st'.nx, st'.nt, []⟩ (stf y) → XQ ⟨P, w0, M, V0⟩ Q e st') → XC ⟨P, w0, M, V0⟩ none 0 Q c ⟨J7 0 args, m.hp, m.tk, m.nx, fn.ntmps, []⟩) (hP0 : P = Try.prog := by rfl) :
    CallM P f args m (QD xs) ⟨(stf y).hp, (stf y).tk, (stf y).nx⟩ := QT (stf y) hf hb hen hnt (hdf y) (hres y) h hP0
section
variable {E : Env} {ro : Option Nat} {n : Nat} {Q : Exit → Act → World → Prop} {st : St} {c : Code}
end
end Go.Proofs.Ytafddfoefeploaa
namespace Go.Proofs.Ytafddfoefeploaa
open Go.RowKit
set_option linter.unusedSimpArgs false
set_option linter.unusedVariables false
set_option linter.unusedSectionVars false
def WX {β : Type} (l : List (Nat × β)) : List (Nat × β) → List (Option β)
  | [] => []
  | (t, _) :: r => Ul l t :: WX l r
def W9 {β : Type} : List (Nat × β) → List (Option β)
  | [] => []
  | (_, y) :: r => some y :: W9 r
theorem Ua {tm : List (Nat × TV)} : ∀ {r : List (Nat × TV)}, WX tm r = W9 r → tmLe tm r
  | [], _ => trivial
  | (_, _) :: _, h => ⟨⟨_, (List.cons.inj h).1, .refl _⟩, Ua (List.cons.inj h).2⟩
theorem hA {hp : List (Nat × HB)} : ∀ {r : List (Nat × HB)}, WX hp r = W9 r → hpLe hp r
  | [], _ => trivial
  | (_, _) :: _, h => ⟨⟨_, (List.cons.inj h).1, .refl _⟩, hA (List.cons.inj h).2⟩
theorem Uo {tk : List (Nat × Option Tok)} : ∀ {r : List (Nat × Option Tok)}, WX tk r = W9 r → tkLe tk r
  | [], _ => trivial
  | (_, _) :: _, h => ⟨fun T e => by rw [(List.cons.inj h).1, e], Uo (List.cons.inj h).2⟩
def belA (m : Nat) : List (Nat × HB) → Bool
  | [] => true
  | (i, x) :: r => Nat.blt i m && (x.belowB m && belA m r)
theorem UG {m : Nat} : ∀ {r : List (Nat × HB)}, belA m r = true → hpBelow m r
  | [], _ => trivial
  | (_, _) :: _, h => by
    have a := Bool.and_eq_true_iff.1 h
    have b := Bool.and_eq_true_iff.1 a.2
    exact ⟨Gb a.1, HB.belowB_ok b.1, UG b.2⟩
theorem Ub {E : Env} {st st' : St} (h5 : E.V0.nx ≤ st'.nx) (h1 : WX st.tm st'.tm = W9 st'.tm) (h2 : WX st.hp st'.hp = W9 st'.hp) (h3 : WX st.tk st'.tk = W9 st'.tk) (h6 : (st.nt, st.df) = (st'.nt, st'.df))
    (h4 : (Nat.ble st'.nx st.nx && ((st'.tm.all fun p => p.2.belowB st'.nx) && (belA st'.nx st'.hp && ((st'.tk.all fun p => Nat.blt p.1 st'.nx) && (st'.df.take 1).all (fun i => Nat.blt i st'.nx))))) = true) : StLe E st st' := by
  have a := Bool.and_eq_true_iff.1 h4
  have b := Bool.and_eq_true_iff.1 a.2
  have c := Bool.and_eq_true_iff.1 b.2
  have d := Bool.and_eq_true_iff.1 c.2
  exact Qu (Ua h1) (hA h2) (Uo h3) a.1 h5 (Prod.mk.inj h6).1 (Prod.mk.inj h6).2 b.1 (UG c.1) d.1 d.2
end Go.Proofs.Ytafddfoefeploaa
namespace Go.Proofs.Ytafddfoefeploaa
open Go.RowKit
set_option linter.unusedSimpArgs false
set_option linter.unusedVariables false
set_option linter.unusedSectionVars false
theorem ownsRow_same {w w' : World} {b e s n : Nat} {v : Value} {xs : List Value} (h : w.ownsRow b e s v n xs) (hs : ∀ g, v.ownBlock = some g → w'.heap[g]? = w.heap[g]?) : w'.ownsRow b e s v n xs := by
  obtain ⟨h1, h2⟩ := h
  refine ⟨h1, h2.imp id ?_⟩
  rintro ⟨g, cap, cur, rfl, h3, h4, h5⟩
  exact ⟨g, cap, cur, rfl, h3, (hs g rfl).trans h4, h5⟩
def X5 (V : Vu) (hp : List (Nat × HB)) (tk : List (Nat × Option Tok)) (k : Nat) : Prop :=
  (∃ i B, Ul hp i = some B ∧ V.ι i = k) ∨ ∃ i T, Ul tk i = some (some T) ∧ (V.κ i T.n).ownBlock = some k
theorem lk_app {α : Type} : ∀ (a b : List (Nat × α)) (i : Nat), Ul (a ++ b) i = match Ul a i with
    | some x => some x
    | none => Ul b i
  | [], b, i => rfl
  | (k, x) :: a, b, i => by
    rw [List.cons_append, QU, QU]
    split
    · rfl
    · exact lk_app a b i
theorem YE {α : Type} {a b : List (Nat × α)} {i : Nat} {x : α} (h : Ul (a ++ b) i = some x) : Ul a i = some x ∨ Ul b i = some x := by
  rw [lk_app] at h
  cases h1 : Ul a i with
  | none => rw [h1] at h; exact .inr h
  | some y => rw [h1] at h; exact .inl h
theorem lk_memF {α : Type} : ∀ {a : List (Nat × α)} {i : Nat} {x : α}, Ul a i = some x → (i, x) ∈ a
  | [], i, x, h => by cases h
  | (k, y) :: a, i, x, h => by
    rw [QU] at h
    split at h
    · rename_i e; subst e; cases h; exact List.mem_cons_self
    · exact List.mem_cons_of_mem _ (lk_memF h)
def W3 : List Nat → Nat → Nat → Nat
  | [], n, i => n + i
  | j :: _, _, 0 => j
  | _ :: r, n, i + 1 => W3 r n i
theorem rho_lt : ∀ {rs : List Nat} {n i : Nat}, i < rs.length → ∃ j, rs[i]? = some j ∧ W3 rs n i = j
  | [], n, i, h => by simp at h
  | j :: r, n, 0, h => ⟨j, rfl, rfl⟩
  | j :: r, n, i + 1, h => rho_lt (rs := r) (n := n) (i := i) (by simpa using h)
theorem Xe : ∀ {rs : List Nat} {n i : Nat}, rs.length ≤ i → W3 rs n i = n + (i - rs.length)
  | [], n, i, h => rfl
  | j :: r, n, 0, h => by simp at h
  | j :: r, n, i + 1, h => by
    have h1 : r.length ≤ i := by simpa using h
    have h2 := Xe (rs := r) (n := n) (i := i) h1
    simp only [W3, List.length_cons]
    omega
theorem KO {rs : List Nat} {n i : Nat} (h : i < rs.length) : W3 rs n i ∈ rs := by
  obtain ⟨j, h1, h2⟩ := rho_lt (n := n) h
  rw [h2]; exact List.mem_of_getElem? h1
theorem nodup_get {α : Type} : ∀ {l : List α} {i j : Nat} {a : α}, l.Nodup → l[i]? = some a → l[j]? = some a → i = j
  | [], i, j, a, _, h, _ => by simp at h
  | x :: l, 0, 0, a, _, _, _ => rfl
  | x :: l, 0, j + 1, a, hn, h1, h2 => by
    simp at h1 h2
    subst h1
    exact absurd (List.mem_of_getElem? h2) (List.nodup_cons.1 hn).1
  | x :: l, i + 1, 0, a, hn, h1, h2 => by
    simp at h1 h2
    subst h2
    exact absurd (List.mem_of_getElem? h1) (List.nodup_cons.1 hn).1
  | x :: l, i + 1, j + 1, a, hn, h1, h2 => by
    simp at h1 h2
    rw [nodup_get (List.nodup_cons.1 hn).2 h1 h2]
theorem rho_inj {rs : List Nat} {n : Nat} (hnd : rs.Nodup) (hlt : ∀ j ∈ rs, j < n) {i j : Nat} (h : W3 rs n i = W3 rs n j) : i = j := by
  by_cases h1 : i < rs.length <;> by_cases h2 : j < rs.length
  · obtain ⟨a, h3, h4⟩ := rho_lt (n := n) h1
    obtain ⟨b, h5, h6⟩ := rho_lt (n := n) h2
    rw [h4, h6] at h
    subst h
    exact nodup_get hnd h3 h5
  · have := hlt _ (KO (n := n) h1)
    rw [h, Xe (Nat.le_of_not_lt h2)] at this; omega
  · have := hlt _ (KO (n := n) h2)
    rw [← h, Xe (Nat.le_of_not_lt h1)] at this; omega
  · rw [Xe (Nat.le_of_not_lt h1), Xe (Nat.le_of_not_lt h2)] at h; omega
def CA.ren (ρ : Nat → Nat) : CA → CA
  | .d c => .d c
  | .ptr i off => .ptr (ρ i) off
  | .pel e off => .pel e off
  | .fn f caps => .fn f (caps.map fun p => (ρ p.1, p.2))
  | .app i sz es => .app (ρ i) sz es
  | .apv i sz n es => .apv (ρ i) sz n es
  | .tp i n off => .tp (ρ i) n off
  | .osl i off len cap => .osl (ρ i) off len cap
  | .mp i => .mp (ρ i)
  | .yld i => .yld (ρ i)
  | .clo f caps => .clo f caps
  | .any => .any
def AV.ren (ρ : Nat → Nat) : AV → AV
  | .one x => .one (x.ren ρ)
  | .agg xs => .agg (xs.map (CA.ren ρ))
def TV.ren (ρ : Nat → Nat) : TV → TV
  | .v x => .v (x.ren ρ)
  | .tup xs => .tup (xs.map (AV.ren ρ))
  | .unk => .unk
def HB.ren (ρ : Nat → Nat) : HB → HB
  | .cells T xs => .cells T (xs.map (CA.ren ρ))
  | .obj o => .obj o
  | .loop s p tm nt ps assign body D => .loop s p (tm.map fun q => (q.1, q.2.ren ρ)) nt ps assign body (ρ D)
  | .mp es c => .mp (es.map fun e => (e.1, e.2.1.ren ρ, e.2.2)) c
def YH (ρ : Nat → Nat) (l : List (Nat × HB)) : List (Nat × HB) := l.map fun p => (ρ p.1, p.2.ren ρ)
def Zg (ρ : Nat → Nat) (l : List (Nat × Option Tok)) : List (Nat × Option Tok) := l.map fun p => (ρ p.1, p.2)
theorem lk_map2 {α β : Type} (f : α → β) : ∀ (l : List (Nat × α)) (t : Nat), Ul (l.map fun q => (q.1, f q.2)) t = (Ul l t).map f
  | [], t => rfl
  | (k, x) :: l, t => by
    rw [List.map_cons, QU, QU]
    split
    · rfl
    · exact lk_map2 f l t
theorem lk_ren {α β : Type} {ρ : Nat → Nat} {f : α → β} (inj : ∀ i j, ρ i = ρ j → i = j) : ∀ (l : List (Nat × α)) (i : Nat), Ul (l.map fun p => (ρ p.1, f p.2)) (ρ i) = (Ul l i).map f
  | [], i => rfl
  | (k, x) :: l, i => by
    rw [List.map_cons, QU, QU]
    by_cases h : k = i
    · subst h; rw [if_pos rfl, if_pos rfl]; rfl
    · rw [if_neg h, if_neg (fun e => h (inj _ _ e))]; exact lk_ren inj l i
theorem lk_ren_inv {α β : Type} {ρ : Nat → Nat} {f : α → β} (inj : ∀ i j, ρ i = ρ j → i = j) {l : List (Nat × α)} {j : Nat} {y : β} (h : Ul (l.map fun p => (ρ p.1, f p.2)) j = some y) : ∃ i x, ρ i = j ∧ Ul l i = some x ∧ y = f x := by
  obtain ⟨p, h1, h2⟩ := List.mem_map.1 (lk_memF h)
  have h3 : ρ p.1 = j := (Prod.mk.inj h2).1
  subst h3
  rw [lk_ren inj] at h
  cases h4 : Ul l p.1 with
  | none => rw [h4] at h; cases h
  | some x => rw [h4] at h; cases h; exact ⟨p.1, x, rfl, h4, rfl⟩
def pull (ρ : Nat → Nat) (V : Vu) (m : Nat) : Vu := ⟨m, fun i => V.ι (ρ i), fun i => V.κ (ρ i), fun i => V.cu (ρ i), V.S⟩
theorem CA.rel.pull {ρ : Nat → Nat} {V : Vu} {w : World} {m : Nat} {x : CA} {v : Value} (h : (x.ren ρ).rel V w v) (hb : x.below m) : x.rel (pull ρ V m) w v := by
  cases x with
  | ptr i off => exact ⟨hb, h.2⟩
  | fn f caps =>
    have := h.2
    rw [List.map_map] at this
    exact ⟨hb, this⟩
  | app i sz es => exact ⟨hb, h.2⟩
  | apv i sz n es => exact ⟨hb, h.2⟩
  | tp i n off => exact ⟨hb, h.2⟩
  | osl i off len cap => exact ⟨hb, h.2⟩
  | mp i => exact ⟨hb, h.2⟩
  | yld i => exact ⟨hb, h.2⟩
  | d c => exact h
  | pel e off => exact h
  | clo f caps => exact h
  | any => exact h
theorem rels.pull {ρ : Nat → Nat} {V : Vu} {w : World} {m : Nat} {xs : List CA} {vs : Array Value} (h : rels V w (xs.map (CA.ren ρ)) vs) (hb : ∀ x ∈ xs, x.below m) : rels (pull ρ V m) w xs vs :=
  ⟨by simpa using h.1, fun i x hx => let ⟨u, h1, h2⟩ := h.2 i (x.ren ρ) (by rw [List.getElem?_map, hx]; rfl); ⟨u, h1, h2.pull (hb x (List.mem_of_getElem? hx))⟩⟩
theorem AV.rel.pull {ρ : Nat → Nat} {V : Vu} {w : World} {m : Nat} {x : AV} {v : Value} (h : (x.ren ρ).rel V w v) (hb : x.below m) : x.rel (pull ρ V m) w v := by
  cases x with
  | one x => exact CA.rel.pull h hb
  | agg xs => obtain ⟨vs, h1, h2⟩ := h; exact ⟨vs, h1, h2.pull hb⟩
theorem TV.rel.pull {ρ : Nat → Nat} {V : Vu} {w : World} {m : Nat} {x : TV} {v : Value} (h : (x.ren ρ).rel V w v) (hb : x.below m) : x.rel (pull ρ V m) w v := by
  cases x with
  | v x => exact AV.rel.pull h hb
  | tup xs =>
    obtain ⟨vs, h1, h2, h3⟩ := h
    exact ⟨vs, h1, by simpa using h2, fun i x hx => let ⟨u, h4, h5⟩ := h3 i (x.ren ρ) (by rw [List.getElem?_map, hx]; rfl); ⟨u, h4, h5.pull (hb x (List.mem_of_getElem? hx))⟩⟩
  | unk => trivial
theorem HB.rel.pull {ρ : Nat → Nat} {V : Vu} {w : World} {m : Nat} {x : HB} {o : Obj} (h : (x.ren ρ).rel V w o) (hb : x.below m) : x.rel (pull ρ V m) w o := by
  cases x with
  | cells T xs => obtain ⟨vs, h3, h4⟩ := h; exact ⟨vs, h3, h4.pull hb⟩
  | obj o' => exact h
  | loop s p tm nt ps assign body D =>
    obtain ⟨-, fn, tmps, h3, h4, h5⟩ := h
    exact ⟨hb.1, fn, tmps, h3, h4, fun t x hx => (h5 t (x.ren ρ) (by rw [lk_map2, hx]; rfl)).pull (hb.2 t x hx)⟩
  | mp es clock =>
    obtain ⟨ents, h3, h4, h5⟩ := h
    exact ⟨ents, h3, by simpa using h4, fun i k x b hi => let ⟨v, h6, h7⟩ := h5 i k (x.ren ρ) b (by rw [List.getElem?_map, hi]; rfl); ⟨v, h6, h7.pull (hb _ (List.mem_of_getElem? hi))⟩⟩
structure Via (ρ : Nat → Nat) (V1 V2 : Vu) : Prop where
  ι : ∀ i, i < V1.nx → ρ i < V2.nx ∧ V2.ι (ρ i) = V1.ι i
  cu : ∀ i, i < V1.nx → V2.cu (ρ i) = V1.cu i
  κ : ∀ i, i < V1.nx → V2.κ (ρ i) = V1.κ i
  S : ∀ b o, V1.S b o → V2.S b o
section
variable {ρ : Nat → Nat} {V1 V2 : Vu} {w : World}
theorem CA.rel.via (hV : Via ρ V1 V2) {x : CA} {v : Value} (h : x.rel V1 w v) : (x.ren ρ).rel V2 w v := by
  cases x with
  | ptr i off => exact ⟨(hV.ι i h.1).1, by rw [(hV.ι i h.1).2]; exact h.2⟩
  | fn f caps =>
    refine ⟨fun p hp => ?_, ?_⟩
    · obtain ⟨q, hq, rfl⟩ := List.mem_map.1 hp
      exact (hV.ι _ (h.1 q hq)).1
    · rw [h.2, List.map_map]
      congr 2
      exact List.map_congr_left fun p hp => by show _ = Value.pointer (some ⟨V2.ι (ρ p.1), p.2, none⟩); rw [(hV.ι _ (h.1 p hp)).2]
  | app i sz es => exact ⟨(hV.ι i h.1).1, by rw [hV.cu i h.1]; exact h.2.1, by rw [hV.κ i h.1]; exact h.2.2.1, Reads.mono hV.S (fun _ _ _ => rfl) h.2.2.2⟩
  | apv i sz n es =>
    obtain ⟨h1, h2, h3, a, cap, h4, h5, h6⟩ := h
    exact ⟨(hV.ι i h1).1, by rw [hV.cu i h1]; exact h2, by rw [hV.κ i h1]; exact h3, a, cap, h4, h5, Reads.mono hV.S (fun _ _ _ => rfl) h6⟩
  | tp i n off =>
    obtain ⟨h1, h2, g, cap, h3, h4⟩ := h
    exact ⟨(hV.ι i h1).1, by rw [hV.cu i h1]; exact h2, g, cap, by rw [hV.κ i h1]; exact h3, h4⟩
  | osl i off len cap => exact ⟨(hV.ι i h.1).1, by rw [(hV.ι i h.1).2]; exact h.2⟩
  | mp i => exact ⟨(hV.ι i h.1).1, by rw [(hV.ι i h.1).2]; exact h.2⟩
  | yld i => exact ⟨(hV.ι i h.1).1, by rw [(hV.ι i h.1).2]; exact h.2⟩
  | d c => exact Reads.mono hV.S (fun _ _ _ => rfl) h
  | pel e off => exact pelRel.mono hV.S (fun _ _ _ => rfl) h
  | clo f caps =>
    obtain ⟨ps, h1, h2, h3⟩ := h
    exact ⟨ps, h1, h2, fun i e off hi => let ⟨p, h4, h5⟩ := h3 i e off hi; ⟨p, h4, h5.mono hV.S (fun _ _ _ => rfl)⟩⟩
  | any => exact h
theorem rels.via (hV : Via ρ V1 V2) {xs : List CA} {vs : Array Value} (h : rels V1 w xs vs) : rels V2 w (xs.map (CA.ren ρ)) vs :=
  ⟨by simpa using h.1, fun i x hx => by
    rw [List.getElem?_map] at hx
    cases h1 : xs[i]? with
    | none => rw [h1] at hx; cases hx
    | some y => rw [h1] at hx; cases hx; obtain ⟨u, h2, h3⟩ := h.2 i y h1; exact ⟨u, h2, h3.via hV⟩⟩
theorem AV.rel.via (hV : Via ρ V1 V2) {x : AV} {v : Value} (h : x.rel V1 w v) : (x.ren ρ).rel V2 w v := by
  cases x with
  | one x => exact CA.rel.via hV h
  | agg xs => obtain ⟨vs, h1, h2⟩ := h; exact ⟨vs, h1, h2.via hV⟩
theorem TV.rel.via (hV : Via ρ V1 V2) {x : TV} {v : Value} (h : x.rel V1 w v) : (x.ren ρ).rel V2 w v := by
  cases x with
  | v x => exact AV.rel.via hV h
  | tup xs =>
    obtain ⟨vs, h1, h2, h3⟩ := h
    refine ⟨vs, h1, by simpa using h2, fun i x hx => ?_⟩
    rw [List.getElem?_map] at hx
    cases h4 : xs[i]? with
    | none => rw [h4] at hx; cases hx
    | some y => rw [h4] at hx; cases hx; obtain ⟨u, h5, h6⟩ := h3 i y h4; exact ⟨u, h5, h6.via hV⟩
  | unk => trivial
theorem HB.rel.via (hV : Via ρ V1 V2) {x : HB} {o : Obj} (h : x.rel V1 w o) : (x.ren ρ).rel V2 w o := by
  cases x with
  | cells T xs => obtain ⟨vs, h3, h4⟩ := h; exact ⟨vs, h3, h4.via hV⟩
  | obj o' => exact h
  | loop s p tm nt ps assign body D =>
    obtain ⟨h1, fn, tmps, h3, h4, h5⟩ := h
    refine ⟨(hV.ι D h1).1, fn, tmps, by rw [(hV.ι D h1).2]; exact h3, h4, fun t x hx => ?_⟩
    rw [lk_map2] at hx
    cases h6 : Ul tm t with
    | none => rw [h6] at hx; cases hx
    | some y => rw [h6] at hx; cases hx; exact (h5 t y h6).via hV
  | mp es clock =>
    obtain ⟨ents, h3, h4, h5⟩ := h
    refine ⟨ents, h3, by simpa using h4, fun i k x b hi => ?_⟩
    rw [List.getElem?_map] at hi
    cases h6 : es[i]? with
    | none => rw [h6] at hi; cases hi
    | some y =>
      obtain ⟨k', x', b'⟩ := y
      rw [h6] at hi; cases hi
      obtain ⟨v, h7, h8⟩ := h5 i _ _ _ h6
      exact ⟨v, h7, h8.via hV⟩
end
open Classical in
noncomputable def KJ (ρ : Nat → Nat) (V V1 : Vu) (n : Nat) : Vu :=
  ⟨n, fun j => if h : ∃ i, ρ i = j then V1.ι h.choose else V.ι j, fun j => if h : ∃ i, ρ i = j then V1.κ h.choose else V.κ j, fun j => if h : ∃ i, ρ i = j then V1.cu h.choose else V.cu j, V1.S⟩
section
open Classical
variable {ρ : Nat → Nat} {V V1 : Vu} {n : Nat}
theorem choose_ren (inj : ∀ i j, ρ i = ρ j → i = j) {i : Nat} (h : ∃ k, ρ k = ρ i) : h.choose = i := inj _ _ h.choose_spec
theorem ZJ (inj : ∀ i j, ρ i = ρ j → i = j) (i : Nat) : (KJ ρ V V1 n).ι (ρ i) = V1.ι i := by
  have h : ∃ k, ρ k = ρ i := ⟨i, rfl⟩
  show (if h : ∃ k, ρ k = ρ i then V1.ι h.choose else V.ι (ρ i)) = _
  rw [dif_pos h, choose_ren inj h]
theorem Gc (inj : ∀ i j, ρ i = ρ j → i = j) (i : Nat) : (KJ ρ V V1 n).κ (ρ i) = V1.κ i := by
  have h : ∃ k, ρ k = ρ i := ⟨i, rfl⟩
  show (if h : ∃ k, ρ k = ρ i then V1.κ h.choose else V.κ (ρ i)) = _
  rw [dif_pos h, choose_ren inj h]
theorem backV_cu (inj : ∀ i j, ρ i = ρ j → i = j) (i : Nat) : (KJ ρ V V1 n).cu (ρ i) = V1.cu i := by
  have h : ∃ k, ρ k = ρ i := ⟨i, rfl⟩
  show (if h : ∃ k, ρ k = ρ i then V1.cu h.choose else V.cu (ρ i)) = _
  rw [dif_pos h, choose_ren inj h]
theorem Zw {j : Nat} (h : ¬ ∃ i, ρ i = j) : (KJ ρ V V1 n).ι j = V.ι j := dif_neg h
theorem Kw {j : Nat} (h : ¬ ∃ i, ρ i = j) : (KJ ρ V V1 n).κ j = V.κ j := dif_neg h
theorem backV_cu' {j : Nat} (h : ¬ ∃ i, ρ i = j) : (KJ ρ V V1 n).cu j = V.cu j := dif_neg h
end
section
variable {E : Env} {V V1 : Vu} {hp hp0 hp1 hpF : List (Nat × HB)} {tk tk0 tk1 tkF : List (Nat × Option Tok)} {w w' : World} {ρ : Nat → Nat} {nx0 n : Nat}
theorem HRel.part (inj : ∀ i j, ρ i = ρ j → i = j) (h : HRel E V (YH ρ hp0) (Zg ρ tk0) w) (b0 : hpBelow nx0 hp0) (c0 : tkBelow nx0 tk0) :
    HRel ⟨E.P, w, X5 V (YH ρ hp0) (Zg ρ tk0), pull ρ V nx0⟩ (pull ρ V nx0) hp0 tk0 w := by
  have eH : ∀ i B, Ul hp0 i = some B → Ul (YH ρ hp0) (ρ i) = some (B.ren ρ) := fun i B hi => by
    have := lk_ren (f := HB.ren ρ) inj hp0 i
    rw [hi] at this; exact this
  have eT : ∀ i T, Ul tk0 i = some T → Ul (Zg ρ tk0) (ρ i) = some T := fun i T hi => by
    have := lk_ren (f := fun x : Option Tok => x) inj tk0 i
    rw [hi] at this; exact this
  refine ⟨ExtM.refl _ _, Vu.Le.refl _ _, h.sz, fun b o hs => .inl hs, fun i B hi => ?_, fun i j A B hi hj e => ?_, fun i B hi => ⟨.inr (.inl ⟨ρ i, _, eH i B hi, rfl⟩), (h.new _ _ (eH i B hi)).2⟩, fun i T hi => ?_, fun i j T U g hi hj ei ej => ?_⟩
  · obtain ⟨h1, h2⟩ := b0.get i B hi
    obtain ⟨-, o, h3, h4⟩ := h.own _ _ (eH i B hi)
    exact ⟨h1, o, h3, h4.pull h2⟩
  · exact inj _ _ (h.inj _ _ _ _ (eH i A hi) (eH j B hj) e)
  · obtain ⟨-, h2, xs, h3, h4⟩ := h.tok _ _ (eT i _ hi)
    exact ⟨c0.get i _ hi, h2, xs, h3, fun g hg => ⟨.inr (.inr ⟨ρ i, T, eT i _ hi, hg⟩), (h4 g hg).2.1, fun j B hj => (h4 g hg).2.2 _ _ (eH j B hj)⟩⟩
  · exact inj _ _ (h.tki _ _ T U g (eT i _ hi) (eT j _ hj) ei ej)
theorem HRel.turn (inj : ∀ i j, ρ i = ρ j → i = j) (h : HRel E V hp tk w) (hh : hpLe hp (YH ρ hp0)) (ht : tkLe tk (Zg ρ tk0)) (hhF : hpLe hp hpF) (htF : tkLe tk tkF)
    (old : ∀ i, i < nx0 → ρ i < V.nx) (new : ∀ i, nx0 ≤ i → ρ i = V.nx + (i - nx0)) (dF : ∀ i B, Ul hpF i = some B → ∀ k, k < nx0 → ρ k ≠ i) (dT : ∀ i T, Ul tkF i = some (some T) → ∀ k, k < nx0 → ρ k ≠ i)
    (b0 : hpBelow nx0 hp0) (c0 : tkBelow nx0 tk0) (hn : V1.nx + V.nx = n + nx0) (hle : nx0 ≤ V1.nx)
    (H : HRel ⟨E.P, w, X5 V (YH ρ hp0) (Zg ρ tk0), pull ρ V nx0⟩ V1 hp1 tk1 w') :
    HRel E (KJ ρ V V1 n) (YH ρ hp1 ++ hpF) (Zg ρ tk1 ++ tkF) w' ∧ V.Le (KJ ρ V V1 n) w w' ∧ Via ρ V1 (KJ ρ V V1 n) := by
  have L := H.le0
  have h0 := h.forgetLe hh ht
  have hF := h.forgetLe hhF htF
  have eHi : ∀ {l : List (Nat × HB)} {j B}, Ul (YH ρ l) j = some B → ∃ i x, ρ i = j ∧ Ul l i = some x ∧ B = x.ren ρ := fun hj => lk_ren_inv inj hj
  have eTi : ∀ {l : List (Nat × Option Tok)} {j T}, Ul (Zg ρ l) j = some T → ∃ i x, ρ i = j ∧ Ul l i = some x ∧ T = x := fun hj => lk_ren_inv (f := fun x : Option Tok => x) inj hj
  have pE : ∀ k, X5 V (YH ρ hp0) (Zg ρ tk0) k → E.w0.heap.size ≤ k ∨ E.M k := by
    rintro k (⟨i, B, hi, rfl⟩ | ⟨i, T, hi, hg⟩)
    · exact (h0.new i B hi).1
    · obtain ⟨-, -, xs, -, h4⟩ := h0.tok i T hi
      exact (h4 k hg).1
  have Fl : ∀ i B, Ul hpF i = some B → V.ι i < w.heap.size := fun i B hi => by
    obtain ⟨-, o, ho, -⟩ := hF.own i B hi
    exact Z8 ho
  have Tl : ∀ i T g, Ul tkF i = some (some T) → (V.κ i T.n).ownBlock = some g → g < w.heap.size := fun i T g hi hg => by
    obtain ⟨-, -, xs, h3, -⟩ := hF.tok i T hi
    exact (h3.1.lt g hg).2
  have nF : ∀ i, i < V.nx → (∀ k, k < nx0 → ρ k ≠ i) → ¬ ∃ k, ρ k = i := by
    rintro i hi hk ⟨k, hk2⟩
    rcases Nat.lt_or_ge k nx0 with h1 | h1
    · exact hk k h1 hk2
    · rw [new k h1] at hk2; omega
  have Fn : ∀ i B, Ul hpF i = some B → ¬ ∃ k, ρ k = i := fun i B hi => nF i (hF.own i B hi).1 (dF i B hi)
  have Tn : ∀ i T, Ul tkF i = some (some T) → ¬ ∃ k, ρ k = i := fun i T hi => nF i (hF.tok i T hi).1 (dT i T hi)
  have Fp : ∀ i B, Ul hpF i = some B → ¬ X5 V (YH ρ hp0) (Zg ρ tk0) (V.ι i) := by
    rintro i B hi (⟨j, C, hj, e⟩ | ⟨j, T, hj, hg⟩)
    · obtain ⟨x, hx, -⟩ := hh.get j C hj
      obtain ⟨y, hy, -⟩ := hhF.get i B hi
      have := h.inj j i x y hx hy e
      subst this
      obtain ⟨k, -, hk, -⟩ := eHi hj
      exact Fn _ B hi ⟨k, hk⟩
    · obtain ⟨y, hy, -⟩ := hhF.get i B hi
      obtain ⟨-, -, xs, -, h4⟩ := h.tok j T (ht.get j T hj)
      exact (h4 _ hg).2.2 i y hy rfl
  have Tp : ∀ i T g, Ul tkF i = some (some T) → (V.κ i T.n).ownBlock = some g → ¬ X5 V (YH ρ hp0) (Zg ρ tk0) g := by
    rintro i T g hi hg (⟨j, C, hj, e⟩ | ⟨j, U, hj, hg'⟩)
    · obtain ⟨x, hx, -⟩ := hh.get j C hj
      obtain ⟨-, -, xs, -, h4⟩ := h.tok i T (htF.get i T hi)
      exact (h4 _ hg).2.2 j x hx e
    · have := h.tki i j T U g (htF.get i T hi) (ht.get j U hj) hg hg'
      subst this
      obtain ⟨k, -, hk, -⟩ := eTi hj
      exact Tn _ T hi ⟨k, hk⟩
  have S1 : ∀ b o, V1.S b o → V.S b o ∨ w.heap.size ≤ b ∨ X5 V (YH ρ hp0) (Zg ρ tk0) b := H.sub
  have nn : ∀ i, i < V1.nx → ρ i < n := fun i hi => by
    rcases Nat.lt_or_ge i nx0 with h1 | h1
    · have := old i h1; omega
    · rw [new i h1]; omega
  have A2 : Via ρ V1 (KJ ρ V V1 n) := ⟨fun i hi => ⟨nn i hi, ZJ inj i⟩, fun i hi => backV_cu inj i, fun i hi => Gc inj i, fun b o hs => hs⟩
  have isNew : ∀ k, ρ k < V.nx → k < nx0 := fun k hk => by
    rcases Nat.lt_or_ge k nx0 with h1 | h1
    · exact h1
    · rw [new k h1] at hk; omega
  have A1 : V.Le (KJ ρ V V1 n) w w' := by
    refine ⟨by show V.nx ≤ n; omega, fun i hi => ?_, fun i hi => ?_, fun i hi m hm => ?_, L.S, L.cell, L.dk⟩
    · by_cases hq : ∃ k, ρ k = i
      · obtain ⟨k, rfl⟩ := hq
        rw [ZJ inj]; exact L.ι k (isNew k hi)
      · exact Zw hq
    · by_cases hq : ∃ k, ρ k = i
      · obtain ⟨k, rfl⟩ := hq
        rw [backV_cu inj]; exact L.cu k (isNew k hi)
      · rw [backV_cu' hq]; exact Nat.le_refl _
    · by_cases hq : ∃ k, ρ k = i
      · obtain ⟨k, rfl⟩ := hq
        rw [Gc inj]; exact L.κ k (isNew k hi) m hm
      · rw [Kw hq]
  have hsize : w.heap.size ≤ w'.heap.size := H.ext.size
  have keep : ∀ k, k < w.heap.size → ¬ X5 V (YH ρ hp0) (Zg ρ tk0) k → w'.heap[k]? = w.heap[k]? := H.ext.block
  have inE : ∀ k, (w.heap.size ≤ k ∨ X5 V (YH ρ hp0) (Zg ρ tk0) k) → E.w0.heap.size ≤ k ∨ E.M k := fun k hk => by
    rcases hk with h1 | h1
    · exact .inl (Nat.le_trans h.ext.size h1)
    · exact pE k h1
  refine ⟨⟨?_, h.le0.trans A1, H.sz, ?_, ?_, ?_, ?_, ?_, ?_⟩, A1, A2⟩
  · refine ⟨H.ext.os.trans h.ext.os, H.ext.tape.trans h.ext.tape, H.ext.output.trans h.ext.output, Nat.le_trans h.ext.size hsize, fun k hk hM => ?_⟩
    refine (keep k (Nat.lt_of_lt_of_le hk h.ext.size) fun hp => ?_).trans (h.ext.block k hk hM)
    rcases pE k hp with h1 | h1
    · omega
    · exact hM h1
  · intro b o hs
    rcases S1 b o hs with h1 | h1
    · exact h.sub b o h1
    · exact .inr (inE b h1)
  · intro i B hi
    rcases YE hi with hi | hi
    · obtain ⟨k, x, rfl, hk, rfl⟩ := eHi hi
      obtain ⟨h1, o, h3, h4⟩ := H.own k x hk
      exact ⟨nn k h1, o, by rw [ZJ inj]; exact h3, h4.via A2⟩
    · obtain ⟨h1, o, h3, h4⟩ := hF.own i B hi
      exact ⟨by show i < n; omega, o, by rw [Zw (Fn i B hi), keep _ (Fl i B hi) (Fp i B hi)]; exact h3, h4.mono A1⟩
  · have mix : ∀ i j A B, Ul (YH ρ hp1) i = some A → Ul hpF j = some B → (KJ ρ V V1 n).ι i = (KJ ρ V V1 n).ι j → False := fun i j A B hi hj e => by
      obtain ⟨k, x, rfl, hk, -⟩ := eHi hi
      rw [ZJ inj, Zw (Fn j B hj)] at e
      rcases (H.new k x hk).1 with h2 | h2
      · rw [e] at h2
        exact absurd h2 (Nat.not_le.2 (Fl j B hj))
      · rw [e] at h2
        exact Fp j B hj h2
    intro i j A B hi hj e
    rcases YE hi with hi | hi <;> rcases YE hj with hj | hj
    · obtain ⟨k, x, rfl, hk, -⟩ := eHi hi
      obtain ⟨k', x', rfl, hk', -⟩ := eHi hj
      rw [ZJ inj, ZJ inj] at e
      rw [H.inj k k' x x' hk hk' e]
    · exact (mix i j A B hi hj e).elim
    · exact (mix j i B A hj hi e.symm).elim
    · rw [Zw (Fn i A hi), Zw (Fn j B hj)] at e
      exact hF.inj i j A B hi hj e
  · intro i B hi
    rcases YE hi with hi | hi
    · obtain ⟨k, x, rfl, hk, -⟩ := eHi hi
      obtain ⟨h2, h3⟩ := H.new k x hk
      rw [ZJ inj]
      exact ⟨inE _ h2, h3⟩
    · obtain ⟨h2, h3⟩ := hF.new i B hi
      rw [Zw (Fn i B hi)]
      refine ⟨h2, fun o hs => ?_⟩
      rcases S1 _ o hs with h4 | h4 | h4
      · exact h3 o h4
      · exact absurd h4 (Nat.not_le.2 (Fl i B hi))
      · exact Fp i B hi h4
  · intro i T hi
    rcases YE hi with hi | hi
    · obtain ⟨k, x, rfl, hk, e⟩ := eTi hi
      subst e
      obtain ⟨h1, h2, xs, h3, h4⟩ := H.tok k T hk
      refine ⟨nn k h1, by rw [backV_cu inj]; exact h2, xs, ⟨by rw [Gc inj]; exact h3.1, h3.2⟩, fun g hg => ?_⟩
      rw [Gc inj] at hg
      obtain ⟨h5, h6, h7⟩ := h4 g hg
      refine ⟨inE g h5, h6, fun j B hj => ?_⟩
      rcases YE hj with hj | hj
      · obtain ⟨k', x', rfl, hk', -⟩ := eHi hj
        rw [ZJ inj]; exact h7 k' x' hk'
      · intro e
        rw [Zw (Fn j B hj)] at e
        rcases h5 with h5 | h5
        · have := Fl j B hj
          rw [e] at this
          exact absurd h5 (Nat.not_le.2 this)
        · exact Fp j B hj (by rw [e]; exact h5)
    · have hq := Tn i T hi
      obtain ⟨h1, h2, xs, h3, h4⟩ := hF.tok i T hi
      refine ⟨by show i < n; omega, by rw [backV_cu' hq]; exact h2, xs, ?_, fun g hg => ?_⟩
      · exact h3.keepW (congrFun (Kw hq) T.n) (ownsRow_same h3.1 fun g hg => keep g (Tl i T g hi hg) (Tp i T g hi hg)) A1.lx
      · rw [Kw hq] at hg
        obtain ⟨h5, h6, h7⟩ := h4 g hg
        refine ⟨h5, fun o hs => ?_, fun j B hj => ?_⟩
        · rcases S1 _ o hs with h8 | h8 | h8
          · exact h6 o h8
          · exact absurd h8 (Nat.not_le.2 (Tl i T g hi hg))
          · exact absurd h8 (Tp i T g hi hg)
        · rcases YE hj with hj | hj
          · intro e
            obtain ⟨k', x', rfl, hk', -⟩ := eHi hj
            rw [ZJ inj] at e
            rcases (H.new k' x' hk').1 with h9 | h9
            · rw [e] at h9
              exact absurd h9 (Nat.not_le.2 (Tl i T g hi hg))
            · rw [e] at h9
              exact Tp i T g hi hg h9
          · rw [Zw (Fn j B hj)]; exact h7 j B hj
  · have mix : ∀ i j T U g, Ul (Zg ρ tk1) i = some (some T) → Ul tkF j = some (some U) → ((KJ ρ V V1 n).κ i T.n).ownBlock = some g → ((KJ ρ V V1 n).κ j U.n).ownBlock = some g → False := fun i j T U g hi hj ei ej => by
      obtain ⟨k, x, rfl, hk, e⟩ := eTi hi
      subst e
      rw [Gc inj] at ei
      rw [Kw (Tn j U hj)] at ej
      obtain ⟨-, -, xs, -, h4⟩ := H.tok k T hk
      rcases (h4 g ei).1 with h5 | h5
      · exact absurd h5 (Nat.not_le.2 (Tl j U g hj ej))
      · exact Tp j U g hj ej h5
    intro i j T U g hi hj ei ej
    rcases YE hi with hi | hi <;> rcases YE hj with hj | hj
    · obtain ⟨k, x, rfl, hk, e⟩ := eTi hi
      subst e
      obtain ⟨k', x', rfl, hk', e⟩ := eTi hj
      subst e
      rw [Gc inj] at ei ej
      rw [H.tki k k' T U g hk hk' ei ej]
    · exact (mix i j T U g hi hj ei ej).elim
    · exact (mix j i U T g hj hi ej ei).elim
    · rw [Kw (Tn i T hi)] at ei
      rw [Kw (Tn j U hj)] at ej
      exact hF.tki i j T U g hi hj ei ej
end
theorem tkBelow_all {m : Nat} : ∀ {l : List (Nat × Option Tok)}, (l.all fun p => Nat.blt p.1 m) = true → tkBelow m l
  | [], _ => trivial
  | (i, x) :: l, h => by
    rw [List.all_cons, Bool.and_eq_true] at h
    exact ⟨Gb h.1, tkBelow_all h.2⟩
def Wa : List Nat → Bool
  | [] => true
  | x :: l => cond (l.any fun y => Nat.beq x y) false (Wa l)
theorem nodupN_ok : ∀ {l : List Nat}, Wa l = true → l.Nodup
  | [], _ => List.nodup_nil
  | x :: l, h => by
    unfold Wa at h
    cases h1 : (l.any fun y => Nat.beq x y) with
    | true => rw [h1] at h; cases h
    | false =>
      rw [h1] at h
      refine List.nodup_cons.2 ⟨fun hm => ?_, nodupN_ok h⟩
      have := List.any_eq_false.1 h1 x hm
      simp at this
def Wh {α : Type} (rs : List Nat) (l : List (Nat × α)) : Bool := l.all fun p => rs.all fun q => cond (Nat.beq q p.1) false true
theorem apartB_ok {α : Type} {rs : List Nat} {l : List (Nat × α)} (h : Wh rs l = true) {i : Nat} {x : α} (hi : Ul l i = some x) : i ∉ rs := fun hm => by
  have h1 := List.all_eq_true.1 (List.all_eq_true.1 h _ (lk_memF hi)) i hm
  have h2 : Nat.beq i i = true := by simp
  dsimp only at h1
  rw [h2] at h1; cases h1
theorem J4 {E : Env} {st : St} {dd : Option Tmp} {ty : TypeId} {pos : String} {af : Array Edge} {g : Option (Nat × Bool)} {x : Operand} {f : FuncId} {caps : List (Nat × Nat)} {ars : Array Operand} {args args0 : List AV} {ats : Array TypeId} {res res2 : TV} {hp0 hp1 hp1' hpF : List (Nat × HB)} {tk0 tk1 tk1' tkF : List (Nat × Option Tok)} {nx0 nx1 nx2 n : Nat}
    (rs : List Nat) (hx : ev st.tm x = some (.v (.one (.fn f caps)))) (ha : Zo st.tm ars.toList = some args)
    (hc : CallM E.P f args0 ⟨hp0, tk0, nx0⟩ res ⟨hp1, tk1, nx1⟩) (hst : st.nx = n) (he : args ++ Xw caps = args0.map (AV.ren (W3 rs n))) (e3 : YH (W3 rs n) hp1 = hp1') (e4 : Zg (W3 rs n) tk1 = tk1') (e5 : res.ren (W3 rs n) = res2)
    (hh : hpLe st.hp (YH (W3 rs n) hp0)) (ht : tkLe st.tk (Zg (W3 rs n) tk0)) (hhF : hpLe st.hp hpF) (htF : tkLe st.tk tkF) (hl : Nat.beq rs.length nx0 = true) (hnd : Wa rs = true) (hlt : (rs.all fun j => Nat.blt j n) = true) (d1 : Wh rs hpF = true) (d2 : Wh rs tkF = true)
    (b0 : hpBelow nx0 hp0) (c0 : (tk0.all fun p => Nat.blt p.1 nx0) = true) (ba : (args0.all fun y => y.belowB nx0) = true) (hle : Nat.ble nx0 nx1 = true) (hn : Nat.beq (nx1 + n) (nx2 + nx0) = true) :
    OpOK E ⟨dd, .call { callee := .value x, args := ars, argTypes := ats }, ty, pos, af, g⟩ st res2 ⟨hp1' ++ hpF, tk1' ++ tkF, nx2⟩ := by
  subst hst e3 e4 e5
  have c0' := tkBelow_all c0
  have hl' : rs.length = nx0 := Nat.eq_of_beq_eq_true hl
  have hlt' : ∀ j ∈ rs, j < st.nx := fun j hj => Gb (List.all_eq_true.1 hlt j hj)
  have inj : ∀ i j, W3 rs st.nx i = W3 rs st.nx j → i = j := fun i j h => rho_inj (nodupN_ok hnd) hlt' h
  intro V a w hr ro n K Q hK
  refine ⟨fun _ _ => trivial, ?_⟩
  rw [Oper.semAt_eq _ _ _ (by intro c h; cases h)]
  obtain ⟨hv1, hv2⟩ := hr.ev hx
  have hrun : (execOp a.eval ⟨dd, .call { callee := .value x, args := ars, argTypes := ats }, ty, pos, af, g⟩).run E.P w = .ok (.enter f (ars.map a.eval ++ (caps.map fun p => Value.pointer (some ⟨V.ι p.1, p.2, none⟩)).toArray)) w := by
    have := hc.1 (ars.map a.eval ++ (caps.map fun p => Value.pointer (some ⟨V.ι p.1, p.2, none⟩)).toArray) w
    simp [execOp, resolve, hv2, Deferred.ofValue, invoke]
    simpa using this
  rw [hrun]
  refine ⟨(by intro h; cases h), ?_⟩
  have h0 := (hr.h.forgetLe hh ht).part inj b0 c0'
  have har : argsRel (pull (W3 rs st.nx) V nx0) w args0 (ars.map a.eval ++ (caps.map fun p => Value.pointer (some ⟨V.ι p.1, p.2, none⟩)).toArray) := by
    obtain ⟨h1, h2⟩ := (Zi hr ha).append (G0 hv1)
    rw [he] at h1 h2
    refine ⟨by simpa using h1, fun i y hy => ?_⟩
    obtain ⟨u, hu, hyu⟩ := h2 i (y.ren _) (by rw [List.getElem?_map, hy]; rfl)
    exact ⟨u, hu, hyu.pull (ZO (List.all_eq_true.1 ba y (List.mem_of_getElem? hy)))⟩
  have hc' : CallsIn Fence.wide (n - 1) E.P f _ w _ := callsIn_wide.2 (hc.2 ⟨E.P, w, X5 V _ _, pull (W3 rs st.nx) V nx0⟩ _ w _ rfl h0 rfl har)
  refine CallsIn.mono (F := UM ro) hc' ?_
  rintro e w' ⟨v, V1, rfl, H, hn1, L, hres⟩
  have hn2 := Nat.eq_of_beq_eq_true hn
  have hnx := hr.nx
  dsimp only at hn1
  obtain ⟨H2, L2, L3⟩ := hr.h.turn (n := nx2) inj hh ht hhF htF (fun i hi => by rw [hnx]; exact hlt' _ (KO (by omega))) (fun i hi => by rw [Xe (by omega), hnx, hl'])
    (fun i B hi k hk e => apartB_ok d1 hi (by rw [← e]; exact KO (by omega))) (fun i T hi k hk e => apartB_ok d2 hi (by rw [← e]; exact KO (by omega))) b0 c0' (by rw [hn1, hnx]; exact hn2) (by rw [hn1]; exact Nat.le_of_ble_eq_true hle) H
  exact hK _ w' v H2 rfl L2 (hres.via L3)
theorem Uh {ρ : Nat → Nat} : YH ρ [] = [] := rfl
theorem Uj {ρ : Nat → Nat} {i j : Nat} {x y : HB} {r r' : List (Nat × HB)} (h1 : ρ i = j) (h2 : x.ren ρ = y) (h : YH ρ r = r') : YH ρ ((i, x) :: r) = (j, y) :: r' := by
  subst h1 h2 h; rfl
section
variable {ρ : Nat → Nat} {hp : List (Nat × HB)} {tk : List (Nat × Option Tok)}
theorem Us : hpLe hp (YH ρ []) := trivial
theorem Ut {i : Nat} {x : HB} {r : List (Nat × HB)} (h : Ul hp (ρ i) = some (x.ren ρ)) (l : hpLe hp (YH ρ r)) : hpLe hp (YH ρ ((i, x) :: r)) := ⟨⟨_, h, .refl _⟩, l⟩
theorem Up : tkLe tk (Zg ρ []) := trivial
theorem Uq {i : Nat} {T : Tok} {r : List (Nat × Option Tok)} (h : Ul tk (ρ i) = some (some T)) (l : tkLe tk (Zg ρ r)) : tkLe tk (Zg ρ ((i, some T) :: r)) := ⟨fun T' e => by cases e; exact h, l⟩
end
def Yt {σ β : Type} (F : (σ → Option β) → σ → Option β) : Nat → σ → Option β
  | 0, _ => none
  | n + 1, u => F (Yt F n) u
theorem YB {σ β : Type} {F : (σ → Option β) → σ → Option β} {C : σ → β → Prop} (h : ∀ rc : σ → Option β, (∀ u y, rc u = some y → C u y) → ∀ u y, F rc u = some y → C u y) : ∀ (n : Nat) (u : σ) (y : β), Yt F n u = some y → C u y
  | 0, u, y, e => by cases e
  | n + 1, u, y, e => h _ (YB h n) u y e
end Go.Proofs.Ytafddfoefeploaa
namespace Go.Proofs.Ytafddfoefeploaa
open Go.RowKit
set_option linter.unusedSimpArgs false
set_option linter.unusedVariables false
set_option linter.unusedSectionVars false
def Ud (l : List UInt8) : ByteArray := ⟨l.toArray⟩
theorem Xv (l : List UInt8) : (Ud l).size = l.length := by simp [Ud, ByteArray.size]
theorem sB_toList (l : List UInt8) : (Ud l).toList = l := by rw [Go.Lib.toList_data]; rfl
theorem sB_append (a b : List UInt8) : Ud a ++ Ud b = Ud (a ++ b) := by
  apply ByteArray.ext
  simp [Ud, ByteArray.data_append]
theorem sB_get (l : List UInt8) (k : Nat) : (Ud l)[k]? = l[k]? := by
  by_cases h : k < l.length
  · rw [List.getElem?_eq_getElem h, getElem?_pos (Ud l) k (by rw [Xv]; exact h)]
    simp [Ud, ByteArray.get, ByteArray.getElem_eq_getElem_data]
  · rw [List.getElem?_eq_none (by omega), getElem?_neg (Ud l) k (by rw [Xv]; exact h)]
def strL (s : List UInt8) : List C := [.v (.string (Ud s))]
instance : Enc (List UInt8) := ⟨1, strL, fun l => l.map strL, rfl, fun a b => List.map_append, fun _ => rfl⟩
abbrev Jl (l : List UInt8) : CA := .d (.v (.string (Ud l)))
abbrev UI (l : List UInt8) : TV := X3 (.string (Ud l))
section
variable {E : Env} {st : St} {d : Option Tmp} {ty : TypeId} {pos : String} {af : Array Edge} {g : Option (Nat × Bool)}
theorem Gr {t t' : TypeId} {x y : Operand} {a b : List UInt8} (hx : ev st.tm x = some (UI a)) (hy : ev st.tm y = some (UI b)) (hg : Nat.ble (a.length + b.length) 1000000000 = true) : RO E ⟨d, .binOp .add t x y t', ty, pos, af, g⟩ st (UI (a ++ b)) := by
  have := RO.binStr (E := E) (d := d) (ty := ty) (pos := pos) (af := af) (g := g) (t := t) (t' := t') (op := .add) hx hy (v := .string (Ud a ++ Ud b)) (by
    have h1 := Nat.le_of_ble_eq_true hg
    have h2 : decide ((((Ud a).size + (Ud b).size : Nat) : Int) > IntKind.i64.max) = false := by
      rw [Xv, Xv]
      refine decide_eq_false ?_
      have : IntKind.i64.max = 9223372036854775807 := by decide
      omega
    simp only [XN, h2, cond_false])
  rw [sB_append] at this
  exact this
theorem KL {t t' : TypeId} {x y : Operand} {a b : List UInt8} (hx : ev st.tm x = some (UI a)) (hy : ev st.tm y = some (UI b)) : RO E ⟨d, .binOp .eql t x y t', ty, pos, af, g⟩ st (UK (a == b)) := by
  have := RO.binStr (E := E) (d := d) (ty := ty) (pos := pos) (af := af) (g := g) (t := t) (t' := t') (op := .eql) hx hy (v := .bool (a == b)) (by simp only [XN, sB_toList])
  exact this
theorem RO.neS {t t' : TypeId} {x y : Operand} {a b : List UInt8} (hx : ev st.tm x = some (UI a)) (hy : ev st.tm y = some (UI b)) : RO E ⟨d, .binOp .neq t x y t', ty, pos, af, g⟩ st (UK (!(a == b))) := by
  have := RO.binStr (E := E) (d := d) (ty := ty) (pos := pos) (af := af) (g := g) (t := t) (t' := t') (op := .neq) hx hy (v := .bool (!(a == b))) (by simp only [XN, sB_toList])
  exact this
theorem X2 {t : TypeId} {x : Operand} {a : List UInt8} (ht : KQ E.P t = true) (hx : ev st.tm x = some (UI a)) : RO E ⟨d, .call { callee := .builtin .len, args := #[x], argTypes := #[t] }, ty, pos, af, g⟩ st (UJ a.length) := by
  have := RO.lenStr (E := E) (d := d) (ty := ty) (pos := pos) (af := af) (g := g) ht hx
  rw [Xv] at this
  exact this
theorem RO.ixS {t : TypeId} {x y : Operand} {a : List UInt8} {k : IntKind} {m : Int} {b : UInt8} (ht : KQ E.P t = true) (hx : ev st.tm x = some (UI a)) (hy : ev st.tm y = some (X3 (.int k m))) (hv : Yi a m = some b) : RO E ⟨d, .index t x y, ty, pos, af, g⟩ st (X3 (.int .u8 b.toNat)) := by
  obtain ⟨j, hj, hl⟩ := idxS hv
  exact RO.indexStr ht hx hy hj (by rw [sB_get]; exact hl)
end
end Go.Proofs.Ytafddfoefeploaa
namespace Go.Proofs.Ytafddfoefeploaa
open Go.RowKit
set_option linter.unusedSimpArgs false
set_option linter.unusedVariables false
set_option linter.unusedSectionVars false
noncomputable section
abbrev UN := List UInt8
inductive Tm where
  | mk (kind index : Int) (name : UN) (levels : List Lvl) (kids : List Tm)
def Tm.kind : Tm → Int | .mk k _ _ _ _ => k
def Tm.index : Tm → Int | .mk _ i _ _ _ => i
def Tm.name : Tm → UN | .mk _ _ n _ _ => n
def Tm.levels : Tm → List Lvl | .mk _ _ _ l _ => l
def Tm.kids : Tm → List Tm | .mk _ _ _ _ ks => ks
theorem Tm.kids_lt (t : Tm) : SizeOf.sizeOf t.kids < SizeOf.sizeOf t := by
  cases t
  simp only [Tm.kids, Tm.mk.sizeOf_spec]
  omega
def WY : Nat → List Tm → List (List C)
  | 0, _ => []
  | n + 1, l => l.map fun t => [.v (.int .i64 t.kind), .v (.int .i64 t.index), .v (.string (Ud t.name)), .sl 2 (Enc.encL t.levels), .sl 5 (WY n t.kids)]
theorem tmF_eq : ∀ (n m : Nat) (l : List Tm), SizeOf.sizeOf l ≤ n → SizeOf.sizeOf l ≤ m → WY n l = WY m l
  | 0, _, l, h, _ => by cases l <;> simp at h
  | _, 0, l, _, h => by cases l <;> simp at h
  | n + 1, m + 1, l, h1, h2 => by
    unfold WY
    refine List.map_congr_left fun t ht => ?_
    have h3 := List.sizeOf_lt_of_mem ht
    have h4 := t.kids_lt
    rw [tmF_eq n m t.kids (by omega) (by omega)]
def tmL (l : List Tm) : List (List C) := WY (SizeOf.sizeOf l) l
def tmC (t : Tm) : List C := [.v (.int .i64 t.kind), .v (.int .i64 t.index), .v (.string (Ud t.name)), .sl 2 (Enc.encL t.levels), .sl 5 (tmL t.kids)]
theorem Xu (l : List Tm) : tmL l = l.map tmC := by
  unfold tmL
  have hpos : 0 < SizeOf.sizeOf l := by cases l <;> simp <;> omega
  obtain ⟨k, hk⟩ : ∃ k, SizeOf.sizeOf l = k + 1 := ⟨SizeOf.sizeOf l - 1, by omega⟩
  rw [hk]
  unfold WY tmC
  refine List.map_congr_left fun t ht => ?_
  have h3 := List.sizeOf_lt_of_mem ht
  have h4 := t.kids_lt
  rw [tmF_eq k (SizeOf.sizeOf t.kids) t.kids (by omega) (Nat.le_refl _)]
  rfl
instance : Enc Tm := ⟨5, tmC, tmL, Xu [], fun a b => by rw [Xu, Xu, Xu, List.map_append], fun x => Xu [x]⟩
structure BrF (α : Type) where
  ctor : UN
  absurd : Bool
  tree : α
inductive Tr where
  | mk (kind : Int) (body : Tm) (var : Int) (branches : List (BrF Tr))
abbrev UO := BrF Tr
def Tr.kind : Tr → Int | .mk k _ _ _ => k
def Tr.body : Tr → Tm | .mk _ b _ _ => b
def Tr.var : Tr → Int | .mk _ _ v _ => v
def Tr.branches : Tr → List UO | .mk _ _ _ l => l
theorem Tr.branches_lt (t : Tr) : SizeOf.sizeOf t.branches < SizeOf.sizeOf t := by
  cases t
  simp only [Tr.branches, Tr.mk.sizeOf_spec]
  omega
theorem BrF.tree_lt (b : UO) : SizeOf.sizeOf b.tree < SizeOf.sizeOf b := by
  cases b
  simp only [BrF.mk.sizeOf_spec]
  omega
def U3 : Nat → List UO → List (List C)
  | 0, _ => []
  | n + 1, l => l.map fun b => [.v (.string (Ud b.ctor)), .v (.bool b.absurd), .v (.int .i64 b.tree.kind), .v (.int .i64 b.tree.body.kind), .v (.int .i64 b.tree.body.index), .v (.string (Ud b.tree.body.name)), .sl 2 (Enc.encL b.tree.body.levels), .sl 5 (Enc.encL b.tree.body.kids), .v (.int .i64 b.tree.var), .sl 10 (U3 n b.tree.branches)]
theorem brF_eq : ∀ (n m : Nat) (l : List UO), SizeOf.sizeOf l ≤ n → SizeOf.sizeOf l ≤ m → U3 n l = U3 m l
  | 0, _, l, h, _ => by cases l <;> simp at h
  | _, 0, l, _, h => by cases l <;> simp at h
  | n + 1, m + 1, l, h1, h2 => by
    unfold U3
    refine List.map_congr_left fun t ht => ?_
    have h3 := List.sizeOf_lt_of_mem ht
    have h4 := t.tree_lt
    have h5 := t.tree.branches_lt
    rw [brF_eq n m t.tree.branches (by omega) (by omega)]
def brL (l : List UO) : List (List C) := U3 (SizeOf.sizeOf l) l
def brC (b : UO) : List C := [.v (.string (Ud b.ctor)), .v (.bool b.absurd), .v (.int .i64 b.tree.kind), .v (.int .i64 b.tree.body.kind), .v (.int .i64 b.tree.body.index), .v (.string (Ud b.tree.body.name)), .sl 2 (Enc.encL b.tree.body.levels), .sl 5 (Enc.encL b.tree.body.kids), .v (.int .i64 b.tree.var), .sl 10 (brL b.tree.branches)]
theorem XK (l : List UO) : brL l = l.map brC := by
  unfold brL
  have hpos : 0 < SizeOf.sizeOf l := by cases l <;> simp <;> omega
  obtain ⟨k, hk⟩ : ∃ k, SizeOf.sizeOf l = k + 1 := ⟨SizeOf.sizeOf l - 1, by omega⟩
  rw [hk]
  unfold U3 brC
  refine List.map_congr_left fun t ht => ?_
  have h3 := List.sizeOf_lt_of_mem ht
  have h4 := t.tree_lt
  have h5 := t.tree.branches_lt
  rw [brF_eq k (SizeOf.sizeOf t.tree.branches) t.tree.branches (by omega) (Nat.le_refl _)]
  rfl
instance : Enc UO := ⟨10, brC, brL, XK [], fun a b => by rw [XK, XK, XK, List.map_append], fun x => XK [x]⟩
def trC (t : Tr) : List C := [.v (.int .i64 t.kind), .v (.int .i64 t.body.kind), .v (.int .i64 t.body.index), .v (.string (Ud t.body.name)), .sl 2 (Enc.encL t.body.levels), .sl 5 (Enc.encL t.body.kids), .v (.int .i64 t.var), .sl 10 (Enc.encL t.branches)]
instance : Enc Tr := ⟨8, trC, fun l => l.map trC, rfl, fun a b => List.map_append, fun _ => rfl⟩
structure Ctr where
  name : UN
  ty : Tm
def ctrC (c : Ctr) : List C := [.v (.string (Ud c.name)), .v (.int .i64 c.ty.kind), .v (.int .i64 c.ty.index), .v (.string (Ud c.ty.name)), .sl 2 (Enc.encL c.ty.levels), .sl 5 (Enc.encL c.ty.kids)]
instance : Enc Ctr := ⟨6, ctrC, fun l => l.map ctrC, rfl, fun a b => List.map_append, fun _ => rfl⟩
structure Rcr where
  params : Int
  ty : Tm
  rules : List Tm
def rcrC (r : Rcr) : List C := [.v (.int .i64 r.params), .v (.int .i64 r.ty.kind), .v (.int .i64 r.ty.index), .v (.string (Ud r.ty.name)), .sl 2 (Enc.encL r.ty.levels), .sl 5 (Enc.encL r.ty.kids), .sl 5 (Enc.encL r.rules)]
instance : Enc Rcr := ⟨7, rcrC, fun l => l.map rcrC, rfl, fun a b => List.map_append, fun _ => rfl⟩
structure Fn where
  name : UN
  ty : Tm
  arity : Int
  tree : Tr
def fnC (f : Fn) : List C := [.v (.string (Ud f.name)), .v (.int .i64 f.ty.kind), .v (.int .i64 f.ty.index), .v (.string (Ud f.ty.name)), .sl 2 (Enc.encL f.ty.levels), .sl 5 (Enc.encL f.ty.kids), .v (.int .i64 f.arity),
  .v (.int .i64 f.tree.kind), .v (.int .i64 f.tree.body.kind), .v (.int .i64 f.tree.body.index), .v (.string (Ud f.tree.body.name)), .sl 2 (Enc.encL f.tree.body.levels), .sl 5 (Enc.encL f.tree.body.kids), .v (.int .i64 f.tree.var), .sl 10 (Enc.encL f.tree.branches)]
instance : Enc Fn := ⟨15, fnC, fun l => l.map fnC, rfl, fun a b => List.map_append, fun _ => rfl⟩
structure Dcl where
  kind : Int
  name : UN
  params : Int
  ty : Tm
  value : Tm
  fixed : Int
  ctors : List Ctr
  rcr : Rcr
  funs : List Fn
def dclC (d : Dcl) : List C := [.v (.int .i64 d.kind), .v (.string (Ud d.name)), .v (.int .i64 d.params),
  .v (.int .i64 d.ty.kind), .v (.int .i64 d.ty.index), .v (.string (Ud d.ty.name)), .sl 2 (Enc.encL d.ty.levels), .sl 5 (Enc.encL d.ty.kids),
  .v (.int .i64 d.value.kind), .v (.int .i64 d.value.index), .v (.string (Ud d.value.name)), .sl 2 (Enc.encL d.value.levels), .sl 5 (Enc.encL d.value.kids),
  .v (.int .i64 d.fixed), .sl 6 (Enc.encL d.ctors),
  .v (.int .i64 d.rcr.params), .v (.int .i64 d.rcr.ty.kind), .v (.int .i64 d.rcr.ty.index), .v (.string (Ud d.rcr.ty.name)), .sl 2 (Enc.encL d.rcr.ty.levels), .sl 5 (Enc.encL d.rcr.ty.kids), .sl 5 (Enc.encL d.rcr.rules), .sl 15 (Enc.encL d.funs)]
instance : Enc Dcl := ⟨23, dclC, fun l => l.map dclC, rfl, fun a b => List.map_append, fun _ => rfl⟩
structure Ent where
  kind : Int
  decl : Int
  item : Int
  params : Int
  ty : Tm
def entC (e : Ent) : List C := [.v (.int .i64 e.kind), .v (.int .i64 e.decl), .v (.int .i64 e.item), .v (.int .i64 e.params), .v (.int .i64 e.ty.kind), .v (.int .i64 e.ty.index), .v (.string (Ud e.ty.name)), .sl 2 (Enc.encL e.ty.levels), .sl 5 (Enc.encL e.ty.kids)]
instance : Enc Ent := ⟨9, entC, fun l => l.map entC, rfl, fun a b => List.map_append, fun _ => rfl⟩
def WF : Tm := .mk 0 0 [] [] []
def ent0 : Ent := ⟨0, 0, 0, 0, WF⟩
end
end Go.Proofs.Ytafddfoefeploaa
namespace Go.Proofs.Ytafddfoefeploaa
open Go.RowKit
set_option linter.unusedSimpArgs false
set_option linter.unusedVariables false
set_option linter.unusedSectionVars false
class MK (κ : Type) extends BEq κ where
  ib : Bool
  val : κ → Value
  key : ∀ a, G9 ib (val a) = true
  eq : ∀ a b, X7 (val a) (val b) = some (a == b)
class MV (β : Type) where
  av : β → AV
  z : β
  ren : ∀ ρ x, (av x).ren ρ = av x
  below : ∀ m x, (av x).below m
instance : MK Int := { ib := true, val := fun n => .int .i64 n, key := fun _ => rfl, eq := fun _ _ => rfl }
theorem sB_eq (a b : List UInt8) : X7 (.string (Ud a)) (.string (Ud b)) = some (a == b) := by
  show some (Ud a == Ud b) = some (a == b)
  congr 1
  show (a.toArray == b.toArray) = (a == b)
  rw [Bool.eq_iff_iff, beq_iff_eq, beq_iff_eq]
  exact ⟨fun h => by have := congrArg Array.toList h; simpa using this, fun h => by rw [h]⟩
instance : MK (List UInt8) := { ib := false, val := fun s => .string (Ud s), key := fun _ => rfl, eq := sB_eq }
instance : MV Bool := ⟨fun b => .one (Uy b), false, fun _ _ => rfl, fun _ _ => trivial⟩
instance : MV Int := ⟨fun n => .one (Ux n), 0, fun _ _ => rfl, fun _ _ => trivial⟩
noncomputable instance : MV Ent := ⟨fun e => .agg (UA e), ent0, fun _ _ => rfl, fun m x y hy => by
  obtain ⟨c, -, rfl⟩ := List.mem_map.1 hy
  trivial⟩
abbrev Qa (κ β : Type) := List (κ × β × Nat) × Nat
section
variable {κ β : Type} [MK κ] [MV β]
def QO (l : List (κ × β × Nat)) : List (Value × AV × Nat) := l.map fun e => (MK.val e.1, MV.av e.2.1, e.2.2)
def Yp (k : κ) : List (κ × β × Nat) → Nat → Option (Nat × β)
  | [], _ => none
  | e :: l, i => cond (k == e.1) (some (i, e.2.1)) (Yp k l (i + 1))
def W5 (M : Qa κ β) (k : κ) : Option β := (Yp k M.1 0).map (·.2)
def Qp (M : Qa κ β) (k : κ) : β := (W5 M k).getD MV.z
def KR (M : Qa κ β) (k : κ) : Bool := (W5 M k).isSome
def J5 (M : Qa κ β) (k : κ) (v : β) : Qa κ β := match Yp k M.1 0 with
  | some (j, _) => (M.1.modify j fun e => (k, v, e.2.2), M.2)
  | none => (M.1 ++ [(k, v, M.2)], M.2 + 1)
def gmNil : Qa κ β := ([], 0)
theorem mpBelow_gm {m : Nat} {l : List (κ × β × Nat)} : mpBelow m (QO l) := fun e he => by
  obtain ⟨x, -, rfl⟩ := List.mem_map.1 he
  exact MV.below m x.2.1
theorem findE_gm (k : κ) : ∀ (l : List (κ × β × Nat)) (i : Nat), We (MK.val k) (QO l) i = some ((Yp k l i).map fun p => (p.1, MV.av p.2))
  | [], i => rfl
  | e :: l, i => by
    have ih := findE_gm k l (i + 1)
    simp only [QO] at ih
    simp only [QO, List.map_cons, We, MK.eq, Yp]
    cases h : k == e.1 with
    | true => rfl
    | false => simp only [cond_false]; exact ih
theorem gmE_modify (l : List (κ × β × Nat)) (j : Nat) (k : κ) (v : β) : QO (l.modify j fun e => (k, v, e.2.2)) = (QO l).modify j fun e => (MK.val k, MV.av v, e.2.2) := by
  unfold QO
  apply List.ext_getElem?
  intro i
  rw [List.getElem?_map, List.getElem?_modify, List.getElem?_modify, List.getElem?_map]
  cases l[i]? with
  | none => by_cases h : j = i <;> simp [h]
  | some e => by_cases h : j = i <;> simp [h]
theorem gmE_ren (ρ : Nat → Nat) (l : List (κ × β × Nat)) : (QO l).map (fun e => (e.1, e.2.1.ren ρ, e.2.2)) = QO l := by
  unfold QO
  rw [List.map_map]
  refine List.map_congr_left fun e _ => ?_
  show (MK.val e.1, (MV.av e.2.1).ren ρ, e.2.2) = _
  rw [MV.ren]
section
variable {E : Env} {st : St} {dd : Option Tmp} {ty : TypeId} {pos : String} {af : Array Edge} {g : Option (Nat × Bool)}
theorem RO.subV {o : Oper} {x y : AV} (h : RO E o st (.v x)) (hs : ∀ V w v, x.rel V w v → y.rel V w v) : RO E o st (.v y) := ⟨h.1, fun V a w hr => let ⟨v, h1, h2⟩ := h.2 V a w hr; ⟨v, h1, hs V w v h2⟩⟩
theorem RO.subT {o : Oper} {x y z : AV} (h : RO E o st (.tup [x, z])) (hs : ∀ V w v, x.rel V w v → y.rel V w v) : RO E o st (.tup [y, z]) := ⟨h.1, fun V a w hr => by
  obtain ⟨v, h1, vs, h2, h3, h4⟩ := h.2 V a w hr
  refine ⟨v, h1, vs, h2, h3, fun i u hu => ?_⟩
  match i, hu with
  | 0, hu =>
    cases hu
    obtain ⟨q, h5, h6⟩ := h4 0 _ rfl
    exact ⟨q, h5, hs V w q h6⟩
  | 1, hu =>
    cases hu
    exact h4 1 _ rfl⟩
def U8 (β : Type) [MV β] (z : AV) : Prop := ∀ V w v, z.rel V w v → (MV.av (MV.z : β)).rel V w v
theorem Zz {t : TypeId} {z : AV} {o1 o2 : Operand} {i : Nat} {M : Qa κ β} {k : κ} (ht : X4 E.P t = some (MK.ib κ, z)) (hz : U8 β z) (h1 : ev st.tm o1 = some (.v (.one (.mp i)))) (h2 : ev st.tm o2 = some (X3 (MK.val k))) (hi : Ul st.hp i = some (.mp (QO M.1) M.2)) :
    RO E ⟨dd, .lookup t o1 o2 true, ty, pos, af, g⟩ st (.tup [MV.av (Qp M k), .one (.d (.v (.bool (KR M k))))]) := by
  have hf := findE_gm k M.1 0
  unfold Qp KR W5
  cases h : Yp k M.1 0 with
  | none => rw [h] at hf; exact RO.subT (RO.lookup (E := E) (dd := dd) (ty := ty) (pos := pos) (af := af) (g := g) ht h1 h2 (MK.key k) hi hf true) hz
  | some p => rw [h] at hf; exact RO.lookup (E := E) (dd := dd) (ty := ty) (pos := pos) (af := af) (g := g) ht h1 h2 (MK.key k) hi hf true
theorem YP {t : TypeId} {z : AV} {o1 o2 : Operand} {i : Nat} {M : Qa κ β} {k : κ} (ht : X4 E.P t = some (MK.ib κ, z)) (hz : U8 β z) (h1 : ev st.tm o1 = some (.v (.one (.mp i)))) (h2 : ev st.tm o2 = some (X3 (MK.val k))) (hi : Ul st.hp i = some (.mp (QO M.1) M.2)) :
    RO E ⟨dd, .lookup t o1 o2 false, ty, pos, af, g⟩ st (.v (MV.av (Qp M k))) := by
  have hf := findE_gm k M.1 0
  unfold Qp W5
  cases h : Yp k M.1 0 with
  | none => rw [h] at hf; exact RO.subV (RO.lookup (E := E) (dd := dd) (ty := ty) (pos := pos) (af := af) (g := g) ht h1 h2 (MK.key k) hi hf false) hz
  | some p => rw [h] at hf; exact RO.lookup (E := E) (dd := dd) (ty := ty) (pos := pos) (af := af) (g := g) ht h1 h2 (MK.key k) hi hf false
theorem Je {t : TypeId} {z : AV} {o1 o2 o3 : Operand} {i : Nat} {M : Qa κ β} {k : κ} {v : β} (ht : X4 E.P t = some (MK.ib κ, z)) (h1 : ev st.tm o1 = some (.v (.one (.mp i)))) (h2 : ev st.tm o2 = some (X3 (MK.val k))) (h3 : ev st.tm o3 = some (.v (MV.av v))) (hi : Ul st.hp i = some (.mp (QO M.1) M.2)) (hdd : dd = none) :
    OpOK E ⟨dd, .mapUpdate t o1 o2 o3, ty, pos, af, g⟩ st (.tup []) ⟨(i, .mp (QO (J5 M k v).1) (J5 M k v).2) :: JR i st.hp, st.tk, st.nx⟩ := by
  have hf := findE_gm k M.1 0
  unfold J5
  cases h : Yp k M.1 0 with
  | none =>
    rw [h] at hf
    have e : QO (M.1 ++ [(k, v, M.2)]) = QO M.1 ++ [(MK.val k, MV.av v, M.2)] := by simp [QO]
    dsimp only
    rw [e]; exact OpOK.mapUpdate (E := E) (dd := dd) (ty := ty) (pos := pos) (af := af) (g := g) ht h1 h2 h3 (MK.key k) hi hf hdd
  | some p =>
    rw [h] at hf
    dsimp only
    rw [gmE_modify]; exact OpOK.mapUpdate (E := E) (dd := dd) (ty := ty) (pos := pos) (af := af) (g := g) ht h1 h2 h3 (MK.key k) hi hf hdd
theorem YX (κ β : Type) [MK κ] [MV β] {t : TypeId} : OpOK E ⟨dd, .makeMap t none, ty, pos, af, g⟩ st (.v (.one (.mp st.nx))) ⟨(st.nx, .mp (QO (gmNil : Qa κ β).1) (gmNil : Qa κ β).2) :: st.hp, st.tk, st.nx + 1⟩ := OpOK.makeMap
end
theorem UE {m i c : Nat} {xs : List (κ × β × Nat)} {r : List (Nat × HB)} (h : Nat.blt i m = true) (l : hpBelow m r) : hpBelow m ((i, .mp (QO xs) c) :: r) := ⟨Gb h, mpBelow_gm, l⟩
theorem Ui {ρ : Nat → Nat} {i j c : Nat} {xs : List (κ × β × Nat)} {r r' : List (Nat × HB)} (h1 : ρ i = j) (h : YH ρ r = r') : YH ρ ((i, .mp (QO xs) c) :: r) = (j, .mp (QO xs) c) :: r' :=
  Uj h1 (by show HB.mp ((QO xs).map _) c = _; rw [gmE_ren]) h
theorem Uu {ρ : Nat → Nat} {hp : List (Nat × HB)} {i c : Nat} {xs : List (κ × β × Nat)} {r : List (Nat × HB)} (h : Ul hp (ρ i) = some (.mp (QO xs) c)) (l : hpLe hp (YH ρ r)) : hpLe hp (YH ρ ((i, .mp (QO xs) c) :: r)) :=
  Ut (by show _ = some (HB.mp ((QO xs).map _) c); rw [gmE_ren]; exact h) l
end
theorem Gw : U8 Bool (.one (.d (.v (.bool false)))) := fun _ _ _ h => h
theorem asub_zok {β : Type} [MV β] {z : AV} (h : ASub z (MV.av (MV.z : β))) : U8 β z := fun V w v hv => (h.rel hv).mono (of_le (V := V))
inductive Parts (st : St) : List (Nat × Operand) → List (Nat × AV) → Prop
  | nil : Parts st [] []
  | cons {i : Nat} {o : Operand} {x : AV} {ps : List (Nat × Operand)} {xs : List (Nat × AV)} (h : ev st.tm o = some (.v x)) (t : Parts st ps xs) : Parts st ((i, o) :: ps) ((i, x) :: xs)
theorem Parts.spec {st : St} {ps : List (Nat × Operand)} {xs : List (Nat × AV)} (h : Parts st ps xs) : ps.length = xs.length ∧ ∀ (j i : Nat) (x : AV), xs[j]? = some (i, x) → ∃ o, ps[j]? = some (i, o) ∧ ev st.tm o = some (.v x) := by
  induction h with
  | nil => exact ⟨rfl, fun j i x hx => by simp at hx⟩
  | cons h t ih =>
    refine ⟨by simp [ih.1], fun j i x hx => ?_⟩
    cases j with
    | zero => simp at hx; obtain ⟨rfl, rfl⟩ := hx; exact ⟨_, rfl, h⟩
    | succ j => exact ih.2 j i x (by simpa using hx)
section
variable {E : Env} {st : St} {dd : Option Tmp} {ty : TypeId} {pos : String} {af : Array Edge} {g : Option (Nat × Bool)}
theorem Y1 {t : TypeId} {pl : List (Nat × Nat)} {zs : List Value} {parts : Array (Nat × Operand)} {avs : List (Nat × AV)} {ys : List CA} (ht : Yj E.P t pl zs) (hz : zs.all (·.oneCell') = true) (hp : Parts st parts.toList avs) (hf : Zh pl (zs.map fun z => .d (.v z)) avs = some ys) :
    RO E ⟨dd, .build t parts, ty, pos, af, g⟩ st (.v (.agg ys)) := GV ht hz hp.spec.1 hp.spec.2 hf
end
end Go.Proofs.Ytafddfoefeploaa
namespace Go.Proofs.Ytafddfoefeploaa
open Go.RowKit
set_option linter.unusedSimpArgs false
set_option linter.unusedVariables false
set_option linter.unusedSectionVars false
instance : EncLen Tm := ⟨fun t => by cases t; rfl, Nat.succ_pos 4⟩
instance : EncLen UO := ⟨fun t => by cases t; rfl, Nat.succ_pos 9⟩
instance : EncLen Tr := ⟨fun t => rfl, Nat.succ_pos 7⟩
instance : EncLen Ctr := ⟨fun t => rfl, Nat.succ_pos 5⟩
instance : EncLen Rcr := ⟨fun t => rfl, Nat.succ_pos 6⟩
instance : EncLen Fn := ⟨fun t => rfl, Nat.succ_pos 14⟩
instance : EncLen Dcl := ⟨fun t => rfl, Nat.succ_pos 22⟩
instance : EncLen Ent := ⟨fun t => rfl, Nat.succ_pos 8⟩
instance : EncLen (List UInt8) := ⟨fun _ => rfl, Nat.succ_pos 0⟩
instance : EncLen Bool := ⟨fun _ => rfl, Nat.succ_pos 0⟩
instance {α : Type} [Enc α] : EncLen (List α) := ⟨fun _ => rfl, Nat.succ_pos 0⟩
section
variable {E : Env} {st : St} {dd : Option Tmp} {ty : TypeId} {pos : String} {af : Array Edge} {g : Option (Nat × Bool)} {α : Type} [Enc α] [EncLen α]
theorem QK {t i : Nat} {T : TypeId} {x : Operand} (v : α) (ht : Jy E.P t = some (true, Enc.sz α)) (hx : ev st.tm x = some (.v (.one (.ptr i 0)))) (hi : Ul st.hp i = some (.cells T (UA v))) : RO E ⟨dd, .load t x, ty, pos, af, g⟩ st (.v (.agg (UA v))) := by
  have hl : (UA v).length = Enc.sz α := by rw [List.length_map, EncLen.len]
  exact Qi ht hx hi (by rw [List.drop_zero, List.take_of_length_le (Nat.le_of_eq hl)]) hl
theorem Qv {t : Nat} {x : Operand} (v : α) (ht : Jy E.P t = some (true, Enc.sz α)) (hx : ev st.tm x = some (.v (.one (.pel (Enc.enc v) 0)))) : RO E ⟨dd, .load t x, ty, pos, af, g⟩ st (.v (.agg (UA v))) :=
  Y6 ht hx (by rw [List.drop_zero, List.take_of_length_le (Nat.le_of_eq (EncLen.len v))]) (EncLen.len v)
theorem QC {t i : Nat} {ag : Bool} {T : TypeId} {xs : List CA} {o1 o2 : Operand} (v : α) (ht : Jy E.P t = some (ag, Enc.sz α)) (h1 : ev st.tm o1 = some (.v (.one (.ptr i 0)))) (h2 : ev st.tm o2 = some (.v (.agg (UA v)))) (hi : Ul st.hp i = some (.cells T xs)) (hl : xs.length = Enc.sz α) (hdd : dd = none) :
    OpOK E ⟨dd, .store t o1 o2, ty, pos, af, g⟩ st (.tup []) ⟨(i, .cells T (UA v)) :: JR i st.hp, st.tk, st.nx⟩ := by
  have hc : (AV.agg (UA v)).cells.length = Enc.sz α := by show (UA v).length = _; rw [List.length_map, EncLen.len]
  have := Qr (dd := dd) (ty := ty) (pos := pos) (af := af) (g := g) ht h1 h2 hi hc (by omega) hdd
  have e1 : setL xs 0 (AV.agg (UA v)).cells = UA v := by
    have := Ky (AV.agg (UA v)).cells xs [] (by rw [hc, hl])
    rw [List.append_nil, List.append_nil] at this
    exact this
  rw [e1] at this
  exact this
theorem csubs_all : ∀ cs : List C, CSubs (cs.map CA.d) cs
  | [] => .nil
  | c :: cs => .cons (.d _) (csubs_all cs)
theorem fill1 {zs : List Value} (v : α) (hzl : zs.length = Enc.sz α) : Zh (JQ (Enc.sz α) 1) (JV zs 1) [(0, .agg (UA v))] = some (UA v) := by
  have h0 : (JV zs 1).length = Enc.sz α := by simp [JV, hzl]
  have h1 : (UA v).length = Enc.sz α := by rw [List.length_map, EncLen.len]
  have h2 : (JQ (Enc.sz α) 1)[0]? = some (0, Enc.sz α) := by simp [JQ]
  have h3 : setL (JV zs 1) 0 (UA v) = UA v := by
    have := Ky (UA v) (JV zs 1) [] (by rw [h0, h1])
    rwa [List.append_nil, List.append_nil] at this
  simp only [Zh, h2]
  show cond (Nat.beq (UA v).length (Enc.sz α) && Nat.ble (0 + Enc.sz α) (JV zs 1).length) (some (setL (JV zs 1) 0 (UA v))) none = some (UA v)
  rw [h1, h0, h3, Nat.zero_add, Nat.beq_refl, Nat.ble_eq_true_of_le (Nat.le_refl _)]
  rfl
theorem OpOK.lit1CE (v : α) {t e : Nat} {zs : List Value} {o1 : Operand} (ht : Jo E.P t = some (e, Enc.sz α)) (hze : JE E.P e = some zs) (hzl : zs.length = Enc.sz α) (hz : zs.all (·.oneCell') = true) (hlen : 1 * Enc.sz α ≤ 16777216)
    (h1 : ev st.tm o1 = some (.v (.agg (UA v)))) :
    OpOK E ⟨dd, .buildSlice t 1 #[(0, o1)], ty, pos, af, g⟩ st (.v (.one (.app st.nx (Enc.sz α) (Enc.encL [v])))) ⟨st.hp, (st.nx, some ⟨e, Enc.sz α, (Enc.encL [v]).length, []⟩) :: st.tk, st.nx + 1⟩ :=
  Jt v ht hze hzl hz EncLen.pos hlen h1 (fill1 v hzl) (csubs_all _) (EncLen.len v)
end
end Go.Proofs.Ytafddfoefeploaa
namespace Go.Proofs.Ytafddfoefeploaa
open Go.RowKit
set_option linter.unusedSimpArgs false
set_option linter.unusedVariables false
set_option linter.unusedSectionVars false
def mayS (ops : Array Oper) (effs d : List Nat) (i : Nat) : Bool :=
  d.all (fun e => !((Wx ops [e]).contains i)) && effs.all (fun e => d.contains e || (e == i || !((Wx ops [i]).contains e))) && !(d.contains i)
def Wt (d' d : List Nat) (i : Nat) : Bool := d'.all (fun e => e == i || d.contains e) && d.all (fun e => d'.contains e) && d'.contains i
def WZ (ops : Array Oper) (effs : List Nat) : Bool :=
  (List.range ops.size).all (fun i => (JW ops i).all fun k => decide (k < i)) && decide (Xr ops).Nodup && effs.all (fun e => decide (e < ops.size))
structure SwInv (E : Env) (ops : Array Oper) (st : St) (fx : List (Nat × TV)) (effs : List Nat) (dns : List (List Nat)) (ms : List Mem) (listed : Array Bool) (a : Act) (w : World) (V : Vu) (j : Nat) (d : List Nat) (m : Mem) : Prop where
  size : listed.size = ops.size
  closed : ∀ i, listed.getD i false = true → ∀ k ∈ JW ops i, listed.getD k false = true
  stage : dns[j]? = some d
  done : ∀ e ∈ d, listed.getD e false = true
  todo : ∀ e ∈ effs, e ∉ d → listed.getD e false = false
  mem : ms[j]? = some m
  rel : Rel E V ⟨Xs (Xr ops) st.tm, m.hp, m.tk, m.nx, st.nt, st.df⟩ a w
  fact : ∀ i, listed.getD i false = true → ∀ d x, YO ops i = some d → Ul fx i = some x → x.rel V w (a.tmps.getD d undef)
  old : ∀ t x, Ul st.tm t = some x → (∀ k, YO ops k = some t → listed.getD k false = false) → x.rel V w (a.tmps.getD t undef)
section
variable {E : Env} {ops : Array Oper} {st : St} {fx : List (Nat × TV)} {effs : List Nat} {dns : List (List Nat)} {ms : List Mem} {listed : Array Bool} {a : Act} {w : World} {V : Vu} {j : Nat} {d : List Nat} {m : Mem}
theorem SwInv.depsRel (h : SwInv E ops st fx effs dns ms listed a w V j d m) {i : Nat} (hno : listed.getD i false = false) (hd : ∀ k ∈ JW ops i, listed.getD k false = true) : Rel E V (Ya ops st fx i m) a w := by
  refine ⟨h.rel.h, h.rel.nx, h.rel.nt, h.rel.df, fun t x hx => ?_⟩
  simp only [Ya, K1] at hx
  split at hx
  · rename_i y hy; cases hx
    obtain ⟨k, h1, h2, h3⟩ := G8 _ t x hy
    exact h.fact k (hd k h1) t x h2 h3
  · obtain ⟨h1, h2⟩ := lk_keep _ _ _ hx
    refine h.old t x h1 (fun k hk => ?_)
    cases hc : listed.getD k false with
    | false => rfl
    | true =>
      have hk' : k < ops.size := by
        rcases Nat.lt_or_ge k ops.size with h3 | h3
        · exact h3
        · simp [YO, Array.getElem?_eq_none h3] at hk
      have := h.closed k hc i (hides_no h2 hk hk')
      rw [hno] at this; cases this
theorem SwInv.may (h : SwInv E ops st fx effs dns ms listed a w V j d m) {i : Nat} (hlt : i < ops.size) (hno : listed.getD i false = false) (hd : ∀ k ∈ JW ops i, listed.getD k false = true) : mayS ops effs d i = true := by
  have key : ∀ e, e ≠ i → e ∈ Wx ops [i] → listed.getD e false = true := fun e he hm => by
    have := ancs_all (p := fun x => x = i ∨ listed.getD x false = true) (fun x hx k hk => by
      rcases hx with rfl | hx
      · exact .inr (hd k hk)
      · exact .inr (h.closed x hx k hk)) (l := [i]) (fun x hx => .inl (by simpa using hx)) e hm
    exact this.resolve_left he
  simp only [mayS, Bool.and_eq_true, Bool.or_eq_true, Bool.not_eq_true', List.contains_eq_mem, decide_eq_true_eq, decide_eq_false_iff_not, List.all_eq_true, beq_iff_eq]
  refine ⟨⟨fun e he hc => ?_, fun e he => ?_⟩, fun hc => ?_⟩
  · have := ancs_all h.closed (l := [e]) (fun i' hi' => by simp at hi'; subst hi'; exact h.done _ he) i hc
    rw [hno] at this; cases this
  · by_cases hed : e ∈ d
    · exact .inl hed
    · refine .inr ?_
      by_cases hei : e = i
      · exact .inl hei
      · refine .inr fun hc => ?_
        have h1 := key e hei hc
        have h2 := h.todo e he hed
        rw [h2] at h1; cases h1
  · have := h.done i hc
    rw [hno] at this; cases this
def SwOp (E : Env) (ops : Array Oper) (st : St) (fx : List (Nat × TV)) (effs : List Nat) (dns : List (List Nat)) (ms : List Mem) (i : Nat) (d : List Nat) (m : Mem) : Prop :=
  ∃ o x, ops[i]? = some o ∧ Ul fx i = some x ∧ X8 st o.dst = true ∧
    ((Yb ops (Ya ops st fx i m).tm o = some true ∧ ∃ m', OpOK E o (Ya ops st fx i m) x m' ∧ ((effs.contains i = true ∧ ∃ (j' : Nat) (d' : List Nat), dns[j']? = some d' ∧ Wt d' d i = true ∧ ms[j']? = some m') ∨ (effs.contains i = false ∧ m' = m))) ∨
     (Yb ops (Ya ops st fx i m).tm o = some false ∧ x = .tup [] ∧ effs.contains i = false))
theorem SwInv.step (h : SwInv E ops st fx effs dns ms listed a w V j d m) (hB : WZ ops effs = true) {i : Nat} (hlt : i < ops.size) (hno : listed.getD i false = false) {V' : Vu} {w' : World} {v : Value} {o : Oper} {x : TV} (ho : ops[i]? = some o) (hx : Ul fx i = some x) (hd : X8 st o.dst = true) {m' : Mem} {j' : Nat} {d' : List Nat}
    (hj : (effs.contains i = true ∧ Wt d' d i = true) ∨ (effs.contains i = false ∧ d' = d)) (hs : dns[j']? = some d') (hm : ms[j']? = some m') (H : HRel E V' m'.hp m'.tk w') (hn : V'.nx = m'.nx) (L : V.Le V' w w') (hxv : x.rel V' w' v) (hdeps : ∀ k ∈ JW ops i, listed.getD k false = true) :
    SwInv E ops st fx effs dns ms (listed.setIfInBounds i true) (a.put o.dst v) w' V' j' d' m' := by
  have hsz : i < listed.size := by rw [h.size]; exact hlt
  have hget : ∀ k, (listed.setIfInBounds i true).getD k false = if k = i then true else listed.getD k false := fun k => by
    by_cases hk : k = i
    · subst hk; simp [hsz]
    · rw [if_neg hk, getD_set_ne false (fun e => hk e.symm)]
  have hB' := hB
  simp only [WZ, Bool.and_eq_true, decide_eq_true_eq] at hB'
  obtain ⟨⟨-, hnd⟩, -⟩ := hB'
  refine ⟨by simp [h.size], fun k hk e he => ?_, hs, fun e he => ?_, fun e he hed => ?_, hm, ?_, fun k hk d y hd' hy => ?_, fun t y hy hun => ?_⟩
  · rw [hget] at hk ⊢
    split
    · rfl
    · by_cases hki : k = i
      · subst hki; exact hdeps e he
      · rw [if_neg hki] at hk; exact h.closed k hk e he
  · rw [hget]
    split
    · rfl
    · rename_i hei
      rcases hj with ⟨-, hj⟩ | ⟨-, hj⟩
      · simp only [Wt, Bool.and_eq_true, List.all_eq_true, Bool.or_eq_true, beq_iff_eq, List.contains_eq_mem, decide_eq_true_eq] at hj
        exact h.done e ((hj.1.1 e he).resolve_left hei)
      · rw [hj] at he; exact h.done e he
  · rw [hget]
    have hmem : e ∉ d ∧ e ≠ i := by
      rcases hj with ⟨-, hj⟩ | ⟨hc, hj⟩
      · simp only [Wt, Bool.and_eq_true, List.all_eq_true, Bool.or_eq_true, beq_iff_eq, List.contains_eq_mem, decide_eq_true_eq] at hj
        exact ⟨fun e1 => hed (hj.1.2 e e1), fun e1 => by subst e1; exact hed hj.2⟩
      · rw [hj] at hed
        refine ⟨hed, fun e1 => ?_⟩
        subst e1
        rw [List.contains_eq_mem, decide_eq_false_iff_not] at hc
        exact hc he
    rw [if_neg hmem.2]; exact h.todo e he hmem.1
  · have hr := h.rel.mem (m := m') H hn L
    cases hdst : o.dst with
    | none => exact hr
    | some d =>
      have hlt' : d < st.nt := by rw [hdst] at hd; exact Nat.le_of_ble_eq_true hd
      refine ⟨hr.h, hr.nx, by simp [Act.put, h.rel.nt], hr.df, fun t y hy => ?_⟩
      have h1 := hr.tm t y hy
      have h2 := (GY _ _ _ hy).2
      simp only [Act.put]
      rw [YS (by rw [h.rel.nt]; exact hlt'), if_neg]
      · exact h1
      · intro e
        subst e
        exact h2 (by
          simp only [Xr, List.mem_filterMap, List.mem_range]
          exact ⟨i, hlt, by simp [YO, ho, hdst]⟩)
  · by_cases hki : k = i
    · subst hki
      rw [hx] at hy; cases hy
      have hdo : o.dst = some d := by simpa [YO, ho] using hd'
      have hlt' : d < a.tmps.size := by rw [hdo] at hd; rw [h.rel.nt]; exact Nat.le_of_ble_eq_true hd
      rw [hdo]
      simp only [Act.put]
      rw [YS hlt', if_pos rfl]
      exact hxv
    · rw [hget, if_neg hki] at hk
      have h1 := (h.fact k hk d y hd' hy).mono L
      cases hdst : o.dst with
      | none => exact h1
      | some d0 =>
        have hlt' : d0 < a.tmps.size := by rw [hdst] at hd; rw [h.rel.nt]; exact Nat.le_of_ble_eq_true hd
        simp only [Act.put]
        rw [YS hlt', if_neg]
        · exact h1
        · intro e
          subst e
          have hk' : k < ops.size := by
            rcases Nat.lt_or_ge k ops.size with h3 | h3
            · exact h3
            · simp [YO, Array.getElem?_eq_none h3] at hd'
          have hi' : YO ops i = some d0 := by simp [YO, ho, hdst]
          have hp : ∀ (l : List Nat), l.Nodup → (l.filterMap (YO ops)).Nodup → i ∈ l → k ∈ l → i = k := by
            intro l
            induction l with
            | nil => intro _ _ h; cases h
            | cons p l ih =>
              intro hl hf hi hk
              rw [List.nodup_cons] at hl
              rw [List.filterMap_cons] at hf
              rcases List.mem_cons.1 hi with rfl | hi2
              · rcases List.mem_cons.1 hk with rfl | hk2
                · rfl
                · rw [hi'] at hf
                  simp only [List.nodup_cons] at hf
                  exact absurd (List.mem_filterMap (l := l).2 ⟨k, hk2, hd'⟩) hf.1
              · rcases List.mem_cons.1 hk with rfl | hk2
                · rw [hd'] at hf
                  simp only [List.nodup_cons] at hf
                  exact absurd (List.mem_filterMap (l := l).2 ⟨i, hi2, hi'⟩) hf.1
                · refine ih hl.2 ?_ hi2 hk2
                  split at hf
                  · exact hf
                  · exact (List.nodup_cons.1 hf).2
          exact hki (hp (List.range ops.size) List.nodup_range hnd (by simpa using hlt) (by simpa using hk')).symm
  · have h1 := (h.old t y hy (fun k hk => by
      have := hun k hk
      rw [hget] at this
      split at this
      · cases this
      · exact this)).mono L
    cases hdst : o.dst with
    | none => exact h1
    | some d0 =>
      have hlt' : d0 < a.tmps.size := by rw [hdst] at hd; rw [h.rel.nt]; exact Nat.le_of_ble_eq_true hd
      simp only [Act.put]
      rw [YS hlt', if_neg]
      · exact h1
      · intro e
        subst e
        have := hun i (by simp [YO, ho, hdst])
        rw [hget, if_pos rfl] at this; cases this
theorem XC.swOrder {ro : Option Nat} {n : Nat} {Q : Exit → Act → World → Prop} {id : Nat} {ops : Array Oper} {st : St} (fx : List (Nat × TV)) (effs : List Nat) (dns : List (List Nat)) (ms : List Mem) (jE : Nat) {mE : Mem} (hm : E.P.follows .mixedOrders = true) (hB : WZ ops effs = true) (h0 : ms[0]? = some st.mem) (hd0 : dns[0]? = some []) (hE : ms[jE]? = some mE)
    (hfin : ∀ (j : Nat) (d : List Nat), dns[j]? = some d → (∀ e ∈ effs, e ∈ d) → j = jE)
    (hops : ∀ (i j : Nat) (d : List Nat) (m : Mem), i < ops.size → dns[j]? = some d → ms[j]? = some m → mayS ops effs d i = true → SwOp E ops st fx effs dns ms i d m)
    (k : XQ E Q .normal (Wf ops st fx mE)) : XC E ro n Q (.region id ops true) st := by
  intro V a w hr
  refine Gx (wpIn_region_any hm ?_)
  have hr' := hr.drew
  have hB' := hB
  simp only [WZ, Bool.and_eq_true, decide_eq_true_eq] at hB'
  obtain ⟨⟨hdag, -⟩, heff⟩ := hB'
  have hrdy : ∀ listed : Array Bool, listed.size = ops.size → Region.ready .any ops listed = [] → ∀ i, i < ops.size → listed.getD i false = true := by
    intro listed hsz hrd i
    induction i using Nat.strongRecOn with
    | ind i ih =>
      intro hi
      cases hc : listed.getD i false with
      | true => rfl
      | false =>
        exfalso
        have hnm : i ∉ Region.ready .any ops listed := by rw [hrd]; exact List.not_mem_nil
        refine hnm (mem_ready.2 ?_)
        obtain ⟨o, ho⟩ : ∃ o, ops[i]? = some o := ⟨_, Array.getElem?_eq_getElem hi⟩
        refine ⟨getD_in (by rw [hsz]; exact hi) hc, o, ho, fun e he hb => ?_⟩
        have hem : e.on ∈ JW ops i := (mem_edges ho).2 ⟨e, he, hb, rfl⟩
        have hlt := List.all_eq_true.1 (List.all_eq_true.1 hdag i (by simpa using hi)) _ hem
        have hlt' : e.on < i := by simpa using hlt
        exact ih e.on hlt' (by omega)
  have fin : ∀ (listed : Array Bool) (a : Act) (w : World) (V : Vu) (j : Nat) (d : List Nat) (m : Mem), SwInv E ops st fx effs dns ms listed a w V j d m → (∀ i, i < ops.size → listed.getD i false = true) → Q .normal a w := by
    intro listed a w V j d m hI hall
    have hjk : j = jE := hfin j d hI.stage fun e he => by
      by_cases hed : e ∈ d
      · exact hed
      · exfalso
        have h2 := hI.todo e he hed
        have h3 := hall e (by simpa using List.all_eq_true.1 heff e he)
        rw [h2] at h3; cases h3
    subst hjk
    have e1 : m = mE := Option.some.inj (hI.mem.symm.trans hE)
    subst e1
    refine k V a w ⟨hI.rel.h, hI.rel.nx, hI.rel.nt, hI.rel.df, fun t x hx => ?_⟩
    simp only [Wf, K1] at hx
    split at hx
    · rename_i y hy; cases hx
      obtain ⟨i, h1, h2, h3⟩ := G8 _ t x hy
      exact hI.fact i (hall i (by simpa using h1)) t x h2 h3
    · exact hI.rel.tm t x hx
  have main : ∀ (fuel : Nat) (listed : Array Bool) (a : Act) (w : World) (V : Vu) (j : Nat) (d : List Nat) (m : Mem), SwInv E ops st fx effs dns ms listed a w V j d m →
      (∀ c, ops.size ≤ fuel + c → c ≤ ((List.range ops.size).filter fun i => listed.getD i false).length → True) →
      ops.size ≤ fuel + ((List.range ops.size).filter fun i => listed.getD i false).length → wpAnyIn (UM ro) n E.P .any ops Q fuel listed a w := by
    intro fuel
    induction fuel with
    | zero =>
      intro listed a w V j d m hI _ hc
      have hall : ∀ i, i < ops.size → listed.getD i false = true := by
        intro i hi
        have h1 : ((List.range ops.size).filter fun i => listed.getD i false).length = (List.range ops.size).length := by
          have := List.length_filter_le (fun i => listed.getD i false) (List.range ops.size)
          simp only [List.length_range] at this ⊢; omega
        exact List.length_filter_eq_length_iff.1 h1 i (by simpa using hi)
      refine ⟨?_, fin listed a w V j d m hI hall⟩
      unfold Region.ready
      rw [List.filter_eq_nil_iff]
      intro i hi
      have hi' : i < ops.size := by simpa using hi
      have : listed.getD i true = true := by
        have h1 := hall i hi'
        have : i < listed.size := by rw [hI.size]; exact hi'
        simp [this] at h1 ⊢; exact h1
      rw [this]; simp
    | succ fuel ih =>
      intro listed a w V j d m hI _ hc
      refine ⟨fun hrd => fin listed a w V j d m hI (hrdy listed hI.size hrd), fun i hi => ?_⟩
      obtain ⟨hun, o, ho, hdeps⟩ := mem_ready.1 hi
      have hlt : i < ops.size := (Array.getElem?_eq_some_iff.1 ho).1
      have hno : listed.getD i false = false := by
        have : i < listed.size := by rw [hI.size]; exact hlt
        simp [this] at hun ⊢; exact hun
      have hd : ∀ k ∈ JW ops i, listed.getD k false = true := fun k hk => by
        obtain ⟨e, he, hb, rfl⟩ := (mem_edges ho).1 hk
        exact hdeps e he hb
      have hmay := hI.may hlt hno hd
      obtain ⟨o', x, ho', hx, hdst, hcase⟩ := hops i j d m hlt hI.stage hI.mem hmay
      rw [ho] at ho'; cases ho'
      have hrel := hI.depsRel hno hd
      have hcnt : ops.size ≤ fuel + ((List.range ops.size).filter fun i' => (listed.setIfInBounds i true).getD i' false).length := by
        have h1 : ((List.range ops.size).filter fun i => listed.getD i false).length < ((List.range ops.size).filter fun i' => (listed.setIfInBounds i true).getD i' false).length := by
          have key : ∀ (l : List Nat), l.Nodup → i ∈ l → (l.filter fun i => listed.getD i false).length < (l.filter fun i' => (listed.setIfInBounds i true).getD i' false).length := by
            have hget : ∀ k, (listed.setIfInBounds i true).getD k false = if k = i then true else listed.getD k false := fun k => by
              by_cases hk : k = i
              · subst hk
                have : k < listed.size := by rw [hI.size]; exact hlt
                simp [this]
              · rw [if_neg hk, getD_set_ne false (fun e => hk e.symm)]
            have hle : ∀ (l : List Nat), (l.filter fun i => listed.getD i false).length ≤ (l.filter fun i' => (listed.setIfInBounds i true).getD i' false).length := by
              intro l
              induction l with
              | nil => exact Nat.le_refl _
              | cons p l ih =>
                rw [List.filter_cons, List.filter_cons, hget]
                by_cases hp : p = i
                · subst hp; rw [hno]; simp only [if_true]; rw [List.length_cons]; simp only [Bool.false_eq_true, if_false]; omega
                · rw [if_neg hp]; split <;> (try rw [List.length_cons, List.length_cons]) <;> omega
            intro l
            induction l with
            | nil => intro _ h; cases h
            | cons p l ih =>
              intro hnd' hi'
              rw [List.nodup_cons] at hnd'
              rw [List.filter_cons, List.filter_cons, hget]
              rcases List.mem_cons.1 hi' with rfl | hi'
              · rw [hno]; simp only [if_true, Bool.false_eq_true, if_false]; rw [List.length_cons]; have := hle l; omega
              · have := ih hnd'.2 hi'
                have hp : p ≠ i := fun e => hnd'.1 (by rw [e]; exact hi')
                rw [if_neg hp]; split <;> (try rw [List.length_cons, List.length_cons]) <;> omega
          exact key _ List.nodup_range (by simpa using hlt)
        omega
      unfold wpOpIn
      simp only [ho]
      rcases hcase with ⟨hw, m', hok, hm'⟩ | ⟨hw, rfl, hc'⟩
      · rw [if_pos (Z5 hrel hw)]
        refine hok V a w hrel ro n _ Q (fun V' w' v H hn L hxv => ?_)
        rcases hm' with ⟨hce, j', d', hs1, hs2, hm'⟩ | ⟨hce, hm'⟩
        · exact ih _ _ _ V' j' d' m' (hI.step hB hlt hno ho hx hdst (.inl ⟨hce, hs2⟩) hs1 hm' H hn L hxv hd) (fun _ _ _ => trivial) hcnt
        · subst hm'
          exact ih _ _ _ V' j d m' (hI.step hB hlt hno ho hx hdst (.inr ⟨hce, rfl⟩) hI.stage hI.mem H hn L hxv hd) (fun _ _ _ => trivial) hcnt
      · rw [if_neg (by rw [Z5 hrel hw]; exact Bool.false_ne_true)]
        exact ⟨fun _ _ => trivial, ih _ _ _ V j d m (hI.step hB hlt hno ho hx hdst (.inr ⟨hc', rfl⟩) hI.stage hI.mem hI.rel.h hI.rel.nx (Vu.Le.refl _ _) GW hd) (fun _ _ _ => trivial) hcnt⟩
  refine main ops.size _ a _ V 0 [] st.mem ⟨by simp, fun i hi => ?_, hd0, fun e he => by simp at he, fun e _ _ => getD_replicate_false _ _, h0, ⟨hr'.h, hr'.nx, hr'.nt, hr'.df, fun t y hy => hr'.tm t y (GY _ _ _ hy).1⟩, fun i hi => ?_, fun t y hy _ => hr'.tm t y hy⟩ (fun _ _ _ => trivial) (by omega)
  · rw [getD_replicate_false] at hi; cases hi
  · rw [getD_replicate_false] at hi; cases hi
end
section
variable {E : Env} {ops : Array Oper} {st : St} {effs : List Nat} {dns : List (List Nat)}
def AllSw (E : Env) (ops : Array Oper) (st : St) (effs : List Nat) (dns : List (List Nat)) (fx : List (Nat × TV)) (ms : List Mem) : List (Nat × Nat) → Prop
  | [] => True
  | (i, j) :: r => (∃ d m, dns[j]? = some d ∧ ms[j]? = some m ∧ SwOp E ops st fx effs dns ms i d m) ∧ AllSw E ops st effs dns fx ms r
theorem AllSw.get {fx : List (Nat × TV)} {ms : List Mem} : ∀ {l : List (Nat × Nat)} {i j : Nat}, AllSw E ops st effs dns fx ms l → l.contains (i, j) = true → ∃ d m, dns[j]? = some d ∧ ms[j]? = some m ∧ SwOp E ops st fx effs dns ms i d m
  | [], i, j, _, h => by cases h
  | (a, b) :: r, i, j, ha, h => by
    simp only [List.contains_cons, Bool.or_eq_true, beq_iff_eq] at h
    rcases h with h | h
    · cases h; exact ha.1
    · exact AllSw.get ha.2 h
def exS (ops : Array Oper) (effs : List Nat) (dns : List (List Nat)) (ex : List (Nat × Nat)) : Bool :=
  (List.range ops.size).all fun i => (List.range dns.length).all fun j => !(mayS ops effs (dns.getD j []) i) || j == W4 effs i || ex.contains (i, j)
def homeS (ops : Array Oper) (effs : List Nat) (dns : List (List Nat)) : Bool :=
  (List.range ops.size).all fun i => !(effs.contains i) || match dns[W4 effs i]?, dns[W4 effs i + 1]? with
    | some d, some d' => Wt d' d i
    | _, _ => false
def finS (effs : List Nat) (dns : List (List Nat)) : Bool := (List.range dns.length).all fun j => !(effs.all fun e => (dns.getD j []).contains e) || j == effs.length
theorem XC.swRun {ro : Option Nat} {n id : Nat} {Q : Exit → Act → World → Prop} (effs : List Nat) (dns : List (List Nat)) (ex : List (Nat × Nat)) (hm : E.P.follows .mixedOrders = true) (hB : WZ ops effs = true) (hex : exS ops effs dns ex = true) (hho : homeS ops effs dns = true) (hfi : finS effs dns = true) (hd0 : dns[0]? = some []) (hlen : ((List.range' 0 ops.size).filter effs.contains).length = effs.length)
    (h : RunA E ops st effs (fun _ _ _ => False) (fun fx ms => ∃ xm : List Mem, AllSw E ops st effs dns fx (ms.reverse ++ xm) ex ∧ ∃ mE r, ms = mE :: r ∧ XQ E Q .normal (Wf ops st fx mE)) (List.range' 0 ops.size) [] [st.mem]) : XC E ro n Q (.region id ops true) st := by
  have hB' := hB
  simp only [WZ, Bool.and_eq_true] at hB'
  obtain ⟨⟨hdag, -⟩, -⟩ := hB'
  have hdag' : ∀ i, i < ops.size → ∀ k ∈ JW ops i, k < i := fun i hi k hk => by
    have := List.all_eq_true.1 (List.all_eq_true.1 hdag i (by simpa using hi)) k hk
    simpa using this
  obtain ⟨fx', ms', ⟨xm, hall, mE, r, hmE, hQ⟩, -, hms, hrun⟩ := run_home hdag' _ 0 [] st.mem [] h (fun p hp => by cases hp) (by rw [Nat.sub_zero]) (Nat.zero_le _)
  rw [List.append_nil] at hall hQ
  rw [hlen] at hms
  have hl : ((ms' ++ [st.mem]).reverse).length = effs.length + 1 := by simp [hms]
  have hin : ∀ {q : Nat} {m : Mem}, (ms' ++ [st.mem]).reverse[q]? = some m → ((ms' ++ [st.mem]).reverse ++ xm)[q]? = some m := fun {q m} hq => by
    rw [List.getElem?_append_left (List.getElem?_eq_some_iff.1 hq).1]; exact hq
  refine XC.swOrder fx' effs dns ((ms' ++ [st.mem]).reverse ++ xm) effs.length (mE := mE) hm hB (hin (by simp)) hd0 ?_ (fun j d hj hall => ?_) (fun i j d m hi hj hmj hmay => ?_) hQ
  · refine hin ?_
    rw [hmE]
    have : r.length = effs.length := by have := congrArg List.length hmE; simp at this; omega
    rw [List.reverse_cons, List.getElem?_append_right (by simp; omega)]; simp [this]
  · have hlt := (List.getElem?_eq_some_iff.1 hj).1
    have h1 := List.all_eq_true.1 hfi j (by simpa using hlt)
    have hd : dns.getD j [] = d := by rw [List.getD_eq_getElem?_getD, hj]; rfl
    rw [hd] at h1
    have h2 : (effs.all fun e => d.contains e) = true := List.all_eq_true.2 fun e he => by simpa using hall e he
    rw [h2] at h1
    simpa using h1
  · have hlt := (List.getElem?_eq_some_iff.1 hj).1
    have hd : dns.getD j [] = d := by rw [List.getD_eq_getElem?_getD, hj]; rfl
    have h1 := List.all_eq_true.1 (List.all_eq_true.1 hex i (by simpa using hi)) j (by simpa using hlt)
    rw [hd, hmay] at h1
    simp only [Bool.not_true, Bool.false_or, Bool.or_eq_true, beq_iff_eq] at h1
    rcases h1 with h1 | h1
    · obtain ⟨mi, h2, o, x, h3, h4, h5, h6⟩ := hrun i (List.mem_range'_1.2 ⟨Nat.zero_le _, by omega⟩)
      rw [List.append_nil] at h4 h6
      simp only [List.length_nil, Nat.zero_add, Nat.sub_zero] at h2 h6
      replace h6 := Or.imp_right (fun h => Or.resolve_right h (fun h => h)) h6
      subst h1
      have e1 : mi = m := by
        have := hin h2
        unfold W4 at hmj
        rw [hmj] at this
        exact (Option.some.inj this).symm
      subst e1
      refine ⟨o, x, h3, h4, h5, ?_⟩
      rcases h6 with ⟨h6, m', h7, h8⟩ | h6
      · refine .inl ⟨h6, m', h7, ?_⟩
        cases hc : effs.contains i with
        | false => rw [hc] at h8; exact .inr ⟨rfl, by simpa using h8⟩
        | true =>
          rw [hc] at h8
          have h9 := List.all_eq_true.1 hho i (by simpa using hi)
          rw [hc, hj] at h9
          simp only [Bool.not_true, Bool.false_or] at h9
          split at h9
          · rename_i d1 d2 e2 e3
            cases e2
            exact .inl ⟨rfl, W4 effs i + 1, d2, e3, h9, hin (by simpa [W4] using h8)⟩
          · cases h9
      · exact .inr h6
    · obtain ⟨d', m', h2, h3, h4⟩ := hall.get h1
      rw [hj] at h2; cases h2
      rw [hmj] at h3; cases h3
      exact h4
end
end Go.Proofs.Ytafddfoefeploaa
namespace Go.Proofs.Ytafddfoefeploaa
open Go.RowKit
set_option linter.unusedSimpArgs false
set_option linter.unusedVariables false
set_option linter.unusedSectionVars false
section
variable {E : Env} {st : St} {dd d : Option Tmp} {ty : TypeId} {pos : String} {af : Array Edge} {g : Option (Nat × Bool)}
theorem RO.indexA {t n sz i off : Nat} {x y : Operand} {m : Int} (ht : W8 E.P t = some (n, sz)) (hx : ev st.tm x = some (.v (.one (.ptr i off)))) (hy : ev st.tm y = some (UJ m)) (hm : (cond (decide (0 ≤ m)) (Nat.blt m.toNat n) false) = true) :
    RO E ⟨d, .indexAddr t x y, ty, pos, af, g⟩ st (.v (.one (.ptr i (off + m.toNat * sz)))) :=
  RO.indexArrOwn ht hx hy (Int.toNat_of_nonneg (of_decide_eq_true (cond_left hm))).symm (Gb (cond_right hm))
theorem OpOK.data2E {α : Type} [Enc α] (v1 v2 : α) {t e : Nat} {zs : List Value} {o1 o2 : Operand} {x1 x2 : AV} {ys : List CA} (ht : Jo E.P t = some (e, Enc.sz α)) (hze : JE E.P e = some zs) (hzl : zs.length = Enc.sz α) (hz : zs.all (·.oneCell') = true) (hlen : 2 * Enc.sz α ≤ 16777216)
    (h1 : ev st.tm o1 = some (.v x1)) (h2 : ev st.tm o2 = some (.v x2)) (hf : Zh (JQ (Enc.sz α) 2) (JV zs 2) [(0, x1), (1, x2)] = some ys) (hs : CSubs ys (Enc.enc v1 ++ Enc.enc v2)) (hel : (Enc.enc v1).length = Enc.sz α ∧ (Enc.enc v2).length = Enc.sz α) :
    OpOK E ⟨d, .buildSlice t 2 #[(0, o1), (1, o2)], ty, pos, af, g⟩ st (.v (.one (.d (.sl (Enc.sz α) (Enc.encL [v1, v2]))))) ⟨st.hp, st.tk, st.nx⟩ :=
  OpOK.litData (avs := [(0, x1), (1, x2)]) (Enc.encL [v1, v2]) ht hze hzl hz hlen rfl (fun j i x hx => by
    match j, hx with
    | 0, hx => cases hx; exact ⟨o1, rfl, h1⟩
    | 1, hx => cases hx; exact ⟨o2, rfl, h2⟩) hf (by rw [Enc.cons, Enc.one]; simpa using hs) (fun x hx => by
      rw [Enc.cons, Enc.one] at hx; simp at hx
      rcases hx with rfl | rfl
      · exact hel.1
      · exact hel.2) (by rw [Enc.len]; rfl)
theorem HRel.skip {V : Vu} {hp : List (Nat × HB)} {tk : List (Nat × Option Tok)} {w : World} (h : HRel E V hp tk w) (N : Nat) (hN : V.nx ≤ N) : HRel E { V with nx := N } hp tk w ∧ V.Le { V with nx := N } w w := by
  have hle : V.Le { V with nx := N } w w := ⟨hN, fun _ _ => rfl, fun _ _ => Nat.le_refl _, fun _ _ _ _ => rfl, fun _ _ h => h, fun _ _ _ => rfl, fun _ _ _ _ h => h⟩
  refine ⟨⟨h.ext, h.le0.trans hle, h.sz, h.sub, fun i B hi => ?_, h.inj, h.new, fun i T hi => ?_, h.tki⟩, hle⟩
  · obtain ⟨h1, o, h2, h3⟩ := h.own i B hi
    exact ⟨Nat.lt_of_lt_of_le h1 hN, o, h2, h3.mono hle⟩
  · obtain ⟨h1, h2⟩ := h.tok i T hi
    exact ⟨Nat.lt_of_lt_of_le h1 hN, h2⟩
theorem XQ.skipTo {e_ : Exit} {Q : Exit → Act → World → Prop} (N : Nat) (hN : st.nx ≤ N) (k : XQ E Q e_ ⟨st.tm, st.hp, st.tk, N, st.nt, st.df⟩) : XQ E Q e_ st := fun V a w hr => by
  obtain ⟨H, L⟩ := hr.h.skip N (by rw [hr.nx]; exact hN)
  exact k _ a w ⟨H, rfl, hr.nt, hr.df.le L, fun t x hx => (hr.tm t x hx).mono L⟩
theorem XQ.adoptT {e_ : Exit} {Q : Exit → Act → World → Prop} {t : Nat} (e sz : Nat) (h : Ul st.tm t = some (X3 (.slice none 0 0))) (k : XQ E Q e_ ⟨(t, .v (.one (.app st.nx sz []))) :: st.tm, st.hp, (st.nx, some ⟨e, sz, 0, []⟩) :: st.tk, st.nx + 1, st.nt, st.df⟩) : XQ E Q e_ st := by
  intro V a w hr
  obtain ⟨H, L⟩ := hr.h.tokNil e sz
  refine k (V.tok V.nx 0 (.slice none 0 0) 0 0) a w ⟨by dsimp only; rw [← hr.nx]; exact H, ?_, hr.nt, hr.df.le L, fun t' x hx => ?_⟩
  · show max V.nx (V.nx + 1) = st.nx + 1; rw [hr.nx]; omega
  · dsimp only at hx; rw [QU] at hx
    split at hx
    · rename_i e1; subst e1; cases hx
      have := Yo (hr.tm _ _ h)
      rw [this, ← hr.nx]
      exact app_nil_rel e sz
    · exact (hr.tm t' x hx).mono L
end
end Go.Proofs.Ytafddfoefeploaa
namespace Go.Proofs.Ytafddfoefeploaa
open Go.RowKit
set_option linter.unusedSimpArgs false
set_option linter.unusedVariables false
set_option linter.unusedSectionVars false
structure Byt where
  n : Int
def bytC (b : Byt) : List C := [.v (.int .u8 b.n)]
instance : Enc Byt := ⟨1, bytC, fun l => l.map bytC, rfl, fun a b => List.map_append, fun _ => rfl⟩
instance : EncLen Byt := ⟨fun _ => rfl, by decide⟩
section
variable {E : Env} {st : St} {d : Option Tmp} {ty : TypeId} {pos : String} {af : Array Edge} {g : Option (Nat × Bool)}
end
end Go.Proofs.Ytafddfoefeploaa
namespace Go.Proofs.Ytafddfoefeploaa
open Go.RowKit
set_option linter.unusedSimpArgs false
set_option linter.unusedVariables false
set_option linter.unusedSectionVars false
theorem append_runP {E : Env} {V : Vu} {hp : List (Nat × HB)} {tk : List (Nat × Option Tok)} {w : World} (h : HRel E V hp tk w) {t ty e sz by_ i n0 : Nat} {v x : Value} {es es2 : List (List C)} {pv0 : List C} {av : Option Addr} {capv : Nat} (ht : Jo E.P t = some (e, sz)) (hte : ZT E.P e = some (sz, by_))
    (hi : Ul tk i = some (some ⟨e, sz, n0, pv0⟩)) (hvk : v = V.κ i n0) (hva : v = .slice av n0 capv) (hv : Reads V.S w (.sl sz es) (.slice av es.length capv)) (hle0 : es.length ≤ n0) (hp0 : es.length * sz + pv0.length = n0 * sz) (hx : Reads V.S w (.sl sz es2) x) (hm : n0 + es2.length ≤ 1000000000) (hb : by_ ≤ 100000) (h2 : es2 ≠ []) :
    ∃ v' w' gb m V' cap', (Builtin.append_ #[t, t] ty #[v, x]).run E.P w = .ok v' w' ∧ V' = V.tok i (n0 + es2.length) v' gb m ∧ HRel E V' hp ((i, some ⟨e, sz, n0 + es2.length, pv0 ++ es2.flatten⟩) :: tk) w' ∧ V.Le V' w w' ∧ v' = .slice (some ⟨gb, 0, none⟩) (n0 + es2.length) cap' ∧ Reads V'.S w' (.sl sz es) (.slice (some ⟨gb, 0, none⟩) es.length cap') := by
  obtain ⟨hu, i1, hi1, hs1⟩ := Ys ht
  obtain ⟨i0, z, hi0, hz, hzs, hpos, hsz, hby⟩ := tyElem_spec hte
  have : i1 = i0 := Option.some.inj (hi1.symm.trans hi0)
  subst this
  obtain ⟨hl1, a1, cap1, b1, off1, us1, hveq, hc1, ha1, hus1, hk1⟩ := hv.row
  injection hveq with q1 q2 q3
  subst q1; subst q3
  obtain ⟨hl2, a2, cap2, b2, off2, us2, rfl, hc2, ha2, hus2, hk2⟩ := hx.row
  have ha2' := ha2 h2
  subst ha2'
  have hlen2 : 0 < es2.length := List.length_pos_iff.2 h2
  have hf2 : es2.flatten.length = es2.length * sz := JZ es2 hl2
  have hnews : ∀ j u, us2[j]? = some u → w.cell? ((⟨b2, off2, none⟩ : Addr).add j) = some u := fun j u hj => by
    have hlt : j < es2.flatten.length := by rw [hf2, ← hus2]; exact (List.getElem?_eq_some_iff.1 hj).1
    obtain ⟨u', h3, h4, -⟩ := hk2 j _ (List.getElem?_eq_getElem hlt)
    rw [hj] at h3; cases h3
    rw [Zj]; exact h4
  have hmax : n0 + es2.length ≤ maxLen := by unfold maxLen; omega
  have hbytes : (n0 + es2.length) * i1.bytes ≤ 140737488355328 := by
    rw [hby]
    calc (n0 + es2.length) * by_ ≤ 1000000000 * 100000 := Nat.mul_le_mul hm hb
      _ ≤ _ := by omega
  obtain ⟨h1, hcu, xs, ⟨hown, hpl, hpv⟩, hg2⟩ := h.tok i _ hi
  dsimp only at hcu hown hg2 hpl hpv
  rw [← hvk] at hown
  have hlim : (Tok.mk e sz n0 pv0).lim = es.length * sz := by show n0 * sz - pv0.length = _; omega
  rw [hlim] at hpv
  have hxl : xs.length = n0 * sz := hown.1
  have hi' : i = V.nx ∨ (i < V.nx ∧ V.cu i < n0 + es2.length) := .inr ⟨h1, by rw [← hcu]; omega⟩
  have hpl2 : (pv0 ++ es2.flatten).length = pv0.length + es2.length * sz := by rw [List.length_append, hf2]
  have hnn : (n0 + es2.length) * sz = n0 * sz + es2.length * sz := Nat.add_mul _ _ _
  have hlim2 : (n0 + es2.length) * sz - (pv0 ++ es2.flatten).length = es.length * sz := by rw [hpl2, hnn]; omega
  have hpre : ∀ (k : Nat) (c : C), es.flatten[k]? = some c → ∃ u, xs[k]? = some u ∧ Reads V.S w c u := fun k c hk => by
    obtain ⟨u, h3, h4, -, h5⟩ := hk1 k c hk
    have hne : es ≠ [] := fun e' => by subst e'; simp at hk
    have hlt : k < es.length * sz := by have := (List.getElem?_eq_some_iff.1 hk).1; rwa [JZ _ hl1] at this
    rcases hown.2 with ⟨hv0, hn0⟩ | ⟨gg, cap, cur, hvv, -, hcells, hncap, hcm, hcs, htake⟩
    · have : es.length = 0 := by omega
      exact absurd (List.eq_nil_of_length_eq_zero this) hne
    · rw [hva] at hvv
      injection hvv with e1 e2 e3
      have := ha1 hne
      rw [e1] at this
      injection this with this
      injection this with e4 e5
      subst e4
      rw [← e5, Nat.zero_add, Jw hcells] at h4
      refine ⟨u, ?_, h5⟩
      have hlt' : k < n0 * sz := by omega
      rw [← htake, List.getElem?_take_of_lt hlt']; simpa using h4
  have hpvs : ∀ (j : Nat) (c : C), (pv0 ++ es2.flatten)[j]? = some c → ∃ u, (xs ++ us2)[es.length * sz + j]? = some u ∧ Reads V.S w c u := fun j c hj => by
    by_cases hlt : j < pv0.length
    · rw [List.getElem?_append_left hlt] at hj
      obtain ⟨u, h3, h4⟩ := hpv j c hj
      exact ⟨u, by rw [List.getElem?_append_left (by omega)]; exact h3, h4⟩
    · rw [List.getElem?_append_right (by omega)] at hj
      obtain ⟨u, h3, -, -, h4⟩ := hk2 _ c hj
      refine ⟨u, ?_, h4⟩
      rw [List.getElem?_append_right (by omega), show es.length * sz + j - xs.length = j - pv0.length by omega]
      exact h3
  have fin : ∀ (V' : Vu) (w' : World) (g' cap' : Nat), V.Le V' w w' → (∀ (k : Nat) (u : Value), (xs ++ us2)[k]? = some u → w'.cell? ⟨g', k, none⟩ = some u) → (∀ o, o < es.length * sz → V'.S g' o) → es.length ≤ cap' → Reads V'.S w' (.sl sz es) (.slice (some ⟨g', 0, none⟩) es.length cap') := by
    intro V' w' g' cap' hL hcell hS' hcap
    refine ZM (us := fun k => (xs ++ us2).getD k undef) hl1 hcap (fun k c hk => ?_)
    have hklt : k < es.length * sz := by have := (List.getElem?_eq_some_iff.1 hk).1; rwa [JZ _ hl1] at this
    obtain ⟨u, h3, h4⟩ := hpre k c hk
    have h5 : (xs ++ us2)[k]? = some u := by rw [List.getElem?_append_left (List.getElem?_eq_some_iff.1 h3).1]; exact h3
    have e1 : (xs ++ us2).getD k undef = u := by rw [List.getD_eq_getElem?_getD, h5]; rfl
    rw [e1, Nat.zero_add]
    exact ⟨hcell k u h5, hS' k hklt, h4.mono hL.S hL.cell⟩
  have anew : ∀ (old : Nat), (Builtin.append_ #[t, t] ty #[v, .slice (some ⟨b2, off2, none⟩) es2.length cap2]).run E.P w = .ok (.slice (some ⟨w.heap.size, 0, none⟩) (n0 + es2.length) (grownCap w (n0 + es2.length) old e)) (w.drew.alloc (.cells (xs.toArray ++ us2.toArray ++ Builtin.zeroCells z.cells (grownCap w (n0 + es2.length) old e - (n0 + es2.length))) e)) →
      ∃ v' w' gb m V' cap', (Builtin.append_ #[t, t] ty #[v, .slice (some ⟨b2, off2, none⟩) es2.length cap2]).run E.P w = .ok v' w' ∧ V' = V.tok i (n0 + es2.length) v' gb m ∧ HRel E V' hp ((i, some ⟨e, sz, n0 + es2.length, pv0 ++ es2.flatten⟩) :: tk) w' ∧ V.Le V' w w' ∧ v' = .slice (some ⟨gb, 0, none⟩) (n0 + es2.length) cap' ∧ Reads V'.S w' (.sl sz es) (.slice (some ⟨gb, 0, none⟩) es.length cap') := by
    intro old hrun
    have hge := grownCap_ge w (n0 + es2.length) old e
    have hcm := grownCap_le_maxLen w (n0 + es2.length) old e hmax
    generalize grownCap w (n0 + es2.length) old e = cap' at hrun hge hcm
    have hx' : Gv w (w.drew.alloc (.cells (xs.toArray ++ us2.toArray ++ Builtin.zeroCells z.cells (cap' - (n0 + es2.length))) e)) := ⟨rfl, rfl, rfl, by simp, fun k hk _ => Below.heap_alloc w.drew _ k hk⟩
    have hnew : (w.drew.alloc (.cells (xs.toArray ++ us2.toArray ++ Builtin.zeroCells z.cells (cap' - (n0 + es2.length))) e)).heap[w.heap.size]? = some (.cells (xs.toArray ++ us2.toArray ++ Builtin.zeroCells z.cells (cap' - (n0 + es2.length))) e (0, 0)) := heap_alloc_new w.drew _
    have hcs : (xs.toArray ++ us2.toArray ++ Builtin.zeroCells z.cells (cap' - (n0 + es2.length))).size = cap' * sz := by
      simp only [Array.size_append, List.size_toArray, size_zeroCells, hzs, hxl, hus2, ← Nat.add_mul]
      congr 1; omega
    have hfull : (xs ++ us2).length = (n0 + es2.length) * sz := by rw [List.length_append, hxl, hus2, hnn]
    have hgc : ∀ (k : Nat) (u : Value), (xs ++ us2)[k]? = some u → (xs.toArray ++ us2.toArray ++ Builtin.zeroCells z.cells (cap' - (n0 + es2.length)))[k]? = some u := fun k u hk => by
      rw [← Array.getElem?_toList, Array.toList_append, Array.toList_append, List.getElem?_append_left (by have := (List.getElem?_eq_some_iff.1 hk).1; simpa using this)]
      simpa using hk
    obtain ⟨H, L⟩ := h.tokNewP (i := i) (n := n0 + es2.length) (g := w.heap.size) (e := e) (sz := sz) (cap := cap') (pv0 ++ es2.flatten) (by rw [hpl2, hnn]; omega) (fun j c hj => by
      obtain ⟨u, h3, h4⟩ := hpvs j c hj
      exact ⟨u, by rw [hlim2]; exact hgc _ u h3, h4⟩) hi' hx' (Nat.le_refl _) hnew hcs hge hcm
    refine ⟨_, _, w.heap.size, _, _, cap', hrun, rfl, H, L, rfl, ?_⟩
    refine fin _ _ _ _ L (fun k u hk => ?_) (fun o ho' => .inr ⟨rfl, by rw [hlim2]; exact ho'⟩) (by omega)
    rw [Jw hnew]
    exact hgc k u hk
  rcases hown.2 with ⟨hv0, hn0⟩ | ⟨gg, cap, cur, hvv, -, hcells, hncap, hcm, hcs, htake⟩
  · subst hn0
    have hx0 : xs = [] := List.eq_nil_of_length_eq_zero (by rw [hxl, Nat.zero_mul])
    rw [hv0]
    rw [hv0] at anew
    refine anew 0 ?_
    have hr := run_append_nil (P := E.P) w t ty e i1 z hu hi1 hz ⟨b2, off2, none⟩ es2.length cap2 us2 (by rw [hsz]; exact hus2) hnews hlen2 (by omega) (by have := hbytes; rw [Nat.zero_add] at this; omega)
    rw [hx0, Nat.zero_add]
    simpa using hr
  · rw [hvv] at hva ⊢
    rw [hvv] at anew
    injection hva with e1 e2 e3
    subst e3
    by_cases hroom : n0 + es2.length ≤ cap
    · have hfit : n0 * i1.size + us2.length ≤ cur.size := by rw [hus2, hcs, hsz, ← Nat.add_mul]; exact Nat.mul_le_mul_right _ hroom
      have h1c : ∀ u ∈ us2, u.oneCell' = true := fun u hu' => by
        obtain ⟨k, hk⟩ := List.getElem?_of_mem hu'
        have hlt : k < es2.flatten.length := by rw [hf2, ← hus2]; exact (List.getElem?_eq_some_iff.1 hk).1
        obtain ⟨u', h3, -, -, h4⟩ := hk2 k _ (List.getElem?_eq_getElem hlt)
        rw [hk] at h3; cases h3
        exact h4.one
      have hr := run_append_room (P := E.P) w t ty e i1 hu hi1 gg n0 cap cur hcells ⟨b2, off2, none⟩ es2.length cap2 us2 (by rw [hsz]; exact hus2) hnews h1c hroom hfit
      rw [hsz] at hr hfit
      have hcs' : (cur.toList.take (n0 * sz) ++ us2 ++ cur.toList.drop (n0 * sz + us2.length)).toArray.size = cap * sz := by
        simp only [List.size_toArray, List.length_append, List.length_take, List.length_drop, Array.length_toList]; omega
      have hgc : ∀ (k : Nat) (u : Value), (xs ++ us2)[k]? = some u → (cur.toList.take (n0 * sz) ++ us2 ++ cur.toList.drop (n0 * sz + us2.length)).toArray[k]? = some u := fun k u hk => by
        rw [htake, List.getElem?_toArray, List.getElem?_append_left (List.getElem?_eq_some_iff.1 hk).1]
        exact hk
      obtain ⟨H, L⟩ := h.tokRoomP (n := n0 + es2.length) (cur' := (cur.toList.take (n0 * sz) ++ us2 ++ cur.toList.drop (n0 * sz + us2.length)).toArray) (pv0 ++ es2.flatten) (by rw [hpl2, hnn]; omega) (by rw [hlim2]; omega) (fun j c hj => by
        obtain ⟨u, h3, h4⟩ := hpvs j c hj
        exact ⟨u, by rw [hlim2]; exact hgc _ u h3, h4⟩) hi (hvk.symm.trans hvv) hcells (by omega) hroom hcm hcs' (fun o ho => by
        have ho' : o < n0 * sz := by omega
        rw [List.append_assoc, List.getElem?_toArray, List.getElem?_append_left (by rw [List.length_take]; have e8 : cur.toList.length = cur.size := Array.length_toList; omega), List.getElem?_take_of_lt ho']; simp)
      refine ⟨_, _, gg, _, _, cap, hr, rfl, H, L, rfl, ?_⟩
      refine fin _ _ _ _ L (fun k u hk => ?_) (fun o ho' => .inr ⟨rfl, by rw [hlim2]; exact ho'⟩) (by omega)
      rw [Jw (setRow_heap w gg cur _ e (0, 0) hcells)]
      exact hgc k u hk
    · have holds : ∀ j u, xs[j]? = some u → w.cell? ((⟨gg, 0, none⟩ : Addr).add j) = some u := by
        have := hown.cells (g := gg) (by rw [hvv]; rfl)
        exact this
      have hr := run_append_grow (P := E.P) w t ty e i1 z hu hi1 hz ⟨gg, 0, none⟩ n0 cap xs (by rw [hsz]; exact hown.1) holds ⟨b2, off2, none⟩ es2.length cap2 us2 (by rw [hsz]; exact hus2) hnews (by omega) (by omega) (growslice_fits (by omega) hbytes)
      exact anew cap hr
theorem HRel.storeT {E : Env} {V : Vu} {hp : List (Nat × HB)} {tk : List (Nat × Option Tok)} {w : World} (h : HRel E V hp tk w) {i n e sz g cap : Nat} {pv : List C} (hi : Ul tk i = some (some ⟨e, sz, n, pv⟩)) (hv : V.κ i n = .slice (some ⟨g, 0, none⟩) n cap) {k : Nat} (hk : k < pv.length) {c : C} {u : Value} (hu : Reads V.S w c u) :
    HRel E V hp ((i, some ⟨e, sz, n, pv.set k c⟩) :: tk) (w.setCell ⟨g, n * sz - pv.length + k, none⟩ u) ∧ V.Le V w (w.setCell ⟨g, n * sz - pv.length + k, none⟩ u) ∧ ∃ u0, w.cell? ⟨g, n * sz - pv.length + k, none⟩ = some u0 ∧ w.frozen? ⟨g, n * sz - pv.length + k, none⟩ = false := by
  obtain ⟨h1, hcu, xs, ⟨hown, hpl, hpv⟩, hg2⟩ := h.tok i _ hi
  dsimp only at hcu hown hg2 hpl hpv
  have hlim : (Tok.mk e sz n pv).lim = n * sz - pv.length := rfl
  have hgb : (V.κ i n).ownBlock = some g := by rw [hv]; rfl
  obtain ⟨a1, a2, a3⟩ := hg2 g hgb
  rw [hlim] at a2 hpv
  obtain ⟨hxl, hx⟩ := hown
  rcases hx with ⟨hv0, -⟩ | ⟨gg, cap', cur, hvv, hb0, hcells, hncap, hcm, hcs, htake⟩
  · rw [hv] at hv0; cases hv0
  rw [hv] at hvv
  injection hvv with q1 q2 q3
  injection q1 with q1
  injection q1 with q1
  subst q1 q3
  generalize hoff : n * sz - pv.length + k = off
  have hofflt : off < n * sz := by omega
  have hcap : n * sz ≤ cap * sz := Nat.mul_le_mul_right _ hncap
  have hsz : (w.setCell ⟨g, off, none⟩ u).heap.size = w.heap.size := by simp [World.setCell]
  have hne : ∀ k, k ≠ g → (w.setCell ⟨g, off, none⟩ u).heap[k]? = w.heap[k]? := fun k hk => Below.heap_setCell w ⟨g, off, none⟩ u k hk
  have hnew : (w.setCell ⟨g, off, none⟩ u).heap[g]? = some (.cells (cur.setIfInBounds off u) e (0, 0)) := setCell_block hcells off u
  have hcell : ∀ b o, V.S b o → (w.setCell ⟨g, off, none⟩ u).cell? ⟨b, o, none⟩ = w.cell? ⟨b, o, none⟩ := fun b o hs => by
    by_cases hb : b = g
    · subst hb
      have := a2 o hs
      rw [Jw hnew, Jw hcells, Array.getElem?_setIfInBounds, if_neg (by omega)]
    · exact World.cell?_of_block (w := w) (a := ⟨b, o, none⟩) (hne b hb)
  have hle : V.Le V w (w.setCell ⟨g, off, none⟩ u) := ⟨Nat.le_refl _, fun _ _ => rfl, fun _ _ => Nat.le_refl _, fun _ _ _ _ => rfl, fun _ _ h => h, hcell, fun b o hs ds hd => by
    by_cases hb : b = g
    · subst hb; rw [hcells] at hd; cases hd
    · exact (hne b hb).trans hd⟩
  refine ⟨⟨?_, h.le0.trans hle, fun b o hs => by rw [hsz]; exact h.sz b o hs, h.sub, ?_, h.inj, h.new, ?_, ?_⟩, hle, ?_⟩
  · refine ⟨h.ext.os, h.ext.tape, h.ext.output, by rw [hsz]; exact h.ext.size, fun k hk hM => (hne k fun e1 => ?_).trans (h.ext.block k hk hM)⟩
    rcases a1 with a1 | a1
    · omega
    · rw [← e1] at a1; exact hM a1
  · intro j B hj
    obtain ⟨b1, o, ho, hB⟩ := h.own j B hj
    exact ⟨b1, o, (hne _ (a3 j B hj)).trans ho, hB.mono hle⟩
  · intro j T hj
    rw [QU] at hj
    split at hj
    · rename_i e1; subst e1; cases hj
      have hll : (pv.set k c).length = pv.length := by simp
      have hlim2 : (Tok.mk e sz n (pv.set k c)).lim = n * sz - pv.length := by show n * sz - (pv.set k c).length = _; rw [hll]
      refine ⟨h1, hcu, xs.set off u, ⟨⟨by rw [List.length_set]; exact hxl, .inr ⟨g, cap, cur.setIfInBounds off u, hv, hb0, hnew, hncap, hcm, by simpa using hcs, ?_⟩⟩, by rw [hll]; exact hpl, fun j c' hj => ?_⟩, fun g' hg' => ?_⟩
      · apply List.ext_getElem?
        intro q
        rw [List.getElem?_take, List.getElem?_set, ← htake]
        by_cases hq : q < n * sz
        · rw [if_pos hq, Array.getElem?_toList, Array.getElem?_setIfInBounds]
          by_cases hqo : off = q
          · subst hqo
            rw [if_pos rfl, if_pos rfl, if_pos (by omega), if_pos (by rw [List.length_take, Array.length_toList]; omega)]
          · rw [if_neg hqo, if_neg hqo, List.getElem?_take, if_pos hq, Array.getElem?_toList]
        · rw [if_neg hq]
          by_cases hqo : off = q
          · omega
          · rw [if_neg hqo, List.getElem?_take, if_neg hq]
      · rw [hlim2]
        rw [List.getElem?_set] at hj
        split at hj
        · rename_i e2
          subst e2
          cases hj
          refine ⟨u, ?_, Reads.mono hle.S hle.cell hu⟩
          rw [hoff, List.getElem?_set, if_pos rfl, if_pos (by rw [hxl]; exact hofflt)]
        · rename_i e2
          obtain ⟨u', h3, h4⟩ := hpv j c' hj
          refine ⟨u', ?_, Reads.mono hle.S hle.cell h4⟩
          rw [List.getElem?_set, if_neg (by omega)]
          exact h3
      · obtain ⟨b1, b2, b3⟩ := hg2 g' hg'
        refine ⟨b1, fun o hs => ?_, b3⟩
        rw [hlim2]; exact b2 o hs
    · rename_i e1
      have e2 : j ≠ i := fun h => e1 h.symm
      obtain ⟨b1, bcu, ys, bown, bg2⟩ := h.tok j T hj
      refine ⟨b1, bcu, ys, bown.keepW rfl (bown.1.kept (row := some g) ⟨rfl, rfl, rfl, by rw [hsz]; exact Nat.le_refl _, fun k _ hk => hne k fun e3 => hk (by rw [e3])⟩ ?_) hle.lx, bg2⟩
      cases hb : (V.κ j T.n).ownBlock with
      | none => exact .inl rfl
      | some g' =>
        refine .inr fun e3 => e2 ?_
        cases e3
        exact h.tki j i T _ g hj hi hb hgb
  · intro j k' T U g' hj hk' ej ek
    rw [QU] at hj hk'
    split at hj <;> split at hk'
    · rename_i e1 e2; exact e1.symm.trans e2
    · rename_i e1 e2; subst e1; cases hj; exact h.tki _ _ _ _ g' hi hk' ej ek
    · rename_i e1 e2; subst e2; cases hk'; exact h.tki _ _ _ _ g' hj hi ej ek
    · exact h.tki j k' T U g' hj hk' ej ek
  · have hlt : off < cur.size := by omega
    exact ⟨cur[off], by rw [Jw hcells]; exact Array.getElem?_eq_getElem hlt, free_of_own hcells off⟩
def Wz : List C → Nat → List C → List C
  | xs, _, [] => xs
  | xs, off, c :: cs => Wz (xs.set off c) (off + 1) cs
theorem setL_map : ∀ (cs xs : List C) (off : Nat), setL (xs.map CA.d) off (cs.map CA.d) = (Wz xs off cs).map CA.d
  | [], xs, off => rfl
  | c :: cs, xs, off => by
    simp only [Wz, List.map_cons, setL]
    rw [← List.map_set, setL_map cs]
theorem setC_flat {α : Type} [Enc α] [EncLen α] (l : List α) (k : Nat) (v : α) (hk : k < l.length) : Wz (Enc.encL l).flatten (k * Enc.sz α) (Enc.enc v) = (Enc.encL (l.set k v)).flatten := by
  have h1 := setL_flat l k v hk
  unfold KV at h1
  rw [setL_map] at h1
  have inj : ∀ a b : List C, a.map CA.d = b.map CA.d → a = b := fun a b h => by
    have := congrArg (List.map fun x : CA => match x with | .d c => c | _ => .v undef) h
    rw [List.map_map, List.map_map] at this
    have hid : ((fun x : CA => match x with | .d c => c | _ => .v undef) ∘ CA.d) = id := rfl
    rw [hid, List.map_id, List.map_id] at this
    exact this
  exact inj _ _ h1
theorem HRel.storeTL {E : Env} {V : Vu} {hp : List (Nat × HB)} {i n e sz g cap : Nat} (hv : V.κ i n = .slice (some ⟨g, 0, none⟩) n cap) : ∀ (cs : List C) (us : List Value) (q k : Nat) (pv : List C) (tk : List (Nat × Option Tok)) (w : World), HRel E V hp tk w → Ul tk i = some (some ⟨e, sz, n, pv⟩) →
    q + k + cs.length ≤ pv.length → us.length = cs.length → (∀ (j : Nat) (c : C), cs[j]? = some c → ∃ u, us[j]? = some u ∧ Reads V.S w c u) →
    ∃ w', (storeCells ⟨g, n * sz - pv.length + q, none⟩ us k).run E.P w = .ok () w' ∧ HRel E V hp ((i, some ⟨e, sz, n, Wz pv (q + k) cs⟩) :: tk) w' ∧ V.Le V w w'
  | [], us, q, k, pv, tk, w, h, hi, _, hu, _ => by
    have : us = [] := List.eq_nil_of_length_eq_zero (by simpa using hu)
    subst this
    refine ⟨w, by simp [storeCells], ?_, Vu.Le.refl V w⟩
    simp only [Wz]
    exact h.congr (fun _ => rfl) (fun j => by rw [QU]; split <;> simp_all)
  | c :: cs, us, q, k, pv, tk, w, h, hi, hle, hu, hrel => by
    match us, hu with
    | u :: us, hu =>
      simp only [List.length_cons] at hle hu
      obtain ⟨u', hu', hy⟩ := hrel 0 c rfl
      simp at hu'
      subst hu'
      obtain ⟨H1, L1, u0, hcell, hfro⟩ := h.storeT hi hv (k := q + k) (by omega) hy
      have hone := hy.one
      rw [← Nat.add_assoc] at H1 L1 hcell hfro
      have hst : (Go.store ⟨g, n * sz - pv.length + q + k, none⟩ u).run E.P w = .ok () (w.setCell ⟨g, n * sz - pv.length + q + k, none⟩ u) := by
        rw [run_store _ _ _ _ _ hone, hcell, hfro]; rfl
      have hll : (pv.set (q + k) c).length = pv.length := by simp
      obtain ⟨w2, hw2, H2, L2⟩ := HRel.storeTL hv cs us q (k + 1) (pv.set (q + k) c) _ _ H1 (by rw [QU, if_pos rfl]) (by rw [hll]; omega) (by omega) (fun j c' hj => by
        obtain ⟨u2, h3, h4⟩ := hrel (j + 1) c' (by simpa using hj)
        exact ⟨u2, by simpa using h3, h4.mono L1.S L1.cell⟩)
      rw [hll] at hw2
      refine ⟨w2, ?_, ?_, L1.trans L2⟩
      · simp only [storeCells, Sem.run_bind, Zj, hst, Result.andThen_ok]
        exact hw2
      · simp only [Wz]
        refine H2.congr (fun _ => rfl) (fun j => ?_)
        rw [QU, QU, QU]
        split
        · rw [show q + (k + 1) = q + k + 1 by omega]
        · rfl
theorem HRel.settle {E : Env} {V : Vu} {hp : List (Nat × HB)} {tk : List (Nat × Option Tok)} {w : World} (h : HRel E V hp tk w) {i n e sz : Nat} {pv : List C} (hi : Ul tk i = some (some ⟨e, sz, n, pv⟩)) :
    ∃ V' : Vu, HRel E V' hp ((i, some ⟨e, sz, n, []⟩) :: tk) w ∧ V.Le V' w w ∧ V'.nx = V.nx ∧ V'.κ = V.κ ∧ V'.cu = V.cu ∧ ∀ g, (V.κ i n).ownBlock = some g → ∀ o, o < n * sz → V'.S g o := by
  obtain ⟨h1, hcu, xs, ⟨hown, hpl, hpv⟩, hg2⟩ := h.tok i _ hi
  dsimp only at hcu hown hg2 hpl hpv
  let V' : Vu := { V with S := fun b o => V.S b o ∨ ((V.κ i n).ownBlock = some b ∧ o < n * sz) }
  have hle : V.Le V' w w := ⟨Nat.le_refl _, fun _ _ => rfl, fun _ _ => Nat.le_refl _, fun _ _ _ _ => rfl, fun _ _ h => .inl h, fun _ _ _ => rfl, fun _ _ _ _ h => h⟩
  refine ⟨V', ⟨h.ext, h.le0.trans hle, ?_, ?_, ?_, h.inj, ?_, ?_, ?_⟩, hle, rfl, rfl, rfl, fun g hg o ho => .inr ⟨hg, ho⟩⟩
  · rintro b o (hs | ⟨hb, -⟩)
    · exact h.sz b o hs
    · exact (hown.lt b hb).2
  · rintro b o (hs | ⟨hb, -⟩)
    · exact h.sub b o hs
    · exact .inr (hg2 b hb).1
  · intro j B hj
    obtain ⟨b1, o, ho, hB⟩ := h.own j B hj
    exact ⟨b1, o, ho, hB.mono hle⟩
  · intro j B hj
    refine ⟨(h.new j B hj).1, ?_⟩
    rintro o (hs | ⟨hb, -⟩)
    · exact (h.new j B hj).2 o hs
    · exact (hg2 _ hb).2.2 j B hj rfl
  · intro j T hj
    rw [QU] at hj
    split at hj
    · rename_i e1; subst e1; cases hj
      refine ⟨h1, hcu, xs, RowOK.all hown, fun g hg => ⟨(hg2 g hg).1, ?_, (hg2 g hg).2.2⟩⟩
      rintro o (hs | ⟨-, ho⟩)
      · exact Nat.lt_of_lt_of_le ((hg2 g hg).2.1 o hs) (Nat.sub_le _ _)
      · exact ho
    · rename_i e1
      obtain ⟨b1, bcu, ys, bown, bg2⟩ := h.tok j T hj
      refine ⟨b1, bcu, ys, bown.keepW rfl bown.1 hle.lx, fun g hg => ⟨(bg2 g hg).1, ?_, (bg2 g hg).2.2⟩⟩
      rintro o (hs | ⟨hb, -⟩)
      · exact (bg2 g hg).2.1 o hs
      · exact absurd (h.tki j i T _ g hj hi hg hb) (fun e => e1 e.symm)
  · intro j k T U g hj hk ej ek
    rw [QU] at hj hk
    split at hj <;> split at hk
    · rename_i e1 e2; exact e1.symm.trans e2
    · rename_i e1 e2; subst e1; cases hj; exact h.tki _ _ _ _ g hi hk ej ek
    · rename_i e1 e2; subst e2; cases hk; exact h.tki _ _ _ _ g hj hi ej ek
    · exact h.tki j k T U g hj hk ej ek
section
variable {E : Env} {st : St} {dd : Option Tmp} {ty : TypeId} {pos : String} {af : Array Edge} {g : Option (Nat × Bool)}
theorem OpOK.appendP {t e sz by_ i n0 : Nat} {o1 o2 : Operand} {x1 y : CA} {es es2 : List (List C)} {pv0 : List C} (ht : Jo E.P t = some (e, sz)) (hte : ZT E.P e = some (sz, by_)) (hb : by_ ≤ 100000)
    (h1 : ev st.tm o1 = some (.v (.one x1))) (hx1 : ∀ V w v, x1.rel V w v → (CA.apv i sz n0 es).rel V w v) (hi : Ul st.tk i = some (some ⟨e, sz, n0, pv0⟩)) (hp0 : es.length * sz + pv0.length = n0 * sz) (h2 : ev st.tm o2 = some (.v (.one y))) (hs : SlOf y sz es2) (hm : n0 + es2.length ≤ 1000000000) (hne : es2 ≠ []) :
    OpOK E ⟨dd, .call { callee := .builtin .append, args := #[o1, o2], argTypes := #[t, t] }, ty, pos, af, g⟩ st (.v (.one (.apv i sz (n0 + es2.length) es))) ⟨st.hp, (i, some ⟨e, sz, n0 + es2.length, pv0 ++ es2.flatten⟩) :: JR i st.tk, st.nx⟩ := by
  intro V a w hr ro n K Q hK
  refine ⟨fun _ _ => trivial, ?_⟩
  rw [Oper.semAt_eq _ _ _ (by intro c h; cases h)]
  obtain ⟨r1, r2, r3, av, cap, r4, r5, r6⟩ := hx1 V w _ (hr.ev h1)
  have q2 := hs.reads (hr.ev h2)
  have hexec : ∀ v' w', (Builtin.append_ #[t, t] ty #[a.eval o1, a.eval o2]).run E.P w = .ok v' w' → (execOp a.eval ⟨dd, .call { callee := .builtin .append, args := #[o1, o2], argTypes := #[t, t] }, ty, pos, af, g⟩).run E.P w = .ok (.value v') w' := fun v' w' h => by
    simp [execOp, resolve, invoke, builtin, h]
  obtain ⟨v', w', gb, m, V', cap', hrun, rfl, H, L, hv', hrd⟩ := append_runP (ty := ty) hr.h ht hte hi r3 r4 r6 r5 hp0 q2 hm hb hne
  rw [hexec v' w' hrun]
  have hnx : (V.tok i (n0 + es2.length) v' gb m).nx = st.nx := by show max V.nx (i + 1) = st.nx; rw [← hr.nx]; omega
  refine hK _ w' _ (H.congr (fun _ => rfl) (fun j => Ze i _ st.tk j)) hnx L ?_
  exact ⟨Nat.lt_of_lt_of_le r1 L.nx, by rw [tok_cu]; exact Nat.le_refl _, by rw [Z1], some ⟨gb, 0, none⟩, cap', hv', by omega, hrd⟩
theorem app_apv {V : Vu} {w : World} {i sz : Nat} {es : List (List C)} {v : Value} (h : (CA.app i sz es).rel V w v) : (CA.apv i sz es.length es).rel V w v := by
  obtain ⟨h1, h2, h3, h4⟩ := h
  obtain ⟨-, a, cap, b, off, us, e1, -⟩ := h4.row
  exact ⟨h1, h2, h3, a, cap, e1, Nat.le_refl _, by rw [← e1]; exact h4⟩
theorem RO.indexP {t e sz i n : Nat} {x y : Operand} {es : List (List C)} {pv : List C} {m : Int} (ht : Jo E.P t = some (e, sz)) (hx : ev st.tm x = some (.v (.one (.apv i sz n es)))) (hi : Ul st.tk i = some (some ⟨e, sz, n, pv⟩)) (hy : ev st.tm y = some (UJ m)) (hm : (cond (decide (0 ≤ m)) (Nat.blt m.toNat n) false) = true) :
    RO E ⟨dd, .indexAddr t x y, ty, pos, af, g⟩ st (.v (.one (.tp i n (m.toNat * sz)))) := by
  refine ⟨(fun _ h => nomatch h), fun V a w hr => ?_⟩
  obtain ⟨r1, r2, r3, av, cap, r4, r5, r6⟩ := hr.ev hx
  have h0 : 0 ≤ m := of_decide_eq_true (cond_left hm)
  have h1 := Gb (cond_right hm)
  obtain ⟨k, rfl⟩ : ∃ k : Nat, m = (k : Int) := ⟨m.toNat, (Int.toNat_of_nonneg h0).symm⟩
  rw [Int.toNat_natCast] at h1 ⊢
  obtain ⟨q1, q2, xs, ⟨hown, -⟩, -⟩ := hr.h.tok i _ hi
  dsimp only at q2 hown
  obtain ⟨hu, i0, hi0, hsz⟩ := Ys ht
  have h2 : (k : Int) < (n : Int) := by omega
  rcases hown.2 with ⟨-, hn0⟩ | ⟨gg, cap', cur, hvv, -⟩
  · omega
  · refine ⟨.pointer (some ⟨gg, k * sz, none⟩), ?_, r1, r2, gg, cap', hvv, rfl⟩
    rw [hvv] at r3
    simp only [execOp, r3, Yo (hr.ev hy), Instr.indexAt, asIntOf, Sem.run_bind, Sem.run_pure, Result.andThen_ok, run_underlying hu, sizeOf, typeInfo]
    simp [hi0, hsz, Zj, h2, Sem.run, program]
theorem OpOK.storeP {α : Type} [Enc α] [EncLen α] {t i e n k0 m off : Nat} {ag : Bool} {o1 o2 : Operand} {y y' : AV} {l : List α} {v : α} (ht : Jy E.P t = some (ag, Enc.sz α)) (h1 : ev st.tm o1 = some (.v (.one (.tp i n off)))) (h2 : ev st.tm o2 = some (.v y)) (hs : ASub y y') (he : y'.cells = (Enc.enc v).map CA.d)
    (hi : Ul st.tk i = some (some ⟨e, Enc.sz α, n, (Enc.encL l).flatten⟩)) (hn : n = k0 + l.length) (ho : off = (k0 + m) * Enc.sz α) (hm : m < l.length) (hdd : dd = none) :
    OpOK E ⟨dd, .store t o1 o2, ty, pos, af, g⟩ st (.tup []) ⟨st.hp, (i, some ⟨e, Enc.sz α, n, (Enc.encL (l.set m v)).flatten⟩) :: JR i st.tk, st.nx⟩ := by
  intro V a w hr ro n' K Q hK
  refine ⟨fun _ _ => trivial, ?_⟩
  rw [Oper.semAt_eq _ _ _ (by intro c h; cases h)]
  obtain ⟨r1, r2, gg, cap, r3, r4⟩ := hr.ev h1
  have e2 := (hs.rel (hr.ev h2)).cells
  obtain ⟨-, hsz⟩ := ZU ht w
  have hlen : (Enc.enc v).length = Enc.sz α := EncLen.len v
  have hpl : (Enc.encL l).flatten.length = l.length * Enc.sz α := by rw [JZ _ (Ga l), Enc.len]
  rw [he] at e2
  obtain ⟨w', hw', H, L⟩ := HRel.storeTL r3 (Enc.enc v) (a.eval o2).cells.toList (m * Enc.sz α) 0 (Enc.encL l).flatten st.tk w hr.h hi (by
    rw [hpl, hlen, Nat.add_zero, ← Nat.succ_mul]; exact Nat.mul_le_mul_right _ hm) (by simpa using e2.1) (fun j c hj => by
    obtain ⟨u, hu, hz'⟩ := e2.2 j (.d c) (by rw [List.getElem?_map, hj]; rfl)
    exact ⟨u, by simpa using hu, hz'⟩)
  have hoff : n * Enc.sz α - (Enc.encL l).flatten.length + m * Enc.sz α = off := by
    rw [hpl, hn, ho, Nat.add_mul, Nat.add_mul]; omega
  rw [hoff] at hw'
  rw [Nat.add_zero, setC_flat l m v hm] at H
  have hrun : (execOp a.eval ⟨dd, .store t o1 o2, ty, pos, af, g⟩).run E.P w = .ok .skip w' := by
    have hs2 : (a.eval o2).cells.size = Enc.sz α := by rw [e2.1, List.length_map, hlen]
    simp only [execOp, r4, Instr.storeAt, Instr.sureAddr, storeVar, Sem.run_bind, Sem.run_pure, Result.andThen_ok, hsz, hs2]
    simp [hw']
  rw [hrun]
  subst hdd
  exact hK V w' undef (H.congr (fun _ => rfl) (fun j => Ze i _ st.tk j)) hr.nx L GW
end
theorem settle_reads {E : Env} {V V' : Vu} {hp : List (Nat × HB)} {tk : List (Nat × Option Tok)} {w : World} {i n e sz : Nat} {es es2 : List (List C)} {v : Value} (h : HRel E V hp tk w) (hi : Ul tk i = some (some ⟨e, sz, n, es2.flatten⟩)) (hn : n = es.length + es2.length) (hl2 : ∀ x ∈ es2, x.length = sz)
    (hv : (CA.apv i sz n es).rel V w v) (hL : V.Le V' w w) (hnx : V'.nx = V.nx) (hκ : V'.κ = V.κ) (hcu : V'.cu = V.cu) (hS : ∀ g, (V.κ i n).ownBlock = some g → ∀ o, o < n * sz → V'.S g o) : (CA.app i sz (es ++ es2)).rel V' w v := by
  obtain ⟨r1, r2, r3, a, cap, r4, r5, r6⟩ := hv
  obtain ⟨hl1, a1, cap1, b1, off1, us1, hveq, hc1, ha1, hus1, hk1⟩ := r6.row
  injection hveq with q1 q2 q3
  subst q1; subst q3
  obtain ⟨h1, hcu2, xs, ⟨hown, hpl, hpv⟩, hg2⟩ := h.tok i _ hi
  dsimp only at hown hpl hpv
  have hf2 : es2.flatten.length = es2.length * sz := JZ es2 hl2
  have hlim : (Tok.mk e sz n es2.flatten).lim = es.length * sz := by show n * sz - es2.flatten.length = _; rw [hf2, hn, Nat.add_mul]; omega
  rw [hlim] at hpv
  have hall : ∀ x ∈ es ++ es2, x.length = sz := fun x hx => by rcases List.mem_append.1 hx with h | h; exact hl1 x h; exact hl2 x h
  have hlen : (es ++ es2).length = n := by rw [List.length_append, hn]
  refine ⟨by rw [hnx]; exact r1, by rw [hlen, hcu]; exact r2, by rw [hlen, hκ]; exact r3, ?_⟩
  rw [r4]
  rcases hown.2 with ⟨hv0, hn0⟩ | ⟨gg, cap', cur, hvv, -, hcells, hncap, hcm, hcs, htake⟩
  · have e0 : es ++ es2 = [] := List.eq_nil_of_length_eq_zero (hlen.trans hn0)
    rw [e0]
    subst hn0
    exact Reads.sl sz [] a cap 0 0 (fun _ _ => undef) (Nat.zero_le _) (fun h => absurd rfl h) (fun i x hx => by simp at hx) (fun i x j c hx => by simp at hx) (fun i x j c hx => by simp at hx) (fun i x j c hx => by simp at hx)
  · have e1 : (Value.slice a n cap) = .slice (some ⟨gg, 0, none⟩) n cap' := by rw [← r4, r3]; exact hvv
    injection e1 with e2 e3 e4
    subst e2; subst e4
    have hrow : ∀ (k : Nat) (c : C), (es ++ es2).flatten[k]? = some c → ∃ u, xs[k]? = some u ∧ Reads V.S w c u := fun k c hk => by
      rw [List.flatten_append] at hk
      have hf1 := JZ es hl1
      by_cases hlt : k < es.flatten.length
      · rw [List.getElem?_append_left hlt] at hk
        obtain ⟨u, h3, h4, -, h5⟩ := hk1 k c hk
        have hne : es ≠ [] := fun e' => by subst e'; simp at hk
        have := ha1 hne
        injection this with this
        injection this with e4 e5
        subst e4
        rw [← e5, Nat.zero_add, Jw hcells] at h4
        refine ⟨u, ?_, h5⟩
        have hlt' : k < n * sz := by rw [hn, Nat.add_mul]; omega
        rw [← htake, List.getElem?_take_of_lt hlt']; simpa using h4
      · rw [List.getElem?_append_right (by omega)] at hk
        obtain ⟨u, h3, h4⟩ := hpv _ c hk
        refine ⟨u, ?_, h4⟩
        rw [show es.length * sz + (k - es.flatten.length) = k by omega] at h3
        exact h3
    rw [← hlen]
    refine ZM (us := fun k => xs.getD k undef) hall (by rw [hlen]; exact hncap) (fun k c hk => ?_)
    have hklt : k < n * sz := by have := (List.getElem?_eq_some_iff.1 hk).1; rw [JZ _ hall, hlen] at this; exact this
    obtain ⟨u, h3, h4⟩ := hrow k c hk
    have e5 : xs.getD k undef = u := by rw [List.getD_eq_getElem?_getD, h3]; rfl
    rw [e5, Nat.zero_add]
    refine ⟨?_, hS gg (by rw [hvv]; rfl) k hklt, h4.mono hL.S hL.cell⟩
    rw [Jw hcells]
    rw [← htake, List.getElem?_take_of_lt hklt] at h3
    simpa using h3
section
variable {E : Env} {st : St} {Q : Exit → Act → World → Prop} {ex : Exit}
theorem XQ.settleC {α : Type} [Enc α] [EncLen α] {b off i e n : Nat} {T : TypeId} {xs : List CA} {l l2 : List α} (hb : Ul st.hp b = some (.cells T xs)) (hx : xs[off]? = some (.apv i (Enc.sz α) n (Enc.encL l))) (hi : Ul st.tk i = some (some ⟨e, Enc.sz α, n, (Enc.encL l2).flatten⟩)) (hn : n = l.length + l2.length)
    (k : XQ E Q ex ⟨st.tm, (b, .cells T (xs.set off (.app i (Enc.sz α) (Enc.encL (l ++ l2))))) :: JR b st.hp, (i, some ⟨e, Enc.sz α, (Enc.encL (l ++ l2)).length, []⟩) :: JR i st.tk, st.nx, st.nt, st.df⟩) : XQ E Q ex st := by
  intro V a w hr
  obtain ⟨V', H, L, e1, e2, e3, e4⟩ := hr.h.settle hi
  have hn' : n = (Enc.encL l).length + (Enc.encL l2).length := by rw [Enc.len, Enc.len]; exact hn
  obtain ⟨hlt, o, ho, vs, rfl, hvs⟩ := hr.h.own b _ hb
  obtain ⟨u, hu, hur⟩ := hvs.2 off _ hx
  have hy := settle_reads hr.h hi hn' (Ga l2) hur L e1 e2 e3 e4
  rw [← Enc.app] at hy
  have hcells : ∀ j B, Ul ((b, HB.cells T (xs.set off (.app i (Enc.sz α) (Enc.encL (l ++ l2))))) :: JR b st.hp) j = some B → ∃ B0, Ul st.hp j = some B0 := fun j B hj => by
    rw [Ze, QU] at hj
    split at hj
    · rename_i e5; subst e5; exact ⟨_, hb⟩
    · exact ⟨_, hj⟩
  have hrels : rels V' w (xs.set off (.app i (Enc.sz α) (Enc.encL (l ++ l2)))) vs := by
    have h2 := hvs.mono L
    refine ⟨by rw [List.length_set]; exact h2.1, fun j x hj => ?_⟩
    rw [List.getElem?_set] at hj
    split at hj
    · rename_i e5; subst e5
      split at hj
      · cases hj; exact ⟨u, hu, hy⟩
      · cases hj
    · exact h2.2 j x hj
  refine k V' a w ⟨⟨H.ext, H.le0, H.sz, H.sub, fun j B hj => ?_, fun i' j A B hi' hj e5 => ?_, fun j B hj => ?_, fun j T' hj => ?_, fun i' j T' U g hi' hj => ?_⟩, e1.trans hr.nx, hr.nt, hr.df.le L, fun t' x ht' => (hr.tm t' x ht').mono L⟩
  · have hj' := hj
    rw [Ze, QU] at hj
    split at hj
    · rename_i e5; subst e5; cases hj
      obtain ⟨h5, o', h6, -⟩ := H.own b _ hb
      have hι : V'.ι b = V.ι b := L.ι b hlt
      exact ⟨h5, _, by rw [hι]; exact ho, vs, rfl, hrels⟩
    · exact H.own j B hj
  · obtain ⟨A0, hA⟩ := hcells i' A hi'
    obtain ⟨B0, hB⟩ := hcells j B hj
    exact H.inj i' j A0 B0 hA hB e5
  · obtain ⟨B0, hB⟩ := hcells j B hj
    exact H.new j B0 hB
  · have hl : ∀ q, Ul ((i, some (Tok.mk e (Enc.sz α) (Enc.encL (l ++ l2)).length [])) :: JR i st.tk) q = Ul ((i, some (Tok.mk e (Enc.sz α) n [])) :: st.tk) q := fun q => by
      rw [Ze, QU, QU, Enc.len, List.length_append, hn]
    dsimp only at hj
    rw [hl] at hj
    obtain ⟨b1, b2, ys, b3, b4⟩ := H.tok j T' hj
    exact ⟨b1, b2, ys, b3, fun g hg => ⟨(b4 g hg).1, (b4 g hg).2.1, fun q B hq => by
      obtain ⟨B0, hB⟩ := hcells q B hq
      exact (b4 g hg).2.2 q B0 hB⟩⟩
  · have hl : ∀ q, Ul ((i, some (Tok.mk e (Enc.sz α) (Enc.encL (l ++ l2)).length [])) :: JR i st.tk) q = Ul ((i, some (Tok.mk e (Enc.sz α) n [])) :: st.tk) q := fun q => by
      rw [Ze, QU, QU, Enc.len, List.length_append, hn]
    dsimp only at hi' hj
    rw [hl] at hi' hj
    exact H.tki i' j T' U g hi' hj
end
section
variable {E : Env} {st : St} {dd : Option Tmp} {ty : TypeId} {pos : String} {af : Array Edge} {g : Option (Nat × Bool)} {α : Type} [Enc α] [EncLen α]
theorem enc1_ne (z : α) : Enc.encL [z] ≠ [] := by rw [Enc.one]; simp
theorem OpOK.appendH {t e by_ i : Nat} {o1 o2 : Operand} {y : CA} {l : List α} {z : α} (ht : Jo E.P t = some (e, Enc.sz α)) (hte : ZT E.P e = some (Enc.sz α, by_)) (hb : Nat.ble by_ 100000 = true)
    (h1 : ev st.tm o1 = some (.v (.one (.app i (Enc.sz α) (Enc.encL l))))) (hi : Ul st.tk i = some (some ⟨e, Enc.sz α, (Enc.encL l).length, []⟩)) (h2 : ev st.tm o2 = some (.v (.one y))) (hs : SlE y [z]) (hm : Nat.ble (l.length + 1) 1000000000 = true) :
    OpOK E ⟨dd, .call { callee := .builtin .append, args := #[o1, o2], argTypes := #[t, t] }, ty, pos, af, g⟩ st (.v (.one (.apv i (Enc.sz α) ((Enc.encL l).length + 1) (Enc.encL l)))) ⟨st.hp, (i, some ⟨e, Enc.sz α, (Enc.encL l).length + 1, (Enc.encL [z]).flatten⟩) :: JR i st.tk, st.nx⟩ := by
  have := OpOK.appendP (E := E) (dd := dd) (ty := ty) (pos := pos) (af := af) (g := g) (n0 := (Enc.encL l).length) (es := Enc.encL l) (pv0 := []) ht hte (Nat.le_of_ble_eq_true hb) h1 (fun V w v h => app_apv h) hi (by simp) h2 hs.sl (by rw [Enc.len, Enc.len]; exact Nat.le_of_ble_eq_true hm) (enc1_ne z)
  rw [Enc.len [z], List.nil_append] at this
  exact this
theorem lt_H (l : List α) : (cond (decide (0 ≤ (l.length : Int))) (Nat.blt (l.length : Int).toNat ((Enc.encL l).length + 1)) false) = true := by
  rw [decide_eq_true (by omega), cond_true, Int.toNat_natCast, Enc.len]
  exact Nat.ble_eq_true_of_le (Nat.le_refl _)
theorem OpOK.storeH {t i e : Nat} {ag : Bool} {o1 o2 : Operand} {y y' : AV} {l : List α} {z : α} (v : α) (ht : Jy E.P t = some (ag, Enc.sz α)) (h1 : ev st.tm o1 = some (.v (.one (.tp i ((Enc.encL l).length + 1) ((l.length : Int).toNat * Enc.sz α))))) (h2 : ev st.tm o2 = some (.v y)) (hs : ASub y y') (he : y'.cells = (Enc.enc v).map CA.d)
    (hi : Ul st.tk i = some (some ⟨e, Enc.sz α, (Enc.encL l).length + 1, (Enc.encL [z]).flatten⟩)) (hdd : dd = none) :
    OpOK E ⟨dd, .store t o1 o2, ty, pos, af, g⟩ st (.tup []) ⟨st.hp, (i, some ⟨e, Enc.sz α, (Enc.encL l).length + 1, (Enc.encL [v]).flatten⟩) :: JR i st.tk, st.nx⟩ :=
  OpOK.storeP (l := [z]) (v := v) (k0 := l.length) (m := 0) ht h1 h2 hs he hi (by rw [Enc.len]; rfl) rfl (Nat.zero_lt_one) hdd
theorem n_H (l : List α) (x : α) : (Enc.encL l).length + 1 = l.length + [x].length := by rw [Enc.len]; rfl
end
section
variable {E : Env} {st : St} {dd : Option Tmp} {ty : TypeId} {pos : String} {af : Array Edge} {g : Option (Nat × Bool)}
theorem RO.loadCol {t b m0 sz f : Nat} {T : TypeId} {xs : List CA} {x : Operand} {col : List Int} {m v : Int} (ht : Jy E.P t = some (false, m0)) (hx : ev st.tm x = some (.v (.one (.ptr b (0 + m.toNat * sz + f))))) (hb : Ul st.hp b = some (.cells T xs))
    (hc : (List.range col.length).map (fun j => xs[j * sz + f]?) = col.map fun n => some (Ux n)) (hv : Yi col m = some v) : RO E ⟨dd, .load t x, ty, pos, af, g⟩ st (UJ v) := by
  obtain ⟨k, rfl, hk⟩ := idxS hv
  have h1 := congrArg (fun l : List (Option CA) => l[k]?) hc
  have hlt := (List.getElem?_eq_some_iff.1 hk).1
  rw [List.getElem?_map, List.getElem?_map, List.getElem?_range hlt, hk] at h1
  have h2 := Option.some.inj h1
  refine Q6 (y := Ux v) ht hx hb ?_
  rw [Int.toNat_natCast, Nat.zero_add]
  exact h2
end
section
variable {E : Env} {st : St} {dd : Option Tmp} {ty : TypeId} {pos : String} {af : Array Edge} {g : Option (Nat × Bool)}
theorem OpOK.lit2E {α : Type} [Enc α] (v0 v1 : α) {t e : Nat} {zs : List Value} {o0 o1 : Operand} {x0 x1 : AV} {ys : List CA} (ht : Jo E.P t = some (e, Enc.sz α)) (hze : JE E.P e = some zs) (hzl : zs.length = Enc.sz α) (hz : zs.all (·.oneCell') = true) (hpos : 0 < Enc.sz α) (hlen : 2 * Enc.sz α ≤ 16777216)
    (h0 : ev st.tm o0 = some (.v x0)) (h1 : ev st.tm o1 = some (.v x1)) (hf : Zh (JQ (Enc.sz α) 2) (JV zs 2) [(0, x0), (1, x1)] = some ys) (hs : CSubs ys (Enc.enc v0 ++ Enc.enc v1)) (hel : (Enc.enc v0).length = Enc.sz α ∧ (Enc.enc v1).length = Enc.sz α) :
    OpOK E ⟨dd, .buildSlice t 2 #[(0, o0), (1, o1)], ty, pos, af, g⟩ st (.v (.one (.app st.nx (Enc.sz α) (Enc.encL [v0, v1])))) ⟨st.hp, (st.nx, some ⟨e, Enc.sz α, (Enc.encL [v0, v1]).length, []⟩) :: st.tk, st.nx + 1⟩ :=
  OpOK.litApp (avs := [(0, x0), (1, x1)]) (Enc.encL [v0, v1]) ht hze hzl hz hpos hlen rfl (fun j i x hx => by
    match j, hx with
    | 0, hx => cases hx; exact ⟨o0, rfl, h0⟩
    | 1, hx => cases hx; exact ⟨o1, rfl, h1⟩) hf (by rw [Enc.map]; simpa using hs) (fun x hx => by
    rw [Enc.map] at hx
    obtain ⟨y, hy, rfl⟩ := List.mem_map.1 hx
    simp at hy
    rcases hy with rfl | rfl
    · exact hel.1
    · exact hel.2) (by rw [Enc.len]; rfl)
theorem OpOK.lit3E {α : Type} [Enc α] (v0 v1 v2 : α) {t e : Nat} {zs : List Value} {o0 o1 o2 : Operand} {x0 x1 x2 : AV} {ys : List CA} (ht : Jo E.P t = some (e, Enc.sz α)) (hze : JE E.P e = some zs) (hzl : zs.length = Enc.sz α) (hz : zs.all (·.oneCell') = true) (hpos : 0 < Enc.sz α) (hlen : 3 * Enc.sz α ≤ 16777216)
    (h0 : ev st.tm o0 = some (.v x0)) (h1 : ev st.tm o1 = some (.v x1)) (h2 : ev st.tm o2 = some (.v x2)) (hf : Zh (JQ (Enc.sz α) 3) (JV zs 3) [(0, x0), (1, x1), (2, x2)] = some ys) (hs : CSubs ys (Enc.enc v0 ++ Enc.enc v1 ++ Enc.enc v2)) (hel : (Enc.enc v0).length = Enc.sz α ∧ (Enc.enc v1).length = Enc.sz α ∧ (Enc.enc v2).length = Enc.sz α) :
    OpOK E ⟨dd, .buildSlice t 3 #[(0, o0), (1, o1), (2, o2)], ty, pos, af, g⟩ st (.v (.one (.app st.nx (Enc.sz α) (Enc.encL [v0, v1, v2])))) ⟨st.hp, (st.nx, some ⟨e, Enc.sz α, (Enc.encL [v0, v1, v2]).length, []⟩) :: st.tk, st.nx + 1⟩ :=
  OpOK.litApp (avs := [(0, x0), (1, x1), (2, x2)]) (Enc.encL [v0, v1, v2]) ht hze hzl hz hpos hlen rfl (fun j i x hx => by
    match j, hx with
    | 0, hx => cases hx; exact ⟨o0, rfl, h0⟩
    | 1, hx => cases hx; exact ⟨o1, rfl, h1⟩
    | 2, hx => cases hx; exact ⟨o2, rfl, h2⟩) hf (by rw [Enc.map]; simpa using hs) (fun x hx => by
    rw [Enc.map] at hx
    obtain ⟨y, hy, rfl⟩ := List.mem_map.1 hx
    simp at hy
    rcases hy with rfl | rfl | rfl
    · exact hel.1
    · exact hel.2.1
    · exact hel.2.2) (by rw [Enc.len]; rfl)
theorem RO.makeFunc3 {f : FuncId} {o1 o2 o3 : Operand} {i1 k1 i2 k2 i3 k3 : Nat} {dd : Option Tmp} (h1 : ev st.tm o1 = some (.v (.one (.ptr i1 k1)))) (h2 : ev st.tm o2 = some (.v (.one (.ptr i2 k2)))) (h3 : ev st.tm o3 = some (.v (.one (.ptr i3 k3)))) : RO E ⟨dd, .makeFunc (.func f) #[] #[o1, o2, o3], ty, pos, af, g⟩ st (.v (.one (.fn f [(i1, k1), (i2, k2), (i3, k3)]))) :=
  RO.makeFunc rfl (fun k p hk => by
    match k, hk with
    | 0, hk => cases hk; exact ⟨o1, rfl, h1⟩
    | 1, hk => cases hk; exact ⟨o2, rfl, h2⟩
    | 2, hk => cases hk; exact ⟨o3, rfl, h3⟩)
end
section
variable {E : Env} {st : St}
end
end Go.Proofs.Ytafddfoefeploaa
namespace Go.Proofs.Ytafddfoefeploaa
open Go.RowKit
set_option linter.unusedSimpArgs false
set_option linter.unusedVariables false
set_option linter.unusedSectionVars false
def Xc (P : Program) (f : FuncId) (args : List AV) (m : Mem) (pv : Value) (m' : Mem) : Prop :=
  J3 P f ∧ ∀ (E : Env) (V : Vu) (w : World) (vs : Array Value), E.P = P → HRel E V m.hp m.tk w → V.nx = m.nx → argsRel V w args vs →
    Calls P f vs w fun e w' => ∃ V', e = .panicked (Jz pv) ∧ HRel E V' m'.hp m'.tk w' ∧ V'.nx = m'.nx ∧ V.Le V' w w'
inductive EK where
  | ret (xs : List AV)
  | pan (v : Value)
def CallE (P : Program) (f : FuncId) (args : List AV) (m : Mem) (k : EK) (m' : Mem) : Prop := match k with
  | .ret xs => CallM P f args m (QD xs) m'
  | .pan v => Xc P f args m v m'
def EK.ok (P : Program) (st : St) (rs : List ResultVar) : EK → Prop
  | .ret xs => RAs P st rs xs
  | .pan _ => True
def EK.by : EK → Exit → Prop
  | .ret _, e => e = .normal ∨ e = .ret
  | .pan v, e => e = .panic (Jz v)
theorem WW {xs : List AV} : EK.by (.ret xs) .normal := .inl rfl
theorem WS {xs : List AV} : EK.by (.ret xs) .ret := .inr rfl
theorem ZP {v : Value} : EK.by (.pan v) (.panic (Jz v)) := rfl
theorem WG {P : Program} {st : St} {rs : List ResultVar} {v : Value} : EK.ok P st rs (.pan v) := trivial
theorem WA {P : Program} {st : St} {rs : List ResultVar} {xs : List AV} (h : RAs P st rs xs) : EK.ok P st rs (.ret xs) := h
theorem CallE.m {P : Program} {f : FuncId} {args : List AV} {m m' : Mem} {xs : List AV} (h : CallE P f args m (.ret xs) m') : CallM P f args m (QD xs) m' := h
theorem CallE.d {P : Program} {f : FuncId} {args : List AV} {m m' : Mem} {v : Value} (h : CallE P f args m (.pan v) m') : Xc P f args m v m' := h
theorem Kz {α β γ : Type} {f : α → Option γ} {g : β → Option γ} {a : α} {r : Option γ} (h : Sum.elim f g (.inl a) = r) : f a = r := h
theorem KX {α β γ : Type} {f : α → Option γ} {g : β → Option γ} {b : β} {r : Option γ} (h : Sum.elim f g (.inr b) = r) : g b = r := h
theorem JY {α β γ δ : Type} (ι : α ⊕ β → δ) {o : Option δ} {y : α ⊕ β} {f : α → Option γ} {g : β → Option γ} {r : γ} {G : Prop} (ho : o = some (ι y)) (h : Sum.elim f g y = some r) (k1 : ∀ a, o = some (ι (.inl a)) → f a = some r → G) (k2 : ∀ b, o = some (ι (.inr b)) → g b = some r → G) : G := by
  cases y with
  | inl a => exact k1 a ho h
  | inr b => exact k2 b ho h
def OpD (E : Env) (o : Oper) (st : St) (pv : Value) (m : Mem) : Prop := ∀ V a w, Rel E V st a w → ∀ (ro : Option Nat) (n : Nat) (K : Act → World → Prop) (Q : Exit → Act → World → Prop),
  (∀ V' w', HRel E V' m.hp m.tk w' → V'.nx = m.nx → V.Le V' w w' → Q (.panic (Jz pv)) a w') → o.wpIn (UM ro) n E.P a w K Q
section
variable {E : Env} {ro : Option Nat} {n : Nat} {ops : Array Oper} {Q : Exit → Act → World → Prop} {rest : List Oper} {st : St} {o : Oper} {x : TV} {d dd : Option Tmp} {ty : TypeId} {pos : String} {af : Array Edge} {g : Option (Nat × Bool)}
theorem Jd {pv : Value} {hp : List (Nat × HB)} {tk : List (Nat × Option Tok)} {nx : Nat} (hg : Yb ops st.tm o = some true) (ho : OpD E o st pv ⟨hp, tk, nx⟩) (k : XQ E Q (.panic (Jz pv)) ⟨st.tm, hp, tk, nx, st.nt, st.df⟩) : XL E ro n ops Q (o :: rest) st := by
  intro V a w h
  unfold wpListIn
  rw [if_pos (Z5 h hg)]
  exact ho V a w h ro n _ Q (fun V' w' H hn L => k V' a w' (h.mem H hn L))
theorem DieOp.mk {fx : List (Nat × TV)} {i : Nat} {m m' : Mem} {pv : Value} (ho : ops[i]? = some o) (hw : Yb ops (Ya ops st fx i m).tm o = some true) (h : OpD E o (Ya ops st fx i m) pv m') (k : XQ E Q (.panic (Jz pv)) ⟨(Ya ops st fx i m).tm, m'.hp, m'.tk, m'.nx, st.nt, st.df⟩) : DieOp E Q ops st fx i m :=
  ⟨o, ho, hw, fun V a w hr ro n K => h V a w hr ro n K Q (fun V' w' H hn L => k V' a w' (hr.mem H hn L))⟩
theorem Jn {Q' : Exit → Act → World → Prop} {e : Exit} (h : XQ E Q e st) (hq : ∀ a w, Q e a w → Q' e a w) : XQ E Q' e st := fun V a w hr => hq a w (h V a w hr)
def tyStruct (P : Program) (t : TypeId) : Bool := match P.underlying t with
  | some (.struct _) => true
  | _ => false
theorem RO.wrong {T : TypeId} {x : Operand} {e : Int} (ht : tyStruct E.P T = true) (hx : ev st.tm x = some (.v (.agg [Ux e]))) : RO E ⟨d, .makeInterface T x, ty, pos, af, g⟩ st (X3 (QJ T e)) := by
  refine ⟨(fun _ h => nomatch h), fun V a w hr => ⟨QJ T e, ?_, Ka rfl⟩⟩
  obtain ⟨vs, h1, h2, h3⟩ := hr.ev hx
  obtain ⟨u, h4, h5⟩ := h3 0 _ rfl
  have e1 : u = .int .i64 e := by cases h5; rfl
  subst e1
  have e2 : vs = #[.int .i64 e] := by
    apply Array.ext'
    have h6 : vs.toList.length = 1 := by simpa using h2
    match hv : vs.toList, h6 with
    | [y], _ =>
      have : vs[0]? = some y := by rw [← Array.getElem?_toList, hv]; rfl
      rw [h4] at this; cases this; rfl
  unfold tyStruct at ht
  split at ht
  · rename_i fs hu
    simp [execOp, Instr.makeInterface, run_underlying hu, h1, e2, QJ]
  · cases ht
theorem OpD.panic {x : Operand} {v : Value} {T : TypeId} (hx : ev st.tm x = some (X3 (.iface T v))) : OpD E ⟨dd, .panic x, ty, pos, af, g⟩ st (.iface T v) st.mem := by
  intro V a w hr ro n K Q hK
  refine ⟨fun _ _ => trivial, ?_⟩
  rw [Oper.semAt_eq _ _ _ (by intro c h; cases h)]
  have h1 := Yo (hr.ev hx)
  have h2 : (execOp a.eval ⟨dd, .panic x, ty, pos, af, g⟩).run E.P w = .halt (.panic (.iface T v)) w := by
    simp [execOp, Instr.panic, h1, goPanic]
  rw [h2]
  exact hK V w hr.h hr.nx (Vu.Le.refl _ _)
theorem Yy {x : Operand} {f : FuncId} {caps : List (Nat × Nat)} {ars : Array Operand} {args args0 : List AV} {ats : Array TypeId} {pv : Value} {hp0 hp1 hp1' hpF : List (Nat × HB)} {tk0 tk1 tk1' tkF : List (Nat × Option Tok)} {nx0 nx1 nx2 n : Nat}
    (rs : List Nat) (hx : ev st.tm x = some (.v (.one (.fn f caps)))) (ha : Zo st.tm ars.toList = some args)
    (hc : Xc E.P f args0 ⟨hp0, tk0, nx0⟩ pv ⟨hp1, tk1, nx1⟩) (hst : st.nx = n) (he : args ++ Xw caps = args0.map (AV.ren (W3 rs n))) (e3 : YH (W3 rs n) hp1 = hp1') (e4 : Zg (W3 rs n) tk1 = tk1')
    (hh : hpLe st.hp (YH (W3 rs n) hp0)) (ht : tkLe st.tk (Zg (W3 rs n) tk0)) (hhF : hpLe st.hp hpF) (htF : tkLe st.tk tkF) (hl : Nat.beq rs.length nx0 = true) (hnd : Wa rs = true) (hlt : (rs.all fun j => Nat.blt j n) = true) (d1 : Wh rs hpF = true) (d2 : Wh rs tkF = true)
    (b0 : hpBelow nx0 hp0) (c0 : (tk0.all fun p => Nat.blt p.1 nx0) = true) (ba : (args0.all fun y => y.belowB nx0) = true) (hle : Nat.ble nx0 nx1 = true) (hn : Nat.beq (nx1 + n) (nx2 + nx0) = true) :
    OpD E ⟨dd, .call { callee := .value x, args := ars, argTypes := ats }, ty, pos, af, g⟩ st pv ⟨hp1' ++ hpF, tk1' ++ tkF, nx2⟩ := by
  subst hst e3 e4
  have c0' := tkBelow_all c0
  have hl' : rs.length = nx0 := Nat.eq_of_beq_eq_true hl
  have hlt' : ∀ j ∈ rs, j < st.nx := fun j hj => Gb (List.all_eq_true.1 hlt j hj)
  have inj : ∀ i j, W3 rs st.nx i = W3 rs st.nx j → i = j := fun i j h => rho_inj (nodupN_ok hnd) hlt' h
  intro V a w hr ro n K Q hK
  refine ⟨fun _ _ => trivial, ?_⟩
  rw [Oper.semAt_eq _ _ _ (by intro c h; cases h)]
  obtain ⟨hv1, hv2⟩ := hr.ev hx
  have hrun : (execOp a.eval ⟨dd, .call { callee := .value x, args := ars, argTypes := ats }, ty, pos, af, g⟩).run E.P w = .ok (.enter f (ars.map a.eval ++ (caps.map fun p => Value.pointer (some ⟨V.ι p.1, p.2, none⟩)).toArray)) w := by
    have := hc.1 (ars.map a.eval ++ (caps.map fun p => Value.pointer (some ⟨V.ι p.1, p.2, none⟩)).toArray) w
    simp [execOp, resolve, hv2, Deferred.ofValue, invoke]
    simpa using this
  rw [hrun]
  refine ⟨(by intro h; cases h), ?_⟩
  have h0 := (hr.h.forgetLe hh ht).part inj b0 c0'
  have har : argsRel (pull (W3 rs st.nx) V nx0) w args0 (ars.map a.eval ++ (caps.map fun p => Value.pointer (some ⟨V.ι p.1, p.2, none⟩)).toArray) := by
    obtain ⟨h1, h2⟩ := (Zi hr ha).append (G0 hv1)
    rw [he] at h1 h2
    refine ⟨by simpa using h1, fun i y hy => ?_⟩
    obtain ⟨u, hu, hyu⟩ := h2 i (y.ren _) (by rw [List.getElem?_map, hy]; rfl)
    exact ⟨u, hu, hyu.pull (ZO (List.all_eq_true.1 ba y (List.mem_of_getElem? hy)))⟩
  have hc' : CallsIn Fence.wide (n - 1) E.P f _ w _ := callsIn_wide.2 (hc.2 ⟨E.P, w, X5 V _ _, pull (W3 rs st.nx) V nx0⟩ _ w _ rfl h0 rfl har)
  refine CallsIn.mono (F := UM ro) hc' ?_
  rintro e w' ⟨V1, rfl, H, hn1, L⟩
  have hn2 := Nat.eq_of_beq_eq_true hn
  have hnx := hr.nx
  dsimp only at hn1
  obtain ⟨H2, L2, L3⟩ := hr.h.turn (n := nx2) inj hh ht hhF htF (fun i hi => by rw [hnx]; exact hlt' _ (KO (by omega))) (fun i hi => by rw [Xe (by omega), hnx, hl'])
    (fun i B hi k hk e => apartB_ok d1 hi (by rw [← e]; exact KO (by omega))) (fun i T hi k hk e => apartB_ok d2 hi (by rw [← e]; exact KO (by omega))) b0 c0' (by rw [hn1, hnx]; exact hn2) (by rw [hn1]; exact Nat.le_of_ble_eq_true hle) H
  exact hK _ w' H2 rfl L2
theorem QH {x : Operand} {f : FuncId} {ars : Array Operand} {args args' : List AV} {ats : Array TypeId} {pv : Value} {m1 : Mem} (hx : ev st.tm x = some (.v (.one (.fn f [])))) (ha : Zo st.tm ars.toList = some args) (hs : Wn args = some args')
    (hc : Xc E.P f args' mem0 pv m1) : OpD E ⟨dd, .call { callee := .value x, args := ars, argTypes := ats }, ty, pos, af, g⟩ st pv st.mem := by
  intro V a w hr ro n K Q hK
  refine ⟨fun _ _ => trivial, ?_⟩
  rw [Oper.semAt_eq _ _ _ (by intro c h; cases h)]
  rw [call_enters (by have := (hr.ev hx).2; simpa using this) hc.1]
  refine ⟨(by intro h; cases h), ?_⟩
  have har : argsRel (ZL V.S) w args' (ars.map a.eval) := by
    obtain ⟨h1, h2⟩ := Zi hr ha
    obtain ⟨h3, h4⟩ := asAVs_spec hs
    refine ⟨by omega, fun i y hy => ?_⟩
    obtain ⟨x, hx', hxy⟩ := h4 i y hy
    obtain ⟨u, hu, hxu⟩ := h2 i x hx'
    exact ⟨u, hu, hxy.rel hxu⟩
  have hc' : CallsIn Fence.wide (n - 1) E.P f _ w _ := callsIn_wide.2 (hc.2 (WD E.P w V.S) (ZL V.S) w _ rfl (Wv hr.h.sz) rfl har)
  refine CallsIn.mono (F := UM ro) hc' ?_
  rintro e w' ⟨V1, rfl, H, hn, L⟩
  have hg : V.Grow { V with S := V1.S } w w' := ⟨Nat.le_refl _, fun _ _ => rfl, fun _ _ => rfl, fun _ _ _ _ => rfl, H.le0.S, fun b o h => by
    rcases H.sub b o h with h1 | h1 | h1
    · exact .inl h1
    · exact .inr h1
    · exact h1.elim, H.sz⟩
  have hx' : Gv w w' := H.ext
  exact hK { V with S := V1.S } w' (hr.h.later hx' hg) hr.nx (hr.h.le hx' hg)
theorem OpD.callW {x : Operand} {f : FuncId} {caps : List (Nat × Nat)} {ars : Array Operand} {args args' : List AV} {ats : Array TypeId} {pv : Value} {m' : Mem} {hp0 : List (Nat × HB)} {tk0 : List (Nat × Option Tok)} {nx0 : Nat} (hx : ev st.tm x = some (.v (.one (.fn f caps)))) (ha : Zo st.tm ars.toList = some args) (he : args ++ Xw caps = args')
    (hc : Xc E.P f args' ⟨hp0, tk0, nx0⟩ pv m') (hn0 : st.nx = nx0) (hh : hpLe st.hp hp0) (ht : tkLe st.tk tk0) : OpD E ⟨dd, .call { callee := .value x, args := ars, argTypes := ats }, ty, pos, af, g⟩ st pv m' := by
  subst hn0; subst he
  intro V a w hr ro n K Q hK
  refine ⟨fun _ _ => trivial, ?_⟩
  rw [Oper.semAt_eq _ _ _ (by intro c h; cases h)]
  obtain ⟨hv1, hv2⟩ := hr.ev hx
  have hrun : (execOp a.eval ⟨dd, .call { callee := .value x, args := ars, argTypes := ats }, ty, pos, af, g⟩).run E.P w = .ok (.enter f (ars.map a.eval ++ (caps.map fun p => Value.pointer (some ⟨V.ι p.1, p.2, none⟩)).toArray)) w := by
    have := hc.1 (ars.map a.eval ++ (caps.map fun p => Value.pointer (some ⟨V.ι p.1, p.2, none⟩)).toArray) w
    simp [execOp, resolve, hv2, Deferred.ofValue, invoke]
    simpa using this
  rw [hrun]
  refine ⟨(by intro h; cases h), ?_⟩
  have hc' : CallsIn Fence.wide (n - 1) E.P f _ w _ := callsIn_wide.2 (hc.2 E V w _ rfl (hr.h.forgetLe hh ht) hr.nx ((Zi hr ha).append (G0 hv1)))
  refine CallsIn.mono (F := UM ro) hc' ?_
  rintro e w' ⟨V', rfl, H, hn, L⟩
  exact hK V' w' H hn L
end
theorem leaves_then {E : Env} {hp : List (Nat × HB)} {tk : List (Nat × Option Tok)} {F : Fence} {n : Nat} {P : Program} {fn : Func} {tmps : Array Value} {R : Ending → World → Prop} {u : FrameMode} (hu : u ≠ .run) {rest : List Deferred} : ∀ (bs : List Nat) (w : World) (V : Vu), HRel E V hp tk w → bs.Nodup →
    (∀ b ∈ bs, V.S b 0 ∧ w.heap[b]? = some (.deferred (some [])) ∧ ∀ o, ¬ E.V0.S b o) →
    (∀ w' V', HRel E V' hp tk w' → V'.nx = V.nx → V'.ι = V.ι → V.Lx V' w w' → (∀ b o, b ∉ bs → V.S b o → V'.S b o) → (∀ b, b ∉ bs → w'.heap[b]? = w.heap[b]?) → LeavesInM F n P fn tmps R rest u w') →
    LeavesInM F n P fn tmps R (bs.map (fun b => { target := .collected b, args := #[] }) ++ rest) u w
  | [], w, V, h, _, _, hK => hK w V h rfl rfl (Vu.Lx.refl _ _) (fun _ _ _ h => h) (fun _ _ => rfl)
  | b :: bs, w, V, h, hn, hb, hK => by
    obtain ⟨h1, h2, h3⟩ := hb b (by simp)
    obtain ⟨h4, h5⟩ := List.nodup_cons.1 hn
    obtain ⟨H, L⟩ := h.take h1 h2 h3
    refine ⟨hu, .inl ⟨b, _, rfl, run_takeDeferred h2, ?_⟩⟩
    refine leaves_then hu bs _ _ H h5 (fun b' hb' => ?_) (fun w' V' hw' hn' hι' L' hS' hh' => hK w' V' hw' hn' hι' (L.trans L') (fun b' o hm hs => hS' b' o (fun h => hm (by simp [h])) ⟨hs, fun e => hm (by simp [e])⟩) (fun b' hm => (hh' b' (fun h => hm (by simp [h]))).trans (World.putObj_heap_other (fun e => hm (by simp [e])))))
    obtain ⟨h6, h7, h8⟩ := hb b' (by simp [hb'])
    have hne : b' ≠ b := fun e => h4 (by rw [← e]; exact hb')
    exact ⟨⟨h6, hne⟩, (World.putObj_heap_other hne).trans h7, h8⟩
theorem leaves_pan {E : Env} {V : Vu} {st : St} {a : Act} {w : World} (hr : Rel E V st a w) (hd : st.df = []) {F : Fence} {n : Nat} {P : Program} {fn : Func} {tmps : Array Value} {R : Ending → World → Prop} {ch : List PanicEntry}
    (hK : ∀ w' V', HRel E V' st.hp st.tk w' → V'.nx = V.nx → V.Lx V' w w' → R (.panicked ch) w') : LeavesInM F n P fn tmps R a.defers (.panicking ch) w := by
  obtain ⟨bs, h1, h2, h3⟩ := hr.df.of_nil hd
  rw [h1, ← List.append_nil (List.map _ bs)]
  exact leaves_then (by simp) bs w V hr.h h2 h3 (fun w' V' H hn hι L _ _ => hK w' V' H hn L)
section
variable {E : Env} {st : St} {dd : Option Nat} {ty : TypeId} {pos : String} {af : Array Edge} {g : Option (Nat × Bool)}
theorem OpD.yield {x : Operand} {L : Nat} {ars : Array Operand} {args : List AV} {ats : Array TypeId} {p0 p1 : Option Code} {WF tm1 : List (Nat × TV)} {nt0 nt1 : Nat} {ps0 ps1 : Array Nat} {as0 as1 bd0 bd1 : Code} {D0 D1 : Nat} {sa sb : St} {pv : Value}
    (hx : ev st.tm x = some (.v (.one (.yld L)))) (ha : Zo st.tm ars.toList = some args) (hL : Ul st.hp L = some (.loop .ready p0 WF nt0 ps0 as0 bd0 D0)) (hlen : ars.size = ps0.size) (hps : ps0.toList.all (fun t => Nat.blt t nt0) = true)
    (h1 : ExecOK E.P (some L) as0 ⟨Ki ps0.toList args WF, st.hp, st.tk, st.nx, nt0, []⟩ .normal sa)
    (h2 : Ul sa.hp L = some (.loop .ready p1 tm1 nt1 ps1 as1 bd1 D1))
    (h3 : ExecOK E.P (some L) bd0 ⟨sa.tm, (L, .loop .busy p1 tm1 nt1 ps1 as1 bd1 D1) :: JR L sa.hp, sa.tk, sa.nx, sa.nt, sa.df⟩ (.panic (Jz pv)) sb) (hdf : sb.df = []) (hP0 : E.P = Try.prog := by rfl) :
    OpD E ⟨dd, .call { callee := .value x, args := ars, argTypes := ats }, ty, pos, af, g⟩ st pv ⟨sb.hp, sb.tk, sb.nx⟩ := by
  intro V a w hr ro n K Q hK
  refine ⟨fun _ _ => trivial, ?_⟩
  rw [Oper.semAt_eq _ _ _ (by intro c h; cases h)]
  obtain ⟨hLnx, hv⟩ := hr.ev hx
  obtain ⟨-, ob, hob, hD, fn, tmps, rfl, hsz, htm⟩ := hr.h.own L _ hL
  rw [run_yieldOp rfl hv hob hlen]
  refine ⟨(by intro h; cases h), ?_⟩
  have har := Zi hr ha
  obtain ⟨hal, -⟩ := evArgs_spec ha
  have hput := putArgs_rel (V := V) (w := w) ps0.toList args (ars.map a.eval).toList WF tmps (by simpa using hal.symm) (fun i y hy => by
    obtain ⟨u, hu1, hu2⟩ := har.2 i y hy
    exact ⟨u, by simpa using hu1, hu2⟩) (fun t ht => by rw [hsz]; exact Nat.le_of_ble_eq_true (List.all_eq_true.1 hps t ht)) htm
  have hfold : (ps0.zip (ars.map a.eval)).foldl (fun tmps (x : Nat × Value) => tmps.setIfInBounds x.1 x.2) tmps = (ps0.toList.zip (ars.map a.eval).toList).foldl (fun tmps (p : Nat × Value) => tmps.setIfInBounds p.1 p.2) tmps := by
    rw [← Array.foldl_toList, Array.toList_zip]
  refine roundIn_of_wpV (F := UM ro) fn.2 trivial ?_
  have hR0 : Rel (E.at V w) V ⟨Ki ps0.toList args WF, st.hp, st.tk, st.nx, nt0, []⟩ { tmps := (ps0.zip (ars.map a.eval)).foldl (fun tmps (x : Nat × Value) => tmps.setIfInBounds x.1 x.2) tmps, defers := [] } w :=
    ⟨hr.h.rebase, hr.nx, by rw [hfold, hput.1]; exact hsz, dfRel.nil, fun t y hy => by rw [hfold]; exact hput.2 t y hy⟩
  refine h1 (E.at V w) (some (V.ι L)) (n - 1) _ rfl ⟨hLnx, rfl⟩ ?_ V _ w hR0
  intro V1 a1 w1 hr1
  obtain ⟨hL1, ob1, hob1, hD1, fn1, tmps1, rfl, hsz1, htm1⟩ := hr1.h.own L _ h2
  have hι1 : V1.ι L = V.ι L := hr1.h.le0.ι L hLnx
  have hb := run_beginRound (P := E.P) hob1 rfl
  rw [hι1] at hb hob1
  refine ⟨_, hb, ?_⟩
  obtain ⟨H2, L2⟩ := hr1.h.putObj (o' := .loop { state := .busy, pending := p1, fn := fn1, tmps := tmps1, params := ps1, assign := as1, body := bd1, defers := V1.ι D1 }) (B' := .loop .busy p1 tm1 nt1 ps1 as1 bd1 D1) h2 (fun hle => ⟨hD1, fn1, tmps1, rfl, hsz1, fun t y hy => (htm1 t y hy).mono hle⟩)
  rw [hι1] at H2 L2
  have hR1 : Rel (E.at V w) V1 ⟨sa.tm, (L, .loop .busy p1 tm1 nt1 ps1 as1 bd1 D1) :: JR L sa.hp, sa.tk, sa.nx, sa.nt, sa.df⟩ a1 _ :=
    ⟨H2.congr (fun j => Ze L _ sa.hp j) (fun _ => rfl), hr1.nx, hr1.nt, hr1.df.le L2, fun t y hy => (hr1.tm t y hy).mono L2⟩
  refine h3 (E.at V w) (some (V.ι L)) (n - 1) _ rfl ⟨hLnx, rfl⟩ ?_ V1 a1 _ hR1
  intro V3 a3 w3 hr3
  obtain ⟨fd, hfd⟩ : ∃ fd, E.P.funcs[fn.1]? = some fd := by rw [hP0]; exact Option.isSome_iff_exists.1 fn.2
  refine ⟨fd, hfd, leaves_pan hr3 hdf (fun w' V' H hn L => ⟨rfl, ?_⟩)⟩
  obtain ⟨H5, L5⟩ := hr.h.back H
  exact hK V' w' H5 (hn.trans hr3.nx) L5
end
theorem rangeFunc_outD {P : Program} {g : Operand} {ps : Array Nat} {assign body : Code} {st : St} {gf : FuncId} {caps : List (Nat × Nat)} {m2 : Mem} {pv : Value}
    (hg : ev st.tm g = some (.v (.one (.fn gf caps))))
    (hc : Xc P gf (.one (.yld (st.nx + 1)) :: Xw caps) ⟨(st.nx + 1, .loop .ready none st.tm st.nt ps assign body st.nx) :: (st.nx, .obj (.deferred (some []))) :: st.hp, st.tk, st.nx + 2⟩ pv m2)
    (hD : Ul m2.hp st.nx = some (.obj (.deferred (some [])))) :
    ExecOK P none (.rangeFunc g ps assign body) st (.panic (Jz pv)) ⟨st.tm, JR st.nx (JR (st.nx + 1) m2.hp), m2.tk, m2.nx, st.nt, st.df⟩ := by
  intro E ro n Q hP hro hQ V a w hr
  subst hP
  cases hro
  refine wpV_rangeFunc (fun fn _ => ?_)
  obtain ⟨hv1, hv2⟩ := hr.ev hg
  have H1 := hr.h.addOwn (.deferred (some [])) (.obj (.deferred (some []))) rfl
  have L1 := hr.h.le (w' := w.alloc (.deferred (some []))) ⟨rfl, rfl, rfl, by simp, fun k hk _ => Below.heap_alloc w _ k hk⟩ (V.add_grow w.heap.size hr.h.sz ⟨rfl, rfl, rfl, by simp, fun k hk _ => Below.heap_alloc w _ k hk⟩)
  have L2 := H1.le (w' := (w.alloc (.deferred (some []))).alloc (.loop { state := .ready, pending := none, fn := fn, tmps := a.tmps, params := ps, assign := assign, body := body, defers := w.heap.size })) ⟨rfl, rfl, rfl, by simp, fun k hk _ => Below.heap_alloc _ _ k hk⟩ (Vu.add_grow _ (w.alloc (.deferred (some []))).heap.size H1.sz ⟨rfl, rfl, rfl, by simp, fun k hk _ => Below.heap_alloc _ _ k hk⟩)
  have hι : ((V.add w.heap.size).add (w.alloc (.deferred (some []))).heap.size).ι V.nx = w.heap.size := by
    rw [L2.ι V.nx (Nat.lt_succ_self _), V.add_at]
  have H2 := H1.addOwn (.loop { state := .ready, pending := none, fn := fn, tmps := a.tmps, params := ps, assign := assign, body := body, defers := w.heap.size }) (.loop .ready none st.tm st.nt ps assign body V.nx)
    ⟨Nat.lt_of_lt_of_le (Nat.lt_succ_self _) (Nat.le_succ _), fn, a.tmps, by rw [hι], hr.nt, fun t x hx => ((hr.tm t x hx).mono L1).mono L2⟩
  have L12 := L1.trans L2
  generalize hV2 : (V.add w.heap.size).add (w.alloc (.deferred (some []))).heap.size = V2 at H2 L2 L12 hι
  have hnx2 : V2.nx = st.nx + 2 := by rw [← hV2]; show V.nx + 1 + 1 = _; rw [hr.nx]
  have hιL : V2.ι (V.nx + 1) = w.heap.size + 1 := by
    rw [← hV2]
    have := (V.add w.heap.size).add_at (w.alloc (.deferred (some []))).heap.size
    rw [World.size_alloc] at this
    rw [World.size_alloc]; exact this
  have hcl : (V.add w.heap.size).nx = V.nx + 1 := rfl
  rw [hcl] at H2
  rw [hr.nx] at H2 hιL hι
  obtain ⟨W2, hW2⟩ : ∃ W2, (w.alloc (.deferred (some []))).alloc (.loop { state := .ready, pending := none, fn := fn, tmps := a.tmps, params := ps, assign := assign, body := body, defers := w.heap.size }) = W2 := ⟨_, rfl⟩
  rw [hW2] at H2 L12
  refine ⟨w.heap.size + 1, [{ target := .collected w.heap.size, args := #[] }], W2, { target := .fn (.func gf) (caps.map fun p => Value.pointer (some ⟨V.ι p.1, p.2, none⟩)).toArray, args := #[.func (.yield (w.heap.size + 1)) #[] #[]] }, W2, gf,
    #[.func (.yield (w.heap.size + 1)) #[] #[]] ++ (caps.map fun p => Value.pointer (some ⟨V.ι p.1, p.2, none⟩)).toArray, W2, ?_, ?_, ?_, ?_, (by intro h; cases h), ?_⟩
  · rw [← hW2]; exact run_enterLoop_outer fn.1 a.tmps ps assign body
  · simp only [resolve, hv2]
    simp [go_sem]
  · exact fun _ _ => trivial
  · have := hc.1 (#[.func (.yield (w.heap.size + 1)) #[] #[]] ++ (caps.map fun p => Value.pointer (some ⟨V.ι p.1, p.2, none⟩)).toArray) W2
    simp only [invoke]; exact this
  · have hargs : argsRel V2 W2 (.one (.yld (st.nx + 1)) :: Xw caps) (#[.func (.yield (w.heap.size + 1)) #[] #[]] ++ (caps.map fun p => Value.pointer (some ⟨V.ι p.1, p.2, none⟩)).toArray) := by
      have h1 : argsRel V2 W2 [.one (.yld (st.nx + 1))] #[.func (.yield (w.heap.size + 1)) #[] #[]] := ⟨rfl, fun i y hy => by
        match i, hy with
        | 0, hy => cases hy; exact ⟨_, rfl, by rw [hnx2]; omega, by rw [hιL]; rfl⟩⟩
      have h2 : argsRel V2 W2 (Xw caps) (caps.map fun p => Value.pointer (some ⟨V.ι p.1, p.2, none⟩)).toArray := by
        have h3 := G0 (V := V2) (w := W2) (caps := caps) (fun p hp => Nat.lt_of_lt_of_le (hv1 p hp) L12.nx)
        rw [List.map_congr_left (g := fun p => Value.pointer (some ⟨V.ι p.1, p.2, none⟩)) (fun p hp => by rw [L12.ι p.1 (hv1 p hp)])] at h3
        exact h3
      exact h1.append h2
    have hcall := hc.2 E V2 W2 _ rfl H2 hnx2 hargs
    have hcall' : CallsIn Fence.wide (n - 1) E.P gf _ W2 _ := callsIn_wide.2 hcall
    refine CallsIn.mono (F := UM none) hcall' ?_
    rintro e' w3 ⟨V3, rfl, H3, hn3, L3⟩
    have L := L12.trans L3
    have H5 := H3.drop (st.nx + 1)
    have hD5 : Ul (JR (st.nx + 1) m2.hp) st.nx = some (.obj (.deferred (some []))) := by
      rw [KE, if_neg (by omega)]; exact hD
    obtain ⟨H6, L6⟩ := H5.freeze hD5
    have e1 : V3.ι st.nx = w.heap.size := by rw [L3.ι _ (by rw [hnx2]; omega)]; exact hι
    obtain ⟨-, oD, hoD, hDr⟩ := H5.own _ _ hD5
    have hoD' : oD = .deferred (some []) := hDr
    rw [hoD', e1] at hoD
    obtain ⟨V6, hV6⟩ : ∃ V6 : Vu, { V3 with S := fun b o => V3.S b o ∨ b = V3.ι st.nx } = V6 := ⟨_, rfl⟩
    have hS6 : V6.S w.heap.size 0 := by rw [← hV6]; exact .inr e1.symm
    have hn6 : V6.nx = m2.nx := by rw [← hV6]; exact hn3
    rw [hV6] at H6 L6
    have LL := L.trans L6
    exact hQ V6 _ _ ⟨H6, hn6, hr.nt, hr.df.push LL (Nat.le_refl _) hS6 hoD (fun o hs => (H5.new _ _ hD5).2 o (by rw [e1]; exact H5.le0.S _ _ hs)), fun t x hx => (hr.tm t x hx).mono LL⟩
theorem JP {P : Program} {f : FuncId} {fn : Func} {c : Code} {args : List AV} {m : Mem} {Y : Type} (y : Y) (stf : Y → St) (kf : Y → EK) (hf : P.funcs[f]? = some fn) (hb : fn.body = some c) (hen : J3 P f) (hnt : args.length ≤ fn.ntmps)
    (hdf : ∀ y, (stf y).df = []) (hres : ∀ y, (kf y).ok P (stf y) fn.results.toList)
    (h : ∀ (w0 : World) (M : Nat → Prop) (V0 : Vu) (Q : Exit → Act → World → Prop), V0.nx ≤ m.nx →
      (∀ (e : Exit) (st' : St), (kf y).by e → st'.df = [] → StLe ⟨P, w0, M, V0⟩ st' (stf y) → XQ ⟨P, w0, M, V0⟩ Q e st') → XC ⟨P, w0, M, V0⟩ none 0 Q c ⟨J7 0 args, m.hp, m.tk, m.nx, fn.ntmps, []⟩) (hP0 : P = Try.prog := by rfl) :
    CallE P f args m (kf y) ⟨(stf y).hp, (stf y).tk, (stf y).nx⟩ := by
  have hd := hdf y
  have hr := hres y
  generalize stf y = st1 at hd hr h ⊢
  cases hk : kf y with
  | ret xs =>
    rw [hk] at hr
    refine QT st1 hf hb hen hnt hd hr (fun w0 M V0 Q hv hQ => h w0 M V0 Q hv (fun e st' he hdf' hle => ?_)) hP0
    rw [hk] at he
    exact hQ e st' st'.hp he (by rw [hdf']; rfl) (by cases st'; dsimp only at hdf'; subst hdf'; exact hle)
  | pan pv =>
    refine ⟨hen, fun E V w vs hP H hn hargs => ?_⟩
    refine (callsIn_wide (n := 0)).1 (callsIn_of_wpV (F := Fence.wide) (vf_of hP0 hf) hf hb trivial ?_)
    have hR0 : Rel (E.at V w) V ⟨J7 0 args, m.hp, m.tk, m.nx, fn.ntmps, []⟩ { tmps := vs ++ Array.replicate (fn.ntmps - vs.size) undef, defers := [] } w := by
      refine ⟨H.rebase, hn, by simp [hargs.1]; omega, dfRel.nil, fun t x hx => ?_⟩
      obtain ⟨k, y, h1, h2, rfl⟩ := GM args 0 t x hx
      obtain ⟨u, hu, hy⟩ := hargs.2 k y h2
      have hk : k < vs.size := (Array.getElem?_eq_some_iff.1 hu).1
      have : (vs ++ Array.replicate (fn.ntmps - vs.size) undef).getD t undef = u := by
        rw [show t = k by omega, Array.getD_eq_getD_getElem?, Array.getElem?_append_left hk, hu]; rfl
      rw [this]; exact hy
    have hgo : ∀ E' : Env, E' = E.at V w → E'.P = P → E'.V0 = V → XC E' none 0 (bodyPostM Fence.wide 0 P fn (fun e w' => ∃ V', e = .panicked (Jz pv) ∧ HRel E V' st1.hp st1.tk w' ∧ V'.nx = st1.nx ∧ V.Le V' w w')) c ⟨J7 0 args, m.hp, m.tk, m.nx, fn.ntmps, []⟩ := by
      rintro ⟨P', w0, M, V0⟩ he hP' hV'
      dsimp only at hP' hV'
      subst hP'
      refine h w0 M V0 _ (by rw [hV', hn]; exact Nat.le_refl _) ?_
      intro e st' hby hdf' hle
      rw [hk] at hby
      cases (show e = .panic (Jz pv) from hby)
      intro V1 a1 w1 hr1
      rw [he] at hr1 hle
      obtain ⟨V2, hr2⟩ := hr1.less hle
      refine leaves_pan hr2 hd (fun w' V' H' hn' L' => ?_)
      obtain ⟨H5, L5⟩ := H.back H'
      exact ⟨V', rfl, H5, hn'.trans hr2.nx, L5⟩
    have := hgo (E.at V w) rfl hP rfl V _ w hR0
    rw [show (E.at V w).P = P from hP] at this
    exact this
theorem grow_same {E : Env} {V : Vu} {hp : List (Nat × HB)} {tk : List (Nat × Option Tok)} {w w1 : World} (h : HRel E V hp tk w) (hx : ExtM (fun _ => False) w w1) : V.Grow V w w1 :=
  ⟨Nat.le_refl _, fun _ _ => rfl, fun _ _ => rfl, fun _ _ _ _ => rfl, fun _ _ h => h, fun _ _ h => .inl h, fun b o hs => Nat.lt_of_lt_of_le (h.sz b o hs) hx.size⟩
theorem XL.defer {E : Env} {n : Nat} {ops : Array Oper} {Q : Exit → Act → World → Prop} {rest : List Oper} {st : St} {pos : String} {af : Array Edge} {ty : TypeId} {x : Operand} {ats : Array TypeId} {f T i : Nat} (hc : Catch E.P f T) (hx : ev st.tm x = some (.v (.one (.fn f [(i, 0)])))) (hdf : st.df = [])
    (k : XL E none n ops Q rest ⟨st.tm, st.hp, st.tk, st.nx, st.nt, [i, f, T]⟩) : XL E none n ops Q (⟨none, .defer { callee := .value x, args := #[], argTypes := ats }, ty, pos, af, none⟩ :: rest) st := by
  intro V a w hr
  unfold wpListIn
  rw [if_pos (by simp [Region.wanted])]
  refine ⟨fun _ _ => trivial, ?_⟩
  obtain ⟨hv1, hv2⟩ := hr.ev hx
  have hrun : (Oper.semAt (UM none).round a.eval ⟨none, .defer { callee := .value x, args := #[], argTypes := ats }, ty, pos, af, none⟩).run E.P w = .ok (.defer (closeD f ⟨V.ι i, 0, none⟩)) w := by
    simp [UM, Oper.semAt_none, execOp, resolve, hv2, Deferred.ofValue]
  rw [hrun]
  refine k V _ w ⟨hr.h, hr.nx, hr.nt, ?_, hr.tm⟩
  obtain ⟨bs, h1, h2, h3⟩ := hr.df.of_nil hdf
  exact .inr ⟨i, f, T, [], bs, rfl, hv1 (i, 0) (by simp), hc, by simp only [List.map_nil, List.nil_append]; rw [← h1]; rfl, by simpa using ⟨h2, h3⟩⟩
def CEnd (E : Env) (stf : St) (i g T : Nat) (e : Exit) (st' : St) : Prop :=
  ((e = .normal ∨ e = .ret) ∧ StLe E ⟨st'.tm, st'.hp, st'.tk, st'.nx, st'.nt, []⟩ stf) ∨
  ∃ (x : Int) (Tc : TypeId) (c0 : CA), e = .panic (Jz (QJ T x)) ∧ Ul st'.hp i = some (.cells Tc [c0]) ∧ StLe E ⟨st'.tm, (i, .cells Tc [Ux x]) :: JR i st'.hp, st'.tk, st'.nx, st'.nt, []⟩ stf
theorem cendN {E : Env} {stf st' : St} {i g T : Nat} {e : Exit} (he : e = .normal ∨ e = .ret) (hle : StLe E ⟨st'.tm, st'.hp, st'.tk, st'.nx, st'.nt, []⟩ stf) : CEnd E stf i g T e st' := .inl ⟨he, hle⟩
theorem Wg {E : Env} {stf st' : St} {i g T : Nat} (x : Int) (Tc : TypeId) (c0 : CA) (hc : Ul st'.hp i = some (.cells Tc [c0])) (hle : StLe E ⟨st'.tm, (i, .cells Tc [Ux x]) :: JR i st'.hp, st'.tk, st'.nx, st'.nt, []⟩ stf) : CEnd E stf i g T (.panic (Jz (QJ T x))) st' := .inr ⟨x, Tc, c0, rfl, hc, hle⟩
theorem CallM.of_bodyC {P : Program} {f : FuncId} {fn : Func} {c : Code} {args : List AV} {m : Mem} (stf : St) {xs : List AV} (i g T : Nat) (hf : P.funcs[f]? = some fn) (hb : fn.body = some c) (hen : J3 P f) (hnt : args.length ≤ fn.ntmps)
    (hdf : stf.df = []) (hres : RAs P stf fn.results.toList xs)
    (h : ∀ (w0 : World) (M : Nat → Prop) (V0 : Vu) (Q : Exit → Act → World → Prop), V0.nx ≤ m.nx →
      (∀ (e : Exit) (st' : St), st'.df = [i, g, T] → CEnd ⟨P, w0, M, V0⟩ stf i g T e st' → XQ ⟨P, w0, M, V0⟩ Q e st') → XC ⟨P, w0, M, V0⟩ none 0 Q c ⟨J7 0 args, m.hp, m.tk, m.nx, fn.ntmps, []⟩) (hP0 : P = Try.prog := by rfl) :
    CallM P f args m (QD xs) ⟨stf.hp, stf.tk, stf.nx⟩ := by
  refine ⟨hen, fun E V w vs hP H hn hargs => ?_⟩
  refine (callsIn_wide (n := 0)).1 (callsIn_of_wpV (F := Fence.wide) (vf_of hP0 hf) hf hb trivial ?_)
  have hR0 : Rel (E.at V w) V ⟨J7 0 args, m.hp, m.tk, m.nx, fn.ntmps, []⟩ { tmps := vs ++ Array.replicate (fn.ntmps - vs.size) undef, defers := [] } w := by
    refine ⟨H.rebase, hn, by simp [hargs.1]; omega, dfRel.nil, fun t x hx => ?_⟩
    obtain ⟨k, y, h1, h2, rfl⟩ := GM args 0 t x hx
    obtain ⟨u, hu, hy⟩ := hargs.2 k y h2
    have hk : k < vs.size := (Array.getElem?_eq_some_iff.1 hu).1
    have : (vs ++ Array.replicate (fn.ntmps - vs.size) undef).getD t undef = u := by
      rw [show t = k by omega, Array.getD_eq_getD_getElem?, Array.getElem?_append_left hk, hu]; rfl
    rw [this]; exact hy
  obtain ⟨R, Ur⟩ : ∃ R : Ending → World → Prop, R = fun e w' => ∃ v V', e = .returned v ∧ HRel E V' stf.hp stf.tk w' ∧ V'.nx = stf.nx ∧ V.Le V' w w' ∧ (QD xs).rel V' w' v := ⟨_, rfl⟩
  have fin : ∀ (tm : List (Nat × TV)) (hp : List (Nat × HB)) (tk : List (Nat × Option Tok)) (nx nt : Nat) (V1 : Vu) (tmps : Array Value) (w1 : World) (bs0 : List Nat), StLe (E.at V w) ⟨tm, hp, tk, nx, nt, []⟩ stf → HRel (E.at V w) V1 hp tk w1 → V1.nx = nx → tmps.size = nt → (∀ t x, Ul tm t = some x → x.rel V1 w1 (tmps.getD t undef)) → marksOK (E.at V w) V1 w1 bs0 →
      LeavesInM Fence.wide 0 P fn tmps R (bs0.map fun b => { target := .collected b, args := #[] }) .returning w1 := by
    intro tm hp tk nx nt V1 tmps w1 bs0 hle H1 hn1 hnt1 htm1 hm
    refine leaves_bs bs0 w1 V1 H1 hm.1 hm.2 (fun w' V1' H' hn' L' => ?_)
    have hr' : Rel (E.at V w) V1' ⟨tm, hp, tk, nx, nt, []⟩ { tmps := tmps, defers := [] } w' := ⟨H', hn'.trans hn1, hnt1, dfRel.nil, fun t x hx => (htm1 t x hx).keep L'⟩
    obtain ⟨V2, hr2⟩ := hr'.less hle
    obtain ⟨v, h1, h2⟩ := results_run (E := E.at V w) hres hP hr2
    obtain ⟨H5, L5⟩ := H.back hr2.h
    exact ⟨v, h1, by rw [Ur]; exact ⟨v, V2, rfl, H5, hr2.nx, L5, h2⟩⟩
  have key : ∀ (e : Exit) (st' : St) (V1 : Vu) (a1 : Act) (w1 : World), st'.df = [i, g, T] → CEnd (E.at V w) stf i g T e st' → Rel (E.at V w) V1 st' a1 w1 → bodyPostM Fence.wide 0 P fn R e a1 w1 := by
    intro e st' V1 a1 w1 hd hend hr1
    obtain ⟨bs, bs0, hi, hcat, hds, hm1, hm2⟩ : ∃ bs bs0, i < V1.nx ∧ Catch P g T ∧ a1.defers = bs.map (fun b => { target := .collected b, args := #[] }) ++ closeD g ⟨V1.ι i, 0, none⟩ :: bs0.map (fun b => { target := .collected b, args := #[] }) ∧ marksOK (E.at V w) V1 w1 (bs ++ bs0) := by
      rcases hr1.df with ⟨h0, -⟩ | ⟨i', g', T', bs, bs0, h0, h1, h2, h3, h4⟩
      · rw [hd] at h0; cases h0
      · rw [hd] at h0; cases h0
        exact ⟨bs, bs0, h1, by rw [← hP]; exact h2, h3, h4⟩
    obtain ⟨hn1, hn2, hn3⟩ := List.nodup_append.1 hm1
    have hinv : ∀ w : World, (invoke (.fn (.func g) #[.pointer (some ⟨V1.ι i, 0, none⟩)]) #[]).run P w = .ok (.enter g #[.pointer (some ⟨V1.ι i, 0, none⟩)]) w := fun w => by
      have := hcat.enters (#[] ++ #[.pointer (some ⟨V1.ι i, 0, none⟩)]) w
      simp only [invoke]; simpa using this
    rcases hend with ⟨he, hle⟩ | ⟨x, Tc, c0, rfl, hcell, hle⟩
    · have hb : LeavesInM Fence.wide 0 P fn a1.tmps R a1.defers .returning w1 := by
        rw [hds]
        refine leaves_then (by simp) bs w1 V1 hr1.h hn1 (fun b hb => hm2 b (by simp [hb])) (fun w' V' H' hn' hι' L' hS' hh' => ?_)
        refine ⟨by simp, .inr ⟨(by intro h; cases h), .func g, _, g, _, rfl, hinv w', (fun _ _ => trivial), ?_⟩⟩
        refine (hcat.idle 0 _ w').mono ?_
        rintro e' u' w'' ⟨⟨v, rfl⟩, rfl, rfl⟩
        exact fin st'.tm st'.hp st'.tk st'.nx st'.nt V' a1.tmps w'' bs0 hle H' (hn'.trans hr1.nx) hr1.nt (fun t x hx => (hr1.tm t x hx).keep L')
          ⟨hn2, fun b hb => ⟨hS' b 0 (fun h => hn3 b h b hb rfl) (hm2 b (by simp [hb])).1, (hh' b (fun h => hn3 b h b hb rfl)).trans (hm2 b (by simp [hb])).2.1, (hm2 b (by simp [hb])).2.2⟩⟩
      rcases he with rfl | rfl
      · exact hb
      · exact hb
    · show LeavesInM Fence.wide 0 P fn a1.tmps R a1.defers (.panicking (Jz (QJ T x))) w1
      rw [hds]
      refine leaves_then (by simp) bs w1 V1 hr1.h hn1 (fun b hb => hm2 b (by simp [hb])) (fun w' V' H' hn' hι' L' hS' hh' => ?_)
      refine ⟨by simp, .inr ⟨(by intro h; cases h), .func g, _, g, _, rfl, hinv w', (fun _ _ => trivial), ?_⟩⟩
      obtain ⟨-, o, ho, vs', rfl, hvs'⟩ := H'.own i _ hcell
      obtain ⟨u, hu, -⟩ := hvs'.2 0 _ rfl
      have hmk : marksOK (E.at V w) V' w' bs0 := ⟨hn2, fun b hb => ⟨hS' b 0 (fun h => hn3 b h b hb rfl) (hm2 b (by simp [hb])).1, (hh' b (fun h => hn3 b h b hb rfl)).trans (hm2 b (by simp [hb])).2.1, (hm2 b (by simp [hb])).2.2⟩⟩
      rw [← hι']
      refine (hcat.caught 0 ⟨V'.ι i, 0, none⟩ x u w' ((Jw ho 0).trans hu) (free_of_own ho 0)).mono ?_
      rintro e' u' w'' ⟨⟨v, rfl⟩, rfl, w1, hx1, rfl⟩
      have hg1 := grow_same H' hx1
      have Hx := H'.later hx1 hg1
      have Lx := H'.le hx1 hg1
      obtain ⟨H2, L2⟩ := Hx.store hcell 0 (x := Ux x) (u := .int .i64 x) (Reads.v _ rfl)
      have H3 : HRel (E.at V w) V' ((i, .cells Tc [Ux x]) :: JR i st'.hp) st'.tk _ := H2.congr (fun j => Ze i _ st'.hp j) (fun _ => rfl)
      exact fin st'.tm _ st'.tk st'.nx st'.nt V' a1.tmps _ bs0 hle H3 (hn'.trans hr1.nx) hr1.nt (fun t y hy => (((hr1.tm t y hy).keep L').mono Lx).mono L2) ((hmk.le Lx).le L2)
  have hgo : ∀ E' : Env, E' = E.at V w → E'.P = P → E'.V0 = V → XC E' none 0 (bodyPostM Fence.wide 0 P fn R) c ⟨J7 0 args, m.hp, m.tk, m.nx, fn.ntmps, []⟩ := by
    rintro ⟨P', w0, M, V0⟩ he hP' hV'
    dsimp only at hP' hV'
    subst hP'
    refine h w0 M V0 _ (by rw [hV', hn]; exact Nat.le_refl _) ?_
    intro e st' hd hend V1 a1 w1 hr1
    rw [he] at hr1 hend
    exact key e st' V1 a1 w1 hd hend hr1
  have := hgo (E.at V w) rfl hP rfl V _ w hR0
  rw [show (E.at V w).P = P from hP, Ur] at this
  exact this
end Go.Proofs.Ytafddfoefeploaa
namespace Go.Proofs.Ytafddfoefeploaa
open Go.RowKit
set_option linter.unusedSimpArgs false
set_option linter.unusedVariables false
set_option linter.unusedSectionVars false
noncomputable section
structure Use where
  index : Bool
  name : Bool
  levels : Int
  kids : Int
  below : Int
def useC (u : Use) : List C := [.v (.bool u.index), .v (.bool u.name), .v (.int .i64 u.levels), .v (.int .i64 u.kids), .v (.int .i64 u.below)]
instance : Enc Use := ⟨5, useC, fun l => l.map useC, rfl, fun a b => List.map_append, fun _ => rfl⟩
instance : EncLen Use := ⟨fun _ => rfl, by decide⟩
structure Scp where
  vars : Int
  params : Int
  metas : Int
  levels : Int
def scpC (u : Scp) : List C := [.v (.int .i64 u.vars), .v (.int .i64 u.params), .v (.int .i64 u.metas), .v (.int .i64 u.levels)]
instance : Enc Scp := ⟨4, scpC, fun l => l.map scpC, rfl, fun a b => List.map_append, fun _ => rfl⟩
instance : EncLen Scp := ⟨fun _ => rfl, by decide⟩
end
theorem Kh : U8 Ent (.agg [Ux 0, Ux 0, Ux 0, Ux 0, Ux 0, Ux 0, .d (.v (.string (Ud []))), Uw, Uw]) :=
  asub_zok (.agg (.cons (.d _) (.cons (.d _) (.cons (.d _) (.cons (.d _) (.cons (.d _) (.cons (.d _) (.cons (.d _) (.cons (.nil _) (.cons (.nil _) .nil))))))))))
section
variable {E : Env} {st : St} {d : Option Tmp} {ty : TypeId} {pos : String} {af : Array Edge} {g : Option (Nat × Bool)}
theorem OpOK.callFunV {x : Operand} {f : FuncId} {ars : Array Operand} {args ys : List AV} {ats : Array TypeId} {res : TV} (hx : ev st.tm x = some (.v (.one (.fn f [])))) (hF : Fun E.P f ys res) (ha : Zo st.tm ars.toList = some args) (hs : ASubL args ys) :
    OpOK E ⟨d, .call { callee := .value x, args := ars, argTypes := ats }, ty, pos, af, g⟩ st res ⟨st.hp, st.tk, st.nx⟩ := by
  intro V a w hr ro n K Q hK
  refine ⟨fun _ _ => trivial, ?_⟩
  rw [Oper.semAt_eq _ _ _ (by intro c h; cases h)]
  rw [call_enters (by have := (hr.ev hx).2; simpa using this) hF.1]
  refine ⟨(by intro h; cases h), ?_⟩
  have har : argsRel (ZL V.S) w ys (ars.map a.eval) := by
    obtain ⟨h1, h2⟩ := Zi hr ha
    obtain ⟨h3, h4⟩ := hs.spec
    refine ⟨by omega, fun i y hy => ?_⟩
    obtain ⟨x, hx', hxy⟩ := h4 i y hy
    obtain ⟨u, hu, hxu⟩ := h2 i x hx'
    exact ⟨u, hu, hxy.rel hxu⟩
  have hc' : CallsIn Fence.wide (n - 1) E.P f _ w _ := callsIn_wide.2 (hF.2 V.S w _ hr.h.sz har)
  refine CallsIn.mono (F := UM ro) hc' ?_
  rintro e w' ⟨v, S', rfl, hx, hS, hS', hv⟩
  have hg : V.Grow { V with S := S' } w w' := ⟨Nat.le_refl _, fun _ _ => rfl, fun _ _ => rfl, fun _ _ _ _ => rfl, hS, fun b o h => (hS' b o h).1, fun b o h => (hS' b o h).2⟩
  exact hK { V with S := S' } w' v (hr.h.later hx hg) hr.nx (hr.h.le hx hg) (hv.mono (of_le (V := { V with S := S' })))
def tyArrS (P : Program) (t : TypeId) : Option (Nat × Nat) := match P.underlying t with
  | some (.array n e) => match Jy P e with
    | some (true, sz) => some (n, sz)
    | _ => none
  | _ => none
theorem RO.indexAgg {α : Type} [Enc α] [EncLen α] {t n : Nat} {x y : Operand} {xs : List CA} {tbl : List α} {m : Int} {v : α} (ht : tyArrS E.P t = some (n, Enc.sz α)) (hx : ev st.tm x = some (.v (.agg xs))) (hxs : xs = KV tbl) (hn : Nat.beq tbl.length n = true) (hy : ev st.tm y = some (UJ m)) (hv : Yi tbl m = some v) :
    RO E ⟨d, .index t x y, ty, pos, af, g⟩ st (.v (.agg (UA v))) := by
  refine ⟨(fun _ h => nomatch h), fun V a w hr => ?_⟩
  obtain ⟨k, rfl, hk⟩ := idxS hv
  obtain ⟨vs, h1, h2, h3⟩ := hr.ev hx
  subst hxs
  have hlt : k < tbl.length := (List.getElem?_eq_some_iff.1 hk).1
  have hn' := Nat.eq_of_beq_eq_true hn
  unfold tyArrS at ht
  split at ht
  · rename_i n' e hu
    split at ht
    · rename_i sz ha
      cases ht
      obtain ⟨h4, h5⟩ := ZU ha w
      have hsz : vs.size = tbl.length * Enc.sz α := by rw [h2, flatE_len]
      refine ⟨.agg (vs.extract (k * Enc.sz α) (k * Enc.sz α + Enc.sz α)), ?_, _, rfl, ?_, fun i c hc => ?_⟩
      · have h6 : (k : Int) < (n : Int) := by omega
        have h7 : ¬ n ≤ k := by omega
        simp [execOp, Instr.index, h1, Yo (hr.ev hy), asIntOf, run_underlying hu, part, h4, h5, h6, h7]
      · have : k * Enc.sz α + Enc.sz α ≤ vs.size := by rw [hsz, ← Nat.succ_mul]; exact Nat.mul_le_mul_right _ hlt
        rw [Array.size_extract, List.length_map, EncLen.len]; omega
      · have hi : i < Enc.sz α := by have := (List.getElem?_eq_some_iff.1 hc).1; rw [List.length_map, EncLen.len] at this; exact this
        have hc' : (KV tbl)[k * Enc.sz α + i]? = some c := by rw [flatE_get hk hi, ← List.getElem?_map]; exact hc
        obtain ⟨u, h6, h7⟩ := h3 _ c hc'
        refine ⟨u, ?_, h7⟩
        rw [Array.getElem?_extract]
        have : k * Enc.sz α + Enc.sz α ≤ vs.size := by rw [hsz, ← Nat.succ_mul]; exact Nat.mul_le_mul_right _ hlt
        rw [if_pos (by omega)]; exact h6
    · cases ht
  · cases ht
end
end Go.Proofs.Ytafddfoefeploaa
namespace Go.Proofs.Ytafddfoefeploaa
open Go.RowKit
set_option linter.unusedSimpArgs false
set_option linter.unusedVariables false
set_option linter.unusedSectionVars false
noncomputable section
structure Rsc where
  env : List Dcl
  own : List (List UInt8)
  d : Dcl
def rscC (s : Rsc) : List C := .sl 23 (Enc.encL s.env) :: .sl 1 (Enc.encL s.own) :: dclC s.d
instance : Enc Rsc := ⟨25, rscC, fun l => l.map rscC, rfl, fun a b => List.map_append, fun _ => rfl⟩
instance : EncLen Rsc := ⟨fun _ => rfl, by decide⟩
end
section
variable {E : Env} {st : St} {dd : Option Tmp} {ty : TypeId} {pos : String} {af : Array Edge} {g : Option (Nat × Bool)}
theorem Yw {t i n : Nat} {ag : Bool} {T : TypeId} {xs ys : List CA} {o1 o2 : Operand} (ht : Jy E.P t = some (ag, n)) (h1 : ev st.tm o1 = some (.v (.one (.ptr i 0)))) (h2 : ev st.tm o2 = some (.v (.agg ys)))
    (hi : Ul st.hp i = some (.cells T xs)) (hl : ys.length = n) (hx : xs.length = n) (hdd : dd = none) :
    OpOK E ⟨dd, .store t o1 o2, ty, pos, af, g⟩ st (.tup []) ⟨(i, .cells T ys) :: JR i st.hp, st.tk, st.nx⟩ := by
  have := Qr (dd := dd) (ty := ty) (pos := pos) (af := af) (g := g) ht h1 h2 hi hl (by omega) hdd
  have e1 : setL xs 0 (AV.agg ys).cells = ys := by
    have := Ky ys xs [] (by omega)
    rw [List.append_nil, List.append_nil] at this
    exact this
  rw [e1] at this
  exact this
variable {α : Type} [Enc α] [EncLen α]
theorem fill2 {zs : List Value} (v0 v1 : α) (hzl : zs.length = Enc.sz α) : Zh (JQ (Enc.sz α) 2) (JV zs 2) [(0, .agg (UA v0)), (1, .agg (UA v1))] = some (UA v0 ++ UA v1) := by
  have h0 : (JV zs 2).length = Enc.sz α + Enc.sz α := by simp [JV, hzl]; omega
  have k0 : (UA v0).length = Enc.sz α := by rw [List.length_map, EncLen.len]
  have k1 : (UA v1).length = Enc.sz α := by rw [List.length_map, EncLen.len]
  have p0 : (JQ (Enc.sz α) 2)[0]? = some (0, Enc.sz α) := by simp [JQ]
  have p1 : (JQ (Enc.sz α) 2)[1]? = some (Enc.sz α, Enc.sz α) := by simp [JQ]
  obtain ⟨a, b, hab, ha, hb⟩ : ∃ a b, JV zs 2 = a ++ b ∧ a.length = Enc.sz α ∧ b.length = Enc.sz α :=
    ⟨(JV zs 2).take (Enc.sz α), (JV zs 2).drop (Enc.sz α), (List.take_append_drop _ _).symm, by rw [List.length_take, h0]; omega, by rw [List.length_drop, h0]; omega⟩
  rw [hab]
  have s0 : setL (a ++ b) 0 (UA v0) = UA v0 ++ b := Ky (UA v0) a b (by omega)
  have s1 : setL (UA v0 ++ b) (Enc.sz α) (UA v1) = UA v0 ++ UA v1 := by
    have x := setL_app (UA v1) (UA v0) b 0
    have y := Ky (UA v1) b [] (by omega)
    rw [List.append_nil, List.append_nil] at y
    rw [y, k0, Nat.add_zero] at x
    exact x
  simp only [Zh, p0, p1]
  show cond (Nat.beq (UA v0).length (Enc.sz α) && Nat.ble (0 + Enc.sz α) (a ++ b).length) (cond (Nat.beq (UA v1).length (Enc.sz α) && Nat.ble (Enc.sz α + Enc.sz α) (setL (a ++ b) 0 (UA v0)).length) (some (setL (setL (a ++ b) 0 (UA v0)) (Enc.sz α) (UA v1))) none) none = _
  rw [s0, s1, k0, k1, Nat.beq_refl, Nat.ble_eq_true_of_le (show 0 + Enc.sz α ≤ (a ++ b).length by rw [List.length_append]; omega), Nat.ble_eq_true_of_le (show Enc.sz α + Enc.sz α ≤ (UA v0 ++ b).length by rw [List.length_append, k0]; omega)]
  rfl
theorem OpOK.lit2CE (v0 v1 : α) {t e : Nat} {zs : List Value} {o0 o1 : Operand} (ht : Jo E.P t = some (e, Enc.sz α)) (hze : JE E.P e = some zs) (hzl : zs.length = Enc.sz α) (hz : zs.all (·.oneCell') = true) (hlen : 2 * Enc.sz α ≤ 16777216)
    (h0 : ev st.tm o0 = some (.v (.agg (UA v0)))) (h1 : ev st.tm o1 = some (.v (.agg (UA v1)))) :
    OpOK E ⟨dd, .buildSlice t 2 #[(0, o0), (1, o1)], ty, pos, af, g⟩ st (.v (.one (.app st.nx (Enc.sz α) (Enc.encL [v0, v1])))) ⟨st.hp, (st.nx, some ⟨e, Enc.sz α, (Enc.encL [v0, v1]).length, []⟩) :: st.tk, st.nx + 1⟩ :=
  OpOK.lit2E v0 v1 ht hze hzl hz EncLen.pos hlen h0 h1 (fill2 v0 v1 hzl) (by
    have a := csubs_all (Enc.enc v0 ++ Enc.enc v1)
    rw [List.map_append] at a
    exact a) ⟨EncLen.len v0, EncLen.len v1⟩
end
end Go.Proofs.Ytafddfoefeploaa
namespace Go.Proofs.Ytafddfoefeploaa
open Go.RowKit Go.Shelf
set_option linter.unusedSimpArgs false
set_option linter.unusedVariables false
theorem Y3 : J0 Try.prog 33 0 = some 0 := by kernel_rfl
theorem YF : J0 Try.prog 33 2 = some 2 := by kernel_rfl
theorem JJ : J0 Try.prog 33 4 = some 4 := by kernel_rfl
theorem fo_134_4 : J0 Try.prog 134 4 = some 4 := by kernel_rfl
theorem QZ : Jy Try.prog 3 = some (false, 1) := by kernel_rfl
theorem JG : Jy Try.prog 9 = some (false, 1) := by kernel_rfl
theorem JH : Jy Try.prog 31 = some (false, 1) := by kernel_rfl
theorem QW : Jy Try.prog 33 = some (true, 5) := by kernel_rfl
theorem Xb : Jy Try.prog 51 = some (false, 1) := by kernel_rfl
theorem GT : Jy Try.prog 80 = some (false, 1) := by kernel_rfl
theorem ag_132 : Jy Try.prog 132 = some (false, 1) := by kernel_rfl
theorem GU : Jy Try.prog 135 = some (true, 65) := by kernel_rfl
theorem XY : Jy Try.prog 137 = some (false, 1) := by kernel_rfl
theorem Ji : Jo Try.prog 31 = some (33, 5) := by kernel_rfl
theorem Ju : Jo Try.prog 51 = some (9, 1) := by kernel_rfl
theorem Wo : JE Try.prog 9 = some [.string ByteArray.empty] := by kernel_rfl
theorem ZS : JE Try.prog 33 = some [.int .i64 0, .int .i64 0, .string ByteArray.empty, .slice none 0 0, .slice none 0 0] := by kernel_rfl
theorem z_51 : JE Try.prog 51 = some [.slice none 0 0] := by kernel_rfl
theorem z_80 : JE Try.prog 80 = some [.map none] := by kernel_rfl
theorem Ws : JE Try.prog 135 = some [.bool false, .bool false, .int .i64 0, .int .i64 0, .int .i64 0, .bool false, .bool false, .int .i64 0, .int .i64 0, .int .i64 0, .bool false, .bool false, .int .i64 0, .int .i64 0, .int .i64 0, .bool false, .bool false, .int .i64 0, .int .i64 0, .int .i64 0, .bool false, .bool false, .int .i64 0, .int .i64 0, .int .i64 0, .bool false, .bool false, .int .i64 0, .int .i64 0, .int .i64 0, .bool false, .bool false, .int .i64 0, .int .i64 0, .int .i64 0, .bool false, .bool false, .int .i64 0, .int .i64 0, .int .i64 0, .bool false, .bool false, .int .i64 0, .int .i64 0, .int .i64 0, .bool false, .bool false, .int .i64 0, .int .i64 0, .int .i64 0, .bool false, .bool false, .int .i64 0, .int .i64 0, .int .i64 0, .bool false, .bool false, .int .i64 0, .int .i64 0, .int .i64 0, .bool false, .bool false, .int .i64 0, .int .i64 0, .int .i64 0] := by kernel_rfl
theorem z_137 : JE Try.prog 137 = some [.nilFunc] := by kernel_rfl
theorem JD : Yj Try.prog 134 [(0, 1), (1, 1), (2, 1), (3, 1), (4, 1)] [.bool false, .bool false, .int .i64 0, .int .i64 0, .int .i64 0] := ⟨by kernel_rfl, by kernel_rfl⟩
theorem bd_135 : Yj Try.prog 135 [(0, 5), (5, 5), (10, 5), (15, 5), (20, 5), (25, 5), (30, 5), (35, 5), (40, 5), (45, 5), (50, 5), (55, 5), (60, 5)] [.bool false, .bool false, .int .i64 0, .int .i64 0, .int .i64 0, .bool false, .bool false, .int .i64 0, .int .i64 0, .int .i64 0, .bool false, .bool false, .int .i64 0, .int .i64 0, .int .i64 0, .bool false, .bool false, .int .i64 0, .int .i64 0, .int .i64 0, .bool false, .bool false, .int .i64 0, .int .i64 0, .int .i64 0, .bool false, .bool false, .int .i64 0, .int .i64 0, .int .i64 0, .bool false, .bool false, .int .i64 0, .int .i64 0, .int .i64 0, .bool false, .bool false, .int .i64 0, .int .i64 0, .int .i64 0, .bool false, .bool false, .int .i64 0, .int .i64 0, .int .i64 0, .bool false, .bool false, .int .i64 0, .int .i64 0, .int .i64 0, .bool false, .bool false, .int .i64 0, .int .i64 0, .int .i64 0, .bool false, .bool false, .int .i64 0, .int .i64 0, .int .i64 0, .bool false, .bool false, .int .i64 0, .int .i64 0, .int .i64 0] := ⟨by kernel_rfl, by kernel_rfl⟩
theorem KN : ZT Try.prog 9 = some (1, 16) := by kernel_rfl
theorem arr_135 : W8 Try.prog 135 = some (13, 5) := by kernel_rfl
theorem Gy : X4 Try.prog 80 = some (false, .one (.d (.v (.bool false)))) := by kernel_rfl
theorem en_58 : J3 Try.prog 58 := enters_of Try.func58 (by kernel_rfl) rfl
theorem en_74 : J3 Try.prog 74 := enters_of Try.func74 (by kernel_rfl) rfl
theorem en_89 : J3 Try.prog 89 := enters_of Try.func89 (by kernel_rfl) rfl
theorem en_90 : J3 Try.prog 90 := enters_of Try.func90 (by kernel_rfl) rfl
theorem en_91 : J3 Try.prog 91 := enters_of Try.func91 (by kernel_rfl) rfl
noncomputable def Xg : Code := (UC (UC (UB (UC (UB (UB (UB (Kf Try.f58))))))))
noncomputable def Xf : Code := (UB (UC (UB (UC (UB (UB (UB (Kf Try.f58))))))))
def Zq (a0 : Tm) (v9 : Int) (a1 : Int) (rc : Tm × Int × (Qa UN Bool) × (List UN) × Tm → Option ((Bool × (Qa UN Bool) × (List UN)))) (a4 : Tm) (s1 : Int × (Qa UN Bool) × (List UN)) : Option (LO (Int × (Qa UN Bool) × (List UN)) (((Qa UN Bool) × (List UN)) ⊕ ((Bool × (Qa UN Bool) × (List UN))))) :=
 cond (decide (s1.1 < (a0.kids.length : Int)))
   (Option.bind (Yi a0.kids s1.1) fun (x12 : Tm) =>
 Option.bind (cond (s1.1 == v9)
   (some (Jk (a1 + 1)))
   (some a1)) (fun (v13 : Int) => Option.bind (rc (x12, v13, s1.2.1, s1.2.2, a4)) fun (x14 : (Bool × (Qa UN Bool) × (List UN))) =>
 cond (!x14.1)
   (some (.done (.inr (false, x14.2.1, x14.2.2))))
   (some (.next ((Jk (s1.1 + 1)), x14.2.1, x14.2.2)))))
   (some (.done (.inl (s1.2.1, s1.2.2))))
noncomputable abbrev Zr  : HB :=
 .loop .ready none [(3, .v (.one (.ptr 3 0))), (4, .v (.one (.ptr 5 0))), (9, .v (.one (.fn 89 [(7, 0)])))] 31 #[10, 11] Xg Xf 2
noncomputable abbrev YT  : HB :=
 .cells 135 [Uy true, Uy false, Ux 0, Ux 0, Ux (-1), Uy false, Uy false, Ux 0, Ux 0, Ux (-1), Uy false, Uy false, Ux 1, Ux 0, Ux (-1), Uy false, Uy true, Ux (-1), Ux 0, Ux (-1), Uy false, Uy false, Ux 0, Ux 2, Ux (-1), Uy false, Uy false, Ux 0, Ux 2, Ux 1, Uy false, Uy false, Ux 0, Ux 2, Ux 1, Uy false, Uy false, Ux 0, Ux 2, Ux 1, Uy false, Uy false, Ux 0, Ux 3, Ux (-1), Uy false, Uy false, Ux 0, Ux 1, Ux (-1), Uy false, Uy false, Ux 0, Ux 1, Ux (-1), Uy false, Uy false, Ux 0, Ux 3, Ux 2, Uy true, Uy false, Ux 0, Ux 0, Ux (-1)]
noncomputable abbrev m91f12_h2 (p0_ : Qa UN Bool) (p1_ : List UN) (p2_ : Tm) (p3_ : Tm) : List (Nat × HB) :=
 [(0, .cells 132 [.yld 1]), (1, Zr), (2, .obj (.deferred (some []))), (3, .cells 80 [.mp 4]), (4, .mp (QO p0_.1) p0_.2), (5, .cells 51 [Uz 6 p1_]), (7, .cells 33 (UA p2_)), (8, YT), (9, .cells 137 [.fn 91 [(0, 0), (8, 0), (9, 0)]]), (10, .cells 33 (UA p3_))]
noncomputable abbrev m91f12_h3  : HB :=
 .loop .busy none [(3, .v (.one (.ptr 3 0))), (4, .v (.one (.ptr 5 0))), (9, .v (.one (.fn 89 [(7, 0)])))] 31 #[10, 11] Xg Xf 2
noncomputable abbrev m91f12_h4 (p0_ : Qa UN Bool) (p1_ : List UN) (p2_ : Tm) (p3_ : Tm) : List (Nat × HB) :=
 [(0, .cells 132 [.yld 1]), (1, m91f12_h3), (2, .obj (.deferred (some []))), (3, .cells 80 [.mp 4]), (4, .mp (QO p0_.1) p0_.2), (5, .cells 51 [Uz 6 p1_]), (7, .cells 33 (UA p2_)), (8, YT), (9, .cells 137 [.fn 91 [(0, 0), (8, 0), (9, 0)]]), (10, .cells 33 (UA p3_)), (11, .cells 33 (UA p3_))]
noncomputable abbrev m91f12_h5 (p0_ : Qa UN Bool) (p1_ : List UN) (p2_ : Tm) (p3_ : Tm) : List (Nat × HB) :=
 [(0, .cells 132 [.yld 1]), (1, Zr), (2, .obj (.deferred (some []))), (3, .cells 80 [.mp 4]), (4, .mp (QO p0_.1) p0_.2), (5, .cells 51 [Uz 6 p1_]), (7, .cells 33 (UA p2_)), (8, YT), (9, .cells 137 [.fn 91 [(0, 0), (8, 0), (9, 0)]]), (10, .cells 33 (UA p3_)), (11, .cells 33 (UA p3_))]
noncomputable abbrev m91f12_h6 (p0_ : (Qa UN Bool) × (List UN)) (p1_ : Tm) (p2_ : Tm) : List (Nat × HB) :=
 [(0, .cells 132 [.yld 1]), (1, m91f12_h3), (2, .obj (.deferred (some []))), (3, .cells 80 [.mp 4]), (4, .mp (QO p0_.1.1) p0_.1.2), (5, .cells 51 [Uz 6 p0_.2]), (7, .cells 33 (UA p1_)), (8, YT), (9, .cells 137 [.fn 91 [(0, 0), (8, 0), (9, 0)]]), (10, .cells 33 (UA p2_))]
noncomputable abbrev m91f12_h7 (p0_ : (Qa UN Bool) × (List UN)) (p1_ : Tm) (p2_ : Tm) : List (Nat × HB) :=
 [(0, .cells 132 [.yld 1]), (1, Zr), (2, .obj (.deferred (some []))), (3, .cells 80 [.mp 4]), (4, .mp (QO p0_.1.1) p0_.1.2), (5, .cells 51 [Uz 6 p0_.2]), (7, .cells 33 (UA p1_)), (8, YT), (9, .cells 137 [.fn 91 [(0, 0), (8, 0), (9, 0)]]), (10, .cells 33 (UA p2_))]
noncomputable abbrev m91f12_h8 (p0_ : Int × (Qa UN Bool) × (List UN)) (p1_ : Tm) (p2_ : Tm) (p3_ : Tm) : List (Nat × HB) :=
 [(0, .cells 132 [.yld 1]), (1, Zr), (2, .obj (.deferred (some []))), (3, .cells 80 [.mp 4]), (4, .mp (QO p0_.2.1.1) p0_.2.1.2), (5, .cells 51 [Uz 6 p0_.2.2]), (7, .cells 33 (UA p1_)), (8, YT), (9, .cells 137 [.fn 91 [(0, 0), (8, 0), (9, 0)]]), (10, .cells 33 (UA p2_)), (12, .cells 33 (UA p3_))]
noncomputable abbrev G2 (p0_ : Qa UN Bool) (p1_ : List UN) (p2_ : Tm) : List (Nat × HB) :=
 [(0, .cells 132 [.yld 1]), (1, Zr), (2, .obj (.deferred (some []))), (3, .cells 80 [.mp 4]), (4, .mp (QO p0_.1) p0_.2), (5, .cells 51 [Uz 6 p1_]), (7, .cells 33 (UA p2_)), (8, YT), (9, .cells 137 [.fn 91 [(0, 0), (8, 0), (9, 0)]])]
noncomputable abbrev ZW (p0_ : (Bool × (Qa UN Bool) × (List UN))) (p1_ : Tm) : List (Nat × HB) :=
 [(0, .cells 132 [.yld 1]), (1, Zr), (2, .obj (.deferred (some []))), (3, .cells 80 [.mp 4]), (4, .mp (QO p0_.2.1.1) p0_.2.1.2), (5, .cells 51 [Uz 6 p0_.2.2]), (7, .cells 33 (UA p1_)), (8, YT), (9, .cells 137 [.fn 91 [(0, 0), (8, 0), (9, 0)]])]
def Xx (rc : Tm × Int × (Qa UN Bool) × (List UN) × Tm → Option ((Bool × (Qa UN Bool) × (List UN)))) (a0 : Tm) (a1 : Int) (a2 : Qa UN Bool) (a3 : List UN) (a4 : Tm) : Option ((Bool × (Qa UN Bool) × (List UN))) :=
 Option.bind (Option.bind (cond (a0.kind == 3)
   (some (!(Qp a2 a0.name)))
   (some false)) (fun (v4 : Bool) => cond v4
   (J8 (Nat.ble (a3.length + ([a0.name]).length) 1000000000)
 (some ((J5 a2 a0.name true), (a3 ++ ([a0.name])))))
   (some (a2, a3)))) (fun (y1 : (Qa UN Bool) × (List UN)) => Option.bind (cond (decide (0 ≤ a0.kind))
   (some (decide (a0.kind < 13)))
   (some false)) (fun (v8 : Bool) => Option.bind (cond v8
   (J8 (cond (decide (0 ≤ a0.kind)) (Nat.blt a0.kind.toNat 13) false)
 (Option.bind (Yi ([(-1), (-1), (-1), (-1), (-1), 1, 1, 1, (-1), (-1), (-1), 2, (-1)] : List Int) a0.kind) fun (x12 : Int) =>
 some x12))
   (some (-1))) (fun (v9 : Int) => Option.bind (QV (Zq a0 v9 a1 rc a4) J2 (0, y1.1, y1.2)) (Sum.elim (fun (o10 : (Qa UN Bool) × (List UN)) => some (true, o10.1, o10.2)) (fun o => some o)))))
def Xy (rc : Tm × Int × (Qa UN Bool) × (List UN) × Tm → Option ((Bool × (Qa UN Bool) × (List UN)))) (u : Tm × Int × (Qa UN Bool) × (List UN) × Tm) : Option ((Bool × (Qa UN Bool) × (List UN))) := Xx rc u.1 u.2.1 u.2.2.1 u.2.2.2.1 u.2.2.2.2
def m91f12 (a0 : Tm) (a1 : Int) (a2 : Qa UN Bool) (a3 : List UN) (a4 : Tm) : Option ((Bool × (Qa UN Bool) × (List UN))) := Yt Xy J2 (a0, a1, a2, a3, a4)
set_option maxRecDepth 100000 in
set_option maxHeartbeats 2000000 in
theorem m91f12s_ok (rc : Tm × Int × (Qa UN Bool) × (List UN) × Tm → Option ((Bool × (Qa UN Bool) × (List UN)))) (H : ∀ (a0 : Tm) (a1 : Int) (a2 : Qa UN Bool) (a3 : List UN) (a4 : Tm) (r : (Bool × (Qa UN Bool) × (List UN))), rc (a0, a1, a2, a3, a4) = some r → CallM Try.prog 91 [.agg (UA a0), .one (Ux a1), .one (.ptr 0 0), .one (.ptr 8 0), .one (.ptr 9 0)] ⟨G2 a2 a3 a4, [(6, some ⟨9, 1, (Enc.encL a3).length, []⟩)], 10⟩ (QD [.one (Uy r.1)]) ⟨ZW r a4, [(6, some ⟨9, 1, (Enc.encL r.2.2).length, []⟩)], 12⟩) (a0 : Tm) (a1 : Int) (a2 : Qa UN Bool) (a3 : List UN) (a4 : Tm) (r : (Bool × (Qa UN Bool) × (List UN))) (h0 : Xx rc a0 a1 a2 a3 a4 = some r) : CallM Try.prog 91 [.agg (UA a0), .one (Ux a1), .one (.ptr 0 0), .one (.ptr 8 0), .one (.ptr 9 0)] ⟨G2 a2 a3 a4, [(6, some ⟨9, 1, (Enc.encL a3).length, []⟩)], 10⟩ (QD [.one (Uy r.1)]) ⟨ZW r a4, [(6, some ⟨9, 1, (Enc.encL r.2.2).length, []⟩)], 12⟩ := by
 unfold Xx at h0
 refine QT ⟨[(7, .v (.one (Uy r.1)))], ZW r a4, [(6, some ⟨9, 1, (Enc.encL r.2.2).length, []⟩)], 12, 50, []⟩ rfl rfl en_91 (Um rfl) rfl (Qz rfl .nil) (fun w0 M V0 Q hv0 hQ0 => ?_)
 simp only [J7]
 refine Q5 <| Q0 <| Q9 rfl rfl (Um rfl) (QN rfl) <| Ug rfl rfl rfl <| Q4 <| Q3 <| Q5 <| Q5 <| Q0 <| Ue rfl rfl rfl (Q6 ag_132 rfl rfl rfl) <| Uf rfl rfl rfl <| Ue rfl rfl rfl (QK (a0 : Tm) QW rfl rfl) ?_
 refine Qb h0 (fun y1 h1 h0 => ?_)
 have ha2 : ExecOK Try.prog (some 1) Xg ⟨[(3, .v (.one (.ptr 3 0))), (4, .v (.one (.ptr 5 0))), (9, .v (.one (.fn 89 [(7, 0)]))), (10, .v (.one (Ux a1))), (11, .v (.agg (UA a0)))], m91f12_h2 a2 a3 a4 a0, [(6, some ⟨9, 1, (Enc.encL a3).length, []⟩)], 11, 31, []⟩ .normal ⟨[(3, .v (.one (.ptr 3 0))), (4, .v (.one (.ptr 5 0))), (6, .v (.one (.ptr 11 0)))], m91f12_h5 a2 a3 a4 a0, [(6, some ⟨9, 1, (Enc.encL a3).length, []⟩)], 12, 31, []⟩ := by
  refine QI (fun w0 M V0 ro n Q hv1 hro1 hQn1 => ?_)
  refine Q0 <| Q9 rfl rfl (Um rfl) (Qm ZS rfl) <| Qy rfl rfl (QC (a0 : Tm) QW rfl rfl rfl rfl rfl) <| Q4 ?_
  exact Jr hQn1 (Qu (Ua rfl) (hA rfl) (Uo rfl) rfl (Nat.le_trans hv1 (Um rfl)) rfl rfl rfl (UF rfl rfl (UF rfl rfl (UF rfl rfl (UF rfl rfl (UE rfl (UG rfl)))))) rfl rfl)
 have hb3 : ExecOK Try.prog (some 1) Xf ⟨[(3, .v (.one (.ptr 3 0))), (4, .v (.one (.ptr 5 0))), (6, .v (.one (.ptr 11 0)))], m91f12_h4 a2 a3 a4 a0, [(6, some ⟨9, 1, (Enc.encL a3).length, []⟩)], 12, 31, []⟩ .normal ⟨[], m91f12_h6 y1 a4 a0, [(6, some ⟨9, 1, (Enc.encL y1.2).length, []⟩)], 12, 31, []⟩ := by
  refine QI (fun w0 M V0 ro n Q hv1 hro1 hQn1 => ?_)
  refine Qf <| Q5 ?_
  refine QS (fun (v4 : Bool) => ⟨[(3, .v (.one (.ptr 3 0))), (4, .v (.one (.ptr 5 0))), (6, .v (.one (.ptr 11 0))), (21, .v (.one (Uy v4)))], m91f12_h4 a2 a3 a4 a0, [(6, some ⟨9, 1, (Enc.encL a3).length, []⟩)], 12, 31, []⟩) (fun (v4 : Bool) => (cond v4
      (J8 (Nat.ble (a3.length + ([a0.name]).length) 1000000000)
    (some ((J5 a2 a0.name true), (a3 ++ ([a0.name])))))
      (some (a2, a3))) = some y1) ?_ ?_
  refine Qb h1 (fun w2_ h2 h1 => ?_)
  refine Q0 <| Ue rfl rfl rfl (Q1 Y3 rfl) <| Ue rfl rfl rfl (Q6 QZ rfl rfl rfl) <| Ue rfl rfl rfl (Q7 rfl rfl rfl) <| Uf rfl rfl rfl ?_
  refine QG (d := 15) (c := (a0.kind == 3)) rfl (fun c5 => ?_) (fun c5 => ?_)
  replace h2 := Qk c5 h2
  refine Ue rfl rfl rfl (Q6 GT rfl rfl rfl) <| Ue rfl rfl rfl (Q1 YF rfl) <| Ue rfl rfl rfl (Q6 JG rfl rfl rfl) <| Ue rfl rfl rfl (YP (M := a2) (k := a0.name) Gy Gw rfl rfl rfl) <| Ue rfl rfl rfl (Jb rfl) <| Ue rfl rfl rfl (Qh rfl rfl) <| Q4 ?_
  have e := Uc h2; subst e
  exact Qc (!(Qp a2 a0.name)) (Qu (Ua rfl) (hA rfl) (Uo rfl) rfl (Nat.le_trans hv1 (Um rfl)) rfl rfl rfl (UF rfl rfl (UF rfl rfl (UF rfl rfl (UF rfl rfl (UE rfl (UG rfl)))))) rfl rfl) h1
  replace h2 := Ql c5 h2
  refine Q8 rfl rfl <| Q8 rfl rfl <| Q8 rfl rfl <| Q8 rfl rfl <| Q8 rfl rfl <| Ue rfl rfl rfl (Qd rfl rfl) <| Q4 ?_
  have e := Uc h2; subst e
  exact Qc false (Qu (Ua rfl) (hA rfl) (Uo rfl) rfl (Nat.le_trans hv1 (Um rfl)) rfl rfl rfl (UF rfl rfl (UF rfl rfl (UF rfl rfl (UF rfl rfl (UE rfl (UG rfl)))))) rfl rfl) h1
  intro v4 h1
  refine Q3 ?_
  refine Qg (b := v4) rfl (fun c6 => ?_) (fun c6 => ?_)
  replace h1 := Qk c6 h1
  refine Q5 <| Q0 <| Ue rfl rfl rfl (Q6 GT rfl rfl rfl) <| Ue rfl rfl rfl (Q1 YF rfl) <| Ue rfl rfl rfl (Q6 JG rfl rfl rfl) <| Qy rfl rfl (Je (M := a2) (k := a0.name) (v := true) Gy rfl rfl rfl rfl rfl) <| Q4 <| Q3 <| Q0 <| Ue rfl rfl rfl (Q6 Xb rfl rfl rfl) <| Ue rfl rfl rfl (Q1 YF rfl) <| Ue rfl rfl rfl (Q6 JG rfl rfl rfl) <| Q9 rfl rfl (Um rfl) (Jt (α := UN) (a0.name) Ju Wo rfl rfl (Um rfl) (Um rfl) rfl rfl (.cons (.d _) .nil) rfl) ?_
  refine JC h1 (fun g7 h1 => ?_)
  refine Q9 rfl rfl (Um rfl) (Jh (α := UN) Ju KN rfl rfl rfl rfl rfl (.app _ _) g7) <| Qy rfl rfl (Qr Xb rfl rfl rfl rfl (Um rfl) rfl) <| Q4 <| Qe ?_
  have e := Uc h1; subst e
  exact Jr hQn1 (Qu U9 (hA rfl) (Uo rfl) rfl (Nat.le_trans hv1 (Um rfl)) rfl rfl rfl (UF rfl rfl (UF rfl rfl (UF rfl rfl (UF rfl rfl (UE rfl (UG rfl)))))) rfl rfl)
  replace h1 := Ql c6 h1
  refine Qj <| Qe ?_
  have e := Uc h1; subst e
  exact Jr hQn1 (Qu U9 (hA rfl) (Uo rfl) rfl (Nat.le_trans hv1 (Um rfl)) rfl rfl rfl (UF rfl rfl (UF rfl rfl (UF rfl rfl (UF rfl rfl (UE rfl (UG rfl)))))) rfl rfl)
 refine Q9 rfl rfl (Um rfl) (Jc (jump := none) rfl rfl rfl rfl rfl (Qw ha2 (fun E hv => (Qu (Ua rfl) (hA rfl) (Uo rfl) rfl (Nat.le_trans hv (Um rfl)) rfl rfl rfl (UF rfl rfl (UF rfl rfl (UF rfl rfl (UF rfl rfl (UE rfl (UG rfl)))))) rfl rfl))) rfl (Qw hb3 (fun E hv => (Qu (Ua rfl) (hA rfl) (Uo rfl) rfl (Nat.le_trans hv (Um rfl)) rfl rfl rfl (UF rfl rfl (UF rfl rfl (UF rfl rfl (UF rfl rfl (UE rfl (UG rfl)))))) rfl rfl))) rfl rfl) ?_
 refine Ue rfl rfl rfl (Jb rfl) <| Q4 <| Q3 ?_
 refine Qg rfl (fun h => nomatch h) (fun _ => ?_)
 refine Qj <| Q3 <| Q5 <| Q0 <| Ug rfl rfl rfl <| Q4 <| Q3 <| Q5 <| Q5 ?_
 refine QS (fun (v8 : Bool) => ⟨[(1, .v (.one (Ux a1))), (3, .v (.one (.ptr 8 0))), (4, .v (.one (.ptr 9 0))), (5, .v (.one (.ptr 10 0))), (8, .v (.one (Ux (-1)))), (24, .v (.one (Uy v8)))], m91f12_h7 y1 a4 a0, [(6, some ⟨9, 1, (Enc.encL y1.2).length, []⟩)], 12, 50, []⟩) (fun (v8 : Bool) => (Option.bind (cond v8
     (J8 (cond (decide (0 ≤ a0.kind)) (Nat.blt a0.kind.toNat 13) false)
   (Option.bind (Yi ([(-1), (-1), (-1), (-1), (-1), 1, 1, 1, (-1), (-1), (-1), 2, (-1)] : List Int) a0.kind) fun (x12 : Int) =>
   some x12))
     (some (-1))) (fun (v9 : Int) => Option.bind (QV (Zq a0 v9 a1 rc a4) J2 (0, y1.1, y1.2)) (Sum.elim (fun (o10 : (Qa UN Bool) × (List UN)) => some (true, o10.1, o10.2)) (fun o => some o)))) = some r) ?_ ?_
 refine Qb h0 (fun w1_ h1 h0 => ?_)
 refine Q0 <| Ue rfl rfl rfl (Q1 Y3 rfl) <| Ue rfl rfl rfl (Q6 QZ rfl rfl rfl) <| Ue rfl rfl rfl (Q7 rfl rfl rfl) <| Uf rfl rfl rfl ?_
 refine QG (d := 20) (c := (decide (0 ≤ a0.kind))) rfl (fun c9 => ?_) (fun c9 => ?_)
 replace h1 := Qk c9 h1
 refine Ue rfl rfl rfl (Q1 Y3 rfl) <| Ue rfl rfl rfl (Q6 QZ rfl rfl rfl) <| Ue rfl rfl rfl (Q7 rfl rfl rfl) <| Ue rfl rfl rfl (Qh rfl rfl) <| Q4 ?_
 have e := Uc h1; subst e
 exact Qc (decide (a0.kind < 13)) (Qu (Ua rfl) (hA rfl) (Uo rfl) rfl (Nat.le_trans hv0 (Um rfl)) rfl rfl rfl (UF rfl rfl (UF rfl rfl (UF rfl rfl (UF rfl rfl (UE rfl (UG rfl)))))) rfl rfl) h0
 replace h1 := Ql c9 h1
 refine Q8 rfl rfl <| Q8 rfl rfl <| Q8 rfl rfl <| Ue rfl rfl rfl (Qd rfl rfl) <| Q4 ?_
 have e := Uc h1; subst e
 exact Qc false (Qu (Ua rfl) (hA rfl) (Uo rfl) rfl (Nat.le_trans hv0 (Um rfl)) rfl rfl rfl (UF rfl rfl (UF rfl rfl (UF rfl rfl (UF rfl rfl (UE rfl (UG rfl)))))) rfl rfl) h0
 intro v8 h0
 refine Q3 ?_
 refine QS (fun (v10 : Int) => ⟨[(1, .v (.one (Ux a1))), (4, .v (.one (.ptr 9 0))), (5, .v (.one (.ptr 10 0))), (8, .v (.one (Ux v10)))], m91f12_h7 y1 a4 a0, [(6, some ⟨9, 1, (Enc.encL y1.2).length, []⟩)], 12, 50, []⟩) (fun (v10 : Int) => (Option.bind (QV (Zq a0 v10 a1 rc a4) J2 (0, y1.1, y1.2)) (Sum.elim (fun (o11 : (Qa UN Bool) × (List UN)) => some (true, o11.1, o11.2)) (fun o => some o))) = some r) ?_ ?_
 refine Qb h0 (fun w1_ h1 h0 => ?_)
 refine Qg (b := v8) rfl (fun c11 => ?_) (fun c11 => ?_)
 replace h1 := Qk c11 h1
 refine Q0 <| Ue rfl rfl rfl (Q1 Y3 rfl) <| Ue rfl rfl rfl (Q6 QZ rfl rfl rfl) ?_
 refine JC h1 (fun g12 h1 => ?_)
 refine Ue rfl rfl rfl (RO.indexA arr_135 rfl rfl g12) <| Ue rfl rfl rfl (Q1 fo_134_4 rfl) ?_
 refine Qb h1 (fun x13 hx13 h1 => ?_)
 refine Ue rfl rfl rfl (RO.loadCol (m := a0.kind) (sz := 5) (f := 4) (col := ([(-1), (-1), (-1), (-1), (-1), 1, 1, 1, (-1), (-1), (-1), 2, (-1)] : List Int)) QZ rfl rfl rfl hx13) <| Ug rfl rfl rfl <| Q4 ?_
 have e := Uc h1; subst e
 exact Qc x13 (Qu (Ua rfl) (hA rfl) (Uo rfl) rfl (Nat.le_trans hv0 (Um rfl)) rfl rfl rfl (UF rfl rfl (UF rfl rfl (UF rfl rfl (UF rfl rfl (UE rfl (UG rfl)))))) rfl rfl) h0
 replace h1 := Ql c11 h1
 refine Qj ?_
 have e := Uc h1; subst e
 exact Qc (-1) (Qu (Ua rfl) (hA rfl) (Uo rfl) rfl (Nat.le_trans hv0 (Um rfl)) rfl rfl rfl (UF rfl rfl (UF rfl rfl (UF rfl rfl (UF rfl rfl (UE rfl (UG rfl)))))) rfl rfl) h0
 intro v10 h0
 refine Q3 <| Q5 <| Q5 <| Q0 <| Ue rfl rfl rfl (Q1 JJ rfl) <| Ue rfl rfl rfl (Q6 JH rfl rfl rfl) <| Ue rfl rfl rfl (Qx (α := Tm) Ji rfl (.d _)) <| Uf rfl rfl rfl <| Q4 <| Q3 <| Qf ?_
 refine QR 0 (fun (o14 : (Qa UN Bool) × (List UN)) => ⟨[], [(0, .cells 132 [.yld 1]), (1, Zr), (2, .obj (.deferred (some []))), (3, .cells 80 [.mp 4]), (4, .mp (QO o14.1.1) o14.1.2), (5, .cells 51 [Uz 6 o14.2]), (7, .cells 33 (UA a4)), (8, YT), (9, .cells 137 [.fn 91 [(0, 0), (8, 0), (9, 0)]]), (10, .cells 33 (UA a0))], [(6, some ⟨9, 1, (Enc.encL o14.2).length, []⟩)], 12, 50, []⟩) (fun (o14 : (Qa UN Bool) × (List UN)) => (some (true, o14.1, o14.2)) = some r) ?_ ?_
 refine Qb h0 (fun o15 hl1 h0 => ?_)
 refine QQ (Zq a0 v10 a1 rc a4) (fun s1 => ⟨[(1, .v (.one (Ux a1))), (4, .v (.one (.ptr 9 0))), (8, .v (.one (Ux v10))), (31, .v (.one (Uv a0.kids))), (32, .v (.one (Ux (a0.kids.length : Int)))), (33, .v (.one (Ux s1.1)))], [(0, .cells 132 [.yld 1]), (1, Zr), (2, .obj (.deferred (some []))), (3, .cells 80 [.mp 4]), (4, .mp (QO s1.2.1.1) s1.2.1.2), (5, .cells 51 [Uz 6 s1.2.2]), (7, .cells 33 (UA a4)), (8, YT), (9, .cells 137 [.fn 91 [(0, 0), (8, 0), (9, 0)]]), (10, .cells 33 (UA a0))], [(6, some ⟨9, 1, (Enc.encL s1.2.2).length, []⟩)], 12, 50, []⟩) (0, y1.1, y1.2) o15 (Qu (Ua rfl) (hA rfl) (Uo rfl) rfl (Nat.le_trans hv0 (Um rfl)) rfl rfl rfl (UF rfl rfl (UF rfl rfl (UF rfl rfl (UF rfl rfl (UE rfl (UG rfl)))))) rfl rfl) hl1 (fun s1 n1 oo1 h1 ho1 => ?_)
 unfold Zq at h1
 refine Q5 <| Q0 <| Ue rfl rfl rfl (Q7 rfl rfl rfl) <| Q4 <| Q3 <| Q5 ?_
 refine Qg (b := (decide (s1.1 < (a0.kids.length : Int)))) rfl (fun c16 => ?_) (fun c16 => ?_)
 replace h1 := Qk c16 h1
 refine Qj <| Q3 <| Q5 <| Qf <| Q5 <| Q0 <| Uf rfl rfl rfl ?_
 refine Qb h1 (fun x17 hx17 h1 => ?_)
 refine Ue rfl rfl rfl (Qq (α := Tm) Ji rfl (.d _) rfl hx17) <| Ue rfl rfl rfl (Qv (x17 : Tm) QW rfl) <| Q9 rfl rfl (Um rfl) (Qm ZS rfl) <| Ug rfl rfl rfl <| Qy rfl rfl (QC (x17 : Tm) QW rfl rfl rfl rfl rfl) <| Q4 <| Q3 <| Q5 <| Q0 <| Uf rfl rfl rfl <| Ug rfl rfl rfl <| Q4 <| Q3 <| Q5 ?_
 refine Q5 <| Q0 <| Uf rfl rfl rfl <| Uf rfl rfl rfl <| Ue rfl rfl rfl (Q7 rfl rfl rfl) <| Q4 <| Q3 ?_
 refine QS (fun (v18 : Int) => ⟨[(1, .v (.one (Ux a1))), (4, .v (.one (.ptr 9 0))), (8, .v (.one (Ux v10))), (10, .v (.one (.ptr 12 0))), (11, .v (.one (Ux v18))), (31, .v (.one (Uv a0.kids))), (32, .v (.one (Ux (a0.kids.length : Int)))), (33, .v (.one (Ux s1.1)))], m91f12_h8 s1 a4 a0 x17, [(6, some ⟨9, 1, (Enc.encL s1.2.2).length, []⟩)], 13, 50, []⟩) (fun (v18 : Int) => (Option.bind (rc (x17, v18, s1.2.1, s1.2.2, a4)) fun (x19 : (Bool × (Qa UN Bool) × (List UN))) =>
   cond (!x19.1)
     (some (.done (.inr (false, x19.2.1, x19.2.2))))
     (some (.next ((Jk (s1.1 + 1)), x19.2.1, x19.2.2)))) = some oo1) ?_ ?_
 refine Qb h1 (fun w2_ h2 h1 => ?_)
 refine Qg (b := (s1.1 == v10)) rfl (fun c19 => ?_) (fun c19 => ?_)
 replace h2 := Qk c19 h2
 refine Q0 <| Uf rfl rfl rfl <| Ue rfl rfl rfl (Q7 rfl rfl rfl) <| Ug rfl rfl rfl <| Q4 ?_
 have e := Uc h2; subst e
 exact Qc (Jk (a1 + 1)) (Qu (Ua rfl) (hA rfl) (Uo rfl) rfl (Nat.le_trans hv0 (Um rfl)) rfl rfl rfl (UF rfl rfl (UF rfl rfl (UF rfl rfl (UF rfl rfl (UE rfl (UG rfl)))))) rfl rfl) h1
 replace h2 := Ql c19 h2
 refine Qj ?_
 have e := Uc h2; subst e
 exact Qc a1 (Qu (Ua rfl) (hA rfl) (Uo rfl) rfl (Nat.le_trans hv0 (Um rfl)) rfl rfl rfl (UF rfl rfl (UF rfl rfl (UF rfl rfl (UF rfl rfl (UE rfl (UG rfl)))))) rfl rfl) h1
 intro v18 h1
 refine Q3 <| Q5 <| Q0 <| Ue rfl rfl rfl (Q6 XY rfl rfl rfl) <| Ue rfl rfl rfl (QK (x17 : Tm) QW rfl rfl) <| Uf rfl rfl rfl ?_
 refine Qb h1 (fun x20 hx20 h1 => ?_)
 refine Q9 rfl rfl (Um rfl) (J4 (hp1' := [(0, .cells 132 [.yld 1]), (1, .loop .ready none [(3, .v (.one (.ptr 3 0))), (4, .v (.one (.ptr 5 0))), (9, .v (.one (.fn 89 [(7, 0)])))] 31 #[10, 11] Xg Xf 2), (2, .obj (.deferred (some []))), (3, .cells 80 [.mp 4]), (4, .mp (QO x20.2.1.1) x20.2.1.2), (5, .cells 51 [Uz 6 x20.2.2]), (7, .cells 33 (UA a4)), (8, .cells 135 [Uy true, Uy false, Ux 0, Ux 0, Ux (-1), Uy false, Uy false, Ux 0, Ux 0, Ux (-1), Uy false, Uy false, Ux 1, Ux 0, Ux (-1), Uy false, Uy true, Ux (-1), Ux 0, Ux (-1), Uy false, Uy false, Ux 0, Ux 2, Ux (-1), Uy false, Uy false, Ux 0, Ux 2, Ux 1, Uy false, Uy false, Ux 0, Ux 2, Ux 1, Uy false, Uy false, Ux 0, Ux 2, Ux 1, Uy false, Uy false, Ux 0, Ux 3, Ux (-1), Uy false, Uy false, Ux 0, Ux 1, Ux (-1), Uy false, Uy false, Ux 0, Ux 1, Ux (-1), Uy false, Uy false, Ux 0, Ux 3, Ux 2, Uy true, Uy false, Ux 0, Ux 0, Ux (-1)]), (9, .cells 137 [.fn 91 [(0, 0), (8, 0), (9, 0)]])]) (tk1' := [(6, some ⟨9, 1, (Enc.encL x20.2.2).length, []⟩)]) (hpF := [(10, .cells 33 (UA a0)), (12, .cells 33 (UA x17))]) (tkF := []) (res2 := QD [.one (Uy x20.1)]) (nx2 := 15) [0, 1, 2, 3, 4, 5, 6, 7, 8, 9] rfl rfl (H x17 v18 s1.2.1 s1.2.2 a4 x20 hx20) rfl rfl (Uj rfl rfl (Uj rfl rfl (Uj rfl rfl (Uj rfl rfl (Ui rfl (Uj rfl rfl (Uj rfl rfl (Uj rfl rfl (Uj rfl rfl Uh))))))))) rfl rfl (Ut rfl (Ut rfl (Ut rfl (Ut rfl (Uu rfl (Ut rfl (Ut rfl (Ut rfl (Ut rfl Us))))))))) (Uq rfl Up) (hA rfl) Un rfl rfl rfl rfl rfl (UF rfl rfl (UF rfl rfl (UF rfl rfl (UF rfl rfl (UE rfl (UG rfl)))))) rfl rfl rfl rfl) <| Ue rfl rfl rfl (Jb rfl) <| Q4 <| Q3 ?_
 refine Qg (b := (!x20.1)) rfl (fun c21 => ?_) (fun c21 => ?_)
 replace h1 := Qk c21 h1
 refine Q5 <| Q0 <| Ug rfl rfl rfl <| Q4 <| Q3 <| QA ?_
 have e := Uc h1; subst e
 have e_ : _ = _ := ho1
 subst e_
 try dsimp only [Sum.elim_inl, Sum.elim_inr] at h0
 have e := Uc h0; subst e
 exact hQ0 _ _ _ (.inr rfl) rfl (Qu (Ua rfl) (hA rfl) (Uo rfl) rfl (Nat.le_trans hv0 (Um rfl)) rfl rfl rfl (UF rfl rfl (UF rfl rfl (UF rfl rfl (UF rfl rfl (UE rfl (UG rfl)))))) rfl rfl)
 replace h1 := Ql c21 h1
 refine Qj <| Qe <| Q3 <| Q0 <| Ue rfl rfl rfl (Q7 rfl rfl rfl) <| Uf rfl rfl rfl <| Q4 ?_
 have e := Uc h1; subst e
 refine QM ((Jk (s1.1 + 1)), x20.2.1, x20.2.2) (Qu (Ua rfl) (hA rfl) (Uo rfl) rfl (Nat.le_trans hv0 (Um rfl)) rfl rfl rfl (UF rfl rfl (UF rfl rfl (UF rfl rfl (UF rfl rfl (UE rfl (UG rfl)))))) rfl rfl) ho1
 replace h1 := Ql c16 h1
 refine J1 <| Qn <| Qn ?_
 have e := Uc h1; subst e
 have e_ : _ = _ := ho1
 subst e_
 exact QP (s1.2.1, s1.2.2) (Qu U9 (hA rfl) (Uo rfl) rfl (Nat.le_trans hv0 (Um rfl)) rfl rfl rfl (UF rfl rfl (UF rfl rfl (UF rfl rfl (UF rfl rfl (UE rfl (UG rfl)))))) rfl rfl) h0
 intro o14 h0
 refine QF <| Q3 <| Q5 <| Q0 <| Ug rfl rfl rfl <| Q4 <| Q3 <| QA ?_
 have e := Uc h0; subst e
 exact hQ0 _ _ _ (.inr rfl) rfl (Qu (Ua rfl) (hA rfl) (Uo rfl) rfl (Nat.le_trans hv0 (Um rfl)) rfl rfl rfl (UF rfl rfl (UF rfl rfl (UF rfl rfl (UF rfl rfl (UE rfl (UG rfl)))))) rfl rfl)
theorem m91f12_all (n : Nat) (u : Tm × Int × (Qa UN Bool) × (List UN) × Tm) (r : (Bool × (Qa UN Bool) × (List UN))) (h0 : Yt Xy n u = some r) : CallM Try.prog 91 [.agg (UA u.1), .one (Ux u.2.1), .one (.ptr 0 0), .one (.ptr 8 0), .one (.ptr 9 0)] ⟨G2 u.2.2.1 u.2.2.2.1 u.2.2.2.2, [(6, some ⟨9, 1, (Enc.encL u.2.2.2.1).length, []⟩)], 10⟩ (QD [.one (Uy r.1)]) ⟨ZW r u.2.2.2.2, [(6, some ⟨9, 1, (Enc.encL r.2.2).length, []⟩)], 12⟩ :=
 YB (C := fun u r => CallM Try.prog 91 [.agg (UA u.1), .one (Ux u.2.1), .one (.ptr 0 0), .one (.ptr 8 0), .one (.ptr 9 0)] ⟨G2 u.2.2.1 u.2.2.2.1 u.2.2.2.2, [(6, some ⟨9, 1, (Enc.encL u.2.2.2.1).length, []⟩)], 10⟩ (QD [.one (Uy r.1)]) ⟨ZW r u.2.2.2.2, [(6, some ⟨9, 1, (Enc.encL r.2.2).length, []⟩)], 12⟩) (fun rc H u r h => m91f12s_ok rc (fun a0 a1 a2 a3 a4 r h => H (a0, a1, a2, a3, a4) r h) u.1 u.2.1 u.2.2.1 u.2.2.2.1 u.2.2.2.2 r h) n u r h0
theorem m91f12_ok (a0 : Tm) (a1 : Int) (a2 : Qa UN Bool) (a3 : List UN) (a4 : Tm) (r : (Bool × (Qa UN Bool) × (List UN))) (h0 : m91f12 a0 a1 a2 a3 a4 = some r) : CallM Try.prog 91 [.agg (UA a0), .one (Ux a1), .one (.ptr 0 0), .one (.ptr 8 0), .one (.ptr 9 0)] ⟨G2 a2 a3 a4, [(6, some ⟨9, 1, (Enc.encL a3).length, []⟩)], 10⟩ (QD [.one (Uy r.1)]) ⟨ZW r a4, [(6, some ⟨9, 1, (Enc.encL r.2.2).length, []⟩)], 12⟩ := m91f12_all J2 (a0, a1, a2, a3, a4) r h0
noncomputable abbrev Wd  : HB :=
 .mp (QO (gmNil : Qa UN Bool).1) (gmNil : Qa UN Bool).2
noncomputable abbrev m58_h1 (p0_ : Tm) : List (Nat × HB) :=
 [(0, .cells 33 (UA p0_)), (1, Wd), (2, .cells 80 [.mp 1]), (3, .cells 51 [Uw])]
noncomputable abbrev m58_h2 (p0_ : Tm) : List (Nat × HB) :=
 [(0, .cells 33 (UA p0_)), (1, Wd), (2, .cells 80 [.mp 1]), (3, .cells 51 [Uw]), (4, .cells 33 (UA p0_))]
noncomputable abbrev m58_h3 (p0_ : Tm) : List (Nat × HB) :=
 [(0, .cells 33 (UA p0_)), (1, Wd), (2, .cells 80 [.mp 1]), (3, .cells 51 [Uz 5 ([] : List UN)]), (4, .cells 33 (UA p0_))]
noncomputable abbrev m58_h4  : HB :=
 .loop .ready none [(3, .v (.one (.ptr 2 0))), (4, .v (.one (.ptr 3 0))), (9, .v (.one (.fn 89 [(4, 0)])))] 31 #[10, 11] Xg Xf 6
noncomputable abbrev m58_h5 (p0_ : Tm) (p1_ : (Qa UN Bool) × (List UN)) : List (Nat × HB) :=
 [(0, .cells 33 (UA p0_)), (1, .mp (QO p1_.1.1) p1_.1.2), (2, .cells 80 [.mp 1]), (3, .cells 51 [Uz 5 p1_.2]), (4, .cells 33 (UA p0_)), (6, .obj (.deferred (some []))), (7, m58_h4)]
noncomputable abbrev m58_h6 (p0_ : Tm) : List (Nat × HB) :=
 [(0, .cells 33 (UA p0_)), (1, Wd), (2, .cells 80 [.mp 1]), (3, .cells 51 [Uz 5 ([] : List UN)]), (4, .cells 33 (UA p0_)), (6, .obj (.deferred (some []))), (7, m58_h4), (8, .cells 132 [.yld 7])]
noncomputable abbrev m58_h7  : HB :=
 .cells 135 [Uy true, Uy false, Ux 0, Ux 0, Ux (-1), Uy false, Uy false, Ux 0, Ux 0, Ux (-1), Uy false, Uy false, Ux 1, Ux 0, Ux (-1), Uy false, Uy true, Ux (-1), Ux 0, Ux (-1), Uy false, Uy false, Ux 0, Ux 2, Ux (-1), Uy false, Uy false, Ux 0, Ux 2, Ux 1, Uy false, Uy false, Ux 0, Ux 2, Ux 1, Uy false, Uy false, Ux 0, Ux 2, Ux 1, Uy false, Uy false, Ux 0, Ux 3, Ux (-1), Uy false, Uy false, Ux 0, Ux 1, Ux (-1), Uy false, Uy false, Ux 0, Ux 1, Ux (-1), Uy false, Uy false, Ux 0, Ux 3, Ux 2, Uy true, Uy false, Ux 0, Ux 0, Ux (-1)]
noncomputable abbrev m58_h8 (p0_ : Tm) : List (Nat × HB) :=
 [(0, .cells 33 (UA p0_)), (1, Wd), (2, .cells 80 [.mp 1]), (3, .cells 51 [Uz 5 ([] : List UN)]), (4, .cells 33 (UA p0_)), (6, .obj (.deferred (some []))), (7, m58_h4), (8, .cells 132 [.yld 7]), (9, m58_h7)]
def U0 (a0 : Tm) : Option ((List UN)) :=
 Option.bind (some ()) (fun (y1 : Unit) => Option.bind (Option.bind (some ()) (fun (y5 : Unit) => Option.bind (m91f12 a0 0 gmNil ([]) a0) fun (x7 : (Bool × (Qa UN Bool) × (List UN))) =>
 some (x7.2.1, x7.2.2))) (fun (y3 : (Qa UN Bool) × (List UN)) => some y3.2))
set_option maxRecDepth 100000 in
set_option maxHeartbeats 2000000 in
theorem m58_ok (a0 : Tm) (r : (List UN)) (h0 : U0 a0 = some r) : Fun Try.prog 58 [.agg (UA a0)] (QD [.one (Uv r)]) := by
 unfold U0 at h0
 refine QY 9 31 Try.func58 rfl en_58 rfl (Um rfl) (fun S w => ?_)
 simp only [J7]
 refine Q5 <| Q0 <| Q9 rfl rfl (Um rfl) (QN rfl) <| Ug rfl rfl rfl <| Q4 <| Q3 <| Q5 <| Q0 <| Q9 rfl rfl (Um rfl) (YX UN Bool) <| Q9 rfl rfl (Um rfl) (Qm z_80 rfl) <| Qy rfl rfl (Qr GT rfl rfl rfl rfl (Um rfl) rfl) <| Q4 <| Q3 <| Q5 ?_
 refine Q0 <| Q9 rfl rfl (Um rfl) (Qm z_51 rfl) <| Q4 <| Q3 <| Q5 <| Q5 <| Q0 <| Ue rfl rfl rfl (QK (a0 : Tm) QW rfl rfl) ?_
 refine Qb h0 (fun y1 h1 h0 => ?_)
 have hc2 : CallM Try.prog 74 [.agg (UA a0)] ⟨m58_h1 a0, [], 4⟩ (QD [.one (.fn 89 [(4, 0)])]) ⟨m58_h2 a0, [], 5⟩ := by
  refine QT ⟨[(2, .v (.one (.fn 89 [(4, 0)])))], m58_h2 a0, [], 5, 4, []⟩ rfl rfl en_74 (Um rfl) rfl (Qz rfl .nil) (fun w0 M V0 Q hv1 hQ1 => ?_)
  simp only [J7]
  refine Q5 <| Q0 <| Q9 rfl rfl (Um rfl) (QN rfl) <| Ug rfl rfl rfl <| Q4 <| Q3 <| Q5 <| Q0 <| Ue rfl rfl rfl (YQ rfl) <| Ug rfl rfl rfl <| Q4 <| Q3 <| QA ?_
  have e := Uc h1; subst e
  exact hQ1 _ _ _ (.inr rfl) rfl (Qu (Ua rfl) (hA rfl) Un rfl (Nat.le_trans hv1 (Um rfl)) rfl rfl rfl (UF rfl rfl (UE rfl (UG rfl))) rfl rfl)
 refine Q9 rfl rfl (Um rfl) (JM rfl rfl rfl hc2 rfl (hA rfl) Un) <| Q4 <| Q3 <| Qf <| XC.adoptC (i := 3) (off := 0) 9 1 rfl rfl <| Km (st' := ⟨[(3, .v (.one (.ptr 2 0))), (4, .v (.one (.ptr 3 0))), (9, .v (.one (.fn 89 [(4, 0)])))], m58_h3 a0, [(5, some ⟨9, 1, (Enc.encL ([] : List UN)).length, []⟩)], 6, 31, []⟩) (Qu (Ua rfl) (hA rfl) (Uo rfl) rfl (Nat.zero_le _) rfl rfl rfl (UF rfl rfl (UE rfl (UG rfl))) rfl rfl) ?_
 refine Qb h0 (fun y3 h1 h0 => ?_)
 have hc4 : CallM Try.prog 89 [.one (.yld 7), .one (.ptr 4 0)] ⟨[(7, .loop .ready none [(3, .v (.one (.ptr 2 0))), (4, .v (.one (.ptr 3 0))), (9, .v (.one (.fn 89 [(4, 0)])))] 31 #[10, 11] Xg Xf 6), (6, .obj (.deferred (some []))), (0, .cells 33 (UA a0)), (1, .mp (QO (gmNil : Qa UN Bool).1) (gmNil : Qa UN Bool).2), (2, .cells 80 [.mp 1]), (3, .cells 51 [Uz 5 ([] : List UN)]), (4, .cells 33 (UA a0))], [(5, some ⟨9, 1, (Enc.encL ([] : List UN)).length, []⟩)], 8⟩ (QD []) ⟨m58_h5 a0 y3, [(5, some ⟨9, 1, (Enc.encL y3.2).length, []⟩)], 14⟩ := by
  refine QT ⟨[], m58_h5 a0 y3, [(5, some ⟨9, 1, (Enc.encL y3.2).length, []⟩)], 14, 10, []⟩ rfl rfl en_89 (Um rfl) rfl .nil (fun w0 M V0 Q hv1 hQ1 => ?_)
  simp only [J7]
  refine Q5 <| Q0 <| Q9 rfl rfl (Um rfl) (QN rfl) <| Q4 <| Q3 <| Q5 <| Q0 ?_
  refine Qb h1 (fun y5 h2 h1 => ?_)
  have hc6 : CallM Try.prog 90 [] ⟨m58_h6 a0, [(5, some ⟨9, 1, (Enc.encL ([] : List UN)).length, []⟩)], 9⟩ (QD [.agg [Uy true, Uy false, Ux 0, Ux 0, Ux (-1), Uy false, Uy false, Ux 0, Ux 0, Ux (-1), Uy false, Uy false, Ux 1, Ux 0, Ux (-1), Uy false, Uy true, Ux (-1), Ux 0, Ux (-1), Uy false, Uy false, Ux 0, Ux 2, Ux (-1), Uy false, Uy false, Ux 0, Ux 2, Ux 1, Uy false, Uy false, Ux 0, Ux 2, Ux 1, Uy false, Uy false, Ux 0, Ux 2, Ux 1, Uy false, Uy false, Ux 0, Ux 3, Ux (-1), Uy false, Uy false, Ux 0, Ux 1, Ux (-1), Uy false, Uy false, Ux 0, Ux 1, Ux (-1), Uy false, Uy false, Ux 0, Ux 3, Ux 2, Uy true, Uy false, Ux 0, Ux 0, Ux (-1)]]) ⟨m58_h8 a0, [(5, some ⟨9, 1, (Enc.encL ([] : List UN)).length, []⟩)], 10⟩ := by
   refine QT ⟨[(0, .v (.one (.ptr 9 0)))], m58_h8 a0, [(5, some ⟨9, 1, (Enc.encL ([] : List UN)).length, []⟩)], 10, 15, []⟩ rfl rfl en_90 (Um rfl) rfl (Z0 GU rfl rfl rfl rfl .nil) (fun w0 M V0 Q hv2 hQ2 => ?_)
   simp only [J7]
   refine Q5 <| Q0 <| Q9 rfl rfl (Um rfl) (Qm Ws rfl) <| Q4 <| Q3 <| Q5 <| Q0 <| Ue rfl rfl rfl (J9 JD rfl rfl rfl rfl) <| Ue rfl rfl rfl (Gf JD rfl rfl rfl) <| Ue rfl rfl rfl (J9 JD rfl rfl rfl rfl) <| Ue rfl rfl rfl (ZA JD rfl rfl rfl rfl rfl) <| Ue rfl rfl rfl (J9 JD rfl rfl rfl rfl) <| Ue rfl rfl rfl (J9 JD rfl rfl rfl rfl) <| Ue rfl rfl rfl (J9 JD rfl rfl rfl rfl) ?_
   refine Ue rfl rfl rfl (J9 JD rfl rfl rfl rfl) <| Ue rfl rfl rfl (J9 JD rfl rfl rfl rfl) <| Ue rfl rfl rfl (J9 JD rfl rfl rfl rfl) <| Ue rfl rfl rfl (J9 JD rfl rfl rfl rfl) <| Ue rfl rfl rfl (J9 JD rfl rfl rfl rfl) <| Ue rfl rfl rfl (J9 JD rfl rfl rfl rfl) <| Ue rfl rfl rfl (Y1 bd_135 rfl (.cons rfl (.cons rfl (.cons rfl (.cons rfl (.cons rfl (.cons rfl (.cons rfl (.cons rfl (.cons rfl (.cons rfl (.cons rfl (.cons rfl (.cons rfl .nil))))))))))))) rfl) <| Qy rfl rfl (Yw GU rfl rfl rfl rfl rfl rfl) <| Q4 <| Q3 <| QA ?_
   have e := Uc h2; subst e
   exact hQ2 _ _ _ (.inr rfl) rfl (Qu (Ua rfl) (hA rfl) (Uo rfl) rfl (Nat.le_trans hv2 (Um rfl)) rfl rfl rfl (UF rfl rfl (UE rfl (UG rfl))) rfl rfl)
  refine Q9 rfl rfl (Um rfl) (JM rfl rfl rfl hc6 rfl (hA rfl) (Uo rfl)) <| Q9 rfl rfl (Um rfl) (Qm Ws rfl) <| Qy rfl rfl (Yw GU rfl rfl rfl rfl rfl rfl) <| Q4 <| Q3 <| Q5 <| Q0 <| Q9 rfl rfl (Um rfl) (Qm z_137 rfl) <| Q4 <| Q3 <| Q5 <| Q0 <| Ue rfl rfl rfl (RO.makeFunc3 rfl rfl rfl) <| Qy rfl rfl (Qr XY rfl rfl rfl rfl (Um rfl) rfl) ?_
  refine Q4 <| Q3 <| Q0 <| Ue rfl rfl rfl (Q6 XY rfl rfl rfl) <| Ue rfl rfl rfl (QK (a0 : Tm) QW rfl rfl) ?_
  refine Qb h1 (fun x7 hx7 h1 => ?_)
  refine Q9 rfl rfl (Um rfl) (J4 (hp1' := [(8, .cells 132 [.yld 7]), (7, .loop .ready none [(3, .v (.one (.ptr 2 0))), (4, .v (.one (.ptr 3 0))), (9, .v (.one (.fn 89 [(4, 0)])))] 31 #[10, 11] Xg Xf 6), (6, .obj (.deferred (some []))), (2, .cells 80 [.mp 1]), (1, .mp (QO x7.2.1.1) x7.2.1.2), (3, .cells 51 [Uz 5 x7.2.2]), (4, .cells 33 (UA a0)), (10, .cells 135 [Uy true, Uy false, Ux 0, Ux 0, Ux (-1), Uy false, Uy false, Ux 0, Ux 0, Ux (-1), Uy false, Uy false, Ux 1, Ux 0, Ux (-1), Uy false, Uy true, Ux (-1), Ux 0, Ux (-1), Uy false, Uy false, Ux 0, Ux 2, Ux (-1), Uy false, Uy false, Ux 0, Ux 2, Ux 1, Uy false, Uy false, Ux 0, Ux 2, Ux 1, Uy false, Uy false, Ux 0, Ux 2, Ux 1, Uy false, Uy false, Ux 0, Ux 3, Ux (-1), Uy false, Uy false, Ux 0, Ux 1, Ux (-1), Uy false, Uy false, Ux 0, Ux 1, Ux (-1), Uy false, Uy false, Ux 0, Ux 3, Ux 2, Uy true, Uy false, Ux 0, Ux 0, Ux (-1)]), (11, .cells 137 [.fn 91 [(8, 0), (10, 0), (11, 0)]])]) (tk1' := [(5, some ⟨9, 1, (Enc.encL x7.2.2).length, []⟩)]) (hpF := [(0, .cells 33 (UA a0)), (9, m58_h7)]) (tkF := []) (res2 := QD [.one (Uy x7.1)]) (nx2 := 14) [8, 7, 6, 2, 1, 3, 5, 4, 10, 11] rfl rfl (m91f12_ok a0 0 gmNil ([]) a0 x7 hx7) rfl rfl (Uj rfl rfl (Uj rfl rfl (Uj rfl rfl (Uj rfl rfl (Ui rfl (Uj rfl rfl (Uj rfl rfl (Uj rfl rfl (Uj rfl rfl Uh))))))))) rfl rfl (Ut rfl (Ut rfl (Ut rfl (Ut rfl (Uu rfl (Ut rfl (Ut rfl (Ut rfl (Ut rfl Us))))))))) (Uq rfl Up) (hA rfl) Un rfl rfl rfl rfl rfl (UF rfl rfl (UF rfl rfl (UF rfl rfl (UF rfl rfl (UE rfl (UG rfl)))))) rfl rfl rfl rfl) <| Q4 ?_
  have e := Uc h1; subst e
  exact hQ1 _ _ _ (.inl rfl) rfl (Qu U9 (hA rfl) (Uo rfl) rfl (Nat.le_trans hv1 (Um rfl)) rfl rfl rfl (UF rfl rfl (UE rfl (UG rfl))) rfl rfl)
 refine ZK (Y5 (e := .normal) rfl hc4 rfl rfl (by intro h; cases h) rfl) rfl ?_
 refine Qe <| Q3 <| Q5 <| Q0 <| Ue rfl rfl rfl (Q6 Xb rfl rfl rfl) <| Ug rfl rfl rfl <| Q4 <| Q3 <| QA ?_
 have e := Uc h0; subst e
 exact QL (fun _ _ h => h) rfl (Qz rfl .nil) (.cons (.one (.app _ _ _)) .nil)
end Go.Proofs.Ytafddfoefeploaa
