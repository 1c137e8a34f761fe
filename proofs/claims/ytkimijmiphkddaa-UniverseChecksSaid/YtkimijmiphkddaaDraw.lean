/- Regions that draw their order: readers first, in whatever order; what follows them, in the text's order. -/
import Derived.Test.YtkimijmiphkddaaFun
import Derived.OrdersIn
namespace Go.Proofs.Ytkimijmiphkddaa
open Go.RowKit
set_option linter.unusedSimpArgs false
set_option linter.unusedVariables false
set_option linter.unusedSectionVars false

section
variable {P : Program} {ops : Array Oper} {w : World} {ro : Option Nat} {n : Nat} {md : Region.Mode}

theorem wpIn_of_still {o : Oper} {a : Act} {K : Act → Prop} {K' : Act → World → Prop} {Q' : Exit → Act → World → Prop} (h : ∀ a, K a → K' a w) (hh : o.still P a w K) : o.wpIn (FR ro) n P a w K' Q' := by
  have hnd : ∀ c, o.op ≠ .defer c := by
    intro c hc
    unfold Oper.still at hh
    simp only [execOp, hc] at hh
    cases hr : (resolve a.eval c o.type).run P w <;> simp [hr, Oper.stillUpon] at hh
  refine ⟨fun _ _ => trivial, ?_⟩
  rw [Oper.semAt_eq _ _ _ hnd]
  unfold Oper.still at hh
  generalize (execOp a.eval o).run P w = r at *
  cases r with
  | ok x w' =>
    cases x <;> simp only [Oper.stillUpon] at hh <;> simp only [Oper.uponIn]
    case enter f args =>
      obtain ⟨rfl, v, hc, hn⟩ := hh
      refine ⟨(by intro h; cases h), ?_⟩
      have hc' : CallsIn Fence.wide (n - 1) P f args w' _ := callsIn_wide.2 hc
      refine CallsIn.mono (F := FR ro) hc' ?_
      rintro e w'' ⟨rfl, rfl⟩
      exact h _ hn
    all_goals (obtain ⟨rfl, h2⟩ := hh; exact h _ h2)
  | halt x w' => simp only [Oper.stillUpon] at hh

theorem wpOpIn_of_stOp {i : Nat} {a : Act} {K : Act → Prop} {K' : Act → World → Prop} {Q' : Exit → Act → World → Prop} (h : ∀ a, K a → K' a w) (hh : stOp P ops w i K a) : wpOpIn (FR ro) n P ops Q' i K' a w := by
  unfold stOp at hh
  unfold wpOpIn
  split
  · rename_i ho; simp only [ho] at hh; exact h _ hh
  · rename_i o ho
    simp only [ho] at hh
    split
    · rename_i hw; simp only [hw, if_true] at hh; exact wpIn_of_still h hh
    · rename_i hw; simp only [hw] at hh; exact ⟨fun _ _ => trivial, h _ hh⟩

theorem wpAnyIn_of_still {Q : Act → Prop} {Q' : Exit → Act → World → Prop} (hQ : ∀ a, Q a → Q' .normal a w) : ∀ (fuel : Nat) (listed : Array Bool) (a : Act),
    wpAnyS P md ops w Q fuel listed a → wpAnyIn (FR ro) n P md ops Q' fuel listed a w
  | 0, _, _, h => ⟨h.1, hQ _ h.2⟩
  | fuel + 1, _, _, h => ⟨fun h0 => hQ _ (h.1 h0), fun i hi => wpOpIn_of_stOp (fun a' => wpAnyIn_of_still hQ fuel _ a') (h.2 i hi)⟩

theorem wpAnyIn_of_head {m g : Nat} {L : Array Bool → Act → Prop} {Q' : Exit → Act → World → Prop} (hL : ∀ listed a, L listed a → wpAnyIn (FR ro) n P md ops Q' g listed a w) :
    ∀ (f : Nat) (listed : Array Bool) (a : Act), wpAnyL P md ops w m L f listed a → wpAnyIn (FR ro) n P md ops Q' (f + g) listed a w
  | 0, listed, a, h => by rw [Nat.zero_add]; exact hL _ _ h
  | f + 1, listed, a, h => by
    rw [show f + 1 + g = (f + g) + 1 by omega]
    exact ⟨fun h0 => absurd h0 h.1, fun i hi => wpOpIn_of_stOp (fun a' h' => wpAnyIn_of_head hL f _ a' h') (h.2 i hi).2⟩

theorem wpAnyIn_of_seq {Q' : Exit → Act → World → Prop} : ∀ (l : List Oper) (k : Nat) (listed : Array Bool) (a : Act) (w : World), (∀ j, l[j]? = ops[k + j]?) →
    Region.seqB md ops l.length k listed = true → wpListIn (FR ro) n P ops Q' l a w → wpAnyIn (FR ro) n P md ops Q' l.length listed a w
  | [], _, _, _, _, _, hB, h => ⟨by simpa [Region.seqB] using hB, h⟩
  | o :: l, k, listed, a, w, hl, hB, h => by
    have h0 : ops[k]? = some o := by simpa using (hl 0).symm
    simp only [List.length_cons, Region.seqB, Bool.and_eq_true, decide_eq_true_eq] at hB
    refine ⟨fun h1 => (by rw [hB.1] at h1; cases h1), fun i hi => ?_⟩
    rw [hB.1] at hi
    have hik : i = k := by simpa using hi
    subst hik
    have hw : wpOpIn (FR ro) n P ops Q' i (wpListIn (FR ro) n P ops Q' l) a w := by unfold wpOpIn; simp only [h0]; exact h
    exact wpOpIn_mono (fun a' w' h' => wpAnyIn_of_seq l (i + 1) _ a' w' (fun j => by have := hl (j + 1); simpa [Nat.add_assoc, Nat.add_comm 1 j] using this) hB.2 h') hw

theorem wpIn_region_still {id : Nat} {Q : Exit → Act → World → Prop} {a : Act} {w : World} {l : List Oper} (hm : P.follows .mixedOrders = true) (hB : Region.lexB .any l.toArray = true)
    (h : wpStill P l.toArray { w with drawn := w.drawn + 1 } (fun a' => Q .normal a' { w with drawn := w.drawn + 1 }) l a) : (Code.region id l.toArray true).wpIn (FR ro) n P Q a w := by
  simp only [Region.lexB, Bool.and_eq_true] at hB
  refine wpIn_region_any hm (wpAnyIn_of_still (Q := fun a' => Q .normal a' { w with drawn := w.drawn + 1 }) (fun _ h => h) _ _ _ ?_)
  have := wpAnyS_lex (md := .any) hB.1 l 0 (Array.replicate l.toArray.size false) a (by simp) (by simpa using hB.2) h
  simpa using this

theorem wpIn_region_still_tail {id : Nat} {Q : Exit → Act → World → Prop} {a : Act} {w : World} {l : List Oper} (m : Nat) (hm : P.follows .mixedOrders = true) (hB : Region.lexTailB .any l.toArray m = true)
    (h : wpStill P l.toArray { w with drawn := w.drawn + 1 } (fun a' => wpListIn (FR ro) n P l.toArray Q (l.drop m) a' { w with drawn := w.drawn + 1 }) (l.take m) a) : (Code.region id l.toArray true).wpIn (FR ro) n P Q a w := by
  simp only [Region.lexTailB, Bool.and_eq_true, decide_eq_true_eq] at hB
  obtain ⟨⟨⟨⟨hsel, hn⟩, hs⟩, hc⟩, hlex⟩ := hB
  have hn' : m < l.length := by simpa using hn
  have htl : (l.take m).length = m := by simp; omega
  have hdl : (l.drop m).length = l.toArray.size - m := by simp
  have inv0 : HeadInv .any l.toArray m (Array.replicate l.toArray.size false) :=
    ⟨by simp, fun j oj _ hl => (by rw [getD_replicate_false] at hl; cases hl), fun t _ ht => getD_in (by simpa using ht) (getD_replicate_false _ _)⟩
  have h1 := wpAnyL_lex (g := l.toArray.size - m) hsel hs hc hn (l.take m) 0 (Array.replicate l.toArray.size false) a (fun j hj => by
    rw [htl] at hj
    simp [List.getElem?_take_of_lt hj]) (by omega) inv0 (by rw [htl]; exact hlex) h
  refine wpIn_region_any hm ?_
  have h2 := wpAnyIn_of_head (ro := ro) (n := n) (P := P) (md := .any) (ops := l.toArray) (g := l.toArray.size - m) (Q' := Q) (fun listed a' hL => by
    have := wpAnyIn_of_seq (ro := ro) (n := n) (P := P) (md := .any) (ops := l.toArray) (Q' := Q) (l.drop m) m listed a' _ (fun j => by simp [List.getElem?_drop]) (by rw [hdl]; exact hL.1) hL.2
    rw [hdl] at this
    exact this) (l.take m).length _ a h1
  rw [htl, show m + (l.toArray.size - m) = l.toArray.size by simp; omega] at h2
  exact h2
end

section
variable {E : Env} {ro : Option Nat} {n : Nat} {ops : Array Oper} {Q : Exit → Act → World → Prop} {Qs : World → Act → Prop} {rest : List Oper} {st : St} {o : Oper}

/-- Readers, one after the other. -/
def XS (E : Env) (ops : Array Oper) (Qs : World → Act → Prop) (rest : List Oper) (st : St) : Prop := ∀ V a w, Rel E V st a w → wpStill E.P ops w (Qs w) rest a

theorem still_of_ro {V : Vu} {a : Act} {w : World} {d : Nat} {x : TV} (hdst : o.dst = some d) (hd : d < st.nt) (h : RO E o st x) (hr : Rel E V st a w) {K : Act → Prop} (hK : ∀ a', Rel E V (ST.put st d x) a' w → K a') : o.still E.P a w K := by
  obtain ⟨v, hrun, hx⟩ := h.2 V a w hr
  unfold Oper.still
  rw [hrun]
  refine ⟨rfl, ?_⟩
  rw [hdst]
  exact hK _ (hr.put hd hx)

theorem XS.op {d : Nat} {x : TV} (hg : o.guard = none) (hdst : o.dst = some d) (hd : d < st.nt) (h : RO E o st x) (k : XS E ops Qs rest (ST.put st d x)) : XS E ops Qs (o :: rest) st := by
  intro V a w hr
  unfold wpStill
  rw [if_pos (by simp [Region.wanted, hg])]
  exact still_of_ro hdst hd h hr (fun a' hr' => k V a' w hr')

theorem XS.on {j d t : Nat} {b : Bool} {x : TV} (hg : o.guard = some (j, b)) (hj : (ops[j]?).bind (·.dst) = some d) (hb : lk st.tm d = some (TB b)) (hdst : o.dst = some t) (hd : t < st.nt) (h : RO E o st x) (k : XS E ops Qs rest (ST.put st t x)) : XS E ops Qs (o :: rest) st := by
  intro V a w hr
  unfold wpStill
  rw [if_pos (by simp [Region.wanted, hg, yielded_of hr hj hb])]
  exact still_of_ro hdst hd h hr (fun a' hr' => k V a' w hr')

theorem XS.offB {j d t : Nat} {b : Bool} (hg : o.guard = some (j, b)) (hj : (ops[j]?).bind (·.dst) = some d) (hb : lk st.tm d = some (TB (!b))) (hdst : o.dst = some t) (k : XS E ops Qs rest (ST.put st t (.tup []))) : XS E ops Qs (o :: rest) st := by
  intro V a w h
  unfold wpStill
  rw [if_neg (by simp [Region.wanted, hg, yielded_of h hj hb])]
  rw [hdst]
  exact k V _ w (h.und t)

theorem XS.offU {j d t : Nat} {b : Bool} (hg : o.guard = some (j, b)) (hj : (ops[j]?).bind (·.dst) = some d) (hb : lk st.tm d = some (.tup [])) (hdst : o.dst = some t) (k : XS E ops Qs rest (ST.put st t (.tup []))) : XS E ops Qs (o :: rest) st := by
  intro V a w h
  unfold wpStill
  rw [if_neg (by simp [Region.wanted, hg, yielded_und h hj hb])]
  rw [hdst]
  exact k V _ w (h.und t)

theorem XS.case {d : Nat} {c : Bool} (hb : lk st.tm d = some (TB c)) (ht : c = true → XS E ops Qs rest (ST.put st d (TB true))) (hf : c = false → XS E ops Qs rest (ST.put st d (TB false))) : XS E ops Qs rest st := by
  intro V a w h
  have key : ∀ b, c = b → Rel E V (ST.put st d (TB b)) a w := fun b e => by
    subst e
    refine ⟨h.h, h.nx, h.nt, h.df, fun t y hy => ?_⟩
    simp only [ST.put, lk_cons] at hy
    split at hy
    · rename_i e; subst e; cases hy; exact h.tm _ _ hb
    · exact h.tm t y hy
  cases hc : c with
  | true => exact ht hc V a w (key true hc)
  | false => exact hf hc V a w (key false hc)

theorem Rel.drew {V : Vu} {a : Act} {w : World} (h : Rel E V st a w) : Rel E V st a { w with drawn := w.drawn + 1 } :=
  h.later (V' := V) ⟨rfl, rfl, rfl, Nat.le_refl _, fun _ _ _ => rfl⟩ ⟨Nat.le_refl _, fun _ _ => rfl, fun _ _ => rfl, fun _ _ _ _ => rfl, fun _ _ h => h, fun _ _ h => .inl h, h.h.sz⟩ rfl

theorem XS.nil (k : XQ E Q .normal st) : XS E ops (fun w a => Q .normal a w) [] st := fun V a w hr => k V a w hr
theorem XS.tail {l : List Oper} (k : XL E ro n ops Q l st) : XS E ops (fun w a => wpListIn (FR ro) n E.P ops Q l a w) [] st := fun V a w hr => k V a w hr

theorem XC.draw {id : Nat} {l : List Oper} (hm : E.P.follows .mixedOrders = true) (hB : Region.lexB .any l.toArray = true) (h : XS E l.toArray (fun w a => Q .normal a w) l st) : XC E ro n Q (.region id l.toArray true) st :=
  fun V a _ hr => wpIn_region_still hm hB (h V a _ hr.drew)
theorem XC.drawTail {id : Nat} {l : List Oper} (m : Nat) (hm : E.P.follows .mixedOrders = true) (hB : Region.lexTailB .any l.toArray m = true) (h : XS E l.toArray (fun w a => wpListIn (FR ro) n E.P l.toArray Q (l.drop m) a w) (l.take m) st) : XC E ro n Q (.region id l.toArray true) st :=
  fun V a _ hr => wpIn_region_still_tail m hm hB (h V a _ hr.drew)
end
end Go.Proofs.Ytkimijmiphkddaa
