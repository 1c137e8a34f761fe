/- Regions that draw their order: readers first, in whatever order; what follows them, in the text's order. Calls that borrow the call's own blocks; function values. Aggregates and slices that are built. -/
import Derived.Test.YtcapifnaceegmaaGreatDoorFun
import Derived.OrdersIn
namespace Go.Proofs.YtcapifnaceegmaaGreatDoor
section
open Go.RowKit
set_option linter.unusedSimpArgs false
set_option linter.unusedVariables false
set_option linter.unusedSectionVars false

section
variable {P : Program} {ops : Array Oper} {w : World} {ro : Option Nat} {n : Nat} {md : Region.Mode}

theorem wpIn_of_still {o : Oper} {a : Act} {K : Act → Prop} {K' : Act → World → Prop} {Q' : Exit → Act → World → Prop} (h : ∀ a, K a → K' a w) (hh : o.still P a w K) : o.wpIn (FR ro) n P a w K' Q' := by
  have hnd : ∀ c, o.op ≠ .defer c := by
    intro c hc
    unfold Oper.still at hh
    simp only [execOp, hc] at hh
    cases hr : (resolve a.eval c o.type).run P w <;> simp [hr, Oper.stillUpon] at hh
  refine ⟨fun _ _ => trivial, ?_⟩
  rw [Oper.semAt_eq _ _ _ hnd]
  unfold Oper.still at hh
  generalize (execOp a.eval o).run P w = r at *
  cases r with
  | ok x w' =>
    cases x <;> simp only [Oper.stillUpon] at hh <;> simp only [Oper.uponIn]
    case enter f args =>
      obtain ⟨rfl, v, hc, hn⟩ := hh
      refine ⟨(by intro h; cases h), ?_⟩
      have hc' : CallsIn Fence.wide (n - 1) P f args w' _ := callsIn_wide.2 hc
      refine CallsIn.mono (F := FR ro) hc' ?_
      rintro e w'' ⟨rfl, rfl⟩
      exact h _ hn
    all_goals (obtain ⟨rfl, h2⟩ := hh; exact h _ h2)
  | halt x w' => simp only [Oper.stillUpon] at hh

theorem wpOpIn_of_stOp {i : Nat} {a : Act} {K : Act → Prop} {K' : Act → World → Prop} {Q' : Exit → Act → World → Prop} (h : ∀ a, K a → K' a w) (hh : stOp P ops w i K a) : wpOpIn (FR ro) n P ops Q' i K' a w := by
  unfold stOp at hh
  unfold wpOpIn
  split
  · rename_i ho; simp only [ho] at hh; exact h _ hh
  · rename_i o ho
    simp only [ho] at hh
    split
    · rename_i hw; simp only [hw, if_true] at hh; exact wpIn_of_still h hh
    · rename_i hw; simp only [hw] at hh; exact ⟨fun _ _ => trivial, h _ hh⟩

theorem wpAnyIn_of_still {Q : Act → Prop} {Q' : Exit → Act → World → Prop} (hQ : ∀ a, Q a → Q' .normal a w) : ∀ (fuel : Nat) (listed : Array Bool) (a : Act),
    wpAnyS P md ops w Q fuel listed a → wpAnyIn (FR ro) n P md ops Q' fuel listed a w
  | 0, _, _, h => ⟨h.1, hQ _ h.2⟩
  | fuel + 1, _, _, h => ⟨fun h0 => hQ _ (h.1 h0), fun i hi => wpOpIn_of_stOp (fun a' => wpAnyIn_of_still hQ fuel _ a') (h.2 i hi)⟩

theorem wpAnyIn_of_head {m g : Nat} {L : Array Bool → Act → Prop} {Q' : Exit → Act → World → Prop} (hL : ∀ listed a, L listed a → wpAnyIn (FR ro) n P md ops Q' g listed a w) :
    ∀ (f : Nat) (listed : Array Bool) (a : Act), wpAnyL P md ops w m L f listed a → wpAnyIn (FR ro) n P md ops Q' (f + g) listed a w
  | 0, listed, a, h => by rw [Nat.zero_add]; exact hL _ _ h
  | f + 1, listed, a, h => by
    rw [show f + 1 + g = (f + g) + 1 by omega]
    exact ⟨fun h0 => absurd h0 h.1, fun i hi => wpOpIn_of_stOp (fun a' h' => wpAnyIn_of_head hL f _ a' h') (h.2 i hi).2⟩

theorem wpAnyIn_of_seq {Q' : Exit → Act → World → Prop} : ∀ (l : List Oper) (k : Nat) (listed : Array Bool) (a : Act) (w : World), (∀ j, l[j]? = ops[k + j]?) →
    Region.seqB md ops l.length k listed = true → wpListIn (FR ro) n P ops Q' l a w → wpAnyIn (FR ro) n P md ops Q' l.length listed a w
  | [], _, _, _, _, _, hB, h => ⟨by simpa [Region.seqB] using hB, h⟩
  | o :: l, k, listed, a, w, hl, hB, h => by
    have h0 : ops[k]? = some o := by simpa using (hl 0).symm
    simp only [List.length_cons, Region.seqB, Bool.and_eq_true, decide_eq_true_eq] at hB
    refine ⟨fun h1 => (by rw [hB.1] at h1; cases h1), fun i hi => ?_⟩
    rw [hB.1] at hi
    have hik : i = k := by simpa using hi
    subst hik
    have hw : wpOpIn (FR ro) n P ops Q' i (wpListIn (FR ro) n P ops Q' l) a w := by unfold wpOpIn; simp only [h0]; exact h
    exact wpOpIn_mono (fun a' w' h' => wpAnyIn_of_seq l (i + 1) _ a' w' (fun j => by have := hl (j + 1); simpa [Nat.add_assoc, Nat.add_comm 1 j] using this) hB.2 h') hw

theorem wpIn_region_still {id : Nat} {Q : Exit → Act → World → Prop} {a : Act} {w : World} {l : List Oper} (hm : P.follows .mixedOrders = true) (hB : Region.lexB .any l.toArray = true)
    (h : wpStill P l.toArray { w with drawn := w.drawn + 1 } (fun a' => Q .normal a' { w with drawn := w.drawn + 1 }) l a) : (Code.region id l.toArray true).wpIn (FR ro) n P Q a w := by
  simp only [Region.lexB, Bool.and_eq_true] at hB
  refine wpIn_region_any hm (wpAnyIn_of_still (Q := fun a' => Q .normal a' { w with drawn := w.drawn + 1 }) (fun _ h => h) _ _ _ ?_)
  have := wpAnyS_lex (md := .any) hB.1 l 0 (Array.replicate l.toArray.size false) a (by simp) (by simpa using hB.2) h
  simpa using this

theorem wpIn_region_still_tail {id : Nat} {Q : Exit → Act → World → Prop} {a : Act} {w : World} {l : List Oper} (m : Nat) (hm : P.follows .mixedOrders = true) (hB : Region.lexTailB .any l.toArray m = true)
    (h : wpStill P l.toArray { w with drawn := w.drawn + 1 } (fun a' => wpListIn (FR ro) n P l.toArray Q (l.drop m) a' { w with drawn := w.drawn + 1 }) (l.take m) a) : (Code.region id l.toArray true).wpIn (FR ro) n P Q a w := by
  simp only [Region.lexTailB, Bool.and_eq_true, decide_eq_true_eq] at hB
  obtain ⟨⟨⟨⟨hsel, hn⟩, hs⟩, hc⟩, hlex⟩ := hB
  have hn' : m < l.length := by simpa using hn
  have htl : (l.take m).length = m := by simp; omega
  have hdl : (l.drop m).length = l.toArray.size - m := by simp
  have inv0 : HeadInv .any l.toArray m (Array.replicate l.toArray.size false) :=
    ⟨by simp, fun j oj _ hl => (by rw [getD_replicate_false] at hl; cases hl), fun t _ ht => getD_in (by simpa using ht) (getD_replicate_false _ _)⟩
  have h1 := wpAnyL_lex (g := l.toArray.size - m) hsel hs hc hn (l.take m) 0 (Array.replicate l.toArray.size false) a (fun j hj => by
    rw [htl] at hj
    simp [List.getElem?_take_of_lt hj]) (by omega) inv0 (by rw [htl]; exact hlex) h
  refine wpIn_region_any hm ?_
  have h2 := wpAnyIn_of_head (ro := ro) (n := n) (P := P) (md := .any) (ops := l.toArray) (g := l.toArray.size - m) (Q' := Q) (fun listed a' hL => by
    have := wpAnyIn_of_seq (ro := ro) (n := n) (P := P) (md := .any) (ops := l.toArray) (Q' := Q) (l.drop m) m listed a' _ (fun j => by simp [List.getElem?_drop]) (by rw [hdl]; exact hL.1) hL.2
    rw [hdl] at this
    exact this) (l.take m).length _ a h1
  rw [htl, show m + (l.toArray.size - m) = l.toArray.size by simp; omega] at h2
  exact h2
end

section
variable {E : Env} {ro : Option Nat} {n : Nat} {ops : Array Oper} {Q : Exit → Act → World → Prop} {Qs : World → Act → Prop} {rest : List Oper} {st : St} {o : Oper}

/-- Readers, one after the other. -/
def XS (E : Env) (ops : Array Oper) (Qs : World → Act → Prop) (rest : List Oper) (st : St) : Prop := ∀ V a w, Rel E V st a w → wpStill E.P ops w (Qs w) rest a

theorem still_of_ro {V : Vu} {a : Act} {w : World} {d : Nat} {x : TV} (hdst : o.dst = some d) (hd : d < st.nt) (h : RO E o st x) (hr : Rel E V st a w) {K : Act → Prop} (hK : ∀ a', Rel E V (ST.put st d x) a' w → K a') : o.still E.P a w K := by
  obtain ⟨v, hrun, hx⟩ := h.2 V a w hr
  unfold Oper.still
  rw [hrun]
  refine ⟨rfl, ?_⟩
  rw [hdst]
  exact hK _ (hr.put hd hx)

theorem XS.op {d : Nat} {x : TV} (hg : o.guard = none) (hdst : o.dst = some d) (hd : d < st.nt) (h : RO E o st x) (k : XS E ops Qs rest (ST.put st d x)) : XS E ops Qs (o :: rest) st := by
  intro V a w hr
  unfold wpStill
  rw [if_pos (by simp [Region.wanted, hg])]
  exact still_of_ro hdst hd h hr (fun a' hr' => k V a' w hr')

theorem XS.on {j d t : Nat} {b : Bool} {x : TV} (hg : o.guard = some (j, b)) (hj : (ops[j]?).bind (·.dst) = some d) (hb : lk st.tm d = some (TB b)) (hdst : o.dst = some t) (hd : t < st.nt) (h : RO E o st x) (k : XS E ops Qs rest (ST.put st t x)) : XS E ops Qs (o :: rest) st := by
  intro V a w hr
  unfold wpStill
  rw [if_pos (by simp [Region.wanted, hg, yielded_of hr hj hb])]
  exact still_of_ro hdst hd h hr (fun a' hr' => k V a' w hr')

theorem XS.offB {j d t : Nat} {b : Bool} (hg : o.guard = some (j, b)) (hj : (ops[j]?).bind (·.dst) = some d) (hb : lk st.tm d = some (TB (!b))) (hdst : o.dst = some t) (k : XS E ops Qs rest (ST.put st t (.tup []))) : XS E ops Qs (o :: rest) st := by
  intro V a w h
  unfold wpStill
  rw [if_neg (by simp [Region.wanted, hg, yielded_of h hj hb])]
  rw [hdst]
  exact k V _ w (h.und t)

theorem XS.offU {j d t : Nat} {b : Bool} (hg : o.guard = some (j, b)) (hj : (ops[j]?).bind (·.dst) = some d) (hb : lk st.tm d = some (.tup [])) (hdst : o.dst = some t) (k : XS E ops Qs rest (ST.put st t (.tup []))) : XS E ops Qs (o :: rest) st := by
  intro V a w h
  unfold wpStill
  rw [if_neg (by simp [Region.wanted, hg, yielded_und h hj hb])]
  rw [hdst]
  exact k V _ w (h.und t)

theorem XS.case {d : Nat} {c : Bool} (hb : lk st.tm d = some (TB c)) (ht : c = true → XS E ops Qs rest (ST.put st d (TB true))) (hf : c = false → XS E ops Qs rest (ST.put st d (TB false))) : XS E ops Qs rest st := by
  intro V a w h
  have key : ∀ b, c = b → Rel E V (ST.put st d (TB b)) a w := fun b e => by
    subst e
    refine ⟨h.h, h.nx, h.nt, h.df, fun t y hy => ?_⟩
    simp only [ST.put, lk_cons] at hy
    split at hy
    · rename_i e; subst e; cases hy; exact h.tm _ _ hb
    · exact h.tm t y hy
  cases hc : c with
  | true => exact ht hc V a w (key true hc)
  | false => exact hf hc V a w (key false hc)

theorem Rel.drew {V : Vu} {a : Act} {w : World} (h : Rel E V st a w) : Rel E V st a { w with drawn := w.drawn + 1 } :=
  h.later (V' := V) ⟨rfl, rfl, rfl, Nat.le_refl _, fun _ _ _ => rfl⟩ ⟨Nat.le_refl _, fun _ _ => rfl, fun _ _ => rfl, fun _ _ _ _ => rfl, fun _ _ h => h, fun _ _ h => .inl h, h.h.sz⟩ rfl

theorem XS.nil (k : XQ E Q .normal st) : XS E ops (fun w a => Q .normal a w) [] st := fun V a w hr => k V a w hr
theorem XS.tail {l : List Oper} (k : XL E ro n ops Q l st) : XS E ops (fun w a => wpListIn (FR ro) n E.P ops Q l a w) [] st := fun V a w hr => k V a w hr

theorem XC.draw {id : Nat} {l : List Oper} (hm : E.P.follows .mixedOrders = true) (hB : Region.lexB .any l.toArray = true) (h : XS E l.toArray (fun w a => Q .normal a w) l st) : XC E ro n Q (.region id l.toArray true) st :=
  fun V a _ hr => wpIn_region_still hm hB (h V a _ hr.drew)
theorem XC.drawTail {id : Nat} {l : List Oper} (m : Nat) (hm : E.P.follows .mixedOrders = true) (hB : Region.lexTailB .any l.toArray m = true) (h : XS E l.toArray (fun w a => wpListIn (FR ro) n E.P l.toArray Q (l.drop m) a w) (l.take m) st) : XC E ro n Q (.region id l.toArray true) st :=
  fun V a _ hr => wpIn_region_still_tail m hm hB (h V a _ hr.drew)
end
end

section
open Go.RowKit
set_option linter.unusedSimpArgs false
set_option linter.unusedVariables false
set_option linter.unusedSectionVars false

inductive BCaps (hp : List (Nat × HB)) : List (Nat × Nat) → List (List C × Nat) → Prop
  | nil : BCaps hp [] []
  | cons {i off : Nat} {T : TypeId} {xs : List CA} {e : List C} {l : List (Nat × Nat)} {l' : List (List C × Nat)} (hi : lk hp i = some (.cells T xs)) (hs : CSubs xs e) (t : BCaps hp l l') : BCaps hp ((i, off) :: l) ((e, off) :: l')

/-- What a value may be taken for by a callee that writes nothing of ours and hands back a plain value. -/
inductive BSub (hp : List (Nat × HB)) : AV → AV → Prop
  | ptr {i off : Nat} {T : TypeId} {xs : List CA} {e : List C} (hi : lk hp i = some (.cells T xs)) (hs : CSubs xs e) : BSub hp (.one (.ptr i off)) (.one (.pel e off))
  | fn {f : FuncId} {l : List (Nat × Nat)} {l' : List (List C × Nat)} (h : BCaps hp l l') : BSub hp (.one (.fn f l)) (.one (.clo f l'))
  | pel {e : List C} {off : Nat} : BSub hp (.one (.pel e off)) (.one (.pel e off))
  | clo {f : FuncId} {l : List (List C × Nat)} : BSub hp (.one (.clo f l)) (.one (.clo f l))
  | sub {x y : AV} (h : ASub x y) : BSub hp x y

def borrow (V : Vu) (hp : List (Nat × HB)) (b o : Nat) : Prop := V.S b o ∨ ∃ i B, lk hp i = some B ∧ b = V.ι i

section
variable {E : Env} {st : St} {d : Nat} {ty : TypeId} {pos : String} {af : Array Edge} {g : Option (Nat × Bool)} {V : Vu} {a : Act} {w : World}

theorem pelRel_of_own (h : HRel E V st.hp st.tk w) {i off : Nat} {T : TypeId} {xs : List CA} {e : List C} (hi : lk st.hp i = some (.cells T xs)) (hs : CSubs xs e) : pelRel (borrow V st.hp) w e off (.pointer (some ⟨V.ι i, off, none⟩)) := by
  obtain ⟨-, o, ho, vs, rfl, hvs⟩ := h.own i _ hi
  refine ⟨V.ι i, 0, fun j => vs.getD j undef, by simp, fun j c hj => ?_⟩
  obtain ⟨x, hx, hxc⟩ := hs.get j c hj
  obtain ⟨u, hu, hr⟩ := hvs.2 j x hx
  have hg : vs.getD j undef = u := by simp [hu]
  rw [Nat.zero_add]; dsimp only; rw [hg]
  exact ⟨(cell_of_own ho j).trans hu, .inr ⟨i, _, hi, rfl⟩, Reads.mono (fun _ _ h => .inl h) (fun _ _ _ => rfl) (hxc.reads hr)⟩

theorem BCaps.len {hp : List (Nat × HB)} {l : List (Nat × Nat)} {l' : List (List C × Nat)} (h : BCaps hp l l') : l.length = l'.length := by
  induction h with
  | nil => rfl
  | cons _ _ _ ih => simp [ih]

theorem BCaps.get {hp : List (Nat × HB)} {l : List (Nat × Nat)} {l' : List (List C × Nat)} (h : BCaps hp l l') : ∀ (k : Nat) (e : List C) (off : Nat), l'[k]? = some (e, off) → ∃ i T xs, l[k]? = some (i, off) ∧ lk hp i = some (.cells T xs) ∧ CSubs xs e := by
  induction h with
  | nil => intro k e off hk; simp at hk
  | cons hi hs t ih =>
    intro k e off hk
    cases k with
    | zero => simp at hk; obtain ⟨rfl, rfl⟩ := hk; exact ⟨_, _, _, rfl, hi, hs⟩
    | succ k => exact ih k e off (by simpa using hk)

theorem BSub.rel (h : HRel E V st.hp st.tk w) {x y : AV} (hs : BSub st.hp x y) {v : Value} (hv : x.rel V w v) : y.rel (Vu.of (borrow V st.hp)) w v := by
  have hle : (Vu.of V.S).Le (Vu.of (borrow V st.hp)) w w := ⟨Nat.le_refl _, fun _ _ => rfl, fun _ _ => Nat.le_refl _, fun _ _ _ _ => rfl, fun _ _ h => .inl h, fun _ _ _ => rfl⟩
  cases hs with
  | sub hs => exact (hs.rel hv).mono hle
  | ptr hi hs => rw [show v = _ from hv.2]; exact pelRel_of_own h hi hs
  | fn hc =>
    refine ⟨_, hv.2, by rw [List.length_map]; exact hc.len, fun k e off hk => ?_⟩
    obtain ⟨i, T, xs, h1, h2, h3⟩ := hc.get k e off hk
    exact ⟨_, by rw [List.getElem?_map, h1]; rfl, pelRel_of_own h h2 h3⟩
  | pel => exact pelRel.mono (fun _ _ h => .inl h) (fun _ _ _ => rfl) hv
  | clo =>
    obtain ⟨ps, h1, h2, h3⟩ := hv
    exact ⟨ps, h1, h2, fun i e off hi => let ⟨p, h4, h5⟩ := h3 i e off hi; ⟨p, h4, h5.mono (fun _ _ h => .inl h) (fun _ _ _ => rfl)⟩⟩

/-- A plain result: it speaks of no memory. -/
inductive Plain : TV → Prop
  | v (y : Value) (h : y.oneCell' = true) : Plain (TVv y)
  | tup (ys : List Value) (h : ∀ y ∈ ys, y.oneCell' = true) : Plain (.tup (ys.map fun y => .one (.d (.v y))))

theorem Plain.rel {res : TV} (h : Plain res) {V V' : Vu} {w w' : World} {v : Value} (hv : res.rel V w v) : res.rel V' w' v := by
  cases h with
  | v y h => rw [val_of hv]; exact rel_of h
  | tup ys h =>
    obtain ⟨vs, h1, h2, h3⟩ := hv
    refine ⟨vs, h1, h2, fun i x hx => ?_⟩
    obtain ⟨u, hu, hr⟩ := h3 i x hx
    refine ⟨u, hu, ?_⟩
    rw [List.getElem?_map] at hx
    cases hy : ys[i]? with
    | none => rw [hy] at hx; cases hx
    | some y =>
      rw [hy] at hx; cases hx
      have : u = y := by cases hr; rfl
      subst this
      exact Reads.v _ (h _ (List.mem_of_getElem? hy))

/-- What a call hands over, and to whom. -/
def Leads (st : St) (c : Callee) (f : FuncId) (more : List AV) : Prop :=
  (c = .value (.func f) ∧ more = []) ∨ ∃ o caps, c = .value o ∧ ev st.tm o = some (.v (.one (.clo f caps))) ∧ more = caps.map fun p => .one (.pel p.1 p.2)

theorem XO.callB {f : FuncId} {args more : List AV} {res : TV} {as : Array Operand} {ats : Array TypeId} {c : Callee} (hc : Leads st c f more) (hF : Fun E.P f (args ++ more) res) (hp : Plain res) (hn : as.size = args.length)
    (ha : ∀ (i : Nat) (y : AV), args[i]? = some y → ∃ o x, as[i]? = some o ∧ ev st.tm o = some (.v x) ∧ BSub st.hp x y) (hd : d < st.nt) :
    XO E ⟨some d, .call { callee := c, args := as, argTypes := ats }, ty, pos, af, g⟩ st (ST.put st d res) := by
  intro V a w hr ro n K Q hK
  refine ⟨fun _ _ => trivial, ?_⟩
  rw [Oper.semAt_eq _ _ _ (by intro c h; cases h)]
  obtain ⟨ms, hms, hrun⟩ : ∃ ms : Array Value, argsRel (Vu.of (borrow V st.hp)) w more ms ∧ (execOp a.eval ⟨some d, .call { callee := c, args := as, argTypes := ats }, ty, pos, af, g⟩).run E.P w = .ok (.enter f (as.map a.eval ++ ms)) w := by
    rcases hc with ⟨rfl, rfl⟩ | ⟨o, caps, rfl, ho, rfl⟩
    · refine ⟨#[], ⟨rfl, fun i x hx => by simp at hx⟩, ?_⟩
      have := hF.1 (as.map a.eval) w
      simp [execOp, resolve, Act.eval, Deferred.ofValue, invoke]
      simpa using this
    · obtain ⟨ps, h1, h2, h3⟩ := hr.ev ho
      refine ⟨ps.toArray, ⟨by simpa using h2, fun i x hx => ?_⟩, ?_⟩
      · rw [List.getElem?_map] at hx
        cases hi : caps[i]? with
        | none => rw [hi] at hx; cases hx
        | some p =>
          rw [hi] at hx; cases hx
          obtain ⟨q, h4, h5⟩ := h3 i p.1 p.2 hi
          exact ⟨q, by simpa using h4, pelRel.mono (fun _ _ h => .inl h) (fun _ _ _ => rfl) h5⟩
      · have := hF.1 (as.map a.eval ++ ps.toArray) w
        simp [execOp, resolve, h1, Deferred.ofValue, invoke]
        simpa using this
  rw [hrun]
  refine ⟨(by intro h; cases h), ?_⟩
  have hc := hF.2 (borrow V st.hp) w (as.map a.eval ++ ms) (fun b o h => by
    rcases h with h | ⟨i, B, hi, rfl⟩
    · exact hr.h.sz b o h
    · obtain ⟨-, o', ho', -⟩ := hr.h.own i B hi; exact heap_lt ho') ⟨by rw [Array.size_append, Array.size_map, List.length_append, hms.1, hn], fun i y hy => by
    by_cases hi : i < args.length
    · rw [List.getElem?_append_left hi] at hy
      obtain ⟨o, x, h1, h2, h3⟩ := ha i y hy
      exact ⟨a.eval o, by rw [Array.getElem?_append_left (by simp; omega)]; simp [h1], BSub.rel hr.h h3 (hr.ev h2)⟩
    · rw [List.getElem?_append_right (by omega)] at hy
      obtain ⟨u, h1, h2⟩ := hms.2 _ y hy
      exact ⟨u, by rw [Array.getElem?_append_right (by simp; omega)]; simpa [hn] using h1, h2⟩⟩
  have hc' : CallsIn Fence.wide (n - 1) E.P f (as.map a.eval ++ ms) w _ := callsIn_wide.2 hc
  refine CallsIn.mono (F := FR ro) hc' ?_
  rintro e w' ⟨v, S', rfl, hx, hS, hS', hv⟩
  have hg : V.Grow V w w' := ⟨Nat.le_refl _, fun _ _ => rfl, fun _ _ => rfl, fun _ _ _ _ => rfl, fun _ _ h => h, fun b o h => .inl h, fun b o h => Nat.lt_of_lt_of_le (hr.h.sz b o h) hx.size⟩
  exact hK V _ w' ((hr.later hx hg rfl).put hd (hp.rel hv))

theorem XO.callB1 {f : FuncId} {y1 : AV} {more : List AV} {res : TV} {o1 : Operand} {x1 : AV} {ats : Array TypeId} {c : Callee} (hc : Leads st c f more) (hF : Fun E.P f ([y1] ++ more) res) (hp : Plain res) (h1 : ev st.tm o1 = some (.v x1)) (s1 : BSub st.hp x1 y1) (hd : d < st.nt) :
    XO E ⟨some d, .call { callee := c, args := #[o1], argTypes := ats }, ty, pos, af, g⟩ st (ST.put st d res) :=
  XO.callB hc hF hp rfl (fun i y hy => by
    match i, hy with
    | 0, hy => cases hy; exact ⟨o1, x1, rfl, h1, s1⟩) hd
theorem XO.callB2 {f : FuncId} {y1 y2 : AV} {more : List AV} {res : TV} {o1 o2 : Operand} {x1 x2 : AV} {ats : Array TypeId} {c : Callee} (hc : Leads st c f more) (hF : Fun E.P f ([y1, y2] ++ more) res) (hp : Plain res) (h1 : ev st.tm o1 = some (.v x1)) (s1 : BSub st.hp x1 y1) (h2 : ev st.tm o2 = some (.v x2)) (s2 : BSub st.hp x2 y2) (hd : d < st.nt) :
    XO E ⟨some d, .call { callee := c, args := #[o1, o2], argTypes := ats }, ty, pos, af, g⟩ st (ST.put st d res) :=
  XO.callB hc hF hp rfl (fun i y hy => by
    match i, hy with
    | 0, hy => cases hy; exact ⟨o1, x1, rfl, h1, s1⟩
    | 1, hy => cases hy; exact ⟨o2, x2, rfl, h2, s2⟩) hd

theorem RO.makeFunc {f : FuncId} {cs : Array Operand} {caps : List (Nat × Nat)} {dd : Option Tmp} (hn : cs.size = caps.length) (h : ∀ (k : Nat) (p : Nat × Nat), caps[k]? = some p → ∃ o, cs[k]? = some o ∧ ev st.tm o = some (.v (.one (.ptr p.1 p.2)))) :
    RO E ⟨dd, .makeFunc (.func f) #[] cs, ty, pos, af, g⟩ st (.v (.one (.fn f caps))) := by
  refine ⟨(fun _ h => nomatch h), fun V a w hr => ⟨.func (.func f) #[] (cs.map a.eval), by simp [execOp, Instr.makeFunc], fun p hp => ?_, ?_⟩⟩
  · obtain ⟨k, hk⟩ := List.getElem?_of_mem hp
    obtain ⟨o, -, h2⟩ := h k p hk
    exact (hr.ev h2).1
  · congr 1
    apply Array.ext
    · simp [hn]
    · intro k h1 h2
      have hk : k < caps.length := by simpa using h2
      obtain ⟨o, h3, h4⟩ := h k _ (List.getElem?_eq_getElem hk)
      have h5 := (hr.ev h4).2
      have h6 : cs[k]'(by simpa using h1) = o := by
        have := Array.getElem?_eq_getElem (xs := cs) (i := k) (by simpa using h1)
        rw [h3] at this; exact (Option.some.inj this).symm
      simp [h6, h5]
theorem RO.makeFunc1 {f : FuncId} {o1 : Operand} {i1 k1 : Nat} {dd : Option Tmp} (h1 : ev st.tm o1 = some (.v (.one (.ptr i1 k1)))) : RO E ⟨dd, .makeFunc (.func f) #[] #[o1], ty, pos, af, g⟩ st (.v (.one (.fn f [(i1, k1)]))) :=
  RO.makeFunc rfl (fun k p hk => by
    match k, hk with
    | 0, hk => cases hk; exact ⟨o1, rfl, h1⟩)
theorem RO.makeFunc2 {f : FuncId} {o1 o2 : Operand} {i1 k1 i2 k2 : Nat} {dd : Option Tmp} (h1 : ev st.tm o1 = some (.v (.one (.ptr i1 k1)))) (h2 : ev st.tm o2 = some (.v (.one (.ptr i2 k2)))) : RO E ⟨dd, .makeFunc (.func f) #[] #[o1, o2], ty, pos, af, g⟩ st (.v (.one (.fn f [(i1, k1), (i2, k2)]))) :=
  RO.makeFunc rfl (fun k p hk => by
    match k, hk with
    | 0, hk => cases hk; exact ⟨o1, rfl, h1⟩
    | 1, hk => cases hk; exact ⟨o2, rfl, h2⟩)
end
end

section
open Go.RowKit
set_option linter.unusedSimpArgs false
set_option linter.unusedVariables false
set_option linter.unusedSectionVars false

/-- The places of the parts of an aggregate: offset and size. -/
def tyPlaces (P : Program) (t : TypeId) : Option (List (Nat × Nat)) :=
  match P.underlying t with
  | some (.struct fs) => fs.toList.mapM fun f => (P.info? f.type).map fun i => (f.offset, i.size)
  | _ => none

def IsStruct (P : Program) (t : TypeId) (pl : List (Nat × Nat)) (zs : List Value) : Prop := tyPlaces P t = some pl ∧ tyZero P t = some zs

theorem run_places {P : Program} (w : World) : ∀ (fs : List Field) (pl : List (Nat × Nat)), (fs.mapM fun f => (P.info? f.type).map fun i => (f.offset, i.size)) = some pl →
    (fs.mapM fun f => (do pure (f.offset, ← sizeOf f.type) : Sem (Nat × Nat))).run P w = .ok pl w
  | [], pl, h => by simp at h; subst h; simp
  | f :: fs, pl, h => by
    simp only [List.mapM_cons] at h
    cases hi : P.info? f.type with
    | none => simp [hi] at h
    | some i =>
      cases hr : (fs.mapM fun f => (P.info? f.type).map fun i => (f.offset, i.size)) with
      | none => rw [hr] at h; simp [hi] at h
      | some pl' =>
        rw [hr] at h
        simp [hi] at h
        subst h
        have ih := run_places (P := P) w fs pl' hr
        simp [List.mapM_cons, sizeOf, typeInfo, hi] at ih ⊢
        simp [ih]

theorem rels.setL {V : Vu} {w : World} : ∀ (ys : List CA) (us : List Value) (k off : Nat) (xs : List CA) (vs : Array Value), rels V w xs vs → us.length = ys.length → (∀ (j : Nat) (y : CA), ys[j]? = some y → ∃ u, us[j]? = some u ∧ y.rel V w u) →
    rels V w (setL xs (off + k) ys) ((us.zipIdx k).foldl (fun cs (p : Value × Nat) => cs.setIfInBounds (off + p.2) p.1) vs)
  | [], us, k, off, xs, vs, h, hu, _ => by
    have : us = [] := List.eq_nil_of_length_eq_zero (by simpa using hu)
    subst this
    simpa [Proofs.YtcapifnaceegmaaGreatDoor.setL] using h
  | y :: ys, us, k, off, xs, vs, h, hu, hr => by
    match us, hu with
    | u :: us, hu =>
      obtain ⟨u', h1, h2⟩ := hr 0 y rfl
      simp at h1; subst h1
      simp only [Proofs.YtcapifnaceegmaaGreatDoor.setL, List.zipIdx_cons, List.foldl_cons]
      rw [show off + k + 1 = off + (k + 1) by omega]
      exact rels.setL ys us (k + 1) off _ _ (h.set h2) (by simpa using hu) (fun j z hz => by have := hr (j + 1) z (by simpa using hz); simpa using this)

/-- Parts are laid into an aggregate. -/
def fillL (pl : List (Nat × Nat)) : List CA → List (Nat × AV) → Option (List CA)
  | xs, [] => some xs
  | xs, (i, x) :: r => match pl[i]? with
    | none => none
    | some (off, size) => cond (Nat.beq x.cells.length size && Nat.ble (off + size) xs.length) (fillL pl (setL xs off x.cells) r) none

theorem setL_length : ∀ (ys : List CA) (xs : List CA) (off : Nat), (setL xs off ys).length = xs.length
  | [], _, _ => rfl
  | y :: ys, xs, off => by simp only [setL]; rw [setL_length ys]; simp

theorem fill_rel {V : Vu} {w : World} {place : Nat → Option (Nat × Nat)} {pl : List (Nat × Nat)} (hp : ∀ i p, pl[i]? = some p → place i = some p) : ∀ (parts : List (Nat × AV)) (vals : List (Nat × Value)) (xs ys : List CA) (vs : Array Value), rels V w xs vs → vals.length = parts.length →
    (∀ (j i : Nat) (x : AV), parts[j]? = some (i, x) → ∃ v, vals[j]? = some (i, v) ∧ x.rel V w v) → fillL pl xs parts = some ys → ∃ us, Instr.fill place vs vals = some us ∧ rels V w ys us
  | [], vals, xs, ys, vs, h, hl, _, hf => by
    have : vals = [] := List.eq_nil_of_length_eq_zero (by simpa using hl)
    subst this
    cases hf
    exact ⟨vs, by simp [Instr.fill], h⟩
  | (i, x) :: parts, vals, xs, ys, vs, h, hl, hr, hf => by
    match vals, hl with
    | (i', v) :: vals, hl =>
      obtain ⟨v', h1, h2⟩ := hr 0 i x rfl
      simp at h1
      obtain ⟨rfl, rfl⟩ := h1
      simp only [fillL] at hf
      split at hf
      · cases hf
      · rename_i off size hpl
        cases hc : (Nat.beq x.cells.length size && Nat.ble (off + size) xs.length) with
        | false => rw [hc] at hf; cases hf
        | true =>
          rw [hc] at hf
          simp only [Bool.and_eq_true] at hc
          have e1 : x.cells.length = size := Nat.eq_of_beq_eq_true hc.1
          have e2 : off + size ≤ xs.length := Nat.le_of_ble_eq_true hc.2
          have hcells := h2.cells
          have hset := rels.setL x.cells v.cells.toList 0 off xs vs h (by simpa using hcells.1) (fun j y hy => by
            obtain ⟨u, hu, hy'⟩ := hcells.2 j y hy
            exact ⟨u, by simpa using hu, hy'⟩)
          obtain ⟨us, h3, h4⟩ := fill_rel hp parts vals _ ys _ hset (by simpa using hl) (fun j i' x' hx' => by have := hr (j + 1) i' x' (by simpa using hx'); simpa using this) (by simpa using hf)
          refine ⟨us, ?_, h4⟩
          have e3 : v.cells.size = size := by rw [hcells.1, e1]
          have e4 : ¬ (off + size > vs.size) := by rw [h.1]; omega
          simp only [Instr.fill, hp _ _ hpl, e3, e4, ne_eq, not_true_eq_false, decide_false, Bool.or_self, Bool.false_eq_true, if_false]
          rw [← h3]
          congr 1
          rw [← Array.foldl_toList]
          simp [Array.toList_zipIdx]

theorem zeros_rel {V : Vu} {w : World} {zs : List Value} (h1 : zs.all (·.oneCell') = true) : rels V w (zs.map fun z => .d (.v z)) zs.toArray := by
  refine ⟨by simp, fun i x hx => ?_⟩
  rw [List.getElem?_map] at hx
  cases hi : zs[i]? with
  | none => rw [hi] at hx; cases hx
  | some z' =>
    rw [hi] at hx; cases hx
    exact ⟨z', by simp [hi], Reads.v z' (List.all_eq_true.1 h1 z' (List.mem_of_getElem? hi))⟩

section
variable {E : Env} {st : St} {ty : TypeId} {pos : String} {af : Array Edge} {g : Option (Nat × Bool)} {dd : Option Tmp}

theorem RO.build {t : TypeId} {pl : List (Nat × Nat)} {zs : List Value} {parts : Array (Nat × Operand)} {avs : List (Nat × AV)} {ys : List CA} (ht : IsStruct E.P t pl zs) (hz : zs.all (·.oneCell') = true) (hn : parts.toList.length = avs.length)
    (hp : ∀ (j i : Nat) (x : AV), avs[j]? = some (i, x) → ∃ o, parts.toList[j]? = some (i, o) ∧ ev st.tm o = some (.v x)) (hf : fillL pl (zs.map fun z => .d (.v z)) avs = some ys) :
    RO E ⟨dd, .build t parts, ty, pos, af, g⟩ st (.v (.agg ys)) := by
  refine ⟨(fun _ h => nomatch h), fun V a w hr => ?_⟩
  obtain ⟨hpl, hzz⟩ := ht
  obtain ⟨z, hz1, hz2⟩ := tyZero_spec hzz
  unfold tyPlaces at hpl
  split at hpl
  · rename_i fs hfs
    have h1 := run_places (P := E.P) w fs.toList pl hpl
    obtain ⟨us, h2, h3⟩ := fill_rel (place := fun i => pl[i]?) (fun _ _ h => h) avs (parts.toList.map fun p => (p.1, a.eval p.2)) _ ys _ (zeros_rel hz (V := V) (w := w)) (by simpa using hn) (fun j i x hx => by
      obtain ⟨o, h4, h5⟩ := hp j i x hx
      exact ⟨a.eval o, by rw [List.getElem?_map, h4]; rfl, hr.ev h5⟩) hf
    refine ⟨.agg us, ?_, us, rfl, h3⟩
    have h6 : (fs.mapM fun f => (do pure (f.offset, ← sizeOf f.type) : Sem (Nat × Nat))).run E.P w = .ok pl.toArray w := by
      rw [Array.mapM_eq_mapM_toList]
      show ((fs.toList.mapM fun f => (do pure (f.offset, ← sizeOf f.type) : Sem (Nat × Nat))) >>= fun x => pure x.toArray : Sem _).run E.P w = _
      rw [Sem.run_bind, h1]; rfl
    simp only [execOp, Instr.build, Sem.run_bind, hz1, Result.andThen_ok, run_underlying hfs, h6, hz2, Array.toList_map]
    simp [h2]
  · cases hpl
theorem RO.build0 {t : TypeId} {pl : List (Nat × Nat)} {zs : List Value} (ht : IsStruct E.P t pl zs) (hz : zs.all (·.oneCell') = true) : RO E ⟨dd, .build t #[], ty, pos, af, g⟩ st (.v (.agg (zs.map fun z => .d (.v z)))) :=
  RO.build (avs := []) ht hz rfl (fun j i x hx => by simp at hx) rfl
theorem RO.build1 {t i1 : Nat} {pl : List (Nat × Nat)} {zs : List Value} {o1 : Operand} {x1 : AV} {ys : List CA} (ht : IsStruct E.P t pl zs) (hz : zs.all (·.oneCell') = true) (h1 : ev st.tm o1 = some (.v x1)) (hf : fillL pl (zs.map fun z => .d (.v z)) [(i1, x1)] = some ys) : RO E ⟨dd, .build t #[(i1, o1)], ty, pos, af, g⟩ st (.v (.agg ys)) :=
  RO.build (avs := [(i1, x1)]) ht hz rfl (fun j i x hx => by
    match j, hx with
    | 0, hx => cases hx; exact ⟨o1, rfl, h1⟩) hf
theorem RO.build2 {t i1 i2 : Nat} {pl : List (Nat × Nat)} {zs : List Value} {o1 o2 : Operand} {x1 x2 : AV} {ys : List CA} (ht : IsStruct E.P t pl zs) (hz : zs.all (·.oneCell') = true) (h1 : ev st.tm o1 = some (.v x1)) (h2 : ev st.tm o2 = some (.v x2)) (hf : fillL pl (zs.map fun z => .d (.v z)) [(i1, x1), (i2, x2)] = some ys) : RO E ⟨dd, .build t #[(i1, o1), (i2, o2)], ty, pos, af, g⟩ st (.v (.agg ys)) :=
  RO.build (avs := [(i1, x1), (i2, x2)]) ht hz rfl (fun j i x hx => by
    match j, hx with
    | 0, hx => cases hx; exact ⟨o1, rfl, h1⟩
    | 1, hx => cases hx; exact ⟨o2, rfl, h2⟩) hf
theorem RO.build3 {t i1 i2 i3 : Nat} {pl : List (Nat × Nat)} {zs : List Value} {o1 o2 o3 : Operand} {x1 x2 x3 : AV} {ys : List CA} (ht : IsStruct E.P t pl zs) (hz : zs.all (·.oneCell') = true) (h1 : ev st.tm o1 = some (.v x1)) (h2 : ev st.tm o2 = some (.v x2)) (h3 : ev st.tm o3 = some (.v x3)) (hf : fillL pl (zs.map fun z => .d (.v z)) [(i1, x1), (i2, x2), (i3, x3)] = some ys) : RO E ⟨dd, .build t #[(i1, o1), (i2, o2), (i3, o3)], ty, pos, af, g⟩ st (.v (.agg ys)) :=
  RO.build (avs := [(i1, x1), (i2, x2), (i3, x3)]) ht hz rfl (fun j i x hx => by
    match j, hx with
    | 0, hx => cases hx; exact ⟨o1, rfl, h1⟩
    | 1, hx => cases hx; exact ⟨o2, rfl, h2⟩
    | 2, hx => cases hx; exact ⟨o3, rfl, h3⟩) hf
end
end

end Go.Proofs.YtcapifnaceegmaaGreatDoor
