/- Calls that borrow the call's own blocks; function values. -/
import Derived.Test.YtkimijmiphkddaaDraw
namespace Go.Proofs.Ytkimijmiphkddaa
open Go.RowKit
set_option linter.unusedSimpArgs false
set_option linter.unusedVariables false
set_option linter.unusedSectionVars false

inductive BCaps (hp : List (Nat × HB)) : List (Nat × Nat) → List (List C × Nat) → Prop
  | nil : BCaps hp [] []
  | cons {i off : Nat} {T : TypeId} {xs : List CA} {e : List C} {l : List (Nat × Nat)} {l' : List (List C × Nat)} (hi : lk hp i = some (.cells T xs)) (hs : CSubs xs e) (t : BCaps hp l l') : BCaps hp ((i, off) :: l) ((e, off) :: l')

/-- What a value may be taken for by a callee that writes nothing of ours and hands back a plain value. -/
inductive BSub (hp : List (Nat × HB)) : AV → AV → Prop
  | sub {x y : AV} (h : ASub x y) : BSub hp x y
  | ptr {i off : Nat} {T : TypeId} {xs : List CA} {e : List C} (hi : lk hp i = some (.cells T xs)) (hs : CSubs xs e) : BSub hp (.one (.ptr i off)) (.one (.pel e off))
  | fn {f : FuncId} {l : List (Nat × Nat)} {l' : List (List C × Nat)} (h : BCaps hp l l') : BSub hp (.one (.fn f l)) (.one (.clo f l'))
  | pel {e : List C} {off : Nat} : BSub hp (.one (.pel e off)) (.one (.pel e off))
  | clo {f : FuncId} {l : List (List C × Nat)} : BSub hp (.one (.clo f l)) (.one (.clo f l))

def borrow (V : Vu) (hp : List (Nat × HB)) (b o : Nat) : Prop := V.S b o ∨ ∃ i B, lk hp i = some B ∧ b = V.ι i

section
variable {E : Env} {st : St} {d : Nat} {ty : TypeId} {pos : String} {af : Array Edge} {g : Option (Nat × Bool)} {V : Vu} {a : Act} {w : World}

theorem pelRel_of_own (h : HRel E V st.hp st.tk w) {i off : Nat} {T : TypeId} {xs : List CA} {e : List C} (hi : lk st.hp i = some (.cells T xs)) (hs : CSubs xs e) : pelRel (borrow V st.hp) w e off (.pointer (some ⟨V.ι i, off, none⟩)) := by
  obtain ⟨-, o, ho, vs, rfl, hvs⟩ := h.own i _ hi
  refine ⟨V.ι i, 0, fun j => vs.getD j undef, by simp, fun j c hj => ?_⟩
  obtain ⟨x, hx, hxc⟩ := hs.get j c hj
  obtain ⟨u, hu, hr⟩ := hvs.2 j x hx
  have hg : vs.getD j undef = u := by simp [hu]
  rw [Nat.zero_add]; dsimp only; rw [hg]
  exact ⟨(cell_of_own ho j).trans hu, .inr ⟨i, _, hi, rfl⟩, Reads.mono (fun _ _ h => .inl h) (fun _ _ _ => rfl) (hxc.reads hr)⟩

theorem BCaps.len {hp : List (Nat × HB)} {l : List (Nat × Nat)} {l' : List (List C × Nat)} (h : BCaps hp l l') : l.length = l'.length := by
  induction h with
  | nil => rfl
  | cons _ _ _ ih => simp [ih]

theorem BCaps.get {hp : List (Nat × HB)} {l : List (Nat × Nat)} {l' : List (List C × Nat)} (h : BCaps hp l l') : ∀ (k : Nat) (e : List C) (off : Nat), l'[k]? = some (e, off) → ∃ i T xs, l[k]? = some (i, off) ∧ lk hp i = some (.cells T xs) ∧ CSubs xs e := by
  induction h with
  | nil => intro k e off hk; simp at hk
  | cons hi hs t ih =>
    intro k e off hk
    cases k with
    | zero => simp at hk; obtain ⟨rfl, rfl⟩ := hk; exact ⟨_, _, _, rfl, hi, hs⟩
    | succ k => exact ih k e off (by simpa using hk)

theorem BSub.rel (h : HRel E V st.hp st.tk w) {x y : AV} (hs : BSub st.hp x y) {v : Value} (hv : x.rel V w v) : y.rel (Vu.of (borrow V st.hp)) w v := by
  have hle : (Vu.of V.S).Le (Vu.of (borrow V st.hp)) w w := ⟨Nat.le_refl _, fun _ _ => rfl, fun _ _ => Nat.le_refl _, fun _ _ _ _ => rfl, fun _ _ h => .inl h, fun _ _ _ => rfl⟩
  cases hs with
  | sub hs => exact (hs.rel hv).mono hle
  | ptr hi hs => rw [show v = _ from hv.2]; exact pelRel_of_own h hi hs
  | fn hc =>
    refine ⟨_, hv.2, by rw [List.length_map]; exact hc.len, fun k e off hk => ?_⟩
    obtain ⟨i, T, xs, h1, h2, h3⟩ := hc.get k e off hk
    exact ⟨_, by rw [List.getElem?_map, h1]; rfl, pelRel_of_own h h2 h3⟩
  | pel => exact pelRel.mono (fun _ _ h => .inl h) (fun _ _ _ => rfl) hv
  | clo =>
    obtain ⟨ps, h1, h2, h3⟩ := hv
    exact ⟨ps, h1, h2, fun i e off hi => let ⟨p, h4, h5⟩ := h3 i e off hi; ⟨p, h4, h5.mono (fun _ _ h => .inl h) (fun _ _ _ => rfl)⟩⟩

/-- A plain result: it speaks of no memory. -/
inductive Plain : TV → Prop
  | v (y : Value) (h : y.oneCell' = true) : Plain (TVv y)
  | tup (ys : List Value) (h : ∀ y ∈ ys, y.oneCell' = true) : Plain (.tup (ys.map fun y => .one (.d (.v y))))

theorem Plain.rel {res : TV} (h : Plain res) {V V' : Vu} {w w' : World} {v : Value} (hv : res.rel V w v) : res.rel V' w' v := by
  cases h with
  | v y h => rw [val_of hv]; exact rel_of h
  | tup ys h =>
    obtain ⟨vs, h1, h2, h3⟩ := hv
    refine ⟨vs, h1, h2, fun i x hx => ?_⟩
    obtain ⟨u, hu, hr⟩ := h3 i x hx
    refine ⟨u, hu, ?_⟩
    rw [List.getElem?_map] at hx
    cases hy : ys[i]? with
    | none => rw [hy] at hx; cases hx
    | some y =>
      rw [hy] at hx; cases hx
      have : u = y := by cases hr; rfl
      subst this
      exact Reads.v _ (h _ (List.mem_of_getElem? hy))

/-- What a call hands over, and to whom. -/
def Leads (st : St) (c : Callee) (f : FuncId) (more : List AV) : Prop :=
  (c = .value (.func f) ∧ more = []) ∨ ∃ o caps, c = .value o ∧ ev st.tm o = some (.v (.one (.clo f caps))) ∧ more = caps.map fun p => .one (.pel p.1 p.2)

theorem XO.callB {f : FuncId} {args more : List AV} {res : TV} {as : Array Operand} {ats : Array TypeId} {c : Callee} (hc : Leads st c f more) (hF : Fun E.P f (args ++ more) res) (hp : Plain res) (hn : as.size = args.length)
    (ha : ∀ (i : Nat) (y : AV), args[i]? = some y → ∃ o x, as[i]? = some o ∧ ev st.tm o = some (.v x) ∧ BSub st.hp x y) (hd : d < st.nt) :
    XO E ⟨some d, .call { callee := c, args := as, argTypes := ats }, ty, pos, af, g⟩ st (ST.put st d res) := by
  intro V a w hr ro n K Q hK
  refine ⟨fun _ _ => trivial, ?_⟩
  rw [Oper.semAt_eq _ _ _ (by intro c h; cases h)]
  obtain ⟨ms, hms, hrun⟩ : ∃ ms : Array Value, argsRel (Vu.of (borrow V st.hp)) w more ms ∧ (execOp a.eval ⟨some d, .call { callee := c, args := as, argTypes := ats }, ty, pos, af, g⟩).run E.P w = .ok (.enter f (as.map a.eval ++ ms)) w := by
    rcases hc with ⟨rfl, rfl⟩ | ⟨o, caps, rfl, ho, rfl⟩
    · refine ⟨#[], ⟨rfl, fun i x hx => by simp at hx⟩, ?_⟩
      have := hF.1 (as.map a.eval) w
      simp [execOp, resolve, Act.eval, Deferred.ofValue, invoke]
      simpa using this
    · obtain ⟨ps, h1, h2, h3⟩ := hr.ev ho
      refine ⟨ps.toArray, ⟨by simpa using h2, fun i x hx => ?_⟩, ?_⟩
      · rw [List.getElem?_map] at hx
        cases hi : caps[i]? with
        | none => rw [hi] at hx; cases hx
        | some p =>
          rw [hi] at hx; cases hx
          obtain ⟨q, h4, h5⟩ := h3 i p.1 p.2 hi
          exact ⟨q, by simpa using h4, pelRel.mono (fun _ _ h => .inl h) (fun _ _ _ => rfl) h5⟩
      · have := hF.1 (as.map a.eval ++ ps.toArray) w
        simp [execOp, resolve, h1, Deferred.ofValue, invoke]
        simpa using this
  rw [hrun]
  refine ⟨(by intro h; cases h), ?_⟩
  have hc := hF.2 (borrow V st.hp) w (as.map a.eval ++ ms) (fun b o h => by
    rcases h with h | ⟨i, B, hi, rfl⟩
    · exact hr.h.sz b o h
    · obtain ⟨-, o', ho', -⟩ := hr.h.own i B hi; exact heap_lt ho') ⟨by rw [Array.size_append, Array.size_map, List.length_append, hms.1, hn], fun i y hy => by
    by_cases hi : i < args.length
    · rw [List.getElem?_append_left hi] at hy
      obtain ⟨o, x, h1, h2, h3⟩ := ha i y hy
      exact ⟨a.eval o, by rw [Array.getElem?_append_left (by simp; omega)]; simp [h1], BSub.rel hr.h h3 (hr.ev h2)⟩
    · rw [List.getElem?_append_right (by omega)] at hy
      obtain ⟨u, h1, h2⟩ := hms.2 _ y hy
      exact ⟨u, by rw [Array.getElem?_append_right (by simp; omega)]; simpa [hn] using h1, h2⟩⟩
  have hc' : CallsIn Fence.wide (n - 1) E.P f (as.map a.eval ++ ms) w _ := callsIn_wide.2 hc
  refine CallsIn.mono (F := FR ro) hc' ?_
  rintro e w' ⟨v, S', rfl, hx, hS, hS', hv⟩
  have hg : V.Grow V w w' := ⟨Nat.le_refl _, fun _ _ => rfl, fun _ _ => rfl, fun _ _ _ _ => rfl, fun _ _ h => h, fun b o h => .inl h, fun b o h => Nat.lt_of_lt_of_le (hr.h.sz b o h) hx.size⟩
  exact hK V _ w' ((hr.later hx hg rfl).put hd (hp.rel hv))

theorem XO.callB1 {f : FuncId} {y1 : AV} {more : List AV} {res : TV} {o1 : Operand} {x1 : AV} {ats : Array TypeId} {c : Callee} (hc : Leads st c f more) (hF : Fun E.P f ([y1] ++ more) res) (hp : Plain res) (h1 : ev st.tm o1 = some (.v x1)) (s1 : BSub st.hp x1 y1) (hd : d < st.nt) :
    XO E ⟨some d, .call { callee := c, args := #[o1], argTypes := ats }, ty, pos, af, g⟩ st (ST.put st d res) :=
  XO.callB hc hF hp rfl (fun i y hy => by
    match i, hy with
    | 0, hy => cases hy; exact ⟨o1, x1, rfl, h1, s1⟩) hd
theorem XO.callB2 {f : FuncId} {y1 y2 : AV} {more : List AV} {res : TV} {o1 o2 : Operand} {x1 x2 : AV} {ats : Array TypeId} {c : Callee} (hc : Leads st c f more) (hF : Fun E.P f ([y1, y2] ++ more) res) (hp : Plain res) (h1 : ev st.tm o1 = some (.v x1)) (s1 : BSub st.hp x1 y1) (h2 : ev st.tm o2 = some (.v x2)) (s2 : BSub st.hp x2 y2) (hd : d < st.nt) :
    XO E ⟨some d, .call { callee := c, args := #[o1, o2], argTypes := ats }, ty, pos, af, g⟩ st (ST.put st d res) :=
  XO.callB hc hF hp rfl (fun i y hy => by
    match i, hy with
    | 0, hy => cases hy; exact ⟨o1, x1, rfl, h1, s1⟩
    | 1, hy => cases hy; exact ⟨o2, x2, rfl, h2, s2⟩) hd

theorem RO.makeFunc {f : FuncId} {cs : Array Operand} {caps : List (Nat × Nat)} {dd : Option Tmp} (hn : cs.size = caps.length) (h : ∀ (k : Nat) (p : Nat × Nat), caps[k]? = some p → ∃ o, cs[k]? = some o ∧ ev st.tm o = some (.v (.one (.ptr p.1 p.2)))) :
    RO E ⟨dd, .makeFunc (.func f) #[] cs, ty, pos, af, g⟩ st (.v (.one (.fn f caps))) := by
  refine ⟨(fun _ h => nomatch h), fun V a w hr => ⟨.func (.func f) #[] (cs.map a.eval), by simp [execOp, Instr.makeFunc], fun p hp => ?_, ?_⟩⟩
  · obtain ⟨k, hk⟩ := List.getElem?_of_mem hp
    obtain ⟨o, -, h2⟩ := h k p hk
    exact (hr.ev h2).1
  · congr 1
    apply Array.ext
    · simp [hn]
    · intro k h1 h2
      have hk : k < caps.length := by simpa using h2
      obtain ⟨o, h3, h4⟩ := h k _ (List.getElem?_eq_getElem hk)
      have h5 := (hr.ev h4).2
      have h6 : cs[k]'(by simpa using h1) = o := by
        have := Array.getElem?_eq_getElem (xs := cs) (i := k) (by simpa using h1)
        rw [h3] at this; exact (Option.some.inj this).symm
      simp [h6, h5]
theorem RO.makeFunc1 {f : FuncId} {o1 : Operand} {i1 k1 : Nat} {dd : Option Tmp} (h1 : ev st.tm o1 = some (.v (.one (.ptr i1 k1)))) : RO E ⟨dd, .makeFunc (.func f) #[] #[o1], ty, pos, af, g⟩ st (.v (.one (.fn f [(i1, k1)]))) :=
  RO.makeFunc rfl (fun k p hk => by
    match k, hk with
    | 0, hk => cases hk; exact ⟨o1, rfl, h1⟩)
theorem RO.makeFunc2 {f : FuncId} {o1 o2 : Operand} {i1 k1 i2 k2 : Nat} {dd : Option Tmp} (h1 : ev st.tm o1 = some (.v (.one (.ptr i1 k1)))) (h2 : ev st.tm o2 = some (.v (.one (.ptr i2 k2)))) : RO E ⟨dd, .makeFunc (.func f) #[] #[o1, o2], ty, pos, af, g⟩ st (.v (.one (.fn f [(i1, k1), (i2, k2)]))) :=
  RO.makeFunc rfl (fun k p hk => by
    match k, hk with
    | 0, hk => cases hk; exact ⟨o1, rfl, h1⟩
    | 1, hk => cases hk; exact ⟨o2, rfl, h2⟩)
end
end Go.Proofs.Ytkimijmiphkddaa
