/- Regions that draw their order and hold calls or literals among the readers: the head in whatever order, then the tail. -/
import Derived.Test.YtcapifnaceegmaaGreatDoorAppend
namespace Go.Proofs.YtcapifnaceegmaaGreatDoor
open Go.RowKit
set_option linter.unusedSimpArgs false
set_option linter.unusedVariables false
set_option linter.unusedSectionVars false

def XA (E : Env) (ro : Option Nat) (n : Nat) (ops : Array Oper) (Q : Exit → Act → World → Prop) (fuel : Nat) (listed : Array Bool) (st : St) : Prop := ∀ V a w, Rel E V st a w → wpAnyIn (FR ro) n E.P .any ops Q fuel listed a w

/-- An operation that makes memory at most: what was there stays as it was. -/
def HOp (E : Env) (ops : Array Oper) (o : Oper) (st : St) (x : TV) : Prop := ∀ V a w, Rel E V st a w → ∀ (ro : Option Nat) (n : Nat) (K : Act → World → Prop) (Q : Exit → Act → World → Prop),
  (∀ V' w' v, ExtF w w' → V.Grow V' w w' → V'.nx = V.nx → x.rel V' w' v → K (a.put o.dst v) w') →
  if Region.wanted o (yielded ops a.tmps) then o.wpIn (FR ro) n E.P a w K Q else K (a.put o.dst undef) w

section
variable {E : Env} {ops : Array Oper} {o : Oper} {st : St} {x : TV}

theorem grow_refl {V : Vu} {w : World} {hp : List (Nat × HB)} {tk : List (Nat × Option Tok)} (h : HRel E V hp tk w) : V.Grow V w w := ⟨Nat.le_refl _, fun _ _ => rfl, fun _ _ => rfl, fun _ _ _ _ => rfl, fun _ _ h => h, fun _ _ h => .inl h, h.sz⟩

theorem wpIn_of_ro (h : RO E o st x) {V : Vu} {a : Act} {w : World} (hr : Rel E V st a w) {ro : Option Nat} {n : Nat} {K : Act → World → Prop} {Q : Exit → Act → World → Prop} (hK : ∀ v, x.rel V w v → K (a.put o.dst v) w) : o.wpIn (FR ro) n E.P a w K Q := by
  obtain ⟨v, hrun, hx⟩ := h.2 V a w hr
  refine ⟨fun _ _ => trivial, ?_⟩
  rw [Oper.semAt_eq _ _ _ h.1, hrun]
  exact hK v hx

theorem HOp.ro (hg : o.guard = none) (h : RO E o st x) : HOp E ops o st x := by
  intro V a w hr ro n K Q hK
  rw [if_pos (by simp [Region.wanted, hg])]
  exact wpIn_of_ro h hr (fun v hx => hK V w v (ExtM.refl _ _) (grow_refl hr.h) rfl hx)
theorem HOp.roOn {j d : Nat} {b : Bool} (hg : o.guard = some (j, b)) (hj : (ops[j]?).bind (·.dst) = some d) (hb : lk st.tm d = some (TB b)) (h : RO E o st x) : HOp E ops o st x := by
  intro V a w hr ro n K Q hK
  rw [if_pos (by simp [Region.wanted, hg, yielded_of hr hj hb])]
  exact wpIn_of_ro h hr (fun v hx => hK V w v (ExtM.refl _ _) (grow_refl hr.h) rfl hx)
theorem und_rel {V : Vu} {w : World} : (TV.tup []).rel V w undef := ⟨#[], rfl, rfl, fun i x hx => by simp at hx⟩
theorem HOp.offB {j d : Nat} {b : Bool} (hg : o.guard = some (j, b)) (hj : (ops[j]?).bind (·.dst) = some d) (hb : lk st.tm d = some (TB (!b))) : HOp E ops o st (.tup []) := by
  intro V a w hr ro n K Q hK
  rw [if_neg (by simp [Region.wanted, hg, yielded_of hr hj hb])]
  exact hK V w undef (ExtM.refl _ _) (grow_refl hr.h) rfl und_rel
theorem HOp.offU {j d : Nat} {b : Bool} (hg : o.guard = some (j, b)) (hj : (ops[j]?).bind (·.dst) = some d) (hb : lk st.tm d = some (.tup [])) : HOp E ops o st (.tup []) := by
  intro V a w hr ro n K Q hK
  rw [if_neg (by simp [Region.wanted, hg, yielded_und hr hj hb])]
  exact hK V w undef (ExtM.refl _ _) (grow_refl hr.h) rfl und_rel

/-- A call of a function that only reads. -/
theorem HOp.call {f : FuncId} {args : List AV} {res : TV} {as : Array Operand} {ats : Array TypeId} {d : Option Tmp} {ty : TypeId} {pos : String} {af : Array Edge} (hF : Fun E.P f args res) (hn : as.size = args.length)
    (ha : ∀ (i : Nat) (y : AV), args[i]? = some y → ∃ o x, as[i]? = some o ∧ ev st.tm o = some (.v x) ∧ ASub x y) :
    HOp E ops ⟨d, .call { callee := .value (.func f), args := as, argTypes := ats }, ty, pos, af, none⟩ st res := by
  intro V a w hr ro n K Q hK
  rw [if_pos (by simp [Region.wanted])]
  refine ⟨fun _ _ => trivial, ?_⟩
  rw [Oper.semAt_eq _ _ _ (by intro c h; cases h)]
  have hrun : (execOp a.eval ⟨d, .call { callee := .value (.func f), args := as, argTypes := ats }, ty, pos, af, none⟩).run E.P w = .ok (.enter f (as.map a.eval)) w := by
    have := hF.1 (as.map a.eval) w
    simp [execOp, resolve, Act.eval, Deferred.ofValue, invoke]
    simpa using this
  rw [hrun]
  refine ⟨(by intro h; cases h), ?_⟩
  have hc := hF.2 V.S w (as.map a.eval) hr.h.sz ⟨by rw [Array.size_map]; exact hn, fun i y hy => by
    obtain ⟨o, x, h1, h2, h3⟩ := ha i y hy
    exact ⟨a.eval o, by simp [h1], h3.rel (hr.ev h2)⟩⟩
  have hc' : CallsIn Fence.wide (n - 1) E.P f (as.map a.eval) w _ := callsIn_wide.2 hc
  refine CallsIn.mono (F := FR ro) hc' ?_
  rintro e w' ⟨v, S', rfl, hx, hS, hS', hv⟩
  have hg : V.Grow { V with S := S' } w w' := ⟨Nat.le_refl _, fun _ _ => rfl, fun _ _ => rfl, fun _ _ _ _ => rfl, hS, fun b o h => (hS' b o h).1, fun b o h => (hS' b o h).2⟩
  exact hK { V with S := S' } w' v hx hg rfl (TV.rel.mono (V := Vu.of S') (V' := { V with S := S' }) (w := w') (w' := w') ⟨Nat.zero_le _, (fun i hi => absurd hi (Nat.not_lt_zero i)), (fun i hi => absurd hi (Nat.not_lt_zero i)), (fun i hi => absurd hi (Nat.not_lt_zero i)), fun _ _ h => h, fun _ _ _ => rfl⟩ hv)
theorem HOp.call1 {f : FuncId} {y1 : AV} {res : TV} {o1 : Operand} {x1 : AV} {ats : Array TypeId} {d : Option Tmp} {ty : TypeId} {pos : String} {af : Array Edge} (hF : Fun E.P f [y1] res) (h1 : ev st.tm o1 = some (.v x1)) (s1 : ASub x1 y1) :
    HOp E ops ⟨d, .call { callee := .value (.func f), args := #[o1], argTypes := ats }, ty, pos, af, none⟩ st res :=
  HOp.call hF rfl (fun i y hy => by
    match i, hy with
    | 0, hy => cases hy; exact ⟨o1, x1, rfl, h1, s1⟩)
theorem HOp.call2 {f : FuncId} {y1 y2 : AV} {res : TV} {o1 o2 : Operand} {x1 x2 : AV} {ats : Array TypeId} {d : Option Tmp} {ty : TypeId} {pos : String} {af : Array Edge} (hF : Fun E.P f [y1, y2] res) (h1 : ev st.tm o1 = some (.v x1)) (s1 : ASub x1 y1) (h2 : ev st.tm o2 = some (.v x2)) (s2 : ASub x2 y2) :
    HOp E ops ⟨d, .call { callee := .value (.func f), args := #[o1, o2], argTypes := ats }, ty, pos, af, none⟩ st res :=
  HOp.call hF rfl (fun i y hy => by
    match i, hy with
    | 0, hy => cases hy; exact ⟨o1, x1, rfl, h1, s1⟩
    | 1, hy => cases hy; exact ⟨o2, x2, rfl, h2, s2⟩)

/-- A slice literal of one element, only read from now on. -/
theorem HOp.lit1 {t e sz d : Nat} {zs : List Value} {o1 : Operand} {x1 : AV} {ys : List CA} {c1 : List C} {ty : TypeId} {pos : String} {af : Array Edge} (ht : tySlice E.P t = some (e, sz)) (hze : tyZero E.P e = some zs) (hzl : zs.length = sz) (hz : zs.all (·.oneCell') = true) (hpos : 0 < sz) (hlen : 1 * sz ≤ 16777216)
    (h1 : ev st.tm o1 = some (.v x1)) (hf : fillL (rowPlaces sz 1) (zeroRow zs 1) [(0, x1)] = some ys) (hs : CSubs ys c1) (hel : c1.length = sz) (hd : d < st.nt) :
    HOp E ops ⟨some d, .buildSlice t 1 #[(0, o1)], ty, pos, af, none⟩ st (.v (.one (.d (.sl sz [c1])))) := by
  intro V a w hr ro n K Q hK
  rw [if_pos (by simp [Region.wanted])]
  refine ⟨fun _ _ => trivial, ?_⟩
  rw [Oper.semAt_eq _ _ _ (by intro c h; cases h)]
  have hel' : ∀ x ∈ [c1], x.length = sz := fun x hx => by simp at hx; subst hx; exact hel
  obtain ⟨us, hrun, husz, hcells⟩ := build_run (pos := pos) (ty := ty) (af := af) (g := none) (avs := [(0, x1)]) (parts := #[(0, o1)]) [c1] ht hze hzl hz hlen rfl (fun j i x hx => by
    match j, hx with
    | 0, hx => cases hx; exact ⟨o1, rfl, h1⟩) hf (by simpa using hs) hel' rfl hr (some d)
  rw [hrun]
  have hx : ExtF w (w.alloc (.cells us e)) := ⟨rfl, rfl, rfl, by simp, fun k hk _ => Below.heap_alloc w _ k hk⟩
  have hg : V.Grow { V with S := fun b o => V.S b o ∨ (b = w.heap.size ∧ o < 1 * sz) } w (w.alloc (.cells us e)) :=
    ⟨Nat.le_refl _, fun _ _ => rfl, fun _ _ => rfl, fun _ _ _ _ => rfl, fun _ _ h => .inl h, fun b o h => by
      rcases h with h | ⟨rfl, -⟩
      · exact .inl h
      · exact .inr (Nat.le_refl _), fun b o h => by
      rcases h with h | ⟨rfl, -⟩
      · exact Nat.lt_of_lt_of_le (hr.h.sz b o h) hx.size
      · simp⟩
  have hle := hr.h.le hx hg
  refine hK _ _ _ hx hg rfl ?_
  refine Reads.of_row (us := fun k => us.getD k undef) (es := [c1]) hel' (Nat.le_refl _) (fun k c hk => ?_)
  obtain ⟨u, hu1, hu2⟩ := hcells k c hk
  have hklt : k < 1 * sz := by have := (List.getElem?_eq_some_iff.1 hk).1; rwa [flat_len _ hel'] at this
  have e1 : us.getD k undef = u := by simp [hu1]
  rw [e1, Nat.zero_add]
  exact ⟨(cell_of_own (heap_alloc_new w _) k).trans hu1, .inr ⟨rfl, hklt⟩, hu2.mono hle.S hle.cell⟩
end

/-! ### The head, in whatever order -/
section
variable (ops : Array Oper)

def dstOf (i : Nat) : Option Tmp := (ops[i]?).bind (·.dst)
def depsOf (hd : List Nat) (i : Nat) : List Nat := match ops[i]? with
  | some o => (o.after.toList.filter (Region.binds .any ·)).map (·.on) |>.filter (hd.contains ·)
  | none => []

/-- Slots that the head writes are forgotten. -/
def dropTm (ds : List Nat) (tm : List (Nat × TV)) : List (Nat × TV) := tm.filter fun p => !(ds.contains p.1)
def hdDsts (hd : List Nat) : List Nat := hd.filterMap (dstOf ops)
def factsOf (fx : List (Nat × TV)) (js : List Nat) : List (Nat × TV) := js.filterMap fun j => match dstOf ops j, lk fx j with
  | some d, some x => some (d, x)
  | _, _ => none
def stB (hd : List Nat) (st : St) : St := { st with tm := dropTm (hdDsts ops hd) st.tm }
def stOf (hd : List Nat) (st : St) (fx : List (Nat × TV)) (js : List Nat) : St := { st with tm := factsOf ops fx js ++ dropTm (hdDsts ops hd) st.tm }
end

inductive HF (E : Env) (ops : Array Oper) (hd : List Nat) (st : St) (T : List (Nat × TV) → Prop) : List (Nat × TV) → List Nat → Prop
  | nil {fx : List (Nat × TV)} (k : T fx) : HF E ops hd st T fx []
  | cons {fx : List (Nat × TV)} {i : Nat} {rest : List Nat} {o : Oper} {x : TV} (ho : ops[i]? = some o) (h : HOp E ops o (stOf ops hd st fx (depsOf ops hd i)) x) (k : HF E ops hd st T ((i, x) :: fx) rest) : HF E ops hd st T fx (i :: rest)

theorem lk_append {α : Type} : ∀ (l m : List (Nat × α)) (i : Nat), lk (l ++ m) i = match lk l i with | some x => some x | none => lk m i
  | [], m, i => rfl
  | (k, v) :: l, m, i => by
    rw [List.cons_append, lk_cons, lk_cons]
    split
    · rfl
    · exact lk_append l m i

theorem lk_drop {ds : List Nat} : ∀ (tm : List (Nat × TV)) (t : Nat) (x : TV), lk (dropTm ds tm) t = some x → lk tm t = some x ∧ t ∉ ds
  | [], t, x, h => by cases h
  | (k, v) :: r, t, x, h => by
    simp only [dropTm, List.filter_cons] at h
    split at h
    · rename_i hk
      rw [lk_cons] at h ⊢
      split at h
      · rename_i e; subst e; exact ⟨by rw [if_pos rfl]; exact h, by simpa using hk⟩
      · rename_i e; rw [if_neg e]; exact lk_drop r t x h
    · rename_i hk
      have ih := lk_drop r t x h
      refine ⟨?_, ih.2⟩
      rw [lk_cons, if_neg (fun e => ?_)]
      · exact ih.1
      · subst e; exact ih.2 (by simpa using hk)

theorem lk_facts {ops : Array Oper} {fx : List (Nat × TV)} : ∀ (js : List Nat) (t : Nat) (x : TV), lk (factsOf ops fx js) t = some x → ∃ j ∈ js, dstOf ops j = some t ∧ lk fx j = some x
  | [], t, x, h => by cases h
  | j :: js, t, x, h => by
    simp only [factsOf, List.filterMap_cons] at h
    split at h
    · obtain ⟨j', h1, h2⟩ := lk_facts js t x h
      exact ⟨j', List.mem_cons_of_mem _ h1, h2⟩
    · rename_i p hp
      split at hp
      · rename_i d y hd hy
        cases hp
        rw [lk_cons] at h
        split at h
        · rename_i e; subst e; cases h; exact ⟨j, List.mem_cons_self, hd, hy⟩
        · obtain ⟨j', h1, h2⟩ := lk_facts js t x h
          exact ⟨j', List.mem_cons_of_mem _ h1, h2⟩
      · cases hp

/-- What is known where some of the head has come up. -/
structure Know (E : Env) (ops : Array Oper) (hd : List Nat) (st : St) (fx : List (Nat × TV)) (listed : Array Bool) (V : Vu) (a : Act) (w : World) : Prop where
  base : Rel E V (stB ops hd st) a w
  hd : ∀ j ∈ hd, listed.getD j false = true → ∀ d x, dstOf ops j = some d → lk fx j = some x → x.rel V w (a.tmps.getD d undef)

theorem Know.rel {E : Env} {ops : Array Oper} {hd : List Nat} {st : St} {fx : List (Nat × TV)} {listed : Array Bool} {V : Vu} {a : Act} {w : World} (h : Know E ops hd st fx listed V a w) (js : List Nat) (hj : ∀ j ∈ js, j ∈ hd ∧ listed.getD j false = true) :
    Rel E V (stOf ops hd st fx js) a w := by
  refine ⟨h.base.h, h.base.nx, h.base.nt, h.base.df, fun t x hx => ?_⟩
  simp only [stOf, lk_append] at hx
  split at hx
  · rename_i y hy
    cases hx
    obtain ⟨j, h1, h2, h3⟩ := lk_facts js t x hy
    exact h.hd j (hj j h1).1 (hj j h1).2 t x h2 h3
  · exact h.base.tm t x hx

def edgesOf (ops : Array Oper) (i : Nat) : List Nat := match ops[i]? with
  | some o => (o.after.toList.filter (Region.binds .any ·)).map (·.on)
  | none => []

def chainT (ops : Array Oper) : List Nat → Bool
  | t :: u :: r => (edgesOf ops u).contains t && chainT ops (u :: r)
  | _ => true

def ascNat : List Nat → Bool
  | a :: b :: r => decide (a < b) && ascNat (b :: r)
  | _ => true

def headsB (ops : Array Oper) (fl hd tl : List Nat) : Bool :=
  (List.range ops.size).all (fun i => fl.contains i || hd.contains i || tl.contains i) &&
  hd.all (fun i => decide (i < ops.size) && !(fl.contains i) && !(tl.contains i) && (dstOf ops i).isSome) && tl.all (fun i => decide (i < ops.size) && !(fl.contains i)) &&
  hd.all (fun i => (edgesOf ops i).all fun k => decide (k < i) && (fl.contains k || hd.contains k)) &&
  hd.all (fun i => hd.any (fun j => decide (i < j) && (edgesOf ops j).contains i) || (match tl with | t :: _ => (edgesOf ops t).contains i | [] => true)) &&
  chainT ops tl && ascNat hd && decide (hdDsts ops hd).Nodup

def seqT (ops : Array Oper) : List Nat → Array Bool → Bool
  | [], listed => (Region.ready .any ops listed).isEmpty
  | t :: r, listed => decide (Region.ready .any ops listed = [t]) && seqT ops r (listed.setIfInBounds t true)

def listL (ops : Array Oper) (no : List Nat) : Array Bool := ((List.range ops.size).map fun i => !(no.contains i)).toArray

structure AInv (ops : Array Oper) (fl tl : List Nat) (listed : Array Bool) : Prop where
  size : listed.size = ops.size
  fls : ∀ i ∈ fl, i < ops.size → listed.getD i false = true
  tls : ∀ i ∈ tl, listed.getD i false = false
  closed : ∀ j oj, ops[j]? = some oj → listed.getD j false = true → ∀ e ∈ oj.after, Region.binds .any e = true → listed.getD e.on false = true

section
variable {ops : Array Oper} {fl hd tl : List Nat} {listed : Array Bool}

theorem mem_edges {i : Nat} {o : Oper} (ho : ops[i]? = some o) {k : Nat} : k ∈ edgesOf ops i ↔ ∃ e ∈ o.after, Region.binds .any e = true ∧ e.on = k := by
  simp only [edgesOf, ho, List.mem_map, List.mem_filter, Array.mem_toList_iff]
  constructor
  · rintro ⟨e, ⟨h1, h2⟩, h3⟩; exact ⟨e, h1, h2, h3⟩
  · rintro ⟨e, h1, h2, h3⟩; exact ⟨e, ⟨h1, h2⟩, h3⟩

theorem mem_deps {i : Nat} {k : Nat} : k ∈ depsOf ops hd i ↔ k ∈ edgesOf ops i ∧ k ∈ hd := by
  unfold depsOf edgesOf
  cases ops[i]? with
  | none => simp
  | some o => simp

theorem asc_tail {a : Nat} : ∀ {l : List Nat}, ascNat (a :: l) = true → ∀ b ∈ l, a < b
  | [], _, b, hb => by cases hb
  | c :: l, h, b, hb => by
    simp only [ascNat, Bool.and_eq_true, decide_eq_true_eq] at h
    rcases List.mem_cons.1 hb with rfl | hb
    · exact h.1
    · exact Nat.lt_trans h.1 (asc_tail h.2 b hb)
theorem asc_rest {a : Nat} {l : List Nat} (h : ascNat (a :: l) = true) : ascNat l = true := by
  cases l with
  | nil => rfl
  | cons b l => simp only [ascNat, Bool.and_eq_true] at h; exact h.2

theorem chain_waits : ∀ {tl : List Nat} {t0 : Nat}, chainT ops (t0 :: tl) = true → ∀ t ∈ tl, ∃ u ∈ t0 :: tl, u ∈ edgesOf ops t
  | [], _, _, t, ht => by cases ht
  | u :: r, t0, h, t, ht => by
    simp only [chainT, Bool.and_eq_true, List.contains_eq_mem, decide_eq_true_eq] at h
    rcases List.mem_cons.1 ht with rfl | ht
    · exact ⟨t0, List.mem_cons_self, h.1⟩
    · obtain ⟨v, hv, hv'⟩ := chain_waits h.2 t ht
      exact ⟨v, List.mem_cons_of_mem _ hv, hv'⟩

theorem heads_listed (hB : headsB ops fl hd tl = true) (inv : AInv ops fl tl listed) {t : Nat} (ht : t ∈ tl) (hr : t ∈ Region.ready .any ops listed) : ∀ i ∈ hd, listed.getD i false = true := by
  simp only [headsB, Bool.and_eq_true, List.all_eq_true, decide_eq_true_eq, Bool.or_eq_true] at hB
  obtain ⟨⟨⟨⟨⟨⟨⟨-, hh⟩, -⟩, -⟩, hsink⟩, hch⟩, -⟩, -⟩ := hB
  obtain ⟨_, ot, hot, hall⟩ := mem_ready.1 hr
  cases htl : tl with
  | nil => rw [htl] at ht; cases ht
  | cons t0 r =>
    have h0 : t = t0 := by
      rw [htl] at ht hch
      rcases List.mem_cons.1 ht with h | h
      · exact h
      · obtain ⟨u, hu, hu'⟩ := chain_waits hch t h
        obtain ⟨e, he, hb, hon⟩ := (mem_edges hot).1 hu'
        have h1 := hall e he hb
        rw [hon, inv.tls u (by rw [htl]; exact hu)] at h1
        cases h1
    have key : ∀ d i, ops.size - i = d → i ∈ hd → listed.getD i false = true := by
      intro d
      induction d using Nat.strongRecOn with
      | _ d ih =>
        intro i hd' hi
        have hlt : i < ops.size := (hh i hi).1.1.1
        rcases hsink i hi with h1 | h1
        · obtain ⟨j, hj, hj2⟩ := List.any_eq_true.1 h1
          simp only [Bool.and_eq_true, decide_eq_true_eq, List.contains_eq_mem] at hj2
          have hjl := ih (ops.size - j) (by omega) j rfl hj
          have hjs : j < ops.size := (hh j hj).1.1.1
          obtain ⟨e, he, hb, hon⟩ := (mem_edges (Array.getElem?_eq_getElem hjs)).1 hj2.2
          rw [← hon]; exact inv.closed j _ (Array.getElem?_eq_getElem hjs) hjl e he hb
        · rw [htl] at h1
          simp only [List.contains_eq_mem, decide_eq_true_eq] at h1
          rw [← h0] at h1
          obtain ⟨e, he, hb, hon⟩ := (mem_edges hot).1 h1
          rw [← hon]; exact hall e he hb
    exact fun i hi => key _ i rfl hi

theorem AInv.set (inv : AInv ops fl tl listed) {i : Nat} (hi : i ∈ Region.ready .any ops listed) (ht : i ∉ tl) : AInv ops fl tl (listed.setIfInBounds i true) := by
  obtain ⟨_, oi, hoi, hall⟩ := mem_ready.1 hi
  refine ⟨by simp [inv.size], fun j hj hs => getD_set_true (inv.fls j hj hs), fun j hj => by rw [getD_set_ne false (fun e : i = j => ht (by rw [e]; exact hj))]; exact inv.tls j hj, fun j oj hj hl e he hb => ?_⟩
  by_cases hij : i = j
  · subst hij
    rw [hj] at hoi; cases hoi
    exact getD_set_true (hall e he hb)
  · rw [getD_set_ne false hij] at hl
    exact getD_set_true (inv.closed j oj hj hl e he hb)

theorem filterMap_same {α β : Type} {f g : α → Option β} : ∀ (l : List α), (∀ x ∈ l, f x = g x) → l.filterMap f = l.filterMap g
  | [], _ => rfl
  | a :: l, h => by
    rw [List.filterMap_cons, List.filterMap_cons, h a List.mem_cons_self, filterMap_same l (fun x hx => h x (List.mem_cons_of_mem _ hx))]

theorem filterMap_inj {α β : Type} {f : α → Option β} {d : β} : ∀ {l : List α}, (l.filterMap f).Nodup → ∀ {i j : α}, i ∈ l → j ∈ l → f i = some d → f j = some d → i = j
  | [], _, i, j, hi, _, _, _ => by cases hi
  | a :: l, hn, i, j, hi, hj, ei, ej => by
    rw [List.filterMap_cons] at hn
    rcases List.mem_cons.1 hi with rfl | hi'
    · rw [ei] at hn
      rcases List.mem_cons.1 hj with rfl | hj'
      · rfl
      · exact absurd (List.mem_filterMap.2 ⟨j, hj', ej⟩) (List.nodup_cons.1 hn).1
    · rcases List.mem_cons.1 hj with rfl | hj'
      · rw [ej] at hn
        exact absurd (List.mem_filterMap.2 ⟨i, hi', ei⟩) (List.nodup_cons.1 hn).1
      · refine filterMap_inj ?_ hi' hj' ei ej
        split at hn
        · exact hn
        · exact (List.nodup_cons.1 hn).2

theorem HF.facts {E : Env} {st : St} {T : List (Nat × TV) → Prop} : ∀ {fx0 : List (Nat × TV)} {rest : List Nat}, HF E ops hd st T fx0 rest → ascNat rest = true → (∀ i ∈ rest, ∀ j ∈ depsOf ops hd i, j < i) →
    ∃ fx, T fx ∧ (∀ j, j ∉ rest → lk fx j = lk fx0 j) ∧ ∀ i ∈ rest, ∃ o x, ops[i]? = some o ∧ lk fx i = some x ∧ HOp E ops o (stOf ops hd st fx (depsOf ops hd i)) x := by
  intro fx0 rest h
  induction h with
  | nil k => intro _ _; exact ⟨_, k, fun _ _ => rfl, fun i hi => by cases hi⟩
  | @cons fx i rest o x ho h k ih =>
    intro ha hdp
    obtain ⟨fx', h1, h2, h3⟩ := ih (asc_rest ha) (fun i hi => hdp i (List.mem_cons_of_mem _ hi))
    have hni : i ∉ rest := fun hi => Nat.lt_irrefl _ (asc_tail ha i hi)
    refine ⟨fx', h1, fun j hj => ?_, fun j hj => ?_⟩
    · rw [List.mem_cons, not_or] at hj
      rw [h2 j hj.2, lk_cons, if_neg (fun e => hj.1 e.symm)]
    · rcases List.mem_cons.1 hj with rfl | hj
      · refine ⟨o, x, ho, by rw [h2 _ hni, lk_cons, if_pos rfl], ?_⟩
        have hc : factsOf ops fx' (depsOf ops hd j) = factsOf ops fx (depsOf ops hd j) := by
          unfold factsOf
          have : ∀ m ∈ depsOf ops hd j, lk fx' m = lk fx m := fun m hm => by
            have hlt := hdp j List.mem_cons_self m hm
            have hmr : m ∉ rest := fun h => by have := asc_tail ha m h; omega
            rw [h2 m hmr, lk_cons, if_neg (by omega)]
          exact filterMap_same _ (fun m hm => by rw [this m hm])
        unfold stOf at h ⊢
        rw [hc]; exact h
      · exact h3 j hj

theorem wpAnyIn_of_seqT {ro : Option Nat} {n : Nat} {P : Program} {Q : Exit → Act → World → Prop} : ∀ (tl : List Nat) (listed : Array Bool) (a : Act) (w : World), (∀ t ∈ tl, t < ops.size) → seqT ops tl listed = true →
    wpListIn (FR ro) n P ops Q (tl.filterMap (ops[·]?)) a w → wpAnyIn (FR ro) n P .any ops Q tl.length listed a w
  | [], _, _, _, _, hB, h => ⟨by simpa [seqT] using hB, h⟩
  | t :: l, listed, a, w, hl, hB, h => by
    simp only [seqT, Bool.and_eq_true, decide_eq_true_eq] at hB
    have h0 := Array.getElem?_eq_getElem (hl t List.mem_cons_self)
    refine ⟨fun h1 => (by rw [hB.1] at h1; cases h1), fun i hi => ?_⟩
    rw [hB.1] at hi
    have hik : i = t := by simpa using hi
    subst hik
    rw [List.filterMap_cons, h0] at h
    have hw : wpOpIn (FR ro) n P ops Q i (wpListIn (FR ro) n P ops Q (l.filterMap (ops[·]?))) a w := by unfold wpOpIn; simp only [h0]; exact h
    exact wpOpIn_mono (fun a' w' h' => wpAnyIn_of_seqT l _ a' w' (fun t ht => hl t (List.mem_cons_of_mem _ ht)) hB.2 h') hw

theorem least_unlisted : ∀ (l : List Nat), (∃ i ∈ l, listed.getD i false = false) → ∃ i ∈ l, listed.getD i false = false ∧ ∀ j ∈ l, j < i → listed.getD j false = true := by
  intro l h
  obtain ⟨i, hi, hl⟩ := h
  induction i using Nat.strongRecOn with
  | _ i ih =>
    by_cases hm : ∃ j ∈ l, j < i ∧ listed.getD j false = false
    · obtain ⟨j, hj, hlt, hl'⟩ := hm
      exact ih j hlt hj hl'
    · refine ⟨i, hi, hl, fun j hj hlt => ?_⟩
      cases hb : listed.getD j false with
      | true => rfl
      | false => exact absurd ⟨j, hj, hlt, hb⟩ hm
end

def unl (hd : List Nat) (listed : Array Bool) : Nat := (hd.filter fun i => !(listed.getD i false)).length

theorem unl_set {hd : List Nat} (hn : hd.Nodup) {listed : Array Bool} {i : Nat} (hi : i ∈ hd) (hl : listed.getD i false = false) (hs : i < listed.size) : unl hd (listed.setIfInBounds i true) + 1 = unl hd listed := by
  induction hd with
  | nil => cases hi
  | cons a r ih =>
    rw [List.nodup_cons] at hn
    have hself : (listed.setIfInBounds i true).getD i false = true := by simp [hs]
    rcases List.mem_cons.1 hi with rfl | hi
    · have e : r.filter (fun j => !((listed.setIfInBounds i true).getD j false)) = r.filter (fun j => !(listed.getD j false)) := List.filter_congr fun j hj => by rw [getD_set_ne false (fun e : i = j => hn.1 (by rw [e]; exact hj))]
      unfold unl
      rw [List.filter_cons, List.filter_cons, hself, hl, e]
      simp
    · have := ih hn.2 hi
      have hne : i ≠ a := fun e => hn.1 (e ▸ hi)
      unfold unl at this ⊢
      rw [List.filter_cons, List.filter_cons, getD_set_ne false hne]
      split <;> simp_all <;> omega

theorem asc_nodup : ∀ {l : List Nat}, ascNat l = true → l.Nodup
  | [], _ => List.nodup_nil
  | a :: l, h => List.nodup_cons.2 ⟨fun hm => Nat.lt_irrefl _ (asc_tail h a hm), asc_nodup (asc_rest h)⟩

theorem XA.heads {E : Env} {ro : Option Nat} {n : Nat} {ops : Array Oper} {Q : Exit → Act → World → Prop} {st : St} {T : List (Nat × TV) → Prop} {fl hd tl : List Nat} (hB : headsB ops fl hd tl = true) (hseq : seqT ops tl (listL ops tl) = true)
    (hF : HF E ops hd st T [] hd) (hnt : ∀ i ∈ hd, ∀ d, dstOf ops i = some d → d < st.nt) (hT : ∀ fx, T fx → XL E ro n ops Q (tl.filterMap (ops[·]?)) (stOf ops hd st fx hd)) (hfl : AInv ops fl tl (listL ops (hd ++ tl))) : XA E ro n ops Q (hd.length + tl.length) (listL ops (hd ++ tl)) st := by
  have hB' := hB
  simp only [headsB, Bool.and_eq_true, List.all_eq_true, decide_eq_true_eq, Bool.or_eq_true, List.contains_eq_mem, List.mem_range] at hB'
  obtain ⟨⟨⟨⟨⟨⟨⟨hpart, hh⟩, htl⟩, hedge⟩, -⟩, -⟩, hasc⟩, hnod⟩ := hB'
  obtain ⟨fx, hfx, -, hfacts⟩ := hF.facts hasc (fun i hi j hj => (hedge i hi j (mem_deps.1 hj).1).1)
  have hndp := asc_nodup hasc
  have main : ∀ (c : Nat) (listed : Array Bool) (V : Vu) (a : Act) (w : World), AInv ops fl tl listed → Know E ops hd st fx listed V a w → unl hd listed = c → wpAnyIn (FR ro) n E.P .any ops Q (c + tl.length) listed a w := by
    intro c
    induction c with
    | zero =>
      intro listed V a w inv hk hc
      rw [Nat.zero_add]
      have hall : ∀ i ∈ hd, listed.getD i false = true := fun i hi => by
        cases hb : listed.getD i false with
        | true => rfl
        | false =>
          have : i ∈ hd.filter fun i => !(listed.getD i false) := List.mem_filter.2 ⟨hi, by simp only [hb]; rfl⟩
          unfold unl at hc
          rw [List.length_eq_zero_iff.1 hc] at this; cases this
      have hL : listed = listL ops tl := by
        apply Array.ext
        · simp [inv.size, listL]
        · intro i h1 h2
          have hi : i < ops.size := by rw [← inv.size]; exact h1
          have e1 : listed[i] = listed.getD i false := by simp [h1]
          have e2 : (listL ops tl)[i] = !(decide (i ∈ tl)) := by simp [listL]
          rw [e1, e2]
          by_cases hit : i ∈ tl
          · rw [inv.tls i hit]; simp [hit]
          · rcases hpart i hi with (h | h) | h
            · rw [inv.fls i h hi]; simp [hit]
            · rw [hall i h]; simp [hit]
            · exact absurd h hit
      rw [hL]
      refine wpAnyIn_of_seqT tl _ a w (fun t ht => (htl t ht).1) hseq ?_
      exact hT fx hfx V a w (hk.rel hd (fun j hj => ⟨hj, hall j hj⟩))
    | succ c ih =>
      intro listed V a w inv hk hc
      rw [show c + 1 + tl.length = (c + tl.length) + 1 by omega]
      have hex : ∃ i ∈ hd, listed.getD i false = false := by
        cases hf : hd.filter fun i => !(listed.getD i false) with
        | nil => unfold unl at hc; rw [hf] at hc; cases hc
        | cons i r =>
          have : i ∈ hd.filter fun i => !(listed.getD i false) := by rw [hf]; exact List.mem_cons_self
          obtain ⟨h1, h2⟩ := List.mem_filter.1 this
          exact ⟨i, h1, by simpa using h2⟩
      have hready : Region.ready .any ops listed ≠ [] := by
        obtain ⟨i, hi, hl, hmin⟩ := least_unlisted hd hex
        have hs : i < ops.size := (hh i hi).1.1.1
        have : i ∈ Region.ready .any ops listed := mem_ready.2 ⟨getD_in (by rw [inv.size]; exact hs) hl, _, Array.getElem?_eq_getElem hs, fun e he hb => by
          have hm := (mem_edges (Array.getElem?_eq_getElem hs)).2 ⟨e, he, hb, rfl⟩
          obtain ⟨h1, h2⟩ := hedge i hi e.on hm
          rcases h2 with h2 | h2
          · exact inv.fls _ h2 (by omega)
          · exact hmin _ h2 h1⟩
        intro h; rw [h] at this; cases this
      refine ⟨fun h0 => absurd h0 hready, fun i hi => ?_⟩
      obtain ⟨hun, oi, hoi, hdeps⟩ := mem_ready.1 hi
      have hs : i < ops.size := (Array.getElem?_eq_some_iff.1 hoi).1
      have hunf : listed.getD i false = false := getD_both hun
      have hihd : i ∈ hd := by
        rcases hpart i hs with (h | h) | h
        · rw [inv.fls i h hs] at hunf; cases hunf
        · exact h
        · obtain ⟨j, hj, hl⟩ := hex
          rw [heads_listed hB inv h hi j hj] at hl; cases hl
      obtain ⟨o, x, ho, hx, hop⟩ := hfacts i hihd
      rw [hoi] at ho; cases ho
      have hrel := hk.rel (depsOf ops hd i) (fun j hj => by
        obtain ⟨h1, h2⟩ := mem_deps.1 hj
        obtain ⟨e, he, hb, hon⟩ := (mem_edges hoi).1 h1
        exact ⟨h2, by rw [← hon]; exact hdeps e he hb⟩)
      obtain ⟨d, hd'⟩ := Option.isSome_iff_exists.1 (hh i hihd).2
      have hdst : oi.dst = some d := by simpa [dstOf, hoi] using hd'
      have hdn := hnt i hihd d hd'
      have step : ∀ V' w' v, ExtF w w' → V.Grow V' w w' → V'.nx = V.nx → x.rel V' w' v → wpAnyIn (FR ro) n E.P .any ops Q (c + tl.length) (listed.setIfInBounds i true) (a.put oi.dst v) w' := by
        intro V' w' v hxt hg hnx hv
        refine ih _ V' _ w' (inv.set hi (fun h => by have := (hh i hihd).1.2; simp at this; exact this h)) ?_ (by have := unl_set hndp hihd hunf (by rw [inv.size]; exact hs); omega)
        have hb := hk.base.later hxt hg hnx
        have hsz : d < a.tmps.size := by rw [hk.base.nt]; exact hdn
        rw [hdst]
        refine ⟨⟨hb.h, hb.nx, by simp [Act.put, hb.nt], hb.df, fun t y hy => ?_⟩, fun j hj hl d' x' hd2 hx' => ?_⟩
        · have hne : d ≠ t := fun e => by
            subst e
            exact (lk_drop _ _ _ hy).2 (List.mem_filterMap.2 ⟨i, hihd, hd'⟩)
          simp only [Act.put]
          rw [getD_put hsz, if_neg hne]
          exact hb.tm t y hy
        · simp only [Act.put]
          rw [getD_put hsz]
          by_cases hij : i = j
          · subst hij
            rw [hd'] at hd2; cases hd2
            rw [hx] at hx'; cases hx'
            rw [if_pos rfl]; exact hv
          · have hne : d ≠ d' := fun e => by
              subst e
              exact hij (filterMap_inj hnod hihd hj hd' hd2)
            rw [if_neg hne]
            rw [getD_set_ne false hij] at hl
            exact (hk.hd j hj hl d' x' hd2 hx').mono (hk.base.h.le hxt hg)
      have h2 := hop V a w hrel ro n _ Q step
      unfold wpOpIn
      simp only [hoi]
      split
      · rename_i hw; rw [if_pos hw] at h2; exact h2
      · rename_i hw; rw [if_neg hw] at h2; exact ⟨fun _ _ => trivial, h2⟩
  intro V a w hr
  have hun : ∀ i ∈ hd, (listL ops (hd ++ tl)).getD i false = false := fun i hi => by
    have hs : i < ops.size := (hh i hi).1.1.1
    simp [listL, hs, hi]
  refine main hd.length _ V a w hfl ⟨⟨hr.h, hr.nx, hr.nt, hr.df, fun t y hy => hr.tm t y (lk_drop _ _ _ hy).1⟩, fun j hj hl => ?_⟩ ?_
  · rw [hun j hj] at hl; cases hl
  · unfold unl
    rw [List.filter_eq_self.2 (fun i hi => by simp only [hun i hi]; rfl)]

theorem XC.any {E : Env} {ro : Option Nat} {n : Nat} {Q : Exit → Act → World → Prop} {st : St} {id : Nat} {l : List Oper} (hd tl : List Nat) (hm : E.P.follows .mixedOrders = true) (hB : headsB l.toArray [] hd tl = true) (hseq : seqT l.toArray tl (listL l.toArray tl) = true) (hn : hd.length + tl.length = l.length) (hall : listL l.toArray (hd ++ tl) = Array.replicate l.length false)
    (hnt : hd.all (fun i => match dstOf l.toArray i with | some d => Nat.blt d st.nt | none => true) = true)
    (hF : HF E l.toArray hd st (fun fx => XL E ro n l.toArray Q (tl.filterMap (l.toArray[·]?)) (stOf l.toArray hd st fx hd)) [] hd) : XC E ro n Q (.region id l.toArray true) st := by
  intro V a w hr
  refine wpIn_region_any hm ?_
  have hfl : AInv l.toArray [] tl (listL l.toArray (hd ++ tl)) := by
    rw [hall]
    refine ⟨by simp, (fun i hi => absurd hi (by simp)), fun i hi => getD_replicate_false _ _, fun j oj hj hl => ?_⟩
    rw [getD_replicate_false] at hl; cases hl
  have H := XA.heads hB hseq hF (fun i hi d hd' => by
    have := List.all_eq_true.1 hnt i hi
    rw [hd'] at this
    exact Nat.le_of_ble_eq_true this) (fun fx h => h) hfl
  have := H V a _ hr.drew
  rw [hn, hall] at this
  simpa using this

/-- An operation that asks nothing of the world. -/
def PO (E : Env) (o : Oper) (st : St) (x : TV) : Prop := o.guard = none ∧ (∀ c, o.op ≠ .call c) ∧ ∀ V a w, Rel E V st a w → ∃ v, (∀ w', (execOp a.eval o).run E.P w' = .ok (.value v) w') ∧ x.rel V w v

theorem PO.fieldOwn {E : Env} {st : St} {dd : Option Tmp} {ty : TypeId} {pos : String} {af : Array Edge} {s f k i off : Nat} {x : Operand} (hk : fieldOff E.P s f = some k) (hx : ev st.tm x = some (.v (.one (.ptr i off)))) : PO E ⟨dd, .fieldAddr s x f, ty, pos, af, none⟩ st (.v (.one (.ptr i (off + k)))) := by
  refine ⟨rfl, (fun _ h => nomatch h), fun V a w hr => ?_⟩
  have h1 := hr.ev hx
  exact ⟨_, fun w' => by simp only [execOp, h1.2, Sem.run_bind, run_fieldAt hk]; rfl, h1.1, rfl⟩

theorem XC.any1 {E : Env} {n : Nat} {Q : Exit → Act → World → Prop} {st : St} {id : Nat} {l : List Oper} (k d : Nat) (hd tl : List Nat) {ok : Oper} {x : TV} (hm : E.P.follows .mixedOrders = true) (hB : headsB l.toArray [k] hd tl = true) (hseq : seqT l.toArray tl (listL l.toArray tl) = true) (hn : hd.length + tl.length + 1 = l.length) (hall : listL l.toArray (hd ++ tl) = (Array.replicate l.length false).setIfInBounds k true)
    (hnt : hd.all (fun i => match dstOf l.toArray i with | some d => Nat.blt d st.nt | none => true) = true) (hk : l.toArray[k]? = some ok) (hkd : ok.dst = some d) (hdn : d < st.nt) (hke : edgesOf l.toArray k = []) (hns : Region.noSelect l.toArray = true) (hfr : Region.free .any l.toArray (Array.replicate l.length false) k = true) (hrd : (Region.ready .any l.toArray (Array.replicate l.length false)).contains k = true)
    (hQ : ∀ c a w v, Q (.panic c) (a.put (some d) v) w → Q (.panic c) a w) (hp : PO E ok st x)
    (hF : HF E l.toArray hd (ST.put st d x) (fun fx => XL E none n l.toArray Q (tl.filterMap (l.toArray[·]?)) (stOf l.toArray hd (ST.put st d x) fx hd)) [] hd) : XC E none n Q (.region id l.toArray true) st := by
  intro V a w hr
  refine wpIn_region_any hm ?_
  have hks : k < l.toArray.size := (Array.getElem?_eq_some_iff.1 hk).1
  have hfl : AInv l.toArray [k] tl (listL l.toArray (hd ++ tl)) := by
    have hB' := hB
    simp only [headsB, Bool.and_eq_true, List.all_eq_true, decide_eq_true_eq, Bool.or_eq_true, List.contains_eq_mem, List.mem_range] at hB'
    obtain ⟨⟨⟨⟨⟨⟨⟨-, -⟩, htl⟩, -⟩, -⟩, -⟩, -⟩, -⟩ := hB'
    rw [hall]
    refine ⟨by simp, fun i hi hs => ?_, fun i hi => ?_, fun j oj hj hl e he hb => ?_⟩
    · have : i = k := by simpa using hi
      subst this
      have : i < l.length := by simpa using hks
      simp [this]
    · have hne : k ≠ i := fun e => by subst e; have := (htl k hi).2; simp at this
      rw [getD_set_ne false hne]; exact getD_replicate_false _ _
    · by_cases hjk : k = j
      · subst hjk
        have := (mem_edges hj).2 ⟨e, he, hb, rfl⟩
        rw [hke] at this; cases this
      · rw [getD_set_ne false hjk, getD_replicate_false] at hl; cases hl
  have H := XA.heads (ro := none) (n := n) (Q := Q) hB hseq hF (fun i hi d' hd' => by
    have := List.all_eq_true.1 hnt i hi
    rw [hd'] at this
    exact Nat.le_of_ble_eq_true this) (fun fx h => h) hfl
  rw [hall] at H
  obtain ⟨v, hrun, hx⟩ := hp.2.2 V a _ hr.drew
  have hy : YieldsFenced E.P l.toArray ok v a := by
    refine ⟨.inl ⟨by simp [Region.wanted, hp.1], hrun⟩, fun w => ?_⟩
    unfold Oper.about
    cases ho : ok.op <;> first | rfl | exact absurd ho (hp.2.1 _)
  have h2 := H V (a.put (some d) v) _ (hr.drew.put hdn hx)
  have h3 := wpAnyIn_take (F := FR none) (n := n) (P := E.P) (md := .any) (ops := l.toArray) (Q := Q) (fuel := hd.length + tl.length) (listed := Array.replicate l.length false) (w := { w with drawn := w.drawn + 1 }) rfl hk hns hfr hrd (by rw [hkd]; exact fun c a w h => hQ c a w v h) hy (by rw [hkd]; exact h2)
  rw [hn] at h3
  simpa using h3
end Go.Proofs.YtcapifnaceegmaaGreatDoor
