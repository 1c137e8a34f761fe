/- Calls in a memory of their own: what is handed over and handed back is data; or the callee's names are taken over. -/
import Derived.Test.YtcapifnaceegmaaGreatDoorEvB
namespace Go.Proofs.YtcapifnaceegmaaGreatDoor
open Go.RowKit
set_option linter.unusedSimpArgs false
set_option linter.unusedVariables false
set_option linter.unusedSectionVars false

def asC : CA → Option C
  | .d c => some c
  | .app _ sz es => some (.sl sz es)
  | _ => none

def asCs : List CA → Option (List C)
  | [] => some []
  | x :: xs => match asC x, asCs xs with
    | some c, some cs => some (c :: cs)
    | _, _ => none

theorem asC_sub {x : CA} {c : C} (h : asC x = some c) : CSub x c := by
  cases x <;> simp [asC] at h <;> subst h <;> first | exact .d _ | exact .app _ _ _

theorem asCs_subs : ∀ {xs : List CA} {cs : List C}, asCs xs = some cs → CSubs xs cs ∧ LSub xs (cs.map .d)
  | [], cs, h => by cases h; exact ⟨.nil, .nil⟩
  | x :: xs, cs, h => by
    simp only [asCs] at h
    split at h
    · rename_i c cs' hc hcs
      cases h
      obtain ⟨h1, h2⟩ := asCs_subs hcs
      exact ⟨.cons (asC_sub hc) h1, .cons (asC_sub hc) h2⟩
    · cases h

def asAV : AV → Option AV
  | .one x => match asC x with
    | some c => some (.one (.d c))
    | none => none
  | .agg xs => match asCs xs with
    | some cs => some (.agg (cs.map .d))
    | none => none

theorem asAV_sub {x y : AV} (h : asAV x = some y) : ASub x y := by
  cases x with
  | one x =>
    simp only [asAV] at h
    split at h
    · rename_i c hc; cases h; exact .one (asC_sub hc)
    · cases h
  | agg xs =>
    simp only [asAV] at h
    split at h
    · rename_i cs hc; cases h; exact .agg (asCs_subs hc).2
    · cases h

def asAVs : List AV → Option (List AV)
  | [] => some []
  | x :: xs => match asAV x, asAVs xs with
    | some y, some ys => some (y :: ys)
    | _, _ => none

theorem asAVs_spec : ∀ {xs ys : List AV}, asAVs xs = some ys → xs.length = ys.length ∧ ∀ (i : Nat) (y : AV), ys[i]? = some y → ∃ x, xs[i]? = some x ∧ ASub x y
  | [], ys, h => by cases h; exact ⟨rfl, fun i y hy => by simp at hy⟩
  | x :: xs, ys, h => by
    simp only [asAVs] at h
    split at h
    · rename_i y ys' hy hys
      cases h
      obtain ⟨h1, h2⟩ := asAVs_spec hys
      refine ⟨by simp [h1], fun i z hz => ?_⟩
      cases i with
      | zero => simp at hz; subst hz; exact ⟨x, rfl, asAV_sub hy⟩
      | succ i => exact h2 i z (by simpa using hz)
    · cases h

def asTV : TV → Option TV
  | .v x => match asAV x with
    | some y => some (.v y)
    | none => none
  | .tup xs => match asAVs xs with
    | some ys => some (.tup ys)
    | none => none
  | .unk => none

theorem asTV_rel {x y : TV} (h : asTV x = some y) {V : Vu} {w : World} {v : Value} (hv : x.rel V w v) : y.rel (Vu.of V.S) w v := by
  cases x with
  | v x =>
    simp only [asTV] at h
    split at h
    · rename_i z hz; cases h; exact (asAV_sub hz).rel hv
    · cases h
  | tup xs =>
    simp only [asTV] at h
    split at h
    · rename_i ys hys
      cases h
      obtain ⟨vs, h1, h2, h3⟩ := hv
      obtain ⟨h4, h5⟩ := asAVs_spec hys
      refine ⟨vs, h1, by omega, fun i y hy => ?_⟩
      obtain ⟨x, hx, hs⟩ := h5 i y hy
      obtain ⟨u, hu, hxu⟩ := h3 i x hx
      exact ⟨u, hu, hs.rel hxu⟩
    · cases h
  | unk => cases h

theorem of_le {V : Vu} {w : World} : (Vu.of V.S).Le V w w := ⟨Nat.zero_le _, (fun i hi => absurd hi (Nat.not_lt_zero i)), (fun i hi => absurd hi (Nat.not_lt_zero i)), (fun i hi => absurd hi (Nat.not_lt_zero i)), fun _ _ h => h, fun _ _ _ => rfl⟩

def mem0 : Mem := ⟨[], [], 0⟩

/-- A memory of one's own, in which nothing is known but what is read. -/
theorem hrel0 {P : Program} {S : Nat → Nat → Prop} {w : World} (hS : ∀ b o, S b o → b < w.heap.size) : HRel (EnvF P w S) (Vu.of S) [] [] w := by
  refine ⟨ExtM.refl _ _, Vu.Le.refl _ _, hS, fun b o h => .inl h, ?_, ?_, ?_, ?_, ?_⟩
  · intro i B hi; cases hi
  · intro i j A B hi; cases hi
  · intro i B hi; cases hi
  · intro i T hi; cases hi
  · intro i j T U g hi; cases hi

section
variable {E : Env} {st : St} {dd : Option Nat} {ty : TypeId} {pos : String} {af : Array Edge} {g : Option (Nat × Bool)}

theorem call_enters {P : Program} {x : Operand} {f : FuncId} {as : Array Operand} {ats : Array TypeId} {ρ : Operand → Value} {w : World} (hx : ρ x = .func (.func f) #[] #[]) (he : Enters P f) :
    (execOp ρ ⟨dd, .call { callee := .value x, args := as, argTypes := ats }, ty, pos, af, g⟩).run P w = .ok (.enter f (as.map ρ)) w := by
  have := he (as.map ρ) w
  simp [execOp, resolve, hx, Deferred.ofValue, invoke]
  simpa using this

theorem OpOK.callPure {x : Operand} {f : FuncId} {as : Array Operand} {args args' : List AV} {ats : Array TypeId} {res res' : TV} {m1 : Mem} (hx : ev st.tm x = some (.v (.one (.fn f [])))) (ha : evArgs st.tm as.toList = some args) (hs : asAVs args = some args')
    (hc : CallM E.P f args' mem0 res m1) (hr' : asTV res = some res') : OpOK E ⟨dd, .call { callee := .value x, args := as, argTypes := ats }, ty, pos, af, g⟩ st res' st.mem := by
  intro V a w hr ro n K Q hK
  refine ⟨fun _ _ => trivial, ?_⟩
  rw [Oper.semAt_eq _ _ _ (by intro c h; cases h)]
  rw [call_enters (by have := (hr.ev hx).2; simpa using this) hc.1]
  refine ⟨(by intro h; cases h), ?_⟩
  have har : argsRel (Vu.of V.S) w args' (as.map a.eval) := by
    obtain ⟨h1, h2⟩ := args_rel hr ha
    obtain ⟨h3, h4⟩ := asAVs_spec hs
    refine ⟨by omega, fun i y hy => ?_⟩
    obtain ⟨x, hx', hxy⟩ := h4 i y hy
    obtain ⟨u, hu, hxu⟩ := h2 i x hx'
    exact ⟨u, hu, hxy.rel hxu⟩
  have hc' : CallsIn Fence.wide (n - 1) E.P f _ w _ := callsIn_wide.2 (hc.2 (EnvF E.P w V.S) (Vu.of V.S) w _ rfl (hrel0 hr.h.sz) rfl har)
  refine CallsIn.mono (F := FR ro) hc' ?_
  rintro e w' ⟨v, V1, rfl, H, hn, L, hres⟩
  have hg : V.Grow { V with S := V1.S } w w' := ⟨Nat.le_refl _, fun _ _ => rfl, fun _ _ => rfl, fun _ _ _ _ => rfl, H.le0.S, fun b o h => by
    rcases H.sub b o h with h1 | h1 | h1
    · exact .inl h1
    · exact .inr h1
    · exact h1.elim, H.sz⟩
  have hx' : ExtF w w' := H.ext
  exact hK { V with S := V1.S } w' v (hr.h.later hx' hg) hr.nx (hr.h.le hx' hg) ((asTV_rel hr' hres).mono (of_le (V := { V with S := V1.S })))

/-! ### The callee's names are taken over. -/
def CA.shift (n : Nat) : CA → CA
  | .ptr i off => .ptr (i + n) off
  | .fn f caps => .fn f (caps.map fun p => (p.1 + n, p.2))
  | .app i sz es => .app (i + n) sz es
  | .osl i off len cap => .osl (i + n) off len cap
  | .mp i => .mp (i + n)
  | .yld i => .yld (i + n)
  | x => x
def AV.shift (n : Nat) : AV → AV
  | .one x => .one (x.shift n)
  | .agg xs => .agg (xs.map (CA.shift n))
def TV.shift (n : Nat) : TV → TV
  | .v x => .v (x.shift n)
  | .tup xs => .tup (xs.map (AV.shift n))
  | .unk => .unk
def HB.shift (n : Nat) : HB → HB
  | .cells T xs => .cells T (xs.map (CA.shift n))
  | .obj o => .obj o
  | .loop s p tm nt ps as bd D => .loop s p (tm.map fun q => (q.1, q.2.shift n)) nt ps as bd (D + n)
  | .mp es c => .mp (es.map fun e => (e.1, e.2.1.shift n, e.2.2)) c

/-- The names below n are V's, those from n on are V1's. -/
def Vu.join (V V1 : Vu) (n : Nat) : Vu :=
  ⟨n + V1.nx, fun i => if i < n then V.ι i else V1.ι (i - n), fun i m => if i < n then V.κ i m else V1.κ (i - n) m, fun i => if i < n then V.cu i else V1.cu (i - n), V1.S⟩

theorem join_hi {V V1 : Vu} {n i : Nat} : (V.join V1 n).ι (i + n) = V1.ι i ∧ (∀ m, (V.join V1 n).κ (i + n) m = V1.κ i m) ∧ (V.join V1 n).cu (i + n) = V1.cu i := by
  have h : ¬ (i + n < n) := by omega
  refine ⟨?_, fun m => ?_, ?_⟩ <;> simp [Vu.join, h, Nat.add_sub_cancel]

theorem CA.rel.shift {V V1 : Vu} {n : Nat} {w : World} {x : CA} {v : Value} (h : x.rel V1 w v) : (x.shift n).rel (V.join V1 n) w v := by
  have hlt : ∀ i, i < V1.nx → i + n < (V.join V1 n).nx := fun i hi => by show i + n < n + V1.nx; omega
  cases x with
  | d c => exact h
  | ptr i off => exact ⟨hlt i h.1, by rw [join_hi.1]; exact h.2⟩
  | pel e off => exact h
  | fn f caps =>
    refine ⟨fun p hp => ?_, ?_⟩
    · obtain ⟨q, hq, rfl⟩ := List.mem_map.1 hp; exact hlt q.1 (h.1 q hq)
    · rw [h.2]
      congr 2
      rw [List.map_map]
      exact List.map_congr_left fun p hp => by simp only [Function.comp]; rw [join_hi.1]
  | app i sz es => exact ⟨hlt i h.1, by rw [join_hi.2.2]; exact h.2.1, by rw [join_hi.2.1]; exact h.2.2.1, h.2.2.2⟩
  | osl i off len cap => exact ⟨hlt i h.1, by rw [join_hi.1]; exact h.2⟩
  | mp i => exact ⟨hlt i h.1, by rw [join_hi.1]; exact h.2⟩
  | yld i => exact ⟨hlt i h.1, by rw [join_hi.1]; exact h.2⟩
  | clo f caps => exact h
  | any => exact h

theorem rels.shift {V V1 : Vu} {n : Nat} {w : World} {xs : List CA} {vs : Array Value} (h : rels V1 w xs vs) : rels (V.join V1 n) w (xs.map (CA.shift n)) vs := by
  refine ⟨by simp [h.1], fun i x hx => ?_⟩
  rw [List.getElem?_map] at hx
  cases hi : xs[i]? with
  | none => rw [hi] at hx; cases hx
  | some y => rw [hi] at hx; cases hx; obtain ⟨u, h1, h2⟩ := h.2 i y hi; exact ⟨u, h1, h2.shift⟩

theorem AV.rel.shift {V V1 : Vu} {n : Nat} {w : World} {x : AV} {v : Value} (h : x.rel V1 w v) : (x.shift n).rel (V.join V1 n) w v := by
  cases x with
  | one x => exact CA.rel.shift h
  | agg xs => obtain ⟨vs, h1, h2⟩ := h; exact ⟨vs, h1, h2.shift⟩

theorem TV.rel.shift {V V1 : Vu} {n : Nat} {w : World} {x : TV} {v : Value} (h : x.rel V1 w v) : (x.shift n).rel (V.join V1 n) w v := by
  cases x with
  | v x => exact AV.rel.shift h
  | tup xs =>
    obtain ⟨vs, h1, h2, h3⟩ := h
    refine ⟨vs, h1, by simp [h2], fun i x hx => ?_⟩
    rw [List.getElem?_map] at hx
    cases hi : xs[i]? with
    | none => rw [hi] at hx; cases hx
    | some y => rw [hi] at hx; cases hx; obtain ⟨u, h1, h2⟩ := h3 i y hi; exact ⟨u, h1, h2.shift⟩
  | unk => trivial

theorem lk_mapv {α : Type} {f : α → α} : ∀ (l : List (Nat × α)) (i : Nat) (y : α), lk (l.map fun q => (q.1, f q.2)) i = some y → ∃ x, lk l i = some x ∧ y = f x
  | [], i, y, h => by cases h
  | (k, v) :: l, i, y, h => by
    simp only [List.map_cons, lk_cons] at h ⊢
    split at h
    · rename_i e; cases h; exact ⟨v, by rw [if_pos e], rfl⟩
    · rename_i e; obtain ⟨x, h1, h2⟩ := lk_mapv l i y h; exact ⟨x, by rw [if_neg e]; exact h1, h2⟩

theorem HB.rel.shift {V V1 : Vu} {n : Nat} {w : World} {B : HB} {o : Obj} (h : B.rel V1 w o) : (B.shift n).rel (V.join V1 n) w o := by
  cases B with
  | cells T xs => obtain ⟨vs, h1, h2⟩ := h; exact ⟨vs, h1, h2.shift⟩
  | obj o' => exact h
  | loop s p tm nt ps as bd D =>
    obtain ⟨hD, fn, tmps, h1, h2, h3⟩ := h
    refine ⟨by show D + n < n + V1.nx; omega, fn, tmps, by rw [join_hi.1]; exact h1, h2, fun t x hx => ?_⟩
    obtain ⟨y, hy, rfl⟩ := lk_mapv tm t x hx
    exact (h3 t y hy).shift
  | mp es c =>
    obtain ⟨ents, h1, h2, h3⟩ := h
    refine ⟨ents, h1, by simp [h2], fun i k x b hi => ?_⟩
    rw [List.getElem?_map] at hi
    cases he : es[i]? with
    | none => rw [he] at hi; cases hi
    | some e =>
      rw [he] at hi; cases hi
      obtain ⟨k', x', b'⟩ := e
      obtain ⟨v, h4, h5⟩ := h3 i k' x' b' he
      exact ⟨v, h4, h5.shift⟩

def shiftK {α : Type} (n : Nat) (f : α → α) (l : List (Nat × α)) : List (Nat × α) := l.map fun p => (p.1 + n, f p.2)

theorem lk_shiftK {α : Type} {n : Nat} {f : α → α} : ∀ (l : List (Nat × α)) (i : Nat) (y : α), lk (shiftK n f l) i = some y → ∃ j x, i = j + n ∧ lk l j = some x ∧ y = f x
  | [], i, y, h => by cases h
  | (k, v) :: l, i, y, h => by
    simp only [shiftK, List.map_cons, lk_cons] at h
    split at h
    · rename_i e; cases h; exact ⟨k, v, e.symm, by rw [lk_cons, if_pos rfl], rfl⟩
    · rename_i e
      obtain ⟨j, x, h1, h2, h3⟩ := lk_shiftK l i y h
      exact ⟨j, x, h1, by rw [lk_cons, if_neg (fun e' => e (by omega))]; exact h2, h3⟩

def Mem.join (m m1 : Mem) : Mem := ⟨shiftK m.nx (HB.shift m.nx) m1.hp ++ m.hp, shiftK m.nx id m1.tk ++ m.tk, m.nx + m1.nx⟩

theorem HRel.join {V V1 : Vu} {hp : List (Nat × HB)} {tk : List (Nat × Option Tok)} {m1 : Mem} {w w' : World} (h : HRel E V hp tk w) (H : HRel (EnvF E.P w V.S) V1 m1.hp m1.tk w') :
    HRel E (V.join V1 V.nx) (shiftK V.nx (HB.shift V.nx) m1.hp ++ hp) (shiftK V.nx id m1.tk ++ tk) w' ∧ V.Le (V.join V1 V.nx) w w' := by
  have hx : ExtF w w' := H.ext
  have hback : ∀ b o, V1.S b o → V.S b o ∨ w.heap.size ≤ b := fun b o hs => by
    rcases H.sub b o hs with h1 | h1 | h1
    · exact .inl h1
    · exact .inr h1
    · exact h1.elim
  have hι : ∀ i, i < V.nx → (V.join V1 V.nx).ι i = V.ι i := fun i hi => by simp [Vu.join, hi]
  have hκ : ∀ i, i < V.nx → ∀ m, (V.join V1 V.nx).κ i m = V.κ i m := fun i hi m => by simp [Vu.join, hi]
  have hcu : ∀ i, i < V.nx → (V.join V1 V.nx).cu i = V.cu i := fun i hi => by simp [Vu.join, hi]
  have hg : V.Grow (V.join V1 V.nx) w w' := ⟨Nat.le_add_right _ _, hι, hcu, fun i hi m _ => hκ i hi m, H.le0.S, hback, H.sz⟩
  have H0 := h.later hx hg
  have L := h.le hx hg
  have hnew : ∀ i B, lk m1.hp i = some B → w.heap.size ≤ V1.ι i := fun i B hi => by
    rcases (H.new i B hi).1 with h1 | h1
    · exact h1
    · exact h1.elim
  have hold : ∀ i B, lk hp i = some B → (V.join V1 V.nx).ι i < w.heap.size := fun i B hi => by
    obtain ⟨h1, o, ho, -⟩ := h.own i B hi
    rw [hι i h1]; exact heap_lt ho
  have htn : ∀ i T g, lk m1.tk i = some (some T) → (V1.κ i T.n).ownBlock = some g → w.heap.size ≤ g := fun i T g hi hg => by
    obtain ⟨-, -, xs, -, h4⟩ := H.tok i T hi
    rcases (h4 g hg).1 with h5 | h5
    · exact h5
    · exact h5.elim
  have hto : ∀ i T g, lk tk i = some (some T) → ((V.join V1 V.nx).κ i T.n).ownBlock = some g → g < w.heap.size := fun i T g hi hg => by
    obtain ⟨h1, -, xs, h3, -⟩ := h.tok i T hi
    rw [hκ i h1] at hg
    exact (h3.lt g hg).2
  have hlk : ∀ {α : Type} (f : α → α) (l m : List (Nat × α)) (i : Nat) (B : α), lk (shiftK V.nx f l ++ m) i = some B → (∃ j B0, i = j + V.nx ∧ lk l j = some B0 ∧ B = f B0) ∨ lk m i = some B := by
    intro α f l m i B hi
    rw [lk_append] at hi
    split at hi
    · rename_i y hy; cases hi; exact .inl (lk_shiftK l i _ hy)
    · exact .inr hi
  refine ⟨⟨H0.ext, H0.le0, H0.sz, H0.sub, ?_, ?_, ?_, ?_, ?_⟩, L⟩
  · intro i B hi
    rcases hlk _ _ _ i B hi with ⟨j, B0, rfl, h1, rfl⟩ | h1
    · obtain ⟨h2, o, h3, h4⟩ := H.own j B0 h1
      exact ⟨by show j + V.nx < V.nx + V1.nx; omega, o, by rw [join_hi.1]; exact h3, h4.shift⟩
    · exact H0.own i B h1
  · intro i j A B hi hj e
    rcases hlk _ _ _ i A hi with ⟨i', A0, rfl, h1, -⟩ | h1 <;> rcases hlk _ _ _ j B hj with ⟨j', B0, rfl, h2, -⟩ | h2
    · rw [join_hi.1, join_hi.1] at e
      rw [H.inj i' j' A0 B0 h1 h2 e]
    · rw [join_hi.1] at e
      have := hnew _ _ h1; have := hold _ _ h2; omega
    · rw [join_hi.1] at e
      have := hnew _ _ h2; have := hold _ _ h1; omega
    · exact H0.inj i j A B h1 h2 e
  · intro i B hi
    rcases hlk _ _ _ i B hi with ⟨j, B0, rfl, h1, rfl⟩ | h1
    · rw [join_hi.1]
      exact ⟨.inl (Nat.le_trans h.ext.size (hnew _ _ h1)), (H.new j B0 h1).2⟩
    · exact H0.new i B h1
  · intro i T hi
    rcases hlk _ _ _ i _ hi with ⟨j, T0, rfl, h1, rfl⟩ | h1
    · obtain ⟨h2, h3, xs, h4, h5⟩ := H.tok j T h1
      refine ⟨by show j + V.nx < V.nx + V1.nx; omega, by rw [join_hi.2.2]; exact h3, xs, by rw [join_hi.2.1]; exact h4, fun g hg => ?_⟩
      rw [join_hi.2.1] at hg
      have hge := htn j T g h1 hg
      refine ⟨.inl (Nat.le_trans h.ext.size hge), (h5 g hg).2.1, fun k B hk => ?_⟩
      rcases hlk _ _ _ k B hk with ⟨k', B0, rfl, h6, -⟩ | h6
      · rw [join_hi.1]; exact (h5 g hg).2.2 k' B0 h6
      · have := hold _ _ h6; omega
    · obtain ⟨h2, h3, xs, h4, h5⟩ := H0.tok i T h1
      refine ⟨h2, h3, xs, h4, fun g hg => ⟨(h5 g hg).1, (h5 g hg).2.1, fun k B hk => ?_⟩⟩
      rcases hlk _ _ _ k B hk with ⟨k', B0, rfl, h6, -⟩ | h6
      · rw [join_hi.1]
        have := hnew _ _ h6; have := hto _ _ _ h1 hg; omega
      · exact (h5 g hg).2.2 k B h6
  · intro i j T U g hi hj ei ej
    rcases hlk _ _ _ i _ hi with ⟨i', T0, rfl, h1, rfl⟩ | h1 <;> rcases hlk _ _ _ j _ hj with ⟨j', U0, rfl, h2, rfl⟩ | h2
    · rw [join_hi.2.1] at ei ej
      rw [H.tki i' j' T U g h1 h2 ei ej]
    · rw [join_hi.2.1] at ei
      have := htn _ _ _ h1 ei; have := hto _ _ _ h2 ej; omega
    · rw [join_hi.2.1] at ej
      have := htn _ _ _ h2 ej; have := hto _ _ _ h1 ei; omega
    · exact H0.tki i j T U g h1 h2 ei ej

theorem OpOK.callJoin {x : Operand} {f : FuncId} {as : Array Operand} {args args' : List AV} {ats : Array TypeId} {res : TV} {m1 : Mem} (hx : ev st.tm x = some (.v (.one (.fn f [])))) (ha : evArgs st.tm as.toList = some args) (hs : asAVs args = some args')
    (hc : CallM E.P f args' mem0 res m1) : OpOK E ⟨dd, .call { callee := .value x, args := as, argTypes := ats }, ty, pos, af, g⟩ st (res.shift st.nx) (st.mem.join m1) := by
  intro V a w hr ro n K Q hK
  refine ⟨fun _ _ => trivial, ?_⟩
  rw [Oper.semAt_eq _ _ _ (by intro c h; cases h)]
  rw [call_enters (by have := (hr.ev hx).2; simpa using this) hc.1]
  refine ⟨(by intro h; cases h), ?_⟩
  have har : argsRel (Vu.of V.S) w args' (as.map a.eval) := by
    obtain ⟨h1, h2⟩ := args_rel hr ha
    obtain ⟨h3, h4⟩ := asAVs_spec hs
    refine ⟨by omega, fun i y hy => ?_⟩
    obtain ⟨x, hx', hxy⟩ := h4 i y hy
    obtain ⟨u, hu, hxu⟩ := h2 i x hx'
    exact ⟨u, hu, hxy.rel hxu⟩
  have hc' : CallsIn Fence.wide (n - 1) E.P f _ w _ := callsIn_wide.2 (hc.2 (EnvF E.P w V.S) (Vu.of V.S) w _ rfl (hrel0 hr.h.sz) rfl har)
  refine CallsIn.mono (F := FR ro) hc' ?_
  rintro e w' ⟨v, V1, rfl, H, hn, -, hres⟩
  obtain ⟨H2, L2⟩ := hr.h.join H
  rw [hr.nx] at H2 L2
  exact hK _ w' v H2 (by show st.nx + V1.nx = _; rw [hn]; rfl) L2 hres.shift
end
end Go.Proofs.YtcapifnaceegmaaGreatDoor
