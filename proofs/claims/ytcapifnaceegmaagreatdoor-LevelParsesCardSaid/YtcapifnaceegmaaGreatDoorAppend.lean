/- A slice literal; append. -/
import Derived.Test.YtcapifnaceegmaaGreatDoorSlice
namespace Go.Proofs.YtcapifnaceegmaaGreatDoor
open Go.RowKit
set_option linter.unusedSimpArgs false
set_option linter.unusedVariables false
set_option linter.unusedSectionVars false

/-- Size and bytes of an element type. -/
def tyElem (P : Program) (e : TypeId) : Option (Nat × Nat) :=
  match P.info? e with
  | some i => match i.zero with
    | some z => if z.cells.size = i.size ∧ 0 < i.size then some (i.size, i.bytes) else none
    | none => none
  | none => none

theorem tyElem_spec {P : Program} {e sz by_ : Nat} (h : tyElem P e = some (sz, by_)) : ∃ i z, P.info? e = some i ∧ i.zero = some z ∧ z.cells.size = sz ∧ 0 < sz ∧ i.size = sz ∧ i.bytes = by_ := by
  unfold tyElem at h
  split at h
  · rename_i i hi
    split at h
    · rename_i z hz
      split at h
      · rename_i hc; cases h; exact ⟨i, z, hi, hz, hc.1, hc.2, rfl, rfl⟩
      · cases h
    · cases h
  · cases h

section
variable {E : Env} {V : Vu} {hp : List (Nat × HB)} {tk : List (Nat × Option Tok)} {w : World}

theorem HRel.tokNil (h : HRel E V hp tk w) (e sz : Nat) : HRel E (V.tok V.nx 0 (.slice none 0 0) 0 0) hp ((V.nx, some ⟨e, sz, 0⟩) :: tk) w ∧ V.Le (V.tok V.nx 0 (.slice none 0 0) 0 0) w w := by
  have hle := tok_le (V := V) (g := 0) (m := 0) (n := 0) (v := .slice none 0 0) (w := w) (w' := w) (.inl rfl) (fun b o hs => rfl)
  have hS : ∀ b o, (V.tok V.nx 0 (.slice none 0 0) 0 0).S b o → V.S b o := fun b o hs => by
    rcases hs with hs | ⟨-, hs⟩
    · exact hs
    · omega
  refine ⟨⟨h.ext, h.le0.trans hle, fun b o hs => h.sz b o (hS b o hs), fun b o hs => h.sub b o (hS b o hs), fun j B hj => ?_, h.inj, fun j B hj => ⟨(h.new j B hj).1, fun o hs => (h.new j B hj).2 o (hS _ _ hs)⟩, ?_, ?_⟩, hle⟩
  · obtain ⟨h1, o, ho, hB⟩ := h.own j B hj
    exact ⟨Nat.lt_of_lt_of_le h1 hle.nx, o, ho, hB.mono hle⟩
  · intro j T hj
    rw [lk_cons] at hj
    split at hj
    · rename_i e1; subst e1; cases hj
      refine ⟨Nat.lt_of_lt_of_le (Nat.lt_succ_self _) (Nat.le_max_right _ _), tok_cu.symm, [], ?_, ?_⟩
      · rw [tok_κ]; exact World.ownsRow_nil _ _ _ _
      · intro g' hg'; rw [tok_κ] at hg'; cases hg'
    · rename_i e1
      have e2 : j ≠ V.nx := fun h => e1 h.symm
      obtain ⟨h1, hcu, xs, hown, hg2⟩ := h.tok j T hj
      rw [tok_κ' e2]
      exact ⟨Nat.lt_of_lt_of_le h1 hle.nx, by rw [hcu]; show _ = if j = V.nx then 0 else V.cu j; rw [if_neg e2], xs, hown, fun g' hg' => ⟨(hg2 g' hg').1, fun o hs => (hg2 g' hg').2.1 o (hS _ _ hs), (hg2 g' hg').2.2⟩⟩
  · intro j k T U g' hj hk ej ek
    rw [lk_cons] at hj hk
    split at hj
    · rename_i e1; subst e1; cases hj; rw [tok_κ] at ej; cases ej
    · split at hk
      · rename_i e1; subst e1; cases hk; rw [tok_κ] at ek; cases ek
      · rename_i e1 e2
        rw [tok_κ' (fun h => e1 h.symm)] at ej
        rw [tok_κ' (fun h => e2 h.symm)] at ek
        exact h.tki j k T U g' hj hk ej ek

theorem app_nil_rel (e sz : Nat) : (CA.app V.nx sz []).rel (V.tok V.nx 0 (.slice none 0 0) 0 0) w (.slice none 0 0) :=
  ⟨Nat.lt_of_lt_of_le (Nat.lt_succ_self _) (Nat.le_max_right _ _), Nat.zero_le _, by rw [List.length_nil, tok_κ],
    .sl sz [] none 0 0 0 (fun _ _ => undef) (Nat.le_refl _) (fun h => absurd rfl h) (fun i e h => by simp at h) (fun i e j c h => by simp at h) (fun i e j c h => by simp at h) (fun i e j c h => by simp at h)⟩

end

section
variable {E : Env} {st : St} {ro : Option Nat} {n : Nat} {Q : Exit → Act → World → Prop} {c : Code}

/-- A nil slice in a slot gets a name, that it may be appended to. -/
theorem XC.adoptT {t : Nat} (e sz : Nat) (h : lk st.tm t = some (TVv (.slice none 0 0))) (k : XC E ro n Q c ⟨(t, .v (.one (.app st.nx sz []))) :: st.tm, st.hp, (st.nx, some ⟨e, sz, 0⟩) :: st.tk, st.nx + 1, st.nt, st.df⟩) : XC E ro n Q c st := by
  intro V a w hr
  obtain ⟨H, L⟩ := hr.h.tokNil e sz
  refine k (V.tok V.nx 0 (.slice none 0 0) 0 0) a w ⟨by dsimp only; rw [← hr.nx]; exact H, ?_, hr.nt, hr.df.le L, fun t' x hx => ?_⟩
  · show max V.nx (V.nx + 1) = st.nx + 1; rw [hr.nx]; omega
  · dsimp only at hx; rw [lk_cons] at hx
    split at hx
    · rename_i e1; subst e1; cases hx
      have := val_of (hr.tm _ _ h)
      rw [this, ← hr.nx]
      exact app_nil_rel e sz
    · exact (hr.tm t' x hx).mono L

/-- The same for a cell. -/
theorem XC.adoptC {i off : Nat} {T : TypeId} {xs : List CA} (e sz : Nat) (hi : lk st.hp i = some (.cells T xs)) (hx : xs[off]? = some (.d (.v (.slice none 0 0)))) (k : XC E ro n Q c ⟨st.tm, (i, .cells T (xs.set off (.app st.nx sz []))) :: st.hp, (st.nx, some ⟨e, sz, 0⟩) :: st.tk, st.nx + 1, st.nt, st.df⟩) : XC E ro n Q c st := by
  intro V a w hr
  obtain ⟨H, L⟩ := hr.h.tokNil e sz
  have hnx : (V.tok V.nx 0 (.slice none 0 0) 0 0).nx = st.nx + 1 := by show max V.nx (V.nx + 1) = _; rw [hr.nx]; omega
  have hl : ∀ (A : HB) j, j ≠ i → lk ((i, A) :: st.hp) j = lk st.hp j := fun A j hj => by rw [lk_cons, if_neg (fun h => hj h.symm)]
  obtain ⟨hb, o, ho, vs, hvo, hvs⟩ := H.own i _ hi
  have hcell : (xs[off]?).isSome := by rw [hx]; rfl
  obtain ⟨u, hu, hur⟩ := hvs.2 off _ hx
  have hu0 : u = .slice none 0 0 := by cases hur; rfl
  refine k _ a w ⟨?_, hnx, hr.nt, hr.df.le L, fun t' x hx => (hr.tm t' x hx).mono L⟩
  have H' := H
  rw [hr.nx] at H'
  refine ⟨H.ext, H.le0, H.sz, H.sub, ?_, ?_, ?_, ?_, ?_⟩
  · intro j B hj
    dsimp only at hj
    by_cases e1 : j = i
    · subst e1
      rw [lk_cons, if_pos rfl] at hj; cases hj
      refine ⟨hb, o, ho, vs, hvo, by rw [List.length_set]; exact hvs.1, fun m y hy => ?_⟩
      rw [List.getElem?_set] at hy
      split at hy
      · rename_i e2; subst e2
        split at hy
        · cases hy; exact ⟨u, hu, by rw [hu0, ← hr.nx]; exact app_nil_rel e sz⟩
        · cases hy
      · exact hvs.2 m y hy
    · rw [hl _ j e1] at hj; exact H.own j B hj
  · intro j m A B hj hm e1
    dsimp only at hj hm
    rw [lk_cons] at hj hm
    split at hj <;> split at hm
    · rename_i a1 a2; exact a1.symm.trans a2
    · rename_i a1 a2; subst a1; exact H.inj _ _ _ _ hi hm e1
    · rename_i a1 a2; subst a2; exact H.inj _ _ _ _ hj hi e1
    · exact H.inj _ _ _ _ hj hm e1
  · intro j B hj
    dsimp only at hj
    rw [lk_cons] at hj
    split at hj
    · rename_i a1; subst a1; exact H.new _ _ hi
    · exact H.new _ _ hj
  · intro j T' hj
    rw [← hr.nx] at hj
    obtain ⟨b1, b2, ys, b3, b4⟩ := H.tok j T' hj
    refine ⟨b1, b2, ys, b3, fun g' hg' => ⟨(b4 g' hg').1, (b4 g' hg').2.1, fun m B hm => ?_⟩⟩
    dsimp only at hm
    rw [lk_cons] at hm
    split at hm
    · rename_i a1; subst a1; exact (b4 g' hg').2.2 _ _ hi
    · exact (b4 g' hg').2.2 _ _ hm
  · intro j m T' U g' hj hm
    rw [← hr.nx] at hj hm
    exact H.tki j m T' U g' hj hm
end

section
variable {E : Env} {st : St} {d : Nat} {ty : TypeId} {pos : String} {af : Array Edge} {g : Option (Nat × Bool)}

def zeroRow (zs : List Value) (len : Nat) : List CA := (List.range (len * zs.length)).map fun k => .d (.v (zs.getD (k % zs.length) undef))
def rowPlaces (sz len : Nat) : List (Nat × Nat) := (List.range len).map fun i => (i * sz, sz)

theorem CSubs.append {xs ys : List CA} {cs ds : List C} (h : CSubs xs cs) (k : CSubs ys ds) : CSubs (xs ++ ys) (cs ++ ds) := by
  induction h with
  | nil => exact k
  | cons h t ih => exact .cons h ih

theorem build_run {t e sz len : Nat} {zs : List Value} {parts : Array (Nat × Operand)} {avs : List (Nat × AV)} {ys : List CA} (es : List (List C)) (ht : tySlice E.P t = some (e, sz)) (hze : tyZero E.P e = some zs) (hzl : zs.length = sz) (hz : zs.all (·.oneCell') = true)
    (hlen : len * sz ≤ 16777216) (hn : parts.toList.length = avs.length)
    (hp : ∀ (j i : Nat) (x : AV), avs[j]? = some (i, x) → ∃ o, parts.toList[j]? = some (i, o) ∧ ev st.tm o = some (.v x)) (hf : fillL (rowPlaces sz len) (zeroRow zs len) avs = some ys)
    (hs : CSubs ys es.flatten) (hel : ∀ x ∈ es, x.length = sz) (hen : es.length = len) {V : Vu} {a : Act} {w : World} (hr : Rel E V st a w) (dd : Option Tmp) :
    ∃ us : Array Value, (execOp a.eval ⟨dd, .buildSlice t len parts, ty, pos, af, g⟩).run E.P w = .ok (.value (.slice (some ⟨w.heap.size, 0, none⟩) len len)) (w.alloc (.cells us e)) ∧ us.size = len * sz ∧ ∀ (k : Nat) (c : C), es.flatten[k]? = some c → ∃ u, us[k]? = some u ∧ Reads V.S w c u := by
  obtain ⟨hu, i0, hi0, hsz⟩ := tySlice_spec ht
  obtain ⟨z, hz1, hz2⟩ := tyZero_spec hze
  have hrel0 : rels V w (zeroRow zs len) ((Array.range (len * sz)).map fun k => zs.toArray[k % zs.toArray.size]!) := by
    refine ⟨by simp [zeroRow, hzl], fun k x hx => ?_⟩
    simp only [zeroRow, List.getElem?_map] at hx
    cases hk : (List.range (len * zs.length))[k]? with
    | none => rw [hk] at hx; cases hx
    | some k' =>
      rw [hk] at hx
      cases hx
      obtain ⟨hlt, rfl⟩ := List.getElem?_eq_some_iff.1 hk
      simp at hlt
      have hpos : 0 < zs.length := by rcases Nat.eq_zero_or_pos zs.length with h0 | h0; (· rw [h0] at hlt; simp at hlt); exact h0
      have hm : k % zs.length < zs.length := Nat.mod_lt _ hpos
      simp only [List.getElem_range]
      refine ⟨zs.getD (k % zs.length) undef, ?_, Reads.v _ ?_⟩
      · rw [← hzl]; simp [hlt, hm]
      · simp [hm]; exact List.all_eq_true.1 hz _ (List.getElem_mem hm)
  obtain ⟨us, h2, h3⟩ := fill_rel (place := fun i => some (i * sz, sz)) (pl := rowPlaces sz len) (fun i p h => by
    simp only [rowPlaces, List.getElem?_map] at h
    cases hk : (List.range len)[i]? with
    | none => rw [hk] at h; cases h
    | some k' => rw [hk] at h; cases h; obtain ⟨_, rfl⟩ := List.getElem?_eq_some_iff.1 hk; simp) avs (parts.toList.map fun p => (p.1, a.eval p.2)) _ ys _ hrel0 (by simpa using hn) (fun j i x hx => by
      obtain ⟨o, h4, h5⟩ := hp j i x hx
      exact ⟨a.eval o, by rw [List.getElem?_map, h4]; rfl, hr.ev h5⟩) hf
  have hrun : (execOp a.eval ⟨dd, .buildSlice t len parts, ty, pos, af, g⟩).run E.P w = .ok (.value (.slice (some ⟨w.heap.size, 0, none⟩) len len)) (w.alloc (.cells us e)) := by
    have hgt : ¬ (len * sz > 2 ^ 24) := by omega
    have e1 : (parts.map fun (x : Nat × Operand) => (x.1, a.eval x.2)).toList = parts.toList.map fun p => (p.1, a.eval p.2) := by simp
    by_cases h0 : len * sz = 0
    · have e0 : ∀ f : Nat → Value, (Array.range 0).map f = #[] := fun f => by apply Array.ext <;> simp
      rw [h0, e0] at h2
      simp only [execOp, Instr.buildSlice, Sem.run_bind, run_underlying hu, Result.andThen_ok, sizeOf, typeInfo, program, Sem.run, hi0, Sem.run_pure, hsz, if_neg hgt, h0, if_true, e0]
      simp [h2, newRow]
    · simp only [execOp, Instr.buildSlice, Sem.run_bind, run_underlying hu, Result.andThen_ok, sizeOf, typeInfo, program, Sem.run, hi0, Sem.run_pure, hsz, if_neg hgt, if_neg h0, hz1, hz2]
      simp at h2
      simp [h2, newRow]
  refine ⟨us, hrun, by rw [h3.1, hs.len, flat_len es hel, hen], fun k c hk => ?_⟩
  obtain ⟨x, hx1, hx2⟩ := hs.get k c hk
  obtain ⟨u, hu1, hu2⟩ := h3.2 k x hx1
  exact ⟨u, hu1, hx2.reads hu2⟩

theorem XO.buildSlice {t e sz len : Nat} {zs : List Value} {parts : Array (Nat × Operand)} {avs : List (Nat × AV)} {ys : List CA} (es : List (List C)) (ht : tySlice E.P t = some (e, sz)) (hze : tyZero E.P e = some zs) (hzl : zs.length = sz) (hz : zs.all (·.oneCell') = true)
    (hpos : 0 < sz) (hlen : len * sz ≤ 16777216) (hn : parts.toList.length = avs.length)
    (hp : ∀ (j i : Nat) (x : AV), avs[j]? = some (i, x) → ∃ o, parts.toList[j]? = some (i, o) ∧ ev st.tm o = some (.v x)) (hf : fillL (rowPlaces sz len) (zeroRow zs len) avs = some ys)
    (hs : CSubs ys es.flatten) (hel : ∀ x ∈ es, x.length = sz) (hen : es.length = len) (hd : d < st.nt) :
    XO E ⟨some d, .buildSlice t len parts, ty, pos, af, g⟩ st ⟨(d, .v (.one (.app st.nx sz es))) :: st.tm, st.hp, (st.nx, some ⟨e, sz, es.length⟩) :: st.tk, st.nx + 1, st.nt, st.df⟩ := by
  intro V a w hr ro n K Q hK
  refine ⟨fun _ _ => trivial, ?_⟩
  rw [Oper.semAt_eq _ _ _ (by intro c h; cases h)]
  obtain ⟨us, hrun, husz, hcells⟩ := build_run (pos := pos) (ty := ty) (af := af) (g := g) es ht hze hzl hz hlen hn hp hf hs hel hen hr (some d)
  rw [hrun]
  show K _ _
  have hx : ExtF w (w.alloc (.cells us e)) := ⟨rfl, rfl, rfl, by simp, fun k hk _ => Below.heap_alloc w _ k hk⟩
  obtain ⟨H, L⟩ := hr.h.tokNew (w' := w.alloc (.cells us e)) (i := V.nx) (n := es.length) (g := w.heap.size) (e := e) (sz := sz) (cap := len) (cur := us) (.inl rfl) hx (Nat.le_refl _) (heap_alloc_new w _) husz (Nat.le_of_eq hen) (by
    unfold maxLen
    have := Nat.le_mul_of_pos_right len hpos; omega)
  have h1 : Rel E (V.tok V.nx es.length (.slice (some ⟨w.heap.size, 0, none⟩) es.length len) w.heap.size (es.length * sz)) ⟨st.tm, st.hp, (st.nx, some ⟨e, sz, es.length⟩) :: st.tk, st.nx + 1, st.nt, st.df⟩ a (w.alloc (.cells us e)) :=
    ⟨by dsimp only; rw [← hr.nx]; exact H, by show max V.nx (V.nx + 1) = st.nx + 1; rw [hr.nx]; omega, hr.nt, hr.df.le L, fun t x hx' => (hr.tm t x hx').mono L⟩
  refine hK _ _ _ (h1.put (d := d) hd ?_)
  refine ⟨?_, ?_, ?_, ?_⟩
  · rw [← hr.nx]; exact Nat.lt_of_lt_of_le (Nat.lt_succ_self _) (Nat.le_max_right _ _)
  · rw [← hr.nx, tok_cu]; exact Nat.le_refl _
  · rw [← hr.nx, tok_κ, hen]
  · have e9 : (Value.slice (some ⟨w.heap.size, 0, none⟩) len len) = .slice (some ⟨w.heap.size, 0, none⟩) es.length len := by rw [hen]
    rw [e9]
    refine Reads.of_row (us := fun k => us.getD k undef) hel (Nat.le_of_eq hen) (fun k c hk => ?_)
    obtain ⟨u, hu1, hu2⟩ := hcells k c hk
    have hklt : k < es.length * sz := by have := (List.getElem?_eq_some_iff.1 hk).1; rwa [flat_len es hel] at this
    have e1 : us.getD k undef = u := by simp [hu1]
    rw [e1, Nat.zero_add]
    exact ⟨(cell_of_own (heap_alloc_new w _) k).trans hu1, .inr ⟨rfl, hklt⟩, hu2.mono L.S L.cell⟩

/-- A slice literal of one element. -/
theorem XO.lit1 {t e sz : Nat} {zs : List Value} {o1 : Operand} {x1 : AV} {ys : List CA} {c1 : List C} (ht : tySlice E.P t = some (e, sz)) (hze : tyZero E.P e = some zs) (hzl : zs.length = sz) (hz : zs.all (·.oneCell') = true) (hpos : 0 < sz) (hlen : 1 * sz ≤ 16777216)
    (h1 : ev st.tm o1 = some (.v x1)) (hf : fillL (rowPlaces sz 1) (zeroRow zs 1) [(0, x1)] = some ys) (hs : CSubs ys c1) (hel : c1.length = sz) (hd : d < st.nt) :
    XO E ⟨some d, .buildSlice t 1 #[(0, o1)], ty, pos, af, g⟩ st ⟨(d, .v (.one (.app st.nx sz [c1]))) :: st.tm, st.hp, (st.nx, some ⟨e, sz, [c1].length⟩) :: st.tk, st.nx + 1, st.nt, st.df⟩ :=
  XO.buildSlice (avs := [(0, x1)]) [c1] ht hze hzl hz hpos hlen rfl (fun j i x hx => by
    match j, hx with
    | 0, hx => cases hx; exact ⟨o1, rfl, h1⟩) hf (by simpa using hs) (fun x hx => by simp at hx; subst hx; exact hel) rfl hd
theorem XO.lit0 {t e sz : Nat} {zs : List Value} (ht : tySlice E.P t = some (e, sz)) (hze : tyZero E.P e = some zs) (hzl : zs.length = sz) (hz : zs.all (·.oneCell') = true) (hpos : 0 < sz) (hd : d < st.nt) :
    XO E ⟨some d, .buildSlice t 0 #[], ty, pos, af, g⟩ st ⟨(d, .v (.one (.app st.nx sz []))) :: st.tm, st.hp, (st.nx, some ⟨e, sz, 0⟩) :: st.tk, st.nx + 1, st.nt, st.df⟩ :=
  XO.buildSlice (avs := []) (ys := []) [] ht hze hzl hz hpos (by simp) rfl (fun j i x hx => by simp at hx) (by simp [fillL, zeroRow]) .nil (fun x hx => by simp at hx) rfl hd
theorem XO.lit2 {t e sz : Nat} {zs : List Value} {o1 o2 : Operand} {x1 x2 : AV} {ys : List CA} {c1 c2 : List C} (ht : tySlice E.P t = some (e, sz)) (hze : tyZero E.P e = some zs) (hzl : zs.length = sz) (hz : zs.all (·.oneCell') = true) (hpos : 0 < sz) (hlen : 2 * sz ≤ 16777216)
    (h1 : ev st.tm o1 = some (.v x1)) (h2 : ev st.tm o2 = some (.v x2)) (hf : fillL (rowPlaces sz 2) (zeroRow zs 2) [(0, x1), (1, x2)] = some ys) (hs1 : CSubs (ys.take sz) c1) (hs2 : CSubs (ys.drop sz) c2) (hel : c1.length = sz) (hel2 : c2.length = sz) (hd : d < st.nt) :
    XO E ⟨some d, .buildSlice t 2 #[(0, o1), (1, o2)], ty, pos, af, g⟩ st ⟨(d, .v (.one (.app st.nx sz [c1, c2]))) :: st.tm, st.hp, (st.nx, some ⟨e, sz, [c1, c2].length⟩) :: st.tk, st.nx + 1, st.nt, st.df⟩ :=
  XO.buildSlice (avs := [(0, x1), (1, x2)]) [c1, c2] ht hze hzl hz hpos hlen rfl (fun j i x hx => by
    match j, hx with
    | 0, hx => cases hx; exact ⟨o1, rfl, h1⟩
    | 1, hx => cases hx; exact ⟨o2, rfl, h2⟩) hf (by have := hs1.append hs2; simpa using this) (fun x hx => by simp at hx; rcases hx with rfl | rfl <;> assumption) rfl hd

theorem run_append0 {P : Program} {w : World} {t ty e : TypeId} {i : TypeInfo} (ht : P.underlying t = some (.slice e)) (hi : P.info? e = some i) (a b : Option Addr) (n cap c : Nat) (hn : n ≤ cap) :
    (Builtin.append_ #[t, t] ty #[.slice a n cap, .slice b 0 c]).run P w = .ok (.slice a n cap) w := by
  cases a <;> cases b <;> simp [Builtin.append_, run_underlying ht, sizeOf, typeInfo, hi, Builtin.lenOf, Builtin.firstCells, loadCells, loadCellsFrom, storeCells, hn]

/-- What append makes of a row of the call's own. -/
theorem append_run {V : Vu} {hp : List (Nat × HB)} {tk : List (Nat × Option Tok)} {w : World} (h : HRel E V hp tk w) {t ty e sz by_ i : Nat} {v x : Value} {es es2 : List (List C)} (ht : tySlice E.P t = some (e, sz)) (hte : tyElem E.P e = some (sz, by_))
    (hi : (lk tk i = some (some ⟨e, sz, es.length⟩) ∧ v = V.κ i es.length) ∨ (i = V.nx ∧ es = [] ∧ v = .slice none 0 0)) (hv : Reads V.S w (.sl sz es) v) (hx : Reads V.S w (.sl sz es2) x) (hm : es.length + es2.length ≤ 1000000000) (hb : by_ ≤ 100000) (h2 : es2 ≠ []) :
    ∃ v' w' gb m V', (Builtin.append_ #[t, t] ty #[v, x]).run E.P w = .ok v' w' ∧ V' = V.tok i (es ++ es2).length v' gb m ∧ HRel E V' hp ((i, some ⟨e, sz, (es ++ es2).length⟩) :: tk) w' ∧ V.Le V' w w' ∧ Reads V'.S w' (.sl sz (es ++ es2)) v' := by
  obtain ⟨hu, i1, hi1, hs1⟩ := tySlice_spec ht
  obtain ⟨i0, z, hi0, hz, hzs, hpos, hsz, hby⟩ := tyElem_spec hte
  have : i1 = i0 := Option.some.inj (hi1.symm.trans hi0)
  subst this
  obtain ⟨hl1, a1, cap1, b1, off1, us1, rfl, hc1, ha1, hus1, hk1⟩ := hv.row
  obtain ⟨hl2, a2, cap2, b2, off2, us2, rfl, hc2, ha2, hus2, hk2⟩ := hx.row
  have ha2' := ha2 h2
  subst ha2'
  have hall : ∀ e ∈ es ++ es2, e.length = sz := fun e he => by rcases List.mem_append.1 he with h | h; exact hl1 e h; exact hl2 e h
  have hlen2 : 0 < es2.length := List.length_pos_iff.2 h2
  have hnews : ∀ j u, us2[j]? = some u → w.cell? ((⟨b2, off2, none⟩ : Addr).add j) = some u := fun j u hj => by
    have hlt : j < es2.flatten.length := by rw [flat_len es2 hl2, ← hus2]; exact (List.getElem?_eq_some_iff.1 hj).1
    obtain ⟨u', h3, h4, -⟩ := hk2 j _ (List.getElem?_eq_getElem hlt)
    rw [hj] at h3; cases h3
    rw [addr_add]; exact h4
  have hmax : es.length + es2.length ≤ maxLen := by unfold maxLen; omega
  have hbytes : (es.length + es2.length) * i1.bytes ≤ 140737488355328 := by
    rw [hby]
    calc (es.length + es2.length) * by_ ≤ 1000000000 * 100000 := Nat.mul_le_mul hm hb
      _ ≤ _ := by omega
  have happ : (es ++ es2).length = es.length + es2.length := List.length_append
  -- what the new row holds, read as data
  have fin : ∀ (V' : Vu) (w' : World) (g' cap' : Nat) (olds : List Value), V.Le V' w w' → olds.length = es.length * sz → (∀ (k : Nat) (c : C), es.flatten[k]? = some c → ∃ u, olds[k]? = some u ∧ Reads V.S w c u) →
      (∀ (k : Nat) (u : Value), (olds ++ us2)[k]? = some u → w'.cell? ⟨g', k, none⟩ = some u) → (∀ o, o < (es ++ es2).length * sz → V'.S g' o) → (es ++ es2).length ≤ cap' →
      Reads V'.S w' (.sl sz (es ++ es2)) (.slice (some ⟨g', 0, none⟩) (es ++ es2).length cap') := by
    intro V' w' g' cap' olds hL hlo ho hcell hS' hcap
    refine Reads.of_row (us := fun k => (olds ++ us2).getD k undef) hall hcap (fun k c hk => ?_)
    have hklt : k < (es ++ es2).length * sz := by have := (List.getElem?_eq_some_iff.1 hk).1; rwa [flat_len _ hall] at this
    have hget : ∃ u, (olds ++ us2)[k]? = some u ∧ Reads V.S w c u := by
      rw [List.flatten_append] at hk
      by_cases hlt : k < es.flatten.length
      · rw [List.getElem?_append_left hlt] at hk
        obtain ⟨u, h3, h4⟩ := ho k c hk
        exact ⟨u, by rw [List.getElem?_append_left (by rw [hlo, ← flat_len es hl1]; exact hlt)]; exact h3, h4⟩
      · rw [List.getElem?_append_right (by omega)] at hk
        obtain ⟨u, h3, -, -, h4⟩ := hk2 _ c hk
        refine ⟨u, ?_, h4⟩
        rw [List.getElem?_append_right (by rw [hlo, ← flat_len es hl1]; omega), hlo, ← flat_len es hl1]
        exact h3
    obtain ⟨u, h3, h4⟩ := hget
    have e1 : (olds ++ us2).getD k undef = u := by rw [List.getD_eq_getElem?_getD, h3]; rfl
    rw [e1, Nat.zero_add]
    exact ⟨hcell k u h3, hS' k hklt, h4.mono hL.S hL.cell⟩
  -- a row laid anew
  have anew : ∀ (olds : List Value) (old : Nat) (hi' : i = V.nx ∨ (i < V.nx ∧ V.cu i < (es ++ es2).length)), olds.length = es.length * sz → (∀ (k : Nat) (c : C), es.flatten[k]? = some c → ∃ u, olds[k]? = some u ∧ Reads V.S w c u) →
      (Builtin.append_ #[t, t] ty #[.slice a1 es.length cap1, .slice (some ⟨b2, off2, none⟩) es2.length cap2]).run E.P w = .ok (.slice (some ⟨w.heap.size, 0, none⟩) (es.length + es2.length) (grownCap w (es.length + es2.length) old e)) (w.drew.alloc (.cells (olds.toArray ++ us2.toArray ++ Builtin.zeroCells z.cells (grownCap w (es.length + es2.length) old e - (es.length + es2.length))) e)) →
      ∃ v' w' gb m V', (Builtin.append_ #[t, t] ty #[.slice a1 es.length cap1, .slice (some ⟨b2, off2, none⟩) es2.length cap2]).run E.P w = .ok v' w' ∧ V' = V.tok i (es ++ es2).length v' gb m ∧ HRel E V' hp ((i, some ⟨e, sz, (es ++ es2).length⟩) :: tk) w' ∧ V.Le V' w w' ∧ Reads V'.S w' (.sl sz (es ++ es2)) v' := by
    intro olds old hi' hlo ho hrun
    have hge := grownCap_ge w (es.length + es2.length) old e
    have hcm := grownCap_le_maxLen w (es.length + es2.length) old e hmax
    rw [← happ] at hrun hge hcm
    generalize grownCap w (es ++ es2).length old e = cap' at hrun hge hcm
    have hx' : ExtF w (w.drew.alloc (.cells (olds.toArray ++ us2.toArray ++ Builtin.zeroCells z.cells (cap' - (es ++ es2).length)) e)) := ⟨rfl, rfl, rfl, by simp, fun k hk _ => Below.heap_alloc w.drew _ k hk⟩
    have hnew : (w.drew.alloc (.cells (olds.toArray ++ us2.toArray ++ Builtin.zeroCells z.cells (cap' - (es ++ es2).length)) e)).heap[w.heap.size]? = some (.cells (olds.toArray ++ us2.toArray ++ Builtin.zeroCells z.cells (cap' - (es ++ es2).length)) e (0, 0)) := heap_alloc_new w.drew _
    have hcs : (olds.toArray ++ us2.toArray ++ Builtin.zeroCells z.cells (cap' - (es ++ es2).length)).size = cap' * sz := by
      simp only [Array.size_append, List.size_toArray, size_zeroCells, hzs, hlo, hus2, ← Nat.add_mul]
      rw [happ] at hge ⊢
      congr 1; omega
    obtain ⟨H, L⟩ := h.tokNew (i := i) (n := (es ++ es2).length) (g := w.heap.size) (e := e) (sz := sz) (cap := cap') hi' hx' (Nat.le_refl _) hnew hcs hge hcm
    refine ⟨_, _, w.heap.size, (es ++ es2).length * sz, _, hrun, rfl, H, L, ?_⟩
    refine fin _ _ _ _ olds L hlo ho (fun k u hk => ?_) (fun o ho' => .inr ⟨rfl, ho'⟩) hge
    rw [cell_of_own hnew]
    rw [← Array.getElem?_toList, Array.toList_append, Array.toList_append, List.getElem?_append_left (by have := (List.getElem?_eq_some_iff.1 hk).1; simpa using this)]
    simpa using hk
  have nilcase : ∀ (hi' : i = V.nx ∨ (i < V.nx ∧ V.cu i < (es ++ es2).length)), es = [] → a1 = none → cap1 = 0 → ∃ v' w' gb m V', (Builtin.append_ #[t, t] ty #[.slice a1 es.length cap1, .slice (some ⟨b2, off2, none⟩) es2.length cap2]).run E.P w = .ok v' w' ∧ V' = V.tok i (es ++ es2).length v' gb m ∧ HRel E V' hp ((i, some ⟨e, sz, (es ++ es2).length⟩) :: tk) w' ∧ V.Le V' w w' ∧ Reads V'.S w' (.sl sz (es ++ es2)) v' := by
    intro hi' he ha hc
    refine anew [] 0 hi' (by rw [he]; simp) (fun k c hk => by rw [he] at hk; simp at hk) ?_
    subst he; subst ha; subst hc
    have hr := run_append_nil (P := E.P) w t ty e i1 z hu hi1 hz ⟨b2, off2, none⟩ es2.length cap2 us2 (by rw [hsz]; exact hus2) hnews hlen2 (by simp at hm; omega) (by have := hbytes; simp at this; omega)
    simpa using hr
  rcases hi with ⟨hi, hvk⟩ | ⟨hi, he, hvk⟩
  · obtain ⟨h1, hcu, xs, hown, hg2⟩ := h.tok i _ hi
    dsimp only at hcu hown hg2
    rw [← hvk] at hown
    have hi' : i = V.nx ∨ (i < V.nx ∧ V.cu i < (es ++ es2).length) := .inr ⟨h1, by rw [← hcu, happ]; omega⟩
    rcases hown.2 with ⟨hv0, hn0⟩ | ⟨gg, cap, cur, hvv, -, hcells, hncap, hcm, hcs, htake⟩
    · have he : es = [] := List.eq_nil_of_length_eq_zero hn0
      subst he
      injection hv0 with e1 e2 e3
      exact nilcase hi' rfl e1 e3
    · injection hvv with e1 e2 e3
      subst e1; subst e3
      have hpre : ∀ (k : Nat) (c : C), es.flatten[k]? = some c → ∃ u, xs[k]? = some u ∧ Reads V.S w c u := fun k c hk => by
        obtain ⟨u, h3, h4, -, h5⟩ := hk1 k c hk
        have hne : es ≠ [] := fun e' => by subst e'; simp at hk
        have := ha1 hne
        injection this with this
        injection this with e4 e5
        subst e4
        rw [← e5, Nat.zero_add, cell_of_own hcells] at h4
        have hlt : k < es.length * sz := by have := (List.getElem?_eq_some_iff.1 hk).1; rwa [flat_len _ hl1] at this
        refine ⟨u, ?_, h5⟩
        rw [← htake, List.getElem?_take_of_lt hlt]; simpa using h4
      by_cases hroom : es.length + es2.length ≤ cap1
      · have hfit : es.length * i1.size + us2.length ≤ cur.size := by rw [hus2, hcs, hsz, ← Nat.add_mul]; exact Nat.mul_le_mul_right _ hroom
        have h1c : ∀ u ∈ us2, u.oneCell' = true := fun u hu' => by
          obtain ⟨k, hk⟩ := List.getElem?_of_mem hu'
          have hlt : k < es2.flatten.length := by rw [flat_len es2 hl2, ← hus2]; exact (List.getElem?_eq_some_iff.1 hk).1
          obtain ⟨u', h3, -, -, h4⟩ := hk2 k _ (List.getElem?_eq_getElem hlt)
          rw [hk] at h3; cases h3
          exact h4.one
        have hr := run_append_room (P := E.P) w t ty e i1 hu hi1 gg es.length cap1 cur hcells ⟨b2, off2, none⟩ es2.length cap2 us2 (by rw [hsz]; exact hus2) hnews h1c hroom hfit
        rw [hsz] at hr hfit
        have hcs' : (cur.toList.take (es.length * sz) ++ us2 ++ cur.toList.drop (es.length * sz + us2.length)).toArray.size = cap1 * sz := by
          simp only [List.size_toArray, List.length_append, List.length_take, List.length_drop, Array.length_toList]; omega
        have hxl : xs.length = es.length * sz := hown.1
        obtain ⟨H, L⟩ := h.tokRoom (n := (es ++ es2).length) (cur' := (cur.toList.take (es.length * sz) ++ us2 ++ cur.toList.drop (es.length * sz + us2.length)).toArray) hi hvk.symm hcells (by rw [happ]; omega) (by rw [happ]; exact hroom) hcm hcs' (fun o ho => by
          have ho' : o < es.length * sz := ho
          rw [List.append_assoc, List.getElem?_toArray, List.getElem?_append_left (by rw [List.length_take]; have e8 : cur.toList.length = cur.size := Array.length_toList; omega), List.getElem?_take_of_lt ho]; simp)
        rw [← happ] at hr
        refine ⟨_, _, gg, (es ++ es2).length * sz, _, hr, rfl, H, L, ?_⟩
        refine fin _ _ _ _ xs L hxl hpre (fun k u hk => ?_) (fun o ho' => .inr ⟨rfl, ho'⟩) (by rw [happ]; exact hroom)
        rw [cell_of_own (setRow_heap w gg cur _ e (0, 0) hcells), htake]
        rw [List.getElem?_toArray, List.getElem?_append_left (List.getElem?_eq_some_iff.1 hk).1]
        exact hk
      · have holds : ∀ j u, xs[j]? = some u → w.cell? ((⟨gg, 0, none⟩ : Addr).add j) = some u := hown.cells (g := gg) rfl
        have hr := run_append_grow (P := E.P) w t ty e i1 z hu hi1 hz ⟨gg, 0, none⟩ es.length cap1 xs (by rw [hsz]; exact hown.1) holds ⟨b2, off2, none⟩ es2.length cap2 us2 (by rw [hsz]; exact hus2) hnews (by omega) (by omega) (growslice_fits (by omega) hbytes)
        exact anew xs cap1 hi' hown.1 hpre hr
  · subst he
    injection hvk with e1 e2 e3
    exact nilcase (.inl hi) rfl e1 e3

theorem XO.appendApp {t e sz by_ i : Nat} {o1 o2 : Operand} {y : CA} {es es2 : List (List C)} (ht : tySlice E.P t = some (e, sz)) (hte : tyElem E.P e = some (sz, by_)) (hb : by_ ≤ 100000)
    (h1 : ev st.tm o1 = some (.v (.one (.app i sz es)))) (hi : lk st.tk i = some (some ⟨e, sz, es.length⟩)) (h2 : ev st.tm o2 = some (.v (.one y))) (hs : SlOf y sz es2) (hm : es.length + es2.length ≤ 1000000000) (hd : d < st.nt) :
    XO E ⟨some d, .call { callee := .builtin .append, args := #[o1, o2], argTypes := #[t, t] }, ty, pos, af, g⟩ st ⟨(d, .v (.one (.app i sz (es ++ es2)))) :: st.tm, st.hp, (i, some ⟨e, sz, (es ++ es2).length⟩) :: st.tk, st.nx, st.nt, st.df⟩ := by
  intro V a w hr ro n K Q hK
  refine ⟨fun _ _ => trivial, ?_⟩
  rw [Oper.semAt_eq _ _ _ (by intro c h; cases h)]
  have r1 := hr.ev h1
  have r2 := hs.reads (hr.ev h2)
  have hexec : ∀ v' w', (Builtin.append_ #[t, t] ty #[a.eval o1, a.eval o2]).run E.P w = .ok v' w' → (execOp a.eval ⟨some d, .call { callee := .builtin .append, args := #[o1, o2], argTypes := #[t, t] }, ty, pos, af, g⟩).run E.P w = .ok (.value v') w' := fun v' w' h => by
    simp [execOp, resolve, invoke, builtin, h]
  by_cases h0 : es2 = []
  · subst h0
    obtain ⟨hu, i1, hi1, -⟩ := tySlice_spec ht
    obtain ⟨-, a1, cap1, b1, off1, us1, e1, hc1, -⟩ := r1.2.2.2.row
    obtain ⟨-, a2, cap2, b2, off2, us2, e2, -⟩ := r2.row
    have := run_append0 (w := w) (ty := ty) hu hi1 a1 a2 es.length cap1 cap2 hc1
    rw [hexec _ w (by rw [e1, e2]; exact this)]
    show K _ _
    refine hK V _ w (Rel.put (st := ⟨st.tm, st.hp, (i, some ⟨e, sz, (es ++ []).length⟩) :: st.tk, st.nx, st.nt, st.df⟩) ⟨?_, hr.nx, hr.nt, hr.df, hr.tm⟩ hd ?_)
    · have hl : ∀ j, lk ((i, some (Tok.mk e sz (es ++ []).length)) :: st.tk) j = lk st.tk j := fun j => by
        rw [lk_cons, List.append_nil]; split
        · rename_i e3; subst e3; exact hi.symm
        · rfl
      have H := hr.h
      exact ⟨H.ext, H.le0, H.sz, H.sub, H.own, H.inj, H.new, fun j T hj => H.tok j T (by rw [← hl]; exact hj), fun j k T U g' hj hk => H.tki j k T U g' (by rw [← hl]; exact hj) (by rw [← hl]; exact hk)⟩
    · rw [List.append_nil, ← e1]; exact r1
  · obtain ⟨v', w', gb, m, V', hrun, rfl, H, L, hrd⟩ := append_run (ty := ty) hr.h ht hte (.inl ⟨hi, r1.2.2.1⟩) r1.2.2.2 r2 hm hb h0
    rw [hexec v' w' hrun]
    have hlt : i < V.nx := r1.1
    have hnx : (V.tok i (es ++ es2).length v' gb m).nx = st.nx := by show max V.nx (i + 1) = st.nx; rw [← hr.nx]; omega
    refine hK _ _ w' (Rel.put (st := ⟨st.tm, st.hp, (i, some ⟨e, sz, (es ++ es2).length⟩) :: st.tk, st.nx, st.nt, st.df⟩) ⟨H, hnx, hr.nt, hr.df.le L, fun t x hx => (hr.tm t x hx).mono L⟩ hd ?_)
    exact ⟨Nat.lt_of_lt_of_le hlt L.nx, by rw [tok_cu]; exact Nat.le_refl _, by rw [tok_κ], hrd⟩

theorem XO.appendNil {t e sz by_ : Nat} {o1 o2 : Operand} {y : CA} {es2 : List (List C)} (ht : tySlice E.P t = some (e, sz)) (hte : tyElem E.P e = some (sz, by_)) (hb : by_ ≤ 100000)
    (h1 : ev st.tm o1 = some (TVv (.slice none 0 0))) (h2 : ev st.tm o2 = some (.v (.one y))) (hs : SlOf y sz es2) (hm : es2.length ≤ 1000000000) (hd : d < st.nt) :
    XO E ⟨some d, .call { callee := .builtin .append, args := #[o1, o2], argTypes := #[t, t] }, ty, pos, af, g⟩ st ⟨(d, .v (.one (.app st.nx sz es2))) :: st.tm, st.hp, (st.nx, some ⟨e, sz, es2.length⟩) :: st.tk, st.nx + 1, st.nt, st.df⟩ := by
  intro V a w hr ro n K Q hK
  refine ⟨fun _ _ => trivial, ?_⟩
  rw [Oper.semAt_eq _ _ _ (by intro c h; cases h)]
  have r1 := val_of (hr.ev h1)
  have r2 := hs.reads (hr.ev h2)
  have hexec : ∀ v' w', (Builtin.append_ #[t, t] ty #[a.eval o1, a.eval o2]).run E.P w = .ok v' w' → (execOp a.eval ⟨some d, .call { callee := .builtin .append, args := #[o1, o2], argTypes := #[t, t] }, ty, pos, af, g⟩).run E.P w = .ok (.value v') w' := fun v' w' h => by
    simp [execOp, resolve, invoke, builtin, h]
  have hnil : Reads V.S w (.sl sz []) (.slice none 0 0) := (SlOf.nil sz).reads (V := V) (Reads.v _ rfl)
  by_cases h0 : es2 = []
  · subst h0
    obtain ⟨hu, i1, hi1, -⟩ := tySlice_spec ht
    obtain ⟨-, a2, cap2, b2, off2, us2, e2, -⟩ := r2.row
    have := run_append0 (w := w) (ty := ty) hu hi1 none a2 0 0 cap2 (Nat.le_refl _)
    rw [hexec _ w (by rw [r1, e2]; exact this)]
    show K _ _
    obtain ⟨H, L⟩ := hr.h.tokNil e sz
    refine hK (V.tok V.nx 0 (.slice none 0 0) 0 0) _ w (Rel.put (st := ⟨st.tm, st.hp, (st.nx, some ⟨e, sz, 0⟩) :: st.tk, st.nx + 1, st.nt, st.df⟩) ⟨by dsimp only; rw [← hr.nx]; exact H, by show max V.nx (V.nx + 1) = st.nx + 1; rw [hr.nx]; omega, hr.nt, hr.df.le L, fun t x hx => (hr.tm t x hx).mono L⟩ hd ?_)
    rw [← hr.nx]; exact app_nil_rel e sz
  · obtain ⟨v', w', gb, m, V', hrun, rfl, H, L, hrd⟩ := append_run (ty := ty) (i := V.nx) (es := []) hr.h ht hte (.inr ⟨rfl, rfl, rfl⟩) hnil r2 (by simpa using hm) hb h0
    rw [hexec v' w' (by rw [r1]; exact hrun)]
    simp only [List.nil_append] at H L hrd
    refine hK _ _ w' (Rel.put (st := ⟨st.tm, st.hp, (st.nx, some ⟨e, sz, es2.length⟩) :: st.tk, st.nx + 1, st.nt, st.df⟩) ⟨by dsimp only; rw [← hr.nx]; exact H, by show max V.nx (V.nx + 1) = st.nx + 1; rw [hr.nx]; omega, hr.nt, hr.df.le L, fun t x hx => (hr.tm t x hx).mono L⟩ hd ?_)
    rw [← hr.nx]
    exact ⟨Nat.lt_of_lt_of_le (Nat.lt_succ_self _) (Nat.le_max_right _ _), by rw [tok_cu]; exact Nat.le_refl _, by rw [tok_κ], hrd⟩
end
end Go.Proofs.YtcapifnaceegmaaGreatDoor
