/- Aggregates and slices that are built. -/
import Derived.Test.YtkimijmiphkddaaCall
namespace Go.Proofs.Ytkimijmiphkddaa
open Go.RowKit
set_option linter.unusedSimpArgs false
set_option linter.unusedVariables false
set_option linter.unusedSectionVars false

/-- The places of the parts of an aggregate: offset and size. -/
def tyPlaces (P : Program) (t : TypeId) : Option (List (Nat × Nat)) :=
  match P.underlying t with
  | some (.struct fs) => fs.toList.mapM fun f => (P.info? f.type).map fun i => (f.offset, i.size)
  | _ => none

def IsStruct (P : Program) (t : TypeId) (pl : List (Nat × Nat)) (zs : List Value) : Prop := tyPlaces P t = some pl ∧ tyZero P t = some zs

theorem run_places {P : Program} (w : World) : ∀ (fs : List Field) (pl : List (Nat × Nat)), (fs.mapM fun f => (P.info? f.type).map fun i => (f.offset, i.size)) = some pl →
    (fs.mapM fun f => (do pure (f.offset, ← sizeOf f.type) : Sem (Nat × Nat))).run P w = .ok pl w
  | [], pl, h => by simp at h; subst h; simp
  | f :: fs, pl, h => by
    simp only [List.mapM_cons] at h
    cases hi : P.info? f.type with
    | none => simp [hi] at h
    | some i =>
      cases hr : (fs.mapM fun f => (P.info? f.type).map fun i => (f.offset, i.size)) with
      | none => rw [hr] at h; simp [hi] at h
      | some pl' =>
        rw [hr] at h
        simp [hi] at h
        subst h
        have ih := run_places (P := P) w fs pl' hr
        simp [List.mapM_cons, sizeOf, typeInfo, hi] at ih ⊢
        simp [ih]

theorem rels.setL {V : Vu} {w : World} : ∀ (ys : List CA) (us : List Value) (k off : Nat) (xs : List CA) (vs : Array Value), rels V w xs vs → us.length = ys.length → (∀ (j : Nat) (y : CA), ys[j]? = some y → ∃ u, us[j]? = some u ∧ y.rel V w u) →
    rels V w (setL xs (off + k) ys) ((us.zipIdx k).foldl (fun cs (p : Value × Nat) => cs.setIfInBounds (off + p.2) p.1) vs)
  | [], us, k, off, xs, vs, h, hu, _ => by
    have : us = [] := List.eq_nil_of_length_eq_zero (by simpa using hu)
    subst this
    simpa [Proofs.Ytkimijmiphkddaa.setL] using h
  | y :: ys, us, k, off, xs, vs, h, hu, hr => by
    match us, hu with
    | u :: us, hu =>
      obtain ⟨u', h1, h2⟩ := hr 0 y rfl
      simp at h1; subst h1
      simp only [Proofs.Ytkimijmiphkddaa.setL, List.zipIdx_cons, List.foldl_cons]
      rw [show off + k + 1 = off + (k + 1) by omega]
      exact rels.setL ys us (k + 1) off _ _ (h.set h2) (by simpa using hu) (fun j z hz => by have := hr (j + 1) z (by simpa using hz); simpa using this)

/-- Parts are laid into an aggregate. -/
def fillL (pl : List (Nat × Nat)) : List CA → List (Nat × AV) → Option (List CA)
  | xs, [] => some xs
  | xs, (i, x) :: r => match pl[i]? with
    | none => none
    | some (off, size) => cond (Nat.beq x.cells.length size && Nat.ble (off + size) xs.length) (fillL pl (setL xs off x.cells) r) none

theorem setL_length : ∀ (ys : List CA) (xs : List CA) (off : Nat), (setL xs off ys).length = xs.length
  | [], _, _ => rfl
  | y :: ys, xs, off => by simp only [setL]; rw [setL_length ys]; simp

theorem fill_rel {V : Vu} {w : World} {place : Nat → Option (Nat × Nat)} {pl : List (Nat × Nat)} (hp : ∀ i p, pl[i]? = some p → place i = some p) : ∀ (parts : List (Nat × AV)) (vals : List (Nat × Value)) (xs ys : List CA) (vs : Array Value), rels V w xs vs → vals.length = parts.length →
    (∀ (j i : Nat) (x : AV), parts[j]? = some (i, x) → ∃ v, vals[j]? = some (i, v) ∧ x.rel V w v) → fillL pl xs parts = some ys → ∃ us, Instr.fill place vs vals = some us ∧ rels V w ys us
  | [], vals, xs, ys, vs, h, hl, _, hf => by
    have : vals = [] := List.eq_nil_of_length_eq_zero (by simpa using hl)
    subst this
    cases hf
    exact ⟨vs, by simp [Instr.fill], h⟩
  | (i, x) :: parts, vals, xs, ys, vs, h, hl, hr, hf => by
    match vals, hl with
    | (i', v) :: vals, hl =>
      obtain ⟨v', h1, h2⟩ := hr 0 i x rfl
      simp at h1
      obtain ⟨rfl, rfl⟩ := h1
      simp only [fillL] at hf
      split at hf
      · cases hf
      · rename_i off size hpl
        cases hc : (Nat.beq x.cells.length size && Nat.ble (off + size) xs.length) with
        | false => rw [hc] at hf; cases hf
        | true =>
          rw [hc] at hf
          simp only [Bool.and_eq_true] at hc
          have e1 : x.cells.length = size := Nat.eq_of_beq_eq_true hc.1
          have e2 : off + size ≤ xs.length := Nat.le_of_ble_eq_true hc.2
          have hcells := h2.cells
          have hset := rels.setL x.cells v.cells.toList 0 off xs vs h (by simpa using hcells.1) (fun j y hy => by
            obtain ⟨u, hu, hy'⟩ := hcells.2 j y hy
            exact ⟨u, by simpa using hu, hy'⟩)
          obtain ⟨us, h3, h4⟩ := fill_rel hp parts vals _ ys _ hset (by simpa using hl) (fun j i' x' hx' => by have := hr (j + 1) i' x' (by simpa using hx'); simpa using this) (by simpa using hf)
          refine ⟨us, ?_, h4⟩
          have e3 : v.cells.size = size := by rw [hcells.1, e1]
          have e4 : ¬ (off + size > vs.size) := by rw [h.1]; omega
          simp only [Instr.fill, hp _ _ hpl, e3, e4, ne_eq, not_true_eq_false, decide_false, Bool.or_self, Bool.false_eq_true, if_false]
          rw [← h3]
          congr 1
          rw [← Array.foldl_toList]
          simp [Array.toList_zipIdx]

theorem zeros_rel {V : Vu} {w : World} {zs : List Value} (h1 : zs.all (·.oneCell') = true) : rels V w (zs.map fun z => .d (.v z)) zs.toArray := by
  refine ⟨by simp, fun i x hx => ?_⟩
  rw [List.getElem?_map] at hx
  cases hi : zs[i]? with
  | none => rw [hi] at hx; cases hx
  | some z' =>
    rw [hi] at hx; cases hx
    exact ⟨z', by simp [hi], Reads.v z' (List.all_eq_true.1 h1 z' (List.mem_of_getElem? hi))⟩

section
variable {E : Env} {st : St} {ty : TypeId} {pos : String} {af : Array Edge} {g : Option (Nat × Bool)} {dd : Option Tmp}

theorem RO.build {t : TypeId} {pl : List (Nat × Nat)} {zs : List Value} {parts : Array (Nat × Operand)} {avs : List (Nat × AV)} {ys : List CA} (ht : IsStruct E.P t pl zs) (hz : zs.all (·.oneCell') = true) (hn : parts.toList.length = avs.length)
    (hp : ∀ (j i : Nat) (x : AV), avs[j]? = some (i, x) → ∃ o, parts.toList[j]? = some (i, o) ∧ ev st.tm o = some (.v x)) (hf : fillL pl (zs.map fun z => .d (.v z)) avs = some ys) :
    RO E ⟨dd, .build t parts, ty, pos, af, g⟩ st (.v (.agg ys)) := by
  refine ⟨(fun _ h => nomatch h), fun V a w hr => ?_⟩
  obtain ⟨hpl, hzz⟩ := ht
  obtain ⟨z, hz1, hz2⟩ := tyZero_spec hzz
  unfold tyPlaces at hpl
  split at hpl
  · rename_i fs hfs
    have h1 := run_places (P := E.P) w fs.toList pl hpl
    obtain ⟨us, h2, h3⟩ := fill_rel (place := fun i => pl[i]?) (fun _ _ h => h) avs (parts.toList.map fun p => (p.1, a.eval p.2)) _ ys _ (zeros_rel hz (V := V) (w := w)) (by simpa using hn) (fun j i x hx => by
      obtain ⟨o, h4, h5⟩ := hp j i x hx
      exact ⟨a.eval o, by rw [List.getElem?_map, h4]; rfl, hr.ev h5⟩) hf
    refine ⟨.agg us, ?_, us, rfl, h3⟩
    have h6 : (fs.mapM fun f => (do pure (f.offset, ← sizeOf f.type) : Sem (Nat × Nat))).run E.P w = .ok pl.toArray w := by
      rw [Array.mapM_eq_mapM_toList]
      show ((fs.toList.mapM fun f => (do pure (f.offset, ← sizeOf f.type) : Sem (Nat × Nat))) >>= fun x => pure x.toArray : Sem _).run E.P w = _
      rw [Sem.run_bind, h1]; rfl
    simp only [execOp, Instr.build, Sem.run_bind, hz1, Result.andThen_ok, run_underlying hfs, h6, hz2, Array.toList_map]
    simp [h2]
  · cases hpl
theorem RO.build0 {t : TypeId} {pl : List (Nat × Nat)} {zs : List Value} (ht : IsStruct E.P t pl zs) (hz : zs.all (·.oneCell') = true) : RO E ⟨dd, .build t #[], ty, pos, af, g⟩ st (.v (.agg (zs.map fun z => .d (.v z)))) :=
  RO.build (avs := []) ht hz rfl (fun j i x hx => by simp at hx) rfl
theorem RO.build1 {t i1 : Nat} {pl : List (Nat × Nat)} {zs : List Value} {o1 : Operand} {x1 : AV} {ys : List CA} (ht : IsStruct E.P t pl zs) (hz : zs.all (·.oneCell') = true) (h1 : ev st.tm o1 = some (.v x1)) (hf : fillL pl (zs.map fun z => .d (.v z)) [(i1, x1)] = some ys) : RO E ⟨dd, .build t #[(i1, o1)], ty, pos, af, g⟩ st (.v (.agg ys)) :=
  RO.build (avs := [(i1, x1)]) ht hz rfl (fun j i x hx => by
    match j, hx with
    | 0, hx => cases hx; exact ⟨o1, rfl, h1⟩) hf
theorem RO.build2 {t i1 i2 : Nat} {pl : List (Nat × Nat)} {zs : List Value} {o1 o2 : Operand} {x1 x2 : AV} {ys : List CA} (ht : IsStruct E.P t pl zs) (hz : zs.all (·.oneCell') = true) (h1 : ev st.tm o1 = some (.v x1)) (h2 : ev st.tm o2 = some (.v x2)) (hf : fillL pl (zs.map fun z => .d (.v z)) [(i1, x1), (i2, x2)] = some ys) : RO E ⟨dd, .build t #[(i1, o1), (i2, o2)], ty, pos, af, g⟩ st (.v (.agg ys)) :=
  RO.build (avs := [(i1, x1), (i2, x2)]) ht hz rfl (fun j i x hx => by
    match j, hx with
    | 0, hx => cases hx; exact ⟨o1, rfl, h1⟩
    | 1, hx => cases hx; exact ⟨o2, rfl, h2⟩) hf
theorem RO.build3 {t i1 i2 i3 : Nat} {pl : List (Nat × Nat)} {zs : List Value} {o1 o2 o3 : Operand} {x1 x2 x3 : AV} {ys : List CA} (ht : IsStruct E.P t pl zs) (hz : zs.all (·.oneCell') = true) (h1 : ev st.tm o1 = some (.v x1)) (h2 : ev st.tm o2 = some (.v x2)) (h3 : ev st.tm o3 = some (.v x3)) (hf : fillL pl (zs.map fun z => .d (.v z)) [(i1, x1), (i2, x2), (i3, x3)] = some ys) : RO E ⟨dd, .build t #[(i1, o1), (i2, o2), (i3, o3)], ty, pos, af, g⟩ st (.v (.agg ys)) :=
  RO.build (avs := [(i1, x1), (i2, x2), (i3, x3)]) ht hz rfl (fun j i x hx => by
    match j, hx with
    | 0, hx => cases hx; exact ⟨o1, rfl, h1⟩
    | 1, hx => cases hx; exact ⟨o2, rfl, h2⟩
    | 2, hx => cases hx; exact ⟨o3, rfl, h3⟩) hf
end
end Go.Proofs.Ytkimijmiphkddaa
