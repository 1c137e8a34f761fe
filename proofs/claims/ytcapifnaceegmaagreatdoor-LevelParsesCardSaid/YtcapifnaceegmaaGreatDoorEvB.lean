/- Operations that make or write memory, seen as data. -/
import Derived.Test.YtcapifnaceegmaaGreatDoorEvA
import Derived.MapKept
import Derived.Carry
import Derived.Laws.MakeOwn
namespace Go.Proofs.YtcapifnaceegmaaGreatDoor
open Go.RowKit
set_option linter.unusedSimpArgs false
set_option linter.unusedVariables false
set_option linter.unusedSectionVars false

section
variable {E : Env} {st : St} {dd : Option Tmp} {ty : TypeId} {pos : String} {af : Array Edge} {g : Option (Nat × Bool)}

theorem add_hrel {V : Vu} {a : Act} {w : World} (hr : Rel E V st a w) (o : Obj) (B : HB) (hB : B.rel (V.add w.heap.size) (w.alloc o) o) :
    HRel E (V.add w.heap.size) ((st.nx, B) :: st.hp) st.tk (w.alloc o) ∧ (V.add w.heap.size).nx = st.nx + 1 ∧ V.Le (V.add w.heap.size) w (w.alloc o) ∧ (V.add w.heap.size).ι st.nx = w.heap.size := by
  have hx : ExtF w (w.alloc o) := ⟨rfl, rfl, rfl, by simp, fun k hk _ => Below.heap_alloc w o k hk⟩
  have H := hr.h.addOwn o B hB
  rw [hr.nx] at H
  exact ⟨H, by show V.nx + 1 = _; rw [hr.nx], hr.h.le hx (V.add_grow w.heap.size hr.h.sz hx), by rw [← hr.nx]; exact V.add_at _⟩

theorem OpOK.box {t : TypeId} {o : Operand} {x : AV} (hx : ev st.tm o = some (.v x)) : OpOK E ⟨dd, .box t o, ty, pos, af, g⟩ st (.v (.one (.ptr st.nx 0))) ⟨(st.nx, .cells t x.cells) :: st.hp, st.tk, st.nx + 1⟩ := by
  intro V a w hr ro n K Q hK
  refine ⟨fun _ _ => trivial, ?_⟩
  rw [Oper.semAt_eq _ _ _ (by intro c h; cases h)]
  have hrun : (execOp a.eval ⟨dd, .box t o, ty, pos, af, g⟩).run E.P w = .ok (.value (.pointer (some ⟨w.heap.size, 0, none⟩))) (w.alloc (.cells (a.eval o).cells t)) := by
    simp [execOp, Instr.box, newVar, newRow]
  rw [hrun]
  have hxc := (hr.ev hx).cells
  have hE : ExtF w (w.alloc (.cells (a.eval o).cells t)) := ⟨rfl, rfl, rfl, by simp, fun k hk _ => Below.heap_alloc w _ k hk⟩
  obtain ⟨H, hn, L, hι⟩ := add_hrel hr (.cells (a.eval o).cells t) (.cells t x.cells) ⟨_, rfl, hxc.mono (hr.h.le hE (V.add_grow w.heap.size hr.h.sz hE))⟩
  exact hK _ _ _ H hn L ⟨by rw [hn]; exact Nat.lt_succ_self _, by rw [hι]⟩

theorem OpOK.alloc {t : TypeId} {zs : List Value} (hz : tyZero E.P t = some zs) (h1 : zs.all (·.oneCell') = true) : OpOK E ⟨dd, .alloc t, ty, pos, af, g⟩ st (.v (.one (.ptr st.nx 0))) ⟨(st.nx, .cells t (zs.map fun z => .d (.v z))) :: st.hp, st.tk, st.nx + 1⟩ := by
  intro V a w hr ro n K Q hK
  refine ⟨fun _ _ => trivial, ?_⟩
  rw [Oper.semAt_eq _ _ _ (by intro c h; cases h)]
  obtain ⟨z, hz1, hz2⟩ := tyZero_spec hz
  have hrun : (execOp a.eval ⟨dd, .alloc t, ty, pos, af, g⟩).run E.P w = .ok (.value (.pointer (some ⟨w.heap.size, 0, none⟩))) (w.alloc (.cells zs.toArray t)) := by
    simp [execOp, Instr.alloc, hz1, newVar, newRow, hz2]
  rw [hrun]
  obtain ⟨H, hn, L, hι⟩ := add_hrel hr (.cells zs.toArray t) (.cells t (zs.map fun z => .d (.v z))) ⟨_, rfl, zeros_rel h1⟩
  exact hK _ _ _ H hn L ⟨by rw [hn]; exact Nat.lt_succ_self _, by rw [hι]⟩

theorem OpOK.store {t n i off : Nat} {ag : Bool} {T : TypeId} {xs : List CA} {o1 o2 : Operand} {y : AV} (ht : tyAgg E.P t = some (ag, n)) (h1 : ev st.tm o1 = some (.v (.one (.ptr i off)))) (h2 : ev st.tm o2 = some (.v y))
    (hi : lk st.hp i = some (.cells T xs)) (hn : y.cells.length = n) (hle : off + n ≤ xs.length) (hdd : dd = none) :
    OpOK E ⟨dd, .store t o1 o2, ty, pos, af, g⟩ st (.tup []) ⟨(i, .cells T (setL xs off y.cells)) :: dropK i st.hp, st.tk, st.nx⟩ := by
  intro V a w hr ro n' K Q hK
  refine ⟨fun _ _ => trivial, ?_⟩
  rw [Oper.semAt_eq _ _ _ (by intro c h; cases h)]
  have e1 := hr.ev h1
  have e2 := (hr.ev h2).cells
  obtain ⟨-, hsz⟩ := tyAgg_spec ht w
  obtain ⟨w', hw', H, L⟩ := HRel.storeL (T := T) y.cells (a.eval o2).cells.toList 0 off xs st.hp w hr.h hi (by simpa [hn] using hle) (by simpa using e2.1) (fun j z hz => by
    obtain ⟨u, hu, hz'⟩ := e2.2 j z hz
    exact ⟨u, by simpa using hu, hz'⟩)
  have hrun : (execOp a.eval ⟨dd, .store t o1 o2, ty, pos, af, g⟩).run E.P w = .ok .skip w' := by
    have hs2 : (a.eval o2).cells.size = n := by rw [e2.1, hn]
    simp only [execOp, e1.2, Instr.storeAt, Instr.sureAddr, storeVar, Sem.run_bind, Sem.run_pure, Result.andThen_ok, hsz, hs2]
    simp [hw']
  rw [hrun]
  subst hdd
  exact hK V w' undef (H.congr (fun j => lk_put i _ st.hp j) (fun _ => rfl)) hr.nx L und_rel

theorem build_run0 {t e sz len : Nat} {zs : List Value} {parts : Array (Nat × Operand)} {avs : List (Nat × AV)} {ys : List CA} (ht : tySlice E.P t = some (e, sz)) (hze : tyZero E.P e = some zs) (hzl : zs.length = sz) (hz : zs.all (·.oneCell') = true)
    (hlen : len * sz ≤ 16777216) (hn : parts.toList.length = avs.length)
    (hp : ∀ (j i : Nat) (x : AV), avs[j]? = some (i, x) → ∃ o, parts.toList[j]? = some (i, o) ∧ ev st.tm o = some (.v x)) (hf : fillL (rowPlaces sz len) (zeroRow zs len) avs = some ys)
    {V : Vu} {a : Act} {w : World} (hr : Rel E V st a w) :
    ∃ us : Array Value, (execOp a.eval ⟨dd, .buildSlice t len parts, ty, pos, af, g⟩).run E.P w = .ok (.value (.slice (some ⟨w.heap.size, 0, none⟩) len len)) (w.alloc (.cells us e)) ∧ rels V w ys us := by
  obtain ⟨hu, i0, hi0, hsz⟩ := tySlice_spec ht
  obtain ⟨z, hz1, hz2⟩ := tyZero_spec hze
  have hrel0 : rels V w (zeroRow zs len) ((Array.range (len * sz)).map fun k => zs.toArray[k % zs.toArray.size]!) := by
    refine ⟨by simp [zeroRow, hzl], fun k x hx => ?_⟩
    simp only [zeroRow, List.getElem?_map] at hx
    cases hk : (List.range (len * zs.length))[k]? with
    | none => rw [hk] at hx; cases hx
    | some k' =>
      rw [hk] at hx
      cases hx
      obtain ⟨hlt, rfl⟩ := List.getElem?_eq_some_iff.1 hk
      simp at hlt
      have hpos : 0 < zs.length := by rcases Nat.eq_zero_or_pos zs.length with h0 | h0; (· rw [h0] at hlt; simp at hlt); exact h0
      have hm : k % zs.length < zs.length := Nat.mod_lt _ hpos
      simp only [List.getElem_range]
      refine ⟨zs.getD (k % zs.length) undef, ?_, Reads.v _ ?_⟩
      · rw [← hzl]; simp [hlt, hm]
      · simp [hm]; exact List.all_eq_true.1 hz _ (List.getElem_mem hm)
  obtain ⟨us, h2, h3⟩ := fill_rel (place := fun i => some (i * sz, sz)) (pl := rowPlaces sz len) (fun i p h => by
    simp only [rowPlaces, List.getElem?_map] at h
    cases hk : (List.range len)[i]? with
    | none => rw [hk] at h; cases h
    | some k' => rw [hk] at h; cases h; obtain ⟨_, rfl⟩ := List.getElem?_eq_some_iff.1 hk; simp) avs (parts.toList.map fun p => (p.1, a.eval p.2)) _ ys _ hrel0 (by simpa using hn) (fun j i x hx => by
      obtain ⟨o, h4, h5⟩ := hp j i x hx
      exact ⟨a.eval o, by rw [List.getElem?_map, h4]; rfl, hr.ev h5⟩) hf
  refine ⟨us, ?_, h3⟩
  have hgt : ¬ (len * sz > 2 ^ 24) := by omega
  have e1 : (parts.map fun (x : Nat × Operand) => (x.1, a.eval x.2)).toList = parts.toList.map fun p => (p.1, a.eval p.2) := by simp
  by_cases h0 : len * sz = 0
  · have e0 : ∀ f : Nat → Value, (Array.range 0).map f = #[] := fun f => by apply Array.ext <;> simp
    rw [h0, e0] at h2
    simp only [execOp, Instr.buildSlice, Sem.run_bind, run_underlying hu, Result.andThen_ok, sizeOf, typeInfo, program, Sem.run, hi0, Sem.run_pure, hsz, if_neg hgt, h0, if_true, e0]
    simp [h2, newRow]
  · simp only [execOp, Instr.buildSlice, Sem.run_bind, run_underlying hu, Result.andThen_ok, sizeOf, typeInfo, program, Sem.run, hi0, Sem.run_pure, hsz, if_neg hgt, if_neg h0, hz1, hz2]
    simp at h2
    simp [h2, newRow]

/-- A slice literal that may be appended to. -/
theorem OpOK.litApp {t e sz len : Nat} {zs : List Value} {parts : Array (Nat × Operand)} {avs : List (Nat × AV)} {ys : List CA} (es : List (List C)) (ht : tySlice E.P t = some (e, sz)) (hze : tyZero E.P e = some zs) (hzl : zs.length = sz) (hz : zs.all (·.oneCell') = true)
    (hpos : 0 < sz) (hlen : len * sz ≤ 16777216) (hn : parts.toList.length = avs.length)
    (hp : ∀ (j i : Nat) (x : AV), avs[j]? = some (i, x) → ∃ o, parts.toList[j]? = some (i, o) ∧ ev st.tm o = some (.v x)) (hf : fillL (rowPlaces sz len) (zeroRow zs len) avs = some ys)
    (hs : CSubs ys es.flatten) (hel : ∀ x ∈ es, x.length = sz) (hen : es.length = len) :
    OpOK E ⟨dd, .buildSlice t len parts, ty, pos, af, g⟩ st (.v (.one (.app st.nx sz es))) ⟨st.hp, (st.nx, some ⟨e, sz, es.length⟩) :: st.tk, st.nx + 1⟩ := by
  intro V a w hr ro n K Q hK
  refine ⟨fun _ _ => trivial, ?_⟩
  rw [Oper.semAt_eq _ _ _ (by intro c h; cases h)]
  obtain ⟨us, hrun, husz, hcells⟩ := build_run (pos := pos) (ty := ty) (af := af) (g := g) es ht hze hzl hz hlen hn hp hf hs hel hen hr dd
  rw [hrun]
  have hx : ExtF w (w.alloc (.cells us e)) := ⟨rfl, rfl, rfl, by simp, fun k hk _ => Below.heap_alloc w _ k hk⟩
  obtain ⟨H, L⟩ := hr.h.tokNew (w' := w.alloc (.cells us e)) (i := V.nx) (n := es.length) (g := w.heap.size) (e := e) (sz := sz) (cap := len) (cur := us) (.inl rfl) hx (Nat.le_refl _) (heap_alloc_new w _) husz (Nat.le_of_eq hen) (by
    unfold maxLen
    have := Nat.le_mul_of_pos_right len hpos; omega)
  have hn : (V.tok V.nx es.length (.slice (some ⟨w.heap.size, 0, none⟩) es.length len) w.heap.size (es.length * sz)).nx = st.nx + 1 := by show max V.nx (V.nx + 1) = st.nx + 1; rw [hr.nx]; omega
  refine hK _ _ _ (by rw [← hr.nx]; exact H) hn L ⟨?_, ?_, ?_, ?_⟩
  · rw [hn]; exact Nat.lt_succ_self _
  · rw [← hr.nx, tok_cu]; exact Nat.le_refl _
  · rw [← hr.nx, tok_κ, hen]
  · have e9 : (Value.slice (some ⟨w.heap.size, 0, none⟩) len len) = .slice (some ⟨w.heap.size, 0, none⟩) es.length len := by rw [hen]
    rw [e9]
    refine Reads.of_row (us := fun k => us.getD k undef) hel (Nat.le_of_eq hen) (fun k c hk => ?_)
    obtain ⟨u, hu1, hu2⟩ := hcells k c hk
    have hklt : k < es.length * sz := by have := (List.getElem?_eq_some_iff.1 hk).1; rwa [flat_len es hel] at this
    have e1 : us.getD k undef = u := by simp [hu1]
    rw [e1, Nat.zero_add]
    exact ⟨(cell_of_own (heap_alloc_new w _) k).trans hu1, .inr ⟨rfl, hklt⟩, hu2.mono L.S L.cell⟩

/-- A slice literal that is only read from now on. -/
theorem OpOK.litData {t e sz len : Nat} {zs : List Value} {parts : Array (Nat × Operand)} {avs : List (Nat × AV)} {ys : List CA} (es : List (List C)) (ht : tySlice E.P t = some (e, sz)) (hze : tyZero E.P e = some zs) (hzl : zs.length = sz) (hz : zs.all (·.oneCell') = true)
    (hlen : len * sz ≤ 16777216) (hn : parts.toList.length = avs.length)
    (hp : ∀ (j i : Nat) (x : AV), avs[j]? = some (i, x) → ∃ o, parts.toList[j]? = some (i, o) ∧ ev st.tm o = some (.v x)) (hf : fillL (rowPlaces sz len) (zeroRow zs len) avs = some ys)
    (hs : CSubs ys es.flatten) (hel : ∀ x ∈ es, x.length = sz) (hen : es.length = len) :
    OpOK E ⟨dd, .buildSlice t len parts, ty, pos, af, g⟩ st (.v (.one (.d (.sl sz es)))) st.mem := by
  intro V a w hr ro n K Q hK
  refine ⟨fun _ _ => trivial, ?_⟩
  rw [Oper.semAt_eq _ _ _ (by intro c h; cases h)]
  obtain ⟨us, hrun, husz, hcells⟩ := build_run (pos := pos) (ty := ty) (af := af) (g := g) es ht hze hzl hz hlen hn hp hf hs hel hen hr dd
  rw [hrun]
  have hx : ExtF w (w.alloc (.cells us e)) := ⟨rfl, rfl, rfl, by simp, fun k hk _ => Below.heap_alloc w _ k hk⟩
  have hg : V.Grow { V with S := fun b o => V.S b o ∨ (b = w.heap.size ∧ o < len * sz) } w (w.alloc (.cells us e)) :=
    ⟨Nat.le_refl _, fun _ _ => rfl, fun _ _ => rfl, fun _ _ _ _ => rfl, fun _ _ h => .inl h, fun b o h => by
      rcases h with h | ⟨rfl, -⟩
      · exact .inl h
      · exact .inr (Nat.le_refl _), fun b o h => by
      rcases h with h | ⟨rfl, -⟩
      · exact Nat.lt_of_lt_of_le (hr.h.sz b o h) hx.size
      · simp⟩
  have L := hr.h.le hx hg
  refine hK _ _ _ (hr.h.later hx hg) hr.nx L ?_
  have e9 : (Value.slice (some ⟨w.heap.size, 0, none⟩) len len) = .slice (some ⟨w.heap.size, 0, none⟩) es.length len := by rw [hen]
  rw [e9]
  refine Reads.of_row (us := fun k => us.getD k undef) hel (Nat.le_of_eq hen) (fun k c hk => ?_)
  obtain ⟨u, hu1, hu2⟩ := hcells k c hk
  have hklt : k < es.length * sz := by have := (List.getElem?_eq_some_iff.1 hk).1; rwa [flat_len es hel] at this
  have e1 : us.getD k undef = u := by simp [hu1]
  rw [e1, Nat.zero_add]
  exact ⟨(cell_of_own (heap_alloc_new w _) k).trans hu1, .inr ⟨rfl, by rw [← hen]; exact hklt⟩, hu2.mono L.S L.cell⟩

/-- A slice literal that may be written. -/
theorem OpOK.litOsl {t e sz len : Nat} {zs : List Value} {parts : Array (Nat × Operand)} {avs : List (Nat × AV)} {ys : List CA} (ht : tySlice E.P t = some (e, sz)) (hze : tyZero E.P e = some zs) (hzl : zs.length = sz) (hz : zs.all (·.oneCell') = true)
    (hlen : len * sz ≤ 16777216) (hn : parts.toList.length = avs.length)
    (hp : ∀ (j i : Nat) (x : AV), avs[j]? = some (i, x) → ∃ o, parts.toList[j]? = some (i, o) ∧ ev st.tm o = some (.v x)) (hf : fillL (rowPlaces sz len) (zeroRow zs len) avs = some ys) :
    OpOK E ⟨dd, .buildSlice t len parts, ty, pos, af, g⟩ st (.v (.one (.osl st.nx 0 len len))) ⟨(st.nx, .cells e ys) :: st.hp, st.tk, st.nx + 1⟩ := by
  intro V a w hr ro n K Q hK
  refine ⟨fun _ _ => trivial, ?_⟩
  rw [Oper.semAt_eq _ _ _ (by intro c h; cases h)]
  obtain ⟨us, hrun, hrel⟩ := build_run0 (dd := dd) (pos := pos) (ty := ty) (af := af) (g := g) ht hze hzl hz hlen hn hp hf hr
  rw [hrun]
  have hE : ExtF w (w.alloc (.cells us e)) := ⟨rfl, rfl, rfl, by simp, fun k hk _ => Below.heap_alloc w _ k hk⟩
  obtain ⟨H, hn, L, hι⟩ := add_hrel hr (.cells us e) (.cells e ys) ⟨_, rfl, hrel.mono (hr.h.le hE (V.add_grow w.heap.size hr.h.sz hE))⟩
  exact hK _ _ _ H hn L ⟨by rw [hn]; exact Nat.lt_succ_self _, by rw [hι]⟩

theorem OpOK.makeSlice {t e sz : Nat} {zs : List Value} {o1 o2 : Operand} {l c by_ : Nat} {k1 k2 : IntKind} (ht : tySlice E.P t = some (e, sz)) (hze : tyZero E.P e = some zs) (hzl : zs.length = sz) (hz : zs.all (·.oneCell') = true) (hel : tyElem E.P e = some (sz, by_))
    (h1 : ev st.tm o1 = some (TVv (.int k1 (l : Int)))) (h2 : ev st.tm o2 = some (TVv (.int k2 (c : Int)))) (hlc : l ≤ c) (hb : by_ * c ≤ 281474976710656) (hc : c ≤ 9223372036854775807) :
    OpOK E ⟨dd, .makeSlice t o1 o2, ty, pos, af, g⟩ st (.v (.one (.osl st.nx 0 l c))) ⟨(st.nx, .cells e (zeroRow zs c)) :: st.hp, st.tk, st.nx + 1⟩ := by
  intro V a w hr ro n K Q hK
  refine ⟨fun _ _ => trivial, ?_⟩
  rw [Oper.semAt_eq _ _ _ (by intro c h; cases h)]
  obtain ⟨hu, i0, hi0, hsz⟩ := tySlice_spec ht
  obtain ⟨i1, z, hi1, hz1, hzs, hpos, hsz1, hby⟩ := tyElem_spec hel
  rw [hi0] at hi1; cases hi1
  have hzc : z.cells = zs.toArray := by
    obtain ⟨z', hz1', hz2'⟩ := tyZero_spec hze
    have := hz1' w
    simp [zeroValue, typeInfo, hi0, hz1] at this
    subst this; exact hz2'
  have hb' : (i0.bytes : Int) * (c : Int) ≤ 281474976710656 := by rw [hby]; have : ((by_ * c : Nat) : Int) ≤ 281474976710656 := by omega
                                                                  rwa [Int.natCast_mul] at this
  have hm := run_make (P := E.P) w t e i0 z hu hi0 hz1 k1 k2 l c (by omega) (by omega) hb' (by omega)
  simp only [Int.toNat_natCast] at hm
  have hrun : (execOp a.eval ⟨dd, .makeSlice t o1 o2, ty, pos, af, g⟩).run E.P w = .ok (.value (.slice (some ⟨w.heap.size, 0, none⟩) l c)) (w.alloc (.cells (madeCells z.cells (c * i0.size)) e)) := by
    simp only [execOp, val_of (hr.ev h1), val_of (hr.ev h2), Sem.run_bind, hm, Result.andThen_ok]; rfl
  rw [hrun]
  have hrel0 : rels (V.add w.heap.size) (w.alloc (.cells (madeCells z.cells (c * i0.size)) e)) (zeroRow zs c) (madeCells z.cells (c * i0.size)) := by
    rw [hsz, hzc]
    refine ⟨by simp [zeroRow, madeCells, hzl], fun k x hx => ?_⟩
    simp only [zeroRow, List.getElem?_map] at hx
    cases hk : (List.range (c * zs.length))[k]? with
    | none => rw [hk] at hx; cases hx
    | some k' =>
      rw [hk] at hx
      cases hx
      obtain ⟨hlt, rfl⟩ := List.getElem?_eq_some_iff.1 hk
      simp at hlt
      have hpos : 0 < zs.length := by omega
      have hm : k % zs.length < zs.length := Nat.mod_lt _ hpos
      simp only [List.getElem_range]
      refine ⟨zs.getD (k % zs.length) undef, ?_, Reads.v _ ?_⟩
      · rw [← hzl]; simp [madeCells, hlt, hm]
      · simp [hm]; exact List.all_eq_true.1 hz _ (List.getElem_mem hm)
  obtain ⟨H, hn, L, hι⟩ := add_hrel hr (.cells (madeCells z.cells (c * i0.size)) e) (.cells e (zeroRow zs c)) ⟨_, rfl, hrel0⟩
  exact hK _ _ _ H hn L ⟨by rw [hn]; exact Nat.lt_succ_self _, by rw [hι]⟩

/-! ### append -/
theorem OpOK.appendApp {t e sz by_ i : Nat} {o1 o2 : Operand} {y : CA} {es es2 : List (List C)} (ht : tySlice E.P t = some (e, sz)) (hte : tyElem E.P e = some (sz, by_)) (hb : by_ ≤ 100000)
    (h1 : ev st.tm o1 = some (.v (.one (.app i sz es)))) (hi : lk st.tk i = some (some ⟨e, sz, es.length⟩)) (h2 : ev st.tm o2 = some (.v (.one y))) (hs : SlOf y sz es2) (hm : es.length + es2.length ≤ 1000000000) :
    OpOK E ⟨dd, .call { callee := .builtin .append, args := #[o1, o2], argTypes := #[t, t] }, ty, pos, af, g⟩ st (.v (.one (.app i sz (es ++ es2)))) ⟨st.hp, (i, some ⟨e, sz, (es ++ es2).length⟩) :: dropK i st.tk, st.nx⟩ := by
  intro V a w hr ro n K Q hK
  refine ⟨fun _ _ => trivial, ?_⟩
  rw [Oper.semAt_eq _ _ _ (by intro c h; cases h)]
  have r1 := hr.ev h1
  have r2 := hs.reads (hr.ev h2)
  have hexec : ∀ v' w', (Builtin.append_ #[t, t] ty #[a.eval o1, a.eval o2]).run E.P w = .ok v' w' → (execOp a.eval ⟨dd, .call { callee := .builtin .append, args := #[o1, o2], argTypes := #[t, t] }, ty, pos, af, g⟩).run E.P w = .ok (.value v') w' := fun v' w' h => by
    simp [execOp, resolve, invoke, builtin, h]
  by_cases h0 : es2 = []
  · subst h0
    obtain ⟨hu, i1, hi1, -⟩ := tySlice_spec ht
    obtain ⟨-, a1, cap1, b1, off1, us1, e1, hc1, -⟩ := r1.2.2.2.row
    obtain ⟨-, a2, cap2, b2, off2, us2, e2, -⟩ := r2.row
    have := run_append0 (w := w) (ty := ty) hu hi1 a1 a2 es.length cap1 cap2 hc1
    rw [hexec _ w (by rw [e1, e2]; exact this)]
    have hl : ∀ j, lk ((i, some (Tok.mk e sz (es ++ []).length)) :: dropK i st.tk) j = lk st.tk j := fun j => by
      rw [lk_put, lk_cons, List.append_nil]; split
      · rename_i e3; subst e3; exact hi.symm
      · rfl
    refine hK V w _ (hr.h.congr (fun _ => rfl) hl) hr.nx (Vu.Le.refl _ _) ?_
    rw [List.append_nil, ← e1]; exact r1
  · obtain ⟨v', w', gb, m, V', hrun, rfl, H, L, hrd⟩ := append_run (ty := ty) hr.h ht hte (.inl ⟨hi, r1.2.2.1⟩) r1.2.2.2 r2 hm hb h0
    rw [hexec v' w' hrun]
    have hlt : i < V.nx := r1.1
    have hnx : (V.tok i (es ++ es2).length v' gb m).nx = st.nx := by show max V.nx (i + 1) = st.nx; rw [← hr.nx]; omega
    refine hK _ w' _ (H.congr (fun _ => rfl) (fun j => lk_put i _ st.tk j)) hnx L ?_
    exact ⟨Nat.lt_of_lt_of_le hlt L.nx, by rw [tok_cu]; exact Nat.le_refl _, by rw [tok_κ], hrd⟩

theorem OpOK.appendNil {t e sz by_ : Nat} {o1 o2 : Operand} {y : CA} {es2 : List (List C)} (ht : tySlice E.P t = some (e, sz)) (hte : tyElem E.P e = some (sz, by_)) (hb : by_ ≤ 100000)
    (h1 : ev st.tm o1 = some (TVv (.slice none 0 0))) (h2 : ev st.tm o2 = some (.v (.one y))) (hs : SlOf y sz es2) (hm : es2.length ≤ 1000000000) (hne : es2 ≠ []) :
    OpOK E ⟨dd, .call { callee := .builtin .append, args := #[o1, o2], argTypes := #[t, t] }, ty, pos, af, g⟩ st (.v (.one (.app st.nx sz es2))) ⟨st.hp, (st.nx, some ⟨e, sz, es2.length⟩) :: st.tk, st.nx + 1⟩ := by
  intro V a w hr ro n K Q hK
  refine ⟨fun _ _ => trivial, ?_⟩
  rw [Oper.semAt_eq _ _ _ (by intro c h; cases h)]
  have r1 := val_of (hr.ev h1)
  have r2 := hs.reads (hr.ev h2)
  have hexec : ∀ v' w', (Builtin.append_ #[t, t] ty #[a.eval o1, a.eval o2]).run E.P w = .ok v' w' → (execOp a.eval ⟨dd, .call { callee := .builtin .append, args := #[o1, o2], argTypes := #[t, t] }, ty, pos, af, g⟩).run E.P w = .ok (.value v') w' := fun v' w' h => by
    simp [execOp, resolve, invoke, builtin, h]
  have hnil : Reads V.S w (.sl sz []) (.slice none 0 0) := (SlOf.nil sz).reads (V := V) (Reads.v _ rfl)
  obtain ⟨v', w', gb, m, V', hrun, rfl, H, L, hrd⟩ := append_run (ty := ty) (i := V.nx) (es := []) hr.h ht hte (.inr ⟨rfl, rfl, rfl⟩) hnil r2 (by simpa using hm) hb hne
  rw [hexec v' w' (by rw [r1]; exact hrun)]
  simp only [List.nil_append] at H L hrd
  refine hK _ w' _ (by rw [← hr.nx]; exact H) (by show max V.nx (V.nx + 1) = st.nx + 1; rw [hr.nx]; omega) L ?_
  rw [← hr.nx]
  exact ⟨Nat.lt_of_lt_of_le (Nat.lt_succ_self _) (Nat.le_max_right _ _), by rw [tok_cu]; exact Nat.le_refl _, by rw [tok_κ], hrd⟩

/-- Nothing is appended to nil: nil. -/
theorem OpOK.appendNil0 {t e sz : Nat} {o1 o2 : Operand} {y : CA} (ht : tySlice E.P t = some (e, sz))
    (h1 : ev st.tm o1 = some (TVv (.slice none 0 0))) (h2 : ev st.tm o2 = some (.v (.one y))) (hs : SlOf y sz []) :
    OpOK E ⟨dd, .call { callee := .builtin .append, args := #[o1, o2], argTypes := #[t, t] }, ty, pos, af, g⟩ st (TVv (.slice none 0 0)) st.mem := by
  intro V a w hr ro n K Q hK
  refine ⟨fun _ _ => trivial, ?_⟩
  rw [Oper.semAt_eq _ _ _ (by intro c h; cases h)]
  have r1 := val_of (hr.ev h1)
  have r2 := hs.reads (hr.ev h2)
  have hexec : ∀ v' w', (Builtin.append_ #[t, t] ty #[a.eval o1, a.eval o2]).run E.P w = .ok v' w' → (execOp a.eval ⟨dd, .call { callee := .builtin .append, args := #[o1, o2], argTypes := #[t, t] }, ty, pos, af, g⟩).run E.P w = .ok (.value v') w' := fun v' w' h => by
    simp [execOp, resolve, invoke, builtin, h]
  obtain ⟨hu, i1, hi1, -⟩ := tySlice_spec ht
  obtain ⟨-, a2, cap2, b2, off2, us2, e2, -⟩ := r2.row
  have := run_append0 (P := E.P) (w := w) (ty := ty) hu hi1 none a2 0 0 cap2 (Nat.le_refl _)
  rw [hexec _ w (by rw [r1, e2]; exact this)]
  exact hK V w _ hr.h hr.nx (Vu.Le.refl _ _) (rel_of rfl)

/-! ### maps -/
theorem OpOK.makeMap {t : TypeId} : OpOK E ⟨dd, .makeMap t none, ty, pos, af, g⟩ st (.v (.one (.mp st.nx))) ⟨(st.nx, .mp [] 0) :: st.hp, st.tk, st.nx + 1⟩ := by
  intro V a w hr ro n K Q hK
  refine ⟨fun _ _ => trivial, ?_⟩
  rw [Oper.semAt_eq _ _ _ (by intro c h; cases h)]
  have hrun : (execOp a.eval ⟨dd, .makeMap t none, ty, pos, af, g⟩).run E.P w = .ok (.value (.map (some w.heap.size))) (w.alloc (.map #[] 0)) := by
    simp only [execOp, Option.map_none, Sem.run_bind, run_makeMap, Result.andThen_ok]; rfl
  rw [hrun]
  obtain ⟨H, hn, L, hι⟩ := add_hrel hr (.map #[] 0) (.mp [] 0) ⟨#[], rfl, rfl, fun i k x b hi => by simp at hi⟩
  exact hK _ _ _ H hn L ⟨by rw [hn]; exact Nat.lt_succ_self _, by rw [hι]⟩

/-- A key that is a number or a string. -/
def keyEq : Value → Value → Option Bool
  | .int k a, .int k' b => cond (decide (k = k')) (some (a == b)) none
  | .string a, .string b => some (a == b)
  | _, _ => none

def keyOf (isInt : Bool) : Value → Bool
  | .int _ _ => isInt
  | .string _ => !isInt
  | _ => false

/-- Where a key stands. -/
def findE (k : Value) : List (Value × AV × Nat) → Nat → Option (Option (Nat × AV))
  | [], _ => some none
  | (k', x, _) :: es, i => match keyEq k k' with
    | some true => some (some (i, x))
    | some false => findE k es (i + 1)
    | none => none

theorem zeroAV_spec {P : Program} {e : TypeId} {x : AV} (h : zeroAV P e = some x) : ∃ z, (∀ w, (zeroValue e).run P w = .ok z w) ∧ ∀ V w, x.rel V w z := by
  unfold zeroAV at h
  cases hi : P.info? e with
  | none => rw [hi] at h; cases h
  | some i =>
    rw [hi] at h
    cases hz : i.zero with
    | none => simp [hz] at h
    | some z =>
      refine ⟨z, fun w => by simp [zeroValue, typeInfo, hi, hz], fun V w => ?_⟩
      simp only [Option.bind_some, hz] at h
      split at h
      · rename_i vs hv
        cases hv
        cases hc : vs.toList.all (·.oneCell') with
        | false => rw [hc] at h; cases h
        | true =>
          rw [hc] at h; cases h
          exact ⟨vs, rfl, by have := zeros_rel (V := V) (w := w) hc; simpa using this⟩
      · rename_i v hn hv
        cases hv
        cases hc : z.oneCell' with
        | false => rw [hc] at h; cases h
        | true => rw [hc] at h; cases h; exact Reads.v z hc
      · rename_i hv; cases hv

theorem tyMap_spec {P : Program} {t : TypeId} {b : Bool} {x : AV} (h : tyMap P t = some (b, x)) : ∃ k e d, P.underlying t = some (.map k e) ∧ P.underlying k = some d ∧ zeroAV P e = some x ∧
    (∀ v, keyOf b v = true → (∀ (e : Bool) (n : Nat) (w : World), (Instr.checkKey e (n + 1) k v).run P w = .ok () w)) ∧ ∀ v v' r, keyOf b v = true → keyEq v v' = some r → Instr.sameNow d v v' = some r := by
  unfold tyMap at h
  split at h
  · rename_i k e hu
    split at h
    · rename_i kk hk
      cases hz : zeroAV P e with
      | none => rw [hz] at h; cases h
      | some z =>
        rw [hz] at h; cases h
        refine ⟨k, e, .int kk, hu, hk, hz, fun v hv e n w => ?_, fun v v' r hv hr => ?_⟩
        · unfold Instr.checkKey
          simp only [Sem.run_bind, run_underlying hk, Result.andThen_ok]
          cases v <;> simp_all [keyOf]
        · cases v <;> simp [keyOf] at hv
          cases v' <;> simp [keyEq] at hr
          rename_i k1 a k2 b
          by_cases hkk : k1 = k2
          · subst hkk; simp [Instr.sameNow] at hr ⊢; exact hr
          · simp [hkk] at hr
    · rename_i hk
      cases hz : zeroAV P e with
      | none => rw [hz] at h; cases h
      | some z =>
        rw [hz] at h; cases h
        refine ⟨k, e, .string, hu, hk, hz, fun v hv e n w => ?_, fun v v' r hv hr => ?_⟩
        · unfold Instr.checkKey
          simp only [Sem.run_bind, run_underlying hk, Result.andThen_ok]
          cases v <;> simp_all [keyOf]
        · cases v <;> simp [keyOf] at hv
          cases v' <;> simp [keyEq] at hr
          simp [Instr.sameNow, hr]
    · cases h
  · cases h

theorem findE_run {V : Vu} {w : World} {d : TypeDesc} {k : Value} {ib : Bool} (hk : keyOf ib k = true) (hs : ∀ v v' r, keyOf ib v = true → keyEq v v' = some r → Instr.sameNow d v v' = some r) : ∀ (es : List (Value × AV × Nat)) (ents : List MapEntry) (i : Nat) (r : Option (Nat × AV)), ents.length = es.length →
    (∀ (i : Nat) (k : Value) (x : AV) (b : Nat), es[i]? = some (k, x, b) → ∃ v, ents[i]? = some ⟨k, v, b⟩ ∧ x.rel V w v) → findE k es i = some r →
    match r with
    | none => Instr.findNow d k ents i = some none
    | some (j, x) => ∃ v e, Instr.findNow d k ents i = some (some (j, v)) ∧ x.rel V w v ∧ i ≤ j ∧ es[j - i]? = some e ∧ e.2.1 = x ∧ keyEq k e.1 = some true
  | [], ents, i, r, hl, _, hf => by
    have : ents = [] := List.eq_nil_of_length_eq_zero (by simpa using hl)
    subst this
    cases hf
    rfl
  | (k', x, b) :: es, ents, i, r, hl, hr, hf => by
    match ents, hl with
    | en :: ents, hl =>
      obtain ⟨v, hv, hxv⟩ := hr 0 k' x b rfl
      simp at hv; subst hv
      simp only [findE] at hf
      split at hf
      · rename_i hq
        cases hf
        exact ⟨v, _, by simp [Instr.findNow, hs _ _ _ hk hq], hxv, Nat.le_refl _, by rw [Nat.sub_self]; rfl, rfl, hq⟩
      · rename_i hq
        have ih := findE_run hk hs es ents (i + 1) r (by simpa using hl) (fun j k x b hj => by have := hr (j + 1) k x b (by simpa using hj); simpa using this) hf
        have e1 : Instr.findNow d k (⟨k', v, b⟩ :: ents) i = Instr.findNow d k ents (i + 1) := by simp [Instr.findNow, hs _ _ _ hk hq]
        cases r with
        | none => rw [e1]; exact ih
        | some p =>
          obtain ⟨v', e', h1, h2, h3, h4, h5⟩ := ih
          refine ⟨v', e', by rw [e1]; exact h1, h2, by omega, ?_, h5⟩
          rw [show p.1 - i = (p.1 - (i + 1)) + 1 by omega]; simpa using h4
      · cases hf

theorem keyEq_true {k k' : Value} (h : keyEq k k' = some true) : k = k' := by
  cases k <;> cases k' <;> simp [keyEq] at h
  · rename_i k1 a k2 b
    by_cases hkk : k1 = k2
    · subst hkk; simp at h; rw [h]
    · simp [hkk] at h
  · rename_i a b
    rw [(Go.MapKept.bytes_beq a b).1 h]

theorem ev_key {V : Vu} {a : Act} {w : World} (hr : Rel E V st a w) {o : Operand} {k : Value} (h : ev st.tm o = some (TVv k)) : a.eval o = k := val_of (hr.ev h)

/-- A look into a map. -/
theorem RO.lookup {t : TypeId} {ib : Bool} {z : AV} {o1 o2 : Operand} {i : Nat} {es : List (Value × AV × Nat)} {clock : Nat} {k : Value} {r : Option (Nat × AV)} (ht : tyMap E.P t = some (ib, z)) (h1 : ev st.tm o1 = some (.v (.one (.mp i)))) (h2 : ev st.tm o2 = some (TVv k)) (hk : keyOf ib k = true)
    (hi : lk st.hp i = some (.mp es clock)) (hf : findE k es 0 = some r) (ok : Bool) :
    RO E ⟨dd, .lookup t o1 o2 ok, ty, pos, af, g⟩ st (match r with
      | some (_, x) => cond ok (.tup [x, .one (.d (.v (.bool true)))]) (.v x)
      | none => cond ok (.tup [z, .one (.d (.v (.bool false)))]) (.v z)) := by
  refine ⟨(fun _ h => nomatch h), fun V a w hr => ?_⟩
  obtain ⟨kt, et, d, hu, hkt, hz, hck, hsn⟩ := tyMap_spec ht
  obtain ⟨-, hv⟩ := hr.ev h1
  have hkv := ev_key hr h2
  obtain ⟨-, o, ho, ents, rfl, hsz, hents⟩ := hr.h.own i _ hi
  have hfr := findE_run (V := V) (w := w) hk hsn es ents.toList 0 r (by simpa using hsz) (fun i k x b hi => by
    obtain ⟨v, h3, h4⟩ := hents i k x b hi
    exact ⟨v, by simpa using h3, h4⟩) hf
  obtain ⟨zv, hzr, hzrel⟩ := zeroAV_spec hz
  have hck' := hck k hk ents.isEmpty 9999 w
  cases r with
  | some p =>
    obtain ⟨v, e, h3, h4, -⟩ := hfr
    have hfk := Go.MapKept.run_findKey (P := E.P) (w := w) hkt h3
    have hl : (Instr.lookup t (a.eval o1) (a.eval o2) ok).run E.P w = .ok (if ok then .tuple #[v, .bool true] else v) w := by
      simp only [Instr.lookup, hv, hkv, Sem.run_bind, run_underlying hu, Result.andThen_ok, Go.MapKept.run_getObj_map ho, Sem.run_pure, hck', hfk]
    refine ⟨_, by simp only [execOp, Sem.run_bind, hl, Result.andThen_ok]; rfl, ?_⟩
    cases ok with
    | true => exact ⟨_, rfl, rfl, fun j x hx => by
        match j, hx with
        | 0, hx => cases hx; exact ⟨v, rfl, h4⟩
        | 1, hx => cases hx; exact ⟨_, rfl, rel_of rfl⟩⟩
    | false => exact h4
  | none =>
    have hfk := Go.MapKept.run_findKey (P := E.P) (w := w) hkt hfr
    have hl : (Instr.lookup t (a.eval o1) (a.eval o2) ok).run E.P w = .ok (if ok then .tuple #[zv, .bool false] else zv) w := by
      simp only [Instr.lookup, hv, hkv, Sem.run_bind, run_underlying hu, Result.andThen_ok, Go.MapKept.run_getObj_map ho, Sem.run_pure, hck', hfk, hzr]
    refine ⟨_, by simp only [execOp, Sem.run_bind, hl, Result.andThen_ok]; rfl, ?_⟩
    cases ok with
    | true => exact ⟨_, rfl, rfl, fun j x hx => by
        match j, hx with
        | 0, hx => cases hx; exact ⟨zv, rfl, hzrel V w⟩
        | 1, hx => cases hx; exact ⟨_, rfl, rel_of rfl⟩⟩
    | false => exact hzrel V w

theorem sameBits_key {k : Value} {ib : Bool} (hk : keyOf ib k = true) : Instr.sameBits 10000 k k = true := by
  cases k <;> simp [keyOf] at hk <;> simp [Instr.sameBits]
  exact (Go.MapKept.bytes_beq _ _).2 rfl

/-- An entry is laid into a map. -/
theorem OpOK.mapUpdate {t : TypeId} {ib : Bool} {z : AV} {o1 o2 o3 : Operand} {i : Nat} {es : List (Value × AV × Nat)} {clock : Nat} {k : Value} {x : AV} {r : Option (Nat × AV)} (ht : tyMap E.P t = some (ib, z)) (h1 : ev st.tm o1 = some (.v (.one (.mp i)))) (h2 : ev st.tm o2 = some (TVv k)) (h3 : ev st.tm o3 = some (.v x)) (hk : keyOf ib k = true)
    (hi : lk st.hp i = some (.mp es clock)) (hf : findE k es 0 = some r) (hdd : dd = none) :
    OpOK E ⟨dd, .mapUpdate t o1 o2 o3, ty, pos, af, g⟩ st (.tup []) ⟨(i, match r with
      | some (j, _) => .mp (es.modify j fun e => (k, x, e.2.2)) clock
      | none => .mp (es ++ [(k, x, clock)]) (clock + 1)) :: dropK i st.hp, st.tk, st.nx⟩ := by
  intro V a w hr ro n K Q hK
  refine ⟨fun _ _ => trivial, ?_⟩
  rw [Oper.semAt_eq _ _ _ (by intro c h; cases h)]
  obtain ⟨kt, et, d, hu, hkt, hz, hck, hsn⟩ := tyMap_spec ht
  obtain ⟨-, hv⟩ := hr.ev h1
  have hkv := ev_key hr h2
  have hxv := hr.ev h3
  obtain ⟨-, o, ho, ents, rfl, hsz, hents⟩ := hr.h.own i _ hi
  have hfr := findE_run (V := V) (w := w) hk hsn es ents.toList 0 r (by simpa using hsz) (fun i k x b hi => by
    obtain ⟨v, h3, h4⟩ := hents i k x b hi
    exact ⟨v, by simpa using h3, h4⟩) hf
  have hck' := hck k hk false 9999 w
  subst hdd
  cases r with
  | some p =>
    obtain ⟨j, x0⟩ := p
    obtain ⟨v, e, h4, h5, -, h6, h7, h8⟩ := hfr
    have hfk := Go.MapKept.run_findKey (P := E.P) (w := w) hkt h4
    simp only [Nat.sub_zero] at h6
    obtain ⟨k0, x1, b0⟩ := e
    obtain ⟨v0, hv0, -⟩ := hents j k0 x1 b0 h6
    have hkk : k = k0 := keyEq_true h8
    subst hkk
    have hstay : (Instr.keyThatStays (((ents[j]?).map (·.key)).getD k) k).run E.P w = .ok k w := by
      rw [hv0]
      simp only [Option.map_some, Option.getD_some, Instr.keyThatStays, sameBits_key hk, if_true]; rfl
    have hrun : (execOp a.eval ⟨none, .mapUpdate t o1 o2 o3, ty, pos, af, g⟩).run E.P w = .ok .skip (w.putObj (V.ι i) (.map (ents.modify j fun e => { e with key := k, val := a.eval o3 }) clock)) := by
      simp only [execOp, Instr.mapUpdate, hv, hkv, Sem.run_bind, run_underlying hu, Result.andThen_ok, Go.MapKept.run_getObj_map ho, hck', hfk, hstay, Go.MapKept.run_setObj_map _ ho]
      rfl
    rw [hrun]
    obtain ⟨H, L⟩ := hr.h.putObj (o' := .map (ents.modify j fun e => { e with key := k, val := a.eval o3 }) clock) (B' := .mp (es.modify j fun e => (k, x, e.2.2)) clock) hi (fun hle => ⟨_, rfl, by simp [hsz], fun q k' x' b' hq => by
      rw [List.getElem?_modify] at hq
      by_cases hqj : j = q
      · subst hqj
        simp only [if_true, h6, Option.map_some] at hq
        cases hq
        exact ⟨a.eval o3, by simp [Array.getElem?_modify, hv0], hxv.mono hle⟩
      · simp only [if_neg hqj, Option.map_id] at hq
        obtain ⟨v', h9, h10⟩ := hents q k' x' b' (by simpa using hq)
        exact ⟨v', by simp [Array.getElem?_modify, hqj, h9], h10.mono hle⟩⟩)
    exact hK V _ undef (H.congr (fun j => lk_put i _ st.hp j) (fun _ => rfl)) hr.nx L und_rel
  | none =>
    have hfk := Go.MapKept.run_findKey (P := E.P) (w := w) hkt hfr
    have hrun : (execOp a.eval ⟨none, .mapUpdate t o1 o2 o3, ty, pos, af, g⟩).run E.P w = .ok .skip (w.putObj (V.ι i) (.map (ents.push { key := k, val := a.eval o3, born := clock }) (clock + 1))) := by
      simp only [execOp, Instr.mapUpdate, hv, hkv, Sem.run_bind, run_underlying hu, Result.andThen_ok, Go.MapKept.run_getObj_map ho, hck', hfk, Go.MapKept.run_setObj_map _ ho]
      rfl
    rw [hrun]
    obtain ⟨H, L⟩ := hr.h.putObj (o' := .map (ents.push { key := k, val := a.eval o3, born := clock }) (clock + 1)) (B' := .mp (es ++ [(k, x, clock)]) (clock + 1)) hi (fun hle => ⟨_, rfl, by simp [hsz], fun q k' x' b' hq => by
      by_cases hqj : q < es.length
      · rw [List.getElem?_append_left hqj] at hq
        obtain ⟨v', h9, h10⟩ := hents q k' x' b' hq
        exact ⟨v', by rw [Array.getElem?_push, if_neg (by omega)]; exact h9, h10.mono hle⟩
      · rw [List.getElem?_append_right (by omega)] at hq
        have : q = es.length := by
          have := (List.getElem?_eq_some_iff.1 hq).1
          simp at this; omega
        subst this
        simp at hq
        obtain ⟨rfl, rfl, rfl⟩ := hq
        exact ⟨a.eval o3, by rw [Array.getElem?_push, if_pos hsz.symm], hxv.mono hle⟩⟩)
    exact hK V _ undef (H.congr (fun j => lk_put i _ st.hp j) (fun _ => rfl)) hr.nx L und_rel

end
end Go.Proofs.YtcapifnaceegmaaGreatDoor
