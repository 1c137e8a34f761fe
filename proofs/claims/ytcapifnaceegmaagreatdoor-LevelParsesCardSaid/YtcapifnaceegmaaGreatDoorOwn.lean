/- Slices of the call's own, typed: made, read, written, handed on, handed back; calls that are lent one. -/
import Derived.Test.YtcapifnaceegmaaGreatDoorMk
namespace Go.Proofs.YtcapifnaceegmaaGreatDoor
open Go.RowKit
set_option linter.unusedSimpArgs false
set_option linter.unusedVariables false
set_option linter.unusedSectionVars false

abbrev dI (x : Int) : CA := .d (.v (.int .i64 x))
abbrev dB (b : Bool) : CA := .d (.v (.bool b))
abbrev dS {α : Type} [Enc α] (l : List α) : CA := .d (.sl (Enc.sz α) (Enc.encL l))
abbrev dA {α : Type} [Enc α] (n : Nat) (l : List α) : CA := .app n (Enc.sz α) (Enc.encL l)
abbrev dN : CA := .d (.v (.slice none 0 0))
abbrev cE {α : Type} [Enc α] (x : α) : List CA := (Enc.enc x).map CA.d
def flatE {α : Type} [Enc α] (l : List α) : List CA := (Enc.encL l).flatten.map CA.d

/-- all elements have their size -/
class EncLen (α : Type) [Enc α] : Prop where
  len : ∀ x : α, (Enc.enc x).length = Enc.sz α
  pos : 0 < Enc.sz α
instance : EncLen Lvl := ⟨fun _ => rfl, by decide⟩
instance : EncLen LV := ⟨fun _ => rfl, by decide⟩
instance : EncLen Int := ⟨fun _ => rfl, by decide⟩
instance : EncLen Bnd := ⟨fun _ => rfl, by decide⟩

section
variable {α : Type} [Enc α] [EncLen α]
theorem encL_lens (l : List α) : ∀ e ∈ Enc.encL l, e.length = Enc.sz α := by
  intro e he
  rw [Enc.map] at he
  obtain ⟨x, -, rfl⟩ := List.mem_map.1 he
  exact EncLen.len x
theorem flatE_len (l : List α) : (flatE l).length = l.length * Enc.sz α := by
  unfold flatE; rw [List.length_map, flat_len _ (encL_lens l), Enc.len]
theorem flatE_get {l : List α} {k j : Nat} {x : α} (h : l[k]? = some x) (hj : j < Enc.sz α) : (flatE l)[k * Enc.sz α + j]? = ((Enc.enc x)[j]?).map CA.d := by
  unfold flatE; rw [List.getElem?_map, flat_get _ (encL_lens l) k j _ (Enc.get h) hj]
end
section
variable {α : Type} [Enc α]
theorem flatE_cons (x : α) (l : List α) : flatE (x :: l) = (Enc.enc x).map CA.d ++ flatE l := by
  unfold flatE; rw [Enc.cons, List.flatten_cons, List.map_append]
theorem flatE_nil : flatE ([] : List α) = [] := by unfold flatE; rw [Enc.nil]; rfl
end

theorem flatE_mem {α : Type} [Enc α] {l : List α} {x : CA} (h : x ∈ flatE l) : ∃ c : C, True ∧ CA.d c = x := by
  obtain ⟨c, -, rfl⟩ := List.mem_map.1 h
  exact ⟨c, trivial, rfl⟩

theorem setL_len : ∀ (ys : List CA) (xs : List CA) (off : Nat), (setL xs off ys).length = xs.length
  | [], xs, off => rfl
  | y :: ys, xs, off => by simp only [setL]; rw [setL_len ys, List.length_set]
theorem setL_app : ∀ (ys as xs : List CA) (off : Nat), setL (as ++ xs) (as.length + off) ys = as ++ setL xs off ys
  | [], as, xs, off => rfl
  | y :: ys, as, xs, off => by
    simp only [setL]
    rw [List.set_append_right _ _ (by omega), Nat.add_sub_cancel_left, Nat.add_assoc, setL_app ys]
theorem setL_all : ∀ (ys as xs : List CA), as.length = ys.length → setL (as ++ xs) 0 ys = ys ++ xs
  | [], [], xs, _ => rfl
  | y :: ys, a :: as, xs, h => by
    have h2 := setL_app ys [y] (as ++ xs) 0
    simp only [List.length_singleton] at h2
    simp only [setL, List.cons_append, List.set_cons_zero]
    rw [show (y :: (as ++ xs)) = [y] ++ (as ++ xs) from rfl, show 0 + 1 = 1 + 0 from rfl, h2, setL_all ys as xs (by simpa using h)]; rfl
theorem setL_flat {α : Type} [Enc α] [EncLen α] : ∀ (l : List α) (k : Nat) (v : α), k < l.length → setL (flatE l) (k * Enc.sz α) ((Enc.enc v).map CA.d) = flatE (l.set k v)
  | x :: l, 0, v, _ => by
    rw [Nat.zero_mul, flatE_cons, List.set_cons_zero, flatE_cons, setL_all _ _ _ (by simp [EncLen.len])]
  | x :: l, k + 1, v, h => by
    rw [flatE_cons, List.set_cons_succ, flatE_cons, ← setL_flat l k v (by simpa using h)]
    have := setL_app ((Enc.enc v).map CA.d) ((Enc.enc x).map CA.d) (flatE l) (k * Enc.sz α)
    rw [List.length_map, EncLen.len] at this
    rw [← this, Nat.succ_mul, Nat.add_comm]

theorem LSub.datas {xs : List CA} {cs : List C} (h : LSub xs (cs.map CA.d)) : xs.length = cs.length := by
  rw [h.len, List.length_map]

section
variable {E : Env} {st : St} {dd d : Option Tmp} {ty : TypeId} {pos : String} {af : Array Edge} {g : Option (Nat × Bool)}

theorem RO.indexO {α : Type} [Enc α] {t e i n : Nat} {x y : Operand} {m : Int} {l : List α} {v : α} (ht : tySlice E.P t = some (e, Enc.sz α)) (hx : ev st.tm x = some (.v (.one (.osl i 0 n n)))) (hy : ev st.tm y = some (TI m)) (hv : idx l m = some v) (hn : Nat.beq l.length n = true) :
    RO E ⟨d, .indexAddr t x y, ty, pos, af, g⟩ st (.v (.one (.ptr i (m.toNat * Enc.sz α)))) := by
  obtain ⟨k, rfl, hk⟩ := idxS hv
  have hl : l.length = n := Nat.eq_of_beq_eq_true hn
  have := RO.indexOsl (E := E) (st := st) (d := d) (ty := ty) (pos := pos) (af := af) (g := g) (k := k) ht hx hy rfl (by rw [← hl]; exact (List.getElem?_eq_some_iff.1 hk).1)
  rw [Nat.zero_add] at this; exact this

/-- a whole element -/
theorem RO.loadOE {α : Type} [Enc α] [EncLen α] {t i : Nat} {T : TypeId} {x : Operand} {m : Int} {l : List α} {v : α} {ys : List CA} (ht : tyAgg E.P t = some (true, Enc.sz α)) (hx : ev st.tm x = some (.v (.one (.ptr i (m.toNat * Enc.sz α))))) (hi : lk st.hp i = some (.cells T (flatE l))) (hv : idx l m = some v) (hy : (Enc.enc v).map CA.d = ys) :
    RO E ⟨d, .load t x, ty, pos, af, g⟩ st (.v (.agg ys)) := by
  subst hy
  obtain ⟨k, rfl, hk⟩ := idxS hv
  simp only [Int.toNat_natCast] at hx
  refine RO.loadOwnAgg ht hx hi ?_ (by rw [List.length_map, EncLen.len])
  apply List.ext_getElem?
  intro j
  rw [List.getElem?_take]
  split
  · rename_i hj
    rw [List.getElem?_drop, flatE_get hk hj, List.getElem?_map]
  · rename_i hj
    rw [List.getElem?_map, List.getElem?_eq_none (by rw [EncLen.len]; omega)]; rfl
/-- one cell of an element -/
theorem RO.loadOF {α : Type} [Enc α] [EncLen α] {t i n f : Nat} {T : TypeId} {x : Operand} {m : Int} {l : List α} {v : α} {c : C} (ht : tyAgg E.P t = some (false, n)) (hx : ev st.tm x = some (.v (.one (.ptr i (m.toNat * Enc.sz α + f))))) (hi : lk st.hp i = some (.cells T (flatE l))) (hv : idx l m = some v) (hc : (Enc.enc v)[f]? = some c) :
    RO E ⟨d, .load t x, ty, pos, af, g⟩ st (.v (.one (.d c))) := by
  obtain ⟨k, rfl, hk⟩ := idxS hv
  simp only [Int.toNat_natCast] at hx
  refine RO.loadOwn ht hx hi ?_
  rw [flatE_get hk (by have := (List.getElem?_eq_some_iff.1 hc).1; rw [EncLen.len] at this; exact this), hc]; rfl

/-- a store, of less than is known -/
theorem OpOK.storeS {t n i off : Nat} {ag : Bool} {T : TypeId} {xs : List CA} {o1 o2 : Operand} {y y' : AV} (ht : tyAgg E.P t = some (ag, n)) (h1 : ev st.tm o1 = some (.v (.one (.ptr i off)))) (h2 : ev st.tm o2 = some (.v y)) (hs : ASub y y')
    (hi : lk st.hp i = some (.cells T xs)) (hn : y'.cells.length = n) (hle : off + n ≤ xs.length) (hdd : dd = none) :
    OpOK E ⟨dd, .store t o1 o2, ty, pos, af, g⟩ st (.tup []) ⟨(i, .cells T (setL xs off y'.cells)) :: dropK i st.hp, st.tk, st.nx⟩ := by
  intro V a w hr ro n' K Q hK
  refine ⟨fun _ _ => trivial, ?_⟩
  rw [Oper.semAt_eq _ _ _ (by intro c h; cases h)]
  have e1 := hr.ev h1
  have e2 := (hs.rel (hr.ev h2)).cells
  obtain ⟨-, hsz⟩ := tyAgg_spec ht w
  obtain ⟨w', hw', H, L⟩ := HRel.storeL (T := T) y'.cells (a.eval o2).cells.toList 0 off xs st.hp w hr.h hi (by simpa [hn] using hle) (by simpa using e2.1) (fun j z hz => by
    obtain ⟨u, hu, hz'⟩ := e2.2 j z hz
    exact ⟨u, by simpa using hu, hz'.mono of_le⟩)
  have hrun : (execOp a.eval ⟨dd, .store t o1 o2, ty, pos, af, g⟩).run E.P w = .ok .skip w' := by
    have hs2 : (a.eval o2).cells.size = n := by rw [e2.1, hn]
    simp only [execOp, e1.2, Instr.storeAt, Instr.sureAddr, storeVar, Sem.run_bind, Sem.run_pure, Result.andThen_ok, hsz, hs2]
    simp [hw']
  rw [hrun]
  subst hdd
  exact hK V w' undef (H.congr (fun j => lk_put i _ st.hp j) (fun _ => rfl)) hr.nx L und_rel

/-- a whole element is written -/
theorem OpOK.storeOE {α : Type} [Enc α] [EncLen α] {t i : Nat} {ag : Bool} {T : TypeId} {o1 o2 : Operand} {y y' : AV} {m : Int} {l : List α} {v0 v : α} (ht : tyAgg E.P t = some (ag, Enc.sz α)) (h1 : ev st.tm o1 = some (.v (.one (.ptr i (m.toNat * Enc.sz α))))) (h2 : ev st.tm o2 = some (.v y)) (hs : ASub y y') (he : y'.cells = (Enc.enc v).map CA.d)
    (hi : lk st.hp i = some (.cells T (flatE l))) (hv : idx l m = some v0) (hdd : dd = none) :
    OpOK E ⟨dd, .store t o1 o2, ty, pos, af, g⟩ st (.tup []) ⟨(i, .cells T (flatE (l.set m.toNat v))) :: dropK i st.hp, st.tk, st.nx⟩ := by
  obtain ⟨k, rfl, hk⟩ := idxS hv
  have hlt : k < l.length := (List.getElem?_eq_some_iff.1 hk).1
  have hlen : y'.cells.length = Enc.sz α := by rw [he, List.length_map, EncLen.len]
  have := OpOK.storeS (E := E) (st := st) (dd := dd) (ty := ty) (pos := pos) (af := af) (g := g) ht h1 h2 hs hi hlen (by
    rw [flatE_len, Int.toNat_natCast, ← Nat.succ_mul]; exact Nat.mul_le_mul_right _ hlt) hdd
  rw [he, Int.toNat_natCast, setL_flat l k v hlt] at this
  rw [Int.toNat_natCast]; exact this

theorem HRel.swapLe {V : Vu} {i : Nat} {B B' : HB} {hp : List (Nat × HB)} {tk : List (Nat × Option Tok)} {w : World} (h : HRel E V ((i, B) :: hp) tk w) (hb : BLe B B') : HRel E V ((i, B') :: hp) tk w := by
  have hh : ∀ j A, lk ((i, B') :: hp) j = some A → ∃ A0, lk ((i, B) :: hp) j = some A0 ∧ BLe A0 A := fun j A hj => by
    rw [lk_cons] at hj ⊢
    split at hj
    · rename_i e; cases hj; rw [if_pos e]; exact ⟨_, rfl, hb⟩
    · rename_i e; rw [if_neg e]; exact ⟨_, hj, .refl _⟩
  refine ⟨h.ext, h.le0, h.sz, h.sub, fun j A hj => ?_, fun j k A A' hj hk => ?_, fun j A hj => ?_, fun j T hj => ?_, h.tki⟩
  · obtain ⟨A0, h1, h2⟩ := hh j A hj
    obtain ⟨h3, o, h4, h5⟩ := h.own j A0 h1
    exact ⟨h3, o, h4, h2.rel h5⟩
  · obtain ⟨A0, h1, -⟩ := hh j A hj
    obtain ⟨A1, h2, -⟩ := hh k A' hk
    exact h.inj j k _ _ h1 h2
  · obtain ⟨A0, h1, -⟩ := hh j A hj
    exact h.new j A0 h1
  · obtain ⟨h1, h2, xs, h3, h4⟩ := h.tok j T hj
    refine ⟨h1, h2, xs, h3, fun g hg => ⟨(h4 g hg).1, (h4 g hg).2.1, fun k A hk => ?_⟩⟩
    obtain ⟨A0, h5, -⟩ := hh k A hk
    exact (h4 g hg).2.2 k A0 h5

theorem CLs.app {as bs xs ys : List CA} (h : CLs as bs) (k : CLs xs ys) : CLs (as ++ xs) (bs ++ ys) := by
  induction h with
  | nil => exact k
  | cons h t ih => exact .cons h ih

theorem zeroRow_flat (zs : List Value) (n : Nat) : zeroRow zs n = (List.replicate n (zs.map fun z => CA.d (.v z))).flatten := by
  have hl : ∀ e ∈ List.replicate n (zs.map fun z => CA.d (.v z)), e.length = zs.length := fun e he => by rw [(List.mem_replicate.1 he).2, List.length_map]
  apply List.ext_getElem?
  intro k
  unfold zeroRow
  rw [List.getElem?_map]
  rcases Nat.lt_or_ge k (n * zs.length) with h | h
  · have hpos : 0 < zs.length := by
      rcases Nat.eq_zero_or_pos zs.length with h0 | h0
      · rw [h0] at h; simp at h
      · exact h0
    have hq : k / zs.length < n := (Nat.div_lt_iff_lt_mul hpos).2 h
    have hr : k % zs.length < zs.length := Nat.mod_lt _ hpos
    have := flat_get _ hl (k / zs.length) (k % zs.length) _ (by rw [List.getElem?_replicate, if_pos hq]) hr
    rw [show k / zs.length * zs.length + k % zs.length = k by rw [Nat.mul_comm]; exact Nat.div_add_mod k zs.length] at this
    rw [this, List.getElem?_map, List.getElem?_range h]
    simp [List.getElem?_eq_getElem hr, List.getD_eq_getElem?_getD]
  · rw [List.getElem?_eq_none (by simpa using h), List.getElem?_eq_none (by rw [flat_len _ hl, List.length_replicate]; exact h)]; rfl

theorem zeroRow_le {α : Type} [Enc α] (zs : List Value) (z : α) (h : CLs (zs.map fun z => CA.d (.v z)) ((Enc.enc z).map CA.d)) : ∀ n, CLs (zeroRow zs n) (flatE (List.replicate n z)) := by
  intro n
  rw [zeroRow_flat]
  induction n with
  | zero => unfold flatE; rw [List.replicate_zero, List.replicate_zero, Enc.nil]; exact .nil
  | succ n ih =>
    rw [List.replicate_succ, List.replicate_succ, List.flatten_cons]
    have : flatE (z :: List.replicate n z) = (Enc.enc z).map CA.d ++ flatE (List.replicate n z) := by
      unfold flatE; rw [Enc.cons, List.flatten_cons, List.map_append]
    rw [this]; exact h.app ih

theorem OpOK.makeO {α : Type} [Enc α] {t e by_ : Nat} {zs : List Value} {z : α} {o1 o2 : Operand} {m : Int} (ht : tySlice E.P t = some (e, Enc.sz α)) (hze : tyZero E.P e = some zs) (hzl : zs.length = Enc.sz α) (hz : zs.all (·.oneCell') = true) (hel : tyElem E.P e = some (Enc.sz α, by_))
    (h1 : ev st.tm o1 = some (TI m)) (h2 : ev st.tm o2 = some (TI m)) (hm : (cond (decide (0 ≤ m)) (Nat.ble (by_ * m.toNat) 281474976710656) false) = true) (hby : Nat.ble 1 by_ = true)
    (hzz : CLs (zs.map fun z => CA.d (.v z)) ((Enc.enc z).map CA.d)) :
    OpOK E ⟨dd, .makeSlice t o1 o2, ty, pos, af, g⟩ st (.v (.one (.osl st.nx 0 m.toNat m.toNat))) ⟨(st.nx, .cells e (flatE (List.replicate m.toNat z))) :: st.hp, st.tk, st.nx + 1⟩ := by
  have h0 : 0 ≤ m := of_decide_eq_true (cond_left hm)
  have hb : by_ * m.toNat ≤ 281474976710656 := Nat.le_of_ble_eq_true (cond_right hm)
  have hb1 : 1 ≤ by_ := Nat.le_of_ble_eq_true hby
  obtain ⟨k, rfl⟩ : ∃ k : Nat, m = (k : Int) := ⟨m.toNat, (Int.toNat_of_nonneg h0).symm⟩
  simp only [Int.toNat_natCast] at hb ⊢
  have hk : k ≤ 281474976710656 := Nat.le_trans (by have := Nat.mul_le_mul_right k hb1; omega) hb
  have := OpOK.makeSlice (E := E) (st := st) (dd := dd) (ty := ty) (pos := pos) (af := af) (g := g) ht hze hzl hz hel h1 h2 (Nat.le_refl _) hb (by omega)
  intro V a w hr ro n K Q hK
  exact this V a w hr ro n K Q (fun V' w' v H hn L hx => hK V' w' v (H.swapLe (.cells (zeroRow_le zs z hzz k))) hn L hx)

theorem RO.sliceFrom {α : Type} [Enc α] {t e : Nat} {o lo : Operand} {y : CA} {l : List α} {m : Int} (ht : tySlice E.P t = some (e, Enc.sz α)) (hx : ev st.tm o = some (.v (.one y))) (hs : SlE y l) (hlo : ev st.tm lo = some (TI m)) (hm : (cond (decide (0 ≤ m)) (Nat.ble m.toNat l.length) false) = true) :
    RO E ⟨d, .slice t o (some lo) none none, ty, pos, af, g⟩ st (.v (.one (.d (.sl (Enc.sz α) (Enc.encL (l.drop m.toNat)))))) := by
  have h0 : 0 ≤ m := of_decide_eq_true (cond_left hm)
  have hb := cond_right hm
  obtain ⟨k, rfl⟩ : ∃ k : Nat, m = (k : Int) := ⟨m.toNat, (Int.toNat_of_nonneg h0).symm⟩
  simp only [Int.toNat_natCast] at hb ⊢
  have := RO.sliceE (E := E) (st := st) (d := d) (ty := ty) (pos := pos) (af := af) (g := g) (a := k) (b := l.length) ht hx hs (lo := some lo) (hi := none) (mx := none) (by
    have : ev st.tm lo = some (.v (.one (.d (.v (.int .i64 (.ofNat k)))))) := hlo
    simp only [boundsOf, hiOf, loOf, this, hb, cond_true])
  rw [List.take_of_length_le (by rw [List.length_drop]; exact Nat.le_refl _)] at this
  exact this
theorem RO.sliceTo {α : Type} [Enc α] {t e : Nat} {o hi : Operand} {y : CA} {l : List α} {m : Int} (ht : tySlice E.P t = some (e, Enc.sz α)) (hx : ev st.tm o = some (.v (.one y))) (hs : SlE y l) (hhi : ev st.tm hi = some (TI m)) (hm : (cond (decide (0 ≤ m)) (Nat.ble m.toNat l.length) false) = true) :
    RO E ⟨d, .slice t o none (some hi) none, ty, pos, af, g⟩ st (.v (.one (.d (.sl (Enc.sz α) (Enc.encL (l.take m.toNat)))))) := by
  have h0 : 0 ≤ m := of_decide_eq_true (cond_left hm)
  have hb := cond_right hm
  obtain ⟨k, rfl⟩ : ∃ k : Nat, m = (k : Int) := ⟨m.toNat, (Int.toNat_of_nonneg h0).symm⟩
  simp only [Int.toNat_natCast] at hb ⊢
  have := RO.sliceE (E := E) (st := st) (d := d) (ty := ty) (pos := pos) (af := af) (g := g) (a := 0) (b := k) ht hx hs (lo := none) (hi := some hi) (mx := none) (by
    have : ev st.tm hi = some (.v (.one (.d (.v (.int .i64 (.ofNat k)))))) := hhi
    simp only [boundsOf, hiOf, loOf, this, hb, cond_true])
  rw [List.drop_zero, Nat.sub_zero] at this
  exact this
end

/-! ### What is not written any more -/
theorem HRel.freeze {E : Env} {V : Vu} {hp : List (Nat × HB)} {tk : List (Nat × Option Tok)} {w : World} {i : Nat} {B : HB} (h : HRel E V hp tk w) (hi : lk hp i = some B) :
    HRel E { V with S := fun b o => V.S b o ∨ b = V.ι i } (dropK i hp) tk w ∧ V.Le { V with S := fun b o => V.S b o ∨ b = V.ι i } w w := by
  obtain ⟨hlt, o, ho, hB⟩ := h.own i B hi
  have hle : V.Le { V with S := fun b o => V.S b o ∨ b = V.ι i } w w := ⟨Nat.le_refl _, fun _ _ => rfl, fun _ _ => Nat.le_refl _, fun _ _ _ _ => rfl, fun b o h => .inl h, fun _ _ _ => rfl⟩
  refine ⟨⟨h.ext, h.le0.trans hle, ?_, ?_, ?_, ?_, ?_, ?_, h.tki⟩, hle⟩
  · rintro b o' (hs | rfl)
    · exact h.sz b o' hs
    · exact heap_lt ho
  · rintro b o' (hs | rfl)
    · exact h.sub b o' hs
    · exact .inr (h.new i B hi).1
  · intro j A hj
    obtain ⟨hj, hne⟩ := lk_dropK_some hj
    obtain ⟨h1, o', h2, h3⟩ := h.own j A hj
    exact ⟨h1, o', h2, h3.mono hle⟩
  · intro j k A A' hj hk
    exact h.inj j k A A' (lk_dropK_some hj).1 (lk_dropK_some hk).1
  · intro j A hj
    obtain ⟨hj, hne⟩ := lk_dropK_some hj
    refine ⟨(h.new j A hj).1, ?_⟩
    rintro o' (hs | he)
    · exact (h.new j A hj).2 o' hs
    · exact hne (h.inj j i A B hj hi he)
  · intro j T hj
    obtain ⟨h1, h2, xs, h3, h4⟩ := h.tok j T hj
    refine ⟨h1, h2, xs, h3, fun g hg => ⟨(h4 g hg).1, ?_, fun k A hk => (h4 g hg).2.2 k A (lk_dropK_some hk).1⟩⟩
    rintro o' (hs | he)
    · exact (h4 g hg).2.1 o' hs
    · exact absurd he.symm ((h4 g hg).2.2 i B hi)

theorem reads_flat {α : Type} [Enc α] [EncLen α] {S : Nat → Nat → Prop} {V : Vu} {w : World} {b n : Nat} {T : TypeId} {l : List α} {vs : Array Value} (hb : w.heap[b]? = some (.cells vs T (0, 0))) (hv : rels V w (flatE l) vs) (hn : l.length = n) (hS : ∀ o, S b o) (hVS : ∀ b o, V.S b o → S b o) :
    Reads S w (.sl (Enc.sz α) (Enc.encL l)) (.slice (some ⟨b, 0, none⟩) n n) := by
  have hget : ∀ (i : Nat) (e : List C) (j : Nat) (c : C), (Enc.encL l)[i]? = some e → e[j]? = some c → ∃ u, vs[i * Enc.sz α + j]? = some u ∧ Reads V.S w c u := fun i e j c hi hj => by
    rw [Enc.map, List.getElem?_map] at hi
    cases hx : l[i]? with
    | none => rw [hx] at hi; cases hi
    | some x =>
      rw [hx] at hi; cases hi
      have hlt : j < Enc.sz α := by have := (List.getElem?_eq_some_iff.1 hj).1; rw [EncLen.len] at this; exact this
      exact hv.2 _ _ (by rw [flatE_get hx hlt, hj]; rfl)
  have hcell : ∀ (i : Nat) (e : List C) (j : Nat) (c : C), (Enc.encL l)[i]? = some e → e[j]? = some c → w.cell? ⟨b, 0 + i * Enc.sz α + j, none⟩ = some (vs.getD (i * Enc.sz α + j) undef) := fun i e j c hi hj => by
    obtain ⟨u, hu, -⟩ := hget i e j c hi hj
    simp only [World.cell?, hb, Option.isSome_none, Bool.false_eq_true, if_false, Nat.zero_add]
    rw [hu, Array.getD_eq_getD_getElem?, hu]; rfl
  have := Reads.sl (S := S) (w := w) (Enc.sz α) (Enc.encL l) (some ⟨b, 0, none⟩) n b 0 (fun i j => vs.getD (i * Enc.sz α + j) undef) (by rw [Enc.len, hn]; exact Nat.le_refl _) (fun _ => rfl)
    (fun i e hi => encL_lens l e (List.mem_of_getElem? hi)) hcell (fun i e j c hi hj => hS _)
    (fun i e j c hi hj => by
      obtain ⟨u, hu, hr⟩ := hget i e j c hi hj
      rw [Array.getD_eq_getD_getElem?, hu]
      exact hr.mono hVS (fun _ _ _ => rfl))
  rw [Enc.len, hn] at this; exact this

theorem XQ.freezeT {E : Env} {Q : Exit → Act → World → Prop} {st : St} {e : Exit} {α : Type} [Enc α] [EncLen α] {t i n : Nat} {T : TypeId} {l : List α} (ht : lk st.tm t = some (.v (.one (.osl i 0 n n)))) (hi : lk st.hp i = some (.cells T (flatE l))) (hn : Nat.beq l.length n = true)
    (k : XQ E Q e ⟨(t, .v (.one (.d (.sl (Enc.sz α) (Enc.encL l))))) :: st.tm, dropK i st.hp, st.tk, st.nx, st.nt, st.df⟩) : XQ E Q e st := by
  intro V a w hr
  obtain ⟨H, L⟩ := hr.h.freeze hi
  obtain ⟨-, o, ho, vs, rfl, hvs⟩ := hr.h.own i _ hi
  refine k _ a w ⟨H, hr.nx, hr.nt, hr.df.le L, fun t' x hx => ?_⟩
  dsimp only at hx
  rw [lk_cons] at hx
  split at hx
  · rename_i e1; subst e1; cases hx
    have h1 := (hr.tm _ _ ht).2
    rw [h1]
    exact reads_flat ho hvs (Nat.eq_of_beq_eq_true hn) (fun o => .inr rfl) (fun _ _ h => .inl h)
  · exact (hr.tm t' x hx).mono L

/-! ### Calls that are lent a slice of the caller's own -/
inductive ORen (b : Nat) : List AV → List AV → Prop
  | nil : ORen b [] []
  | osl {off n c : Nat} {xs ys : List AV} (t : ORen b xs ys) : ORen b (.one (.osl b off n c) :: xs) (.one (.osl 0 off n c) :: ys)
  | one {x : CA} {c : C} {xs ys : List AV} (h : CSub x c) (t : ORen b xs ys) : ORen b (.one x :: xs) (.one (.d c) :: ys)
  | agg {x y : List CA} {xs ys : List AV} (h : LSub x y) (t : ORen b xs ys) : ORen b (.agg x :: xs) (.agg y :: ys)

def Vu.lent (V : Vu) (b : Nat) : Vu := ⟨1, fun _ => V.ι b, fun _ _ => undef, fun _ => 0, V.S⟩

theorem rels_datas {V V' : Vu} {w : World} {cs : List C} {vs : Array Value} (h : rels V w (cs.map CA.d) vs) (hS : V'.S = V.S) : rels V' w (cs.map CA.d) vs := by
  refine ⟨h.1, fun i x hx => ?_⟩
  obtain ⟨u, h1, h2⟩ := h.2 i x hx
  rw [List.getElem?_map] at hx
  cases hc : cs[i]? with
  | none => rw [hc] at hx; cases hx
  | some c => rw [hc] at hx; cases hx; exact ⟨u, h1, by show Reads V'.S w c u; rw [hS]; exact h2⟩

theorem LSub.datasOf {xs ys : List CA} (h : LSub xs ys) : ∃ cs : List C, ys = cs.map CA.d := by
  induction h with
  | nil => exact ⟨[], rfl⟩
  | cons h t ih => obtain ⟨cs, rfl⟩ := ih; exact ⟨_ :: cs, rfl⟩

theorem ORen.rel {b : Nat} {xs ys : List AV} (h : ORen b xs ys) {V : Vu} {w : World} : ∀ {i : Nat} {y : AV}, ys[i]? = some y → ∃ x, xs[i]? = some x ∧ ∀ v, x.rel V w v → y.rel (V.lent b) w v := by
  induction h with
  | nil => intro i y hy; simp at hy
  | osl t ih =>
    intro i y hy
    cases i with
    | zero => simp at hy; subst hy; exact ⟨_, rfl, fun v hv => ⟨Nat.zero_lt_one, hv.2⟩⟩
    | succ i => exact ih (by simpa using hy)
  | one h t ih =>
    intro i y hy
    cases i with
    | zero => simp at hy; subst hy; exact ⟨_, rfl, fun v hv => show Reads V.S w _ v from h.reads hv⟩
    | succ i => exact ih (by simpa using hy)
  | agg h t ih =>
    intro i y hy
    cases i with
    | zero =>
      simp at hy; subst hy
      refine ⟨_, rfl, fun v hv => ?_⟩
      obtain ⟨vs, h1, h2⟩ := hv
      obtain ⟨cs, rfl⟩ := h.datasOf
      exact ⟨vs, h1, rels_datas (rels_of_subs h h2) rfl⟩
    | succ i => exact ih (by simpa using hy)
theorem ORen.len {b : Nat} {xs ys : List AV} (h : ORen b xs ys) : xs.length = ys.length := by
  induction h with
  | nil => rfl
  | osl t ih => simp [ih]
  | one h t ih => simp [ih]
  | agg h t ih => simp [ih]

theorem OpOK.callO {E : Env} {st : St} {dd : Option Tmp} {ty : TypeId} {pos : String} {af : Array Edge} {g : Option (Nat × Bool)} {f : FuncId} {as : Array Operand} {args args' : List AV} {ats : Array TypeId} {res res' : TV} {m1 : Mem} {b : Nat} {T : TypeId} {α β : Type} [Enc α] [Enc β] {l : List α} {l' : List β}
    (hc : CallM E.P f args' ⟨[(0, .cells T (flatE l))], [], 1⟩ res m1) (ha : evArgs st.tm as.toList = some args) (hs : ORen b args args') (hb : lk st.hp b = some (.cells T (flatE l))) (hm : lk m1.hp 0 = some (.cells T (flatE l'))) (hr' : asTV res = some res') :
    OpOK E ⟨dd, .call { callee := .value (.func f), args := as, argTypes := ats }, ty, pos, af, g⟩ st res' ⟨(b, .cells T (flatE l')) :: dropK b st.hp, st.tk, st.nx⟩ := by
  intro V a w hr ro n K Q hK
  refine ⟨fun _ _ => trivial, ?_⟩
  rw [Oper.semAt_eq _ _ _ (by intro c h; cases h)]
  rw [call_enters rfl hc.1]
  refine ⟨(by intro h; cases h), ?_⟩
  obtain ⟨hbl, o, ho, vs0, rfl, hvs0⟩ := hr.h.own b _ hb
  have har : argsRel (V.lent b) w args' (as.map a.eval) := by
    obtain ⟨h1, h2⟩ := args_rel hr ha
    refine ⟨by rw [← hs.len]; exact h1, fun i y hy => ?_⟩
    obtain ⟨x, hx, hxy⟩ := hs.rel (V := V) (w := w) hy
    obtain ⟨u, hu, hxu⟩ := h2 i x hx
    exact ⟨u, hu, hxy u hxu⟩
  have hH : HRel ⟨E.P, w, fun k => k = V.ι b, V.lent b⟩ (V.lent b) [(0, .cells T (flatE l))] [] w := by
    refine ⟨ExtM.refl _ _, Vu.Le.refl _ _, hr.h.sz, fun b o h => .inl h, ?_, ?_, ?_, ?_, ?_⟩
    · intro i B hi
      rw [lk_cons] at hi
      split at hi
      · rename_i e; subst e; cases hi; exact ⟨Nat.zero_lt_one, _, ho, vs0, rfl, rels_datas hvs0 rfl⟩
      · cases hi
    · intro i j A B hi hj _
      rw [lk_cons] at hi hj
      split at hi
      · split at hj
        · rename_i e1 e2; exact e1.symm.trans e2
        · cases hj
      · cases hi
    · intro i B hi; exact ⟨.inr rfl, fun o => (hr.h.new b _ hb).2 o⟩
    · intro i T hi; cases hi
    · intro i j T U g hi; cases hi
  have hc' : CallsIn Fence.wide (n - 1) E.P f _ w _ := callsIn_wide.2 (hc.2 ⟨E.P, w, fun k => k = V.ι b, V.lent b⟩ (V.lent b) w _ rfl hH rfl har)
  refine CallsIn.mono (F := FR ro) hc' ?_
  rintro e w' ⟨v, V1, rfl, H, hn, L, hres⟩
  have hι : V1.ι 0 = V.ι b := L.ι 0 Nat.zero_lt_one
  obtain ⟨-, o', ho', hB'⟩ := H.own 0 _ hm
  have hnS := (H.new 0 _ hm).2
  rw [hι] at ho' hnS
  have hlt : V.ι b < w.heap.size := heap_lt ho
  -- the world behind, with the lent block as it was
  have hw2 : ∀ k, k ≠ V.ι b → (w'.putObj (V.ι b) (.cells vs0 T (0, 0))).heap[k]? = w'.heap[k]? := fun k hk => World.putObj_heap_other hk
  have hsz2 : (w'.putObj (V.ι b) (.cells vs0 T (0, 0))).heap.size = w'.heap.size := World.putObj_size
  have hx : ExtF w (w'.putObj (V.ι b) (.cells vs0 T (0, 0))) := by
    refine ⟨H.ext.os, H.ext.tape, H.ext.output, by rw [hsz2]; exact H.ext.size, fun k hk _ => ?_⟩
    by_cases e : k = V.ι b
    · rw [e, World.putObj_heap_same (heap_lt ho')]; exact ho.symm
    · rw [hw2 k e]; exact H.ext.block k hk e
  have hg : V.Grow { V with S := V1.S } w (w'.putObj (V.ι b) (.cells vs0 T (0, 0))) := ⟨Nat.le_refl _, fun _ _ => rfl, fun _ _ => rfl, fun _ _ _ _ => rfl, L.S, fun b' o' h => by
    rcases H.sub b' o' h with h1 | h1 | h1
    · exact .inl h1
    · exact .inr h1
    · exact absurd (by rw [← h1]; exact h) (hnS o'), fun b' o' h => by rw [hsz2]; exact H.sz b' o' h⟩
  have H2 := hr.h.later hx hg
  have L2 := hr.h.le hx hg
  obtain ⟨H3, L3⟩ := H2.setOwn (w' := w') (B' := .cells T (flatE l')) hb (fun k hk => (hw2 k hk).symm) hsz2.symm rfl rfl rfl ho' (fun _ => by
    obtain ⟨vs, h1, h2⟩ := hB'
    exact ⟨vs, h1, rels_datas h2 rfl⟩)
  refine hK { V with S := V1.S } w' v (H3.congr (fun j => lk_put b _ st.hp j) (fun _ => rfl)) hr.nx (L2.trans L3) ((asTV_rel hr' hres).mono (of_le (V := { V with S := V1.S })))

/-! ### Short words -/
theorem tZ {tm : List (Nat × TV)} : tmLe tm [] := trivial
theorem tR {tm r : List (Nat × TV)} {t : Nat} {y : TV} (h : lk tm t = some y) (l : tmLe tm r) : tmLe tm ((t, y) :: r) := ⟨⟨y, h, .refl y⟩, l⟩
theorem tC {tm r : List (Nat × TV)} {t : Nat} {x y : TV} (h : lk tm t = some x) (k : TLe x y) (l : tmLe tm r) : tmLe tm ((t, y) :: r) := ⟨⟨x, h, k⟩, l⟩
theorem hZ {hp : List (Nat × HB)} : hpLe hp [] := trivial
theorem hR {hp r : List (Nat × HB)} {t : Nat} {y : HB} (h : lk hp t = some y) (l : hpLe hp r) : hpLe hp ((t, y) :: r) := ⟨⟨y, h, .refl y⟩, l⟩
theorem hC {hp r : List (Nat × HB)} {t : Nat} {T : TypeId} {xs ys : List CA} (h : lk hp t = some (.cells T xs)) (k : CLs xs ys) (l : hpLe hp r) : hpLe hp ((t, .cells T ys) :: r) := ⟨⟨_, h, .cells k⟩, l⟩
theorem kZ {tk : List (Nat × Option Tok)} : tkLe tk [] := trivial
theorem kR {tk r : List (Nat × Option Tok)} {t : Nat} {T : Tok} (h : lk tk t = some (some T)) (l : tkLe tk r) : tkLe tk ((t, some T) :: r) := ⟨fun T' e => by cases e; exact h, l⟩
theorem bZ {m : Nat} : hpBelow m [] := trivial
theorem bB {m i : Nat} {x : HB} {r : List (Nat × HB)} (h : Nat.blt i m = true) (k : x.belowB m = true) (l : hpBelow m r) : hpBelow m ((i, x) :: r) := ⟨blt_t h, HB.belowB_ok k, l⟩
theorem bF {m i : Nat} {T : TypeId} {α : Type} [Enc α] {xs : List α} {r : List (Nat × HB)} (h : Nat.blt i m = true) (l : hpBelow m r) : hpBelow m ((i, .cells T (flatE xs)) :: r) := ⟨blt_t h, (fun x hx => by obtain ⟨c, -, rfl⟩ := flatE_mem hx; trivial), l⟩
theorem bM {m i c : Nat} {xs : List (Int × Int × Nat)} {r : List (Nat × HB)} (h : Nat.blt i m = true) (l : hpBelow m r) : hpBelow m ((i, .mp (imE xs) c) :: r) := ⟨blt_t h, (by show mpBelow m (imE xs); rw [mpBelow_im]; trivial), l⟩
theorem stle {E : Env} {st st' : St} (h1 : tmLe st.tm st'.tm) (h2 : hpLe st.hp st'.hp) (h3 : tkLe st.tk st'.tk) (h4 : Nat.ble st'.nx st.nx = true) (h5 : E.V0.nx ≤ st'.nx) (h6 : st.nt = st'.nt) (h7 : st.df = st'.df)
    (h8 : (st'.tm.all fun p => p.2.belowB st'.nx) = true) (h9 : hpBelow st'.nx st'.hp) (h10 : (st'.tk.all fun p => Nat.blt p.1 st'.nx) = true) (h11 : (st'.df.all fun i => Nat.blt i st'.nx) = true) : StLe E st st' := by
  refine ⟨h1, h2, h3, lb h4, h5, h6, h7, ?_, h9, ?_, fun i hi => blt_t (List.all_eq_true.1 h11 i hi)⟩
  · have : ∀ l : List (Nat × TV), (l.all fun p => p.2.belowB st'.nx) = true → tmBelow st'.nx l := by
      intro l
      induction l with
      | nil => intro _; trivial
      | cons p l ih => intro h; simp only [List.all_cons, Bool.and_eq_true] at h; exact ⟨TV.belowB_ok h.1, ih h.2⟩
    exact this _ h8
  · have : ∀ l : List (Nat × Option Tok), (l.all fun p => Nat.blt p.1 st'.nx) = true → tkBelow st'.nx l := by
      intro l
      induction l with
      | nil => intro _; trivial
      | cons p l ih => intro h; simp only [List.all_cons, Bool.and_eq_true] at h; exact ⟨blt_t h.1, ih h.2⟩
    exact this _ h10

/-! ### Several outcomes -/
theorem sumK {α β γ : Type} {y : α ⊕ β} {f : α → Option γ} {g : β → Option γ} {r : γ} {G : Prop} {C : α ⊕ β → Prop} (hc : C y) (h : Sum.elim f g y = some r) (k1 : ∀ a, C (.inl a) → f a = some r → G) (k2 : ∀ b, C (.inr b) → g b = some r → G) : G := by
  cases y with
  | inl a => exact k1 a hc h
  | inr b => exact k2 b hc h

/-- A function's body, walked: the call; its marks are taken at the ends. -/
theorem CallM.of_bodyD {P : Program} {f : FuncId} {fn : Func} {c : Code} {args : List AV} {m : Mem} (stf : St) {xs : List AV} (hf : P.funcs[f]? = some fn) (hb : fn.body = some c) (hen : Enters P f) (hnt : args.length ≤ fn.ntmps)
    (hdf : stf.df = []) (hres : RAs P stf fn.results.toList xs)
    (h : ∀ (w0 : World) (M : Nat → Prop) (V0 : Vu) (Q : Exit → Act → World → Prop), V0.nx ≤ m.nx →
      (∀ (e : Exit) (st' : St) (hp' : List (Nat × HB)), (e = .normal ∨ e = .ret) → takeMarks st'.df st'.hp = some hp' → StLe ⟨P, w0, M, V0⟩ ⟨st'.tm, hp', st'.tk, st'.nx, st'.nt, []⟩ stf → XQ ⟨P, w0, M, V0⟩ Q e st') → XC ⟨P, w0, M, V0⟩ none 0 Q c ⟨entry 0 args, m.hp, m.tk, m.nx, fn.ntmps, []⟩) :
    CallM P f args m (resOf xs) ⟨stf.hp, stf.tk, stf.nx⟩ := by
  refine ⟨hen, fun E V w vs hP H hn hargs => ?_⟩
  refine (callsIn_wide (n := 0)).1 (callsIn_of_wp_marks (F := Fence.wide) hf hb trivial ?_)
  have hR0 : Rel (E.at V w) V ⟨entry 0 args, m.hp, m.tk, m.nx, fn.ntmps, []⟩ { tmps := vs ++ Array.replicate (fn.ntmps - vs.size) undef, defers := [] } w := by
    refine ⟨H.rebase, hn, by simp [hargs.1]; omega, dfRel.nil, fun t x hx => ?_⟩
    obtain ⟨k, y, h1, h2, rfl⟩ := lk_entry args 0 t x hx
    obtain ⟨u, hu, hy⟩ := hargs.2 k y h2
    have hk : k < vs.size := (Array.getElem?_eq_some_iff.1 hu).1
    have : (vs ++ Array.replicate (fn.ntmps - vs.size) undef).getD t undef = u := by
      rw [show t = k by omega, Array.getD_eq_getD_getElem?, Array.getElem?_append_left hk, hu]; rfl
    rw [this]; exact hy
  have key : ∀ (st' : St) (hp' : List (Nat × HB)) (V1 : Vu) (a1 : Act) (w1 : World), takeMarks st'.df st'.hp = some hp' → StLe (E.at V w) ⟨st'.tm, hp', st'.tk, st'.nx, st'.nt, []⟩ stf → Rel (E.at V w) V1 st' a1 w1 →
      LeavesInM Fence.wide 0 P fn a1.tmps (fun e w' => ∃ v V', e = .returned v ∧ HRel E V' stf.hp stf.tk w' ∧ V'.nx = stf.nx ∧ V.Le V' w w' ∧ (resOf xs).rel V' w' v) a1.defers .returning w1 := by
    intro st' hp' V1 a1 w1 htm hle hr1
    refine leaves_marks st'.df a1.defers st'.hp hp' w1 hr1.h hr1.df htm (fun w' H' L' => ?_)
    have hr' : Rel (E.at V w) V1 ⟨st'.tm, hp', st'.tk, st'.nx, st'.nt, []⟩ { tmps := a1.tmps, defers := [] } w' := ⟨H', hr1.nx, hr1.nt, dfRel.nil, fun t x hx => (hr1.tm t x hx).mono L'⟩
    obtain ⟨V2, hr2⟩ := hr'.less hle
    obtain ⟨v, h1, h2⟩ := results_run (E := E.at V w) hres hP hr2
    obtain ⟨H5, L5⟩ := H.back hr2.h
    exact ⟨v, h1, v, V2, rfl, H5, hr2.nx, L5, h2⟩
  have hgo : ∀ E' : Env, E' = E.at V w → E'.P = P → E'.V0 = V → XC E' none 0 (bodyPostM Fence.wide 0 P fn (fun e w' => ∃ v V', e = .returned v ∧ HRel E V' stf.hp stf.tk w' ∧ V'.nx = stf.nx ∧ V.Le V' w w' ∧ (resOf xs).rel V' w' v)) c ⟨entry 0 args, m.hp, m.tk, m.nx, fn.ntmps, []⟩ := by
    rintro ⟨P', w0, M, V0⟩ he hP' hV'
    dsimp only at hP' hV'
    subst hP'
    refine h w0 M V0 _ (by rw [hV', hn]; exact Nat.le_refl _) ?_
    rintro e st' hp' (rfl | rfl) htm hle
    · intro V1 a1 w1 hr1; rw [he] at hr1 hle; exact key st' hp' V1 a1 w1 htm hle hr1
    · intro V1 a1 w1 hr1; rw [he] at hr1 hle; exact key st' hp' V1 a1 w1 htm hle hr1
  have := hgo (E.at V w) rfl hP rfl V _ w hR0
  rw [show (E.at V w).P = P from hP] at this
  exact this

/-- The same, with an end for each outcome. -/
theorem CallM.of_bodyS {P : Program} {f : FuncId} {fn : Func} {c : Code} {args : List AV} {m : Mem} {Y : Type} (y : Y) (stf : Y → St) {xs : List AV} (hf : P.funcs[f]? = some fn) (hb : fn.body = some c) (hen : Enters P f) (hnt : args.length ≤ fn.ntmps)
    (hdf : ∀ y, (stf y).df = []) (hres : ∀ y, RAs P (stf y) fn.results.toList xs)
    (h : ∀ (w0 : World) (M : Nat → Prop) (V0 : Vu) (Q : Exit → Act → World → Prop), V0.nx ≤ m.nx →
      (∀ (e : Exit) (st' : St) (hp' : List (Nat × HB)), (e = .normal ∨ e = .ret) → takeMarks st'.df st'.hp = some hp' → StLe ⟨P, w0, M, V0⟩ ⟨st'.tm, hp', st'.tk, st'.nx, st'.nt, []⟩ (stf y) → XQ ⟨P, w0, M, V0⟩ Q e st') → XC ⟨P, w0, M, V0⟩ none 0 Q c ⟨entry 0 args, m.hp, m.tk, m.nx, fn.ntmps, []⟩) :
    CallM P f args m (resOf xs) ⟨(stf y).hp, (stf y).tk, (stf y).nx⟩ := CallM.of_bodyD (stf y) hf hb hen hnt (hdf y) (hres y) h

/-! ### Labels -/
def scopeQ (Q : Exit → Act → World → Prop) : Exit → Act → World → Prop := fun e a w => match e with
  | .goto _ => False
  | e => Q e a w
section
variable {E : Env} {ro : Option Nat} {n : Nat} {Q : Exit → Act → World → Prop} {st : St} {c : Code}
theorem XC.joinR2 {γ δ : Type} (i1 : γ → St) (i2 : δ → St) (K1 : γ → Prop) (K2 : δ → Prop) (h : XC E ro n (JnR E (Sum.elim i1 i2) (Sum.elim K1 K2) Q) c st) (k1 : ∀ v, K1 v → XQ E Q .normal (i1 v)) (k2 : ∀ v, K2 v → XQ E Q .normal (i2 v)) : XC E ro n Q c st :=
  XC.joinR _ _ h (fun v hv => by
    cases v with
    | inl v => exact k1 v hv
    | inr v => exact k2 v hv)
theorem XQ.joinRl {γ δ : Type} {i1 : γ → St} {i2 : δ → St} {K1 : γ → Prop} {K2 : δ → Prop} (v : γ) (hl : StLe E st (i1 v)) (hK : K1 v) : XQ E (JnR E (Sum.elim i1 i2) (Sum.elim K1 K2) Q) .normal st := XQ.joinR (.inl v) hl hK
theorem XQ.joinRr {γ δ : Type} {i1 : γ → St} {i2 : δ → St} {K1 : γ → Prop} {K2 : δ → Prop} (v : δ) (hl : StLe E st (i2 v)) (hK : K2 v) : XQ E (JnR E (Sum.elim i1 i2) (Sum.elim K1 K2) Q) .normal st := XQ.joinR (.inr v) hl hK
theorem XC.scope (h : XC E ro n (scopeQ Q) c st) : XC E ro n Q (.scope c) st := fun V a w hr => wpIn_scope (h V a w hr)
theorem XC.label {l : Nat} (h : XQ E Q .normal st) : XC E ro n Q (.label l) st := fun V a w hr => wpIn_label (h V a w hr)
theorem XQ.scopeN (h : XQ E Q .normal st) : XQ E (scopeQ Q) .normal st := h
theorem XQ.scopeE {i : Nat} (h : XQ E Q (.exit i) st) : XQ E (scopeQ Q) (.exit i) st := h
theorem XQ.scopeR (h : XQ E Q .ret st) : XQ E (scopeQ Q) .ret st := h
end
end Go.Proofs.YtcapifnaceegmaaGreatDoor
