/- Arrays of numbers of the call's own; literals of two and three elements; comparison of a slice with nil. -/
import Derived.Test.YtcapifnaceegmaaGreatDoorOwn
import Derived.Laws.Cover3
namespace Go.Proofs.YtcapifnaceegmaaGreatDoor
open Go.RowKit
set_option linter.unusedSimpArgs false
set_option linter.unusedVariables false
set_option linter.unusedSectionVars false

theorem lsub_flat {α : Type} [Enc α] (l : List α) : LSub (flatE l) (flatE l) := by
  have : ∀ cs : List C, LSub (cs.map CA.d) (cs.map CA.d) := by
    intro cs
    induction cs with
    | nil => exact .nil
    | cons c cs ih => exact .cons (.d c) ih
  exact this _

section
variable {E : Env} {st : St} {dd d : Option Tmp} {ty : TypeId} {pos : String} {af : Array Edge} {g : Option (Nat × Bool)}

theorem OpOK.allocA {α : Type} [Enc α] {t : TypeId} {zs : List Value} {l : List α} (h1 : tyZero E.P t = some zs) (h2 : zs.all (·.oneCell') = true) (hz : zs.map (fun z => CA.d (.v z)) = flatE l) :
    OpOK E ⟨dd, .alloc t, ty, pos, af, g⟩ st (.v (.one (.ptr st.nx 0))) ⟨(st.nx, .cells t (flatE l)) :: st.hp, st.tk, st.nx + 1⟩ := by
  rw [← hz]; exact OpOK.alloc h1 h2

theorem RO.indexA {t n sz i off : Nat} {x y : Operand} {m : Int} (ht : tyArr E.P t = some (n, sz)) (hx : ev st.tm x = some (.v (.one (.ptr i off)))) (hy : ev st.tm y = some (TI m)) (hm : (cond (decide (0 ≤ m)) (Nat.blt m.toNat n) false) = true) :
    RO E ⟨d, .indexAddr t x y, ty, pos, af, g⟩ st (.v (.one (.ptr i (off + m.toNat * sz)))) :=
  RO.indexArrOwn ht hx hy (Int.toNat_of_nonneg (of_decide_eq_true (cond_left hm))).symm (blt_t (cond_right hm))

theorem flatI_get {l : List Int} {k : Nat} {v : Int} (h : l[k]? = some v) : (flatE l)[k]? = some (.d (.v (.int .i64 v))) := by
  have h2 := flatE_get (l := l) (k := k) (j := 0) h (by decide)
  have e : k * Enc.sz Int + 0 = k := Nat.mul_one k
  rw [e] at h2; exact h2

theorem RO.loadA {t n i off : Nat} {T : TypeId} {x : Operand} {l : List Int} {v : Int} (ht : tyAgg E.P t = some (false, n)) (hx : ev st.tm x = some (.v (.one (.ptr i off)))) (hi : lk st.hp i = some (.cells T (flatE l))) (hv : l[off]? = some v) :
    RO E ⟨d, .load t x, ty, pos, af, g⟩ st (TI v) := RO.loadOwn ht hx hi (flatI_get hv)

theorem OpOK.storeA {t i off : Nat} {T : TypeId} {o1 o2 : Operand} {l : List Int} {v : Int} (ht : tyAgg E.P t = some (false, 1)) (h1 : ev st.tm o1 = some (.v (.one (.ptr i off)))) (h2 : ev st.tm o2 = some (TI v)) (hi : lk st.hp i = some (.cells T (flatE l))) (hlt : Nat.blt off l.length = true) (hdd : dd = none) :
    OpOK E ⟨dd, .store t o1 o2, ty, pos, af, g⟩ st (.tup []) ⟨(i, .cells T (flatE (l.set off v))) :: dropK i st.hp, st.tk, st.nx⟩ := by
  have hlt' : off < l.length := blt_t hlt
  have := OpOK.store (E := E) (st := st) (dd := dd) (ty := ty) (pos := pos) (af := af) (g := g) ht h1 h2 hi rfl (by rw [flatE_len]; show off + 1 ≤ l.length * 1; omega) hdd
  have e := setL_flat l off v hlt'
  have e2 : off * Enc.sz Int = off := Nat.mul_one off
  rw [e2] at e
  have e3 : (AV.cells (.one (.d (.v (.int .i64 v))))) = (Enc.enc v).map CA.d := rfl
  rw [e3, e] at this
  exact this

/-- a whole array -/
theorem RO.loadArr {t n i : Nat} {T : TypeId} {x : Operand} {l : List Int} (ht : tyAgg E.P t = some (true, n)) (hx : ev st.tm x = some (.v (.one (.ptr i 0)))) (hi : lk st.hp i = some (.cells T (flatE l))) (hn : Nat.beq l.length n = true) :
    RO E ⟨d, .load t x, ty, pos, af, g⟩ st (.v (.agg (flatE l))) := by
  have hl : (flatE l).length = n := by rw [flatE_len]; exact (Nat.mul_one _).trans (Nat.eq_of_beq_eq_true hn)
  exact RO.loadOwnAgg ht hx hi (by rw [List.drop_zero, List.take_of_length_le (Nat.le_of_eq hl)]) hl

theorem OpOK.storeArr {t n i : Nat} {T : TypeId} {o1 o2 : Operand} {l0 l : List Int} (ht : tyAgg E.P t = some (true, n)) (h1 : ev st.tm o1 = some (.v (.one (.ptr i 0)))) (h2 : ev st.tm o2 = some (.v (.agg (flatE l)))) (hi : lk st.hp i = some (.cells T (flatE l0))) (h0 : Nat.beq l0.length n = true) (hn : Nat.beq l.length n = true) (hdd : dd = none) :
    OpOK E ⟨dd, .store t o1 o2, ty, pos, af, g⟩ st (.tup []) ⟨(i, .cells T (flatE l)) :: dropK i st.hp, st.tk, st.nx⟩ := by
  have hl0 : (flatE l0).length = n := by rw [flatE_len]; exact (Nat.mul_one _).trans (Nat.eq_of_beq_eq_true h0)
  have hl : (flatE l).length = n := by rw [flatE_len]; exact (Nat.mul_one _).trans (Nat.eq_of_beq_eq_true hn)
  have := OpOK.store (E := E) (st := st) (dd := dd) (ty := ty) (pos := pos) (af := af) (g := g) ht h1 h2 hi hl (by omega) hdd
  have e := setL_all (AV.cells (.agg (flatE l))) (flatE l0) [] (by show (flatE l0).length = (flatE l).length; omega)
  rw [List.append_nil, List.append_nil] at e
  rw [e] at this
  exact this

theorem OpOK.data2E {α : Type} [Enc α] (v1 v2 : α) {t e : Nat} {zs : List Value} {o1 o2 : Operand} {x1 x2 : AV} {ys : List CA} (ht : tySlice E.P t = some (e, Enc.sz α)) (hze : tyZero E.P e = some zs) (hzl : zs.length = Enc.sz α) (hz : zs.all (·.oneCell') = true) (hlen : 2 * Enc.sz α ≤ 16777216)
    (h1 : ev st.tm o1 = some (.v x1)) (h2 : ev st.tm o2 = some (.v x2)) (hf : fillL (rowPlaces (Enc.sz α) 2) (zeroRow zs 2) [(0, x1), (1, x2)] = some ys) (hs : CSubs ys (Enc.enc v1 ++ Enc.enc v2)) (hel : (Enc.enc v1).length = Enc.sz α ∧ (Enc.enc v2).length = Enc.sz α) :
    OpOK E ⟨d, .buildSlice t 2 #[(0, o1), (1, o2)], ty, pos, af, g⟩ st (.v (.one (.d (.sl (Enc.sz α) (Enc.encL [v1, v2]))))) ⟨st.hp, st.tk, st.nx⟩ :=
  OpOK.litData (avs := [(0, x1), (1, x2)]) (Enc.encL [v1, v2]) ht hze hzl hz hlen rfl (fun j i x hx => by
    match j, hx with
    | 0, hx => cases hx; exact ⟨o1, rfl, h1⟩
    | 1, hx => cases hx; exact ⟨o2, rfl, h2⟩) hf (by rw [Enc.cons, Enc.one]; simpa using hs) (fun x hx => by
      rw [Enc.cons, Enc.one] at hx; simp at hx
      rcases hx with rfl | rfl
      · exact hel.1
      · exact hel.2) (by rw [Enc.len]; rfl)
theorem OpOK.data3E {α : Type} [Enc α] (v1 v2 v3 : α) {t e : Nat} {zs : List Value} {o1 o2 o3 : Operand} {x1 x2 x3 : AV} {ys : List CA} (ht : tySlice E.P t = some (e, Enc.sz α)) (hze : tyZero E.P e = some zs) (hzl : zs.length = Enc.sz α) (hz : zs.all (·.oneCell') = true) (hlen : 3 * Enc.sz α ≤ 16777216)
    (h1 : ev st.tm o1 = some (.v x1)) (h2 : ev st.tm o2 = some (.v x2)) (h3 : ev st.tm o3 = some (.v x3)) (hf : fillL (rowPlaces (Enc.sz α) 3) (zeroRow zs 3) [(0, x1), (1, x2), (2, x3)] = some ys) (hs : CSubs ys (Enc.enc v1 ++ (Enc.enc v2 ++ Enc.enc v3))) (hel : (Enc.enc v1).length = Enc.sz α ∧ (Enc.enc v2).length = Enc.sz α ∧ (Enc.enc v3).length = Enc.sz α) :
    OpOK E ⟨d, .buildSlice t 3 #[(0, o1), (1, o2), (2, o3)], ty, pos, af, g⟩ st (.v (.one (.d (.sl (Enc.sz α) (Enc.encL [v1, v2, v3]))))) ⟨st.hp, st.tk, st.nx⟩ :=
  OpOK.litData (avs := [(0, x1), (1, x2), (2, x3)]) (Enc.encL [v1, v2, v3]) ht hze hzl hz hlen rfl (fun j i x hx => by
    match j, hx with
    | 0, hx => cases hx; exact ⟨o1, rfl, h1⟩
    | 1, hx => cases hx; exact ⟨o2, rfl, h2⟩
    | 2, hx => cases hx; exact ⟨o3, rfl, h3⟩) hf (by rw [Enc.cons, Enc.cons, Enc.one]; simpa using hs) (fun x hx => by
      rw [Enc.cons, Enc.cons, Enc.one] at hx; simp at hx
      rcases hx with rfl | rfl | rfl
      · exact hel.1
      · exact hel.2.1
      · exact hel.2.2) (by rw [Enc.len]; rfl)

theorem XQ.lessTm {Q : Exit → Act → World → Prop} {e : Exit} {tm' : List (Nat × TV)} (h : tmLe st.tm tm') (k : XQ E Q e ⟨tm', st.hp, st.tk, st.nx, st.nt, st.df⟩) : XQ E Q e st := fun V a w hr =>
  k V a w ⟨hr.h, hr.nx, hr.nt, hr.df, fun t x hx => let ⟨y, h1, h2⟩ := h.get t x hx; h2.rel (hr.tm t y h1)⟩

theorem HRel.skip {V : Vu} {hp : List (Nat × HB)} {tk : List (Nat × Option Tok)} {w : World} (h : HRel E V hp tk w) (N : Nat) (hN : V.nx ≤ N) : HRel E { V with nx := N } hp tk w ∧ V.Le { V with nx := N } w w := by
  have hle : V.Le { V with nx := N } w w := ⟨hN, fun _ _ => rfl, fun _ _ => Nat.le_refl _, fun _ _ _ _ => rfl, fun _ _ h => h, fun _ _ _ => rfl⟩
  refine ⟨⟨h.ext, h.le0.trans hle, h.sz, h.sub, fun i B hi => ?_, h.inj, h.new, fun i T hi => ?_, h.tki⟩, hle⟩
  · obtain ⟨h1, o, h2, h3⟩ := h.own i B hi
    exact ⟨Nat.lt_of_lt_of_le h1 hN, o, h2, h3.mono hle⟩
  · obtain ⟨h1, h2⟩ := h.tok i T hi
    exact ⟨Nat.lt_of_lt_of_le h1 hN, h2⟩
theorem XQ.skipTo {e_ : Exit} {Q : Exit → Act → World → Prop} (N : Nat) (hN : st.nx ≤ N) (k : XQ E Q e_ ⟨st.tm, st.hp, st.tk, N, st.nt, st.df⟩) : XQ E Q e_ st := fun V a w hr => by
  obtain ⟨H, L⟩ := hr.h.skip N (by rw [hr.nx]; exact hN)
  exact k _ a w ⟨H, rfl, hr.nt, hr.df.le L, fun t x hx => (hr.tm t x hx).mono L⟩

/-- A nil slice in a slot gets a name. -/
theorem XQ.adoptT {e_ : Exit} {Q : Exit → Act → World → Prop} {t : Nat} (e sz : Nat) (h : lk st.tm t = some (TVv (.slice none 0 0))) (k : XQ E Q e_ ⟨(t, .v (.one (.app st.nx sz []))) :: st.tm, st.hp, (st.nx, some ⟨e, sz, 0⟩) :: st.tk, st.nx + 1, st.nt, st.df⟩) : XQ E Q e_ st := by
  intro V a w hr
  obtain ⟨H, L⟩ := hr.h.tokNil e sz
  refine k (V.tok V.nx 0 (.slice none 0 0) 0 0) a w ⟨by dsimp only; rw [← hr.nx]; exact H, ?_, hr.nt, hr.df.le L, fun t' x hx => ?_⟩
  · show max V.nx (V.nx + 1) = st.nx + 1; rw [hr.nx]; omega
  · dsimp only at hx; rw [lk_cons] at hx
    split at hx
    · rename_i e1; subst e1; cases hx
      have := val_of (hr.tm _ _ h)
      rw [this, ← hr.nx]
      exact app_nil_rel e sz
    · exact (hr.tm t' x hx).mono L

/-- The same for a cell. -/
theorem XQ.adoptC {e_ : Exit} {Q : Exit → Act → World → Prop} {i off : Nat} {T : TypeId} {xs : List CA} (e sz : Nat) (hi : lk st.hp i = some (.cells T xs)) (hx : xs[off]? = some (.d (.v (.slice none 0 0)))) (k : XQ E Q e_ ⟨st.tm, (i, .cells T (xs.set off (.app st.nx sz []))) :: st.hp, (st.nx, some ⟨e, sz, 0⟩) :: st.tk, st.nx + 1, st.nt, st.df⟩) : XQ E Q e_ st := by
  intro V a w hr
  obtain ⟨H, L⟩ := hr.h.tokNil e sz
  have hnx : (V.tok V.nx 0 (.slice none 0 0) 0 0).nx = st.nx + 1 := by show max V.nx (V.nx + 1) = _; rw [hr.nx]; omega
  have hl : ∀ (A : HB) j, j ≠ i → lk ((i, A) :: st.hp) j = lk st.hp j := fun A j hj => by rw [lk_cons, if_neg (fun h => hj h.symm)]
  obtain ⟨hb, o, ho, vs, hvo, hvs⟩ := H.own i _ hi
  have hcell : (xs[off]?).isSome := by rw [hx]; rfl
  obtain ⟨u, hu, hur⟩ := hvs.2 off _ hx
  have hu0 : u = .slice none 0 0 := by cases hur; rfl
  refine k _ a w ⟨?_, hnx, hr.nt, hr.df.le L, fun t' x hx => (hr.tm t' x hx).mono L⟩
  have H' := H
  rw [hr.nx] at H'
  refine ⟨H.ext, H.le0, H.sz, H.sub, ?_, ?_, ?_, ?_, ?_⟩
  · intro j B hj
    dsimp only at hj
    by_cases e1 : j = i
    · subst e1
      rw [lk_cons, if_pos rfl] at hj; cases hj
      refine ⟨hb, o, ho, vs, hvo, by rw [List.length_set]; exact hvs.1, fun m y hy => ?_⟩
      rw [List.getElem?_set] at hy
      split at hy
      · rename_i e2; subst e2
        split at hy
        · cases hy; exact ⟨u, hu, by rw [hu0, ← hr.nx]; exact app_nil_rel e sz⟩
        · cases hy
      · exact hvs.2 m y hy
    · rw [hl _ j e1] at hj; exact H.own j B hj
  · intro j m A B hj hm e1
    dsimp only at hj hm
    rw [lk_cons] at hj hm
    split at hj <;> split at hm
    · rename_i a1 a2; exact a1.symm.trans a2
    · rename_i a1 a2; subst a1; exact H.inj _ _ _ _ hi hm e1
    · rename_i a1 a2; subst a2; exact H.inj _ _ _ _ hj hi e1
    · exact H.inj _ _ _ _ hj hm e1
  · intro j B hj
    dsimp only at hj
    rw [lk_cons] at hj
    split at hj
    · rename_i a1; subst a1; exact H.new _ _ hi
    · exact H.new _ _ hj
  · intro j T' hj
    rw [← hr.nx] at hj
    obtain ⟨b1, b2, ys, b3, b4⟩ := H.tok j T' hj
    refine ⟨b1, b2, ys, b3, fun g' hg' => ⟨(b4 g' hg').1, (b4 g' hg').2.1, fun m B hm => ?_⟩⟩
    dsimp only at hm
    rw [lk_cons] at hm
    split at hm
    · rename_i a1; subst a1; exact (b4 g' hg').2.2 _ _ hi
    · exact (b4 g' hg').2.2 _ _ hm
  · intro j m T' U g' hj hm
    rw [← hr.nx] at hj hm
    exact H.tki j m T' U g' hj hm
theorem XQ.congrTk {Q : Exit → Act → World → Prop} {e : Exit} {tk' : List (Nat × Option Tok)} (h : ∀ j, lk tk' j = lk st.tk j) (k : XQ E Q e ⟨st.tm, st.hp, tk', st.nx, st.nt, st.df⟩) : XQ E Q e st := fun V a w hr =>
  k V a w ⟨hr.h.congr (fun _ => rfl) h, hr.nx, hr.nt, hr.df, hr.tm⟩

/-- A slice held against nil: either way, but only an empty one is nil. -/
theorem XL.eqNil {ro : Option Nat} {n : Nat} {ops : Array Oper} {Q : Exit → Act → World → Prop} {rest : List Oper} {α : Type} [Enc α] {l : List α} {t e : Nat} {tt : TypeId} {x : Operand} {y : CA} {ty' : TypeId} {pos' : String} {af' : Array Edge} {g' : Option (Nat × Bool)}
    (hg : wantedA ops st.tm ⟨some t, .binOp .eql tt x (.const (.slice none 0 0)) ty', ty, pos', af', g'⟩ = some true) (hd : t < st.nt) (ht : tySlice E.P tt = some (e, Enc.sz α)) (hx : ev st.tm x = some (.v (.one y))) (hs : SlE y l)
    (k : ∀ b : Bool, (b = true → l = []) → XL E ro n ops Q rest ⟨(t, TB b) :: st.tm, st.hp, st.tk, st.nx, st.nt, st.df⟩) :
    XL E ro n ops Q (⟨some t, .binOp .eql tt x (.const (.slice none 0 0)) ty', ty, pos', af', g'⟩ :: rest) st := by
  intro V a w h
  obtain ⟨hu, -⟩ := tySlice_spec ht
  obtain ⟨-, ad, cap, b, off, us, hval, -, hne, -⟩ := (hs.sl.reads (h.ev hx)).row
  have hb : ad.isNone = true → l = [] := fun hnone => by
    cases l with
    | nil => rfl
    | cons x' l' =>
      have h1 : Enc.encL (x' :: l') ≠ [] := by rw [Enc.cons]; simp
      rw [hne h1] at hnone; cases hnone
  have hrun : (execOp a.eval ⟨some t, .binOp .eql tt x (.const (.slice none 0 0)) ty', ty, pos', af', g'⟩).run E.P w = .ok (.value (.bool ad.isNone)) w := by
    have he := run_equal_slice_nil (P := E.P) w tt e ad (Enc.encL l).length cap hu
    have hc : a.eval (.const (.slice none 0 0)) = .slice none 0 0 := rfl
    simp only [execOp, hval, hc, eqGuard, binOp, Sem.run_bind]
    simp [he]
  unfold wpListIn
  rw [if_pos (wanted_of h hg)]
  refine ⟨fun _ _ => trivial, ?_⟩
  rw [Oper.semAt_eq _ _ _ (by intro c h; cases h)]
  rw [hrun]
  exact k ad.isNone hb V _ w (h.put (d := t) hd (rel_of rfl))
end
end Go.Proofs.YtcapifnaceegmaaGreatDoor
