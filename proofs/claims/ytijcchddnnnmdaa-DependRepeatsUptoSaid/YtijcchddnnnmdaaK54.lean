/- Part 4 of the proof: rules, mirrors and plain laws. The statement DependRepeatsUpto is proved here: for every list of declarations and every list of names the law returns true, and the arguments read behind the call as they did before; condition: the arguments are of bulk at most 1048576 (the second form). -/
import Derived.Test.YtijcchddnnnmdaaK53
namespace Go.Proofs.Ytijcchddnnnmdaa
open Go.RowKit Go.Shelf
set_option linter.unusedSimpArgs false
set_option linter.unusedVariables false
theorem el_48 : Yf Try.prog 48 = some (23, 360) := by kernel_rfl
def m39f13_l0 (a0 : List (List Int)) (s2 : (List Bool) × Int) (a2 : Bool) (a1 : List Bool) (s3 : (List Bool) × Int) : Option (LO ((List Bool) × Int) (((List Bool)))) :=
 Option.bind (Ja a0 s2.2) fun (x6 : List Int) =>
 cond (decide (s3.2 < (x6.length : Int)))
   (Option.bind (Ja a0 s2.2) fun (x8 : List Int) =>
 Option.bind (Ja x8 s3.2) fun (x9 : Int) =>
 Option.bind (cond a2
   (Option.bind (Ja s3.1 x9) fun (x12 : Bool) =>
 Qy (Nat.beq (Enc.encL s3.1).length ((Enc.encL a1).length))
 (some x12))
   (some false)) (fun (v10 : Bool) => Option.bind (cond v10
   (Option.bind (Ja s3.1 s2.2) fun (x13 : Bool) =>
 Qy (Nat.beq (Enc.encL s3.1).length ((Enc.encL a1).length))
 (some (s3.1.set s2.2.toNat true)))
   (some s3.1)) (fun (v11 : (List Bool)) => Option.bind (cond (!a2)
   (Option.bind (Ja v11 s2.2) fun (x14 : Bool) =>
 Qy (Nat.beq (Enc.encL v11).length ((Enc.encL a1).length))
 (some x14))
   (some false)) (fun (v12 : Bool) => cond v12
   (Option.bind (Ja v11 x9) fun (x14 : Bool) =>
 Qy (Nat.beq (Enc.encL v11).length ((Enc.encL a1).length))
 (some (.next ((v11.set x9.toNat true), (QZ (s3.2 + 1))))))
   (some (.next (v11, (QZ (s3.2 + 1)))))))))
   (some (.done s3.1))
def m39f13_l1 (a0 : List (List Int)) (a2 : Bool) (a1 : List Bool) (s2 : (List Bool) × Int) : Option (LO ((List Bool) × Int) (((List Bool)))) :=
 cond (decide (s2.2 < (a0.length : Int)))
   (Option.bind (Qw (m39f13_l0 a0 s2 a2 a1) QF (s2.1, 0)) (fun (o5 : (List Bool)) => some (.next (o5, (QZ (s2.2 + 1))))))
   (some (.done s2.1))
def m39f13_l2 (a0 : List (List Int)) (a2 : Bool) (a1 : List Bool) (s1 : (List Bool) × Int) : Option (LO ((List Bool) × Int) (((List Bool)))) :=
 cond (decide (s1.2 < (a0.length : Int)))
   (Option.bind (Qw (m39f13_l1 a0 a2 a1) QF (s1.1, 0)) (fun (o3 : (List Bool)) => some (.next (o3, (QZ (s1.2 + 1))))))
   (some (.done s1.1))
def m39f13 (a0 : List (List Int)) (a1 : List Bool) (a2 : Bool) : Option ((List Bool)) :=
 Option.bind (Qw (m39f13_l2 a0 a2 a1) QF (a1, 0)) (fun (o1 : (List Bool)) => Qy (Nat.beq (Enc.encL o1).length ((Enc.encL a1).length))
 (some o1))
def m16_l0 (a0 : List Dcl) (s2 : (List Bool) × Int) : Option (LO ((List Bool) × Int) (((List Bool)))) :=
 cond (decide (s2.2 < (a0.length : Int)))
   (Qy (Nat.ble (s2.1.length + ([false]).length) 1000000000)
 (some (.next ((s2.1 ++ ([false])), (QZ (s2.2 + 1))))))
   (some (.done s2.1))
def m16_l1 (a1 : List U3) (a0 : List Dcl) (o7 : (List Bool)) (s2 : (List Bool) × Int) : Option (LO ((List Bool) × Int) (((List Bool)) ⊕ (Unit ⊕ ((List Bool))))) :=
 cond (decide (s2.2 < (a1.length : Int)))
   (Option.bind (Ja a1 s2.2) fun (x10 : U3) =>
 Option.bind (m48 a0 x10) fun (x11 : Int) =>
 cond (decide (x11 < 0))
   (some (.done (.inr (.inl ()))))
   (Option.bind (Ja s2.1 x11) fun (x13 : Bool) =>
 Qy (Nat.beq (Enc.encL s2.1).length ((Enc.encL o7).length))
 (some (.next ((s2.1.set x11.toNat true), (QZ (s2.2 + 1)))))))
   (some (.done (.inl s2.1)))
def m16_l2 (a0 : List Dcl) (x20 : (List Bool)) (s1 : (List Dcl) × Int) : Option (LO ((List Dcl) × Int) (((List Dcl)))) :=
 cond (decide (s1.2 < (a0.length : Int)))
   (Option.bind (Ja x20 s1.2) fun (x23 : Bool) =>
 cond x23
   (Option.bind (Ja a0 s1.2) fun (x25 : Dcl) =>
 Qy (Nat.ble (s1.1.length + ([x25]).length) 1000000000)
 (some (.next ((s1.1 ++ ([x25])), (QZ (s1.2 + 1))))))
   (some (.next (s1.1, (QZ (s1.2 + 1))))))
   (some (.done s1.1))
def m16 (a0 : List Dcl) (a1 : List U3) : Option ((List Dcl) × Int) :=
 Option.bind (m25 a0) fun (x1 : (List (List Int)) × Int) =>
 cond (x1.2 != 0)
   (some (([] : List Dcl), x1.2))
   (Option.bind (Option.bind (Qw (m16_l0 a0) QF (([] : List Bool), 0)) (fun (o7 : (List Bool)) => Option.bind (Qw (m16_l1 a1 a0 o7) QF (o7, 0)) (Sum.elim (fun (o8 : (List Bool)) => Qy (Nat.beq (Enc.encL o8).length ((Enc.encL o7).length))
 (some (.inr o8))) (fun o => some o)))) (Sum.elim (fun (y3 : Unit) => some (([] : List Dcl), 9)) (fun (y4 : (List Bool)) => Option.bind (m39f13 x1.1 y4 false) fun (x20 : (List Bool)) =>
 Option.bind (Qw (m16_l2 a0 x20) QF (([] : List Dcl), 0)) (fun (o21 : (List Dcl)) => some (o21, 0)))))
def m13_l0 (a0 : List Dcl) (s2 : (List Bool) × Int) : Option (LO ((List Bool) × Int) (((List Bool)))) :=
 cond (decide (s2.2 < (a0.length : Int)))
   (Qy (Nat.ble (s2.1.length + ([false]).length) 1000000000)
 (some (.next ((s2.1 ++ ([false])), (QZ (s2.2 + 1))))))
   (some (.done s2.1))
def m13_l1 (a1 : List U3) (a0 : List Dcl) (o7 : (List Bool)) (s2 : (List Bool) × Int) : Option (LO ((List Bool) × Int) (((List Bool)) ⊕ (Unit ⊕ ((List Bool))))) :=
 cond (decide (s2.2 < (a1.length : Int)))
   (Option.bind (Ja a1 s2.2) fun (x10 : U3) =>
 Option.bind (m48 a0 x10) fun (x11 : Int) =>
 cond (decide (x11 < 0))
   (some (.done (.inr (.inl ()))))
   (Option.bind (Ja s2.1 x11) fun (x13 : Bool) =>
 Qy (Nat.beq (Enc.encL s2.1).length ((Enc.encL o7).length))
 (some (.next ((s2.1.set x11.toNat true), (QZ (s2.2 + 1)))))))
   (some (.done (.inl s2.1)))
def m13_l2 (a0 : List Dcl) (x20 : (List Bool)) (s1 : (List U3) × Int) : Option (LO ((List U3) × Int) (((List U3)))) :=
 cond (decide (s1.2 < (a0.length : Int)))
   (Option.bind (Ja x20 s1.2) fun (x23 : Bool) =>
 cond x23
   (Option.bind (Ja a0 s1.2) fun (x25 : Dcl) =>
 Option.bind (W0 x25) fun (x26 : (List U3)) =>
 Qy (Nat.ble (s1.1.length + x26.length) 1000000000)
 (some (.next ((s1.1 ++ x26), (QZ (s1.2 + 1))))))
   (some (.next (s1.1, (QZ (s1.2 + 1))))))
   (some (.done s1.1))
def m13 (a0 : List Dcl) (a1 : List U3) : Option ((List U3) × Int) :=
 Option.bind (m25 a0) fun (x1 : (List (List Int)) × Int) =>
 cond (x1.2 != 0)
   (some (([] : List U3), x1.2))
   (Option.bind (Option.bind (Qw (m13_l0 a0) QF (([] : List Bool), 0)) (fun (o7 : (List Bool)) => Option.bind (Qw (m13_l1 a1 a0 o7) QF (o7, 0)) (Sum.elim (fun (o8 : (List Bool)) => Qy (Nat.beq (Enc.encL o8).length ((Enc.encL o7).length))
 (some (.inr o8))) (fun o => some o)))) (Sum.elim (fun (y3 : Unit) => some (([] : List U3), 9)) (fun (y4 : (List Bool)) => Option.bind (m39f13 x1.1 y4 true) fun (x20 : (List Bool)) =>
 Option.bind (Qw (m13_l2 a0 x20) QF (([] : List U3), 0)) (fun (o21 : (List U3)) => some (o21, 0)))))
end Go.Proofs.Ytijcchddnnnmdaa
namespace Go.Proofs.Ytijcchddnnnmdaa
open Go.RowKit Go.Lib
set_option linter.unusedSimpArgs false
set_option linter.unusedVariables false
set_option linter.unusedSectionVars false
def WY (b : List Bool) (i : Nat) : Prop := b[i]? = some true
def Closed (E : Nat → Nat → Prop) (C : Nat → Prop) : Prop := ∀ i j, E i j → C i → C j
structure Least (E : Nat → Nat → Prop) (n : Nat) (S : Nat → Prop) (b : List Bool) : Prop where
  len : b.length = n
  start : ∀ i, S i → WY b i
  cl : Closed E (WY b)
  min : ∀ C : Nat → Prop, (∀ i, S i → C i) → Closed E C → ∀ i, WY b i → C i
theorem on_set {b : List Bool} {i : Nat} (hi : i < b.length) (k : Nat) : WY (b.set i true) k ↔ k = i ∨ WY b k := by
  unfold WY
  rw [List.getElem?_set]
  by_cases e : i = k
  · subst e; rw [if_pos rfl, if_pos hi]; simp
  · rw [if_neg e]; exact ⟨.inr, fun h => h.elim (fun h => absurd h.symm e) id⟩
theorem on_ext {a b : List Bool} (hl : a.length = b.length) (h : ∀ i, WY a i ↔ WY b i) : a = b := by
  refine List.ext_getElem? fun i => ?_
  by_cases hi : i < a.length
  · have e1 : a[i]? = some a[i] := List.getElem?_eq_getElem hi
    have e2 : b[i]? = some b[i] := List.getElem?_eq_getElem (by omega)
    have := h i
    unfold WY at this
    rw [e1, e2] at this ⊢
    cases ha : a[i] <;> cases hb : b[i] <;> simp [ha, hb] at this ⊢
  · rw [List.getElem?_eq_none (by omega), List.getElem?_eq_none (by omega)]
theorem on_cases {b : List Bool} {i : Nat} (hi : i < b.length) : (b[i]? = some true ∧ WY b i) ∨ (b[i]? = some false ∧ ¬ WY b i) := by
  have e1 : b[i]? = some b[i] := List.getElem?_eq_getElem hi
  unfold WY
  rw [e1]
  cases b[i] <;> simp
theorem off_on (n i : Nat) : ¬ WY (List.replicate n false) i := by
  unfold WY
  rw [List.getElem?_replicate]
  split <;> simp
def Xz : List Bool → Nat
  | [] => 0
  | true :: b => Xz b
  | false :: b => Xz b + 1
theorem cnt_le : ∀ b : List Bool, Xz b ≤ b.length
  | [] => Nat.le_refl _
  | true :: b => by have := cnt_le b; simp only [Xz, List.length_cons]; omega
  | false :: b => by have := cnt_le b; simp only [Xz, List.length_cons]; omega
theorem cnt_mono : ∀ (a b : List Bool), a.length = b.length → (∀ i, WY a i → WY b i) → Xz b ≤ Xz a
  | [], [], _, _ => Nat.le_refl _
  | [], _ :: _, h, _ => by cases h
  | _ :: _, [], h, _ => by cases h
  | x :: a, y :: b, hl, h => by
    have ih := cnt_mono a b (by simpa using hl) fun i hi => h (i + 1) hi
    cases x <;> cases y <;> simp only [Xz] <;> try omega
    have := h 0 rfl
    cases this
theorem cnt_set : ∀ (b : List Bool) (i : Nat), b[i]? = some false → Xz (b.set i true) < Xz b
  | [], i, h => by cases h
  | x :: b, 0, h => by cases h; simp only [List.set_cons_zero, Xz]; omega
  | x :: b, i + 1, h => by
    have := cnt_set b i h
    cases x <;> simp only [List.set_cons_succ, Xz] <;> omega
def Ed (g : List (List Int)) (i j : Nat) : Prop := ∃ l, g[i]? = some l ∧ (j : Int) ∈ l
def GrB (g : List (List Int)) (n B : Nat) : Prop := g.length = n ∧ ∀ l ∈ g, l.length ≤ B ∧ ∀ j ∈ l, ∃ k : Nat, k < n ∧ j = (k : Int)
theorem Ed.lt {g : List (List Int)} {n B i j : Nat} (hg : GrB g n B) (h : Ed g i j) : i < n ∧ j < n := by
  obtain ⟨l, h1, h2⟩ := h
  obtain ⟨h3, h4⟩ := List.getElem?_eq_some_iff.1 h1
  obtain ⟨k, h5, h6⟩ := (hg.2 l (List.mem_of_getElem? h1)).2 _ h2
  exact ⟨by rw [← hg.1]; exact h3, by omega⟩
structure Vis (E : Nat → Nat → Prop) (b b' : List Bool) (T : Nat → Prop) : Prop where
  len : b'.length = b.length
  mono : ∀ k, WY b k → WY b' k
  tgt : ∀ i, T i → WY b' i
  cl : ∀ k j, WY b' k → ¬ WY b k → E k j → WY b' j
  min : ∀ C : Nat → Prop, Closed E C → (∀ i, T i → C i) → ∀ k, WY b' k → WY b k ∨ C k
theorem Vis.refl {E : Nat → Nat → Prop} {b : List Bool} {T : Nat → Prop} (h : ∀ i, T i → WY b i) : Vis E b b T :=
  ⟨rfl, fun _ h => h, h, fun k j h1 h2 _ => absurd h1 h2, fun _ _ _ _ h => .inl h⟩
theorem Vis.trans {E : Nat → Nat → Prop} {b b' b'' : List Bool} {T T' T'' : Nat → Prop} (h : Vis E b b' T) (h' : Vis E b' b'' T') (hT : ∀ i, T'' i ↔ T i ∨ T' i) : Vis E b b'' T'' where
  len := by rw [h'.len, h.len]
  mono k hk := h'.mono k (h.mono k hk)
  tgt i hi := ((hT i).1 hi).elim (fun e => h'.mono i (h.tgt i e)) (h'.tgt i)
  cl k j h1 h2 e := by
    by_cases h3 : WY b' k
    · exact h'.mono j (h.cl k j h3 h2 e)
    · exact h'.cl k j h1 h3 e
  min C WE hT' k hk := (h'.min C WE (fun i hi => hT' i ((hT i).2 (.inr hi))) k hk).elim (h.min C WE (fun i hi => hT' i ((hT i).2 (.inl hi))) k) .inr
theorem Vis.enter {E : Nat → Nat → Prop} {b b' : List Bool} {i : Nat} (hi : i < b.length) (h : Vis E (b.set i true) b' (E i)) : Vis E b b' (fun k => k = i) where
  len := by rw [h.len, List.length_set]
  mono k hk := h.mono k ((on_set hi k).2 (.inr hk))
  tgt k hk := h.mono k ((on_set hi k).2 (.inl hk))
  cl k j h1 h2 e := by
    by_cases h3 : k = i
    · subst h3; exact h.tgt j e
    · exact h.cl k j h1 (fun h4 => ((on_set hi k).1 h4).elim h3 h2) e
  min C WE hT k hk := (h.min C WE (fun j hj => WE i j hj (hT i rfl)) k hk).elim (fun h4 => ((on_set hi k).1 h4).elim (fun e => .inr (by rw [e]; exact hT i rfl)) .inl) .inr
theorem Vis.least {E : Nat → Nat → Prop} {n : Nat} {T : Nat → Prop} {b : List Bool} (h : Vis E (List.replicate n false) b T) : Least E n T b where
  len := by rw [h.len, List.length_replicate]
  start := h.tgt
  cl i j e hi := h.cl i j hi (off_on n i) e
  min C hT WE i hi := (h.min C WE hT i hi).elim (fun h => absurd h (off_on n i)) id
theorem dfs {g : List (List Int)} {n B : Nat} (hg : GrB g n B) (hB : B ≤ 900000000) : ∀ (fuel i : Nat) (b : List Bool), i < n → b.length = n → Xz b < fuel →
    ∃ b', Yb m56f12F fuel ((i : Int), n, b, g) = some b' ∧ Vis (Ed g) b b' (fun k => k = i) := by
  intro fuel
  induction fuel with
  | zero => intro i b _ _ h; omega
  | succ fuel ih =>
    intro i b hi hb hc
    show ∃ b', Gh (Yb m56f12F fuel) (i : Int) n b g = some b' ∧ _
    unfold Gh
    rcases on_cases (b := b) (i := i) (by omega) with ⟨e, ho⟩ | ⟨e, ho⟩
    · rw [X4 e]
      simp only [Option.bind_some]
      rw [YG hb]
      exact ⟨b, rfl, .refl fun k hk => by rw [hk]; exact ho⟩
    · rw [X4 e]
      simp only [Option.bind_some]
      rw [YG hb]
      simp only [cond_false]
      rw [YG hb]
      have hil : i < g.length := by rw [hg.1]; exact hi
      have el : g[i]? = some g[i] := List.getElem?_eq_getElem hil
      obtain ⟨hl1, hl2⟩ := hg.2 g[i] (List.getElem_mem hil)
      rw [X4 el]
      simp only [Option.bind_some, Int.toNat_natCast]
      obtain ⟨b', e1, h1⟩ := Jx (step := Zy g[i] (Yb m56f12F fuel) n g) g[i] (fun k s => (k, s))
        (fun a s => Vis (Ed g) (b.set i true) s (fun k => (k : Int) ∈ a)) (fun r => Vis (Ed g) (b.set i true) r (fun k => (k : Int) ∈ g[i])) (by omega)
        (fun a x c s e2 hI => by
          obtain ⟨k, hk, rfl⟩ := hl2 x (by rw [e2]; simp)
          have hcs := cnt_set b i e
          have hcm := cnt_mono (b.set i true) s hI.len.symm hI.mono
          obtain ⟨s', e3, h3⟩ := ih k s hk (by rw [hI.len, List.length_set]; exact hb) (by omega)
          refine .inr ⟨s', ?_, hI.trans h3 fun j => ?_⟩
          · unfold Zy
            dsimp only
            rw [e2, Jd, QY]
            simp only [cond_true, Option.bind_some]
            rw [e3]; rfl
          · rw [List.mem_append, List.mem_singleton]
            exact ⟨fun h => h.elim .inl fun h => .inr (by omega), fun h => h.elim .inl fun h => .inr (by omega)⟩)
        (fun s hI => ⟨s, by unfold Zy; dsimp only; rw [Jm]; rfl, hI⟩) (b.set i true) (.refl fun k hk => by cases hk)
      rw [e1]
      refine ⟨b', rfl, Vis.enter (by omega) ⟨h1.len, h1.mono, fun k hk => h1.tgt k ?_, h1.cl, fun C WE hT k hk => h1.min C WE (fun j hj => hT j ⟨g[i], el, hj⟩) k hk⟩⟩
      obtain ⟨l, h2, h3⟩ := hk
      rw [el] at h2
      cases h2
      exact h3
def ZV (env : List Dcl) (a : List U3) (i : Nat) : Prop := ∃ s ∈ a, Zg 0 env s = some (i : Int)
theorem visits_eq {env : List Dcl} {g rv : List (List Int)} {M : WZ} {n B : Nat} (hn : env.length = n) (hg : GrB rv n B) (hB : B ≤ 900000000) (hN : n ≤ 900000000) (hM : ∀ s, Zi M s = Zg 0 env s) (a : List U3) (ha : a.length ≤ 900000000) :
    ∃ r, Qw (ZX a (g, M) rv) QF (0, List.replicate n false) = some r ∧
      (((∀ s ∈ a, s ∈ QE env) ∧ ∃ b, r = .inl b ∧ Least (Ed rv) n (ZV env a) b) ∨ (¬ (∀ s ∈ a, s ∈ QE env) ∧ r = .inr (.inl ()))) := by
  refine Jx (step := ZX a (g, M) rv) a (fun k s => (k, s)) (fun p s => (∀ x ∈ p, x ∈ QE env) ∧ Vis (Ed rv) (List.replicate n false) s (ZV env p)) _ ha ?_ ?_ _ ⟨fun x hx => (by cases hx), .refl fun i hi => (by obtain ⟨s, hs, -⟩ := hi; cases hs)⟩
  · rintro p x c s e ⟨hp, hI⟩
    by_cases hx : x ∈ QE env
    · obtain ⟨k, hk, e1⟩ := ownV_range hx
      have hb : s.length = n := by rw [hI.len, List.length_replicate]
      have hcs := cnt_le s
      obtain ⟨s', e2, h2⟩ := dfs hg hB QF k s (by omega) hb (by unfold QF; omega)
      refine .inr ⟨s', ?_, fun y hy => (List.mem_append.1 hy).elim (hp y) (fun h => by rw [List.mem_singleton.1 h]; exact hx), hI.trans h2 fun i => ?_⟩
      · unfold ZX
        dsimp only
        have e3 : Jt M x = true := by unfold Jt; rw [hM, e1]; rfl
        have e4 : Je M x = (k : Int) := by unfold Je; rw [hM, e1]; rfl
        rw [e, Jd, QY]
        simp only [cond_true, Option.bind_some]
        rw [e3, e4, hg.1]
        simp only [Bool.not_true, cond_false, Int.toNat_natCast]
        unfold m56f12
        rw [e2]; rfl
      · unfold ZV
        constructor
        · rintro ⟨y, hy, e3⟩
          rcases List.mem_append.1 hy with h | h
          · exact .inl ⟨y, h, e3⟩
          · rw [List.mem_singleton.1 h, e1] at e3
            exact .inr (by injection e3; omega)
        · rintro (⟨y, hy, e3⟩ | rfl)
          · exact ⟨y, List.mem_append_left _ hy, e3⟩
          · exact ⟨x, by simp, e1⟩
    · refine .inl ⟨_, ?_, .inr ⟨fun h => hx (h x (by rw [e]; simp)), rfl⟩⟩
      unfold ZX
      dsimp only
      have e3 : Jt M x = false := by unfold Jt; rw [hM, (Zw x env 0).2 hx]; rfl
      rw [e, Jd, QY]
      simp only [cond_true, Option.bind_some]
      rw [e3]; rfl
  · rintro s ⟨hp, hI⟩
    refine ⟨.inl s, ?_, .inl ⟨hp, s, rfl, hI.least⟩⟩
    unfold ZX
    dsimp only
    rw [Jm]; rfl
end Go.Proofs.Ytijcchddnnnmdaa
namespace Go.Proofs.Ytijcchddnnnmdaa
open Go.RowKit Go.Lib
set_option linter.unusedSimpArgs false
set_option linter.unusedVariables false
set_option linter.unusedSectionVars false
structure Up (E : Nat → Nat → Prop) (b b' : List Bool) (T : Nat → Nat → Prop) : Prop where
  len : b'.length = b.length
  mono : ∀ k, WY b k → WY b' k
  stp : ∀ s t, T s t → WY b s → WY b' t
  min : ∀ C : Nat → Prop, Closed E C → (∀ k, WY b k → C k) → ∀ k, WY b' k → C k
def U2 (d : Bool) (g : List (List Int)) (i j : Nat) : Prop := cond d (Ed g j i) (Ed g i j)
theorem GrB.set {rv : List (List Int)} {n B : Nat} (h : GrB rv n B) {j i : Nat} {l : List Int} (hj : rv[j]? = some l) (hi : i < n) (hl : l.length < B) : GrB (rv.set j (l ++ [(i : Int)])) n B := by
  refine ⟨by rw [List.length_set]; exact h.1, fun m hm => ?_⟩
  rcases List.mem_or_eq_of_mem_set hm with hm | rfl
  · exact h.2 m hm
  · obtain ⟨h1, h2⟩ := h.2 l (List.mem_of_getElem? hj)
    refine ⟨by simp; omega, fun x hx => ?_⟩
    rcases List.mem_append.1 hx with hx | hx
    · exact h2 x hx
    · exact ⟨i, hi, List.mem_singleton.1 hx⟩
theorem GrB.le {rv : List (List Int)} {n B B' : Nat} (h : GrB rv n B) (hB : B ≤ B') : GrB rv n B' := ⟨h.1, fun l hl => ⟨Nat.le_trans (h.2 l hl).1 hB, (h.2 l hl).2⟩⟩
theorem Ed.set {rv : List (List Int)} {j i : Nat} {l : List Int} (hj : rv[j]? = some l) (a b : Nat) : Ed (rv.set j (l ++ [(i : Int)])) a b ↔ Ed rv a b ∨ (a = j ∧ b = i) := by
  unfold Ed
  have hjl := (List.getElem?_eq_some_iff.1 hj).1
  rw [List.getElem?_set]
  by_cases e : j = a
  · subst e
    rw [if_pos rfl, if_pos hjl, hj]
    constructor
    · rintro ⟨m, hm, hb⟩
      cases hm
      rcases List.mem_append.1 hb with hb | hb
      · exact .inl ⟨l, rfl, hb⟩
      · have := List.mem_singleton.1 hb
        exact .inr ⟨rfl, by omega⟩
    · rintro (⟨m, hm, hb⟩ | ⟨-, rfl⟩)
      · cases hm; exact ⟨_, rfl, List.mem_append_left _ hb⟩
      · exact ⟨_, rfl, by simp⟩
  · rw [if_neg e]
    exact ⟨.inl, fun h => h.elim id fun h => absurd h.1.symm e⟩
theorem turn_row {g : List (List Int)} {n : Nat} (hn : n ≤ 1000) (hgl : g.length = n) (x : List Int) (hx : x.length ≤ n) (hx2 : ∀ j ∈ x, ∃ k : Nat, k < n ∧ j = (k : Int)) (i B : Nat) (hi : i < n) (hB : B ≤ 900000000) (rv : List (List Int)) (hr : GrB rv n B) :
    ∃ r, Qw (G3 x g ((i : Int), rv)) QF (0, rv) = some r ∧ GrB r n (B + n) ∧ ∀ a b, Ed r a b ↔ Ed rv a b ∨ ((a : Int) ∈ x ∧ b = i) := by
  obtain ⟨r, e1, h1, h2⟩ := Jx (step := G3 x g ((i : Int), rv)) x (fun k s => (k, s))
    (fun p s => GrB s n (B + p.length) ∧ ∀ a b, Ed s a b ↔ Ed rv a b ∨ ((a : Int) ∈ p ∧ b = i)) (fun r => GrB r n (B + x.length) ∧ ∀ a b, Ed r a b ↔ Ed rv a b ∨ ((a : Int) ∈ x ∧ b = i)) (by omega)
    (fun p y c s e hI => by
      obtain ⟨hI, hE⟩ := hI
      obtain ⟨k, hk, rfl⟩ := hx2 y (by rw [e]; simp)
      have hpx := Z7 e
      have hks : k < s.length := by rw [hI.1]; exact hk
      have ek : s[k]? = some s[k] := List.getElem?_eq_getElem hks
      have hlk := (hI.2 s[k] (List.getElem_mem _)).1
      refine .inr ⟨s.set k (s[k] ++ [(i : Int)]), ?_, ?_, ?_⟩
      · unfold G3
        dsimp only
        rw [e, Jd, QY]
        simp only [cond_true, Option.bind_some]
        rw [X4 ek]
        simp only [Option.bind_some, Int.toNat_natCast]
        rw [YG (by rw [hI.1, hgl]), Jq (by rw [hI.1]; exact hn), Jq (by simp; omega), YG (by rw [hI.1, hgl]), Jq (by rw [hI.1]; exact hn)]
      · rw [List.length_append, List.length_singleton, ← Nat.add_assoc]
        exact (hI.le (Nat.le_succ _)).set ek hi (by omega)
      · intro a b
        rw [Ed.set ek, hE, List.mem_append, List.mem_singleton]
        constructor
        · rintro ((h | ⟨h, h'⟩) | ⟨h, h'⟩)
          · exact .inl h
          · exact .inr ⟨.inl h, h'⟩
          · exact .inr ⟨.inr (by omega), h'⟩
        · rintro (h | ⟨h | h, h'⟩)
          · exact .inl (.inl h)
          · exact .inl (.inr ⟨h, h'⟩)
          · exact .inr ⟨by omega, h'⟩)
    (fun s hI => ⟨s, by unfold G3; dsimp only; rw [Jm]; rfl, hI⟩) rv ⟨hr, fun a b => ⟨.inl, fun h => h.elim id fun h => absurd h.1 (by simp)⟩⟩
  exact ⟨r, e1, h1.le (by omega), h2⟩
theorem m36_eq {g : List (List Int)} {n : Nat} (hg : GrB g n n) (hn : n ≤ 1000) : ∃ rv, W7 g = some rv ∧ GrB rv n (n * n) ∧ ∀ i j, Ed rv i j ↔ Ed g j i := by
  have hnn : n * n ≤ 1000 * 1000 := Nat.mul_le_mul hn hn
  unfold W7
  rw [hg.1]
  simp only [Int.toNat_natCast]
  rw [show decide (0 ≤ (n : Int)) = true from by rw [decide_eq_true_eq]; omega]
  simp only [cond_true]
  rw [Jq hn]
  obtain ⟨r, e1, h1, h2⟩ := Jx (step := GD g) g (fun k s => (k, s))
    (fun p s => GrB s n (p.length * n) ∧ ∀ a b, Ed s a b ↔ b < p.length ∧ Ed g b a) (fun r => GrB r n (g.length * n) ∧ ∀ a b, Ed r a b ↔ b < g.length ∧ Ed g b a) (by rw [hg.1]; omega)
    (fun p x c s e hI => by
      obtain ⟨hI, hE⟩ := hI
      have hpn : p.length < n := by rw [← hg.1]; exact Z7 e
      have hxg := hg.2 x (by rw [e]; simp)
      have ep : g[p.length]? = some x := by rw [e]; simp
      obtain ⟨s', e2, h2, h3⟩ := turn_row hn hg.1 x hxg.1 hxg.2 p.length (p.length * n) hpn (by have := Nat.mul_le_mul_right n (Nat.le_of_lt hpn); omega) s hI
      refine .inr ⟨s', ?_, ?_, ?_⟩
      · unfold GD
        dsimp only
        rw [show decide ((p.length : Int) < (g.length : Int)) = true from by rw [e, Jd], show Ja g (p.length : Int) = some x from X4 ep]
        simp only [cond_true, Option.bind_some]
        rw [e2]; rfl
      · rw [List.length_append, List.length_singleton, Nat.succ_mul]
        exact h2
      · intro a b
        rw [h3, hE, List.length_append, List.length_singleton]
        constructor
        · rintro (⟨h, h'⟩ | ⟨h, rfl⟩)
          · exact ⟨by omega, h'⟩
          · exact ⟨by omega, x, ep, h⟩
        · rintro ⟨h, h'⟩
          by_cases hb : b = p.length
          · subst hb
            obtain ⟨l, h4, h5⟩ := h'
            rw [ep] at h4; cases h4
            exact .inr ⟨h5, rfl⟩
          · exact .inl ⟨by omega, h'⟩)
    (fun s hI => ⟨s, by unfold GD; dsimp only; rw [Jm]; rfl, hI⟩) (List.replicate n []) ⟨⟨by simp, fun l hl => by rw [List.eq_of_mem_replicate hl]; exact ⟨Nat.zero_le _, fun j hj => by cases hj⟩⟩, fun a b => by
      constructor
      · rintro ⟨l, h1, h2⟩
        rw [List.getElem?_replicate] at h1
        split at h1
        · cases h1; cases h2
        · cases h1
      · rintro ⟨h, -⟩; exact absurd h (by simp)⟩
  rw [e1]
  simp only [Option.bind_some]
  rw [YG h1.1, ← hg.1]
  rw [hg.1] at h1
  refine ⟨r, rfl, by rw [hg.1]; exact h1, fun i j => (h2 i j).trans ⟨fun h => h.2, fun h => ⟨by rw [hg.1]; exact (h.lt hg).1, h⟩⟩⟩
end Go.Proofs.Ytijcchddnnnmdaa
namespace Go.Proofs.Ytijcchddnnnmdaa
open Go.RowKit Go.Shelf
set_option linter.unusedSimpArgs false
set_option linter.unusedVariables false
theorem XG : KK Try.prog 9 = true := by kernel_rfl
theorem en_9 : J7 Try.prog 9 := enters_of Try.func9 (by kernel_rfl) rfl
theorem en_30 : J7 Try.prog 30 := enters_of Try.func30 (by kernel_rfl) rfl
theorem en_50 : J7 Try.prog 50 := enters_of Try.func50 (by kernel_rfl) rfl
theorem en_51 : J7 Try.prog 51 := enters_of Try.func51 (by kernel_rfl) rfl
theorem en_65 : J7 Try.prog 65 := enters_of Try.func65 (by kernel_rfl) rfl
theorem en_66 : J7 Try.prog 66 := enters_of Try.func66 (by kernel_rfl) rfl
def Gz (a0 : Tm) (rc : Tm → Option Int) (s1 : Int × Int) : Option (LO (Int × Int) Int) :=
 cond (decide (s1.2 < (a0.kids.length : Int)))
   (Option.bind (Ja a0.kids s1.2) fun (x3 : Tm) =>
 Option.bind (rc x3) fun (x4 : Int) =>
 some (.next ((QZ (s1.1 + x4)), (QZ (s1.2 + 1)))))
   (some (.done s1.1))
def XJ (rc : Tm → Option Int) (a0 : Tm) : Option Int :=
 Option.bind (Qw (Gz a0 rc) QF (1, 0)) (fun (o1 : Int) => some o1)
def XK (rc : Tm → Option Int) (u : Tm) : Option Int := XJ rc u
def m65 (a0 : Tm) : Option Int := Yb XK QF a0
set_option maxRecDepth 100000 in
set_option maxHeartbeats 2000000 in
theorem m65s_ok (rc : Tm → Option Int) (H : ∀ (a0 : Tm) (r : Int), rc a0 = some r → Fun Try.prog 65 [.agg (WO a0)] (QA [.one (WL r)])) (a0 : Tm) (r : Int) (h0 : XJ rc a0 = some r) : Fun Try.prog 65 [.agg (WO a0)] (QA [.one (WL r)]) := by
 unfold XJ at h0
 refine QU 9 21 Try.func65 rfl en_65 rfl (Wx rfl) (fun S w => ?_)
 simp only [Jb]
 refine Q2 <| Q0 <| Qa rfl rfl (Wx rfl) (Jc rfl) <| Wo rfl rfl rfl <| Q3 <| Q1 <| Q2 <| Q0 <| Wo rfl rfl rfl <| Q3 <| Q1 <| Q2 <| Q2 <| Q0 ?_
 refine Wo rfl rfl rfl <| Q3 <| Q1 <| Qc ?_
 refine QI 0 (fun (o1 : Int) => ⟨[(3, .v (.one (WL o1)))], [(0, .cells 42 (WO a0))], [], 1, 21, []⟩) (fun (o1 : Int) => (some o1) = some r) ?_ ?_
 refine Qb h0 (fun o2 hl1 h0 => ?_)
 refine QH (Gz a0 rc) (fun s1 => ⟨[(1, .v (.one (.ptr 0 0))), (3, .v (.one (WL s1.1))), (4, .v (.one (WL s1.2)))], [(0, .cells 42 (WO a0))], [], 1, 21, []⟩) (1, 0) o2 (Qf (Wi rfl (Wi rfl (Wi rfl Wh))) (WD rfl WC) Wy rfl (Nat.zero_le _) rfl rfl rfl (WU rfl rfl WR) rfl rfl) hl1 (fun s1 n1 oo1 h1 ho1 => ?_)
 unfold Gz at h1
 refine Q2 <| Q2 <| Q0 <| Wn rfl rfl rfl <| Wm rfl rfl rfl (Q6 Ze rfl) <| Wm rfl rfl rfl (Q7 Yk rfl rfl rfl) <| Wm rfl rfl rfl (QC (α := Tm) JQ rfl (.d _)) <| Wm rfl rfl rfl (Q8 rfl rfl rfl) <| Q3 <| Q1 ?_
 refine Qe (b := (decide (s1.2 < (a0.kids.length : Int)))) rfl (fun c3 => ?_) (fun c3 => ?_)
 replace h1 := Qq c3 h1
 refine Qi <| Q1 <| Q2 <| Qc <| Q0 <| Wn rfl rfl rfl <| Wm rfl rfl rfl (Q6 Ze rfl) <| Wm rfl rfl rfl (Q7 Yk rfl rfl rfl) <| Wn rfl rfl rfl ?_
 refine Qb h1 (fun x4 hx4 h1 => ?_)
 refine Wm rfl rfl rfl (Qm (α := Tm) JQ rfl (.d _) rfl hx4) <| Wm rfl rfl rfl (QK (x4 : Tm) Jn rfl) ?_
 refine Qb h1 (fun x5 hx5 h1 => ?_)
 refine Qa rfl rfl (Wx rfl) (Qn (H x4 x5 hx5) rfl (.cons (.agg (.cons (.d _) (.cons (.d _) (.cons (.d _) (.cons (.d _) (.cons (.d _) .nil)))))) .nil)) <| Wm rfl rfl rfl (Q8 rfl rfl rfl) <| Wo rfl rfl rfl <| Q3 <| Qj <| Q1 <| Q0 <| Wn rfl rfl rfl <| Wm rfl rfl rfl (Q8 rfl rfl rfl) <| Wo rfl rfl rfl <| Q3 ?_
 have e := Wk h1; subst e
 refine QD ((QZ (s1.1 + x5)), (QZ (s1.2 + 1))) (Qf (Wi rfl (Wi rfl (Wi rfl Wh))) (WD rfl WC) Wy rfl (Nat.zero_le _) rfl rfl rfl (WU rfl rfl WR) rfl rfl) ho1
 replace h1 := Qr c3 h1
 refine QM <| Qd <| Qd ?_
 have e := Wk h1; subst e
 have e_ : _ = _ := ho1
 subst e_
 exact QG s1.1 (Qf (Wi rfl Wh) (WD rfl WC) Wy rfl (Nat.zero_le _) rfl rfl rfl (WU rfl rfl WR) rfl rfl) h0
 intro o1 h0
 refine QB <| Q1 <| Q2 <| Q0 <| Wn rfl rfl rfl <| Wo rfl rfl rfl <| Q3 <| Q1 <| Qz ?_
 have e := Wk h0; subst e
 exact QO (fun _ _ h => h) rfl (Qo rfl .nil) (.cons (.one (.d _)) .nil)
theorem m65_all (n : Nat) (u : Tm) (r : Int) (h0 : Yb XK n u = some r) : Fun Try.prog 65 [.agg (WO u)] (QA [.one (WL r)]) :=
 YF (C := fun u r => Fun Try.prog 65 [.agg (WO u)] (QA [.one (WL r)])) (fun rc H u r h => m65s_ok rc (fun a0 r h => H a0 r h) u r h) n u r h0
theorem m65_ok (a0 : Tm) (r : Int) (h0 : m65 a0 = some r) : Fun Try.prog 65 [.agg (WO a0)] (QA [.one (WL r)]) := m65_all QF a0 r h0
def Gy (a0 : Tm) (rc : Tm → Option Int) (s1 : Int × Int) : Option (LO (Int × Int) Int) :=
 cond (decide (s1.2 < (a0.kids.length : Int)))
   (Option.bind (Ja a0.kids s1.2) fun (x3 : Tm) =>
 Option.bind (rc x3) fun (x4 : Int) =>
 some (.next ((max s1.1 x4), (QZ (s1.2 + 1)))))
   (some (.done s1.1))
def XH (rc : Tm → Option Int) (a0 : Tm) : Option Int :=
 Option.bind (Qw (Gy a0 rc) QF (0, 0)) (fun (o1 : Int) => some (QZ (o1 + 1)))
def XI (rc : Tm → Option Int) (u : Tm) : Option Int := XH rc u
def m66 (a0 : Tm) : Option Int := Yb XI QF a0
set_option maxRecDepth 100000 in
set_option maxHeartbeats 2000000 in
theorem m66s_ok (rc : Tm → Option Int) (H : ∀ (a0 : Tm) (r : Int), rc a0 = some r → Fun Try.prog 66 [.agg (WO a0)] (QA [.one (WL r)])) (a0 : Tm) (r : Int) (h0 : XH rc a0 = some r) : Fun Try.prog 66 [.agg (WO a0)] (QA [.one (WL r)]) := by
 unfold XH at h0
 refine QU 9 22 Try.func66 rfl en_66 rfl (Wx rfl) (fun S w => ?_)
 simp only [Jb]
 refine Q2 <| Q0 <| Qa rfl rfl (Wx rfl) (Jc rfl) <| Wo rfl rfl rfl <| Q3 <| Q1 <| Q2 <| Q0 <| Wo rfl rfl rfl <| Q3 <| Q1 <| Q2 <| Q2 <| Q0 ?_
 refine Wo rfl rfl rfl <| Q3 <| Q1 <| Qc ?_
 refine QI 0 (fun (o1 : Int) => ⟨[(3, .v (.one (WL o1)))], [(0, .cells 42 (WO a0))], [], 1, 22, []⟩) (fun (o1 : Int) => (some (QZ (o1 + 1))) = some r) ?_ ?_
 refine Qb h0 (fun o2 hl1 h0 => ?_)
 refine QH (Gy a0 rc) (fun s1 => ⟨[(1, .v (.one (.ptr 0 0))), (3, .v (.one (WL s1.1))), (4, .v (.one (WL s1.2)))], [(0, .cells 42 (WO a0))], [], 1, 22, []⟩) (0, 0) o2 (Qf (Wi rfl (Wi rfl (Wi rfl Wh))) (WD rfl WC) Wy rfl (Nat.zero_le _) rfl rfl rfl (WU rfl rfl WR) rfl rfl) hl1 (fun s1 n1 oo1 h1 ho1 => ?_)
 unfold Gy at h1
 refine Q2 <| Q2 <| Q0 <| Wn rfl rfl rfl <| Wm rfl rfl rfl (Q6 Ze rfl) <| Wm rfl rfl rfl (Q7 Yk rfl rfl rfl) <| Wm rfl rfl rfl (QC (α := Tm) JQ rfl (.d _)) <| Wm rfl rfl rfl (Q8 rfl rfl rfl) <| Q3 <| Q1 ?_
 refine Qe (b := (decide (s1.2 < (a0.kids.length : Int)))) rfl (fun c3 => ?_) (fun c3 => ?_)
 replace h1 := Qq c3 h1
 refine Qi <| Q1 <| Q2 <| Qc <| Q0 <| Wn rfl rfl rfl <| Wm rfl rfl rfl (Q6 Ze rfl) <| Wm rfl rfl rfl (Q7 Yk rfl rfl rfl) <| Wn rfl rfl rfl ?_
 refine Qb h1 (fun x4 hx4 h1 => ?_)
 refine Wm rfl rfl rfl (Qm (α := Tm) JQ rfl (.d _) rfl hx4) <| Wm rfl rfl rfl (QK (x4 : Tm) Jn rfl) ?_
 refine Qb h1 (fun x5 hx5 h1 => ?_)
 refine Qa rfl rfl (Wx rfl) (Qn (H x4 x5 hx5) rfl (.cons (.agg (.cons (.d _) (.cons (.d _) (.cons (.d _) (.cons (.d _) (.cons (.d _) .nil)))))) .nil)) <| Wm rfl rfl rfl (RO.max2 rfl rfl) <| Wo rfl rfl rfl <| Q3 <| Qj <| Q1 <| Q0 <| Wn rfl rfl rfl <| Wm rfl rfl rfl (Q8 rfl rfl rfl) <| Wo rfl rfl rfl <| Q3 ?_
 have e := Wk h1; subst e
 refine QD ((max s1.1 x5), (QZ (s1.2 + 1))) (Qf (Wi rfl (Wi rfl (Wi rfl Wh))) (WD rfl WC) Wy rfl (Nat.zero_le _) rfl rfl rfl (WU rfl rfl WR) rfl rfl) ho1
 replace h1 := Qr c3 h1
 refine QM <| Qd <| Qd ?_
 have e := Wk h1; subst e
 have e_ : _ = _ := ho1
 subst e_
 exact QG s1.1 (Qf (Wi rfl Wh) (WD rfl WC) Wy rfl (Nat.zero_le _) rfl rfl rfl (WU rfl rfl WR) rfl rfl) h0
 intro o1 h0
 refine QB <| Q1 <| Q2 <| Q0 <| Wn rfl rfl rfl <| Wm rfl rfl rfl (Q8 rfl rfl rfl) <| Wo rfl rfl rfl <| Q3 <| Q1 <| Qz ?_
 have e := Wk h0; subst e
 exact QO (fun _ _ h => h) rfl (Qo rfl .nil) (.cons (.one (.d _)) .nil)
theorem m66_all (n : Nat) (u : Tm) (r : Int) (h0 : Yb XI n u = some r) : Fun Try.prog 66 [.agg (WO u)] (QA [.one (WL r)]) :=
 YF (C := fun u r => Fun Try.prog 66 [.agg (WO u)] (QA [.one (WL r)])) (fun rc H u r h => m66s_ok rc (fun a0 r h => H a0 r h) u r h) n u r h0
theorem m66_ok (a0 : Tm) (r : Int) (h0 : m66 a0 = some r) : Fun Try.prog 66 [.agg (WO a0)] (QA [.one (WL r)]) := m66_all QF a0 r h0
def XR (a0 : Tm) : Option Bool :=
 Option.bind (Option.bind (m65 a0) fun (x2 : Int) =>
 cond (decide (x2 ≤ 400))
   (Option.bind (m66 a0) fun (x4 : Int) =>
 some (decide (x4 ≤ 150)))
   (some false)) (fun (v1 : Bool) => some v1)
set_option maxRecDepth 100000 in
set_option maxHeartbeats 2000000 in
theorem KZ (a0 : Tm) (r : Bool) (h0 : XR a0 = some r) : Fun Try.prog 50 [.agg (WO a0)] (QA [.one (WM r)]) := by
 unfold XR at h0
 refine QU 9 11 Try.func50 rfl en_50 rfl (Wx rfl) (fun S w => ?_)
 simp only [Jb]
 refine Q2 <| Q0 <| Qa rfl rfl (Wx rfl) (Jc rfl) <| Wo rfl rfl rfl <| Q3 <| Q1 <| Q2 ?_
 refine Jf (fun (v1 : Bool) => ⟨[(2, .v (.one (WM v1)))], [(0, .cells 42 (WO a0))], [], 1, 11, []⟩) (fun (v1 : Bool) => (some v1) = some r) ?_ ?_
 refine Qb h0 (fun w1_ h1 h0 => ?_)
 refine Q0 <| Wm rfl rfl rfl (JA (a0 : Tm) Jn rfl rfl) ?_
 refine Qb h1 (fun x2 hx2 h1 => ?_)
 refine Qa rfl rfl (Wx rfl) (Qn (m65_ok a0 x2 hx2) rfl (.cons (.agg (.cons (.d _) (.cons (.d _) (.cons (.d _) (.cons (.d _) (.cons (.d _) .nil)))))) .nil)) <| Wm rfl rfl rfl (Q8 rfl rfl rfl) <| Wn rfl rfl rfl ?_
 refine QP (d := 6) (c := (decide (x2 ≤ 400))) rfl (fun c3 => ?_) (fun c3 => ?_)
 replace h1 := Qq c3 h1
 refine Wm rfl rfl rfl (JA (a0 : Tm) Jn rfl rfl) ?_
 refine Qb h1 (fun x4 hx4 h1 => ?_)
 refine Qa rfl rfl (Wx rfl) (Qn (m66_ok a0 x4 hx4) rfl (.cons (.agg (.cons (.d _) (.cons (.d _) (.cons (.d _) (.cons (.d _) (.cons (.d _) .nil)))))) .nil)) <| Wm rfl rfl rfl (Q8 rfl rfl rfl) <| Wm rfl rfl rfl (Qk rfl rfl) <| Wo rfl rfl rfl <| Q3 ?_
 have e := Wk h1; subst e
 exact Qt (decide (x4 ≤ 150)) (Qf (Wi rfl Wh) (WD rfl WC) Wy rfl (Nat.zero_le _) rfl rfl rfl (WU rfl rfl WR) rfl rfl) h0
 replace h1 := Qr c3 h1
 refine Q5 rfl rfl <| Q5 rfl rfl <| Q5 rfl rfl <| Wm rfl rfl rfl (Qx rfl rfl) <| Wo rfl rfl rfl <| Q3 ?_
 have e := Wk h1; subst e
 exact Qt false (Qf (Wi rfl Wh) (WD rfl WC) Wy rfl (Nat.zero_le _) rfl rfl rfl (WU rfl rfl WR) rfl rfl) h0
 intro v1 h0
 refine Q1 <| Qz ?_
 have e := Wk h0; subst e
 exact QO (fun _ _ h => h) rfl (Qo rfl .nil) (.cons (.one (.d _)) .nil)
def KY (a0 : Tr) (rc : Tr × Int → Option Bool) (a1 : Int) (s1 : Int) : Option (LO Int (Unit ⊕ Bool)) :=
 cond (decide (s1 < (a0.branches.length : Int)))
   (Option.bind (Option.bind (Ja a0.branches s1) fun (x6 : U4) =>
 Option.bind (rc (x6.tree, (QZ (a1 + 1)))) fun (x7 : Bool) =>
 cond (!x7)
   (some true)
   (Option.bind (Ja a0.branches s1) fun (x9 : U4) =>
 some (decide (200 < (x9.ctor.length : Int))))) (fun (v5 : Bool) => cond v5
   (some (.done (.inr false)))
   (some (.next (QZ (s1 + 1))))))
   (some (.done (.inl ())))
def XO (rc : Tr × Int → Option Bool) (a0 : Tr) (a1 : Int) : Option Bool :=
 Option.bind (cond (decide (40 < a1))
   (some true)
   (cond (decide (40 < (a0.branches.length : Int)))
   (some true)
   (Option.bind (XR a0.body) fun (x4 : Bool) =>
 some (!x4)))) (fun (v1 : Bool) => cond v1
   (some false)
   (Option.bind (Qw (KY a0 rc a1) QF 0) (Sum.elim (fun (o3 : Unit) => some true) (fun o => some o))))
def XP (rc : Tr × Int → Option Bool) (u : Tr × Int) : Option Bool := XO rc u.1 u.2
def m51 (a0 : Tr) (a1 : Int) : Option Bool := Yb XP QF (a0, a1)
set_option maxRecDepth 100000 in
set_option maxHeartbeats 2000000 in
theorem m51s_ok (rc : Tr × Int → Option Bool) (H : ∀ (a0 : Tr) (a1 : Int) (r : Bool), rc (a0, a1) = some r → Fun Try.prog 51 [.agg (WO a0), .one (WL a1)] (QA [.one (WM r)])) (a0 : Tr) (a1 : Int) (r : Bool) (h0 : XO rc a0 a1 = some r) : Fun Try.prog 51 [.agg (WO a0), .one (WL a1)] (QA [.one (WM r)]) := by
 unfold XO at h0
 refine QU 9 47 Try.func51 rfl en_51 rfl (Wx rfl) (fun S w => ?_)
 simp only [Jb]
 refine Q2 <| Q0 <| Qa rfl rfl (Wx rfl) (Jc rfl) <| Wo rfl rfl rfl <| Q3 <| Q1 <| Q2 <| Q2 ?_
 refine Jf (fun (v1 : Bool) => ⟨[(1, .v (.one (WL a1))), (2, .v (.one (.ptr 0 0))), (19, .v (.one (WM v1)))], [(0, .cells 87 (WO a0))], [], 1, 47, []⟩) (fun (v1 : Bool) => (cond v1
     (some false)
     (Option.bind (Qw (KY a0 rc a1) QF 0) (Sum.elim (fun (o3 : Unit) => some true) (fun o => some o)))) = some r) ?_ ?_
 refine Qb h0 (fun w1_ h1 h0 => ?_)
 refine Q0 <| Wn rfl rfl rfl <| Wm rfl rfl rfl (Q8 rfl rfl rfl) <| Wn rfl rfl rfl ?_
 refine QP (d := 8) (c := (decide (40 < a1))) rfl (fun c2 => ?_) (fun c2 => ?_)
 replace h1 := Qq c2 h1
 refine Q5 rfl rfl <| Q5 rfl rfl <| Q5 rfl rfl <| Q5 rfl rfl <| Wm rfl rfl rfl (Qk rfl rfl) <| Wn rfl rfl rfl <| Q5 rfl rfl <| Q5 rfl rfl <| Q5 rfl rfl <| Q5 rfl rfl <| Wm rfl rfl rfl (Qk rfl rfl) <| Q3 ?_
 have e := Wk h1; subst e
 exact Qt true (Qf (Wi rfl (Wi rfl (Wi rfl Wh))) (WD rfl WC) Wy rfl (Nat.zero_le _) rfl rfl rfl (WU rfl rfl WR) rfl rfl) h0
 replace h1 := Qr c2 h1
 refine Wm rfl rfl rfl (Q6 Yd rfl) <| Wm rfl rfl rfl (Q7 Zl rfl rfl rfl) <| Wm rfl rfl rfl (QC (α := U4) Z2 rfl (.d _)) <| Wm rfl rfl rfl (Q8 rfl rfl rfl) <| Wm rfl rfl rfl (Qx rfl rfl) <| Wn rfl rfl rfl ?_
 refine QP (d := 14) (c := (decide (40 < (a0.branches.length : Int)))) rfl (fun c3 => ?_) (fun c3 => ?_)
 replace h1 := Qq c3 h1
 refine Q5 rfl rfl <| Q5 rfl rfl <| Q5 rfl rfl <| Q5 rfl rfl <| Wm rfl rfl rfl (Qk rfl rfl) <| Q3 ?_
 have e := Wk h1; subst e
 exact Qt true (Qf (Wi rfl (Wi rfl (Wi rfl Wh))) (WD rfl WC) Wy rfl (Nat.zero_le _) rfl rfl rfl (WU rfl rfl WR) rfl rfl) h0
 replace h1 := Qr c3 h1
 refine Wm rfl rfl rfl (Q6 fo_87_1 rfl) <| Wm rfl rfl rfl (Qu Jn rfl rfl rfl rfl) ?_
 refine Qb h1 (fun x4 hx4 h1 => ?_)
 refine Qa rfl rfl (Wx rfl) (Qn (KZ a0.body x4 hx4) rfl (.cons (.agg (.cons (.d _) (.cons (.d _) (.cons (.d _) (.cons (.d _) (.cons (.d _) .nil)))))) .nil)) <| Wm rfl rfl rfl (J9 rfl) <| Wm rfl rfl rfl (Qx rfl rfl) <| Q3 ?_
 have e := Wk h1; subst e
 exact Qt (!x4) (Qf (Wi rfl (Wi rfl (Wi rfl Wh))) (WD rfl WC) Wy rfl (Nat.zero_le _) rfl rfl rfl (WU rfl rfl WR) rfl rfl) h0
 intro v1 h0
 refine Q1 ?_
 refine Qe (b := v1) rfl (fun c5 => ?_) (fun c5 => ?_)
 replace h0 := Qq c5 h0
 refine Q2 <| Q0 <| Wo rfl rfl rfl <| Q3 <| Q1 <| Qz ?_
 have e := Wk h0; subst e
 exact QO (fun _ _ h => h) rfl (Qo rfl .nil) (.cons (.one (.d _)) .nil)
 replace h0 := Qr c5 h0
 refine Qi <| Q1 <| Q2 <| Q2 <| Q0 <| Wo rfl rfl rfl <| Q3 <| Q1 <| Qc ?_
 refine QI 0 (fun (o6 : Unit) => ⟨[], [(0, .cells 87 (WO a0))], [], 1, 47, []⟩) (fun (o6 : Unit) => (some true) = some r) ?_ ?_
 refine Qb h0 (fun o7 hl1 h0 => ?_)
 refine QH (KY a0 rc a1) (fun s1 => ⟨[(1, .v (.one (WL a1))), (2, .v (.one (.ptr 0 0))), (5, .v (.one (WL s1)))], [(0, .cells 87 (WO a0))], [], 1, 47, []⟩) 0 o7 (Qf (Wi rfl (Wi rfl (Wi rfl Wh))) (WD rfl WC) Wy rfl (Nat.zero_le _) rfl rfl rfl (WU rfl rfl WR) rfl rfl) hl1 (fun s1 n1 oo1 h1 ho1 => ?_)
 unfold KY at h1
 refine Q2 <| Q2 <| Q0 <| Wn rfl rfl rfl <| Wm rfl rfl rfl (Q6 Yd rfl) <| Wm rfl rfl rfl (Q7 Zl rfl rfl rfl) <| Wm rfl rfl rfl (QC (α := U4) Z2 rfl (.d _)) <| Wm rfl rfl rfl (Q8 rfl rfl rfl) <| Q3 <| Q1 ?_
 refine Qe (b := (decide (s1 < (a0.branches.length : Int)))) rfl (fun c8 => ?_) (fun c8 => ?_)
 replace h1 := Qq c8 h1
 refine Qi <| Q1 <| Q2 <| Qc <| Q2 ?_
 refine Jf (fun (v9 : Bool) => ⟨[(1, .v (.one (WL a1))), (2, .v (.one (.ptr 0 0))), (5, .v (.one (WL s1))), (46, .v (.one (WM v9)))], [(0, .cells 87 (WO a0))], [], 1, 47, []⟩) (fun (v9 : Bool) => (cond v9
     (some (.done (.inr false)))
     (some (.next (QZ (s1 + 1))))) = some oo1) ?_ ?_
 refine Qb h1 (fun w2_ h2 h1 => ?_)
 refine Q0 <| Wm rfl rfl rfl (Q6 Yd rfl) <| Wm rfl rfl rfl (Q7 Zl rfl rfl rfl) <| Wn rfl rfl rfl ?_
 refine Qb h2 (fun x10 hx10 h2 => ?_)
 refine Wm rfl rfl rfl (Qm (α := U4) Z2 rfl (.d _) rfl hx10) <| Wm rfl rfl rfl (Jz fo_115_2 rfl) <| Wm rfl rfl rfl (Jh GN rfl rfl rfl) <| Wn rfl rfl rfl <| Wm rfl rfl rfl (Q8 rfl rfl rfl) ?_
 refine Qb h2 (fun x11 hx11 h2 => ?_)
 refine Qa rfl rfl (Wx rfl) (Qn (H x10.tree (QZ (a1 + 1)) x11 hx11) rfl (.cons (.agg (.cons (.d _) (.cons (.d _) (.cons (.d _) (.cons (.d _) (.cons (.d _) (.cons (.d _) (.cons (.d _) (.cons (.d _) .nil))))))))) (.cons (.one (.d _)) .nil))) <| Wm rfl rfl rfl (J9 rfl) <| Wn rfl rfl rfl ?_
 refine QP (d := 37) (c := (!x11)) rfl (fun c12 => ?_) (fun c12 => ?_)
 replace h2 := Qq c12 h2
 refine Q5 rfl rfl <| Q5 rfl rfl <| Q5 rfl rfl <| Q5 rfl rfl <| Q5 rfl rfl <| Q5 rfl rfl <| Q5 rfl rfl <| Q5 rfl rfl <| Wm rfl rfl rfl (Qk rfl rfl) <| Q3 ?_
 have e := Wk h2; subst e
 exact Qt true (Qf (Wi rfl (Wi rfl (Wi rfl (Wi rfl Wh)))) (WD rfl WC) Wy rfl (Nat.zero_le _) rfl rfl rfl (WU rfl rfl WR) rfl rfl) h1
 replace h2 := Qr c12 h2
 refine Wm rfl rfl rfl (Q6 Yd rfl) <| Wm rfl rfl rfl (Q7 Zl rfl rfl rfl) <| Wn rfl rfl rfl ?_
 refine Qb h2 (fun x13 hx13 h2 => ?_)
 refine Wm rfl rfl rfl (Qm (α := U4) Z2 rfl (.d _) rfl hx13) <| Wm rfl rfl rfl (Jz fo_115_0 rfl) <| Wm rfl rfl rfl (QN JT rfl rfl) <| Wm rfl rfl rfl (Gu XG rfl) <| Wm rfl rfl rfl (Q8 rfl rfl rfl) <| Wm rfl rfl rfl (Qx rfl rfl) <| Q3 ?_
 have e := Wk h2; subst e
 exact Qt (decide (200 < (x13.ctor.length : Int))) (Qf (Wi rfl (Wi rfl (Wi rfl (Wi rfl Wh)))) (WD rfl WC) Wy rfl (Nat.zero_le _) rfl rfl rfl (WU rfl rfl WR) rfl rfl) h1
 intro v9 h1
 refine Q1 ?_
 refine Qe (b := v9) rfl (fun c14 => ?_) (fun c14 => ?_)
 replace h1 := Qq c14 h1
 refine Q2 <| Q0 <| Wo rfl rfl rfl <| Q3 <| Q1 <| Qz ?_
 have e := Wk h1; subst e
 have e_ : _ = _ := ho1
 subst e_
 try dsimp only [Sum.elim_inl, Sum.elim_inr] at h0
 have e := Wk h0; subst e
 exact QO (fun _ _ h => h) rfl (Qo rfl .nil) (.cons (.one (.d _)) .nil)
 replace h1 := Qr c14 h1
 refine Qi <| Qj <| Q1 <| Q0 <| Wn rfl rfl rfl <| Wm rfl rfl rfl (Q8 rfl rfl rfl) <| Wo rfl rfl rfl <| Q3 ?_
 have e := Wk h1; subst e
 refine QD (QZ (s1 + 1)) (Qf (Wi rfl (Wi rfl (Wi rfl Wh))) (WD rfl WC) Wy rfl (Nat.zero_le _) rfl rfl rfl (WU rfl rfl WR) rfl rfl) ho1
 replace h1 := Qr c8 h1
 refine QM <| Qd <| Qd ?_
 have e := Wk h1; subst e
 have e_ : _ = _ := ho1
 subst e_
 exact QG () (Qf Wh (WD rfl WC) Wy rfl (Nat.zero_le _) rfl rfl rfl (WU rfl rfl WR) rfl rfl) h0
 intro o6 h0
 refine QB <| Q1 <| Q2 <| Q0 <| Wo rfl rfl rfl <| Q3 <| Q1 <| Qz ?_
 have e := Wk h0; subst e
 exact QO (fun _ _ h => h) rfl (Qo rfl .nil) (.cons (.one (.d _)) .nil)
theorem m51_all (n : Nat) (u : Tr × Int) (r : Bool) (h0 : Yb XP n u = some r) : Fun Try.prog 51 [.agg (WO u.1), .one (WL u.2)] (QA [.one (WM r)]) :=
 YF (C := fun u r => Fun Try.prog 51 [.agg (WO u.1), .one (WL u.2)] (QA [.one (WM r)])) (fun rc H u r h => m51s_ok rc (fun a0 a1 r h => H (a0, a1) r h) u.1 u.2 r h) n u r h0
theorem m51_ok (a0 : Tr) (a1 : Int) (r : Bool) (h0 : m51 a0 a1 = some r) : Fun Try.prog 51 [.agg (WO a0), .one (WL a1)] (QA [.one (WM r)]) := m51_all QF (a0, a1) r h0
def Ky (a0 : Dcl) (s1 : Int) : Option (LO Int (Unit ⊕ Bool)) :=
 cond (decide (s1 < (a0.ctors.length : Int)))
   (Option.bind (Option.bind (Ja a0.ctors s1) fun (x6 : Ctr) =>
 cond (decide (200 < (x6.name.length : Int)))
   (some true)
   (Option.bind (Ja a0.ctors s1) fun (x8 : Ctr) =>
 Option.bind (XR x8.ty) fun (x9 : Bool) =>
 some (!x9))) (fun (v5 : Bool) => cond v5
   (some (.done (.inr false)))
   (some (.next (QZ (s1 + 1))))))
   (some (.done (.inl ())))
def Kj (a0 : Dcl) (s1 : Int) : Option (LO Int (Unit ⊕ Bool)) :=
 cond (decide (s1 < (a0.rcr.rules.length : Int)))
   (Option.bind (Ja a0.rcr.rules s1) fun (x6 : Tm) =>
 Option.bind (XR x6) fun (x7 : Bool) =>
 cond (!x7)
   (some (.done (.inr false)))
   (some (.next (QZ (s1 + 1)))))
   (some (.done (.inl ())))
def ZW (a0 : Dcl) (s1 : Int) : Option (LO Int (Unit ⊕ Bool)) :=
 cond (decide (s1 < (a0.funs.length : Int)))
   (Option.bind (Option.bind (Ja a0.funs s1) fun (x8 : Fn) =>
 cond (decide (200 < (x8.name.length : Int)))
   (some true)
   (Option.bind (Ja a0.funs s1) fun (x10 : Fn) =>
 Option.bind (XR x10.ty) fun (x11 : Bool) =>
 cond (!x11)
   (some true)
   (Option.bind (Ja a0.funs s1) fun (x13 : Fn) =>
 Option.bind (m51 x13.tree 0) fun (x14 : Bool) =>
 some (!x14)))) (fun (v7 : Bool) => cond v7
   (some (.done (.inr false)))
   (some (.next (QZ (s1 + 1))))))
   (some (.done (.inl ())))
def W8 (a0 : Dcl) : Option Bool :=
 Option.bind (cond (decide (200 < (a0.name.length : Int)))
   (some true)
   (Option.bind (XR a0.ty) fun (x3 : Bool) =>
 cond (!x3)
   (some true)
   (Option.bind (XR a0.value) fun (x5 : Bool) =>
 cond (!x5)
   (some true)
   (cond (decide (40 < (a0.ctors.length : Int)))
   (some true)
   (cond (decide (12 < (a0.funs.length : Int)))
   (some true)
   (Option.bind (XR a0.rcr.ty) fun (x9 : Bool) =>
 cond (!x9)
   (some true)
   (some (decide (40 < (a0.rcr.rules.length : Int)))))))))) (fun (v1 : Bool) => cond v1
   (some false)
   (Option.bind (Qw (Ky a0) QF 0) (Sum.elim (fun (o3 : Unit) => Option.bind (Qw (Kj a0) QF 0) (Sum.elim (fun (o4 : Unit) => Option.bind (Qw (ZW a0) QF 0) (Sum.elim (fun (o5 : Unit) => some true) (fun o => some o))) (fun o => some o))) (fun o => some o))))
set_option maxRecDepth 100000 in
set_option maxHeartbeats 2000000 in
theorem m30_ok (a0 : Dcl) (r : Bool) (h0 : W8 a0 = some r) : Fun Try.prog 30 [.agg (WO a0)] (QA [.one (WM r)]) := by
 unfold W8 at h0
 refine QU 9 124 Try.func30 rfl en_30 rfl (Wx rfl) (fun S w => ?_)
 simp only [Jb]
 refine Q2 <| Q0 <| Qa rfl rfl (Wx rfl) (Jc rfl) <| Wo rfl rfl rfl <| Q3 <| Q1 <| Q2 <| Q2 ?_
 refine Jf (fun (v1 : Bool) => ⟨[(1, .v (.one (.ptr 0 0))), (47, .v (.one (WM v1)))], [(0, .cells 48 (WO a0))], [], 1, 124, []⟩) (fun (v1 : Bool) => (cond v1
     (some false)
     (Option.bind (Qw (Ky a0) QF 0) (Sum.elim (fun (o3 : Unit) => Option.bind (Qw (Kj a0) QF 0) (Sum.elim (fun (o4 : Unit) => Option.bind (Qw (ZW a0) QF 0) (Sum.elim (fun (o5 : Unit) => some true) (fun o => some o))) (fun o => some o))) (fun o => some o)))) = some r) ?_ ?_
 refine Qb h0 (fun w1_ h1 h0 => ?_)
 refine Q0 <| Wm rfl rfl rfl (Q6 YX rfl) <| Wm rfl rfl rfl (Q7 JT rfl rfl rfl) <| Wm rfl rfl rfl (Gu XG rfl) <| Wm rfl rfl rfl (Q8 rfl rfl rfl) <| Wn rfl rfl rfl ?_
 refine QP (d := 10) (c := (decide (200 < (a0.name.length : Int)))) rfl (fun c2 => ?_) (fun c2 => ?_)
 replace h1 := Qq c2 h1
 refine Q5 rfl rfl <| Q5 rfl rfl <| Q5 rfl rfl <| Q5 rfl rfl <| Wm rfl rfl rfl (Qk rfl rfl) <| Wn rfl rfl rfl <| Q5 rfl rfl <| Q5 rfl rfl <| Q5 rfl rfl <| Q5 rfl rfl <| Wm rfl rfl rfl (Qk rfl rfl) <| Wn rfl rfl rfl <| Q5 rfl rfl <| Q5 rfl rfl ?_
 refine Q5 rfl rfl <| Q5 rfl rfl <| Wm rfl rfl rfl (Qk rfl rfl) <| Wn rfl rfl rfl <| Q5 rfl rfl <| Q5 rfl rfl <| Q5 rfl rfl <| Q5 rfl rfl <| Wm rfl rfl rfl (Qk rfl rfl) <| Wn rfl rfl rfl <| Q5 rfl rfl <| Q5 rfl rfl <| Q5 rfl rfl <| Q5 rfl rfl ?_
 refine Q5 rfl rfl <| Wm rfl rfl rfl (Qk rfl rfl) <| Wn rfl rfl rfl <| Q5 rfl rfl <| Q5 rfl rfl <| Q5 rfl rfl <| Q5 rfl rfl <| Q5 rfl rfl <| Wm rfl rfl rfl (Qk rfl rfl) <| Q3 ?_
 have e := Wk h1; subst e
 exact Qt true (Qf (Wi rfl (Wi rfl Wh)) (WD rfl WC) Wy rfl (Nat.zero_le _) rfl rfl rfl (WU rfl rfl WR) rfl rfl) h0
 replace h1 := Qr c2 h1
 refine Wm rfl rfl rfl (Q6 fo_48_3 rfl) <| Wm rfl rfl rfl (Qu Jn rfl rfl rfl rfl) ?_
 refine Qb h1 (fun x3 hx3 h1 => ?_)
 refine Qa rfl rfl (Wx rfl) (Qn (KZ a0.ty x3 hx3) rfl (.cons (.agg (.cons (.d _) (.cons (.d _) (.cons (.d _) (.cons (.d _) (.cons (.d _) .nil)))))) .nil)) <| Wm rfl rfl rfl (J9 rfl) <| Wm rfl rfl rfl (Qx rfl rfl) <| Wn rfl rfl rfl ?_
 refine QP (d := 16) (c := (!x3)) rfl (fun c4 => ?_) (fun c4 => ?_)
 replace h1 := Qq c4 h1
 refine Q5 rfl rfl <| Q5 rfl rfl <| Q5 rfl rfl <| Q5 rfl rfl <| Wm rfl rfl rfl (Qk rfl rfl) <| Wn rfl rfl rfl <| Q5 rfl rfl <| Q5 rfl rfl <| Q5 rfl rfl <| Q5 rfl rfl <| Wm rfl rfl rfl (Qk rfl rfl) <| Wn rfl rfl rfl <| Q5 rfl rfl <| Q5 rfl rfl ?_
 refine Q5 rfl rfl <| Q5 rfl rfl <| Wm rfl rfl rfl (Qk rfl rfl) <| Wn rfl rfl rfl <| Q5 rfl rfl <| Q5 rfl rfl <| Q5 rfl rfl <| Q5 rfl rfl <| Q5 rfl rfl <| Wm rfl rfl rfl (Qk rfl rfl) <| Wn rfl rfl rfl <| Q5 rfl rfl <| Q5 rfl rfl <| Q5 rfl rfl ?_
 refine Q5 rfl rfl <| Q5 rfl rfl <| Wm rfl rfl rfl (Qk rfl rfl) <| Q3 ?_
 have e := Wk h1; subst e
 exact Qt true (Qf (Wi rfl (Wi rfl Wh)) (WD rfl WC) Wy rfl (Nat.zero_le _) rfl rfl rfl (WU rfl rfl WR) rfl rfl) h0
 replace h1 := Qr c4 h1
 refine Wm rfl rfl rfl (Q6 Gl rfl) <| Wm rfl rfl rfl (Qu Jn rfl rfl rfl rfl) ?_
 refine Qb h1 (fun x5 hx5 h1 => ?_)
 refine Qa rfl rfl (Wx rfl) (Qn (KZ a0.value x5 hx5) rfl (.cons (.agg (.cons (.d _) (.cons (.d _) (.cons (.d _) (.cons (.d _) (.cons (.d _) .nil)))))) .nil)) <| Wm rfl rfl rfl (J9 rfl) <| Wm rfl rfl rfl (Qx rfl rfl) <| Wn rfl rfl rfl ?_
 refine QP (d := 22) (c := (!x5)) rfl (fun c6 => ?_) (fun c6 => ?_)
 replace h1 := Qq c6 h1
 refine Q5 rfl rfl <| Q5 rfl rfl <| Q5 rfl rfl <| Q5 rfl rfl <| Wm rfl rfl rfl (Qk rfl rfl) <| Wn rfl rfl rfl <| Q5 rfl rfl <| Q5 rfl rfl <| Q5 rfl rfl <| Q5 rfl rfl <| Wm rfl rfl rfl (Qk rfl rfl) <| Wn rfl rfl rfl <| Q5 rfl rfl <| Q5 rfl rfl ?_
 refine Q5 rfl rfl <| Q5 rfl rfl <| Q5 rfl rfl <| Wm rfl rfl rfl (Qk rfl rfl) <| Wn rfl rfl rfl <| Q5 rfl rfl <| Q5 rfl rfl <| Q5 rfl rfl <| Q5 rfl rfl <| Q5 rfl rfl <| Wm rfl rfl rfl (Qk rfl rfl) <| Q3 ?_
 have e := Wk h1; subst e
 exact Qt true (Qf (Wi rfl (Wi rfl Wh)) (WD rfl WC) Wy rfl (Nat.zero_le _) rfl rfl rfl (WU rfl rfl WR) rfl rfl) h0
 replace h1 := Qr c6 h1
 refine Wm rfl rfl rfl (Q6 Yp rfl) <| Wm rfl rfl rfl (Q7 ZN rfl rfl rfl) <| Wm rfl rfl rfl (QC (α := Ctr) Z3 rfl (.d _)) <| Wm rfl rfl rfl (Q8 rfl rfl rfl) <| Wm rfl rfl rfl (Qx rfl rfl) <| Wn rfl rfl rfl ?_
 refine QP (d := 28) (c := (decide (40 < (a0.ctors.length : Int)))) rfl (fun c7 => ?_) (fun c7 => ?_)
 replace h1 := Qq c7 h1
 refine Q5 rfl rfl <| Q5 rfl rfl <| Q5 rfl rfl <| Q5 rfl rfl <| Wm rfl rfl rfl (Qk rfl rfl) <| Wn rfl rfl rfl <| Q5 rfl rfl <| Q5 rfl rfl <| Q5 rfl rfl <| Q5 rfl rfl <| Q5 rfl rfl <| Wm rfl rfl rfl (Qk rfl rfl) <| Wn rfl rfl rfl <| Q5 rfl rfl ?_
 refine Q5 rfl rfl <| Q5 rfl rfl <| Q5 rfl rfl <| Q5 rfl rfl <| Wm rfl rfl rfl (Qk rfl rfl) <| Q3 ?_
 have e := Wk h1; subst e
 exact Qt true (Qf (Wi rfl (Wi rfl Wh)) (WD rfl WC) Wy rfl (Nat.zero_le _) rfl rfl rfl (WU rfl rfl WR) rfl rfl) h0
 replace h1 := Qr c7 h1
 refine Wm rfl rfl rfl (Q6 JN rfl) <| Wm rfl rfl rfl (Q7 YE rfl rfl rfl) <| Wm rfl rfl rfl (QC (α := Fn) Yr rfl (.d _)) <| Wm rfl rfl rfl (Q8 rfl rfl rfl) <| Wm rfl rfl rfl (Qx rfl rfl) <| Wn rfl rfl rfl ?_
 refine QP (d := 34) (c := (decide (12 < (a0.funs.length : Int)))) rfl (fun c8 => ?_) (fun c8 => ?_)
 replace h1 := Qq c8 h1
 refine Q5 rfl rfl <| Q5 rfl rfl <| Q5 rfl rfl <| Q5 rfl rfl <| Q5 rfl rfl <| Wm rfl rfl rfl (Qk rfl rfl) <| Wn rfl rfl rfl <| Q5 rfl rfl <| Q5 rfl rfl <| Q5 rfl rfl <| Q5 rfl rfl <| Q5 rfl rfl <| Wm rfl rfl rfl (Qk rfl rfl) <| Q3 ?_
 have e := Wk h1; subst e
 exact Qt true (Qf (Wi rfl (Wi rfl Wh)) (WD rfl WC) Wy rfl (Nat.zero_le _) rfl rfl rfl (WU rfl rfl WR) rfl rfl) h0
 replace h1 := Qr c8 h1
 refine Wm rfl rfl rfl (Q6 Zs rfl) <| Wm rfl rfl rfl (Q6 fo_45_1 rfl) <| Wm rfl rfl rfl (Qu Jn rfl rfl rfl rfl) ?_
 refine Qb h1 (fun x9 hx9 h1 => ?_)
 refine Qa rfl rfl (Wx rfl) (Qn (KZ a0.rcr.ty x9 hx9) rfl (.cons (.agg (.cons (.d _) (.cons (.d _) (.cons (.d _) (.cons (.d _) (.cons (.d _) .nil)))))) .nil)) <| Wm rfl rfl rfl (J9 rfl) <| Wm rfl rfl rfl (Qx rfl rfl) <| Wn rfl rfl rfl ?_
 refine QP (d := 41) (c := (!x9)) rfl (fun c10 => ?_) (fun c10 => ?_)
 replace h1 := Qq c10 h1
 refine Q5 rfl rfl <| Q5 rfl rfl <| Q5 rfl rfl <| Q5 rfl rfl <| Q5 rfl rfl <| Wm rfl rfl rfl (Qk rfl rfl) <| Q3 ?_
 have e := Wk h1; subst e
 exact Qt true (Qf (Wi rfl (Wi rfl Wh)) (WD rfl WC) Wy rfl (Nat.zero_le _) rfl rfl rfl (WU rfl rfl WR) rfl rfl) h0
 replace h1 := Qr c10 h1
 refine Wm rfl rfl rfl (Q6 Zs rfl) <| Wm rfl rfl rfl (Q6 Ko rfl) <| Wm rfl rfl rfl (Q7 Yk rfl rfl rfl) <| Wm rfl rfl rfl (QC (α := Tm) JQ rfl (.d _)) <| Wm rfl rfl rfl (Q8 rfl rfl rfl) <| Wm rfl rfl rfl (Qx rfl rfl) <| Q3 ?_
 have e := Wk h1; subst e
 exact Qt (decide (40 < (a0.rcr.rules.length : Int))) (Qf (Wi rfl (Wi rfl Wh)) (WD rfl WC) Wy rfl (Nat.zero_le _) rfl rfl rfl (WU rfl rfl WR) rfl rfl) h0
 intro v1 h0
 refine Q1 ?_
 refine Qe (b := v1) rfl (fun c11 => ?_) (fun c11 => ?_)
 replace h0 := Qq c11 h0
 refine Q2 <| Q0 <| Wo rfl rfl rfl <| Q3 <| Q1 <| Qz ?_
 have e := Wk h0; subst e
 exact QO (fun _ _ h => h) rfl (Qo rfl .nil) (.cons (.one (.d _)) .nil)
 replace h0 := Qr c11 h0
 refine Qi <| Q1 <| Q2 <| Q2 <| Q0 <| Wo rfl rfl rfl <| Q3 <| Q1 <| Qc ?_
 refine QI 0 (fun (o12 : Unit) => ⟨[(1, .v (.one (.ptr 0 0)))], [(0, .cells 48 (WO a0))], [], 1, 124, []⟩) (fun (o12 : Unit) => (Option.bind (Qw (Kj a0) QF 0) (Sum.elim (fun (o13 : Unit) => Option.bind (Qw (ZW a0) QF 0) (Sum.elim (fun (o14 : Unit) => some true) (fun o => some o))) (fun o => some o))) = some r) ?_ ?_
 refine Qb h0 (fun o13 hl1 h0 => ?_)
 refine QH (Ky a0) (fun s1 => ⟨[(1, .v (.one (.ptr 0 0))), (3, .v (.one (WL s1)))], [(0, .cells 48 (WO a0))], [], 1, 124, []⟩) 0 o13 (Qf (Wi rfl (Wi rfl Wh)) (WD rfl WC) Wy rfl (Nat.zero_le _) rfl rfl rfl (WU rfl rfl WR) rfl rfl) hl1 (fun s1 n1 oo1 h1 ho1 => ?_)
 unfold Ky at h1
 refine Q2 <| Q2 <| Q0 <| Wn rfl rfl rfl <| Wm rfl rfl rfl (Q6 Yp rfl) <| Wm rfl rfl rfl (Q7 ZN rfl rfl rfl) <| Wm rfl rfl rfl (QC (α := Ctr) Z3 rfl (.d _)) <| Wm rfl rfl rfl (Q8 rfl rfl rfl) <| Q3 <| Q1 ?_
 refine Qe (b := (decide (s1 < (a0.ctors.length : Int)))) rfl (fun c14 => ?_) (fun c14 => ?_)
 replace h1 := Qq c14 h1
 refine Qi <| Q1 <| Q2 <| Qc <| Q2 ?_
 refine Jf (fun (v15 : Bool) => ⟨[(1, .v (.one (.ptr 0 0))), (3, .v (.one (WL s1))), (72, .v (.one (WM v15)))], [(0, .cells 48 (WO a0))], [], 1, 124, []⟩) (fun (v15 : Bool) => (cond v15
     (some (.done (.inr false)))
     (some (.next (QZ (s1 + 1))))) = some oo1) ?_ ?_
 refine Qb h1 (fun w2_ h2 h1 => ?_)
 refine Q0 <| Wm rfl rfl rfl (Q6 Yp rfl) <| Wm rfl rfl rfl (Q7 ZN rfl rfl rfl) <| Wn rfl rfl rfl ?_
 refine Qb h2 (fun x16 hx16 h2 => ?_)
 refine Wm rfl rfl rfl (Qm (α := Ctr) Z3 rfl (.d _) rfl hx16) <| Wm rfl rfl rfl (Jz Gk rfl) <| Wm rfl rfl rfl (QN JT rfl rfl) <| Wm rfl rfl rfl (Gu XG rfl) <| Wm rfl rfl rfl (Q8 rfl rfl rfl) <| Wn rfl rfl rfl ?_
 refine QP (d := 63) (c := (decide (200 < (x16.name.length : Int)))) rfl (fun c17 => ?_) (fun c17 => ?_)
 replace h2 := Qq c17 h2
 refine Q5 rfl rfl <| Q5 rfl rfl <| Q5 rfl rfl <| Q5 rfl rfl <| Q5 rfl rfl <| Q5 rfl rfl <| Q5 rfl rfl <| Q5 rfl rfl <| Wm rfl rfl rfl (Qk rfl rfl) <| Q3 ?_
 have e := Wk h2; subst e
 exact Qt true (Qf (Wi rfl (Wi rfl (Wi rfl Wh))) (WD rfl WC) Wy rfl (Nat.zero_le _) rfl rfl rfl (WU rfl rfl WR) rfl rfl) h1
 replace h2 := Qr c17 h2
 refine Wm rfl rfl rfl (Q6 Yp rfl) <| Wm rfl rfl rfl (Q7 ZN rfl rfl rfl) <| Wn rfl rfl rfl ?_
 refine Qb h2 (fun x18 hx18 h2 => ?_)
 refine Wm rfl rfl rfl (Qm (α := Ctr) Z3 rfl (.d _) rfl hx18) <| Wm rfl rfl rfl (Jz fo_84_1 rfl) <| Wm rfl rfl rfl (Jh Jn rfl rfl rfl) ?_
 refine Qb h2 (fun x19 hx19 h2 => ?_)
 refine Qa rfl rfl (Wx rfl) (Qn (KZ x18.ty x19 hx19) rfl (.cons (.agg (.cons (.d _) (.cons (.d _) (.cons (.d _) (.cons (.d _) (.cons (.d _) .nil)))))) .nil)) <| Wm rfl rfl rfl (J9 rfl) <| Wm rfl rfl rfl (Qx rfl rfl) <| Q3 ?_
 have e := Wk h2; subst e
 exact Qt (!x19) (Qf (Wi rfl (Wi rfl (Wi rfl Wh))) (WD rfl WC) Wy rfl (Nat.zero_le _) rfl rfl rfl (WU rfl rfl WR) rfl rfl) h1
 intro v15 h1
 refine Q1 ?_
 refine Qe (b := v15) rfl (fun c20 => ?_) (fun c20 => ?_)
 replace h1 := Qq c20 h1
 refine Q2 <| Q0 <| Wo rfl rfl rfl <| Q3 <| Q1 <| Qz ?_
 have e := Wk h1; subst e
 have e_ : _ = _ := ho1
 subst e_
 try dsimp only [Sum.elim_inl, Sum.elim_inr] at h0
 have e := Wk h0; subst e
 exact QO (fun _ _ h => h) rfl (Qo rfl .nil) (.cons (.one (.d _)) .nil)
 replace h1 := Qr c20 h1
 refine Qi <| Qj <| Q1 <| Q0 <| Wn rfl rfl rfl <| Wm rfl rfl rfl (Q8 rfl rfl rfl) <| Wo rfl rfl rfl <| Q3 ?_
 have e := Wk h1; subst e
 refine QD (QZ (s1 + 1)) (Qf (Wi rfl (Wi rfl Wh)) (WD rfl WC) Wy rfl (Nat.zero_le _) rfl rfl rfl (WU rfl rfl WR) rfl rfl) ho1
 replace h1 := Qr c14 h1
 refine QM <| Qd <| Qd ?_
 have e := Wk h1; subst e
 have e_ : _ = _ := ho1
 subst e_
 exact QG () (Qf (Wi rfl Wh) (WD rfl WC) Wy rfl (Nat.zero_le _) rfl rfl rfl (WU rfl rfl WR) rfl rfl) h0
 intro o12 h0
 refine QB <| Q1 <| Q2 <| Q2 <| Q0 <| Wo rfl rfl rfl <| Q3 <| Q1 <| Qc ?_
 refine QI 2 (fun (o21 : Unit) => ⟨[(1, .v (.one (.ptr 0 0)))], [(0, .cells 48 (WO a0))], [], 1, 124, []⟩) (fun (o21 : Unit) => (Option.bind (Qw (ZW a0) QF 0) (Sum.elim (fun (o22 : Unit) => some true) (fun o => some o))) = some r) ?_ ?_
 refine Qb h0 (fun o22 hl1 h0 => ?_)
 refine QH (Kj a0) (fun s1 => ⟨[(1, .v (.one (.ptr 0 0))), (4, .v (.one (WL s1)))], [(0, .cells 48 (WO a0))], [], 1, 124, []⟩) 0 o22 (Qf (Wi rfl (Wi rfl Wh)) (WD rfl WC) Wy rfl (Nat.zero_le _) rfl rfl rfl (WU rfl rfl WR) rfl rfl) hl1 (fun s1 n1 oo1 h1 ho1 => ?_)
 unfold Kj at h1
 refine Q2 <| Q2 <| Q0 <| Wn rfl rfl rfl <| Wm rfl rfl rfl (Q6 Zs rfl) <| Wm rfl rfl rfl (Q6 Ko rfl) <| Wm rfl rfl rfl (Q7 Yk rfl rfl rfl) <| Wm rfl rfl rfl (QC (α := Tm) JQ rfl (.d _)) <| Wm rfl rfl rfl (Q8 rfl rfl rfl) <| Q3 <| Q1 ?_
 refine Qe (b := (decide (s1 < (a0.rcr.rules.length : Int)))) rfl (fun c23 => ?_) (fun c23 => ?_)
 replace h1 := Qq c23 h1
 refine Qi <| Q1 <| Q2 <| Qc <| Q2 <| Q0 <| Wm rfl rfl rfl (Q6 Zs rfl) <| Wm rfl rfl rfl (Q6 Ko rfl) <| Wm rfl rfl rfl (Q7 Yk rfl rfl rfl) <| Wn rfl rfl rfl ?_
 refine Qb h1 (fun x24 hx24 h1 => ?_)
 refine Wm rfl rfl rfl (Qm (α := Tm) JQ rfl (.d _) rfl hx24) <| Wm rfl rfl rfl (QK (x24 : Tm) Jn rfl) ?_
 refine Qb h1 (fun x25 hx25 h1 => ?_)
 refine Qa rfl rfl (Wx rfl) (Qn (KZ x24 x25 hx25) rfl (.cons (.agg (.cons (.d _) (.cons (.d _) (.cons (.d _) (.cons (.d _) (.cons (.d _) .nil)))))) .nil)) <| Wm rfl rfl rfl (J9 rfl) <| Q3 <| Q1 ?_
 refine Qe (b := (!x25)) rfl (fun c26 => ?_) (fun c26 => ?_)
 replace h1 := Qq c26 h1
 refine Q2 <| Q0 <| Wo rfl rfl rfl <| Q3 <| Q1 <| Qz ?_
 have e := Wk h1; subst e
 have e_ : _ = _ := ho1
 subst e_
 try dsimp only [Sum.elim_inl, Sum.elim_inr] at h0
 have e := Wk h0; subst e
 exact QO (fun _ _ h => h) rfl (Qo rfl .nil) (.cons (.one (.d _)) .nil)
 replace h1 := Qr c26 h1
 refine Qi <| Qj <| Q1 <| Q0 <| Wn rfl rfl rfl <| Wm rfl rfl rfl (Q8 rfl rfl rfl) <| Wo rfl rfl rfl <| Q3 ?_
 have e := Wk h1; subst e
 refine QD (QZ (s1 + 1)) (Qf (Wi rfl (Wi rfl Wh)) (WD rfl WC) Wy rfl (Nat.zero_le _) rfl rfl rfl (WU rfl rfl WR) rfl rfl) ho1
 replace h1 := Qr c23 h1
 refine QM <| Qd <| Qd ?_
 have e := Wk h1; subst e
 have e_ : _ = _ := ho1
 subst e_
 exact QG () (Qf (Wi rfl Wh) (WD rfl WC) Wy rfl (Nat.zero_le _) rfl rfl rfl (WU rfl rfl WR) rfl rfl) h0
 intro o21 h0
 refine QB <| Q1 <| Q2 <| Q2 <| Q0 <| Wo rfl rfl rfl <| Q3 <| Q1 <| Qc ?_
 refine QI 4 (fun (o27 : Unit) => ⟨[], [(0, .cells 48 (WO a0))], [], 1, 124, []⟩) (fun (o27 : Unit) => (some true) = some r) ?_ ?_
 refine Qb h0 (fun o28 hl1 h0 => ?_)
 refine QH (ZW a0) (fun s1 => ⟨[(1, .v (.one (.ptr 0 0))), (5, .v (.one (WL s1)))], [(0, .cells 48 (WO a0))], [], 1, 124, []⟩) 0 o28 (Qf (Wi rfl (Wi rfl Wh)) (WD rfl WC) Wy rfl (Nat.zero_le _) rfl rfl rfl (WU rfl rfl WR) rfl rfl) hl1 (fun s1 n1 oo1 h1 ho1 => ?_)
 unfold ZW at h1
 refine Q2 <| Q2 <| Q0 <| Wn rfl rfl rfl <| Wm rfl rfl rfl (Q6 JN rfl) <| Wm rfl rfl rfl (Q7 YE rfl rfl rfl) <| Wm rfl rfl rfl (QC (α := Fn) Yr rfl (.d _)) <| Wm rfl rfl rfl (Q8 rfl rfl rfl) <| Q3 <| Q1 ?_
 refine Qe (b := (decide (s1 < (a0.funs.length : Int)))) rfl (fun c29 => ?_) (fun c29 => ?_)
 replace h1 := Qq c29 h1
 refine Qi <| Q1 <| Q2 <| Qc <| Q2 ?_
 refine Jf (fun (v30 : Bool) => ⟨[(1, .v (.one (.ptr 0 0))), (5, .v (.one (WL s1))), (123, .v (.one (WM v30)))], [(0, .cells 48 (WO a0))], [], 1, 124, []⟩) (fun (v30 : Bool) => (cond v30
     (some (.done (.inr false)))
     (some (.next (QZ (s1 + 1))))) = some oo1) ?_ ?_
 refine Qb h1 (fun w2_ h2 h1 => ?_)
 refine Q0 <| Wm rfl rfl rfl (Q6 JN rfl) <| Wm rfl rfl rfl (Q7 YE rfl rfl rfl) <| Wn rfl rfl rfl ?_
 refine Qb h2 (fun x31 hx31 h2 => ?_)
 refine Wm rfl rfl rfl (Qm (α := Fn) Yr rfl (.d _) rfl hx31) <| Wm rfl rfl rfl (Jz Gj rfl) <| Wm rfl rfl rfl (QN JT rfl rfl) <| Wm rfl rfl rfl (Gu XG rfl) <| Wm rfl rfl rfl (Q8 rfl rfl rfl) <| Wn rfl rfl rfl ?_
 refine QP (d := 104) (c := (decide (200 < (x31.name.length : Int)))) rfl (fun c32 => ?_) (fun c32 => ?_)
 replace h2 := Qq c32 h2
 refine Q5 rfl rfl <| Q5 rfl rfl <| Q5 rfl rfl <| Q5 rfl rfl <| Q5 rfl rfl <| Q5 rfl rfl <| Q5 rfl rfl <| Q5 rfl rfl <| Wm rfl rfl rfl (Qk rfl rfl) <| Wn rfl rfl rfl <| Q5 rfl rfl <| Q5 rfl rfl <| Q5 rfl rfl <| Q5 rfl rfl ?_
 refine Q5 rfl rfl <| Q5 rfl rfl <| Q5 rfl rfl <| Q5 rfl rfl <| Wm rfl rfl rfl (Qk rfl rfl) <| Q3 ?_
 have e := Wk h2; subst e
 exact Qt true (Qf (Wi rfl (Wi rfl (Wi rfl Wh))) (WD rfl WC) Wy rfl (Nat.zero_le _) rfl rfl rfl (WU rfl rfl WR) rfl rfl) h1
 replace h2 := Qr c32 h2
 refine Wm rfl rfl rfl (Q6 JN rfl) <| Wm rfl rfl rfl (Q7 YE rfl rfl rfl) <| Wn rfl rfl rfl ?_
 refine Qb h2 (fun x33 hx33 h2 => ?_)
 refine Wm rfl rfl rfl (Qm (α := Fn) Yr rfl (.d _) rfl hx33) <| Wm rfl rfl rfl (Jz fo_89_1 rfl) <| Wm rfl rfl rfl (Jh Jn rfl rfl rfl) ?_
 refine Qb h2 (fun x34 hx34 h2 => ?_)
 refine Qa rfl rfl (Wx rfl) (Qn (KZ x33.ty x34 hx34) rfl (.cons (.agg (.cons (.d _) (.cons (.d _) (.cons (.d _) (.cons (.d _) (.cons (.d _) .nil)))))) .nil)) <| Wm rfl rfl rfl (J9 rfl) <| Wm rfl rfl rfl (Qx rfl rfl) <| Wn rfl rfl rfl ?_
 refine QP (d := 114) (c := (!x34)) rfl (fun c35 => ?_) (fun c35 => ?_)
 replace h2 := Qq c35 h2
 refine Q5 rfl rfl <| Q5 rfl rfl <| Q5 rfl rfl <| Q5 rfl rfl <| Q5 rfl rfl <| Q5 rfl rfl <| Q5 rfl rfl <| Q5 rfl rfl <| Wm rfl rfl rfl (Qk rfl rfl) <| Q3 ?_
 have e := Wk h2; subst e
 exact Qt true (Qf (Wi rfl (Wi rfl (Wi rfl Wh))) (WD rfl WC) Wy rfl (Nat.zero_le _) rfl rfl rfl (WU rfl rfl WR) rfl rfl) h1
 replace h2 := Qr c35 h2
 refine Wm rfl rfl rfl (Q6 JN rfl) <| Wm rfl rfl rfl (Q7 YE rfl rfl rfl) <| Wn rfl rfl rfl ?_
 refine Qb h2 (fun x36 hx36 h2 => ?_)
 refine Wm rfl rfl rfl (Qm (α := Fn) Yr rfl (.d _) rfl hx36) <| Wm rfl rfl rfl (Jz fo_89_3 rfl) <| Wm rfl rfl rfl (Jh GN rfl rfl rfl) ?_
 refine Qb h2 (fun x37 hx37 h2 => ?_)
 refine Qa rfl rfl (Wx rfl) (Qn (m51_ok x36.tree 0 x37 hx37) rfl (.cons (.agg (.cons (.d _) (.cons (.d _) (.cons (.d _) (.cons (.d _) (.cons (.d _) (.cons (.d _) (.cons (.d _) (.cons (.d _) .nil))))))))) (.cons (.one (.d _)) .nil))) <| Wm rfl rfl rfl (J9 rfl) <| Wm rfl rfl rfl (Qx rfl rfl) <| Q3 ?_
 have e := Wk h2; subst e
 exact Qt (!x37) (Qf (Wi rfl (Wi rfl (Wi rfl Wh))) (WD rfl WC) Wy rfl (Nat.zero_le _) rfl rfl rfl (WU rfl rfl WR) rfl rfl) h1
 intro v30 h1
 refine Q1 ?_
 refine Qe (b := v30) rfl (fun c38 => ?_) (fun c38 => ?_)
 replace h1 := Qq c38 h1
 refine Q2 <| Q0 <| Wo rfl rfl rfl <| Q3 <| Q1 <| Qz ?_
 have e := Wk h1; subst e
 have e_ : _ = _ := ho1
 subst e_
 try dsimp only [Sum.elim_inl, Sum.elim_inr] at h0
 have e := Wk h0; subst e
 exact QO (fun _ _ h => h) rfl (Qo rfl .nil) (.cons (.one (.d _)) .nil)
 replace h1 := Qr c38 h1
 refine Qi <| Qj <| Q1 <| Q0 <| Wn rfl rfl rfl <| Wm rfl rfl rfl (Q8 rfl rfl rfl) <| Wo rfl rfl rfl <| Q3 ?_
 have e := Wk h1; subst e
 refine QD (QZ (s1 + 1)) (Qf (Wi rfl (Wi rfl Wh)) (WD rfl WC) Wy rfl (Nat.zero_le _) rfl rfl rfl (WU rfl rfl WR) rfl rfl) ho1
 replace h1 := Qr c29 h1
 refine QM <| Qd <| Qd ?_
 have e := Wk h1; subst e
 have e_ : _ = _ := ho1
 subst e_
 exact QG () (Qf Wh (WD rfl WC) Wy rfl (Nat.zero_le _) rfl rfl rfl (WU rfl rfl WR) rfl rfl) h0
 intro o27 h0
 refine QB <| Q1 <| Q2 <| Q0 <| Wo rfl rfl rfl <| Q3 <| Q1 <| Qz ?_
 have e := Wk h0; subst e
 exact QO (fun _ _ h => h) rfl (Qo rfl .nil) (.cons (.one (.d _)) .nil)
def Xd (a0 : List Dcl) (s1 : Int) : Option (LO Int (Unit ⊕ Bool)) :=
 Option.bind (cond (decide (s1 < (a0.length : Int)))
   (some (decide (s1 < 80)))
   (some false)) (fun (v2 : Bool) => cond v2
   (Option.bind (Ja a0 s1) fun (x4 : Dcl) =>
 Option.bind (W8 x4) fun (x5 : Bool) =>
 cond (!x5)
   (some (.done (.inr false)))
   (some (.next (QZ (s1 + 1)))))
   (some (.done (.inl ()))))
def Wt (a0 : List Dcl) : Option Bool :=
 Option.bind (Qw (Xd a0) QF 0) (Sum.elim (fun (o1 : Unit) => some (decide ((a0.length : Int) ≤ 70))) (fun o => some o))
set_option maxRecDepth 100000 in
set_option maxHeartbeats 2000000 in
theorem m9_ok (a0 : List Dcl) (r : Bool) (h0 : Wt a0 = some r) : Fun Try.prog 9 [.one (WJ a0)] (QA [.one (WM r)]) := by
 unfold Wt at h0
 refine QU 9 23 Try.func9 rfl en_9 rfl (Wx rfl) (fun S w => ?_)
 simp only [Jb]
 refine Q2 <| Q0 <| Wo rfl rfl rfl <| Q3 <| Q1 <| Q2 <| Q2 <| Q0 <| Wo rfl rfl rfl <| Q3 <| Q1 <| Qc ?_
 refine QI 0 (fun (o1 : Unit) => ⟨[(0, .v (.one (WJ a0)))], [], [], 0, 23, []⟩) (fun (o1 : Unit) => (some (decide ((a0.length : Int) ≤ 70))) = some r) ?_ ?_
 refine Qb h0 (fun o2 hl1 h0 => ?_)
 refine QH (Xd a0) (fun s1 => ⟨[(0, .v (.one (WJ a0))), (3, .v (.one (WL s1)))], [], [], 0, 23, []⟩) 0 o2 (Qf (Wi rfl (Wi rfl Wh)) WC Wy rfl (Nat.zero_le _) rfl rfl rfl WR rfl rfl) hl1 (fun s1 n1 oo1 h1 ho1 => ?_)
 unfold Xd at h1
 refine Q2 <| Q2 ?_
 refine Jf (fun (v3 : Bool) => ⟨[(0, .v (.one (WJ a0))), (3, .v (.one (WL s1))), (11, .v (.one (WM v3)))], [], [], 0, 23, []⟩) (fun (v3 : Bool) => (cond v3
     (Option.bind (Ja a0 s1) fun (x5 : Dcl) =>
   Option.bind (W8 x5) fun (x6 : Bool) =>
   cond (!x6)
     (some (.done (.inr false)))
     (some (.next (QZ (s1 + 1)))))
     (some (.done (.inl ())))) = some oo1) ?_ ?_
 refine Qb h1 (fun w2_ h2 h1 => ?_)
 refine Q0 <| Wn rfl rfl rfl <| Wn rfl rfl rfl <| Wm rfl rfl rfl (QC (α := Dcl) Jo rfl (.d _)) <| Wm rfl rfl rfl (Q8 rfl rfl rfl) <| Wn rfl rfl rfl ?_
 refine QP (d := 8) (c := (decide (s1 < (a0.length : Int)))) rfl (fun c4 => ?_) (fun c4 => ?_)
 replace h2 := Qq c4 h2
 refine Wn rfl rfl rfl <| Wm rfl rfl rfl (Q8 rfl rfl rfl) <| Wm rfl rfl rfl (Qk rfl rfl) <| Q3 ?_
 have e := Wk h2; subst e
 exact Qt (decide (s1 < 80)) (Qf (Wi rfl (Wi rfl (Wi rfl Wh))) WC Wy rfl (Nat.zero_le _) rfl rfl rfl WR rfl rfl) h1
 replace h2 := Qr c4 h2
 refine Q5 rfl rfl <| Q5 rfl rfl <| Wm rfl rfl rfl (Qx rfl rfl) <| Q3 ?_
 have e := Wk h2; subst e
 exact Qt false (Qf (Wi rfl (Wi rfl (Wi rfl Wh))) WC Wy rfl (Nat.zero_le _) rfl rfl rfl WR rfl rfl) h1
 intro v3 h1
 refine Q1 ?_
 refine Qe (b := v3) rfl (fun c5 => ?_) (fun c5 => ?_)
 replace h1 := Qq c5 h1
 refine Qi <| Q1 <| Q2 <| Qc <| Q2 <| Q0 <| Wn rfl rfl rfl <| Wn rfl rfl rfl ?_
 refine Qb h1 (fun x6 hx6 h1 => ?_)
 refine Wm rfl rfl rfl (Qm (α := Dcl) Jo rfl (.d _) rfl hx6) <| Wm rfl rfl rfl (QK (x6 : Dcl) Jg rfl) ?_
 refine Qb h1 (fun x7 hx7 h1 => ?_)
 refine Qa rfl rfl (Wx rfl) (Qn (m30_ok x6 x7 hx7) rfl (.cons (.agg (.cons (.d _) (.cons (.d _) (.cons (.d _) (.cons (.d _) (.cons (.d _) (.cons (.d _) (.cons (.d _) (.cons (.d _) (.cons (.d _) (.cons (.d _) (.cons (.d _) (.cons (.d _) (.cons (.d _) (.cons (.d _) (.cons (.d _) (.cons (.d _) (.cons (.d _) (.cons (.d _) (.cons (.d _) (.cons (.d _) (.cons (.d _) (.cons (.d _) (.cons (.d _) .nil)))))))))))))))))))))))) .nil)) <| Wm rfl rfl rfl (J9 rfl) <| Q3 <| Q1 ?_
 refine Qe (b := (!x7)) rfl (fun c8 => ?_) (fun c8 => ?_)
 replace h1 := Qq c8 h1
 refine Q2 <| Q0 <| Wo rfl rfl rfl <| Q3 <| Q1 <| Qz ?_
 have e := Wk h1; subst e
 have e_ : _ = _ := ho1
 subst e_
 try dsimp only [Sum.elim_inl, Sum.elim_inr] at h0
 have e := Wk h0; subst e
 exact QO (fun _ _ h => h) rfl (Qo rfl .nil) (.cons (.one (.d _)) .nil)
 replace h1 := Qr c8 h1
 refine Qi <| Qj <| Q1 <| Q0 <| Wn rfl rfl rfl <| Wm rfl rfl rfl (Q8 rfl rfl rfl) <| Wo rfl rfl rfl <| Q3 ?_
 have e := Wk h1; subst e
 refine QD (QZ (s1 + 1)) (Qf (Wi rfl (Wi rfl Wh)) WC Wy rfl (Nat.zero_le _) rfl rfl rfl WR rfl rfl) ho1
 replace h1 := Qr c5 h1
 refine QM <| Qd <| Qd ?_
 have e := Wk h1; subst e
 have e_ : _ = _ := ho1
 subst e_
 exact QG () (Qf (Wi rfl Wh) WC Wy rfl (Nat.zero_le _) rfl rfl rfl WR rfl rfl) h0
 intro o1 h0
 refine QB <| Q1 <| Q2 <| Q0 <| Wn rfl rfl rfl <| Wm rfl rfl rfl (QC (α := Dcl) Jo rfl (.d _)) <| Wm rfl rfl rfl (Q8 rfl rfl rfl) <| Wo rfl rfl rfl <| Q3 <| Q1 <| Qz ?_
 have e := Wk h0; subst e
 exact QO (fun _ _ h => h) rfl (Qo rfl .nil) (.cons (.one (.d _)) .nil)
end Go.Proofs.Ytijcchddnnnmdaa
namespace Go.Proofs.Ytijcchddnnnmdaa
open Go.RowKit Go.Shelf
set_option linter.unusedSimpArgs false
set_option linter.unusedVariables false
theorem en_29 : J7 Try.prog 29 := enters_of Try.func29 (by kernel_rfl) rfl
def m29_l0 (a0 : List Int) (a1 : List Int) (s1 : Int) : Option (LO Int (Unit ⊕ Bool)) :=
 cond (decide (s1 < (a0.length : Int)))
   (Option.bind (Ja a0 s1) fun (x4 : Int) =>
 Option.bind (Ja a1 s1) fun (x5 : Int) =>
 cond (x4 != x5)
   (some (.done (.inr false)))
   (some (.next (QZ (s1 + 1)))))
   (some (.done (.inl ())))
def XY (a0 : List Int) (a1 : List Int) : Option Bool :=
 cond ((a0.length : Int) != (a1.length : Int))
   (some false)
   (Option.bind (Qw (m29_l0 a0 a1) QF 0) (Sum.elim (fun (o2 : Unit) => some true) (fun o => some o)))
set_option maxRecDepth 100000 in
set_option maxHeartbeats 2000000 in
theorem m29_ok (a0 : List Int) (a1 : List Int) (r : Bool) (h0 : XY a0 a1 = some r) : Fun Try.prog 29 [.one (WJ a0), .one (WJ a1)] (QA [.one (WM r)]) := by
 unfold XY at h0
 refine QU 9 26 Try.func29 rfl en_29 rfl (Wx rfl) (fun S w => ?_)
 simp only [Jb]
 refine Q2 <| Q0 <| Wo rfl rfl rfl <| Q3 <| Q1 <| Q2 <| Q2 <| Q0 <| Wn rfl rfl rfl <| Wm rfl rfl rfl (QC (α := Int) JU rfl (.d _)) <| Wn rfl rfl rfl <| Wm rfl rfl rfl (QC (α := Int) JU rfl (.d _)) <| Wm rfl rfl rfl (Q8 rfl rfl rfl) <| Q3 ?_
 refine Q1 ?_
 refine Qe (b := ((a0.length : Int) != (a1.length : Int))) rfl (fun c1 => ?_) (fun c1 => ?_)
 replace h0 := Qq c1 h0
 refine Q2 <| Q0 <| Wo rfl rfl rfl <| Q3 <| Q1 <| Qz ?_
 have e := Wk h0; subst e
 exact QO (fun _ _ h => h) rfl (Qo rfl .nil) (.cons (.one (.d _)) .nil)
 replace h0 := Qr c1 h0
 refine Qi <| Q1 <| Q2 <| Q2 <| Q0 <| Wn rfl rfl rfl <| Wm rfl rfl rfl (QC (α := Int) JU rfl (.d _)) <| Wn rfl rfl rfl <| Q3 <| Q1 <| Qc ?_
 refine QI 0 (fun (o2 : Unit) => ⟨[], [], [], 0, 26, []⟩) (fun (o2 : Unit) => (some true) = some r) ?_ ?_
 refine Qb h0 (fun o3 hl1 h0 => ?_)
 refine QH (m29_l0 a0 a1) (fun s1 => ⟨[(0, .v (.one (WJ a0))), (1, .v (.one (WJ a1))), (12, .v (.one (WL (a0.length : Int)))), (13, .v (.one (WL s1)))], [], [], 0, 26, []⟩) 0 o3 (Qf (Wi rfl (Wi rfl (Wi rfl (Wi rfl Wh)))) WC Wy rfl (Nat.zero_le _) rfl rfl rfl WR rfl rfl) hl1 (fun s1 n1 oo1 h1 ho1 => ?_)
 unfold m29_l0 at h1
 refine Q2 <| Q0 <| Wm rfl rfl rfl (Q8 rfl rfl rfl) <| Q3 <| Q1 <| Q2 ?_
 refine Qe (b := (decide (s1 < (a0.length : Int)))) rfl (fun c4 => ?_) (fun c4 => ?_)
 replace h1 := Qq c4 h1
 refine Qi <| Q1 <| Q2 <| Qc <| Q2 <| Q0 <| Wn rfl rfl rfl <| Wo rfl rfl rfl <| Q3 <| Q1 <| Q2 ?_
 refine JG [] [] mixed (by kernel_rfl) (by kernel_rfl) (by kernel_rfl) ?_
 refine RunA.rd rfl rfl rfl (Q4 (QQ rfl)) rfl <| RunA.rd rfl rfl rfl (Q4 (QQ rfl)) rfl ?_
 refine Qb h1 (fun x5 hx5 h1 => ?_)
 refine RunA.rd rfl rfl rfl (Q4 (Qm (α := Int) JU rfl (.d _) rfl hx5)) rfl <| RunA.rd rfl rfl rfl (Q4 (QN YA rfl rfl)) rfl <| RunA.rd rfl rfl rfl (Q4 (QQ rfl)) rfl <| RunA.rd rfl rfl rfl (Q4 (QQ rfl)) rfl ?_
 refine Qb h1 (fun x6 hx6 h1 => ?_)
 refine RunA.rd rfl rfl rfl (Q4 (Qm (α := Int) JU rfl (.d _) rfl hx6)) rfl <| RunA.rd rfl rfl rfl (Q4 (QN YA rfl rfl)) rfl <| RunA.rd rfl rfl rfl (Q4 (Q8 rfl rfl rfl)) rfl ?_
 refine RunA.nil ⟨?ex, _, _, rfl, ?_⟩
 case ex => exact trivial
 refine JK (st' := ⟨[(0, .v (.one (WJ a0))), (1, .v (.one (WJ a1))), (12, .v (.one (WL (a0.length : Int)))), (13, .v (.one (WL s1))), (24, .v (.one (WM (x5 != x6))))], [], [], 0, 26, []⟩) (Qf (Wi rfl (Wi rfl (Wi rfl (Wi rfl (Wi rfl Wh))))) WC Wy rfl (Nat.zero_le _) rfl rfl rfl WR rfl rfl) <| Q1 ?_
 refine Qe (b := (x5 != x6)) rfl (fun c7 => ?_) (fun c7 => ?_)
 replace h1 := Qq c7 h1
 refine Q2 <| Q0 <| Wo rfl rfl rfl <| Q3 <| Q1 <| Qz ?_
 have e := Wk h1; subst e
 have e_ : _ = _ := ho1
 subst e_
 try dsimp only [Sum.elim_inl, Sum.elim_inr] at h0
 have e := Wk h0; subst e
 exact QO (fun _ _ h => h) rfl (Qo rfl .nil) (.cons (.one (.d _)) .nil)
 replace h1 := Qr c7 h1
 refine Qi <| Qj <| Q1 <| Q0 <| Wm rfl rfl rfl (Q8 rfl rfl rfl) <| Wn rfl rfl rfl <| Q3 ?_
 have e := Wk h1; subst e
 refine QD (QZ (s1 + 1)) (Qf (Wi rfl (Wi rfl (Wi rfl (Wi rfl Wh)))) WC Wy rfl (Nat.zero_le _) rfl rfl rfl WR rfl rfl) ho1
 replace h1 := Qr c4 h1
 refine QM <| Qd <| Qd ?_
 have e := Wk h1; subst e
 have e_ : _ = _ := ho1
 subst e_
 exact QG () (Qf Wh WC Wy rfl (Nat.zero_le _) rfl rfl rfl WR rfl rfl) h0
 intro o2 h0
 refine QB <| Q1 <| Q2 <| Q0 <| Wo rfl rfl rfl <| Q3 <| Q1 <| Qz ?_
 have e := Wk h0; subst e
 exact QO (fun _ _ h => h) rfl (Qo rfl .nil) (.cons (.one (.d _)) .nil)
end Go.Proofs.Ytijcchddnnnmdaa
namespace Go.Proofs.Ytijcchddnnnmdaa
open Go.RowKit Go.Lib
set_option linter.unusedSimpArgs false
set_option linter.unusedVariables false
set_option linter.unusedSectionVars false
theorem K5 {α σ τ β : Type} {step : τ → Option (LO τ β)} (l : List α) (mk : Int → σ → τ) (hlen : l.length ≤ 900000000)
    (hin : ∀ (a : List α) (x : α) (b : List α) (s : σ), l = a ++ x :: b → (∃ r, step (mk (a.length : Int) s) = some (.done r)) ∨ ∃ s', step (mk (a.length : Int) s) = some (.next (mk (QZ ((a.length : Int) + 1)) s')))
    (hout : ∀ s, ∃ r, step (mk (l.length : Int) s) = some (.done r)) (s0 : σ) : ∃ r, Qw step QF (mk 0 s0) = some r := by
  obtain ⟨r, h, -⟩ := Jx l mk (fun _ _ => True) (fun _ => True) hlen (fun a x b s e _ => (hin a x b s e).elim (fun ⟨r, h⟩ => .inl ⟨r, h, trivial⟩) (fun ⟨s', h⟩ => .inr ⟨s', h, trivial⟩)) (fun s _ => let ⟨r, h⟩ := hout s; ⟨r, h, trivial⟩) s0 trivial
  exact ⟨r, h⟩
theorem size_some : ∀ (n : Nat) (t : Tm), t.size ≤ n → t.size ≤ 900000000 → ∃ r, Yb XK n t = some r
  | 0, t, h, _ => by rw [t.size_eq] at h; omega
  | n + 1, t, h, h2 => by
    show ∃ r, XJ (Yb XK n) t = some r
    unfold XJ
    have hl := kids_len t
    obtain ⟨r, e⟩ := K5 (step := Gz t (Yb XK n)) t.kids (fun i (s : Int) => (s, i)) (by omega)
      (fun a x b s e => by
        have hx := Zm (t := t) (k := x) (by rw [e]; simp)
        obtain ⟨r, hr⟩ := size_some n x (by omega) (by omega)
        refine .inr ⟨QZ (s + r), ?_⟩
        unfold Gz
        dsimp only
        rw [e, Jd, QY]
        simp only [cond_true, Option.bind_some]
        rw [hr]; rfl) (fun s => ⟨s, by unfold Gz; dsimp only; rw [Jm]; rfl⟩) 1
    rw [e]; exact ⟨r, rfl⟩
theorem depth_some : ∀ (n : Nat) (t : Tm), t.size ≤ n → t.size ≤ 900000000 → ∃ r, Yb XI n t = some r
  | 0, t, h, _ => by rw [t.size_eq] at h; omega
  | n + 1, t, h, h2 => by
    show ∃ r, XH (Yb XI n) t = some r
    unfold XH
    have hl := kids_len t
    obtain ⟨r, e⟩ := K5 (step := Gy t (Yb XI n)) t.kids (fun i (s : Int) => (s, i)) (by omega)
      (fun a x b s e => by
        have hx := Zm (t := t) (k := x) (by rw [e]; simp)
        obtain ⟨r, hr⟩ := depth_some n x (by omega) (by omega)
        refine .inr ⟨max s r, ?_⟩
        unfold Gy
        dsimp only
        rw [e, Jd, QY]
        simp only [cond_true, Option.bind_some]
        rw [hr]; rfl) (fun s => ⟨s, by unfold Gy; dsimp only; rw [Jm]; rfl⟩) 0
    rw [e]; exact ⟨_, rfl⟩
theorem ZH (t : Tm) (h : t.size ≤ 900000000) : ∃ b, XR t = some b := by
  unfold XR
  obtain ⟨r, e⟩ := size_some QF t (by unfold QF; omega) h
  obtain ⟨r2, e2⟩ := depth_some QF t (by unfold QF; omega) h
  unfold m65 m66
  rw [e, e2]
  simp only [Option.bind_some]
  cases decide (r ≤ 400) <;> exact ⟨_, rfl⟩
theorem tree_some : ∀ (n : Nat) (t : Tr) (d : Int), t.size ≤ n → t.size ≤ 900000000 → ∃ r, Yb XP n (t, d) = some r
  | 0, t, d, h, _ => by rw [t.size_eq] at h; omega
  | n + 1, t, d, h, h2 => by
    show ∃ r, XO (Yb XP n) t d = some r
    unfold XO
    have hl := branches_len t
    have hsz := t.size_eq
    obtain ⟨b, hb⟩ := ZH t.body (by omega)
    obtain ⟨r, e⟩ := K5 (step := KY t (Yb XP n) d) t.branches (fun i (s : Unit) => i) (by omega)
      (fun a x c s e => by
        have hx := Tr.kid_size (t := t) (b := x) (by rw [e]; simp)
        obtain ⟨r, hr⟩ := tree_some n x.tree (QZ (d + 1)) (by omega) (by omega)
        unfold KY
        rw [e, Jd, QY]
        simp only [cond_true, Option.bind_some]
        rw [hr]
        cases r with
        | false => exact .inl ⟨_, rfl⟩
        | true =>
          simp only [Option.bind_some, Bool.not_true, cond_false]
          cases decide (200 < (x.ctor.length : Int)) with
          | true => exact .inl ⟨_, rfl⟩
          | false => exact .inr ⟨(), rfl⟩) (fun s => ⟨_, by unfold KY; rw [Jm]; rfl⟩) ()
    rw [e, hb]
    cases decide (40 < d) with
    | true => exact ⟨_, rfl⟩
    | false =>
      cases decide (40 < (t.branches.length : Int)) with
      | true => exact ⟨_, rfl⟩
      | false =>
        cases b with
        | false => exact ⟨_, rfl⟩
        | true =>
          cases r with
          | inl u => exact ⟨_, rfl⟩
          | inr u => exact ⟨_, rfl⟩
theorem m30_some (d : Dcl) (h : d.size ≤ 900000000) : ∃ b, W8 d = some b := by
  have h1 := ZA d
  have h2 := ZJ d
  have h3 := rules_len d
  have hty := ZD (d := d) (t := d.ty) (by unfold Jr; simp)
  have hval := ZD (d := d) (t := d.value) (by unfold Jr; simp)
  have hrt := ZD (d := d) (t := d.rcr.ty) (by unfold Jr; simp)
  obtain ⟨b1, e1⟩ := ZH d.ty (by omega)
  obtain ⟨b2, e2⟩ := ZH d.value (by omega)
  obtain ⟨b3, e3⟩ := ZH d.rcr.ty (by omega)
  obtain ⟨r1, l1⟩ := K5 (step := Ky d) d.ctors (fun i (s : Unit) => i) (by omega)
    (fun a x c s e => by
      have hx := ZD (d := d) (t := x.ty) (by unfold Jr; rw [e]; simp)
      obtain ⟨r, hr⟩ := ZH x.ty (by omega)
      unfold Ky
      rw [e, Jd, QY]
      simp only [cond_true, Option.bind_some]
      cases decide (200 < (x.name.length : Int)) with
      | true => exact .inl ⟨_, rfl⟩
      | false =>
        simp only [cond_false]
        rw [hr]
        cases r with
        | false => exact .inl ⟨_, rfl⟩
        | true => exact .inr ⟨(), rfl⟩) (fun s => ⟨_, by unfold Ky; rw [Jm]; rfl⟩) ()
  obtain ⟨r2, l2⟩ := K5 (step := Kj d) d.rcr.rules (fun i (s : Unit) => i) (by omega)
    (fun a x c s e => by
      have hx := ZD (d := d) (t := x) (by unfold Jr; rw [e]; simp)
      obtain ⟨r, hr⟩ := ZH x (by omega)
      unfold Kj
      rw [e, Jd, QY]
      simp only [cond_true, Option.bind_some]
      rw [hr]
      cases r with
      | false => exact .inl ⟨_, rfl⟩
      | true => exact .inr ⟨(), rfl⟩) (fun s => ⟨_, by unfold Kj; rw [Jm]; rfl⟩) ()
  obtain ⟨r3, l3⟩ := K5 (step := ZW d) d.funs (fun i (s : Unit) => i) (by omega)
    (fun a x c s e => by
      have hx := ZD (d := d) (t := x.ty) (by unfold Jr; rw [e]; simp)
      have hf := fun_mem (d := d) (f := x) (by rw [e]; simp)
      obtain ⟨r, hr⟩ := ZH x.ty (by omega)
      obtain ⟨q, hq⟩ := tree_some QF x.tree 0 (by unfold QF; omega) (by omega)
      unfold ZW
      rw [e, Jd, QY]
      simp only [cond_true, Option.bind_some]
      cases decide (200 < (x.name.length : Int)) with
      | true => exact .inl ⟨_, rfl⟩
      | false =>
        simp only [cond_false]
        rw [hr]
        cases r with
        | false => exact .inl ⟨_, rfl⟩
        | true =>
          simp only [Option.bind_some, Bool.not_true, cond_false]
          unfold m51
          rw [hq]
          cases q with
          | false => exact .inl ⟨_, rfl⟩
          | true => exact .inr ⟨(), rfl⟩) (fun s => ⟨_, by unfold ZW; rw [Jm]; rfl⟩) ()
  have tail : ∃ b, Option.bind (Qw (Ky d) QF 0) (Sum.elim (fun (o3 : Unit) => Option.bind (Qw (Kj d) QF 0) (Sum.elim (fun (o4 : Unit) => Option.bind (Qw (ZW d) QF 0) (Sum.elim (fun (o5 : Unit) => some true) (fun o => some o))) (fun o => some o))) (fun o => some o)) = some b := by
    rw [l1, l2, l3]
    cases r1 with
    | inr u => exact ⟨_, rfl⟩
    | inl u =>
      cases r2 with
      | inr u => exact ⟨_, rfl⟩
      | inl u =>
        cases r3 with
        | inr u => exact ⟨_, rfl⟩
        | inl u => exact ⟨_, rfl⟩
  obtain ⟨bt, ht⟩ := tail
  unfold W8
  rw [e1, e2, e3, ht]
  cases decide (200 < (d.name.length : Int)) with
  | true => exact ⟨_, rfl⟩
  | false =>
    cases b1 with
    | false => exact ⟨_, rfl⟩
    | true =>
      cases b2 with
      | false => exact ⟨_, rfl⟩
      | true =>
        cases decide (40 < (d.ctors.length : Int)) with
        | true => exact ⟨_, rfl⟩
        | false =>
          cases decide (12 < (d.funs.length : Int)) with
          | true => exact ⟨_, rfl⟩
          | false =>
            cases b3 with
            | false => exact ⟨_, rfl⟩
            | true =>
              cases h7 : decide (40 < (d.rcr.rules.length : Int)) with
              | true => exact ⟨false, by simp [h7]⟩
              | false => exact ⟨bt, by simp [h7]⟩
theorem m9_some (env : List Dcl) (h : YY env ≤ 900000000) : ∃ b, Wt env = some b ∧ (b = true → env.length ≤ 70) := by
  have hel := ZT env
  obtain ⟨r, e, hr⟩ := Jx (step := Xd env) env (fun i (s : Unit) => i) (fun _ _ => True) (fun r => r = .inl () ∨ r = .inr false) (by omega)
    (fun a x c s e _ => by
      have hx := KJ (env := env) (d := x) (by rw [e]; simp)
      obtain ⟨r, hr⟩ := m30_some x (by omega)
      unfold Xd
      rw [e, Jd, QY]
      simp only [cond_true, Option.bind_some]
      cases decide ((a.length : Int) < 80) with
      | false => exact .inl ⟨_, rfl, .inl rfl⟩
      | true =>
        simp only [cond_true]
        rw [hr]
        cases r with
        | false => exact .inl ⟨_, rfl, .inr rfl⟩
        | true => exact .inr ⟨(), rfl, trivial⟩) (fun s _ => ⟨_, by unfold Xd; rw [Jm]; rfl, .inl rfl⟩) () trivial
  unfold Wt
  rw [e]
  rcases hr with rfl | rfl
  · exact ⟨_, rfl, fun hb => by have := of_decide_eq_true hb; omega⟩
  · exact ⟨false, rfl, fun hb => by cases hb⟩
end Go.Proofs.Ytijcchddnnnmdaa
namespace Go.Proofs.Ytijcchddnnnmdaa
open Go.RowKit Go.Shelf
set_option linter.unusedSimpArgs false
set_option linter.unusedVariables false
def m23o_l0 (x10 : (List U3)) (s2 : Int × (Qh U3 Int)) (s3 : Int × (Qh U3 Int)) : Option (LO (Int × (Qh U3 Int)) (((Qh U3 Int)) ⊕ (((List (List Int)) × (Qh U3 Int)) ⊕ Unit ⊕ Unit))) :=
 cond (decide (s3.1 < (x10.length : Int)))
   (Option.bind (Ja x10 s3.1) fun (x13 : U3) =>
 cond (Jt s3.2 x13)
   (some (.done (.inr (.inr (.inl ())))))
   (some (.next ((QZ (s3.1 + 1)), (JY s3.2 x13 s2.1)))))
   (some (.done (.inl s3.2)))
def m23o_l1 (nn : Nat) (a0 : List Dcl) (s2 : Int × (Qh U3 Int)) : Option (LO (Int × (Qh U3 Int)) (((Qh U3 Int)) ⊕ (((List (List Int)) × (Qh U3 Int)) ⊕ Unit ⊕ Unit))) :=
 cond (decide (s2.1 < ((nn : Nat) : Int)))
   (Option.bind (Ja a0 s2.1) fun (x8 : Dcl) =>
 Qy (Nat.beq a0.length nn)
 (Option.bind (Xt x8) fun (x10 : (List U3)) =>
 Option.bind (Qw (m23o_l0 x10 s2) QF (0, s2.2)) (Sum.elim (fun (o11 : (Qh U3 Int)) => some (.next ((QZ (s2.1 + 1)), o11))) (fun o => some (.done (.inr o))))))
   (some (.done (.inl s2.2)))
def m23o_l2 (x11 : (List U3)) (o6 : (Qh U3 Int)) (s3 : (List Int) × Int) : Option (LO ((List Int) × Int) (((List Int)) ⊕ (((List (List Int)) × (Qh U3 Int)) ⊕ Unit ⊕ Unit))) :=
 cond (decide (s3.2 < (x11.length : Int)))
   (Option.bind (Ja x11 s3.2) fun (x14 : U3) =>
 cond (!(Jt o6 x14))
   (some (.done (.inr (.inr (.inr ())))))
   (Qy (Nat.ble (s3.1.length + ([(Je o6 x14)]).length) 1000000000)
 (some (.next ((s3.1 ++ ([(Je o6 x14)])), (QZ (s3.2 + 1)))))))
   (some (.done (.inl s3.1)))
def m23o_l3 (nn : Nat) (a0 : List Dcl) (o6 : (Qh U3 Int)) (s2 : Int × (List (List Int))) : Option (LO (Int × (List (List Int))) (((List (List Int))) ⊕ (((List (List Int)) × (Qh U3 Int)) ⊕ Unit ⊕ Unit))) :=
 cond (decide (s2.1 < ((nn : Nat) : Int)))
   (Option.bind (Ja a0 s2.1) fun (x9 : Dcl) =>
 Qy (Nat.beq a0.length nn)
 (Option.bind (XA x9) fun (x11 : (List U3)) =>
 Option.bind (Qw (m23o_l2 x11 o6) QF (([] : List Int), 0)) (Sum.elim (fun (o12 : (List Int)) => Option.bind (Zf o12) fun (x13 : List Int) =>
 Option.bind (JS x13 ((Enc.encL o12).length)) fun (x14 : List Int) =>
 Qy (Nat.ble (s2.2.length + ([x14]).length) 1000000000)
 (some (.next ((QZ (s2.1 + 1)), (s2.2 ++ ([x14])))))) (fun o => some (.done (.inr o))))))
   (some (.done (.inl s2.2)))
def m23o (a0 : List Dcl) (nn : Nat) : Option ((List (List Int)) × Int) :=
 Option.bind (Option.bind (Qw (m23o_l1 nn a0) QF (0, gmNil)) (Sum.elim (fun (o6 : (Qh U3 Int)) => Option.bind (Qw (m23o_l3 nn a0 o6) QF (0, ([] : List (List Int)))) (Sum.elim (fun (o7 : (List (List Int))) => some (.inl (o7, o6))) (fun o => some o))) (fun o => some o))) (Sum.elim (fun (y1 : (List (List Int)) × (Qh U3 Int)) => some (y1.1, 0)) (Sum.elim (fun (y2 : Unit) => some (([] : List (List Int)), 8)) (fun (y3 : Unit) => some (([] : List (List Int)), 9))))
set_option maxRecDepth 100000 in
set_option maxHeartbeats 2000000 in
theorem m23o_ok (a0 : List Dcl) (nn : Nat) (r : (List (List Int)) × Int) (h0 : m23o a0 nn = some r) : CallM Try.prog 23 [.one (.osl 0 0 nn nn)] ⟨[(0, .cells 48 (Q9 a0))], [], 1⟩ (QA [.one (WJ r.1), .one (WL r.2)]) ⟨[(0, .cells 48 (Q9 a0))], [], 6⟩ := by
 unfold m23o at h0
 refine QR ⟨[(2, .v (.one (WJ r.1))), (3, .v (.one (WL r.2)))], [(0, .cells 48 (Q9 a0))], [], 6, 14, []⟩ rfl rfl en_23 (Wx rfl) rfl (Qo rfl (Qo rfl .nil)) (fun w0 M V0 Q hv0 hQ0 => ?_)
 simp only [Jb]
 refine Q2 <| Q0 <| Wo rfl rfl rfl <| Wo rfl rfl rfl <| Q3 <| Q1 <| Q2 <| Q0 <| Wn rfl rfl rfl ?_
 refine Qb h0 (fun y5 h1 h0 => ?_)
 have hc4 : CallM Try.prog 34 [.one (.osl 0 0 nn nn)] ⟨[(0, .cells 48 (Q9 a0))], [], 1⟩ (QA (((Sum.elim (fun (y1 : (List (List Int)) × (Qh U3 Int)) => ([.agg [WN 4 y1.1, .mp 2], .one (WL 0)] : List AV)) (Sum.elim (fun (y2 : Unit) => ([.agg [WK, .d (.v (.map none))], .one (WL 8)] : List AV)) (fun (y3 : Unit) => ([.agg [WK, .d (.v (.map none))], .one (WL 9)] : List AV))))) y5)) ⟨(((Sum.elim (fun (y1 : (List (List Int)) × (Qh U3 Int)) => (⟨[(2, .v (.one (.ptr 1 0))), (3, .v (.one (WL 0)))], [(0, .cells 48 (Q9 a0)), (1, .cells 72 [WN 4 y1.1, .mp 2]), (2, .mp (QL y1.2.1) y1.2.2)], [(4, some ⟨54, 1, (Enc.encL y1.1).length, []⟩)], 5, 88, []⟩ : St)) (Sum.elim (fun (y2 : Unit) => (⟨[(2, .v (.one (.ptr 1 0))), (3, .v (.one (WL 8)))], [(0, .cells 48 (Q9 a0)), (1, .cells 72 [WK, .d (.v (.map none))])], [], 5, 88, []⟩ : St)) (fun (y3 : Unit) => (⟨[(2, .v (.one (.ptr 1 0))), (3, .v (.one (WL 9)))], [(0, .cells 48 (Q9 a0)), (1, .cells 72 [WK, .d (.v (.map none))])], [], 7, 88, []⟩ : St))))) y5).hp, (((Sum.elim (fun (y1 : (List (List Int)) × (Qh U3 Int)) => (⟨[(2, .v (.one (.ptr 1 0))), (3, .v (.one (WL 0)))], [(0, .cells 48 (Q9 a0)), (1, .cells 72 [WN 4 y1.1, .mp 2]), (2, .mp (QL y1.2.1) y1.2.2)], [(4, some ⟨54, 1, (Enc.encL y1.1).length, []⟩)], 5, 88, []⟩ : St)) (Sum.elim (fun (y2 : Unit) => (⟨[(2, .v (.one (.ptr 1 0))), (3, .v (.one (WL 8)))], [(0, .cells 48 (Q9 a0)), (1, .cells 72 [WK, .d (.v (.map none))])], [], 5, 88, []⟩ : St)) (fun (y3 : Unit) => (⟨[(2, .v (.one (.ptr 1 0))), (3, .v (.one (WL 9)))], [(0, .cells 48 (Q9 a0)), (1, .cells 72 [WK, .d (.v (.map none))])], [], 7, 88, []⟩ : St))))) y5).tk, (((Sum.elim (fun (y1 : (List (List Int)) × (Qh U3 Int)) => (⟨[(2, .v (.one (.ptr 1 0))), (3, .v (.one (WL 0)))], [(0, .cells 48 (Q9 a0)), (1, .cells 72 [WN 4 y1.1, .mp 2]), (2, .mp (QL y1.2.1) y1.2.2)], [(4, some ⟨54, 1, (Enc.encL y1.1).length, []⟩)], 5, 88, []⟩ : St)) (Sum.elim (fun (y2 : Unit) => (⟨[(2, .v (.one (.ptr 1 0))), (3, .v (.one (WL 8)))], [(0, .cells 48 (Q9 a0)), (1, .cells 72 [WK, .d (.v (.map none))])], [], 5, 88, []⟩ : St)) (fun (y3 : Unit) => (⟨[(2, .v (.one (.ptr 1 0))), (3, .v (.one (WL 9)))], [(0, .cells 48 (Q9 a0)), (1, .cells 72 [WK, .d (.v (.map none))])], [], 7, 88, []⟩ : St))))) y5).nx⟩ := by
  refine JE y5 ((Sum.elim (fun (y1 : (List (List Int)) × (Qh U3 Int)) => (⟨[(2, .v (.one (.ptr 1 0))), (3, .v (.one (WL 0)))], [(0, .cells 48 (Q9 a0)), (1, .cells 72 [WN 4 y1.1, .mp 2]), (2, .mp (QL y1.2.1) y1.2.2)], [(4, some ⟨54, 1, (Enc.encL y1.1).length, []⟩)], 5, 88, []⟩ : St)) (Sum.elim (fun (y2 : Unit) => (⟨[(2, .v (.one (.ptr 1 0))), (3, .v (.one (WL 8)))], [(0, .cells 48 (Q9 a0)), (1, .cells 72 [WK, .d (.v (.map none))])], [], 5, 88, []⟩ : St)) (fun (y3 : Unit) => (⟨[(2, .v (.one (.ptr 1 0))), (3, .v (.one (WL 9)))], [(0, .cells 48 (Q9 a0)), (1, .cells 72 [WK, .d (.v (.map none))])], [], 7, 88, []⟩ : St))))) ((Sum.elim (fun (y1 : (List (List Int)) × (Qh U3 Int)) => ([.agg [WN 4 y1.1, .mp 2], .one (WL 0)] : List AV)) (Sum.elim (fun (y2 : Unit) => ([.agg [WK, .d (.v (.map none))], .one (WL 8)] : List AV)) (fun (y3 : Unit) => ([.agg [WK, .d (.v (.map none))], .one (WL 9)] : List AV))))) rfl rfl Xf (Wx rfl) (fun z_ => by cases z_ with
    | inl _ => rfl
    | inr z_ => exact (by cases z_ <;> rfl)) (fun z_ => by cases z_ with
    | inl _ => exact (Y0 J8 rfl rfl rfl rfl (Qo rfl .nil))
    | inr z_ => exact (by cases z_ with
    | inl _ => exact (Y0 J8 rfl rfl rfl rfl (Qo rfl .nil))
    | inr _ => exact (Y0 J8 rfl rfl rfl rfl (Qo rfl .nil)))) (fun w0 M V0 Q hv1 hQ1 => ?_)
  simp only [Jb]
  refine Q2 <| Q0 <| Qa rfl rfl (Wx rfl) (Qp YT rfl) <| Wo rfl rfl rfl <| Q3 <| Q1 <| Q2 <| Q0 <| Qa rfl rfl (Wx rfl) (Y2 U3 Int) <| Wm rfl rfl rfl (Zc Z5 rfl rfl rfl) <| Qa rfl rfl (Wx rfl) (Qp YT rfl) <| QJ rfl rfl (Ql J8 rfl rfl rfl rfl (Wx rfl) rfl) <| Q3 <| Q1 ?_
  refine Q2 <| Q2 <| Q0 <| Wn rfl rfl rfl <| Wm rfl rfl rfl (Ya Jo rfl) <| Wn rfl rfl rfl <| Q3 <| Q1 <| Qc ?_
  refine QI 0 (fun (o6 : (Qh U3 Int)) => ⟨[(0, .v (.one (.osl 0 0 nn nn))), (2, .v (.one (.ptr 1 0))), (4, .v (.one (.ptr 3 0)))], [(0, .cells 48 (Q9 a0)), (1, .cells 72 [WK, .d (.v (.map none))]), (2, .mp (QL o6.1) o6.2), (3, .cells 72 [WK, .mp 2])], [], 4, 88, []⟩) (fun (o6 : (Qh U3 Int)) => (Option.bind (Qw (m23o_l3 nn a0 o6) QF (0, ([] : List (List Int)))) (Sum.elim (fun (o7 : (List (List Int))) => some (.inl (o7, o6))) (fun o => some o))) = some y5) ?_ ?_
  refine Qb h1 (fun o7 hl2 h1 => ?_)
  refine QH (m23o_l1 nn a0) (fun s2 => ⟨[(0, .v (.one (.osl 0 0 nn nn))), (2, .v (.one (.ptr 1 0))), (4, .v (.one (.ptr 3 0))), (20, .v (.one (.osl 0 0 nn nn))), (21, .v (.one (WL ((nn : Nat) : Int)))), (22, .v (.one (WL s2.1)))], [(0, .cells 48 (Q9 a0)), (1, .cells 72 [WK, .d (.v (.map none))]), (2, .mp (QL s2.2.1) s2.2.2), (3, .cells 72 [WK, .mp 2])], [], 4, 88, []⟩) (0, gmNil) o7 (Qf (Wi rfl (Wi rfl (Wi rfl (Wi rfl (Wi rfl (Wi rfl Wh)))))) (WD rfl (WD rfl (WD rfl (WD rfl WC)))) Wy rfl (Nat.le_trans hv1 (Wx rfl)) rfl rfl rfl (WT rfl (WU rfl rfl (WS rfl (WU rfl rfl WR)))) rfl rfl) hl2 (fun s2 n2 oo2 h2 ho2 => ?_)
  unfold m23o_l1 at h2
  refine Q2 <| Q0 <| Wm rfl rfl rfl (Q8 rfl rfl rfl) <| Q3 <| Q1 <| Q2 ?_
  refine Qe (b := (decide (s2.1 < ((nn : Nat) : Int)))) rfl (fun c8 => ?_) (fun c8 => ?_)
  replace h2 := Qq c8 h2
  refine Qi <| Q1 <| Q2 <| Qc <| Q2 <| Q0 <| Wn rfl rfl rfl ?_
  refine Qb h2 (fun x9 hx9 h2 => ?_)
  refine QS h2 (fun g10 h2 => ?_)
  refine Wm rfl rfl rfl (Jp (α := Dcl) Jo rfl rfl hx9 g10) <| Wm rfl rfl rfl (Yu (α := Dcl) (ys := [WL x9.kind, Z4 x9.name, WL x9.params, WL x9.ty.kind, WL x9.ty.index, Z4 x9.ty.name, WJ x9.ty.levels, WJ x9.ty.kids, WL x9.value.kind, WL x9.value.index, Z4 x9.value.name, WJ x9.value.levels, WJ x9.value.kids, WL x9.fixed, WJ x9.ctors, WL x9.rcr.params, WL x9.rcr.ty.kind, WL x9.rcr.ty.index, Z4 x9.rcr.ty.name, WJ x9.rcr.ty.levels, WJ x9.rcr.ty.kids, WJ x9.rcr.rules, WJ x9.funs]) Jg rfl rfl hx9 rfl) <| Qa rfl rfl (Wx rfl) (Qp ZU rfl) <| Wo rfl rfl rfl <| QJ rfl rfl (J6 (x9 : Dcl) Jg rfl rfl rfl rfl rfl) <| Q3 <| Q1 <| Q2 <| Q0 <| Wm rfl rfl rfl (JA (x9 : Dcl) Jg rfl rfl) ?_
  refine Qb h2 (fun x11 hx11 h2 => ?_)
  refine Qa rfl rfl (Wx rfl) (Qn (Ki x9 x11 hx11) rfl (.cons (.agg (.cons (.d _) (.cons (.d _) (.cons (.d _) (.cons (.d _) (.cons (.d _) (.cons (.d _) (.cons (.d _) (.cons (.d _) (.cons (.d _) (.cons (.d _) (.cons (.d _) (.cons (.d _) (.cons (.d _) (.cons (.d _) (.cons (.d _) (.cons (.d _) (.cons (.d _) (.cons (.d _) (.cons (.d _) (.cons (.d _) (.cons (.d _) (.cons (.d _) (.cons (.d _) .nil)))))))))))))))))))))))) .nil)) <| Wm rfl rfl rfl (QC (α := U3) J1 rfl (.d _)) <| Wn rfl rfl rfl <| Q3 <| Q1 <| Qc ?_
  refine QI 2 (fun (o12 : (Qh U3 Int)) => ⟨[(0, .v (.one (.osl 0 0 nn nn))), (2, .v (.one (.ptr 1 0))), (4, .v (.one (.ptr 3 0))), (20, .v (.one (.osl 0 0 nn nn))), (21, .v (.one (WL ((nn : Nat) : Int)))), (22, .v (.one (WL s2.1)))], [(0, .cells 48 (Q9 a0)), (1, .cells 72 [WK, .d (.v (.map none))]), (2, .mp (QL o12.1) o12.2), (3, .cells 72 [WK, .mp 2]), (4, .cells 48 (WO x9))], [], 5, 88, []⟩) (fun (o12 : (Qh U3 Int)) => (some (.next ((QZ (s2.1 + 1)), o12))) = some oo2) ?_ ?_
  refine Qb h2 (fun o13 hl3 h2 => ?_)
  refine QH (m23o_l0 x11 s2) (fun s3 => ⟨[(0, .v (.one (.osl 0 0 nn nn))), (2, .v (.one (.ptr 1 0))), (4, .v (.one (.ptr 3 0))), (5, .v (.one (WL s2.1))), (20, .v (.one (.osl 0 0 nn nn))), (21, .v (.one (WL ((nn : Nat) : Int)))), (22, .v (.one (WL s2.1))), (28, .v (.one (WJ x11))), (29, .v (.one (WL (x11.length : Int)))), (30, .v (.one (WL s3.1)))], [(0, .cells 48 (Q9 a0)), (1, .cells 72 [WK, .d (.v (.map none))]), (2, .mp (QL s3.2.1) s3.2.2), (3, .cells 72 [WK, .mp 2]), (4, .cells 48 (WO x9))], [], 5, 88, []⟩) (0, s2.2) o13 (Qf (Wi rfl (Wi rfl (Wi rfl (Wi rfl (Wi rfl (Wi rfl (Wi rfl (Wi rfl (Wi rfl (Wi rfl Wh)))))))))) (WD rfl (WD rfl (WD rfl (WD rfl (WD rfl WC))))) Wy rfl (Nat.le_trans hv1 (Wx rfl)) rfl rfl rfl (WT rfl (WU rfl rfl (WS rfl (WU rfl rfl (WU rfl rfl WR))))) rfl rfl) hl3 (fun s3 n3 oo3 h3 ho3 => ?_)
  unfold m23o_l0 at h3
  refine Q2 <| Q0 <| Wm rfl rfl rfl (Q8 rfl rfl rfl) <| Q3 <| Q1 <| Q2 ?_
  refine Qe (b := (decide (s3.1 < (x11.length : Int)))) rfl (fun c14 => ?_) (fun c14 => ?_)
  replace h3 := Qq c14 h3
  refine Qi <| Q1 <| Q2 <| Qc <| Q2 <| Q0 ?_
  refine Qb h3 (fun x15 hx15 h3 => ?_)
  refine Wm rfl rfl rfl (Qm (α := U3) J1 rfl (.d _) rfl hx15) <| Wm rfl rfl rfl (QN JT rfl rfl) <| Wo rfl rfl rfl <| Q3 <| Q1 <| Q2 <| Q2 <| Q0 <| Wm rfl rfl rfl (Q6 JM rfl) <| Wm rfl rfl rfl (Q7 YD rfl rfl rfl) <| Wn rfl rfl rfl <| Wm rfl rfl rfl (Js (M := s3.2) (k := x15) YC Yg rfl rfl rfl) <| Wn rfl rfl rfl <| Wm rfl rfl rfl (Qg rfl rfl) ?_
  refine Wm rfl rfl rfl (Qg rfl rfl) <| Wo rfl rfl rfl <| Wo rfl rfl rfl <| Q3 <| Q1 <| Q2 <| Q0 <| Wn rfl rfl rfl <| Q3 <| Q1 ?_
  refine Qe (b := (Jt s3.2 x15)) rfl (fun c16 => ?_) (fun c16 => ?_)
  replace h3 := Qq c16 h3
  refine Q2 <| Q0 <| Wm rfl rfl rfl (Y5 Z5 rfl ) <| QJ rfl rfl (Ql J8 rfl rfl rfl rfl (Wx rfl) rfl) <| Wo rfl rfl rfl <| Q3 <| Q1 <| Qz ?_
  have e := Wk h3; subst e
  have e_ : _ = _ := ho3
  subst e_
  try dsimp only [Sum.elim_inl, Sum.elim_inr] at h2
  have e := Wk h2; subst e
  have e_ : _ = _ := ho2
  subst e_
  try dsimp only [Sum.elim_inl, Sum.elim_inr] at h1
  have e := Wk h1; subst e
  exact hQ1 _ _ _ (.inr rfl) rfl (show StLe _ _ ⟨[(2, .v (.one (.ptr 1 0))), (3, .v (.one (WL 8)))], [(0, .cells 48 (Q9 a0)), (1, .cells 72 [WK, .d (.v (.map none))])], [], 5, 88, []⟩ from (Qf (Wi rfl (Wi rfl Wh)) (WD rfl (WD rfl WC)) Wy rfl (Nat.le_trans hv1 (Wx rfl)) rfl rfl rfl (WT rfl (WU rfl rfl WR)) rfl rfl))
  replace h3 := Qr c16 h3
  refine Qi <| Q1 <| Q0 <| Wm rfl rfl rfl (Q6 JM rfl) <| Wm rfl rfl rfl (Q7 YD rfl rfl rfl) <| Wn rfl rfl rfl <| Wn rfl rfl rfl <| QJ rfl rfl (JL (M := s3.2) (k := x15) (v := s2.1) YC rfl rfl rfl rfl rfl) <| Q3 <| Qj <| Q1 <| Q0 <| Wm rfl rfl rfl (Q8 rfl rfl rfl) <| Wn rfl rfl rfl ?_
  refine Q3 ?_
  have e := Wk h3; subst e
  refine QD ((QZ (s3.1 + 1)), (JY s3.2 x15 s2.1)) (Qf (Wi rfl (Wi rfl (Wi rfl (Wi rfl (Wi rfl (Wi rfl (Wi rfl (Wi rfl (Wi rfl (Wi rfl Wh)))))))))) (WD rfl (WD rfl (WD rfl (WD rfl (WD rfl WC))))) Wy rfl (Nat.le_trans hv1 (Wx rfl)) rfl rfl rfl (WT rfl (WU rfl rfl (WS rfl (WU rfl rfl (WU rfl rfl WR))))) rfl rfl) ho3
  replace h3 := Qr c14 h3
  refine QM <| Qd <| Qd ?_
  have e := Wk h3; subst e
  have e_ : _ = _ := ho3
  subst e_
  exact QG s3.2 (Qf (Wi rfl (Wi rfl (Wi rfl (Wi rfl (Wi rfl (Wi rfl Wh)))))) (WD rfl (WD rfl (WD rfl (WD rfl (WD rfl WC))))) Wy rfl (Nat.le_trans hv1 (Wx rfl)) rfl rfl rfl (WT rfl (WU rfl rfl (WS rfl (WU rfl rfl (WU rfl rfl WR))))) rfl rfl) h2
  intro o12 h2
  refine QB <| Qj <| Q1 <| Q0 <| Wm rfl rfl rfl (Q8 rfl rfl rfl) <| Wn rfl rfl rfl <| Q3 ?_
  have e := Wk h2; subst e
  refine QD ((QZ (s2.1 + 1)), o12) (Qf (Wi rfl (Wi rfl (Wi rfl (Wi rfl (Wi rfl (Wi rfl Wh)))))) (WD rfl (WD rfl (WD rfl (WD rfl WC)))) Wy rfl (Nat.le_trans hv1 (Wx rfl)) rfl rfl rfl (WT rfl (WU rfl rfl (WS rfl (WU rfl rfl WR)))) rfl rfl) ho2
  replace h2 := Qr c8 h2
  refine QM <| Qd <| Qd ?_
  have e := Wk h2; subst e
  have e_ : _ = _ := ho2
  subst e_
  exact QG s2.2 (Qf (Wi rfl (Wi rfl (Wi rfl Wh))) (WD rfl (WD rfl (WD rfl (WD rfl WC)))) Wy rfl (Nat.le_trans hv1 (Wx rfl)) rfl rfl rfl (WT rfl (WU rfl rfl (WS rfl (WU rfl rfl WR)))) rfl rfl) h1
  intro o6 h1
  refine QB <| Q1 <| Q2 <| Q2 <| Q0 <| Wn rfl rfl rfl <| Wm rfl rfl rfl (Ya Jo rfl) <| Wn rfl rfl rfl <| Q3 <| Q1 <| Qc ?_
  refine QI 4 (fun (o17 : (List (List Int))) => ⟨[(2, .v (.one (.ptr 1 0))), (4, .v (.one (.ptr 3 0)))], [(0, .cells 48 (Q9 a0)), (1, .cells 72 [WK, .d (.v (.map none))]), (2, .mp (QL o6.1) o6.2), (3, .cells 72 [WN 4 o17, .mp 2])], [(4, some ⟨54, 1, (Enc.encL o17).length, []⟩)], 5, 88, []⟩) (fun (o17 : (List (List Int))) => (some (.inl (o17, o6))) = some y5) ?_ ?_
  refine YR (i := 3) (off := 0) 54 1 rfl rfl ?_
  refine Qb h1 (fun o18 hl2 h1 => ?_)
  refine QH (m23o_l3 nn a0 o6) (fun s2 => ⟨[(2, .v (.one (.ptr 1 0))), (4, .v (.one (.ptr 3 0))), (49, .v (.one (.osl 0 0 nn nn))), (50, .v (.one (WL ((nn : Nat) : Int)))), (51, .v (.one (WL s2.1)))], [(0, .cells 48 (Q9 a0)), (1, .cells 72 [WK, .d (.v (.map none))]), (2, .mp (QL o6.1) o6.2), (3, .cells 72 [WN 4 s2.2, .mp 2])], [(4, some ⟨54, 1, (Enc.encL s2.2).length, []⟩)], 5, 88, []⟩) (0, ([] : List (List Int))) o18 (Qf (Wi rfl (Wi rfl (Wi rfl (Wi rfl (Wi rfl Wh))))) (WD rfl (WD rfl (WD rfl (WD rfl WC)))) (Wz rfl Wy) rfl (Nat.le_trans hv1 (Wx rfl)) rfl rfl rfl (WT rfl (WU rfl rfl (WS rfl (WU rfl rfl WR)))) rfl rfl) hl2 (fun s2 n2 oo2 h2 ho2 => ?_)
  unfold m23o_l3 at h2
  refine Q2 <| Q0 <| Wm rfl rfl rfl (Q8 rfl rfl rfl) <| Q3 <| Q1 <| Q2 ?_
  refine Qe (b := (decide (s2.1 < ((nn : Nat) : Int)))) rfl (fun c19 => ?_) (fun c19 => ?_)
  replace h2 := Qq c19 h2
  refine Qi <| Q1 <| Q2 <| Qc <| Q2 <| Q0 ?_
  refine Qb h2 (fun x20 hx20 h2 => ?_)
  refine QS h2 (fun g21 h2 => ?_)
  refine Wm rfl rfl rfl (Jp (α := Dcl) Jo rfl rfl hx20 g21) <| Wm rfl rfl rfl (Yu (α := Dcl) (ys := [WL x20.kind, Z4 x20.name, WL x20.params, WL x20.ty.kind, WL x20.ty.index, Z4 x20.ty.name, WJ x20.ty.levels, WJ x20.ty.kids, WL x20.value.kind, WL x20.value.index, Z4 x20.value.name, WJ x20.value.levels, WJ x20.value.kids, WL x20.fixed, WJ x20.ctors, WL x20.rcr.params, WL x20.rcr.ty.kind, WL x20.rcr.ty.index, Z4 x20.rcr.ty.name, WJ x20.rcr.ty.levels, WJ x20.rcr.ty.kids, WJ x20.rcr.rules, WJ x20.funs]) Jg rfl rfl hx20 rfl) <| Qa rfl rfl (Wx rfl) (Qp ZU rfl) <| QJ rfl rfl (J6 (x20 : Dcl) Jg rfl rfl rfl rfl rfl) <| Q3 <| Q1 <| Q2 <| Q0 <| Wo rfl rfl rfl <| Q3 <| Q1 <| Q2 <| Q2 <| Q0 ?_
  refine Wm rfl rfl rfl (JA (x20 : Dcl) Jg rfl rfl) ?_
  refine Qb h2 (fun x22 hx22 h2 => ?_)
  refine Qa rfl rfl (Wx rfl) (Qn (GC x20 x22 hx22) rfl (.cons (.agg (.cons (.d _) (.cons (.d _) (.cons (.d _) (.cons (.d _) (.cons (.d _) (.cons (.d _) (.cons (.d _) (.cons (.d _) (.cons (.d _) (.cons (.d _) (.cons (.d _) (.cons (.d _) (.cons (.d _) (.cons (.d _) (.cons (.d _) (.cons (.d _) (.cons (.d _) (.cons (.d _) (.cons (.d _) (.cons (.d _) (.cons (.d _) (.cons (.d _) (.cons (.d _) .nil)))))))))))))))))))))))) .nil)) <| Wm rfl rfl rfl (QC (α := U3) J1 rfl (.d _)) <| Wn rfl rfl rfl <| Q3 <| Q1 <| Qc ?_
  refine QI 6 (fun (o23 : (List Int)) => ⟨[(2, .v (.one (.ptr 1 0))), (4, .v (.one (.ptr 3 0))), (13, .v (.one (.apv 6 1 ((Enc.encL o23).length) []))), (49, .v (.one (.osl 0 0 nn nn))), (50, .v (.one (WL ((nn : Nat) : Int)))), (51, .v (.one (WL s2.1)))], [(0, .cells 48 (Q9 a0)), (1, .cells 72 [WK, .d (.v (.map none))]), (2, .mp (QL o6.1) o6.2), (3, .cells 72 [WN 4 s2.2, .mp 2]), (5, .cells 48 (WO x20))], [(4, some ⟨54, 1, (Enc.encL s2.2).length, []⟩), (6, some ⟨3, 1, (Enc.encL o23).length, (Enc.encL o23).flatten⟩)], 7, 88, []⟩) (fun (o23 : (List Int)) => (Option.bind (Zf o23) fun (x24 : List Int) =>
    Option.bind (JS x24 ((Enc.encL o23).length)) fun (x25 : List Int) =>
    Qy (Nat.ble (s2.2.length + ([x25]).length) 1000000000)
    (some (.next ((QZ (s2.1 + 1)), (s2.2 ++ ([x25])))))) = some oo2) ?_ ?_
  refine JW (t := 13) 3 1 rfl <| Kd (α := Int) (t := 13) rfl rfl ?_
  refine Qb h2 (fun o24 hl3 h2 => ?_)
  refine QH (m23o_l2 x22 o6) (fun s3 => ⟨[(2, .v (.one (.ptr 1 0))), (4, .v (.one (.ptr 3 0))), (13, .v (.one (.apv 6 1 ((Enc.encL s3.1).length) []))), (49, .v (.one (.osl 0 0 nn nn))), (50, .v (.one (WL ((nn : Nat) : Int)))), (51, .v (.one (WL s2.1))), (56, .v (.one (WJ x22))), (57, .v (.one (WL (x22.length : Int)))), (58, .v (.one (WL s3.2)))], [(0, .cells 48 (Q9 a0)), (1, .cells 72 [WK, .d (.v (.map none))]), (2, .mp (QL o6.1) o6.2), (3, .cells 72 [WN 4 s2.2, .mp 2]), (5, .cells 48 (WO x20))], [(4, some ⟨54, 1, (Enc.encL s2.2).length, []⟩), (6, some ⟨3, 1, (Enc.encL s3.1).length, (Enc.encL s3.1).flatten⟩)], 7, 88, []⟩) (([] : List Int), 0) o24 (Qf (Wi rfl (Wi rfl (Wi rfl (Wi rfl (Wi rfl (Wi rfl (Wi rfl (Wi rfl (Wi rfl Wh))))))))) (WD rfl (WD rfl (WD rfl (WD rfl (WD rfl WC))))) (Wz rfl (Wz rfl Wy)) rfl (Nat.le_trans hv1 (Wx rfl)) rfl rfl rfl (WT rfl (WU rfl rfl (WS rfl (WU rfl rfl (WU rfl rfl WR))))) rfl rfl) hl3 (fun s3 n3 oo3 h3 ho3 => ?_)
  unfold m23o_l2 at h3
  refine Q2 <| Q0 <| Wm rfl rfl rfl (Q8 rfl rfl rfl) <| Q3 <| Q1 <| Q2 ?_
  refine Qe (b := (decide (s3.2 < (x22.length : Int)))) rfl (fun c25 => ?_) (fun c25 => ?_)
  replace h3 := Qq c25 h3
  refine Qi <| Q1 <| Q2 <| Qc <| Q2 <| Q0 ?_
  refine Qb h3 (fun x26 hx26 h3 => ?_)
  refine Wm rfl rfl rfl (Qm (α := U3) J1 rfl (.d _) rfl hx26) <| Wm rfl rfl rfl (QN JT rfl rfl) <| Wo rfl rfl rfl <| Q3 <| Q1 <| Q2 <| Q0 <| Wm rfl rfl rfl (Q6 JM rfl) <| Wm rfl rfl rfl (Q7 YD rfl rfl rfl) <| Wn rfl rfl rfl <| Wm rfl rfl rfl (Js (M := o6) (k := x26) YC Yg rfl rfl rfl) <| Wn rfl rfl rfl <| Wm rfl rfl rfl (Qg rfl rfl) <| Wm rfl rfl rfl (Qg rfl rfl) ?_
  refine Wo rfl rfl rfl <| Wo rfl rfl rfl <| Q3 <| Q1 <| Q2 <| Q2 <| Q0 <| Wn rfl rfl rfl <| Wm rfl rfl rfl (J9 rfl) <| Q3 <| Q1 ?_
  refine Qe (b := (!(Jt o6 x26))) rfl (fun c27 => ?_) (fun c27 => ?_)
  replace h3 := Qq c27 h3
  refine Q2 <| Q0 <| Wm rfl rfl rfl (Y5 Z5 rfl ) <| QJ rfl rfl (Ql J8 rfl rfl rfl rfl (Wx rfl) rfl) <| Wo rfl rfl rfl <| Q3 <| Q1 <| Qz ?_
  have e := Wk h3; subst e
  have e_ : _ = _ := ho3
  subst e_
  try dsimp only [Sum.elim_inl, Sum.elim_inr] at h2
  have e := Wk h2; subst e
  have e_ : _ = _ := ho2
  subst e_
  try dsimp only [Sum.elim_inl, Sum.elim_inr] at h1
  have e := Wk h1; subst e
  exact hQ1 _ _ _ (.inr rfl) rfl (show StLe _ _ ⟨[(2, .v (.one (.ptr 1 0))), (3, .v (.one (WL 9)))], [(0, .cells 48 (Q9 a0)), (1, .cells 72 [WK, .d (.v (.map none))])], [], 7, 88, []⟩ from (Qf (Wi rfl (Wi rfl Wh)) (WD rfl (WD rfl WC)) Wy rfl (Nat.le_trans hv1 (Wx rfl)) rfl rfl rfl (WT rfl (WU rfl rfl WR)) rfl rfl))
  replace h3 := Qr c27 h3
  refine Qi <| Q1 <| Q0 <| Wn rfl rfl rfl <| Wn rfl rfl rfl <| Qa rfl rfl (Wx rfl) (J3 (α := Int) ((Je o6 x26)) JU XE rfl rfl (Wx rfl) (Wx rfl) rfl rfl (.cons (.d _) .nil) rfl) ?_
  refine QS h3 (fun g28 h3 => ?_)
  refine Qa rfl rfl (Wx rfl) (Yv (α := Int) (l := s3.1) (l2 := ([(Je o6 x26)] : List Int)) JU Xn rfl rfl rfl rfl (.app _ _) rfl g28) <| Wo rfl rfl rfl <| Q3 <| Qj <| Q1 <| Q0 <| Wm rfl rfl rfl (Q8 rfl rfl rfl) <| Wn rfl rfl rfl <| Q3 ?_
  have e := Wk h3; subst e
  refine QD ((s3.1 ++ ([(Je o6 x26)])), (QZ (s3.2 + 1))) (Qf (Wi rfl (Wi rfl (Wi rfl (Wi rfl (Wi rfl (Wi rfl (Wi rfl (Wi rfl (Wi rfl Wh))))))))) (WD rfl (WD rfl (WD rfl (WD rfl (WD rfl WC))))) (Wz rfl (Wz rfl Wy)) rfl (Nat.le_trans hv1 (Wx rfl)) rfl rfl rfl (WT rfl (WU rfl rfl (WS rfl (WU rfl rfl (WU rfl rfl WR))))) rfl rfl) ho3
  replace h3 := Qr c25 h3
  refine QM <| Qd <| Qd ?_
  have e := Wk h3; subst e
  have e_ : _ = _ := ho3
  subst e_
  exact QG s3.1 (Qf (Wi rfl (Wi rfl (Wi rfl (Wi rfl (Wi rfl (Wi rfl Wh)))))) (WD rfl (WD rfl (WD rfl (WD rfl (WD rfl WC))))) (Wz rfl (Wz rfl Wy)) rfl (Nat.le_trans hv1 (Wx rfl)) rfl rfl rfl (WT rfl (WU rfl rfl (WS rfl (WU rfl rfl (WU rfl rfl WR))))) rfl rfl) h2
  intro o23 h2
  refine QB <| Q1 <| Q2 <| Q0 <| Wn rfl rfl rfl ?_
  refine Qb h2 (fun x29 hx29 h2 => ?_)
  refine Qa rfl rfl (Wx rfl) (J2 (hp1' := []) (tk1' := [(6, some ⟨3, 1, (Enc.encL o23).length, (Enc.encL x29).flatten⟩)]) (hpF := [(0, .cells 48 (Q9 a0)), (1, .cells 72 [WK, .d (.v (.map none))]), (2, .mp (QL o6.1) o6.2), (3, .cells 72 [WN 4 s2.2, .mp 2]), (5, .cells 48 (WO x20))]) (tkF := [(4, some ⟨54, 1, (Enc.encL s2.2).length, []⟩)]) (res2 := QA []) (nx2 := 7) [6] rfl rfl (K2 o23 x29 hx29) rfl rfl Wp rfl rfl WF (WB rfl WA) (WD rfl (WD rfl (WD rfl (WD rfl (WD rfl WC))))) (Wz rfl Wy) rfl rfl rfl rfl rfl WR rfl rfl rfl rfl) <| Q3 <| Q1 ?_
  refine JG [3, 5, 7] [(0, 1), (1, 1)] mixed (by kernel_rfl) (by kernel_rfl) (by kernel_rfl) ?_
  refine RunA.rd rfl rfl rfl (Q4 (Q6 JC rfl)) rfl <| RunA.rd rfl rfl rfl (Q4 (Q7 Y1 rfl rfl rfl)) rfl <| RunA.rd rfl rfl rfl (Q4 (QQ rfl)) rfl ?_
  refine Qb h2 (fun x30 hx30 h2 => ?_)
  refine RunA.eff rfl rfl rfl (J2 (hp1' := []) (tk1' := [(7, some ⟨3, 1, (Enc.encL x30).length, []⟩)]) (hpF := [(0, .cells 48 (Q9 a0)), (1, .cells 72 [WK, .d (.v (.map none))]), (2, .mp (QL o6.1) o6.2), (3, .cells 72 [WN 4 s2.2, .mp 2]), (5, .cells 48 (WO x20))]) (tkF := [(4, some ⟨54, 1, (Enc.encL s2.2).length, []⟩)]) (res2 := QA [.one (WN 7 x30)]) (nx2 := 8) [6] rfl rfl (YP x29 ((Enc.encL o23).length) x30 hx30) rfl rfl Wp rfl rfl WF (WB rfl WA) (WD rfl (WD rfl (WD rfl (WD rfl (WD rfl WC))))) (Wz rfl Wy) rfl rfl rfl rfl rfl WR rfl rfl rfl rfl) rfl <| RunA.rd rfl rfl rfl (Y3 (α := List Int) (x30) Y7 Xr rfl rfl (Wx rfl) rfl rfl (.cons (.app _ _ _) .nil) rfl) rfl ?_
  refine QS h2 (fun g31 h2 => ?_)
  refine RunA.eff rfl rfl rfl (QW (α := List Int) Y7 X7 rfl rfl rfl rfl rfl (.d _) g31) rfl <| RunA.rd rfl rfl rfl (Q4 (Q6 JC rfl)) rfl <| RunA.eff rfl rfl rfl (Ql Y1 rfl rfl rfl rfl (Wx rfl) rfl) rfl ?_
  refine RunA.nil ⟨?ex, _, _, rfl, ?_⟩
  case ex => exact ⟨⟨_, rfl, _, _, rfl, rfl, rfl, .inl ⟨rfl, _, Q4 (Q6 JC rfl), rfl⟩⟩, ⟨_, rfl, _, _, rfl, rfl, rfl, .inl ⟨rfl, _, Q4 (Q7 Y1 rfl rfl rfl), rfl⟩⟩, trivial⟩
  refine JK (st' := ⟨[(2, .v (.one (.ptr 1 0))), (4, .v (.one (.ptr 3 0))), (49, .v (.one (.osl 0 0 nn nn))), (50, .v (.one (WL ((nn : Nat) : Int)))), (51, .v (.one (WL s2.1)))], [(0, .cells 48 (Q9 a0)), (1, .cells 72 [WK, .d (.v (.map none))]), (2, .mp (QL o6.1) o6.2), (3, .cells 72 [WN 4 ((s2.2 ++ ([x30])) : List (List Int)), .mp 2]), (5, .cells 48 (WO x20))], [(4, some ⟨54, 1, (Enc.encL ((s2.2 ++ ([x30])) : List (List Int))).length, []⟩), (7, some ⟨3, 1, (Enc.encL x30).length, []⟩)], 8, 88, []⟩) (Qf (Wi rfl (Wi rfl (Wi rfl (Wi rfl (Wi rfl Wh))))) (WD rfl (WD rfl (WD rfl (WD rfl (WD rfl WC))))) (Wz rfl (Wz rfl Wy)) rfl (Nat.le_trans hv1 (Wx rfl)) rfl rfl rfl (WT rfl (WU rfl rfl (WS rfl (WU rfl rfl (WU rfl rfl WR))))) rfl rfl) <| Qj <| Q1 <| Q0 <| Wm rfl rfl rfl (Q8 rfl rfl rfl) <| Wn rfl rfl rfl <| Q3 ?_
  have e := Wk h2; subst e
  refine QD ((QZ (s2.1 + 1)), (s2.2 ++ ([x30]))) (Qf (Wi rfl (Wi rfl (Wi rfl (Wi rfl (Wi rfl Wh))))) (WD rfl (WD rfl (WD rfl (WD rfl WC)))) (Wz rfl Wy) rfl (Nat.le_trans hv1 (Wx rfl)) rfl rfl rfl (WT rfl (WU rfl rfl (WS rfl (WU rfl rfl WR)))) rfl rfl) ho2
  replace h2 := Qr c19 h2
  refine QM <| Qd <| Qd ?_
  have e := Wk h2; subst e
  have e_ : _ = _ := ho2
  subst e_
  exact QG s2.2 (Qf (Wi rfl (Wi rfl Wh)) (WD rfl (WD rfl (WD rfl (WD rfl WC)))) (Wz rfl Wy) rfl (Nat.le_trans hv1 (Wx rfl)) rfl rfl rfl (WT rfl (WU rfl rfl (WS rfl (WU rfl rfl WR)))) rfl rfl) h1
  intro o17 h1
  refine QB <| Q1 <| Q2 <| Q0 <| Wm rfl rfl rfl (Qu J8 rfl rfl rfl rfl) <| QJ rfl rfl (Ql J8 rfl rfl rfl rfl (Wx rfl) rfl) <| Wo rfl rfl rfl <| Q3 <| Q1 <| Qz ?_
  have e := Wk h1; subst e
  exact hQ1 _ _ _ (.inr rfl) rfl (show StLe _ _ ⟨[(2, .v (.one (.ptr 1 0))), (3, .v (.one (WL 0)))], [(0, .cells 48 (Q9 a0)), (1, .cells 72 [WN 4 o17, .mp 2]), (2, .mp (QL o6.1) o6.2)], [(4, some ⟨54, 1, (Enc.encL o17).length, []⟩)], 5, 88, []⟩ from (Qf (Wi rfl (Wi rfl Wh)) (WD rfl (WD rfl (WD rfl WC))) (Wz rfl Wy) rfl (Nat.le_trans hv1 (Wx rfl)) rfl rfl rfl (WT rfl (WU rfl rfl (WS rfl WR))) rfl rfl))
 refine KN (C := fun q_ => CallM Try.prog 34 [.one (.osl 0 0 nn nn)] ⟨[(0, .cells 48 (Q9 a0))], [], 1⟩ (QA (((Sum.elim (fun (y1 : (List (List Int)) × (Qh U3 Int)) => ([.agg [WN 4 y1.1, .mp 2], .one (WL 0)] : List AV)) (Sum.elim (fun (y2 : Unit) => ([.agg [WK, .d (.v (.map none))], .one (WL 8)] : List AV)) (fun (y3 : Unit) => ([.agg [WK, .d (.v (.map none))], .one (WL 9)] : List AV))))) q_)) ⟨(((Sum.elim (fun (y1 : (List (List Int)) × (Qh U3 Int)) => (⟨[(2, .v (.one (.ptr 1 0))), (3, .v (.one (WL 0)))], [(0, .cells 48 (Q9 a0)), (1, .cells 72 [WN 4 y1.1, .mp 2]), (2, .mp (QL y1.2.1) y1.2.2)], [(4, some ⟨54, 1, (Enc.encL y1.1).length, []⟩)], 5, 88, []⟩ : St)) (Sum.elim (fun (y2 : Unit) => (⟨[(2, .v (.one (.ptr 1 0))), (3, .v (.one (WL 8)))], [(0, .cells 48 (Q9 a0)), (1, .cells 72 [WK, .d (.v (.map none))])], [], 5, 88, []⟩ : St)) (fun (y3 : Unit) => (⟨[(2, .v (.one (.ptr 1 0))), (3, .v (.one (WL 9)))], [(0, .cells 48 (Q9 a0)), (1, .cells 72 [WK, .d (.v (.map none))])], [], 7, 88, []⟩ : St))))) q_).hp, (((Sum.elim (fun (y1 : (List (List Int)) × (Qh U3 Int)) => (⟨[(2, .v (.one (.ptr 1 0))), (3, .v (.one (WL 0)))], [(0, .cells 48 (Q9 a0)), (1, .cells 72 [WN 4 y1.1, .mp 2]), (2, .mp (QL y1.2.1) y1.2.2)], [(4, some ⟨54, 1, (Enc.encL y1.1).length, []⟩)], 5, 88, []⟩ : St)) (Sum.elim (fun (y2 : Unit) => (⟨[(2, .v (.one (.ptr 1 0))), (3, .v (.one (WL 8)))], [(0, .cells 48 (Q9 a0)), (1, .cells 72 [WK, .d (.v (.map none))])], [], 5, 88, []⟩ : St)) (fun (y3 : Unit) => (⟨[(2, .v (.one (.ptr 1 0))), (3, .v (.one (WL 9)))], [(0, .cells 48 (Q9 a0)), (1, .cells 72 [WK, .d (.v (.map none))])], [], 7, 88, []⟩ : St))))) q_).tk, (((Sum.elim (fun (y1 : (List (List Int)) × (Qh U3 Int)) => (⟨[(2, .v (.one (.ptr 1 0))), (3, .v (.one (WL 0)))], [(0, .cells 48 (Q9 a0)), (1, .cells 72 [WN 4 y1.1, .mp 2]), (2, .mp (QL y1.2.1) y1.2.2)], [(4, some ⟨54, 1, (Enc.encL y1.1).length, []⟩)], 5, 88, []⟩ : St)) (Sum.elim (fun (y2 : Unit) => (⟨[(2, .v (.one (.ptr 1 0))), (3, .v (.one (WL 8)))], [(0, .cells 48 (Q9 a0)), (1, .cells 72 [WK, .d (.v (.map none))])], [], 5, 88, []⟩ : St)) (fun (y3 : Unit) => (⟨[(2, .v (.one (.ptr 1 0))), (3, .v (.one (WL 9)))], [(0, .cells 48 (Q9 a0)), (1, .cells 72 [WK, .d (.v (.map none))])], [], 7, 88, []⟩ : St))))) q_).nx⟩) hc4 h0 (fun y1 hc4 h0 => ?_) (fun z_ hc4 h0 => KN (C := fun q_ => CallM Try.prog 34 [.one (.osl 0 0 nn nn)] ⟨[(0, .cells 48 (Q9 a0))], [], 1⟩ (QA (((Sum.elim (fun (y1 : (List (List Int)) × (Qh U3 Int)) => ([.agg [WN 4 y1.1, .mp 2], .one (WL 0)] : List AV)) (Sum.elim (fun (y2 : Unit) => ([.agg [WK, .d (.v (.map none))], .one (WL 8)] : List AV)) (fun (y3 : Unit) => ([.agg [WK, .d (.v (.map none))], .one (WL 9)] : List AV))))) (.inr q_))) ⟨(((Sum.elim (fun (y1 : (List (List Int)) × (Qh U3 Int)) => (⟨[(2, .v (.one (.ptr 1 0))), (3, .v (.one (WL 0)))], [(0, .cells 48 (Q9 a0)), (1, .cells 72 [WN 4 y1.1, .mp 2]), (2, .mp (QL y1.2.1) y1.2.2)], [(4, some ⟨54, 1, (Enc.encL y1.1).length, []⟩)], 5, 88, []⟩ : St)) (Sum.elim (fun (y2 : Unit) => (⟨[(2, .v (.one (.ptr 1 0))), (3, .v (.one (WL 8)))], [(0, .cells 48 (Q9 a0)), (1, .cells 72 [WK, .d (.v (.map none))])], [], 5, 88, []⟩ : St)) (fun (y3 : Unit) => (⟨[(2, .v (.one (.ptr 1 0))), (3, .v (.one (WL 9)))], [(0, .cells 48 (Q9 a0)), (1, .cells 72 [WK, .d (.v (.map none))])], [], 7, 88, []⟩ : St))))) (.inr q_)).hp, (((Sum.elim (fun (y1 : (List (List Int)) × (Qh U3 Int)) => (⟨[(2, .v (.one (.ptr 1 0))), (3, .v (.one (WL 0)))], [(0, .cells 48 (Q9 a0)), (1, .cells 72 [WN 4 y1.1, .mp 2]), (2, .mp (QL y1.2.1) y1.2.2)], [(4, some ⟨54, 1, (Enc.encL y1.1).length, []⟩)], 5, 88, []⟩ : St)) (Sum.elim (fun (y2 : Unit) => (⟨[(2, .v (.one (.ptr 1 0))), (3, .v (.one (WL 8)))], [(0, .cells 48 (Q9 a0)), (1, .cells 72 [WK, .d (.v (.map none))])], [], 5, 88, []⟩ : St)) (fun (y3 : Unit) => (⟨[(2, .v (.one (.ptr 1 0))), (3, .v (.one (WL 9)))], [(0, .cells 48 (Q9 a0)), (1, .cells 72 [WK, .d (.v (.map none))])], [], 7, 88, []⟩ : St))))) (.inr q_)).tk, (((Sum.elim (fun (y1 : (List (List Int)) × (Qh U3 Int)) => (⟨[(2, .v (.one (.ptr 1 0))), (3, .v (.one (WL 0)))], [(0, .cells 48 (Q9 a0)), (1, .cells 72 [WN 4 y1.1, .mp 2]), (2, .mp (QL y1.2.1) y1.2.2)], [(4, some ⟨54, 1, (Enc.encL y1.1).length, []⟩)], 5, 88, []⟩ : St)) (Sum.elim (fun (y2 : Unit) => (⟨[(2, .v (.one (.ptr 1 0))), (3, .v (.one (WL 8)))], [(0, .cells 48 (Q9 a0)), (1, .cells 72 [WK, .d (.v (.map none))])], [], 5, 88, []⟩ : St)) (fun (y3 : Unit) => (⟨[(2, .v (.one (.ptr 1 0))), (3, .v (.one (WL 9)))], [(0, .cells 48 (Q9 a0)), (1, .cells 72 [WK, .d (.v (.map none))])], [], 7, 88, []⟩ : St))))) (.inr q_)).nx⟩) hc4 h0 (fun y2 hc4 h0 => ?_) (fun y3 hc4 h0 => ?_))
 replace hc4 : CallM Try.prog 34 [.one (.osl 0 0 nn nn)] ⟨[(0, .cells 48 (Q9 a0))], [], 1⟩ (QA [.agg [WN 4 y1.1, .mp 2], .one (WL 0)]) ⟨[(0, .cells 48 (Q9 a0)), (1, .cells 72 [WN 4 y1.1, .mp 2]), (2, .mp (QL y1.2.1) y1.2.2)], [(4, some ⟨54, 1, (Enc.encL y1.1).length, []⟩)], 5⟩ := hc4
 refine Qa rfl rfl (Wx rfl) (QT rfl rfl rfl hc4 rfl (WD rfl WC) Wy) <| Wn rfl rfl rfl <| Wm rfl rfl rfl (Qg rfl rfl) <| Wm rfl rfl rfl (Qg rfl rfl) <| Qa rfl rfl (Wx rfl) (Qp YT rfl) <| QJ rfl rfl (Ql J8 rfl rfl rfl rfl (Wx rfl) rfl) <| Wo rfl rfl rfl <| Q3 <| Q1 <| Q2 <| Q0 <| Wm rfl rfl rfl (Q6 JC rfl) <| Wm rfl rfl rfl (Q7 Y1 rfl rfl rfl) <| Wn rfl rfl rfl ?_
 refine Wo rfl rfl rfl <| Wo rfl rfl rfl <| Q3 <| Q1 <| Qz ?_
 have e := Wk h0; subst e
 exact hQ0 _ _ _ (.inr rfl) rfl (Qf (Wj rfl (.sub (.app _ _ _)) (Wi rfl Wh)) (WD rfl WC) Wy rfl (Nat.le_trans hv0 (Wx rfl)) rfl rfl rfl (WT rfl WR) rfl rfl)
 replace hc4 : CallM Try.prog 34 [.one (.osl 0 0 nn nn)] ⟨[(0, .cells 48 (Q9 a0))], [], 1⟩ (QA [.agg [WK, .d (.v (.map none))], .one (WL 8)]) ⟨[(0, .cells 48 (Q9 a0)), (1, .cells 72 [WK, .d (.v (.map none))])], [], 5⟩ := hc4
 refine Qa rfl rfl (Wx rfl) (QT rfl rfl rfl hc4 rfl (WD rfl WC) Wy) <| Wn rfl rfl rfl <| Wm rfl rfl rfl (Qg rfl rfl) <| Wm rfl rfl rfl (Qg rfl rfl) <| Qa rfl rfl (Wx rfl) (Qp YT rfl) <| QJ rfl rfl (Ql J8 rfl rfl rfl rfl (Wx rfl) rfl) <| Wo rfl rfl rfl <| Q3 <| Q1 <| Q2 <| Q0 <| Wm rfl rfl rfl (Q6 JC rfl) <| Wm rfl rfl rfl (Q7 Y1 rfl rfl rfl) <| Wn rfl rfl rfl ?_
 refine Wo rfl rfl rfl <| Wo rfl rfl rfl <| Q3 <| Q1 <| Qz ?_
 have e := Wk h0; subst e
 exact hQ0 _ _ _ (.inr rfl) rfl (Qf (Wj rfl (.sub (.nil _)) (Wi rfl Wh)) (WD rfl WC) Wy rfl (Nat.le_trans hv0 (Wx rfl)) rfl rfl rfl (WT rfl WR) rfl rfl)
 replace hc4 : CallM Try.prog 34 [.one (.osl 0 0 nn nn)] ⟨[(0, .cells 48 (Q9 a0))], [], 1⟩ (QA [.agg [WK, .d (.v (.map none))], .one (WL 9)]) ⟨[(0, .cells 48 (Q9 a0)), (1, .cells 72 [WK, .d (.v (.map none))])], [], 7⟩ := hc4
 refine Qa rfl rfl (Wx rfl) (QT rfl rfl rfl hc4 rfl (WD rfl WC) Wy) <| Wn rfl rfl rfl <| Wm rfl rfl rfl (Qg rfl rfl) <| Wm rfl rfl rfl (Qg rfl rfl) <| Qa rfl rfl (Wx rfl) (Qp YT rfl) <| QJ rfl rfl (Ql J8 rfl rfl rfl rfl (Wx rfl) rfl) <| Wo rfl rfl rfl <| Q3 <| Q1 <| Q2 <| Q0 <| Wm rfl rfl rfl (Q6 JC rfl) <| Wm rfl rfl rfl (Q7 Y1 rfl rfl rfl) <| Wn rfl rfl rfl ?_
 refine Wo rfl rfl rfl <| Wo rfl rfl rfl <| Q3 <| Q1 <| Qz ?_
 have e := Wk h0; subst e
 exact hQ0 _ _ _ (.inr rfl) rfl (Qf (Wj rfl (.sub (.nil _)) (Wi rfl Wh)) (WD rfl WC) Wy rfl (Nat.le_trans hv0 (Wx rfl)) rfl rfl rfl (WT rfl WR) rfl rfl)
end Go.Proofs.Ytijcchddnnnmdaa
namespace Go.Proofs.Ytijcchddnnnmdaa
open Go.RowKit Go.Shelf
set_option linter.unusedSimpArgs false
set_option linter.unusedVariables false
def m22o_l0 (x10 : (List U3)) (s2 : Int × (Qh U3 Int)) (s3 : Int × (Qh U3 Int)) : Option (LO (Int × (Qh U3 Int)) (((Qh U3 Int)) ⊕ (((List (List Int)) × (Qh U3 Int)) ⊕ Unit ⊕ Unit))) :=
 cond (decide (s3.1 < (x10.length : Int)))
   (Option.bind (Ja x10 s3.1) fun (x13 : U3) =>
 cond (Jt s3.2 x13)
   (some (.done (.inr (.inr (.inl ())))))
   (some (.next ((QZ (s3.1 + 1)), (JY s3.2 x13 s2.1)))))
   (some (.done (.inl s3.2)))
def m22o_l1 (nn : Nat) (a0 : List Dcl) (s2 : Int × (Qh U3 Int)) : Option (LO (Int × (Qh U3 Int)) (((Qh U3 Int)) ⊕ (((List (List Int)) × (Qh U3 Int)) ⊕ Unit ⊕ Unit))) :=
 cond (decide (s2.1 < ((nn : Nat) : Int)))
   (Option.bind (Ja a0 s2.1) fun (x8 : Dcl) =>
 Qy (Nat.beq a0.length nn)
 (Option.bind (Xt x8) fun (x10 : (List U3)) =>
 Option.bind (Qw (m22o_l0 x10 s2) QF (0, s2.2)) (Sum.elim (fun (o11 : (Qh U3 Int)) => some (.next ((QZ (s2.1 + 1)), o11))) (fun o => some (.done (.inr o))))))
   (some (.done (.inl s2.2)))
def m22o_l2 (x11 : (List U3)) (o6 : (Qh U3 Int)) (s3 : (List Int) × Int) : Option (LO ((List Int) × Int) (((List Int)) ⊕ (((List (List Int)) × (Qh U3 Int)) ⊕ Unit ⊕ Unit))) :=
 cond (decide (s3.2 < (x11.length : Int)))
   (Option.bind (Ja x11 s3.2) fun (x14 : U3) =>
 cond (!(Jt o6 x14))
   (some (.done (.inr (.inr (.inr ())))))
   (Qy (Nat.ble (s3.1.length + ([(Je o6 x14)]).length) 1000000000)
 (some (.next ((s3.1 ++ ([(Je o6 x14)])), (QZ (s3.2 + 1)))))))
   (some (.done (.inl s3.1)))
def m22o_l3 (nn : Nat) (a0 : List Dcl) (o6 : (Qh U3 Int)) (s2 : Int × (List (List Int))) : Option (LO (Int × (List (List Int))) (((List (List Int))) ⊕ (((List (List Int)) × (Qh U3 Int)) ⊕ Unit ⊕ Unit))) :=
 cond (decide (s2.1 < ((nn : Nat) : Int)))
   (Option.bind (Ja a0 s2.1) fun (x9 : Dcl) =>
 Qy (Nat.beq a0.length nn)
 (Option.bind (XA x9) fun (x11 : (List U3)) =>
 Option.bind (Qw (m22o_l2 x11 o6) QF (([] : List Int), 0)) (Sum.elim (fun (o12 : (List Int)) => Option.bind (Zf o12) fun (x13 : List Int) =>
 Option.bind (JS x13 ((Enc.encL o12).length)) fun (x14 : List Int) =>
 Qy (Nat.ble (s2.2.length + ([x14]).length) 1000000000)
 (some (.next ((QZ (s2.1 + 1)), (s2.2 ++ ([x14])))))) (fun o => some (.done (.inr o))))))
   (some (.done (.inl s2.2)))
def m22o_l4 (y1 : (List (List Int)) × (Qh U3 Int)) (s1 : (List Int) × (List Bool)) (nn : Nat) (s2 : Int) : Option (LO Int Int) :=
 cond (decide (s2 < (y1.1.length : Int)))
   (Option.bind (Ja y1.1 s2) fun (x37 : List Int) =>
 Option.bind (Option.bind (Ja s1.2 s2) fun (x39 : Bool) =>
 Qy (Nat.beq s1.2.length (((nn : Nat) : Int).toNat))
 (cond (!x39)
   (Option.bind (m43f5 x37 (((nn : Nat) : Int).toNat) s1.2) fun (x42 : Bool) =>
 some (!x42))
   (some false))) (fun (v38 : Bool) => cond v38
   (some (.done s2))
   (some (.next (QZ (s2 + 1))))))
   (some (.done (-1)))
def m22o_l5 (nn : Nat) (y1 : (List (List Int)) × (Qh U3 Int)) (s1 : (List Int) × (List Bool)) : Option (LO ((List Int) × (List Bool)) (((List Int) × (List Bool)) ⊕ (((List Int) × Int)))) :=
 cond (decide ((s1.1.length : Int) < ((nn : Nat) : Int)))
   (Option.bind (Qw (m22o_l4 y1 s1 nn) QF 0) (fun (o35 : Int) => cond (decide (o35 < 0))
   (some (.done (.inr (([] : List Int), 22))))
   (Option.bind (Ja s1.2 o35) fun (x37 : Bool) =>
 Qy (Nat.beq s1.2.length (((nn : Nat) : Int).toNat))
 (Qy (Nat.ble (s1.1.length + ([o35]).length) 1000000000)
 (some (.next ((s1.1 ++ ([o35])), (s1.2.set o35.toNat true))))))))
   (some (.done (.inl (s1.1, s1.2))))
def m22o (a0 : List Dcl) (nn : Nat) : Option ((List Int) × Int) :=
 Option.bind (Option.bind (Qw (m22o_l1 nn a0) QF (0, gmNil)) (Sum.elim (fun (o6 : (Qh U3 Int)) => Option.bind (Qw (m22o_l3 nn a0 o6) QF (0, ([] : List (List Int)))) (Sum.elim (fun (o7 : (List (List Int))) => some (.inl (o7, o6))) (fun o => some o))) (fun o => some o))) (Sum.elim (fun (y1 : (List (List Int)) × (Qh U3 Int)) => Qy (cond (decide (0 ≤ ((nn : Nat) : Int))) (Nat.ble (1 * ((nn : Nat) : Int).toNat) 281474976710656) false)
 (Option.bind (Qw (m22o_l5 nn y1) QF (([] : List Int), (List.replicate ((nn : Nat) : Int).toNat false))) (Sum.elim (fun (o33 : (List Int) × (List Bool)) => some (o33.1, 0)) (fun o => some o)))) (Sum.elim (fun (y2 : Unit) => some (([] : List Int), 8)) (fun (y3 : Unit) => some (([] : List Int), 9))))
set_option maxRecDepth 100000 in
set_option maxHeartbeats 2000000 in
theorem m22o_ok (a0 : List Dcl) (nn : Nat) (r : (List Int) × Int) (h0 : m22o a0 nn = some r) : CallM Try.prog 22 [.one (.osl 0 0 nn nn)] ⟨[(0, .cells 48 (Q9 a0))], [], 1⟩ (QA [.one (WJ r.1), .one (WL r.2)]) ⟨[(0, .cells 48 (Q9 a0))], [], 6⟩ := by
 unfold m22o at h0
 refine QR ⟨[(2, .v (.one (WJ r.1))), (3, .v (.one (WL r.2)))], [(0, .cells 48 (Q9 a0))], [], 6, 58, []⟩ rfl rfl en_22 (Wx rfl) rfl (Qo rfl (Qo rfl .nil)) (fun w0 M V0 Q hv0 hQ0 => ?_)
 simp only [Jb]
 refine Q2 <| Q0 <| Wo rfl rfl rfl <| Wo rfl rfl rfl <| Q3 <| Q1 <| Q2 <| Q0 <| Wn rfl rfl rfl ?_
 refine Qb h0 (fun y5 h1 h0 => ?_)
 have hc4 : CallM Try.prog 34 [.one (.osl 0 0 nn nn)] ⟨[(0, .cells 48 (Q9 a0))], [], 1⟩ (QA (((Sum.elim (fun (y1 : (List (List Int)) × (Qh U3 Int)) => ([.agg [WN 4 y1.1, .mp 2], .one (WL 0)] : List AV)) (Sum.elim (fun (y2 : Unit) => ([.agg [WK, .d (.v (.map none))], .one (WL 8)] : List AV)) (fun (y3 : Unit) => ([.agg [WK, .d (.v (.map none))], .one (WL 9)] : List AV))))) y5)) ⟨(((Sum.elim (fun (y1 : (List (List Int)) × (Qh U3 Int)) => (⟨[(2, .v (.one (.ptr 1 0))), (3, .v (.one (WL 0)))], [(0, .cells 48 (Q9 a0)), (1, .cells 72 [WN 4 y1.1, .mp 2]), (2, .mp (QL y1.2.1) y1.2.2)], [(4, some ⟨54, 1, (Enc.encL y1.1).length, []⟩)], 5, 88, []⟩ : St)) (Sum.elim (fun (y2 : Unit) => (⟨[(2, .v (.one (.ptr 1 0))), (3, .v (.one (WL 8)))], [(0, .cells 48 (Q9 a0)), (1, .cells 72 [WK, .d (.v (.map none))])], [], 5, 88, []⟩ : St)) (fun (y3 : Unit) => (⟨[(2, .v (.one (.ptr 1 0))), (3, .v (.one (WL 9)))], [(0, .cells 48 (Q9 a0)), (1, .cells 72 [WK, .d (.v (.map none))])], [], 7, 88, []⟩ : St))))) y5).hp, (((Sum.elim (fun (y1 : (List (List Int)) × (Qh U3 Int)) => (⟨[(2, .v (.one (.ptr 1 0))), (3, .v (.one (WL 0)))], [(0, .cells 48 (Q9 a0)), (1, .cells 72 [WN 4 y1.1, .mp 2]), (2, .mp (QL y1.2.1) y1.2.2)], [(4, some ⟨54, 1, (Enc.encL y1.1).length, []⟩)], 5, 88, []⟩ : St)) (Sum.elim (fun (y2 : Unit) => (⟨[(2, .v (.one (.ptr 1 0))), (3, .v (.one (WL 8)))], [(0, .cells 48 (Q9 a0)), (1, .cells 72 [WK, .d (.v (.map none))])], [], 5, 88, []⟩ : St)) (fun (y3 : Unit) => (⟨[(2, .v (.one (.ptr 1 0))), (3, .v (.one (WL 9)))], [(0, .cells 48 (Q9 a0)), (1, .cells 72 [WK, .d (.v (.map none))])], [], 7, 88, []⟩ : St))))) y5).tk, (((Sum.elim (fun (y1 : (List (List Int)) × (Qh U3 Int)) => (⟨[(2, .v (.one (.ptr 1 0))), (3, .v (.one (WL 0)))], [(0, .cells 48 (Q9 a0)), (1, .cells 72 [WN 4 y1.1, .mp 2]), (2, .mp (QL y1.2.1) y1.2.2)], [(4, some ⟨54, 1, (Enc.encL y1.1).length, []⟩)], 5, 88, []⟩ : St)) (Sum.elim (fun (y2 : Unit) => (⟨[(2, .v (.one (.ptr 1 0))), (3, .v (.one (WL 8)))], [(0, .cells 48 (Q9 a0)), (1, .cells 72 [WK, .d (.v (.map none))])], [], 5, 88, []⟩ : St)) (fun (y3 : Unit) => (⟨[(2, .v (.one (.ptr 1 0))), (3, .v (.one (WL 9)))], [(0, .cells 48 (Q9 a0)), (1, .cells 72 [WK, .d (.v (.map none))])], [], 7, 88, []⟩ : St))))) y5).nx⟩ := by
  refine JE y5 ((Sum.elim (fun (y1 : (List (List Int)) × (Qh U3 Int)) => (⟨[(2, .v (.one (.ptr 1 0))), (3, .v (.one (WL 0)))], [(0, .cells 48 (Q9 a0)), (1, .cells 72 [WN 4 y1.1, .mp 2]), (2, .mp (QL y1.2.1) y1.2.2)], [(4, some ⟨54, 1, (Enc.encL y1.1).length, []⟩)], 5, 88, []⟩ : St)) (Sum.elim (fun (y2 : Unit) => (⟨[(2, .v (.one (.ptr 1 0))), (3, .v (.one (WL 8)))], [(0, .cells 48 (Q9 a0)), (1, .cells 72 [WK, .d (.v (.map none))])], [], 5, 88, []⟩ : St)) (fun (y3 : Unit) => (⟨[(2, .v (.one (.ptr 1 0))), (3, .v (.one (WL 9)))], [(0, .cells 48 (Q9 a0)), (1, .cells 72 [WK, .d (.v (.map none))])], [], 7, 88, []⟩ : St))))) ((Sum.elim (fun (y1 : (List (List Int)) × (Qh U3 Int)) => ([.agg [WN 4 y1.1, .mp 2], .one (WL 0)] : List AV)) (Sum.elim (fun (y2 : Unit) => ([.agg [WK, .d (.v (.map none))], .one (WL 8)] : List AV)) (fun (y3 : Unit) => ([.agg [WK, .d (.v (.map none))], .one (WL 9)] : List AV))))) rfl rfl Xf (Wx rfl) (fun z_ => by cases z_ with
    | inl _ => rfl
    | inr z_ => exact (by cases z_ <;> rfl)) (fun z_ => by cases z_ with
    | inl _ => exact (Y0 J8 rfl rfl rfl rfl (Qo rfl .nil))
    | inr z_ => exact (by cases z_ with
    | inl _ => exact (Y0 J8 rfl rfl rfl rfl (Qo rfl .nil))
    | inr _ => exact (Y0 J8 rfl rfl rfl rfl (Qo rfl .nil)))) (fun w0 M V0 Q hv1 hQ1 => ?_)
  simp only [Jb]
  refine Q2 <| Q0 <| Qa rfl rfl (Wx rfl) (Qp YT rfl) <| Wo rfl rfl rfl <| Q3 <| Q1 <| Q2 <| Q0 <| Qa rfl rfl (Wx rfl) (Y2 U3 Int) <| Wm rfl rfl rfl (Zc Z5 rfl rfl rfl) <| Qa rfl rfl (Wx rfl) (Qp YT rfl) <| QJ rfl rfl (Ql J8 rfl rfl rfl rfl (Wx rfl) rfl) <| Q3 <| Q1 ?_
  refine Q2 <| Q2 <| Q0 <| Wn rfl rfl rfl <| Wm rfl rfl rfl (Ya Jo rfl) <| Wn rfl rfl rfl <| Q3 <| Q1 <| Qc ?_
  refine QI 0 (fun (o6 : (Qh U3 Int)) => ⟨[(0, .v (.one (.osl 0 0 nn nn))), (2, .v (.one (.ptr 1 0))), (4, .v (.one (.ptr 3 0)))], [(0, .cells 48 (Q9 a0)), (1, .cells 72 [WK, .d (.v (.map none))]), (2, .mp (QL o6.1) o6.2), (3, .cells 72 [WK, .mp 2])], [], 4, 88, []⟩) (fun (o6 : (Qh U3 Int)) => (Option.bind (Qw (m22o_l3 nn a0 o6) QF (0, ([] : List (List Int)))) (Sum.elim (fun (o7 : (List (List Int))) => some (.inl (o7, o6))) (fun o => some o))) = some y5) ?_ ?_
  refine Qb h1 (fun o7 hl2 h1 => ?_)
  refine QH (m22o_l1 nn a0) (fun s2 => ⟨[(0, .v (.one (.osl 0 0 nn nn))), (2, .v (.one (.ptr 1 0))), (4, .v (.one (.ptr 3 0))), (20, .v (.one (.osl 0 0 nn nn))), (21, .v (.one (WL ((nn : Nat) : Int)))), (22, .v (.one (WL s2.1)))], [(0, .cells 48 (Q9 a0)), (1, .cells 72 [WK, .d (.v (.map none))]), (2, .mp (QL s2.2.1) s2.2.2), (3, .cells 72 [WK, .mp 2])], [], 4, 88, []⟩) (0, gmNil) o7 (Qf (Wi rfl (Wi rfl (Wi rfl (Wi rfl (Wi rfl (Wi rfl Wh)))))) (WD rfl (WD rfl (WD rfl (WD rfl WC)))) Wy rfl (Nat.le_trans hv1 (Wx rfl)) rfl rfl rfl (WT rfl (WU rfl rfl (WS rfl (WU rfl rfl WR)))) rfl rfl) hl2 (fun s2 n2 oo2 h2 ho2 => ?_)
  unfold m22o_l1 at h2
  refine Q2 <| Q0 <| Wm rfl rfl rfl (Q8 rfl rfl rfl) <| Q3 <| Q1 <| Q2 ?_
  refine Qe (b := (decide (s2.1 < ((nn : Nat) : Int)))) rfl (fun c8 => ?_) (fun c8 => ?_)
  replace h2 := Qq c8 h2
  refine Qi <| Q1 <| Q2 <| Qc <| Q2 <| Q0 <| Wn rfl rfl rfl ?_
  refine Qb h2 (fun x9 hx9 h2 => ?_)
  refine QS h2 (fun g10 h2 => ?_)
  refine Wm rfl rfl rfl (Jp (α := Dcl) Jo rfl rfl hx9 g10) <| Wm rfl rfl rfl (Yu (α := Dcl) (ys := [WL x9.kind, Z4 x9.name, WL x9.params, WL x9.ty.kind, WL x9.ty.index, Z4 x9.ty.name, WJ x9.ty.levels, WJ x9.ty.kids, WL x9.value.kind, WL x9.value.index, Z4 x9.value.name, WJ x9.value.levels, WJ x9.value.kids, WL x9.fixed, WJ x9.ctors, WL x9.rcr.params, WL x9.rcr.ty.kind, WL x9.rcr.ty.index, Z4 x9.rcr.ty.name, WJ x9.rcr.ty.levels, WJ x9.rcr.ty.kids, WJ x9.rcr.rules, WJ x9.funs]) Jg rfl rfl hx9 rfl) <| Qa rfl rfl (Wx rfl) (Qp ZU rfl) <| Wo rfl rfl rfl <| QJ rfl rfl (J6 (x9 : Dcl) Jg rfl rfl rfl rfl rfl) <| Q3 <| Q1 <| Q2 <| Q0 <| Wm rfl rfl rfl (JA (x9 : Dcl) Jg rfl rfl) ?_
  refine Qb h2 (fun x11 hx11 h2 => ?_)
  refine Qa rfl rfl (Wx rfl) (Qn (Ki x9 x11 hx11) rfl (.cons (.agg (.cons (.d _) (.cons (.d _) (.cons (.d _) (.cons (.d _) (.cons (.d _) (.cons (.d _) (.cons (.d _) (.cons (.d _) (.cons (.d _) (.cons (.d _) (.cons (.d _) (.cons (.d _) (.cons (.d _) (.cons (.d _) (.cons (.d _) (.cons (.d _) (.cons (.d _) (.cons (.d _) (.cons (.d _) (.cons (.d _) (.cons (.d _) (.cons (.d _) (.cons (.d _) .nil)))))))))))))))))))))))) .nil)) <| Wm rfl rfl rfl (QC (α := U3) J1 rfl (.d _)) <| Wn rfl rfl rfl <| Q3 <| Q1 <| Qc ?_
  refine QI 2 (fun (o12 : (Qh U3 Int)) => ⟨[(0, .v (.one (.osl 0 0 nn nn))), (2, .v (.one (.ptr 1 0))), (4, .v (.one (.ptr 3 0))), (20, .v (.one (.osl 0 0 nn nn))), (21, .v (.one (WL ((nn : Nat) : Int)))), (22, .v (.one (WL s2.1)))], [(0, .cells 48 (Q9 a0)), (1, .cells 72 [WK, .d (.v (.map none))]), (2, .mp (QL o12.1) o12.2), (3, .cells 72 [WK, .mp 2]), (4, .cells 48 (WO x9))], [], 5, 88, []⟩) (fun (o12 : (Qh U3 Int)) => (some (.next ((QZ (s2.1 + 1)), o12))) = some oo2) ?_ ?_
  refine Qb h2 (fun o13 hl3 h2 => ?_)
  refine QH (m22o_l0 x11 s2) (fun s3 => ⟨[(0, .v (.one (.osl 0 0 nn nn))), (2, .v (.one (.ptr 1 0))), (4, .v (.one (.ptr 3 0))), (5, .v (.one (WL s2.1))), (20, .v (.one (.osl 0 0 nn nn))), (21, .v (.one (WL ((nn : Nat) : Int)))), (22, .v (.one (WL s2.1))), (28, .v (.one (WJ x11))), (29, .v (.one (WL (x11.length : Int)))), (30, .v (.one (WL s3.1)))], [(0, .cells 48 (Q9 a0)), (1, .cells 72 [WK, .d (.v (.map none))]), (2, .mp (QL s3.2.1) s3.2.2), (3, .cells 72 [WK, .mp 2]), (4, .cells 48 (WO x9))], [], 5, 88, []⟩) (0, s2.2) o13 (Qf (Wi rfl (Wi rfl (Wi rfl (Wi rfl (Wi rfl (Wi rfl (Wi rfl (Wi rfl (Wi rfl (Wi rfl Wh)))))))))) (WD rfl (WD rfl (WD rfl (WD rfl (WD rfl WC))))) Wy rfl (Nat.le_trans hv1 (Wx rfl)) rfl rfl rfl (WT rfl (WU rfl rfl (WS rfl (WU rfl rfl (WU rfl rfl WR))))) rfl rfl) hl3 (fun s3 n3 oo3 h3 ho3 => ?_)
  unfold m22o_l0 at h3
  refine Q2 <| Q0 <| Wm rfl rfl rfl (Q8 rfl rfl rfl) <| Q3 <| Q1 <| Q2 ?_
  refine Qe (b := (decide (s3.1 < (x11.length : Int)))) rfl (fun c14 => ?_) (fun c14 => ?_)
  replace h3 := Qq c14 h3
  refine Qi <| Q1 <| Q2 <| Qc <| Q2 <| Q0 ?_
  refine Qb h3 (fun x15 hx15 h3 => ?_)
  refine Wm rfl rfl rfl (Qm (α := U3) J1 rfl (.d _) rfl hx15) <| Wm rfl rfl rfl (QN JT rfl rfl) <| Wo rfl rfl rfl <| Q3 <| Q1 <| Q2 <| Q2 <| Q0 <| Wm rfl rfl rfl (Q6 JM rfl) <| Wm rfl rfl rfl (Q7 YD rfl rfl rfl) <| Wn rfl rfl rfl <| Wm rfl rfl rfl (Js (M := s3.2) (k := x15) YC Yg rfl rfl rfl) <| Wn rfl rfl rfl <| Wm rfl rfl rfl (Qg rfl rfl) ?_
  refine Wm rfl rfl rfl (Qg rfl rfl) <| Wo rfl rfl rfl <| Wo rfl rfl rfl <| Q3 <| Q1 <| Q2 <| Q0 <| Wn rfl rfl rfl <| Q3 <| Q1 ?_
  refine Qe (b := (Jt s3.2 x15)) rfl (fun c16 => ?_) (fun c16 => ?_)
  replace h3 := Qq c16 h3
  refine Q2 <| Q0 <| Wm rfl rfl rfl (Y5 Z5 rfl ) <| QJ rfl rfl (Ql J8 rfl rfl rfl rfl (Wx rfl) rfl) <| Wo rfl rfl rfl <| Q3 <| Q1 <| Qz ?_
  have e := Wk h3; subst e
  have e_ : _ = _ := ho3
  subst e_
  try dsimp only [Sum.elim_inl, Sum.elim_inr] at h2
  have e := Wk h2; subst e
  have e_ : _ = _ := ho2
  subst e_
  try dsimp only [Sum.elim_inl, Sum.elim_inr] at h1
  have e := Wk h1; subst e
  exact hQ1 _ _ _ (.inr rfl) rfl (show StLe _ _ ⟨[(2, .v (.one (.ptr 1 0))), (3, .v (.one (WL 8)))], [(0, .cells 48 (Q9 a0)), (1, .cells 72 [WK, .d (.v (.map none))])], [], 5, 88, []⟩ from (Qf (Wi rfl (Wi rfl Wh)) (WD rfl (WD rfl WC)) Wy rfl (Nat.le_trans hv1 (Wx rfl)) rfl rfl rfl (WT rfl (WU rfl rfl WR)) rfl rfl))
  replace h3 := Qr c16 h3
  refine Qi <| Q1 <| Q0 <| Wm rfl rfl rfl (Q6 JM rfl) <| Wm rfl rfl rfl (Q7 YD rfl rfl rfl) <| Wn rfl rfl rfl <| Wn rfl rfl rfl <| QJ rfl rfl (JL (M := s3.2) (k := x15) (v := s2.1) YC rfl rfl rfl rfl rfl) <| Q3 <| Qj <| Q1 <| Q0 <| Wm rfl rfl rfl (Q8 rfl rfl rfl) <| Wn rfl rfl rfl ?_
  refine Q3 ?_
  have e := Wk h3; subst e
  refine QD ((QZ (s3.1 + 1)), (JY s3.2 x15 s2.1)) (Qf (Wi rfl (Wi rfl (Wi rfl (Wi rfl (Wi rfl (Wi rfl (Wi rfl (Wi rfl (Wi rfl (Wi rfl Wh)))))))))) (WD rfl (WD rfl (WD rfl (WD rfl (WD rfl WC))))) Wy rfl (Nat.le_trans hv1 (Wx rfl)) rfl rfl rfl (WT rfl (WU rfl rfl (WS rfl (WU rfl rfl (WU rfl rfl WR))))) rfl rfl) ho3
  replace h3 := Qr c14 h3
  refine QM <| Qd <| Qd ?_
  have e := Wk h3; subst e
  have e_ : _ = _ := ho3
  subst e_
  exact QG s3.2 (Qf (Wi rfl (Wi rfl (Wi rfl (Wi rfl (Wi rfl (Wi rfl Wh)))))) (WD rfl (WD rfl (WD rfl (WD rfl (WD rfl WC))))) Wy rfl (Nat.le_trans hv1 (Wx rfl)) rfl rfl rfl (WT rfl (WU rfl rfl (WS rfl (WU rfl rfl (WU rfl rfl WR))))) rfl rfl) h2
  intro o12 h2
  refine QB <| Qj <| Q1 <| Q0 <| Wm rfl rfl rfl (Q8 rfl rfl rfl) <| Wn rfl rfl rfl <| Q3 ?_
  have e := Wk h2; subst e
  refine QD ((QZ (s2.1 + 1)), o12) (Qf (Wi rfl (Wi rfl (Wi rfl (Wi rfl (Wi rfl (Wi rfl Wh)))))) (WD rfl (WD rfl (WD rfl (WD rfl WC)))) Wy rfl (Nat.le_trans hv1 (Wx rfl)) rfl rfl rfl (WT rfl (WU rfl rfl (WS rfl (WU rfl rfl WR)))) rfl rfl) ho2
  replace h2 := Qr c8 h2
  refine QM <| Qd <| Qd ?_
  have e := Wk h2; subst e
  have e_ : _ = _ := ho2
  subst e_
  exact QG s2.2 (Qf (Wi rfl (Wi rfl (Wi rfl Wh))) (WD rfl (WD rfl (WD rfl (WD rfl WC)))) Wy rfl (Nat.le_trans hv1 (Wx rfl)) rfl rfl rfl (WT rfl (WU rfl rfl (WS rfl (WU rfl rfl WR)))) rfl rfl) h1
  intro o6 h1
  refine QB <| Q1 <| Q2 <| Q2 <| Q0 <| Wn rfl rfl rfl <| Wm rfl rfl rfl (Ya Jo rfl) <| Wn rfl rfl rfl <| Q3 <| Q1 <| Qc ?_
  refine QI 4 (fun (o17 : (List (List Int))) => ⟨[(2, .v (.one (.ptr 1 0))), (4, .v (.one (.ptr 3 0)))], [(0, .cells 48 (Q9 a0)), (1, .cells 72 [WK, .d (.v (.map none))]), (2, .mp (QL o6.1) o6.2), (3, .cells 72 [WN 4 o17, .mp 2])], [(4, some ⟨54, 1, (Enc.encL o17).length, []⟩)], 5, 88, []⟩) (fun (o17 : (List (List Int))) => (some (.inl (o17, o6))) = some y5) ?_ ?_
  refine YR (i := 3) (off := 0) 54 1 rfl rfl ?_
  refine Qb h1 (fun o18 hl2 h1 => ?_)
  refine QH (m22o_l3 nn a0 o6) (fun s2 => ⟨[(2, .v (.one (.ptr 1 0))), (4, .v (.one (.ptr 3 0))), (49, .v (.one (.osl 0 0 nn nn))), (50, .v (.one (WL ((nn : Nat) : Int)))), (51, .v (.one (WL s2.1)))], [(0, .cells 48 (Q9 a0)), (1, .cells 72 [WK, .d (.v (.map none))]), (2, .mp (QL o6.1) o6.2), (3, .cells 72 [WN 4 s2.2, .mp 2])], [(4, some ⟨54, 1, (Enc.encL s2.2).length, []⟩)], 5, 88, []⟩) (0, ([] : List (List Int))) o18 (Qf (Wi rfl (Wi rfl (Wi rfl (Wi rfl (Wi rfl Wh))))) (WD rfl (WD rfl (WD rfl (WD rfl WC)))) (Wz rfl Wy) rfl (Nat.le_trans hv1 (Wx rfl)) rfl rfl rfl (WT rfl (WU rfl rfl (WS rfl (WU rfl rfl WR)))) rfl rfl) hl2 (fun s2 n2 oo2 h2 ho2 => ?_)
  unfold m22o_l3 at h2
  refine Q2 <| Q0 <| Wm rfl rfl rfl (Q8 rfl rfl rfl) <| Q3 <| Q1 <| Q2 ?_
  refine Qe (b := (decide (s2.1 < ((nn : Nat) : Int)))) rfl (fun c19 => ?_) (fun c19 => ?_)
  replace h2 := Qq c19 h2
  refine Qi <| Q1 <| Q2 <| Qc <| Q2 <| Q0 ?_
  refine Qb h2 (fun x20 hx20 h2 => ?_)
  refine QS h2 (fun g21 h2 => ?_)
  refine Wm rfl rfl rfl (Jp (α := Dcl) Jo rfl rfl hx20 g21) <| Wm rfl rfl rfl (Yu (α := Dcl) (ys := [WL x20.kind, Z4 x20.name, WL x20.params, WL x20.ty.kind, WL x20.ty.index, Z4 x20.ty.name, WJ x20.ty.levels, WJ x20.ty.kids, WL x20.value.kind, WL x20.value.index, Z4 x20.value.name, WJ x20.value.levels, WJ x20.value.kids, WL x20.fixed, WJ x20.ctors, WL x20.rcr.params, WL x20.rcr.ty.kind, WL x20.rcr.ty.index, Z4 x20.rcr.ty.name, WJ x20.rcr.ty.levels, WJ x20.rcr.ty.kids, WJ x20.rcr.rules, WJ x20.funs]) Jg rfl rfl hx20 rfl) <| Qa rfl rfl (Wx rfl) (Qp ZU rfl) <| QJ rfl rfl (J6 (x20 : Dcl) Jg rfl rfl rfl rfl rfl) <| Q3 <| Q1 <| Q2 <| Q0 <| Wo rfl rfl rfl <| Q3 <| Q1 <| Q2 <| Q2 <| Q0 ?_
  refine Wm rfl rfl rfl (JA (x20 : Dcl) Jg rfl rfl) ?_
  refine Qb h2 (fun x22 hx22 h2 => ?_)
  refine Qa rfl rfl (Wx rfl) (Qn (GC x20 x22 hx22) rfl (.cons (.agg (.cons (.d _) (.cons (.d _) (.cons (.d _) (.cons (.d _) (.cons (.d _) (.cons (.d _) (.cons (.d _) (.cons (.d _) (.cons (.d _) (.cons (.d _) (.cons (.d _) (.cons (.d _) (.cons (.d _) (.cons (.d _) (.cons (.d _) (.cons (.d _) (.cons (.d _) (.cons (.d _) (.cons (.d _) (.cons (.d _) (.cons (.d _) (.cons (.d _) (.cons (.d _) .nil)))))))))))))))))))))))) .nil)) <| Wm rfl rfl rfl (QC (α := U3) J1 rfl (.d _)) <| Wn rfl rfl rfl <| Q3 <| Q1 <| Qc ?_
  refine QI 6 (fun (o23 : (List Int)) => ⟨[(2, .v (.one (.ptr 1 0))), (4, .v (.one (.ptr 3 0))), (13, .v (.one (.apv 6 1 ((Enc.encL o23).length) []))), (49, .v (.one (.osl 0 0 nn nn))), (50, .v (.one (WL ((nn : Nat) : Int)))), (51, .v (.one (WL s2.1)))], [(0, .cells 48 (Q9 a0)), (1, .cells 72 [WK, .d (.v (.map none))]), (2, .mp (QL o6.1) o6.2), (3, .cells 72 [WN 4 s2.2, .mp 2]), (5, .cells 48 (WO x20))], [(4, some ⟨54, 1, (Enc.encL s2.2).length, []⟩), (6, some ⟨3, 1, (Enc.encL o23).length, (Enc.encL o23).flatten⟩)], 7, 88, []⟩) (fun (o23 : (List Int)) => (Option.bind (Zf o23) fun (x24 : List Int) =>
    Option.bind (JS x24 ((Enc.encL o23).length)) fun (x25 : List Int) =>
    Qy (Nat.ble (s2.2.length + ([x25]).length) 1000000000)
    (some (.next ((QZ (s2.1 + 1)), (s2.2 ++ ([x25])))))) = some oo2) ?_ ?_
  refine JW (t := 13) 3 1 rfl <| Kd (α := Int) (t := 13) rfl rfl ?_
  refine Qb h2 (fun o24 hl3 h2 => ?_)
  refine QH (m22o_l2 x22 o6) (fun s3 => ⟨[(2, .v (.one (.ptr 1 0))), (4, .v (.one (.ptr 3 0))), (13, .v (.one (.apv 6 1 ((Enc.encL s3.1).length) []))), (49, .v (.one (.osl 0 0 nn nn))), (50, .v (.one (WL ((nn : Nat) : Int)))), (51, .v (.one (WL s2.1))), (56, .v (.one (WJ x22))), (57, .v (.one (WL (x22.length : Int)))), (58, .v (.one (WL s3.2)))], [(0, .cells 48 (Q9 a0)), (1, .cells 72 [WK, .d (.v (.map none))]), (2, .mp (QL o6.1) o6.2), (3, .cells 72 [WN 4 s2.2, .mp 2]), (5, .cells 48 (WO x20))], [(4, some ⟨54, 1, (Enc.encL s2.2).length, []⟩), (6, some ⟨3, 1, (Enc.encL s3.1).length, (Enc.encL s3.1).flatten⟩)], 7, 88, []⟩) (([] : List Int), 0) o24 (Qf (Wi rfl (Wi rfl (Wi rfl (Wi rfl (Wi rfl (Wi rfl (Wi rfl (Wi rfl (Wi rfl Wh))))))))) (WD rfl (WD rfl (WD rfl (WD rfl (WD rfl WC))))) (Wz rfl (Wz rfl Wy)) rfl (Nat.le_trans hv1 (Wx rfl)) rfl rfl rfl (WT rfl (WU rfl rfl (WS rfl (WU rfl rfl (WU rfl rfl WR))))) rfl rfl) hl3 (fun s3 n3 oo3 h3 ho3 => ?_)
  unfold m22o_l2 at h3
  refine Q2 <| Q0 <| Wm rfl rfl rfl (Q8 rfl rfl rfl) <| Q3 <| Q1 <| Q2 ?_
  refine Qe (b := (decide (s3.2 < (x22.length : Int)))) rfl (fun c25 => ?_) (fun c25 => ?_)
  replace h3 := Qq c25 h3
  refine Qi <| Q1 <| Q2 <| Qc <| Q2 <| Q0 ?_
  refine Qb h3 (fun x26 hx26 h3 => ?_)
  refine Wm rfl rfl rfl (Qm (α := U3) J1 rfl (.d _) rfl hx26) <| Wm rfl rfl rfl (QN JT rfl rfl) <| Wo rfl rfl rfl <| Q3 <| Q1 <| Q2 <| Q0 <| Wm rfl rfl rfl (Q6 JM rfl) <| Wm rfl rfl rfl (Q7 YD rfl rfl rfl) <| Wn rfl rfl rfl <| Wm rfl rfl rfl (Js (M := o6) (k := x26) YC Yg rfl rfl rfl) <| Wn rfl rfl rfl <| Wm rfl rfl rfl (Qg rfl rfl) <| Wm rfl rfl rfl (Qg rfl rfl) ?_
  refine Wo rfl rfl rfl <| Wo rfl rfl rfl <| Q3 <| Q1 <| Q2 <| Q2 <| Q0 <| Wn rfl rfl rfl <| Wm rfl rfl rfl (J9 rfl) <| Q3 <| Q1 ?_
  refine Qe (b := (!(Jt o6 x26))) rfl (fun c27 => ?_) (fun c27 => ?_)
  replace h3 := Qq c27 h3
  refine Q2 <| Q0 <| Wm rfl rfl rfl (Y5 Z5 rfl ) <| QJ rfl rfl (Ql J8 rfl rfl rfl rfl (Wx rfl) rfl) <| Wo rfl rfl rfl <| Q3 <| Q1 <| Qz ?_
  have e := Wk h3; subst e
  have e_ : _ = _ := ho3
  subst e_
  try dsimp only [Sum.elim_inl, Sum.elim_inr] at h2
  have e := Wk h2; subst e
  have e_ : _ = _ := ho2
  subst e_
  try dsimp only [Sum.elim_inl, Sum.elim_inr] at h1
  have e := Wk h1; subst e
  exact hQ1 _ _ _ (.inr rfl) rfl (show StLe _ _ ⟨[(2, .v (.one (.ptr 1 0))), (3, .v (.one (WL 9)))], [(0, .cells 48 (Q9 a0)), (1, .cells 72 [WK, .d (.v (.map none))])], [], 7, 88, []⟩ from (Qf (Wi rfl (Wi rfl Wh)) (WD rfl (WD rfl WC)) Wy rfl (Nat.le_trans hv1 (Wx rfl)) rfl rfl rfl (WT rfl (WU rfl rfl WR)) rfl rfl))
  replace h3 := Qr c27 h3
  refine Qi <| Q1 <| Q0 <| Wn rfl rfl rfl <| Wn rfl rfl rfl <| Qa rfl rfl (Wx rfl) (J3 (α := Int) ((Je o6 x26)) JU XE rfl rfl (Wx rfl) (Wx rfl) rfl rfl (.cons (.d _) .nil) rfl) ?_
  refine QS h3 (fun g28 h3 => ?_)
  refine Qa rfl rfl (Wx rfl) (Yv (α := Int) (l := s3.1) (l2 := ([(Je o6 x26)] : List Int)) JU Xn rfl rfl rfl rfl (.app _ _) rfl g28) <| Wo rfl rfl rfl <| Q3 <| Qj <| Q1 <| Q0 <| Wm rfl rfl rfl (Q8 rfl rfl rfl) <| Wn rfl rfl rfl <| Q3 ?_
  have e := Wk h3; subst e
  refine QD ((s3.1 ++ ([(Je o6 x26)])), (QZ (s3.2 + 1))) (Qf (Wi rfl (Wi rfl (Wi rfl (Wi rfl (Wi rfl (Wi rfl (Wi rfl (Wi rfl (Wi rfl Wh))))))))) (WD rfl (WD rfl (WD rfl (WD rfl (WD rfl WC))))) (Wz rfl (Wz rfl Wy)) rfl (Nat.le_trans hv1 (Wx rfl)) rfl rfl rfl (WT rfl (WU rfl rfl (WS rfl (WU rfl rfl (WU rfl rfl WR))))) rfl rfl) ho3
  replace h3 := Qr c25 h3
  refine QM <| Qd <| Qd ?_
  have e := Wk h3; subst e
  have e_ : _ = _ := ho3
  subst e_
  exact QG s3.1 (Qf (Wi rfl (Wi rfl (Wi rfl (Wi rfl (Wi rfl (Wi rfl Wh)))))) (WD rfl (WD rfl (WD rfl (WD rfl (WD rfl WC))))) (Wz rfl (Wz rfl Wy)) rfl (Nat.le_trans hv1 (Wx rfl)) rfl rfl rfl (WT rfl (WU rfl rfl (WS rfl (WU rfl rfl (WU rfl rfl WR))))) rfl rfl) h2
  intro o23 h2
  refine QB <| Q1 <| Q2 <| Q0 <| Wn rfl rfl rfl ?_
  refine Qb h2 (fun x29 hx29 h2 => ?_)
  refine Qa rfl rfl (Wx rfl) (J2 (hp1' := []) (tk1' := [(6, some ⟨3, 1, (Enc.encL o23).length, (Enc.encL x29).flatten⟩)]) (hpF := [(0, .cells 48 (Q9 a0)), (1, .cells 72 [WK, .d (.v (.map none))]), (2, .mp (QL o6.1) o6.2), (3, .cells 72 [WN 4 s2.2, .mp 2]), (5, .cells 48 (WO x20))]) (tkF := [(4, some ⟨54, 1, (Enc.encL s2.2).length, []⟩)]) (res2 := QA []) (nx2 := 7) [6] rfl rfl (K2 o23 x29 hx29) rfl rfl Wp rfl rfl WF (WB rfl WA) (WD rfl (WD rfl (WD rfl (WD rfl (WD rfl WC))))) (Wz rfl Wy) rfl rfl rfl rfl rfl WR rfl rfl rfl rfl) <| Q3 <| Q1 ?_
  refine JG [3, 5, 7] [(0, 1), (1, 1)] mixed (by kernel_rfl) (by kernel_rfl) (by kernel_rfl) ?_
  refine RunA.rd rfl rfl rfl (Q4 (Q6 JC rfl)) rfl <| RunA.rd rfl rfl rfl (Q4 (Q7 Y1 rfl rfl rfl)) rfl <| RunA.rd rfl rfl rfl (Q4 (QQ rfl)) rfl ?_
  refine Qb h2 (fun x30 hx30 h2 => ?_)
  refine RunA.eff rfl rfl rfl (J2 (hp1' := []) (tk1' := [(7, some ⟨3, 1, (Enc.encL x30).length, []⟩)]) (hpF := [(0, .cells 48 (Q9 a0)), (1, .cells 72 [WK, .d (.v (.map none))]), (2, .mp (QL o6.1) o6.2), (3, .cells 72 [WN 4 s2.2, .mp 2]), (5, .cells 48 (WO x20))]) (tkF := [(4, some ⟨54, 1, (Enc.encL s2.2).length, []⟩)]) (res2 := QA [.one (WN 7 x30)]) (nx2 := 8) [6] rfl rfl (YP x29 ((Enc.encL o23).length) x30 hx30) rfl rfl Wp rfl rfl WF (WB rfl WA) (WD rfl (WD rfl (WD rfl (WD rfl (WD rfl WC))))) (Wz rfl Wy) rfl rfl rfl rfl rfl WR rfl rfl rfl rfl) rfl <| RunA.rd rfl rfl rfl (Y3 (α := List Int) (x30) Y7 Xr rfl rfl (Wx rfl) rfl rfl (.cons (.app _ _ _) .nil) rfl) rfl ?_
  refine QS h2 (fun g31 h2 => ?_)
  refine RunA.eff rfl rfl rfl (QW (α := List Int) Y7 X7 rfl rfl rfl rfl rfl (.d _) g31) rfl <| RunA.rd rfl rfl rfl (Q4 (Q6 JC rfl)) rfl <| RunA.eff rfl rfl rfl (Ql Y1 rfl rfl rfl rfl (Wx rfl) rfl) rfl ?_
  refine RunA.nil ⟨?ex, _, _, rfl, ?_⟩
  case ex => exact ⟨⟨_, rfl, _, _, rfl, rfl, rfl, .inl ⟨rfl, _, Q4 (Q6 JC rfl), rfl⟩⟩, ⟨_, rfl, _, _, rfl, rfl, rfl, .inl ⟨rfl, _, Q4 (Q7 Y1 rfl rfl rfl), rfl⟩⟩, trivial⟩
  refine JK (st' := ⟨[(2, .v (.one (.ptr 1 0))), (4, .v (.one (.ptr 3 0))), (49, .v (.one (.osl 0 0 nn nn))), (50, .v (.one (WL ((nn : Nat) : Int)))), (51, .v (.one (WL s2.1)))], [(0, .cells 48 (Q9 a0)), (1, .cells 72 [WK, .d (.v (.map none))]), (2, .mp (QL o6.1) o6.2), (3, .cells 72 [WN 4 ((s2.2 ++ ([x30])) : List (List Int)), .mp 2]), (5, .cells 48 (WO x20))], [(4, some ⟨54, 1, (Enc.encL ((s2.2 ++ ([x30])) : List (List Int))).length, []⟩), (7, some ⟨3, 1, (Enc.encL x30).length, []⟩)], 8, 88, []⟩) (Qf (Wi rfl (Wi rfl (Wi rfl (Wi rfl (Wi rfl Wh))))) (WD rfl (WD rfl (WD rfl (WD rfl (WD rfl WC))))) (Wz rfl (Wz rfl Wy)) rfl (Nat.le_trans hv1 (Wx rfl)) rfl rfl rfl (WT rfl (WU rfl rfl (WS rfl (WU rfl rfl (WU rfl rfl WR))))) rfl rfl) <| Qj <| Q1 <| Q0 <| Wm rfl rfl rfl (Q8 rfl rfl rfl) <| Wn rfl rfl rfl <| Q3 ?_
  have e := Wk h2; subst e
  refine QD ((QZ (s2.1 + 1)), (s2.2 ++ ([x30]))) (Qf (Wi rfl (Wi rfl (Wi rfl (Wi rfl (Wi rfl Wh))))) (WD rfl (WD rfl (WD rfl (WD rfl WC)))) (Wz rfl Wy) rfl (Nat.le_trans hv1 (Wx rfl)) rfl rfl rfl (WT rfl (WU rfl rfl (WS rfl (WU rfl rfl WR)))) rfl rfl) ho2
  replace h2 := Qr c19 h2
  refine QM <| Qd <| Qd ?_
  have e := Wk h2; subst e
  have e_ : _ = _ := ho2
  subst e_
  exact QG s2.2 (Qf (Wi rfl (Wi rfl Wh)) (WD rfl (WD rfl (WD rfl (WD rfl WC)))) (Wz rfl Wy) rfl (Nat.le_trans hv1 (Wx rfl)) rfl rfl rfl (WT rfl (WU rfl rfl (WS rfl (WU rfl rfl WR)))) rfl rfl) h1
  intro o17 h1
  refine QB <| Q1 <| Q2 <| Q0 <| Wm rfl rfl rfl (Qu J8 rfl rfl rfl rfl) <| QJ rfl rfl (Ql J8 rfl rfl rfl rfl (Wx rfl) rfl) <| Wo rfl rfl rfl <| Q3 <| Q1 <| Qz ?_
  have e := Wk h1; subst e
  exact hQ1 _ _ _ (.inr rfl) rfl (show StLe _ _ ⟨[(2, .v (.one (.ptr 1 0))), (3, .v (.one (WL 0)))], [(0, .cells 48 (Q9 a0)), (1, .cells 72 [WN 4 o17, .mp 2]), (2, .mp (QL o6.1) o6.2)], [(4, some ⟨54, 1, (Enc.encL o17).length, []⟩)], 5, 88, []⟩ from (Qf (Wi rfl (Wi rfl Wh)) (WD rfl (WD rfl (WD rfl WC))) (Wz rfl Wy) rfl (Nat.le_trans hv1 (Wx rfl)) rfl rfl rfl (WT rfl (WU rfl rfl (WS rfl WR))) rfl rfl))
 refine KN (C := fun q_ => CallM Try.prog 34 [.one (.osl 0 0 nn nn)] ⟨[(0, .cells 48 (Q9 a0))], [], 1⟩ (QA (((Sum.elim (fun (y1 : (List (List Int)) × (Qh U3 Int)) => ([.agg [WN 4 y1.1, .mp 2], .one (WL 0)] : List AV)) (Sum.elim (fun (y2 : Unit) => ([.agg [WK, .d (.v (.map none))], .one (WL 8)] : List AV)) (fun (y3 : Unit) => ([.agg [WK, .d (.v (.map none))], .one (WL 9)] : List AV))))) q_)) ⟨(((Sum.elim (fun (y1 : (List (List Int)) × (Qh U3 Int)) => (⟨[(2, .v (.one (.ptr 1 0))), (3, .v (.one (WL 0)))], [(0, .cells 48 (Q9 a0)), (1, .cells 72 [WN 4 y1.1, .mp 2]), (2, .mp (QL y1.2.1) y1.2.2)], [(4, some ⟨54, 1, (Enc.encL y1.1).length, []⟩)], 5, 88, []⟩ : St)) (Sum.elim (fun (y2 : Unit) => (⟨[(2, .v (.one (.ptr 1 0))), (3, .v (.one (WL 8)))], [(0, .cells 48 (Q9 a0)), (1, .cells 72 [WK, .d (.v (.map none))])], [], 5, 88, []⟩ : St)) (fun (y3 : Unit) => (⟨[(2, .v (.one (.ptr 1 0))), (3, .v (.one (WL 9)))], [(0, .cells 48 (Q9 a0)), (1, .cells 72 [WK, .d (.v (.map none))])], [], 7, 88, []⟩ : St))))) q_).hp, (((Sum.elim (fun (y1 : (List (List Int)) × (Qh U3 Int)) => (⟨[(2, .v (.one (.ptr 1 0))), (3, .v (.one (WL 0)))], [(0, .cells 48 (Q9 a0)), (1, .cells 72 [WN 4 y1.1, .mp 2]), (2, .mp (QL y1.2.1) y1.2.2)], [(4, some ⟨54, 1, (Enc.encL y1.1).length, []⟩)], 5, 88, []⟩ : St)) (Sum.elim (fun (y2 : Unit) => (⟨[(2, .v (.one (.ptr 1 0))), (3, .v (.one (WL 8)))], [(0, .cells 48 (Q9 a0)), (1, .cells 72 [WK, .d (.v (.map none))])], [], 5, 88, []⟩ : St)) (fun (y3 : Unit) => (⟨[(2, .v (.one (.ptr 1 0))), (3, .v (.one (WL 9)))], [(0, .cells 48 (Q9 a0)), (1, .cells 72 [WK, .d (.v (.map none))])], [], 7, 88, []⟩ : St))))) q_).tk, (((Sum.elim (fun (y1 : (List (List Int)) × (Qh U3 Int)) => (⟨[(2, .v (.one (.ptr 1 0))), (3, .v (.one (WL 0)))], [(0, .cells 48 (Q9 a0)), (1, .cells 72 [WN 4 y1.1, .mp 2]), (2, .mp (QL y1.2.1) y1.2.2)], [(4, some ⟨54, 1, (Enc.encL y1.1).length, []⟩)], 5, 88, []⟩ : St)) (Sum.elim (fun (y2 : Unit) => (⟨[(2, .v (.one (.ptr 1 0))), (3, .v (.one (WL 8)))], [(0, .cells 48 (Q9 a0)), (1, .cells 72 [WK, .d (.v (.map none))])], [], 5, 88, []⟩ : St)) (fun (y3 : Unit) => (⟨[(2, .v (.one (.ptr 1 0))), (3, .v (.one (WL 9)))], [(0, .cells 48 (Q9 a0)), (1, .cells 72 [WK, .d (.v (.map none))])], [], 7, 88, []⟩ : St))))) q_).nx⟩) hc4 h0 (fun y1 hc4 h0 => ?_) (fun z_ hc4 h0 => KN (C := fun q_ => CallM Try.prog 34 [.one (.osl 0 0 nn nn)] ⟨[(0, .cells 48 (Q9 a0))], [], 1⟩ (QA (((Sum.elim (fun (y1 : (List (List Int)) × (Qh U3 Int)) => ([.agg [WN 4 y1.1, .mp 2], .one (WL 0)] : List AV)) (Sum.elim (fun (y2 : Unit) => ([.agg [WK, .d (.v (.map none))], .one (WL 8)] : List AV)) (fun (y3 : Unit) => ([.agg [WK, .d (.v (.map none))], .one (WL 9)] : List AV))))) (.inr q_))) ⟨(((Sum.elim (fun (y1 : (List (List Int)) × (Qh U3 Int)) => (⟨[(2, .v (.one (.ptr 1 0))), (3, .v (.one (WL 0)))], [(0, .cells 48 (Q9 a0)), (1, .cells 72 [WN 4 y1.1, .mp 2]), (2, .mp (QL y1.2.1) y1.2.2)], [(4, some ⟨54, 1, (Enc.encL y1.1).length, []⟩)], 5, 88, []⟩ : St)) (Sum.elim (fun (y2 : Unit) => (⟨[(2, .v (.one (.ptr 1 0))), (3, .v (.one (WL 8)))], [(0, .cells 48 (Q9 a0)), (1, .cells 72 [WK, .d (.v (.map none))])], [], 5, 88, []⟩ : St)) (fun (y3 : Unit) => (⟨[(2, .v (.one (.ptr 1 0))), (3, .v (.one (WL 9)))], [(0, .cells 48 (Q9 a0)), (1, .cells 72 [WK, .d (.v (.map none))])], [], 7, 88, []⟩ : St))))) (.inr q_)).hp, (((Sum.elim (fun (y1 : (List (List Int)) × (Qh U3 Int)) => (⟨[(2, .v (.one (.ptr 1 0))), (3, .v (.one (WL 0)))], [(0, .cells 48 (Q9 a0)), (1, .cells 72 [WN 4 y1.1, .mp 2]), (2, .mp (QL y1.2.1) y1.2.2)], [(4, some ⟨54, 1, (Enc.encL y1.1).length, []⟩)], 5, 88, []⟩ : St)) (Sum.elim (fun (y2 : Unit) => (⟨[(2, .v (.one (.ptr 1 0))), (3, .v (.one (WL 8)))], [(0, .cells 48 (Q9 a0)), (1, .cells 72 [WK, .d (.v (.map none))])], [], 5, 88, []⟩ : St)) (fun (y3 : Unit) => (⟨[(2, .v (.one (.ptr 1 0))), (3, .v (.one (WL 9)))], [(0, .cells 48 (Q9 a0)), (1, .cells 72 [WK, .d (.v (.map none))])], [], 7, 88, []⟩ : St))))) (.inr q_)).tk, (((Sum.elim (fun (y1 : (List (List Int)) × (Qh U3 Int)) => (⟨[(2, .v (.one (.ptr 1 0))), (3, .v (.one (WL 0)))], [(0, .cells 48 (Q9 a0)), (1, .cells 72 [WN 4 y1.1, .mp 2]), (2, .mp (QL y1.2.1) y1.2.2)], [(4, some ⟨54, 1, (Enc.encL y1.1).length, []⟩)], 5, 88, []⟩ : St)) (Sum.elim (fun (y2 : Unit) => (⟨[(2, .v (.one (.ptr 1 0))), (3, .v (.one (WL 8)))], [(0, .cells 48 (Q9 a0)), (1, .cells 72 [WK, .d (.v (.map none))])], [], 5, 88, []⟩ : St)) (fun (y3 : Unit) => (⟨[(2, .v (.one (.ptr 1 0))), (3, .v (.one (WL 9)))], [(0, .cells 48 (Q9 a0)), (1, .cells 72 [WK, .d (.v (.map none))])], [], 7, 88, []⟩ : St))))) (.inr q_)).nx⟩) hc4 h0 (fun y2 hc4 h0 => ?_) (fun y3 hc4 h0 => ?_))
 replace hc4 : CallM Try.prog 34 [.one (.osl 0 0 nn nn)] ⟨[(0, .cells 48 (Q9 a0))], [], 1⟩ (QA [.agg [WN 4 y1.1, .mp 2], .one (WL 0)]) ⟨[(0, .cells 48 (Q9 a0)), (1, .cells 72 [WN 4 y1.1, .mp 2]), (2, .mp (QL y1.2.1) y1.2.2)], [(4, some ⟨54, 1, (Enc.encL y1.1).length, []⟩)], 5⟩ := hc4
 refine Qa rfl rfl (Wx rfl) (QT rfl rfl rfl hc4 rfl (WD rfl WC) Wy) <| Wn rfl rfl rfl <| Wm rfl rfl rfl (Qg rfl rfl) <| Wm rfl rfl rfl (Qg rfl rfl) <| Qa rfl rfl (Wx rfl) (Qp YT rfl) <| QJ rfl rfl (Ql J8 rfl rfl rfl rfl (Wx rfl) rfl) <| Wo rfl rfl rfl <| Q3 <| Q1 <| Q2 <| Q2 <| Q0 <| Wn rfl rfl rfl <| Wm rfl rfl rfl (Q8 rfl rfl rfl) ?_
 refine Q3 <| Q1 ?_
 refine Qe rfl (fun h => nomatch h) (fun _ => ?_)
 refine Qi <| Q1 <| Q2 <| Q0 <| Wo rfl rfl rfl <| Q3 <| Q1 <| Q2 <| Q0 <| Wn rfl rfl rfl <| Wm rfl rfl rfl (Ya Jo rfl) ?_
 refine QS h0 (fun g32 h0 => ?_)
 refine Qa rfl rfl (Wx rfl) (ZP (α := Bool) (z := false) Zo Wb rfl rfl XV rfl rfl g32 rfl (by repeat (first | exact CLs.nil | refine CLs.cons (by first | exact .refl _ | exact .sub (.app _ _ _) | exact .sub (.nil _)) ?_))) ?_
 refine Qa rfl rfl (Wx rfl) (Qp XD rfl) <| QJ rfl rfl (Ql Zp rfl rfl rfl rfl (Wx rfl) rfl) <| Q3 <| Q1 <| Q2 <| Qc ?_
 refine QI 0 (fun (o33 : (List Int) × (List Bool)) => ⟨[(6, .v (.one (WN 8 o33.1)))], [(0, .cells 48 (Q9 a0)), (1, .cells 72 [WN 4 y1.1, .mp 2]), (2, .mp (QL y1.2.1) y1.2.2), (5, .cells 72 [WN 4 y1.1, .mp 2]), (6, .cells 4 (Q9 o33.2)), (7, .cells 75 [.osl 6 0 (((nn : Nat) : Int).toNat) (((nn : Nat) : Int).toNat)])], [(4, some ⟨54, 1, (Enc.encL y1.1).length, []⟩), (8, some ⟨3, 1, (Enc.encL o33.1).length, []⟩)], 9, 58, []⟩) (fun (o33 : (List Int) × (List Bool)) => (some (o33.1, 0)) = some r) ?_ ?_
 refine JW (t := 6) 3 1 rfl ?_
 refine Qb h0 (fun o34 hl1 h0 => ?_)
 refine QH (m22o_l5 nn y1) (fun s1 => ⟨[(0, .v (.one (.osl 0 0 nn nn))), (4, .v (.one (.ptr 5 0))), (6, .v (.one (WN 8 s1.1))), (7, .v (.one (.ptr 7 0)))], [(0, .cells 48 (Q9 a0)), (1, .cells 72 [WN 4 y1.1, .mp 2]), (2, .mp (QL y1.2.1) y1.2.2), (5, .cells 72 [WN 4 y1.1, .mp 2]), (6, .cells 4 (Q9 s1.2)), (7, .cells 75 [.osl 6 0 (((nn : Nat) : Int).toNat) (((nn : Nat) : Int).toNat)])], [(4, some ⟨54, 1, (Enc.encL y1.1).length, []⟩), (8, some ⟨3, 1, (Enc.encL s1.1).length, []⟩)], 9, 58, []⟩) (([] : List Int), (List.replicate ((nn : Nat) : Int).toNat false)) o34 (Qf (Wi rfl (Wi rfl (Wi rfl (Wi rfl Wh)))) (WD rfl (WD rfl (WD rfl (WD rfl (WD rfl (WD rfl WC)))))) (Wz rfl (Wz rfl Wy)) rfl (Nat.le_trans hv0 (Wx rfl)) rfl rfl rfl (WT rfl (WU rfl rfl (WS rfl (WU rfl rfl (WT rfl (WU rfl rfl WR)))))) rfl rfl) hl1 (fun s1 n1 oo1 h1 ho1 => ?_)
 unfold m22o_l5 at h1
 refine Q2 <| Q2 <| Q0 <| Wn rfl rfl rfl <| Wm rfl rfl rfl (QC (α := Int) JU rfl (.app _ _)) <| Wn rfl rfl rfl <| Wm rfl rfl rfl (Ya Jo rfl) <| Wm rfl rfl rfl (Q8 rfl rfl rfl) <| Q3 <| Q1 ?_
 refine Qe (b := (decide ((s1.1.length : Int) < ((nn : Nat) : Int)))) rfl (fun c35 => ?_) (fun c35 => ?_)
 replace h1 := Qq c35 h1
 refine Qi <| Q1 <| Qc <| Q2 <| Q0 <| Wo rfl rfl rfl <| Q3 <| Q1 <| Q2 <| Q2 <| Q0 <| Wm rfl rfl rfl (Q6 JC rfl) <| Wm rfl rfl rfl (Q7 Y1 rfl rfl rfl) <| Wm rfl rfl rfl (QC (α := List Int) Y7 rfl (.app _ _)) ?_
 refine Wn rfl rfl rfl <| Q3 <| Q1 <| Qc ?_
 refine QI 2 (fun (o36 : Int) => ⟨[(0, .v (.one (.osl 0 0 nn nn))), (4, .v (.one (.ptr 5 0))), (6, .v (.one (WN 8 s1.1))), (7, .v (.one (.ptr 7 0))), (8, .v (.one (WL o36)))], [(0, .cells 48 (Q9 a0)), (1, .cells 72 [WN 4 y1.1, .mp 2]), (2, .mp (QL y1.2.1) y1.2.2), (5, .cells 72 [WN 4 y1.1, .mp 2]), (6, .cells 4 (Q9 s1.2)), (7, .cells 75 [.osl 6 0 (((nn : Nat) : Int).toNat) (((nn : Nat) : Int).toNat)])], [(4, some ⟨54, 1, (Enc.encL y1.1).length, []⟩), (8, some ⟨3, 1, (Enc.encL s1.1).length, []⟩)], 9, 58, []⟩) (fun (o36 : Int) => (cond (decide (o36 < 0))
     (some (.done (.inr (([] : List Int), 22))))
     (Option.bind (Ja s1.2 o36) fun (x38 : Bool) =>
   Qy (Nat.beq s1.2.length (((nn : Nat) : Int).toNat))
   (Qy (Nat.ble (s1.1.length + ([o36]).length) 1000000000)
   (some (.next ((s1.1 ++ ([o36])), (s1.2.set o36.toNat true))))))) = some oo1) ?_ ?_
 refine Qb h1 (fun o37 hl2 h1 => ?_)
 refine QH (m22o_l4 y1 s1 nn) (fun s2 => ⟨[(0, .v (.one (.osl 0 0 nn nn))), (4, .v (.one (.ptr 5 0))), (6, .v (.one (WN 8 s1.1))), (7, .v (.one (.ptr 7 0))), (8, .v (.one (WL (-1)))), (28, .v (.one (WN 4 y1.1))), (29, .v (.one (WL (y1.1.length : Int)))), (30, .v (.one (WL s2)))], [(0, .cells 48 (Q9 a0)), (1, .cells 72 [WN 4 y1.1, .mp 2]), (2, .mp (QL y1.2.1) y1.2.2), (5, .cells 72 [WN 4 y1.1, .mp 2]), (6, .cells 4 (Q9 s1.2)), (7, .cells 75 [.osl 6 0 (((nn : Nat) : Int).toNat) (((nn : Nat) : Int).toNat)])], [(4, some ⟨54, 1, (Enc.encL y1.1).length, []⟩), (8, some ⟨3, 1, (Enc.encL s1.1).length, []⟩)], 9, 58, []⟩) 0 o37 (Qf (Wi rfl (Wi rfl (Wi rfl (Wi rfl (Wi rfl (Wi rfl (Wi rfl (Wi rfl Wh)))))))) (WD rfl (WD rfl (WD rfl (WD rfl (WD rfl (WD rfl WC)))))) (Wz rfl (Wz rfl Wy)) rfl (Nat.le_trans hv0 (Wx rfl)) rfl rfl rfl (WT rfl (WU rfl rfl (WS rfl (WU rfl rfl (WT rfl (WU rfl rfl WR)))))) rfl rfl) hl2 (fun s2 n2 oo2 h2 ho2 => ?_)
 unfold m22o_l4 at h2
 refine Q2 <| Q0 <| Wm rfl rfl rfl (Q8 rfl rfl rfl) <| Q3 <| Q1 <| Q2 ?_
 refine Qe (b := (decide (s2 < (y1.1.length : Int)))) rfl (fun c38 => ?_) (fun c38 => ?_)
 replace h2 := Qq c38 h2
 refine Qi <| Q1 <| Q2 <| Qc <| Q2 <| Q0 <| Wn rfl rfl rfl ?_
 refine Qb h2 (fun x39 hx39 h2 => ?_)
 refine Wm rfl rfl rfl (Qm (α := List Int) Y7 rfl (.app _ _) rfl hx39) <| Wm rfl rfl rfl (QN Gs rfl rfl) <| Wo rfl rfl rfl <| Wo rfl rfl rfl <| Q3 <| Q1 <| Q2 ?_
 refine Jf (fun (v40 : Bool) => ⟨[(0, .v (.one (.osl 0 0 nn nn))), (4, .v (.one (.ptr 5 0))), (6, .v (.one (WN 8 s1.1))), (7, .v (.one (.ptr 7 0))), (8, .v (.one (WL (-1)))), (9, .v (.one (WL s2))), (28, .v (.one (WN 4 y1.1))), (29, .v (.one (WL (y1.1.length : Int)))), (30, .v (.one (WL s2))), (45, .v (.one (WM v40)))], [(0, .cells 48 (Q9 a0)), (1, .cells 72 [WN 4 y1.1, .mp 2]), (2, .mp (QL y1.2.1) y1.2.2), (5, .cells 72 [WN 4 y1.1, .mp 2]), (6, .cells 4 (Q9 s1.2)), (7, .cells 75 [.osl 6 0 (((nn : Nat) : Int).toNat) (((nn : Nat) : Int).toNat)])], [(4, some ⟨54, 1, (Enc.encL y1.1).length, []⟩), (8, some ⟨3, 1, (Enc.encL s1.1).length, []⟩)], 9, 58, []⟩) (fun (v40 : Bool) => (cond v40
     (some (.done s2))
     (some (.next (QZ (s2 + 1))))) = some oo2) ?_ ?_
 refine Qb h2 (fun w3_ h3 h2 => ?_)
 refine Q0 <| Wm rfl rfl rfl (Q7 Zp rfl rfl rfl) <| Wn rfl rfl rfl ?_
 refine Qb h3 (fun x41 hx41 h3 => ?_)
 refine QS h3 (fun g42 h3 => ?_)
 refine Wm rfl rfl rfl (Jp (α := Bool) Zo rfl rfl hx41 g42) <| Wm rfl rfl rfl (YS (α := Bool) (m := s2) (f := 0) Gt rfl rfl hx41 rfl) <| Wm rfl rfl rfl (J9 rfl) <| Wn rfl rfl rfl ?_
 refine QP (d := 40) (c := (!x41)) rfl (fun c43 => ?_) (fun c43 => ?_)
 replace h3 := Qq c43 h3
 refine Wn rfl rfl rfl <| Wm rfl rfl rfl (RO.makeFunc1 rfl) ?_
 refine Qb h3 (fun x44 hx44 h3 => ?_)
 refine Qa rfl rfl (Wx rfl) (J2 (hp1' := [(7, .cells 75 [.osl 6 0 (((nn : Nat) : Int).toNat) (((nn : Nat) : Int).toNat)]), (6, .cells 4 (Q9 s1.2))]) (tk1' := []) (hpF := [(0, .cells 48 (Q9 a0)), (1, .cells 72 [WN 4 y1.1, .mp 2]), (2, .mp (QL y1.2.1) y1.2.2), (5, .cells 72 [WN 4 y1.1, .mp 2])]) (tkF := [(4, some ⟨54, 1, (Enc.encL y1.1).length, []⟩), (8, some ⟨3, 1, (Enc.encL s1.1).length, []⟩)]) (res2 := QA [.one (WM x44)]) (nx2 := 9) [7, 6] rfl rfl (m43f5_ok x39 (((nn : Nat) : Int).toNat) s1.2 x44 hx44) rfl rfl (Ws rfl rfl (Wr rfl Wp)) rfl rfl (WG rfl (WI rfl WF)) WA (WD rfl (WD rfl (WD rfl (WD rfl WC)))) (Wz rfl (Wz rfl Wy)) rfl rfl rfl rfl rfl (WU rfl rfl (WT rfl WR)) rfl rfl rfl rfl) <| Wm rfl rfl rfl (J9 rfl) <| Wm rfl rfl rfl (Qk rfl rfl) <| Q3 ?_
 have e := Wk h3; subst e
 exact Qt (!x44) (Qf (Wi rfl (Wi rfl (Wi rfl (Wi rfl (Wi rfl (Wi rfl (Wi rfl (Wi rfl (Wi rfl (Wi rfl Wh)))))))))) (WD rfl (WD rfl (WD rfl (WD rfl (WD rfl (WD rfl WC)))))) (Wz rfl (Wz rfl Wy)) rfl (Nat.le_trans hv0 (Wx rfl)) rfl rfl rfl (WT rfl (WU rfl rfl (WS rfl (WU rfl rfl (WT rfl (WU rfl rfl WR)))))) rfl rfl) h2
 replace h3 := Qr c43 h3
 refine Q5 rfl rfl <| Q5 rfl rfl <| Q5 rfl rfl <| Q5 rfl rfl <| Wm rfl rfl rfl (Qx rfl rfl) <| Q3 ?_
 have e := Wk h3; subst e
 exact Qt false (Qf (Wi rfl (Wi rfl (Wi rfl (Wi rfl (Wi rfl (Wi rfl (Wi rfl (Wi rfl (Wi rfl (Wi rfl Wh)))))))))) (WD rfl (WD rfl (WD rfl (WD rfl (WD rfl (WD rfl WC)))))) (Wz rfl (Wz rfl Wy)) rfl (Nat.le_trans hv0 (Wx rfl)) rfl rfl rfl (WT rfl (WU rfl rfl (WS rfl (WU rfl rfl (WT rfl (WU rfl rfl WR)))))) rfl rfl) h2
 intro v40 h2
 refine Q1 ?_
 refine Qe (b := v40) rfl (fun c45 => ?_) (fun c45 => ?_)
 replace h2 := Qq c45 h2
 refine Q2 <| Q0 <| Wn rfl rfl rfl <| Wo rfl rfl rfl <| Q3 <| Q1 <| QM ?_
 refine XQ.blockE (by decide) ?_
 refine Qd <| Qd ?_
 have e := Wk h2; subst e
 have e_ : _ = _ := ho2
 subst e_
 exact QG s2 (Qf (Wi rfl (Wi rfl (Wi rfl (Wi rfl (Wi rfl Wh))))) (WD rfl (WD rfl (WD rfl (WD rfl (WD rfl (WD rfl WC)))))) (Wz rfl (Wz rfl Wy)) rfl (Nat.le_trans hv0 (Wx rfl)) rfl rfl rfl (WT rfl (WU rfl rfl (WS rfl (WU rfl rfl (WT rfl (WU rfl rfl WR)))))) rfl rfl) h1
 replace h2 := Qr c45 h2
 refine Qi <| Qj <| Q1 <| Q0 <| Wm rfl rfl rfl (Q8 rfl rfl rfl) <| Wn rfl rfl rfl <| Q3 ?_
 have e := Wk h2; subst e
 refine QD (QZ (s2 + 1)) (Qf (Wi rfl (Wi rfl (Wi rfl (Wi rfl (Wi rfl (Wi rfl (Wi rfl (Wi rfl Wh)))))))) (WD rfl (WD rfl (WD rfl (WD rfl (WD rfl (WD rfl WC)))))) (Wz rfl (Wz rfl Wy)) rfl (Nat.le_trans hv0 (Wx rfl)) rfl rfl rfl (WT rfl (WU rfl rfl (WS rfl (WU rfl rfl (WT rfl (WU rfl rfl WR)))))) rfl rfl) ho2
 replace h2 := Qr c38 h2
 refine QM <| Qd <| Qd ?_
 have e := Wk h2; subst e
 have e_ : _ = _ := ho2
 subst e_
 exact QG (-1) (Qf (Wi rfl (Wi rfl (Wi rfl (Wi rfl (Wi rfl Wh))))) (WD rfl (WD rfl (WD rfl (WD rfl (WD rfl (WD rfl WC)))))) (Wz rfl (Wz rfl Wy)) rfl (Nat.le_trans hv0 (Wx rfl)) rfl rfl rfl (WT rfl (WU rfl rfl (WS rfl (WU rfl rfl (WT rfl (WU rfl rfl WR)))))) rfl rfl) h1
 intro o36 h1
 refine QB <| Q1 <| Q2 <| Q2 <| Q0 <| Wn rfl rfl rfl <| Wm rfl rfl rfl (Q8 rfl rfl rfl) <| Q3 <| Q1 ?_
 refine Qe (b := (decide (o36 < 0))) rfl (fun c46 => ?_) (fun c46 => ?_)
 replace h1 := Qq c46 h1
 refine Q2 <| Q0 <| Wo rfl rfl rfl <| Wo rfl rfl rfl <| Q3 <| Q1 <| Qz ?_
 have e := Wk h1; subst e
 have e_ : _ = _ := ho1
 subst e_
 try dsimp only [Sum.elim_inl, Sum.elim_inr] at h0
 have e := Wk h0; subst e
 exact hQ0 _ _ _ (.inr rfl) rfl (Qf (Wj rfl (.sub (.nil _)) (Wi rfl Wh)) (WD rfl WC) Wy rfl (Nat.le_trans hv0 (Wx rfl)) rfl rfl rfl (WT rfl WR) rfl rfl)
 replace h1 := Qr c46 h1
 refine Qi <| Q1 <| Q2 <| Q0 <| Wm rfl rfl rfl (Q7 Zp rfl rfl rfl) <| Wn rfl rfl rfl ?_
 refine Qb h1 (fun x47 hx47 h1 => ?_)
 refine QS h1 (fun g48 h1 => ?_)
 refine Wm rfl rfl rfl (Jp (α := Bool) Zo rfl rfl hx47 g48) <| QJ rfl rfl (OpOK.storeOE (α := Bool) (y' := .one (WM true)) (v := true) Gt rfl rfl (.one (.d _)) rfl rfl hx47 rfl) <| Q3 <| Q1 <| Q0 <| Wn rfl rfl rfl <| Wn rfl rfl rfl <| Qa rfl rfl (Wx rfl) (J3 (α := Int) (o36) JU XE rfl rfl (Wx rfl) (Wx rfl) rfl rfl (.cons (.d _) .nil) rfl) ?_
 refine QS h1 (fun g49 h1 => ?_)
 refine Qa rfl rfl (Wx rfl) (QW (α := Int) JU Xn rfl rfl rfl rfl rfl (.app _ _) g49) <| Wo rfl rfl rfl <| Q3 <| Qj ?_
 have e := Wk h1; subst e
 refine QD ((s1.1 ++ ([o36])), (s1.2.set o36.toNat true)) (Qf (Wi rfl (Wi rfl (Wi rfl (Wi rfl Wh)))) (WD rfl (WD rfl (WD rfl (WD rfl (WD rfl (WD rfl WC)))))) (Wz rfl (Wz rfl Wy)) rfl (Nat.le_trans hv0 (Wx rfl)) rfl rfl rfl (WT rfl (WU rfl rfl (WS rfl (WU rfl rfl (WT rfl (WU rfl rfl WR)))))) rfl rfl) ho1
 replace h1 := Qr c35 h1
 refine QM <| Qd <| Qd ?_
 have e := Wk h1; subst e
 have e_ : _ = _ := ho1
 subst e_
 exact QG (s1.1, s1.2) (Qf (Wi rfl Wh) (WD rfl (WD rfl (WD rfl (WD rfl (WD rfl (WD rfl WC)))))) (Wz rfl (Wz rfl Wy)) rfl (Nat.le_trans hv0 (Wx rfl)) rfl rfl rfl (WT rfl (WU rfl rfl (WS rfl (WU rfl rfl (WT rfl (WU rfl rfl WR)))))) rfl rfl) h0
 intro o33 h0
 refine QB <| Q1 <| Q2 <| Q0 <| Wn rfl rfl rfl <| Wo rfl rfl rfl <| Wo rfl rfl rfl <| Q3 <| Q1 <| Qz ?_
 have e := Wk h0; subst e
 exact hQ0 _ _ _ (.inr rfl) rfl (Qf (Wj rfl (.sub (.app _ _ _)) (Wi rfl Wh)) (WD rfl WC) Wy rfl (Nat.le_trans hv0 (Wx rfl)) rfl rfl rfl (WT rfl WR) rfl rfl)
 replace hc4 : CallM Try.prog 34 [.one (.osl 0 0 nn nn)] ⟨[(0, .cells 48 (Q9 a0))], [], 1⟩ (QA [.agg [WK, .d (.v (.map none))], .one (WL 8)]) ⟨[(0, .cells 48 (Q9 a0)), (1, .cells 72 [WK, .d (.v (.map none))])], [], 5⟩ := hc4
 refine Qa rfl rfl (Wx rfl) (QT rfl rfl rfl hc4 rfl (WD rfl WC) Wy) <| Wn rfl rfl rfl <| Wm rfl rfl rfl (Qg rfl rfl) <| Wm rfl rfl rfl (Qg rfl rfl) <| Qa rfl rfl (Wx rfl) (Qp YT rfl) <| QJ rfl rfl (Ql J8 rfl rfl rfl rfl (Wx rfl) rfl) <| Wo rfl rfl rfl <| Q3 <| Q1 <| Q2 <| Q2 <| Q0 <| Wn rfl rfl rfl <| Wm rfl rfl rfl (Q8 rfl rfl rfl) ?_
 refine Q3 <| Q1 ?_
 refine Qe rfl (fun _ => ?_) (fun h => nomatch h)
 refine Q2 <| Q0 <| Wn rfl rfl rfl <| Wo rfl rfl rfl <| Wo rfl rfl rfl <| Q3 <| Q1 <| Qz ?_
 have e := Wk h0; subst e
 exact hQ0 _ _ _ (.inr rfl) rfl (Qf (Wj rfl (.sub (.nil _)) (Wi rfl Wh)) (WD rfl WC) Wy rfl (Nat.le_trans hv0 (Wx rfl)) rfl rfl rfl (WT rfl WR) rfl rfl)
 replace hc4 : CallM Try.prog 34 [.one (.osl 0 0 nn nn)] ⟨[(0, .cells 48 (Q9 a0))], [], 1⟩ (QA [.agg [WK, .d (.v (.map none))], .one (WL 9)]) ⟨[(0, .cells 48 (Q9 a0)), (1, .cells 72 [WK, .d (.v (.map none))])], [], 7⟩ := hc4
 refine Qa rfl rfl (Wx rfl) (QT rfl rfl rfl hc4 rfl (WD rfl WC) Wy) <| Wn rfl rfl rfl <| Wm rfl rfl rfl (Qg rfl rfl) <| Wm rfl rfl rfl (Qg rfl rfl) <| Qa rfl rfl (Wx rfl) (Qp YT rfl) <| QJ rfl rfl (Ql J8 rfl rfl rfl rfl (Wx rfl) rfl) <| Wo rfl rfl rfl <| Q3 <| Q1 <| Q2 <| Q2 <| Q0 <| Wn rfl rfl rfl <| Wm rfl rfl rfl (Q8 rfl rfl rfl) ?_
 refine Q3 <| Q1 ?_
 refine Qe rfl (fun _ => ?_) (fun h => nomatch h)
 refine Q2 <| Q0 <| Wn rfl rfl rfl <| Wo rfl rfl rfl <| Wo rfl rfl rfl <| Q3 <| Q1 <| Qz ?_
 have e := Wk h0; subst e
 exact hQ0 _ _ _ (.inr rfl) rfl (Qf (Wj rfl (.sub (.nil _)) (Wi rfl Wh)) (WD rfl WC) Wy rfl (Nat.le_trans hv0 (Wx rfl)) rfl rfl rfl (WT rfl WR) rfl rfl)
end Go.Proofs.Ytijcchddnnnmdaa
namespace Go.Proofs.Ytijcchddnnnmdaa
open Go.RowKit Go.Shelf
set_option linter.unusedSimpArgs false
set_option linter.unusedVariables false
theorem en_15 : J7 Try.prog 15 := enters_of Try.func15 (by kernel_rfl) rfl
def m56f11_l0 (x6 : List Int) (rc : Int × Nat × (List Bool) × (List (List Int)) → Option ((List Bool))) (a1 : Nat) (a3 : List (List Int)) (s1 : Int × (List Bool)) : Option (LO (Int × (List Bool)) (((List Bool)))) :=
 cond (decide (s1.1 < (x6.length : Int)))
   (Option.bind (Ja x6 s1.1) fun (x9 : Int) =>
 Option.bind (rc (x9, a1, s1.2, a3)) fun (x10 : (List Bool)) =>
 some (.next ((QZ (s1.1 + 1)), x10)))
   (some (.done s1.2))
def m56f11s (rc : Int × Nat × (List Bool) × (List (List Int)) → Option ((List Bool))) (a0 : Int) (a1 : Nat) (a2 : List Bool) (a3 : List (List Int)) : Option ((List Bool)) :=
 Option.bind (Ja a2 a0) fun (x1 : Bool) =>
 Qy (Nat.beq a2.length a1)
 (cond x1
   (some a2)
   (Option.bind (Ja a2 a0) fun (x4 : Bool) =>
 Qy (Nat.beq a2.length a1)
 (Option.bind (Ja a3 a0) fun (x6 : List Int) =>
 Option.bind (Qw (m56f11_l0 x6 rc a1 a3) QF (0, (a2.set a0.toNat true))) (fun (o7 : (List Bool)) => some o7))))
def m56f11F (rc : Int × Nat × (List Bool) × (List (List Int)) → Option ((List Bool))) (u : Int × Nat × (List Bool) × (List (List Int))) : Option ((List Bool)) := m56f11s rc u.1 u.2.1 u.2.2.1 u.2.2.2
def GY (a0 : Int) (a1 : Nat) (a2 : List Bool) (a3 : List (List Int)) : Option ((List Bool)) := Yb m56f11F QF (a0, a1, a2, a3)
set_option maxRecDepth 100000 in
set_option maxHeartbeats 2000000 in
theorem m56f11s_ok (rc : Int × Nat × (List Bool) × (List (List Int)) → Option ((List Bool))) (H : ∀ (a0 : Int) (a1 : Nat) (a2 : List Bool) (a3 : List (List Int)) (r : (List Bool)), rc (a0, a1, a2, a3) = some r → CallM Try.prog 56 [.one (WL a0), .one (.ptr 0 0), .one (.ptr 2 0), .one (.ptr 4 0)] ⟨[(0, .cells 75 [.osl 1 0 a1 a1]), (1, .cells 4 (Q9 a2)), (2, .cells 57 [WN 3 a3]), (4, .cells 106 [.fn 56 [(0, 0), (2, 0), (4, 0)]])], [(3, some ⟨54, 1, (Enc.encL a3).length, []⟩)], 5⟩ (QA []) ⟨[(0, .cells 75 [.osl 1 0 a1 a1]), (1, .cells 4 (Q9 r)), (2, .cells 57 [WN 3 a3]), (4, .cells 106 [.fn 56 [(0, 0), (2, 0), (4, 0)]])], [(3, some ⟨54, 1, (Enc.encL a3).length, []⟩)], 5⟩) (a0 : Int) (a1 : Nat) (a2 : List Bool) (a3 : List (List Int)) (r : (List Bool)) (h0 : m56f11s rc a0 a1 a2 a3 = some r) : CallM Try.prog 56 [.one (WL a0), .one (.ptr 0 0), .one (.ptr 2 0), .one (.ptr 4 0)] ⟨[(0, .cells 75 [.osl 1 0 a1 a1]), (1, .cells 4 (Q9 a2)), (2, .cells 57 [WN 3 a3]), (4, .cells 106 [.fn 56 [(0, 0), (2, 0), (4, 0)]])], [(3, some ⟨54, 1, (Enc.encL a3).length, []⟩)], 5⟩ (QA []) ⟨[(0, .cells 75 [.osl 1 0 a1 a1]), (1, .cells 4 (Q9 r)), (2, .cells 57 [WN 3 a3]), (4, .cells 106 [.fn 56 [(0, 0), (2, 0), (4, 0)]])], [(3, some ⟨54, 1, (Enc.encL a3).length, []⟩)], 5⟩ := by
 unfold m56f11s at h0
 refine QR ⟨[], [(0, .cells 75 [.osl 1 0 a1 a1]), (1, .cells 4 (Q9 r)), (2, .cells 57 [WN 3 a3]), (4, .cells 106 [.fn 56 [(0, 0), (2, 0), (4, 0)]])], [(3, some ⟨54, 1, (Enc.encL a3).length, []⟩)], 5, 27, []⟩ rfl rfl en_56 (Wx rfl) rfl .nil (fun w0 M V0 Q hv0 hQ0 => ?_)
 simp only [Jb]
 refine Q2 <| Q2 <| Q0 <| Wm rfl rfl rfl (Q7 Zp rfl rfl rfl) <| Wn rfl rfl rfl ?_
 refine Qb h0 (fun x1 hx1 h0 => ?_)
 refine QS h0 (fun g2 h0 => ?_)
 refine Wm rfl rfl rfl (Jp (α := Bool) Zo rfl rfl hx1 g2) <| Wm rfl rfl rfl (YS (α := Bool) (m := a0) (f := 0) Gt rfl rfl hx1 rfl) <| Q3 <| Q1 ?_
 refine Qe (b := x1) rfl (fun c3 => ?_) (fun c3 => ?_)
 replace h0 := Qq c3 h0
 refine Qz ?_
 have e := Wk h0; subst e
 exact hQ0 _ _ _ (.inr rfl) rfl (Qf Wh (WD rfl (WD rfl (WD rfl (WD rfl WC)))) (Wz rfl Wy) rfl (Nat.le_trans hv0 (Wx rfl)) rfl rfl rfl (WU rfl rfl (WT rfl (WU rfl rfl (WU rfl rfl WR)))) rfl rfl)
 replace h0 := Qr c3 h0
 refine Qi <| Q1 <| Q2 <| Q0 <| Wm rfl rfl rfl (Q7 Zp rfl rfl rfl) <| Wn rfl rfl rfl ?_
 refine Qb h0 (fun x4 hx4 h0 => ?_)
 refine QS h0 (fun g5 h0 => ?_)
 refine Wm rfl rfl rfl (Jp (α := Bool) Zo rfl rfl hx4 g5) <| QJ rfl rfl (OpOK.storeOE (α := Bool) (y' := .one (WM true)) (v := true) Gt rfl rfl (.one (.d _)) rfl rfl hx4 rfl) <| Q3 <| Q1 <| Q2 <| Q0 <| Wm rfl rfl rfl (Q7 Y1 rfl rfl rfl) <| Wn rfl rfl rfl ?_
 refine Qb h0 (fun x6 hx6 h0 => ?_)
 refine Wm rfl rfl rfl (Qm (α := List Int) Y7 rfl (.app _ _) rfl hx6) <| Wm rfl rfl rfl (QN Gs rfl rfl) <| Wm rfl rfl rfl (QC (α := Int) JU rfl (.d _)) <| Wn rfl rfl rfl <| Q3 <| Q1 <| Qc ?_
 refine QI 0 (fun (o7 : (List Bool)) => ⟨[], [(0, .cells 75 [.osl 1 0 a1 a1]), (1, .cells 4 (Q9 o7)), (2, .cells 57 [WN 3 a3]), (4, .cells 106 [.fn 56 [(0, 0), (2, 0), (4, 0)]])], [(3, some ⟨54, 1, (Enc.encL a3).length, []⟩)], 5, 27, []⟩) (fun (o7 : (List Bool)) => (some o7) = some r) ?_ ?_
 refine Qb h0 (fun o8 hl1 h0 => ?_)
 refine QH (m56f11_l0 x6 rc a1 a3) (fun s1 => ⟨[(3, .v (.one (.ptr 4 0))), (17, .v (.one (WJ x6))), (18, .v (.one (WL (x6.length : Int)))), (19, .v (.one (WL s1.1)))], [(0, .cells 75 [.osl 1 0 a1 a1]), (1, .cells 4 (Q9 s1.2)), (2, .cells 57 [WN 3 a3]), (4, .cells 106 [.fn 56 [(0, 0), (2, 0), (4, 0)]])], [(3, some ⟨54, 1, (Enc.encL a3).length, []⟩)], 5, 27, []⟩) (0, (a2.set a0.toNat true)) o8 (Qf (Wi rfl (Wi rfl (Wi rfl (Wi rfl Wh)))) (WD rfl (WD rfl (WD rfl (WD rfl WC)))) (Wz rfl Wy) rfl (Nat.le_trans hv0 (Wx rfl)) rfl rfl rfl (WU rfl rfl (WT rfl (WU rfl rfl (WU rfl rfl WR)))) rfl rfl) hl1 (fun s1 n1 oo1 h1 ho1 => ?_)
 unfold m56f11_l0 at h1
 refine Q2 <| Q0 <| Wm rfl rfl rfl (Q8 rfl rfl rfl) <| Q3 <| Q1 <| Q2 ?_
 refine Qe (b := (decide (s1.1 < (x6.length : Int)))) rfl (fun c9 => ?_) (fun c9 => ?_)
 replace h1 := Qq c9 h1
 refine Qi <| Q1 <| Q2 <| Qc <| Q2 <| Q0 ?_
 refine Qb h1 (fun x10 hx10 h1 => ?_)
 refine Wm rfl rfl rfl (Qm (α := Int) JU rfl (.d _) rfl hx10) <| Wm rfl rfl rfl (QN YA rfl rfl) <| Wo rfl rfl rfl <| Q3 <| Q1 <| Q0 <| Wm rfl rfl rfl (Q7 ZZ rfl rfl rfl) <| Wn rfl rfl rfl ?_
 refine Qb h1 (fun x11 hx11 h1 => ?_)
 refine Qa rfl rfl (Wx rfl) (J2 (hp1' := [(0, .cells 75 [.osl 1 0 a1 a1]), (1, .cells 4 (Q9 x11)), (2, .cells 57 [WN 3 a3]), (4, .cells 106 [.fn 56 [(0, 0), (2, 0), (4, 0)]])]) (tk1' := [(3, some ⟨54, 1, (Enc.encL a3).length, []⟩)]) (hpF := []) (tkF := []) (res2 := QA []) (nx2 := 5) [0, 1, 2, 3, 4] rfl rfl (H x10 a1 s1.2 a3 x11 hx11) rfl rfl (Ws rfl rfl (Wr rfl (Ws rfl rfl (Ws rfl rfl Wp)))) rfl rfl (WG rfl (WI rfl (WG rfl (WG rfl WF)))) (WB rfl WA) WC Wy rfl rfl rfl rfl rfl (WU rfl rfl (WT rfl (WU rfl rfl (WU rfl rfl WR)))) rfl rfl rfl rfl) <| Q3 <| Qj <| Q1 <| Q0 <| Wm rfl rfl rfl (Q8 rfl rfl rfl) <| Wn rfl rfl rfl <| Q3 ?_
 have e := Wk h1; subst e
 refine QD ((QZ (s1.1 + 1)), x11) (Qf (Wi rfl (Wi rfl (Wi rfl (Wi rfl Wh)))) (WD rfl (WD rfl (WD rfl (WD rfl WC)))) (Wz rfl Wy) rfl (Nat.le_trans hv0 (Wx rfl)) rfl rfl rfl (WU rfl rfl (WT rfl (WU rfl rfl (WU rfl rfl WR)))) rfl rfl) ho1
 replace h1 := Qr c9 h1
 refine QM <| Qd <| Qd ?_
 have e := Wk h1; subst e
 have e_ : _ = _ := ho1
 subst e_
 exact QG s1.2 (Qf Wh (WD rfl (WD rfl (WD rfl (WD rfl WC)))) (Wz rfl Wy) rfl (Nat.le_trans hv0 (Wx rfl)) rfl rfl rfl (WU rfl rfl (WT rfl (WU rfl rfl (WU rfl rfl WR)))) rfl rfl) h0
 intro o7 h0
 refine QB ?_
 have e := Wk h0; subst e
 exact hQ0 _ _ _ (.inl rfl) rfl (Qf Wh (WD rfl (WD rfl (WD rfl (WD rfl WC)))) (Wz rfl Wy) rfl (Nat.le_trans hv0 (Wx rfl)) rfl rfl rfl (WU rfl rfl (WT rfl (WU rfl rfl (WU rfl rfl WR)))) rfl rfl)
theorem m56f11_all (n : Nat) (u : Int × Nat × (List Bool) × (List (List Int))) (r : (List Bool)) (h0 : Yb m56f11F n u = some r) : CallM Try.prog 56 [.one (WL u.1), .one (.ptr 0 0), .one (.ptr 2 0), .one (.ptr 4 0)] ⟨[(0, .cells 75 [.osl 1 0 u.2.1 u.2.1]), (1, .cells 4 (Q9 u.2.2.1)), (2, .cells 57 [WN 3 u.2.2.2]), (4, .cells 106 [.fn 56 [(0, 0), (2, 0), (4, 0)]])], [(3, some ⟨54, 1, (Enc.encL u.2.2.2).length, []⟩)], 5⟩ (QA []) ⟨[(0, .cells 75 [.osl 1 0 u.2.1 u.2.1]), (1, .cells 4 (Q9 r)), (2, .cells 57 [WN 3 u.2.2.2]), (4, .cells 106 [.fn 56 [(0, 0), (2, 0), (4, 0)]])], [(3, some ⟨54, 1, (Enc.encL u.2.2.2).length, []⟩)], 5⟩ :=
 YF (C := fun u r => CallM Try.prog 56 [.one (WL u.1), .one (.ptr 0 0), .one (.ptr 2 0), .one (.ptr 4 0)] ⟨[(0, .cells 75 [.osl 1 0 u.2.1 u.2.1]), (1, .cells 4 (Q9 u.2.2.1)), (2, .cells 57 [WN 3 u.2.2.2]), (4, .cells 106 [.fn 56 [(0, 0), (2, 0), (4, 0)]])], [(3, some ⟨54, 1, (Enc.encL u.2.2.2).length, []⟩)], 5⟩ (QA []) ⟨[(0, .cells 75 [.osl 1 0 u.2.1 u.2.1]), (1, .cells 4 (Q9 r)), (2, .cells 57 [WN 3 u.2.2.2]), (4, .cells 106 [.fn 56 [(0, 0), (2, 0), (4, 0)]])], [(3, some ⟨54, 1, (Enc.encL u.2.2.2).length, []⟩)], 5⟩) (fun rc H u r h => m56f11s_ok rc (fun a0 a1 a2 a3 r h => H (a0, a1, a2, a3) r h) u.1 u.2.1 u.2.2.1 u.2.2.2 r h) n u r h0
theorem m56f11_ok (a0 : Int) (a1 : Nat) (a2 : List Bool) (a3 : List (List Int)) (r : (List Bool)) (h0 : GY a0 a1 a2 a3 = some r) : CallM Try.prog 56 [.one (WL a0), .one (.ptr 0 0), .one (.ptr 2 0), .one (.ptr 4 0)] ⟨[(0, .cells 75 [.osl 1 0 a1 a1]), (1, .cells 4 (Q9 a2)), (2, .cells 57 [WN 3 a3]), (4, .cells 106 [.fn 56 [(0, 0), (2, 0), (4, 0)]])], [(3, some ⟨54, 1, (Enc.encL a3).length, []⟩)], 5⟩ (QA []) ⟨[(0, .cells 75 [.osl 1 0 a1 a1]), (1, .cells 4 (Q9 r)), (2, .cells 57 [WN 3 a3]), (4, .cells 106 [.fn 56 [(0, 0), (2, 0), (4, 0)]])], [(3, some ⟨54, 1, (Enc.encL a3).length, []⟩)], 5⟩ := m56f11_all QF (a0, a1, a2, a3) r h0
def m15_l0 (x9 : (List U3)) (s2 : Int × (Qh U3 Int)) (s3 : Int × (Qh U3 Int)) : Option (LO (Int × (Qh U3 Int)) (((Qh U3 Int)) ⊕ (((List (List Int)) × (Qh U3 Int)) ⊕ Unit ⊕ Unit))) :=
 cond (decide (s3.1 < (x9.length : Int)))
   (Option.bind (Ja x9 s3.1) fun (x12 : U3) =>
 cond (Jt s3.2 x12)
   (some (.done (.inr (.inr (.inl ())))))
   (some (.next ((QZ (s3.1 + 1)), (JY s3.2 x12 s2.1)))))
   (some (.done (.inl s3.2)))
def m15_l1 (a0 : List Dcl) (s2 : Int × (Qh U3 Int)) : Option (LO (Int × (Qh U3 Int)) (((Qh U3 Int)) ⊕ (((List (List Int)) × (Qh U3 Int)) ⊕ Unit ⊕ Unit))) :=
 cond (decide (s2.1 < (a0.length : Int)))
   (Option.bind (Ja a0 s2.1) fun (x8 : Dcl) =>
 Option.bind (Xt x8) fun (x9 : (List U3)) =>
 Option.bind (Qw (m15_l0 x9 s2) QF (0, s2.2)) (Sum.elim (fun (o10 : (Qh U3 Int)) => some (.next ((QZ (s2.1 + 1)), o10))) (fun o => some (.done (.inr o)))))
   (some (.done (.inl s2.2)))
def m15_l2 (x10 : (List U3)) (o6 : (Qh U3 Int)) (s3 : (List Int) × Int) : Option (LO ((List Int) × Int) (((List Int)) ⊕ (((List (List Int)) × (Qh U3 Int)) ⊕ Unit ⊕ Unit))) :=
 cond (decide (s3.2 < (x10.length : Int)))
   (Option.bind (Ja x10 s3.2) fun (x13 : U3) =>
 cond (!(Jt o6 x13))
   (some (.done (.inr (.inr (.inr ())))))
   (Qy (Nat.ble (s3.1.length + ([(Je o6 x13)]).length) 1000000000)
 (some (.next ((s3.1 ++ ([(Je o6 x13)])), (QZ (s3.2 + 1)))))))
   (some (.done (.inl s3.1)))
def X1 (a0 : List Dcl) (o6 : (Qh U3 Int)) (s2 : Int × (List (List Int))) : Option (LO (Int × (List (List Int))) (((List (List Int))) ⊕ (((List (List Int)) × (Qh U3 Int)) ⊕ Unit ⊕ Unit))) :=
 cond (decide (s2.1 < (a0.length : Int)))
   (Option.bind (Ja a0 s2.1) fun (x9 : Dcl) =>
 Option.bind (XA x9) fun (x10 : (List U3)) =>
 Option.bind (Qw (m15_l2 x10 o6) QF (([] : List Int), 0)) (Sum.elim (fun (o11 : (List Int)) => Option.bind (Zf o11) fun (x12 : List Int) =>
 Option.bind (JS x12 ((Enc.encL o11).length)) fun (x13 : List Int) =>
 Qy (Nat.ble (s2.2.length + ([x13]).length) 1000000000)
 (some (.next ((QZ (s2.1 + 1)), (s2.2 ++ ([x13])))))) (fun o => some (.done (.inr o)))))
   (some (.done (.inl s2.2)))
def X0 (a1 : List U3) (y1 : (List (List Int)) × (Qh U3 Int)) (s2 : Int × (List Bool)) : Option (LO (Int × (List Bool)) (((List Bool)) ⊕ (Unit ⊕ ((List Bool))))) :=
 cond (decide (s2.1 < (a1.length : Int)))
   (Option.bind (Ja a1 s2.1) fun (x37 : U3) =>
 cond (!(Jt y1.2 x37))
   (some (.done (.inr (.inl ()))))
   (Option.bind (GY (Je y1.2 x37) ((y1.1.length : Int).toNat) s2.2 y1.1) fun (x39 : (List Bool)) =>
 some (.next ((QZ (s2.1 + 1)), x39))))
   (some (.done (.inl s2.2)))
def GG (a0 : List Dcl) (y31 : (List Bool)) (y1 : (List (List Int)) × (Qh U3 Int)) (s1 : (List Dcl) × Int) : Option (LO ((List Dcl) × Int) (((List Dcl)))) :=
 cond (decide (s1.2 < (a0.length : Int)))
   (Option.bind (Ja a0 s1.2) fun (x43 : Dcl) =>
 Option.bind (Ja y31 s1.2) fun (x44 : Bool) =>
 Qy (Nat.beq y31.length ((y1.1.length : Int).toNat))
 (cond x44
   (Qy (Nat.ble (s1.1.length + ([x43]).length) 1000000000)
 (some (.next ((s1.1 ++ ([x43])), (QZ (s1.2 + 1))))))
   (some (.next (s1.1, (QZ (s1.2 + 1)))))))
   (some (.done s1.1))
def Xu (a0 : List Dcl) (a1 : List U3) : Option ((List Dcl) × Int) :=
 Option.bind (Option.bind (Qw (m15_l1 a0) QF (0, gmNil)) (Sum.elim (fun (o6 : (Qh U3 Int)) => Option.bind (Qw (X1 a0 o6) QF (0, ([] : List (List Int)))) (Sum.elim (fun (o7 : (List (List Int))) => some (.inl (o7, o6))) (fun o => some o))) (fun o => some o))) (Sum.elim (fun (y1 : (List (List Int)) × (Qh U3 Int)) => Option.bind (Qy (cond (decide (0 ≤ (y1.1.length : Int))) (Nat.ble (1 * (y1.1.length : Int).toNat) 281474976710656) false)
 (Option.bind (Qw (X0 a1 y1) QF (0, (List.replicate (y1.1.length : Int).toNat false))) (Sum.elim (fun (o35 : (List Bool)) => some (.inr o35)) (fun o => some o)))) (Sum.elim (fun (y30 : Unit) => some (([] : List Dcl), 9)) (fun (y31 : (List Bool)) => Option.bind (Qw (GG a0 y31 y1) QF (([] : List Dcl), 0)) (fun (o41 : (List Dcl)) => some (o41, 0))))) (Sum.elim (fun (y2 : Unit) => some (([] : List Dcl), 8)) (fun (y3 : Unit) => some (([] : List Dcl), 9))))
set_option maxRecDepth 100000 in
set_option maxHeartbeats 2000000 in
theorem m15_ok (a0 : List Dcl) (a1 : List U3) (r : (List Dcl) × Int) (h0 : Xu a0 a1 = some r) : Fun Try.prog 15 [.one (WJ a0), .one (WJ a1)] (QA [.one (WJ r.1), .one (WL r.2)]) := by
 unfold Xu at h0
 refine QU 9 48 Try.func15 rfl en_15 rfl (Wx rfl) (fun S w => ?_)
 simp only [Jb]
 refine Q2 <| Q0 <| Wo rfl rfl rfl <| Wo rfl rfl rfl <| Q3 <| Q1 <| Q2 <| Q0 <| Wn rfl rfl rfl ?_
 refine Qb h0 (fun y5 h1 h0 => ?_)
 have hc4 : CallM Try.prog 34 [.one (WJ a0)] ⟨[], [], 0⟩ (QA (((Sum.elim (fun (y1 : (List (List Int)) × (Qh U3 Int)) => ([.agg [WN 3 y1.1, .mp 1], .one (WL 0)] : List AV)) (Sum.elim (fun (y2 : Unit) => ([.agg [WK, .d (.v (.map none))], .one (WL 8)] : List AV)) (fun (y3 : Unit) => ([.agg [WK, .d (.v (.map none))], .one (WL 9)] : List AV))))) y5)) ⟨(((Sum.elim (fun (y1 : (List (List Int)) × (Qh U3 Int)) => (⟨[(2, .v (.one (.ptr 0 0))), (3, .v (.one (WL 0)))], [(0, .cells 72 [WN 3 y1.1, .mp 1]), (1, .mp (QL y1.2.1) y1.2.2)], [(3, some ⟨54, 1, (Enc.encL y1.1).length, []⟩)], 4, 88, []⟩ : St)) (Sum.elim (fun (y2 : Unit) => (⟨[(2, .v (.one (.ptr 0 0))), (3, .v (.one (WL 8)))], [(0, .cells 72 [WK, .d (.v (.map none))])], [], 4, 88, []⟩ : St)) (fun (y3 : Unit) => (⟨[(2, .v (.one (.ptr 0 0))), (3, .v (.one (WL 9)))], [(0, .cells 72 [WK, .d (.v (.map none))])], [], 6, 88, []⟩ : St))))) y5).hp, (((Sum.elim (fun (y1 : (List (List Int)) × (Qh U3 Int)) => (⟨[(2, .v (.one (.ptr 0 0))), (3, .v (.one (WL 0)))], [(0, .cells 72 [WN 3 y1.1, .mp 1]), (1, .mp (QL y1.2.1) y1.2.2)], [(3, some ⟨54, 1, (Enc.encL y1.1).length, []⟩)], 4, 88, []⟩ : St)) (Sum.elim (fun (y2 : Unit) => (⟨[(2, .v (.one (.ptr 0 0))), (3, .v (.one (WL 8)))], [(0, .cells 72 [WK, .d (.v (.map none))])], [], 4, 88, []⟩ : St)) (fun (y3 : Unit) => (⟨[(2, .v (.one (.ptr 0 0))), (3, .v (.one (WL 9)))], [(0, .cells 72 [WK, .d (.v (.map none))])], [], 6, 88, []⟩ : St))))) y5).tk, (((Sum.elim (fun (y1 : (List (List Int)) × (Qh U3 Int)) => (⟨[(2, .v (.one (.ptr 0 0))), (3, .v (.one (WL 0)))], [(0, .cells 72 [WN 3 y1.1, .mp 1]), (1, .mp (QL y1.2.1) y1.2.2)], [(3, some ⟨54, 1, (Enc.encL y1.1).length, []⟩)], 4, 88, []⟩ : St)) (Sum.elim (fun (y2 : Unit) => (⟨[(2, .v (.one (.ptr 0 0))), (3, .v (.one (WL 8)))], [(0, .cells 72 [WK, .d (.v (.map none))])], [], 4, 88, []⟩ : St)) (fun (y3 : Unit) => (⟨[(2, .v (.one (.ptr 0 0))), (3, .v (.one (WL 9)))], [(0, .cells 72 [WK, .d (.v (.map none))])], [], 6, 88, []⟩ : St))))) y5).nx⟩ := by
  refine JE y5 ((Sum.elim (fun (y1 : (List (List Int)) × (Qh U3 Int)) => (⟨[(2, .v (.one (.ptr 0 0))), (3, .v (.one (WL 0)))], [(0, .cells 72 [WN 3 y1.1, .mp 1]), (1, .mp (QL y1.2.1) y1.2.2)], [(3, some ⟨54, 1, (Enc.encL y1.1).length, []⟩)], 4, 88, []⟩ : St)) (Sum.elim (fun (y2 : Unit) => (⟨[(2, .v (.one (.ptr 0 0))), (3, .v (.one (WL 8)))], [(0, .cells 72 [WK, .d (.v (.map none))])], [], 4, 88, []⟩ : St)) (fun (y3 : Unit) => (⟨[(2, .v (.one (.ptr 0 0))), (3, .v (.one (WL 9)))], [(0, .cells 72 [WK, .d (.v (.map none))])], [], 6, 88, []⟩ : St))))) ((Sum.elim (fun (y1 : (List (List Int)) × (Qh U3 Int)) => ([.agg [WN 3 y1.1, .mp 1], .one (WL 0)] : List AV)) (Sum.elim (fun (y2 : Unit) => ([.agg [WK, .d (.v (.map none))], .one (WL 8)] : List AV)) (fun (y3 : Unit) => ([.agg [WK, .d (.v (.map none))], .one (WL 9)] : List AV))))) rfl rfl Xf (Wx rfl) (fun z_ => by cases z_ with
    | inl _ => rfl
    | inr z_ => exact (by cases z_ <;> rfl)) (fun z_ => by cases z_ with
    | inl _ => exact (Y0 J8 rfl rfl rfl rfl (Qo rfl .nil))
    | inr z_ => exact (by cases z_ with
    | inl _ => exact (Y0 J8 rfl rfl rfl rfl (Qo rfl .nil))
    | inr _ => exact (Y0 J8 rfl rfl rfl rfl (Qo rfl .nil)))) (fun w0 M V0 Q hv1 hQ1 => ?_)
  simp only [Jb]
  refine Q2 <| Q0 <| Qa rfl rfl (Wx rfl) (Qp YT rfl) <| Wo rfl rfl rfl <| Q3 <| Q1 <| Q2 <| Q0 <| Qa rfl rfl (Wx rfl) (Y2 U3 Int) <| Wm rfl rfl rfl (Zc Z5 rfl rfl rfl) <| Qa rfl rfl (Wx rfl) (Qp YT rfl) <| QJ rfl rfl (Ql J8 rfl rfl rfl rfl (Wx rfl) rfl) <| Q3 <| Q1 ?_
  refine Q2 <| Q2 <| Q0 <| Wn rfl rfl rfl <| Wm rfl rfl rfl (QC (α := Dcl) Jo rfl (.d _)) <| Wn rfl rfl rfl <| Q3 <| Q1 <| Qc ?_
  refine QI 0 (fun (o6 : (Qh U3 Int)) => ⟨[(0, .v (.one (WJ a0))), (2, .v (.one (.ptr 0 0))), (4, .v (.one (.ptr 2 0)))], [(0, .cells 72 [WK, .d (.v (.map none))]), (1, .mp (QL o6.1) o6.2), (2, .cells 72 [WK, .mp 1])], [], 3, 88, []⟩) (fun (o6 : (Qh U3 Int)) => (Option.bind (Qw (X1 a0 o6) QF (0, ([] : List (List Int)))) (Sum.elim (fun (o7 : (List (List Int))) => some (.inl (o7, o6))) (fun o => some o))) = some y5) ?_ ?_
  refine Qb h1 (fun o7 hl2 h1 => ?_)
  refine QH (m15_l1 a0) (fun s2 => ⟨[(0, .v (.one (WJ a0))), (2, .v (.one (.ptr 0 0))), (4, .v (.one (.ptr 2 0))), (20, .v (.one (WJ a0))), (21, .v (.one (WL (a0.length : Int)))), (22, .v (.one (WL s2.1)))], [(0, .cells 72 [WK, .d (.v (.map none))]), (1, .mp (QL s2.2.1) s2.2.2), (2, .cells 72 [WK, .mp 1])], [], 3, 88, []⟩) (0, gmNil) o7 (Qf (Wi rfl (Wi rfl (Wi rfl (Wi rfl (Wi rfl (Wi rfl Wh)))))) (WD rfl (WD rfl (WD rfl WC))) Wy rfl (Nat.le_trans hv1 (Wx rfl)) rfl rfl rfl (WU rfl rfl (WS rfl (WU rfl rfl WR))) rfl rfl) hl2 (fun s2 n2 oo2 h2 ho2 => ?_)
  unfold m15_l1 at h2
  refine Q2 <| Q0 <| Wm rfl rfl rfl (Q8 rfl rfl rfl) <| Q3 <| Q1 <| Q2 ?_
  refine Qe (b := (decide (s2.1 < (a0.length : Int)))) rfl (fun c8 => ?_) (fun c8 => ?_)
  replace h2 := Qq c8 h2
  refine Qi <| Q1 <| Q2 <| Qc <| Q2 <| Q0 <| Wn rfl rfl rfl ?_
  refine Qb h2 (fun x9 hx9 h2 => ?_)
  refine Wm rfl rfl rfl (Qm (α := Dcl) Jo rfl (.d _) rfl hx9) <| Wm rfl rfl rfl (QK (x9 : Dcl) Jg rfl) <| Qa rfl rfl (Wx rfl) (Qp ZU rfl) <| Wo rfl rfl rfl <| QJ rfl rfl (J6 (x9 : Dcl) Jg rfl rfl rfl rfl rfl) <| Q3 <| Q1 <| Q2 <| Q0 <| Wm rfl rfl rfl (JA (x9 : Dcl) Jg rfl rfl) ?_
  refine Qb h2 (fun x10 hx10 h2 => ?_)
  refine Qa rfl rfl (Wx rfl) (Qn (Ki x9 x10 hx10) rfl (.cons (.agg (.cons (.d _) (.cons (.d _) (.cons (.d _) (.cons (.d _) (.cons (.d _) (.cons (.d _) (.cons (.d _) (.cons (.d _) (.cons (.d _) (.cons (.d _) (.cons (.d _) (.cons (.d _) (.cons (.d _) (.cons (.d _) (.cons (.d _) (.cons (.d _) (.cons (.d _) (.cons (.d _) (.cons (.d _) (.cons (.d _) (.cons (.d _) (.cons (.d _) (.cons (.d _) .nil)))))))))))))))))))))))) .nil)) <| Wm rfl rfl rfl (QC (α := U3) J1 rfl (.d _)) <| Wn rfl rfl rfl <| Q3 <| Q1 <| Qc ?_
  refine QI 2 (fun (o11 : (Qh U3 Int)) => ⟨[(0, .v (.one (WJ a0))), (2, .v (.one (.ptr 0 0))), (4, .v (.one (.ptr 2 0))), (20, .v (.one (WJ a0))), (21, .v (.one (WL (a0.length : Int)))), (22, .v (.one (WL s2.1)))], [(0, .cells 72 [WK, .d (.v (.map none))]), (1, .mp (QL o11.1) o11.2), (2, .cells 72 [WK, .mp 1]), (3, .cells 48 (WO x9))], [], 4, 88, []⟩) (fun (o11 : (Qh U3 Int)) => (some (.next ((QZ (s2.1 + 1)), o11))) = some oo2) ?_ ?_
  refine Qb h2 (fun o12 hl3 h2 => ?_)
  refine QH (m15_l0 x10 s2) (fun s3 => ⟨[(0, .v (.one (WJ a0))), (2, .v (.one (.ptr 0 0))), (4, .v (.one (.ptr 2 0))), (5, .v (.one (WL s2.1))), (20, .v (.one (WJ a0))), (21, .v (.one (WL (a0.length : Int)))), (22, .v (.one (WL s2.1))), (28, .v (.one (WJ x10))), (29, .v (.one (WL (x10.length : Int)))), (30, .v (.one (WL s3.1)))], [(0, .cells 72 [WK, .d (.v (.map none))]), (1, .mp (QL s3.2.1) s3.2.2), (2, .cells 72 [WK, .mp 1]), (3, .cells 48 (WO x9))], [], 4, 88, []⟩) (0, s2.2) o12 (Qf (Wi rfl (Wi rfl (Wi rfl (Wi rfl (Wi rfl (Wi rfl (Wi rfl (Wi rfl (Wi rfl (Wi rfl Wh)))))))))) (WD rfl (WD rfl (WD rfl (WD rfl WC)))) Wy rfl (Nat.le_trans hv1 (Wx rfl)) rfl rfl rfl (WU rfl rfl (WS rfl (WU rfl rfl (WU rfl rfl WR)))) rfl rfl) hl3 (fun s3 n3 oo3 h3 ho3 => ?_)
  unfold m15_l0 at h3
  refine Q2 <| Q0 <| Wm rfl rfl rfl (Q8 rfl rfl rfl) <| Q3 <| Q1 <| Q2 ?_
  refine Qe (b := (decide (s3.1 < (x10.length : Int)))) rfl (fun c13 => ?_) (fun c13 => ?_)
  replace h3 := Qq c13 h3
  refine Qi <| Q1 <| Q2 <| Qc <| Q2 <| Q0 ?_
  refine Qb h3 (fun x14 hx14 h3 => ?_)
  refine Wm rfl rfl rfl (Qm (α := U3) J1 rfl (.d _) rfl hx14) <| Wm rfl rfl rfl (QN JT rfl rfl) <| Wo rfl rfl rfl <| Q3 <| Q1 <| Q2 <| Q2 <| Q0 <| Wm rfl rfl rfl (Q6 JM rfl) <| Wm rfl rfl rfl (Q7 YD rfl rfl rfl) <| Wn rfl rfl rfl <| Wm rfl rfl rfl (Js (M := s3.2) (k := x14) YC Yg rfl rfl rfl) <| Wn rfl rfl rfl <| Wm rfl rfl rfl (Qg rfl rfl) ?_
  refine Wm rfl rfl rfl (Qg rfl rfl) <| Wo rfl rfl rfl <| Wo rfl rfl rfl <| Q3 <| Q1 <| Q2 <| Q0 <| Wn rfl rfl rfl <| Q3 <| Q1 ?_
  refine Qe (b := (Jt s3.2 x14)) rfl (fun c15 => ?_) (fun c15 => ?_)
  replace h3 := Qq c15 h3
  refine Q2 <| Q0 <| Wm rfl rfl rfl (Y5 Z5 rfl ) <| QJ rfl rfl (Ql J8 rfl rfl rfl rfl (Wx rfl) rfl) <| Wo rfl rfl rfl <| Q3 <| Q1 <| Qz ?_
  have e := Wk h3; subst e
  have e_ : _ = _ := ho3
  subst e_
  try dsimp only [Sum.elim_inl, Sum.elim_inr] at h2
  have e := Wk h2; subst e
  have e_ : _ = _ := ho2
  subst e_
  try dsimp only [Sum.elim_inl, Sum.elim_inr] at h1
  have e := Wk h1; subst e
  exact hQ1 _ _ _ (.inr rfl) rfl (show StLe _ _ ⟨[(2, .v (.one (.ptr 0 0))), (3, .v (.one (WL 8)))], [(0, .cells 72 [WK, .d (.v (.map none))])], [], 4, 88, []⟩ from (Qf (Wi rfl (Wi rfl Wh)) (WD rfl WC) Wy rfl (Nat.le_trans hv1 (Wx rfl)) rfl rfl rfl (WU rfl rfl WR) rfl rfl))
  replace h3 := Qr c15 h3
  refine Qi <| Q1 <| Q0 <| Wm rfl rfl rfl (Q6 JM rfl) <| Wm rfl rfl rfl (Q7 YD rfl rfl rfl) <| Wn rfl rfl rfl <| Wn rfl rfl rfl <| QJ rfl rfl (JL (M := s3.2) (k := x14) (v := s2.1) YC rfl rfl rfl rfl rfl) <| Q3 <| Qj <| Q1 <| Q0 <| Wm rfl rfl rfl (Q8 rfl rfl rfl) <| Wn rfl rfl rfl ?_
  refine Q3 ?_
  have e := Wk h3; subst e
  refine QD ((QZ (s3.1 + 1)), (JY s3.2 x14 s2.1)) (Qf (Wi rfl (Wi rfl (Wi rfl (Wi rfl (Wi rfl (Wi rfl (Wi rfl (Wi rfl (Wi rfl (Wi rfl Wh)))))))))) (WD rfl (WD rfl (WD rfl (WD rfl WC)))) Wy rfl (Nat.le_trans hv1 (Wx rfl)) rfl rfl rfl (WU rfl rfl (WS rfl (WU rfl rfl (WU rfl rfl WR)))) rfl rfl) ho3
  replace h3 := Qr c13 h3
  refine QM <| Qd <| Qd ?_
  have e := Wk h3; subst e
  have e_ : _ = _ := ho3
  subst e_
  exact QG s3.2 (Qf (Wi rfl (Wi rfl (Wi rfl (Wi rfl (Wi rfl (Wi rfl Wh)))))) (WD rfl (WD rfl (WD rfl (WD rfl WC)))) Wy rfl (Nat.le_trans hv1 (Wx rfl)) rfl rfl rfl (WU rfl rfl (WS rfl (WU rfl rfl (WU rfl rfl WR)))) rfl rfl) h2
  intro o11 h2
  refine QB <| Qj <| Q1 <| Q0 <| Wm rfl rfl rfl (Q8 rfl rfl rfl) <| Wn rfl rfl rfl <| Q3 ?_
  have e := Wk h2; subst e
  refine QD ((QZ (s2.1 + 1)), o11) (Qf (Wi rfl (Wi rfl (Wi rfl (Wi rfl (Wi rfl (Wi rfl Wh)))))) (WD rfl (WD rfl (WD rfl WC))) Wy rfl (Nat.le_trans hv1 (Wx rfl)) rfl rfl rfl (WU rfl rfl (WS rfl (WU rfl rfl WR))) rfl rfl) ho2
  replace h2 := Qr c8 h2
  refine QM <| Qd <| Qd ?_
  have e := Wk h2; subst e
  have e_ : _ = _ := ho2
  subst e_
  exact QG s2.2 (Qf (Wi rfl (Wi rfl (Wi rfl Wh))) (WD rfl (WD rfl (WD rfl WC))) Wy rfl (Nat.le_trans hv1 (Wx rfl)) rfl rfl rfl (WU rfl rfl (WS rfl (WU rfl rfl WR))) rfl rfl) h1
  intro o6 h1
  refine QB <| Q1 <| Q2 <| Q2 <| Q0 <| Wn rfl rfl rfl <| Wm rfl rfl rfl (QC (α := Dcl) Jo rfl (.d _)) <| Wn rfl rfl rfl <| Q3 <| Q1 <| Qc ?_
  refine QI 4 (fun (o16 : (List (List Int))) => ⟨[(2, .v (.one (.ptr 0 0))), (4, .v (.one (.ptr 2 0)))], [(0, .cells 72 [WK, .d (.v (.map none))]), (1, .mp (QL o6.1) o6.2), (2, .cells 72 [WN 3 o16, .mp 1])], [(3, some ⟨54, 1, (Enc.encL o16).length, []⟩)], 4, 88, []⟩) (fun (o16 : (List (List Int))) => (some (.inl (o16, o6))) = some y5) ?_ ?_
  refine YR (i := 2) (off := 0) 54 1 rfl rfl ?_
  refine Qb h1 (fun o17 hl2 h1 => ?_)
  refine QH (X1 a0 o6) (fun s2 => ⟨[(2, .v (.one (.ptr 0 0))), (4, .v (.one (.ptr 2 0))), (49, .v (.one (WJ a0))), (50, .v (.one (WL (a0.length : Int)))), (51, .v (.one (WL s2.1)))], [(0, .cells 72 [WK, .d (.v (.map none))]), (1, .mp (QL o6.1) o6.2), (2, .cells 72 [WN 3 s2.2, .mp 1])], [(3, some ⟨54, 1, (Enc.encL s2.2).length, []⟩)], 4, 88, []⟩) (0, ([] : List (List Int))) o17 (Qf (Wi rfl (Wi rfl (Wi rfl (Wi rfl (Wi rfl Wh))))) (WD rfl (WD rfl (WD rfl WC))) (Wz rfl Wy) rfl (Nat.le_trans hv1 (Wx rfl)) rfl rfl rfl (WU rfl rfl (WS rfl (WU rfl rfl WR))) rfl rfl) hl2 (fun s2 n2 oo2 h2 ho2 => ?_)
  unfold X1 at h2
  refine Q2 <| Q0 <| Wm rfl rfl rfl (Q8 rfl rfl rfl) <| Q3 <| Q1 <| Q2 ?_
  refine Qe (b := (decide (s2.1 < (a0.length : Int)))) rfl (fun c18 => ?_) (fun c18 => ?_)
  replace h2 := Qq c18 h2
  refine Qi <| Q1 <| Q2 <| Qc <| Q2 <| Q0 ?_
  refine Qb h2 (fun x19 hx19 h2 => ?_)
  refine Wm rfl rfl rfl (Qm (α := Dcl) Jo rfl (.d _) rfl hx19) <| Wm rfl rfl rfl (QK (x19 : Dcl) Jg rfl) <| Qa rfl rfl (Wx rfl) (Qp ZU rfl) <| QJ rfl rfl (J6 (x19 : Dcl) Jg rfl rfl rfl rfl rfl) <| Q3 <| Q1 <| Q2 <| Q0 <| Wo rfl rfl rfl <| Q3 <| Q1 <| Q2 <| Q2 <| Q0 ?_
  refine Wm rfl rfl rfl (JA (x19 : Dcl) Jg rfl rfl) ?_
  refine Qb h2 (fun x20 hx20 h2 => ?_)
  refine Qa rfl rfl (Wx rfl) (Qn (GC x19 x20 hx20) rfl (.cons (.agg (.cons (.d _) (.cons (.d _) (.cons (.d _) (.cons (.d _) (.cons (.d _) (.cons (.d _) (.cons (.d _) (.cons (.d _) (.cons (.d _) (.cons (.d _) (.cons (.d _) (.cons (.d _) (.cons (.d _) (.cons (.d _) (.cons (.d _) (.cons (.d _) (.cons (.d _) (.cons (.d _) (.cons (.d _) (.cons (.d _) (.cons (.d _) (.cons (.d _) (.cons (.d _) .nil)))))))))))))))))))))))) .nil)) <| Wm rfl rfl rfl (QC (α := U3) J1 rfl (.d _)) <| Wn rfl rfl rfl <| Q3 <| Q1 <| Qc ?_
  refine QI 6 (fun (o21 : (List Int)) => ⟨[(2, .v (.one (.ptr 0 0))), (4, .v (.one (.ptr 2 0))), (13, .v (.one (.apv 5 1 ((Enc.encL o21).length) []))), (49, .v (.one (WJ a0))), (50, .v (.one (WL (a0.length : Int)))), (51, .v (.one (WL s2.1)))], [(0, .cells 72 [WK, .d (.v (.map none))]), (1, .mp (QL o6.1) o6.2), (2, .cells 72 [WN 3 s2.2, .mp 1]), (4, .cells 48 (WO x19))], [(3, some ⟨54, 1, (Enc.encL s2.2).length, []⟩), (5, some ⟨3, 1, (Enc.encL o21).length, (Enc.encL o21).flatten⟩)], 6, 88, []⟩) (fun (o21 : (List Int)) => (Option.bind (Zf o21) fun (x22 : List Int) =>
    Option.bind (JS x22 ((Enc.encL o21).length)) fun (x23 : List Int) =>
    Qy (Nat.ble (s2.2.length + ([x23]).length) 1000000000)
    (some (.next ((QZ (s2.1 + 1)), (s2.2 ++ ([x23])))))) = some oo2) ?_ ?_
  refine JW (t := 13) 3 1 rfl <| Kd (α := Int) (t := 13) rfl rfl ?_
  refine Qb h2 (fun o22 hl3 h2 => ?_)
  refine QH (m15_l2 x20 o6) (fun s3 => ⟨[(2, .v (.one (.ptr 0 0))), (4, .v (.one (.ptr 2 0))), (13, .v (.one (.apv 5 1 ((Enc.encL s3.1).length) []))), (49, .v (.one (WJ a0))), (50, .v (.one (WL (a0.length : Int)))), (51, .v (.one (WL s2.1))), (56, .v (.one (WJ x20))), (57, .v (.one (WL (x20.length : Int)))), (58, .v (.one (WL s3.2)))], [(0, .cells 72 [WK, .d (.v (.map none))]), (1, .mp (QL o6.1) o6.2), (2, .cells 72 [WN 3 s2.2, .mp 1]), (4, .cells 48 (WO x19))], [(3, some ⟨54, 1, (Enc.encL s2.2).length, []⟩), (5, some ⟨3, 1, (Enc.encL s3.1).length, (Enc.encL s3.1).flatten⟩)], 6, 88, []⟩) (([] : List Int), 0) o22 (Qf (Wi rfl (Wi rfl (Wi rfl (Wi rfl (Wi rfl (Wi rfl (Wi rfl (Wi rfl (Wi rfl Wh))))))))) (WD rfl (WD rfl (WD rfl (WD rfl WC)))) (Wz rfl (Wz rfl Wy)) rfl (Nat.le_trans hv1 (Wx rfl)) rfl rfl rfl (WU rfl rfl (WS rfl (WU rfl rfl (WU rfl rfl WR)))) rfl rfl) hl3 (fun s3 n3 oo3 h3 ho3 => ?_)
  unfold m15_l2 at h3
  refine Q2 <| Q0 <| Wm rfl rfl rfl (Q8 rfl rfl rfl) <| Q3 <| Q1 <| Q2 ?_
  refine Qe (b := (decide (s3.2 < (x20.length : Int)))) rfl (fun c23 => ?_) (fun c23 => ?_)
  replace h3 := Qq c23 h3
  refine Qi <| Q1 <| Q2 <| Qc <| Q2 <| Q0 ?_
  refine Qb h3 (fun x24 hx24 h3 => ?_)
  refine Wm rfl rfl rfl (Qm (α := U3) J1 rfl (.d _) rfl hx24) <| Wm rfl rfl rfl (QN JT rfl rfl) <| Wo rfl rfl rfl <| Q3 <| Q1 <| Q2 <| Q0 <| Wm rfl rfl rfl (Q6 JM rfl) <| Wm rfl rfl rfl (Q7 YD rfl rfl rfl) <| Wn rfl rfl rfl <| Wm rfl rfl rfl (Js (M := o6) (k := x24) YC Yg rfl rfl rfl) <| Wn rfl rfl rfl <| Wm rfl rfl rfl (Qg rfl rfl) <| Wm rfl rfl rfl (Qg rfl rfl) ?_
  refine Wo rfl rfl rfl <| Wo rfl rfl rfl <| Q3 <| Q1 <| Q2 <| Q2 <| Q0 <| Wn rfl rfl rfl <| Wm rfl rfl rfl (J9 rfl) <| Q3 <| Q1 ?_
  refine Qe (b := (!(Jt o6 x24))) rfl (fun c25 => ?_) (fun c25 => ?_)
  replace h3 := Qq c25 h3
  refine Q2 <| Q0 <| Wm rfl rfl rfl (Y5 Z5 rfl ) <| QJ rfl rfl (Ql J8 rfl rfl rfl rfl (Wx rfl) rfl) <| Wo rfl rfl rfl <| Q3 <| Q1 <| Qz ?_
  have e := Wk h3; subst e
  have e_ : _ = _ := ho3
  subst e_
  try dsimp only [Sum.elim_inl, Sum.elim_inr] at h2
  have e := Wk h2; subst e
  have e_ : _ = _ := ho2
  subst e_
  try dsimp only [Sum.elim_inl, Sum.elim_inr] at h1
  have e := Wk h1; subst e
  exact hQ1 _ _ _ (.inr rfl) rfl (show StLe _ _ ⟨[(2, .v (.one (.ptr 0 0))), (3, .v (.one (WL 9)))], [(0, .cells 72 [WK, .d (.v (.map none))])], [], 6, 88, []⟩ from (Qf (Wi rfl (Wi rfl Wh)) (WD rfl WC) Wy rfl (Nat.le_trans hv1 (Wx rfl)) rfl rfl rfl (WU rfl rfl WR) rfl rfl))
  replace h3 := Qr c25 h3
  refine Qi <| Q1 <| Q0 <| Wn rfl rfl rfl <| Wn rfl rfl rfl <| Qa rfl rfl (Wx rfl) (J3 (α := Int) ((Je o6 x24)) JU XE rfl rfl (Wx rfl) (Wx rfl) rfl rfl (.cons (.d _) .nil) rfl) ?_
  refine QS h3 (fun g26 h3 => ?_)
  refine Qa rfl rfl (Wx rfl) (Yv (α := Int) (l := s3.1) (l2 := ([(Je o6 x24)] : List Int)) JU Xn rfl rfl rfl rfl (.app _ _) rfl g26) <| Wo rfl rfl rfl <| Q3 <| Qj <| Q1 <| Q0 <| Wm rfl rfl rfl (Q8 rfl rfl rfl) <| Wn rfl rfl rfl <| Q3 ?_
  have e := Wk h3; subst e
  refine QD ((s3.1 ++ ([(Je o6 x24)])), (QZ (s3.2 + 1))) (Qf (Wi rfl (Wi rfl (Wi rfl (Wi rfl (Wi rfl (Wi rfl (Wi rfl (Wi rfl (Wi rfl Wh))))))))) (WD rfl (WD rfl (WD rfl (WD rfl WC)))) (Wz rfl (Wz rfl Wy)) rfl (Nat.le_trans hv1 (Wx rfl)) rfl rfl rfl (WU rfl rfl (WS rfl (WU rfl rfl (WU rfl rfl WR)))) rfl rfl) ho3
  replace h3 := Qr c23 h3
  refine QM <| Qd <| Qd ?_
  have e := Wk h3; subst e
  have e_ : _ = _ := ho3
  subst e_
  exact QG s3.1 (Qf (Wi rfl (Wi rfl (Wi rfl (Wi rfl (Wi rfl (Wi rfl Wh)))))) (WD rfl (WD rfl (WD rfl (WD rfl WC)))) (Wz rfl (Wz rfl Wy)) rfl (Nat.le_trans hv1 (Wx rfl)) rfl rfl rfl (WU rfl rfl (WS rfl (WU rfl rfl (WU rfl rfl WR)))) rfl rfl) h2
  intro o21 h2
  refine QB <| Q1 <| Q2 <| Q0 <| Wn rfl rfl rfl ?_
  refine Qb h2 (fun x27 hx27 h2 => ?_)
  refine Qa rfl rfl (Wx rfl) (J2 (hp1' := []) (tk1' := [(5, some ⟨3, 1, (Enc.encL o21).length, (Enc.encL x27).flatten⟩)]) (hpF := [(0, .cells 72 [WK, .d (.v (.map none))]), (1, .mp (QL o6.1) o6.2), (2, .cells 72 [WN 3 s2.2, .mp 1]), (4, .cells 48 (WO x19))]) (tkF := [(3, some ⟨54, 1, (Enc.encL s2.2).length, []⟩)]) (res2 := QA []) (nx2 := 6) [5] rfl rfl (K2 o21 x27 hx27) rfl rfl Wp rfl rfl WF (WB rfl WA) (WD rfl (WD rfl (WD rfl (WD rfl WC)))) (Wz rfl Wy) rfl rfl rfl rfl rfl WR rfl rfl rfl rfl) <| Q3 <| Q1 ?_
  refine JG [3, 5, 7] [(0, 1), (1, 1)] mixed (by kernel_rfl) (by kernel_rfl) (by kernel_rfl) ?_
  refine RunA.rd rfl rfl rfl (Q4 (Q6 JC rfl)) rfl <| RunA.rd rfl rfl rfl (Q4 (Q7 Y1 rfl rfl rfl)) rfl <| RunA.rd rfl rfl rfl (Q4 (QQ rfl)) rfl ?_
  refine Qb h2 (fun x28 hx28 h2 => ?_)
  refine RunA.eff rfl rfl rfl (J2 (hp1' := []) (tk1' := [(6, some ⟨3, 1, (Enc.encL x28).length, []⟩)]) (hpF := [(0, .cells 72 [WK, .d (.v (.map none))]), (1, .mp (QL o6.1) o6.2), (2, .cells 72 [WN 3 s2.2, .mp 1]), (4, .cells 48 (WO x19))]) (tkF := [(3, some ⟨54, 1, (Enc.encL s2.2).length, []⟩)]) (res2 := QA [.one (WN 6 x28)]) (nx2 := 7) [5] rfl rfl (YP x27 ((Enc.encL o21).length) x28 hx28) rfl rfl Wp rfl rfl WF (WB rfl WA) (WD rfl (WD rfl (WD rfl (WD rfl WC)))) (Wz rfl Wy) rfl rfl rfl rfl rfl WR rfl rfl rfl rfl) rfl <| RunA.rd rfl rfl rfl (Y3 (α := List Int) (x28) Y7 Xr rfl rfl (Wx rfl) rfl rfl (.cons (.app _ _ _) .nil) rfl) rfl ?_
  refine QS h2 (fun g29 h2 => ?_)
  refine RunA.eff rfl rfl rfl (QW (α := List Int) Y7 X7 rfl rfl rfl rfl rfl (.d _) g29) rfl <| RunA.rd rfl rfl rfl (Q4 (Q6 JC rfl)) rfl <| RunA.eff rfl rfl rfl (Ql Y1 rfl rfl rfl rfl (Wx rfl) rfl) rfl ?_
  refine RunA.nil ⟨?ex, _, _, rfl, ?_⟩
  case ex => exact ⟨⟨_, rfl, _, _, rfl, rfl, rfl, .inl ⟨rfl, _, Q4 (Q6 JC rfl), rfl⟩⟩, ⟨_, rfl, _, _, rfl, rfl, rfl, .inl ⟨rfl, _, Q4 (Q7 Y1 rfl rfl rfl), rfl⟩⟩, trivial⟩
  refine JK (st' := ⟨[(2, .v (.one (.ptr 0 0))), (4, .v (.one (.ptr 2 0))), (49, .v (.one (WJ a0))), (50, .v (.one (WL (a0.length : Int)))), (51, .v (.one (WL s2.1)))], [(0, .cells 72 [WK, .d (.v (.map none))]), (1, .mp (QL o6.1) o6.2), (2, .cells 72 [WN 3 ((s2.2 ++ ([x28])) : List (List Int)), .mp 1]), (4, .cells 48 (WO x19))], [(3, some ⟨54, 1, (Enc.encL ((s2.2 ++ ([x28])) : List (List Int))).length, []⟩), (6, some ⟨3, 1, (Enc.encL x28).length, []⟩)], 7, 88, []⟩) (Qf (Wi rfl (Wi rfl (Wi rfl (Wi rfl (Wi rfl Wh))))) (WD rfl (WD rfl (WD rfl (WD rfl WC)))) (Wz rfl (Wz rfl Wy)) rfl (Nat.le_trans hv1 (Wx rfl)) rfl rfl rfl (WU rfl rfl (WS rfl (WU rfl rfl (WU rfl rfl WR)))) rfl rfl) <| Qj <| Q1 <| Q0 <| Wm rfl rfl rfl (Q8 rfl rfl rfl) <| Wn rfl rfl rfl <| Q3 ?_
  have e := Wk h2; subst e
  refine QD ((QZ (s2.1 + 1)), (s2.2 ++ ([x28]))) (Qf (Wi rfl (Wi rfl (Wi rfl (Wi rfl (Wi rfl Wh))))) (WD rfl (WD rfl (WD rfl WC))) (Wz rfl Wy) rfl (Nat.le_trans hv1 (Wx rfl)) rfl rfl rfl (WU rfl rfl (WS rfl (WU rfl rfl WR))) rfl rfl) ho2
  replace h2 := Qr c18 h2
  refine QM <| Qd <| Qd ?_
  have e := Wk h2; subst e
  have e_ : _ = _ := ho2
  subst e_
  exact QG s2.2 (Qf (Wi rfl (Wi rfl Wh)) (WD rfl (WD rfl (WD rfl WC))) (Wz rfl Wy) rfl (Nat.le_trans hv1 (Wx rfl)) rfl rfl rfl (WU rfl rfl (WS rfl (WU rfl rfl WR))) rfl rfl) h1
  intro o16 h1
  refine QB <| Q1 <| Q2 <| Q0 <| Wm rfl rfl rfl (Qu J8 rfl rfl rfl rfl) <| QJ rfl rfl (Ql J8 rfl rfl rfl rfl (Wx rfl) rfl) <| Wo rfl rfl rfl <| Q3 <| Q1 <| Qz ?_
  have e := Wk h1; subst e
  exact hQ1 _ _ _ (.inr rfl) rfl (show StLe _ _ ⟨[(2, .v (.one (.ptr 0 0))), (3, .v (.one (WL 0)))], [(0, .cells 72 [WN 3 o16, .mp 1]), (1, .mp (QL o6.1) o6.2)], [(3, some ⟨54, 1, (Enc.encL o16).length, []⟩)], 4, 88, []⟩ from (Qf (Wi rfl (Wi rfl Wh)) (WD rfl (WD rfl WC)) (Wz rfl Wy) rfl (Nat.le_trans hv1 (Wx rfl)) rfl rfl rfl (WU rfl rfl (WS rfl WR)) rfl rfl))
 refine KN (C := fun q_ => CallM Try.prog 34 [.one (WJ a0)] ⟨[], [], 0⟩ (QA (((Sum.elim (fun (y1 : (List (List Int)) × (Qh U3 Int)) => ([.agg [WN 3 y1.1, .mp 1], .one (WL 0)] : List AV)) (Sum.elim (fun (y2 : Unit) => ([.agg [WK, .d (.v (.map none))], .one (WL 8)] : List AV)) (fun (y3 : Unit) => ([.agg [WK, .d (.v (.map none))], .one (WL 9)] : List AV))))) q_)) ⟨(((Sum.elim (fun (y1 : (List (List Int)) × (Qh U3 Int)) => (⟨[(2, .v (.one (.ptr 0 0))), (3, .v (.one (WL 0)))], [(0, .cells 72 [WN 3 y1.1, .mp 1]), (1, .mp (QL y1.2.1) y1.2.2)], [(3, some ⟨54, 1, (Enc.encL y1.1).length, []⟩)], 4, 88, []⟩ : St)) (Sum.elim (fun (y2 : Unit) => (⟨[(2, .v (.one (.ptr 0 0))), (3, .v (.one (WL 8)))], [(0, .cells 72 [WK, .d (.v (.map none))])], [], 4, 88, []⟩ : St)) (fun (y3 : Unit) => (⟨[(2, .v (.one (.ptr 0 0))), (3, .v (.one (WL 9)))], [(0, .cells 72 [WK, .d (.v (.map none))])], [], 6, 88, []⟩ : St))))) q_).hp, (((Sum.elim (fun (y1 : (List (List Int)) × (Qh U3 Int)) => (⟨[(2, .v (.one (.ptr 0 0))), (3, .v (.one (WL 0)))], [(0, .cells 72 [WN 3 y1.1, .mp 1]), (1, .mp (QL y1.2.1) y1.2.2)], [(3, some ⟨54, 1, (Enc.encL y1.1).length, []⟩)], 4, 88, []⟩ : St)) (Sum.elim (fun (y2 : Unit) => (⟨[(2, .v (.one (.ptr 0 0))), (3, .v (.one (WL 8)))], [(0, .cells 72 [WK, .d (.v (.map none))])], [], 4, 88, []⟩ : St)) (fun (y3 : Unit) => (⟨[(2, .v (.one (.ptr 0 0))), (3, .v (.one (WL 9)))], [(0, .cells 72 [WK, .d (.v (.map none))])], [], 6, 88, []⟩ : St))))) q_).tk, (((Sum.elim (fun (y1 : (List (List Int)) × (Qh U3 Int)) => (⟨[(2, .v (.one (.ptr 0 0))), (3, .v (.one (WL 0)))], [(0, .cells 72 [WN 3 y1.1, .mp 1]), (1, .mp (QL y1.2.1) y1.2.2)], [(3, some ⟨54, 1, (Enc.encL y1.1).length, []⟩)], 4, 88, []⟩ : St)) (Sum.elim (fun (y2 : Unit) => (⟨[(2, .v (.one (.ptr 0 0))), (3, .v (.one (WL 8)))], [(0, .cells 72 [WK, .d (.v (.map none))])], [], 4, 88, []⟩ : St)) (fun (y3 : Unit) => (⟨[(2, .v (.one (.ptr 0 0))), (3, .v (.one (WL 9)))], [(0, .cells 72 [WK, .d (.v (.map none))])], [], 6, 88, []⟩ : St))))) q_).nx⟩) hc4 h0 (fun y1 hc4 h0 => ?_) (fun z_ hc4 h0 => KN (C := fun q_ => CallM Try.prog 34 [.one (WJ a0)] ⟨[], [], 0⟩ (QA (((Sum.elim (fun (y1 : (List (List Int)) × (Qh U3 Int)) => ([.agg [WN 3 y1.1, .mp 1], .one (WL 0)] : List AV)) (Sum.elim (fun (y2 : Unit) => ([.agg [WK, .d (.v (.map none))], .one (WL 8)] : List AV)) (fun (y3 : Unit) => ([.agg [WK, .d (.v (.map none))], .one (WL 9)] : List AV))))) (.inr q_))) ⟨(((Sum.elim (fun (y1 : (List (List Int)) × (Qh U3 Int)) => (⟨[(2, .v (.one (.ptr 0 0))), (3, .v (.one (WL 0)))], [(0, .cells 72 [WN 3 y1.1, .mp 1]), (1, .mp (QL y1.2.1) y1.2.2)], [(3, some ⟨54, 1, (Enc.encL y1.1).length, []⟩)], 4, 88, []⟩ : St)) (Sum.elim (fun (y2 : Unit) => (⟨[(2, .v (.one (.ptr 0 0))), (3, .v (.one (WL 8)))], [(0, .cells 72 [WK, .d (.v (.map none))])], [], 4, 88, []⟩ : St)) (fun (y3 : Unit) => (⟨[(2, .v (.one (.ptr 0 0))), (3, .v (.one (WL 9)))], [(0, .cells 72 [WK, .d (.v (.map none))])], [], 6, 88, []⟩ : St))))) (.inr q_)).hp, (((Sum.elim (fun (y1 : (List (List Int)) × (Qh U3 Int)) => (⟨[(2, .v (.one (.ptr 0 0))), (3, .v (.one (WL 0)))], [(0, .cells 72 [WN 3 y1.1, .mp 1]), (1, .mp (QL y1.2.1) y1.2.2)], [(3, some ⟨54, 1, (Enc.encL y1.1).length, []⟩)], 4, 88, []⟩ : St)) (Sum.elim (fun (y2 : Unit) => (⟨[(2, .v (.one (.ptr 0 0))), (3, .v (.one (WL 8)))], [(0, .cells 72 [WK, .d (.v (.map none))])], [], 4, 88, []⟩ : St)) (fun (y3 : Unit) => (⟨[(2, .v (.one (.ptr 0 0))), (3, .v (.one (WL 9)))], [(0, .cells 72 [WK, .d (.v (.map none))])], [], 6, 88, []⟩ : St))))) (.inr q_)).tk, (((Sum.elim (fun (y1 : (List (List Int)) × (Qh U3 Int)) => (⟨[(2, .v (.one (.ptr 0 0))), (3, .v (.one (WL 0)))], [(0, .cells 72 [WN 3 y1.1, .mp 1]), (1, .mp (QL y1.2.1) y1.2.2)], [(3, some ⟨54, 1, (Enc.encL y1.1).length, []⟩)], 4, 88, []⟩ : St)) (Sum.elim (fun (y2 : Unit) => (⟨[(2, .v (.one (.ptr 0 0))), (3, .v (.one (WL 8)))], [(0, .cells 72 [WK, .d (.v (.map none))])], [], 4, 88, []⟩ : St)) (fun (y3 : Unit) => (⟨[(2, .v (.one (.ptr 0 0))), (3, .v (.one (WL 9)))], [(0, .cells 72 [WK, .d (.v (.map none))])], [], 6, 88, []⟩ : St))))) (.inr q_)).nx⟩) hc4 h0 (fun y2 hc4 h0 => ?_) (fun y3 hc4 h0 => ?_))
 replace hc4 : CallM Try.prog 34 [.one (WJ a0)] ⟨[], [], 0⟩ (QA [.agg [WN 3 y1.1, .mp 1], .one (WL 0)]) ⟨[(0, .cells 72 [WN 3 y1.1, .mp 1]), (1, .mp (QL y1.2.1) y1.2.2)], [(3, some ⟨54, 1, (Enc.encL y1.1).length, []⟩)], 4⟩ := hc4
 refine Qa rfl rfl (Wx rfl) (QT rfl rfl rfl hc4 rfl WC Wy) <| Wn rfl rfl rfl <| Wm rfl rfl rfl (Qg rfl rfl) <| Wm rfl rfl rfl (Qg rfl rfl) <| Qa rfl rfl (Wx rfl) (Qp YT rfl) <| QJ rfl rfl (Ql J8 rfl rfl rfl rfl (Wx rfl) rfl) <| Wo rfl rfl rfl <| Q3 <| Q1 <| Q2 <| Q2 <| Q0 <| Wn rfl rfl rfl <| Wm rfl rfl rfl (Q8 rfl rfl rfl) ?_
 refine Q3 <| Q1 ?_
 refine Qe rfl (fun h => nomatch h) (fun _ => ?_)
 refine Qi <| Q1 <| Q2 <| Q0 <| Wm rfl rfl rfl (Qu J8 rfl rfl rfl rfl) <| Wm rfl rfl rfl (Q6 JC rfl) <| Wm rfl rfl rfl (Q7 Y1 rfl rfl rfl) <| Wn rfl rfl rfl ?_
 refine Qb h0 (fun y33 h1 h0 => ?_)
 have hc32 : CallM Try.prog 35 [.agg [WN 3 y1.1, .mp 1], .one (WN 3 y1.1), .one (WJ a1)] ⟨[(0, .cells 72 [WN 3 y1.1, .mp 1]), (1, .mp (QL y1.2.1) y1.2.2), (4, .cells 72 [WN 3 y1.1, .mp 1])], [(3, some ⟨54, 1, (Enc.encL y1.1).length, []⟩)], 5⟩ (QA (((Sum.elim (fun (y30 : Unit) => ([.one (WK), .one (WL 9)] : List AV)) (fun (y31 : (List Bool)) => ([.one (.osl 7 0 ((y1.1.length : Int).toNat) ((y1.1.length : Int).toNat)), .one (WL 0)] : List AV)))) y33)) ⟨(((Sum.elim (fun (y30 : Unit) => (⟨[(6, .v (.one (WK))), (7, .v (.one (WL 9)))], [(0, .cells 72 [WN 3 y1.1, .mp 1]), (1, .mp (QL y1.2.1) y1.2.2), (4, .cells 72 [WN 3 y1.1, .mp 1])], [(3, some ⟨54, 1, (Enc.encL y1.1).length, []⟩)], 10, 38, []⟩ : St)) (fun (y31 : (List Bool)) => (⟨[(6, .v (.one (.osl 7 0 ((y1.1.length : Int).toNat) ((y1.1.length : Int).toNat)))), (7, .v (.one (WL 0)))], [(0, .cells 72 [WN 3 y1.1, .mp 1]), (1, .mp (QL y1.2.1) y1.2.2), (4, .cells 72 [WN 3 y1.1, .mp 1]), (7, .cells 4 (Q9 y31))], [(3, some ⟨54, 1, (Enc.encL y1.1).length, []⟩)], 10, 38, []⟩ : St)))) y33).hp, (((Sum.elim (fun (y30 : Unit) => (⟨[(6, .v (.one (WK))), (7, .v (.one (WL 9)))], [(0, .cells 72 [WN 3 y1.1, .mp 1]), (1, .mp (QL y1.2.1) y1.2.2), (4, .cells 72 [WN 3 y1.1, .mp 1])], [(3, some ⟨54, 1, (Enc.encL y1.1).length, []⟩)], 10, 38, []⟩ : St)) (fun (y31 : (List Bool)) => (⟨[(6, .v (.one (.osl 7 0 ((y1.1.length : Int).toNat) ((y1.1.length : Int).toNat)))), (7, .v (.one (WL 0)))], [(0, .cells 72 [WN 3 y1.1, .mp 1]), (1, .mp (QL y1.2.1) y1.2.2), (4, .cells 72 [WN 3 y1.1, .mp 1]), (7, .cells 4 (Q9 y31))], [(3, some ⟨54, 1, (Enc.encL y1.1).length, []⟩)], 10, 38, []⟩ : St)))) y33).tk, (((Sum.elim (fun (y30 : Unit) => (⟨[(6, .v (.one (WK))), (7, .v (.one (WL 9)))], [(0, .cells 72 [WN 3 y1.1, .mp 1]), (1, .mp (QL y1.2.1) y1.2.2), (4, .cells 72 [WN 3 y1.1, .mp 1])], [(3, some ⟨54, 1, (Enc.encL y1.1).length, []⟩)], 10, 38, []⟩ : St)) (fun (y31 : (List Bool)) => (⟨[(6, .v (.one (.osl 7 0 ((y1.1.length : Int).toNat) ((y1.1.length : Int).toNat)))), (7, .v (.one (WL 0)))], [(0, .cells 72 [WN 3 y1.1, .mp 1]), (1, .mp (QL y1.2.1) y1.2.2), (4, .cells 72 [WN 3 y1.1, .mp 1]), (7, .cells 4 (Q9 y31))], [(3, some ⟨54, 1, (Enc.encL y1.1).length, []⟩)], 10, 38, []⟩ : St)))) y33).nx⟩ := by
  refine JE y33 ((Sum.elim (fun (y30 : Unit) => (⟨[(6, .v (.one (WK))), (7, .v (.one (WL 9)))], [(0, .cells 72 [WN 3 y1.1, .mp 1]), (1, .mp (QL y1.2.1) y1.2.2), (4, .cells 72 [WN 3 y1.1, .mp 1])], [(3, some ⟨54, 1, (Enc.encL y1.1).length, []⟩)], 10, 38, []⟩ : St)) (fun (y31 : (List Bool)) => (⟨[(6, .v (.one (.osl 7 0 ((y1.1.length : Int).toNat) ((y1.1.length : Int).toNat)))), (7, .v (.one (WL 0)))], [(0, .cells 72 [WN 3 y1.1, .mp 1]), (1, .mp (QL y1.2.1) y1.2.2), (4, .cells 72 [WN 3 y1.1, .mp 1]), (7, .cells 4 (Q9 y31))], [(3, some ⟨54, 1, (Enc.encL y1.1).length, []⟩)], 10, 38, []⟩ : St)))) ((Sum.elim (fun (y30 : Unit) => ([.one (WK), .one (WL 9)] : List AV)) (fun (y31 : (List Bool)) => ([.one (.osl 7 0 ((y1.1.length : Int).toNat) ((y1.1.length : Int).toNat)), .one (WL 0)] : List AV)))) rfl rfl en_35 (Wx rfl) (fun z_ => by cases z_ <;> rfl) (fun z_ => by cases z_ with
    | inl _ => exact (Qo rfl (Qo rfl .nil))
    | inr _ => exact (Qo rfl (Qo rfl .nil))) (fun w0 M V0 Q hv1 hQ1 => ?_)
  simp only [Jb]
  refine Q2 <| Q0 <| Qa rfl rfl (Wx rfl) (Jc rfl) <| Qa rfl rfl (Wx rfl) (Jc rfl) <| Wo rfl rfl rfl <| Wo rfl rfl rfl <| Q3 <| Q1 <| Q2 <| Q0 <| Wm rfl rfl rfl (Q7 Y1 rfl rfl rfl) <| Wm rfl rfl rfl (QC (α := List Int) Y7 rfl (.app _ _)) ?_
  refine QS h1 (fun g34 h1 => ?_)
  refine Qa rfl rfl (Wx rfl) (ZP (α := Bool) (z := false) Zo Wb rfl rfl XV rfl rfl g34 rfl (by repeat (first | exact CLs.nil | refine CLs.cons (by first | exact .refl _ | exact .sub (.app _ _ _) | exact .sub (.nil _)) ?_))) ?_
  refine Qa rfl rfl (Wx rfl) (Qp XD rfl) <| QJ rfl rfl (Ql Zp rfl rfl rfl rfl (Wx rfl) rfl) <| Q3 <| Q1 <| Q2 <| Q0 <| Qa rfl rfl (Wx rfl) (Qp z_106 rfl) <| Q3 <| Q1 <| Q2 <| Q0 <| Wm rfl rfl rfl (Z1 rfl rfl rfl) <| QJ rfl rfl (Ql ZZ rfl rfl rfl rfl (Wx rfl) rfl) <| Q3 ?_
  refine Q1 <| Q2 <| Q2 <| Q0 <| Wn rfl rfl rfl <| Wm rfl rfl rfl (QC (α := U3) J1 rfl (.d _)) <| Wn rfl rfl rfl <| Q3 <| Q1 <| Qc ?_
  refine QI 0 (fun (o35 : (List Bool)) => ⟨[(8, .v (.one (.ptr 8 0)))], [(0, .cells 72 [WN 3 y1.1, .mp 1]), (1, .mp (QL y1.2.1) y1.2.2), (4, .cells 72 [WN 3 y1.1, .mp 1]), (5, .cells 72 [WN 3 y1.1, .mp 1]), (6, .cells 57 [WN 3 y1.1]), (7, .cells 4 (Q9 o35)), (8, .cells 75 [.osl 7 0 ((y1.1.length : Int).toNat) ((y1.1.length : Int).toNat)]), (9, .cells 106 [.fn 56 [(8, 0), (6, 0), (9, 0)]])], [(3, some ⟨54, 1, (Enc.encL y1.1).length, []⟩)], 10, 38, []⟩) (fun (o35 : (List Bool)) => (some (.inr o35)) = some y33) ?_ ?_
  refine Qb h1 (fun o36 hl2 h1 => ?_)
  refine QH (X0 a1 y1) (fun s2 => ⟨[(3, .v (.one (.ptr 5 0))), (8, .v (.one (.ptr 8 0))), (9, .v (.one (.ptr 9 0))), (18, .v (.one (WJ a1))), (19, .v (.one (WL (a1.length : Int)))), (20, .v (.one (WL s2.1)))], [(0, .cells 72 [WN 3 y1.1, .mp 1]), (1, .mp (QL y1.2.1) y1.2.2), (4, .cells 72 [WN 3 y1.1, .mp 1]), (5, .cells 72 [WN 3 y1.1, .mp 1]), (6, .cells 57 [WN 3 y1.1]), (7, .cells 4 (Q9 s2.2)), (8, .cells 75 [.osl 7 0 ((y1.1.length : Int).toNat) ((y1.1.length : Int).toNat)]), (9, .cells 106 [.fn 56 [(8, 0), (6, 0), (9, 0)]])], [(3, some ⟨54, 1, (Enc.encL y1.1).length, []⟩)], 10, 38, []⟩) (0, (List.replicate (y1.1.length : Int).toNat false)) o36 (Qf (Wi rfl (Wi rfl (Wi rfl (Wi rfl (Wi rfl (Wi rfl Wh)))))) (WD rfl (WD rfl (WD rfl (WD rfl (WD rfl (WD rfl (WD rfl (WD rfl WC)))))))) (Wz rfl Wy) rfl (Nat.le_trans hv1 (Wx rfl)) rfl rfl rfl (WU rfl rfl (WS rfl (WU rfl rfl (WU rfl rfl (WU rfl rfl (WT rfl (WU rfl rfl (WU rfl rfl WR)))))))) rfl rfl) hl2 (fun s2 n2 oo2 h2 ho2 => ?_)
  unfold X0 at h2
  refine Q2 <| Q0 <| Wm rfl rfl rfl (Q8 rfl rfl rfl) <| Q3 <| Q1 <| Q2 ?_
  refine Qe (b := (decide (s2.1 < (a1.length : Int)))) rfl (fun c37 => ?_) (fun c37 => ?_)
  replace h2 := Qq c37 h2
  refine Qi <| Q1 <| Q2 <| Qc <| Q2 <| Q0 ?_
  refine Qb h2 (fun x38 hx38 h2 => ?_)
  refine Wm rfl rfl rfl (Qm (α := U3) J1 rfl (.d _) rfl hx38) <| Wm rfl rfl rfl (QN JT rfl rfl) <| Wo rfl rfl rfl <| Q3 <| Q1 <| Q2 <| Q0 <| Wm rfl rfl rfl (Q6 JM rfl) <| Wm rfl rfl rfl (Q7 YD rfl rfl rfl) <| Wn rfl rfl rfl <| Wm rfl rfl rfl (Js (M := y1.2) (k := x38) YC Yg rfl rfl rfl) <| Wn rfl rfl rfl <| Wm rfl rfl rfl (Qg rfl rfl) <| Wm rfl rfl rfl (Qg rfl rfl) ?_
  refine Wo rfl rfl rfl <| Wo rfl rfl rfl <| Q3 <| Q1 <| Q2 <| Q2 <| Q0 <| Wn rfl rfl rfl <| Wm rfl rfl rfl (J9 rfl) <| Q3 <| Q1 ?_
  refine Qe (b := (!(Jt y1.2 x38))) rfl (fun c39 => ?_) (fun c39 => ?_)
  replace h2 := Qq c39 h2
  refine Q2 <| Q0 <| Wo rfl rfl rfl <| Wo rfl rfl rfl <| Q3 <| Q1 <| Qz ?_
  have e := Wk h2; subst e
  have e_ : _ = _ := ho2
  subst e_
  try dsimp only [Sum.elim_inl, Sum.elim_inr] at h1
  have e := Wk h1; subst e
  exact hQ1 _ _ _ (.inr rfl) rfl (show StLe _ _ ⟨[(6, .v (.one (WK))), (7, .v (.one (WL 9)))], [(0, .cells 72 [WN 3 y1.1, .mp 1]), (1, .mp (QL y1.2.1) y1.2.2), (4, .cells 72 [WN 3 y1.1, .mp 1])], [(3, some ⟨54, 1, (Enc.encL y1.1).length, []⟩)], 10, 38, []⟩ from (Qf (Wi rfl (Wi rfl Wh)) (WD rfl (WD rfl (WD rfl WC))) (Wz rfl Wy) rfl (Nat.le_trans hv1 (Wx rfl)) rfl rfl rfl (WU rfl rfl (WS rfl (WU rfl rfl WR))) rfl rfl))
  replace h2 := Qr c39 h2
  refine Qi <| Q1 <| Q0 <| Wm rfl rfl rfl (Q7 ZZ rfl rfl rfl) <| Wn rfl rfl rfl ?_
  refine Qb h2 (fun x40 hx40 h2 => ?_)
  refine Qa rfl rfl (Wx rfl) (J2 (hp1' := [(8, .cells 75 [.osl 7 0 ((y1.1.length : Int).toNat) ((y1.1.length : Int).toNat)]), (7, .cells 4 (Q9 x40)), (6, .cells 57 [WN 3 y1.1]), (9, .cells 106 [.fn 56 [(8, 0), (6, 0), (9, 0)]])]) (tk1' := [(3, some ⟨54, 1, (Enc.encL y1.1).length, []⟩)]) (hpF := [(0, .cells 72 [WN 3 y1.1, .mp 1]), (1, .mp (QL y1.2.1) y1.2.2), (4, .cells 72 [WN 3 y1.1, .mp 1]), (5, .cells 72 [WN 3 y1.1, .mp 1])]) (tkF := []) (res2 := QA []) (nx2 := 10) [8, 7, 6, 3, 9] rfl rfl (m56f11_ok (Je y1.2 x38) ((y1.1.length : Int).toNat) s2.2 y1.1 x40 hx40) rfl rfl (Ws rfl rfl (Wr rfl (Ws rfl rfl (Ws rfl rfl Wp)))) rfl rfl (WG rfl (WI rfl (WG rfl (WG rfl WF)))) (WB rfl WA) (WD rfl (WD rfl (WD rfl (WD rfl WC)))) Wy rfl rfl rfl rfl rfl (WU rfl rfl (WT rfl (WU rfl rfl (WU rfl rfl WR)))) rfl rfl rfl rfl) <| Q3 <| Qj <| Q1 <| Q0 <| Wm rfl rfl rfl (Q8 rfl rfl rfl) <| Wn rfl rfl rfl <| Q3 ?_
  have e := Wk h2; subst e
  refine QD ((QZ (s2.1 + 1)), x40) (Qf (Wi rfl (Wi rfl (Wi rfl (Wi rfl (Wi rfl (Wi rfl Wh)))))) (WD rfl (WD rfl (WD rfl (WD rfl (WD rfl (WD rfl (WD rfl (WD rfl WC)))))))) (Wz rfl Wy) rfl (Nat.le_trans hv1 (Wx rfl)) rfl rfl rfl (WU rfl rfl (WS rfl (WU rfl rfl (WU rfl rfl (WU rfl rfl (WT rfl (WU rfl rfl (WU rfl rfl WR)))))))) rfl rfl) ho2
  replace h2 := Qr c37 h2
  refine QM <| Qd <| Qd ?_
  have e := Wk h2; subst e
  have e_ : _ = _ := ho2
  subst e_
  exact QG s2.2 (Qf (Wi rfl Wh) (WD rfl (WD rfl (WD rfl (WD rfl (WD rfl (WD rfl (WD rfl (WD rfl WC)))))))) (Wz rfl Wy) rfl (Nat.le_trans hv1 (Wx rfl)) rfl rfl rfl (WU rfl rfl (WS rfl (WU rfl rfl (WU rfl rfl (WU rfl rfl (WT rfl (WU rfl rfl (WU rfl rfl WR)))))))) rfl rfl) h1
  intro o35 h1
  refine QB <| Q1 <| Q2 <| Q0 <| Wm rfl rfl rfl (Q7 Zp rfl rfl rfl) <| Wo rfl rfl rfl <| Wo rfl rfl rfl <| Q3 <| Q1 <| Qz ?_
  have e := Wk h1; subst e
  exact hQ1 _ _ _ (.inr rfl) rfl (show StLe _ _ ⟨[(6, .v (.one (.osl 7 0 ((y1.1.length : Int).toNat) ((y1.1.length : Int).toNat)))), (7, .v (.one (WL 0)))], [(0, .cells 72 [WN 3 y1.1, .mp 1]), (1, .mp (QL y1.2.1) y1.2.2), (4, .cells 72 [WN 3 y1.1, .mp 1]), (7, .cells 4 (Q9 o35))], [(3, some ⟨54, 1, (Enc.encL y1.1).length, []⟩)], 10, 38, []⟩ from (Qf (Wi rfl (Wi rfl Wh)) (WD rfl (WD rfl (WD rfl (WD rfl WC)))) (Wz rfl Wy) rfl (Nat.le_trans hv1 (Wx rfl)) rfl rfl rfl (WU rfl rfl (WS rfl (WU rfl rfl (WT rfl WR)))) rfl rfl))
 refine KN (C := fun q_ => CallM Try.prog 35 [.agg [WN 3 y1.1, .mp 1], .one (WN 3 y1.1), .one (WJ a1)] ⟨[(0, .cells 72 [WN 3 y1.1, .mp 1]), (1, .mp (QL y1.2.1) y1.2.2), (4, .cells 72 [WN 3 y1.1, .mp 1])], [(3, some ⟨54, 1, (Enc.encL y1.1).length, []⟩)], 5⟩ (QA (((Sum.elim (fun (y30 : Unit) => ([.one (WK), .one (WL 9)] : List AV)) (fun (y31 : (List Bool)) => ([.one (.osl 7 0 ((y1.1.length : Int).toNat) ((y1.1.length : Int).toNat)), .one (WL 0)] : List AV)))) q_)) ⟨(((Sum.elim (fun (y30 : Unit) => (⟨[(6, .v (.one (WK))), (7, .v (.one (WL 9)))], [(0, .cells 72 [WN 3 y1.1, .mp 1]), (1, .mp (QL y1.2.1) y1.2.2), (4, .cells 72 [WN 3 y1.1, .mp 1])], [(3, some ⟨54, 1, (Enc.encL y1.1).length, []⟩)], 10, 38, []⟩ : St)) (fun (y31 : (List Bool)) => (⟨[(6, .v (.one (.osl 7 0 ((y1.1.length : Int).toNat) ((y1.1.length : Int).toNat)))), (7, .v (.one (WL 0)))], [(0, .cells 72 [WN 3 y1.1, .mp 1]), (1, .mp (QL y1.2.1) y1.2.2), (4, .cells 72 [WN 3 y1.1, .mp 1]), (7, .cells 4 (Q9 y31))], [(3, some ⟨54, 1, (Enc.encL y1.1).length, []⟩)], 10, 38, []⟩ : St)))) q_).hp, (((Sum.elim (fun (y30 : Unit) => (⟨[(6, .v (.one (WK))), (7, .v (.one (WL 9)))], [(0, .cells 72 [WN 3 y1.1, .mp 1]), (1, .mp (QL y1.2.1) y1.2.2), (4, .cells 72 [WN 3 y1.1, .mp 1])], [(3, some ⟨54, 1, (Enc.encL y1.1).length, []⟩)], 10, 38, []⟩ : St)) (fun (y31 : (List Bool)) => (⟨[(6, .v (.one (.osl 7 0 ((y1.1.length : Int).toNat) ((y1.1.length : Int).toNat)))), (7, .v (.one (WL 0)))], [(0, .cells 72 [WN 3 y1.1, .mp 1]), (1, .mp (QL y1.2.1) y1.2.2), (4, .cells 72 [WN 3 y1.1, .mp 1]), (7, .cells 4 (Q9 y31))], [(3, some ⟨54, 1, (Enc.encL y1.1).length, []⟩)], 10, 38, []⟩ : St)))) q_).tk, (((Sum.elim (fun (y30 : Unit) => (⟨[(6, .v (.one (WK))), (7, .v (.one (WL 9)))], [(0, .cells 72 [WN 3 y1.1, .mp 1]), (1, .mp (QL y1.2.1) y1.2.2), (4, .cells 72 [WN 3 y1.1, .mp 1])], [(3, some ⟨54, 1, (Enc.encL y1.1).length, []⟩)], 10, 38, []⟩ : St)) (fun (y31 : (List Bool)) => (⟨[(6, .v (.one (.osl 7 0 ((y1.1.length : Int).toNat) ((y1.1.length : Int).toNat)))), (7, .v (.one (WL 0)))], [(0, .cells 72 [WN 3 y1.1, .mp 1]), (1, .mp (QL y1.2.1) y1.2.2), (4, .cells 72 [WN 3 y1.1, .mp 1]), (7, .cells 4 (Q9 y31))], [(3, some ⟨54, 1, (Enc.encL y1.1).length, []⟩)], 10, 38, []⟩ : St)))) q_).nx⟩) hc32 h0 (fun y30 hc32 h0 => ?_) (fun y31 hc32 h0 => ?_)
 replace hc32 : CallM Try.prog 35 [.agg [WN 3 y1.1, .mp 1], .one (WN 3 y1.1), .one (WJ a1)] ⟨[(0, .cells 72 [WN 3 y1.1, .mp 1]), (1, .mp (QL y1.2.1) y1.2.2), (4, .cells 72 [WN 3 y1.1, .mp 1])], [(3, some ⟨54, 1, (Enc.encL y1.1).length, []⟩)], 5⟩ (QA [.one (WK), .one (WL 9)]) ⟨[(0, .cells 72 [WN 3 y1.1, .mp 1]), (1, .mp (QL y1.2.1) y1.2.2), (4, .cells 72 [WN 3 y1.1, .mp 1])], [(3, some ⟨54, 1, (Enc.encL y1.1).length, []⟩)], 10⟩ := hc32
 refine Qa rfl rfl (Wx rfl) (QT rfl rfl rfl hc32 rfl (WD rfl (WD rfl (WD rfl WC))) (Wz rfl Wy)) <| Wn rfl rfl rfl <| Wm rfl rfl rfl (Qg rfl rfl) <| Wm rfl rfl rfl (Qg rfl rfl) <| Wo rfl rfl rfl <| Wo rfl rfl rfl <| Q3 <| Q1 <| Q2 <| Q2 <| Q0 <| Wn rfl rfl rfl <| Wm rfl rfl rfl (Q8 rfl rfl rfl) <| Q3 ?_
 refine Q1 ?_
 refine Qe rfl (fun _ => ?_) (fun h => nomatch h)
 refine Q2 <| Q0 <| Wn rfl rfl rfl <| Wo rfl rfl rfl <| Wo rfl rfl rfl <| Q3 <| Q1 <| Qz ?_
 have e := Wk h0; subst e
 exact QO (fun _ _ h => h) rfl (Qo rfl (Qo rfl .nil)) (.cons (.one (.nil _)) (.cons (.one (.d _)) .nil))
 replace hc32 : CallM Try.prog 35 [.agg [WN 3 y1.1, .mp 1], .one (WN 3 y1.1), .one (WJ a1)] ⟨[(0, .cells 72 [WN 3 y1.1, .mp 1]), (1, .mp (QL y1.2.1) y1.2.2), (4, .cells 72 [WN 3 y1.1, .mp 1])], [(3, some ⟨54, 1, (Enc.encL y1.1).length, []⟩)], 5⟩ (QA [.one (.osl 7 0 ((y1.1.length : Int).toNat) ((y1.1.length : Int).toNat)), .one (WL 0)]) ⟨[(0, .cells 72 [WN 3 y1.1, .mp 1]), (1, .mp (QL y1.2.1) y1.2.2), (4, .cells 72 [WN 3 y1.1, .mp 1]), (7, .cells 4 (Q9 y31))], [(3, some ⟨54, 1, (Enc.encL y1.1).length, []⟩)], 10⟩ := hc32
 refine Qa rfl rfl (Wx rfl) (QT rfl rfl rfl hc32 rfl (WD rfl (WD rfl (WD rfl WC))) (Wz rfl Wy)) <| Wn rfl rfl rfl <| Wm rfl rfl rfl (Qg rfl rfl) <| Wm rfl rfl rfl (Qg rfl rfl) <| Wo rfl rfl rfl <| Wo rfl rfl rfl <| Q3 <| Q1 <| Q2 <| Q2 <| Q0 <| Wn rfl rfl rfl <| Wm rfl rfl rfl (Q8 rfl rfl rfl) <| Q3 ?_
 refine Q1 ?_
 refine Qe rfl (fun h => nomatch h) (fun _ => ?_)
 refine Qi <| Q1 <| Q2 <| Q0 <| Wo rfl rfl rfl <| Q3 <| Q1 <| Q2 <| Q2 <| Q0 <| Wn rfl rfl rfl <| Wm rfl rfl rfl (QC (α := Dcl) Jo rfl (.d _)) <| Wn rfl rfl rfl <| Q3 ?_
 refine Q1 <| Qc ?_
 refine QI 0 (fun (o41 : (List Dcl)) => ⟨[(9, .v (.one (WN 10 o41)))], [(0, .cells 72 [WN 3 y1.1, .mp 1]), (1, .mp (QL y1.2.1) y1.2.2), (4, .cells 72 [WN 3 y1.1, .mp 1]), (7, .cells 4 (Q9 y31))], [(3, some ⟨54, 1, (Enc.encL y1.1).length, []⟩), (10, some ⟨48, 23, (Enc.encL o41).length, []⟩)], 11, 48, []⟩) (fun (o41 : (List Dcl)) => (some (o41, 0)) = some r) ?_ ?_
 refine JW (t := 9) 48 23 rfl ?_
 refine Qb h0 (fun o42 hl1 h0 => ?_)
 refine QH (GG a0 y31 y1) (fun s1 => ⟨[(8, .v (.one (.osl 7 0 ((y1.1.length : Int).toNat) ((y1.1.length : Int).toNat)))), (9, .v (.one (WN 10 s1.1))), (31, .v (.one (WJ a0))), (32, .v (.one (WL (a0.length : Int)))), (33, .v (.one (WL s1.2)))], [(0, .cells 72 [WN 3 y1.1, .mp 1]), (1, .mp (QL y1.2.1) y1.2.2), (4, .cells 72 [WN 3 y1.1, .mp 1]), (7, .cells 4 (Q9 y31))], [(3, some ⟨54, 1, (Enc.encL y1.1).length, []⟩), (10, some ⟨48, 23, (Enc.encL s1.1).length, []⟩)], 11, 48, []⟩) (([] : List Dcl), 0) o42 (Qf (Wi rfl (Wi rfl (Wi rfl (Wi rfl (Wi rfl Wh))))) (WD rfl (WD rfl (WD rfl (WD rfl WC)))) (Wz rfl (Wz rfl Wy)) rfl (Nat.zero_le _) rfl rfl rfl (WU rfl rfl (WS rfl (WU rfl rfl (WT rfl WR)))) rfl rfl) hl1 (fun s1 n1 oo1 h1 ho1 => ?_)
 unfold GG at h1
 refine Q2 <| Q0 <| Wm rfl rfl rfl (Q8 rfl rfl rfl) <| Q3 <| Q1 <| Q2 ?_
 refine Qe (b := (decide (s1.2 < (a0.length : Int)))) rfl (fun c43 => ?_) (fun c43 => ?_)
 replace h1 := Qq c43 h1
 refine Qi <| Q1 <| Q2 <| Qc <| Q2 <| Q0 <| Wn rfl rfl rfl ?_
 refine Qb h1 (fun x44 hx44 h1 => ?_)
 refine Wm rfl rfl rfl (Qm (α := Dcl) Jo rfl (.d _) rfl hx44) <| Wm rfl rfl rfl (QK (x44 : Dcl) Jg rfl) <| Qa rfl rfl (Wx rfl) (Qp ZU rfl) <| Wo rfl rfl rfl <| QJ rfl rfl (J6 (x44 : Dcl) Jg rfl rfl rfl rfl rfl) <| Q3 <| Q1 <| Q2 <| Q0 <| Wn rfl rfl rfl <| Wn rfl rfl rfl ?_
 refine Qb h1 (fun x45 hx45 h1 => ?_)
 refine QS h1 (fun g46 h1 => ?_)
 refine Wm rfl rfl rfl (Jp (α := Bool) Zo rfl rfl hx45 g46) <| Wm rfl rfl rfl (YS (α := Bool) (m := s1.2) (f := 0) Gt rfl rfl hx45 rfl) <| Q3 <| Q1 ?_
 refine Qe (b := x45) rfl (fun c47 => ?_) (fun c47 => ?_)
 replace h1 := Qq c47 h1
 refine Q0 <| Wn rfl rfl rfl <| Wm rfl rfl rfl (JA (x44 : Dcl) Jg rfl rfl) <| Qa rfl rfl (Wx rfl) (OpOK.lit1CE (x44 : Dcl) Jo ZU rfl rfl (Wx rfl) rfl) ?_
 refine QS h1 (fun g48 h1 => ?_)
 refine Qa rfl rfl (Wx rfl) (QW (α := Dcl) Jo el_48 rfl rfl rfl rfl rfl (.app _ _) g48) <| Wo rfl rfl rfl <| Q3 <| Qj <| Q1 <| Q0 <| Wm rfl rfl rfl (Q8 rfl rfl rfl) <| Wn rfl rfl rfl <| Q3 ?_
 have e := Wk h1; subst e
 refine QD ((s1.1 ++ ([x44])), (QZ (s1.2 + 1))) (Qf (Wi rfl (Wi rfl (Wi rfl (Wi rfl (Wi rfl Wh))))) (WD rfl (WD rfl (WD rfl (WD rfl WC)))) (Wz rfl (Wz rfl Wy)) rfl (Nat.zero_le _) rfl rfl rfl (WU rfl rfl (WS rfl (WU rfl rfl (WT rfl WR)))) rfl rfl) ho1
 replace h1 := Qr c47 h1
 refine Qi <| Qj <| Q1 <| Q0 <| Wm rfl rfl rfl (Q8 rfl rfl rfl) <| Wn rfl rfl rfl <| Q3 ?_
 have e := Wk h1; subst e
 refine QD (s1.1, (QZ (s1.2 + 1))) (Qf (Wi rfl (Wi rfl (Wi rfl (Wi rfl (Wi rfl Wh))))) (WD rfl (WD rfl (WD rfl (WD rfl WC)))) (Wz rfl (Wz rfl Wy)) rfl (Nat.zero_le _) rfl rfl rfl (WU rfl rfl (WS rfl (WU rfl rfl (WT rfl WR)))) rfl rfl) ho1
 replace h1 := Qr c43 h1
 refine QM <| Qd <| Qd ?_
 have e := Wk h1; subst e
 have e_ : _ = _ := ho1
 subst e_
 exact QG s1.1 (Qf (Wi rfl Wh) (WD rfl (WD rfl (WD rfl (WD rfl WC)))) (Wz rfl (Wz rfl Wy)) rfl (Nat.zero_le _) rfl rfl rfl (WU rfl rfl (WS rfl (WU rfl rfl (WT rfl WR)))) rfl rfl) h0
 intro o41 h0
 refine QB <| Q1 <| Q2 <| Q0 <| Wn rfl rfl rfl <| Wo rfl rfl rfl <| Wo rfl rfl rfl <| Q3 <| Q1 <| Qz ?_
 have e := Wk h0; subst e
 exact QO (fun _ _ h => h) rfl (Qo rfl (Qo rfl .nil)) (.cons (.one (.app _ _ _)) (.cons (.one (.d _)) .nil))
 replace hc4 : CallM Try.prog 34 [.one (WJ a0)] ⟨[], [], 0⟩ (QA [.agg [WK, .d (.v (.map none))], .one (WL 8)]) ⟨[(0, .cells 72 [WK, .d (.v (.map none))])], [], 4⟩ := hc4
 refine Qa rfl rfl (Wx rfl) (QT rfl rfl rfl hc4 rfl WC Wy) <| Wn rfl rfl rfl <| Wm rfl rfl rfl (Qg rfl rfl) <| Wm rfl rfl rfl (Qg rfl rfl) <| Qa rfl rfl (Wx rfl) (Qp YT rfl) <| QJ rfl rfl (Ql J8 rfl rfl rfl rfl (Wx rfl) rfl) <| Wo rfl rfl rfl <| Q3 <| Q1 <| Q2 <| Q2 <| Q0 <| Wn rfl rfl rfl <| Wm rfl rfl rfl (Q8 rfl rfl rfl) ?_
 refine Q3 <| Q1 ?_
 refine Qe rfl (fun _ => ?_) (fun h => nomatch h)
 refine Q2 <| Q0 <| Wn rfl rfl rfl <| Wo rfl rfl rfl <| Wo rfl rfl rfl <| Q3 <| Q1 <| Qz ?_
 have e := Wk h0; subst e
 exact QO (fun _ _ h => h) rfl (Qo rfl (Qo rfl .nil)) (.cons (.one (.nil _)) (.cons (.one (.d _)) .nil))
 replace hc4 : CallM Try.prog 34 [.one (WJ a0)] ⟨[], [], 0⟩ (QA [.agg [WK, .d (.v (.map none))], .one (WL 9)]) ⟨[(0, .cells 72 [WK, .d (.v (.map none))])], [], 6⟩ := hc4
 refine Qa rfl rfl (Wx rfl) (QT rfl rfl rfl hc4 rfl WC Wy) <| Wn rfl rfl rfl <| Wm rfl rfl rfl (Qg rfl rfl) <| Wm rfl rfl rfl (Qg rfl rfl) <| Qa rfl rfl (Wx rfl) (Qp YT rfl) <| QJ rfl rfl (Ql J8 rfl rfl rfl rfl (Wx rfl) rfl) <| Wo rfl rfl rfl <| Q3 <| Q1 <| Q2 <| Q2 <| Q0 <| Wn rfl rfl rfl <| Wm rfl rfl rfl (Q8 rfl rfl rfl) ?_
 refine Q3 <| Q1 ?_
 refine Qe rfl (fun _ => ?_) (fun h => nomatch h)
 refine Q2 <| Q0 <| Wn rfl rfl rfl <| Wo rfl rfl rfl <| Wo rfl rfl rfl <| Q3 <| Q1 <| Qz ?_
 have e := Wk h0; subst e
 exact QO (fun _ _ h => h) rfl (Qo rfl (Qo rfl .nil)) (.cons (.one (.nil _)) (.cons (.one (.d _)) .nil))
end Go.Proofs.Ytijcchddnnnmdaa
namespace Go.Proofs.Ytijcchddnnnmdaa
open Go.RowKit Go.Shelf
set_option linter.unusedSimpArgs false
set_option linter.unusedVariables false
def m15o_l0 (x10 : (List U3)) (s2 : Int × (Qh U3 Int)) (s3 : Int × (Qh U3 Int)) : Option (LO (Int × (Qh U3 Int)) (((Qh U3 Int)) ⊕ (((List (List Int)) × (Qh U3 Int)) ⊕ Unit ⊕ Unit))) :=
 cond (decide (s3.1 < (x10.length : Int)))
   (Option.bind (Ja x10 s3.1) fun (x13 : U3) =>
 cond (Jt s3.2 x13)
   (some (.done (.inr (.inr (.inl ())))))
   (some (.next ((QZ (s3.1 + 1)), (JY s3.2 x13 s2.1)))))
   (some (.done (.inl s3.2)))
def m15o_l1 (nn : Nat) (a0 : List Dcl) (s2 : Int × (Qh U3 Int)) : Option (LO (Int × (Qh U3 Int)) (((Qh U3 Int)) ⊕ (((List (List Int)) × (Qh U3 Int)) ⊕ Unit ⊕ Unit))) :=
 cond (decide (s2.1 < ((nn : Nat) : Int)))
   (Option.bind (Ja a0 s2.1) fun (x8 : Dcl) =>
 Qy (Nat.beq a0.length nn)
 (Option.bind (Xt x8) fun (x10 : (List U3)) =>
 Option.bind (Qw (m15o_l0 x10 s2) QF (0, s2.2)) (Sum.elim (fun (o11 : (Qh U3 Int)) => some (.next ((QZ (s2.1 + 1)), o11))) (fun o => some (.done (.inr o))))))
   (some (.done (.inl s2.2)))
def m15o_l2 (x11 : (List U3)) (o6 : (Qh U3 Int)) (s3 : (List Int) × Int) : Option (LO ((List Int) × Int) (((List Int)) ⊕ (((List (List Int)) × (Qh U3 Int)) ⊕ Unit ⊕ Unit))) :=
 cond (decide (s3.2 < (x11.length : Int)))
   (Option.bind (Ja x11 s3.2) fun (x14 : U3) =>
 cond (!(Jt o6 x14))
   (some (.done (.inr (.inr (.inr ())))))
   (Qy (Nat.ble (s3.1.length + ([(Je o6 x14)]).length) 1000000000)
 (some (.next ((s3.1 ++ ([(Je o6 x14)])), (QZ (s3.2 + 1)))))))
   (some (.done (.inl s3.1)))
def m15o_l3 (nn : Nat) (a0 : List Dcl) (o6 : (Qh U3 Int)) (s2 : Int × (List (List Int))) : Option (LO (Int × (List (List Int))) (((List (List Int))) ⊕ (((List (List Int)) × (Qh U3 Int)) ⊕ Unit ⊕ Unit))) :=
 cond (decide (s2.1 < ((nn : Nat) : Int)))
   (Option.bind (Ja a0 s2.1) fun (x9 : Dcl) =>
 Qy (Nat.beq a0.length nn)
 (Option.bind (XA x9) fun (x11 : (List U3)) =>
 Option.bind (Qw (m15o_l2 x11 o6) QF (([] : List Int), 0)) (Sum.elim (fun (o12 : (List Int)) => Option.bind (Zf o12) fun (x13 : List Int) =>
 Option.bind (JS x13 ((Enc.encL o12).length)) fun (x14 : List Int) =>
 Qy (Nat.ble (s2.2.length + ([x14]).length) 1000000000)
 (some (.next ((QZ (s2.1 + 1)), (s2.2 ++ ([x14])))))) (fun o => some (.done (.inr o))))))
   (some (.done (.inl s2.2)))
def m15o_l4 (a1 : List U3) (y1 : (List (List Int)) × (Qh U3 Int)) (s2 : Int × (List Bool)) : Option (LO (Int × (List Bool)) (((List Bool)) ⊕ (Unit ⊕ ((List Bool))))) :=
 cond (decide (s2.1 < (a1.length : Int)))
   (Option.bind (Ja a1 s2.1) fun (x39 : U3) =>
 cond (!(Jt y1.2 x39))
   (some (.done (.inr (.inl ()))))
   (Option.bind (GY (Je y1.2 x39) ((y1.1.length : Int).toNat) s2.2 y1.1) fun (x41 : (List Bool)) =>
 some (.next ((QZ (s2.1 + 1)), x41))))
   (some (.done (.inl s2.2)))
def m15o_l5 (nn : Nat) (a0 : List Dcl) (y33 : (List Bool)) (y1 : (List (List Int)) × (Qh U3 Int)) (s1 : (List Dcl) × Int) : Option (LO ((List Dcl) × Int) (((List Dcl)))) :=
 cond (decide (s1.2 < ((nn : Nat) : Int)))
   (Option.bind (Ja a0 s1.2) fun (x45 : Dcl) =>
 Qy (Nat.beq a0.length nn)
 (Option.bind (Ja y33 s1.2) fun (x47 : Bool) =>
 Qy (Nat.beq y33.length ((y1.1.length : Int).toNat))
 (cond x47
   (Qy (Nat.ble (s1.1.length + ([x45]).length) 1000000000)
 (some (.next ((s1.1 ++ ([x45])), (QZ (s1.2 + 1))))))
   (some (.next (s1.1, (QZ (s1.2 + 1))))))))
   (some (.done s1.1))
def m15o (a0 : List Dcl) (a1 : List U3) (nn : Nat) : Option ((List Dcl) × Int) :=
 Option.bind (Option.bind (Qw (m15o_l1 nn a0) QF (0, gmNil)) (Sum.elim (fun (o6 : (Qh U3 Int)) => Option.bind (Qw (m15o_l3 nn a0 o6) QF (0, ([] : List (List Int)))) (Sum.elim (fun (o7 : (List (List Int))) => some (.inl (o7, o6))) (fun o => some o))) (fun o => some o))) (Sum.elim (fun (y1 : (List (List Int)) × (Qh U3 Int)) => Option.bind (Qy (cond (decide (0 ≤ (y1.1.length : Int))) (Nat.ble (1 * (y1.1.length : Int).toNat) 281474976710656) false)
 (Option.bind (Qw (m15o_l4 a1 y1) QF (0, (List.replicate (y1.1.length : Int).toNat false))) (Sum.elim (fun (o37 : (List Bool)) => some (.inr o37)) (fun o => some o)))) (Sum.elim (fun (y32 : Unit) => some (([] : List Dcl), 9)) (fun (y33 : (List Bool)) => Option.bind (Qw (m15o_l5 nn a0 y33 y1) QF (([] : List Dcl), 0)) (fun (o43 : (List Dcl)) => some (o43, 0))))) (Sum.elim (fun (y2 : Unit) => some (([] : List Dcl), 8)) (fun (y3 : Unit) => some (([] : List Dcl), 9))))
set_option maxRecDepth 100000 in
set_option maxHeartbeats 2000000 in
theorem m15o_ok (a0 : List Dcl) (a1 : List U3) (nn : Nat) (r : (List Dcl) × Int) (h0 : m15o a0 a1 nn = some r) : CallM Try.prog 15 [.one (.osl 0 0 nn nn), .one (WJ a1)] ⟨[(0, .cells 48 (Q9 a0))], [], 1⟩ (QA [.one (WJ r.1), .one (WL r.2)]) ⟨[(0, .cells 48 (Q9 a0))], [], 6⟩ := by
 unfold m15o at h0
 refine QR ⟨[(4, .v (.one (WJ r.1))), (5, .v (.one (WL r.2)))], [(0, .cells 48 (Q9 a0))], [], 6, 48, []⟩ rfl rfl en_15 (Wx rfl) rfl (Qo rfl (Qo rfl .nil)) (fun w0 M V0 Q hv0 hQ0 => ?_)
 simp only [Jb]
 refine Q2 <| Q0 <| Wo rfl rfl rfl <| Wo rfl rfl rfl <| Q3 <| Q1 <| Q2 <| Q0 <| Wn rfl rfl rfl ?_
 refine Qb h0 (fun y5 h1 h0 => ?_)
 have hc4 : CallM Try.prog 34 [.one (.osl 0 0 nn nn)] ⟨[(0, .cells 48 (Q9 a0))], [], 1⟩ (QA (((Sum.elim (fun (y1 : (List (List Int)) × (Qh U3 Int)) => ([.agg [WN 4 y1.1, .mp 2], .one (WL 0)] : List AV)) (Sum.elim (fun (y2 : Unit) => ([.agg [WK, .d (.v (.map none))], .one (WL 8)] : List AV)) (fun (y3 : Unit) => ([.agg [WK, .d (.v (.map none))], .one (WL 9)] : List AV))))) y5)) ⟨(((Sum.elim (fun (y1 : (List (List Int)) × (Qh U3 Int)) => (⟨[(2, .v (.one (.ptr 1 0))), (3, .v (.one (WL 0)))], [(0, .cells 48 (Q9 a0)), (1, .cells 72 [WN 4 y1.1, .mp 2]), (2, .mp (QL y1.2.1) y1.2.2)], [(4, some ⟨54, 1, (Enc.encL y1.1).length, []⟩)], 5, 88, []⟩ : St)) (Sum.elim (fun (y2 : Unit) => (⟨[(2, .v (.one (.ptr 1 0))), (3, .v (.one (WL 8)))], [(0, .cells 48 (Q9 a0)), (1, .cells 72 [WK, .d (.v (.map none))])], [], 5, 88, []⟩ : St)) (fun (y3 : Unit) => (⟨[(2, .v (.one (.ptr 1 0))), (3, .v (.one (WL 9)))], [(0, .cells 48 (Q9 a0)), (1, .cells 72 [WK, .d (.v (.map none))])], [], 7, 88, []⟩ : St))))) y5).hp, (((Sum.elim (fun (y1 : (List (List Int)) × (Qh U3 Int)) => (⟨[(2, .v (.one (.ptr 1 0))), (3, .v (.one (WL 0)))], [(0, .cells 48 (Q9 a0)), (1, .cells 72 [WN 4 y1.1, .mp 2]), (2, .mp (QL y1.2.1) y1.2.2)], [(4, some ⟨54, 1, (Enc.encL y1.1).length, []⟩)], 5, 88, []⟩ : St)) (Sum.elim (fun (y2 : Unit) => (⟨[(2, .v (.one (.ptr 1 0))), (3, .v (.one (WL 8)))], [(0, .cells 48 (Q9 a0)), (1, .cells 72 [WK, .d (.v (.map none))])], [], 5, 88, []⟩ : St)) (fun (y3 : Unit) => (⟨[(2, .v (.one (.ptr 1 0))), (3, .v (.one (WL 9)))], [(0, .cells 48 (Q9 a0)), (1, .cells 72 [WK, .d (.v (.map none))])], [], 7, 88, []⟩ : St))))) y5).tk, (((Sum.elim (fun (y1 : (List (List Int)) × (Qh U3 Int)) => (⟨[(2, .v (.one (.ptr 1 0))), (3, .v (.one (WL 0)))], [(0, .cells 48 (Q9 a0)), (1, .cells 72 [WN 4 y1.1, .mp 2]), (2, .mp (QL y1.2.1) y1.2.2)], [(4, some ⟨54, 1, (Enc.encL y1.1).length, []⟩)], 5, 88, []⟩ : St)) (Sum.elim (fun (y2 : Unit) => (⟨[(2, .v (.one (.ptr 1 0))), (3, .v (.one (WL 8)))], [(0, .cells 48 (Q9 a0)), (1, .cells 72 [WK, .d (.v (.map none))])], [], 5, 88, []⟩ : St)) (fun (y3 : Unit) => (⟨[(2, .v (.one (.ptr 1 0))), (3, .v (.one (WL 9)))], [(0, .cells 48 (Q9 a0)), (1, .cells 72 [WK, .d (.v (.map none))])], [], 7, 88, []⟩ : St))))) y5).nx⟩ := by
  refine JE y5 ((Sum.elim (fun (y1 : (List (List Int)) × (Qh U3 Int)) => (⟨[(2, .v (.one (.ptr 1 0))), (3, .v (.one (WL 0)))], [(0, .cells 48 (Q9 a0)), (1, .cells 72 [WN 4 y1.1, .mp 2]), (2, .mp (QL y1.2.1) y1.2.2)], [(4, some ⟨54, 1, (Enc.encL y1.1).length, []⟩)], 5, 88, []⟩ : St)) (Sum.elim (fun (y2 : Unit) => (⟨[(2, .v (.one (.ptr 1 0))), (3, .v (.one (WL 8)))], [(0, .cells 48 (Q9 a0)), (1, .cells 72 [WK, .d (.v (.map none))])], [], 5, 88, []⟩ : St)) (fun (y3 : Unit) => (⟨[(2, .v (.one (.ptr 1 0))), (3, .v (.one (WL 9)))], [(0, .cells 48 (Q9 a0)), (1, .cells 72 [WK, .d (.v (.map none))])], [], 7, 88, []⟩ : St))))) ((Sum.elim (fun (y1 : (List (List Int)) × (Qh U3 Int)) => ([.agg [WN 4 y1.1, .mp 2], .one (WL 0)] : List AV)) (Sum.elim (fun (y2 : Unit) => ([.agg [WK, .d (.v (.map none))], .one (WL 8)] : List AV)) (fun (y3 : Unit) => ([.agg [WK, .d (.v (.map none))], .one (WL 9)] : List AV))))) rfl rfl Xf (Wx rfl) (fun z_ => by cases z_ with
    | inl _ => rfl
    | inr z_ => exact (by cases z_ <;> rfl)) (fun z_ => by cases z_ with
    | inl _ => exact (Y0 J8 rfl rfl rfl rfl (Qo rfl .nil))
    | inr z_ => exact (by cases z_ with
    | inl _ => exact (Y0 J8 rfl rfl rfl rfl (Qo rfl .nil))
    | inr _ => exact (Y0 J8 rfl rfl rfl rfl (Qo rfl .nil)))) (fun w0 M V0 Q hv1 hQ1 => ?_)
  simp only [Jb]
  refine Q2 <| Q0 <| Qa rfl rfl (Wx rfl) (Qp YT rfl) <| Wo rfl rfl rfl <| Q3 <| Q1 <| Q2 <| Q0 <| Qa rfl rfl (Wx rfl) (Y2 U3 Int) <| Wm rfl rfl rfl (Zc Z5 rfl rfl rfl) <| Qa rfl rfl (Wx rfl) (Qp YT rfl) <| QJ rfl rfl (Ql J8 rfl rfl rfl rfl (Wx rfl) rfl) <| Q3 <| Q1 ?_
  refine Q2 <| Q2 <| Q0 <| Wn rfl rfl rfl <| Wm rfl rfl rfl (Ya Jo rfl) <| Wn rfl rfl rfl <| Q3 <| Q1 <| Qc ?_
  refine QI 0 (fun (o6 : (Qh U3 Int)) => ⟨[(0, .v (.one (.osl 0 0 nn nn))), (2, .v (.one (.ptr 1 0))), (4, .v (.one (.ptr 3 0)))], [(0, .cells 48 (Q9 a0)), (1, .cells 72 [WK, .d (.v (.map none))]), (2, .mp (QL o6.1) o6.2), (3, .cells 72 [WK, .mp 2])], [], 4, 88, []⟩) (fun (o6 : (Qh U3 Int)) => (Option.bind (Qw (m15o_l3 nn a0 o6) QF (0, ([] : List (List Int)))) (Sum.elim (fun (o7 : (List (List Int))) => some (.inl (o7, o6))) (fun o => some o))) = some y5) ?_ ?_
  refine Qb h1 (fun o7 hl2 h1 => ?_)
  refine QH (m15o_l1 nn a0) (fun s2 => ⟨[(0, .v (.one (.osl 0 0 nn nn))), (2, .v (.one (.ptr 1 0))), (4, .v (.one (.ptr 3 0))), (20, .v (.one (.osl 0 0 nn nn))), (21, .v (.one (WL ((nn : Nat) : Int)))), (22, .v (.one (WL s2.1)))], [(0, .cells 48 (Q9 a0)), (1, .cells 72 [WK, .d (.v (.map none))]), (2, .mp (QL s2.2.1) s2.2.2), (3, .cells 72 [WK, .mp 2])], [], 4, 88, []⟩) (0, gmNil) o7 (Qf (Wi rfl (Wi rfl (Wi rfl (Wi rfl (Wi rfl (Wi rfl Wh)))))) (WD rfl (WD rfl (WD rfl (WD rfl WC)))) Wy rfl (Nat.le_trans hv1 (Wx rfl)) rfl rfl rfl (WT rfl (WU rfl rfl (WS rfl (WU rfl rfl WR)))) rfl rfl) hl2 (fun s2 n2 oo2 h2 ho2 => ?_)
  unfold m15o_l1 at h2
  refine Q2 <| Q0 <| Wm rfl rfl rfl (Q8 rfl rfl rfl) <| Q3 <| Q1 <| Q2 ?_
  refine Qe (b := (decide (s2.1 < ((nn : Nat) : Int)))) rfl (fun c8 => ?_) (fun c8 => ?_)
  replace h2 := Qq c8 h2
  refine Qi <| Q1 <| Q2 <| Qc <| Q2 <| Q0 <| Wn rfl rfl rfl ?_
  refine Qb h2 (fun x9 hx9 h2 => ?_)
  refine QS h2 (fun g10 h2 => ?_)
  refine Wm rfl rfl rfl (Jp (α := Dcl) Jo rfl rfl hx9 g10) <| Wm rfl rfl rfl (Yu (α := Dcl) (ys := [WL x9.kind, Z4 x9.name, WL x9.params, WL x9.ty.kind, WL x9.ty.index, Z4 x9.ty.name, WJ x9.ty.levels, WJ x9.ty.kids, WL x9.value.kind, WL x9.value.index, Z4 x9.value.name, WJ x9.value.levels, WJ x9.value.kids, WL x9.fixed, WJ x9.ctors, WL x9.rcr.params, WL x9.rcr.ty.kind, WL x9.rcr.ty.index, Z4 x9.rcr.ty.name, WJ x9.rcr.ty.levels, WJ x9.rcr.ty.kids, WJ x9.rcr.rules, WJ x9.funs]) Jg rfl rfl hx9 rfl) <| Qa rfl rfl (Wx rfl) (Qp ZU rfl) <| Wo rfl rfl rfl <| QJ rfl rfl (J6 (x9 : Dcl) Jg rfl rfl rfl rfl rfl) <| Q3 <| Q1 <| Q2 <| Q0 <| Wm rfl rfl rfl (JA (x9 : Dcl) Jg rfl rfl) ?_
  refine Qb h2 (fun x11 hx11 h2 => ?_)
  refine Qa rfl rfl (Wx rfl) (Qn (Ki x9 x11 hx11) rfl (.cons (.agg (.cons (.d _) (.cons (.d _) (.cons (.d _) (.cons (.d _) (.cons (.d _) (.cons (.d _) (.cons (.d _) (.cons (.d _) (.cons (.d _) (.cons (.d _) (.cons (.d _) (.cons (.d _) (.cons (.d _) (.cons (.d _) (.cons (.d _) (.cons (.d _) (.cons (.d _) (.cons (.d _) (.cons (.d _) (.cons (.d _) (.cons (.d _) (.cons (.d _) (.cons (.d _) .nil)))))))))))))))))))))))) .nil)) <| Wm rfl rfl rfl (QC (α := U3) J1 rfl (.d _)) <| Wn rfl rfl rfl <| Q3 <| Q1 <| Qc ?_
  refine QI 2 (fun (o12 : (Qh U3 Int)) => ⟨[(0, .v (.one (.osl 0 0 nn nn))), (2, .v (.one (.ptr 1 0))), (4, .v (.one (.ptr 3 0))), (20, .v (.one (.osl 0 0 nn nn))), (21, .v (.one (WL ((nn : Nat) : Int)))), (22, .v (.one (WL s2.1)))], [(0, .cells 48 (Q9 a0)), (1, .cells 72 [WK, .d (.v (.map none))]), (2, .mp (QL o12.1) o12.2), (3, .cells 72 [WK, .mp 2]), (4, .cells 48 (WO x9))], [], 5, 88, []⟩) (fun (o12 : (Qh U3 Int)) => (some (.next ((QZ (s2.1 + 1)), o12))) = some oo2) ?_ ?_
  refine Qb h2 (fun o13 hl3 h2 => ?_)
  refine QH (m15o_l0 x11 s2) (fun s3 => ⟨[(0, .v (.one (.osl 0 0 nn nn))), (2, .v (.one (.ptr 1 0))), (4, .v (.one (.ptr 3 0))), (5, .v (.one (WL s2.1))), (20, .v (.one (.osl 0 0 nn nn))), (21, .v (.one (WL ((nn : Nat) : Int)))), (22, .v (.one (WL s2.1))), (28, .v (.one (WJ x11))), (29, .v (.one (WL (x11.length : Int)))), (30, .v (.one (WL s3.1)))], [(0, .cells 48 (Q9 a0)), (1, .cells 72 [WK, .d (.v (.map none))]), (2, .mp (QL s3.2.1) s3.2.2), (3, .cells 72 [WK, .mp 2]), (4, .cells 48 (WO x9))], [], 5, 88, []⟩) (0, s2.2) o13 (Qf (Wi rfl (Wi rfl (Wi rfl (Wi rfl (Wi rfl (Wi rfl (Wi rfl (Wi rfl (Wi rfl (Wi rfl Wh)))))))))) (WD rfl (WD rfl (WD rfl (WD rfl (WD rfl WC))))) Wy rfl (Nat.le_trans hv1 (Wx rfl)) rfl rfl rfl (WT rfl (WU rfl rfl (WS rfl (WU rfl rfl (WU rfl rfl WR))))) rfl rfl) hl3 (fun s3 n3 oo3 h3 ho3 => ?_)
  unfold m15o_l0 at h3
  refine Q2 <| Q0 <| Wm rfl rfl rfl (Q8 rfl rfl rfl) <| Q3 <| Q1 <| Q2 ?_
  refine Qe (b := (decide (s3.1 < (x11.length : Int)))) rfl (fun c14 => ?_) (fun c14 => ?_)
  replace h3 := Qq c14 h3
  refine Qi <| Q1 <| Q2 <| Qc <| Q2 <| Q0 ?_
  refine Qb h3 (fun x15 hx15 h3 => ?_)
  refine Wm rfl rfl rfl (Qm (α := U3) J1 rfl (.d _) rfl hx15) <| Wm rfl rfl rfl (QN JT rfl rfl) <| Wo rfl rfl rfl <| Q3 <| Q1 <| Q2 <| Q2 <| Q0 <| Wm rfl rfl rfl (Q6 JM rfl) <| Wm rfl rfl rfl (Q7 YD rfl rfl rfl) <| Wn rfl rfl rfl <| Wm rfl rfl rfl (Js (M := s3.2) (k := x15) YC Yg rfl rfl rfl) <| Wn rfl rfl rfl <| Wm rfl rfl rfl (Qg rfl rfl) ?_
  refine Wm rfl rfl rfl (Qg rfl rfl) <| Wo rfl rfl rfl <| Wo rfl rfl rfl <| Q3 <| Q1 <| Q2 <| Q0 <| Wn rfl rfl rfl <| Q3 <| Q1 ?_
  refine Qe (b := (Jt s3.2 x15)) rfl (fun c16 => ?_) (fun c16 => ?_)
  replace h3 := Qq c16 h3
  refine Q2 <| Q0 <| Wm rfl rfl rfl (Y5 Z5 rfl ) <| QJ rfl rfl (Ql J8 rfl rfl rfl rfl (Wx rfl) rfl) <| Wo rfl rfl rfl <| Q3 <| Q1 <| Qz ?_
  have e := Wk h3; subst e
  have e_ : _ = _ := ho3
  subst e_
  try dsimp only [Sum.elim_inl, Sum.elim_inr] at h2
  have e := Wk h2; subst e
  have e_ : _ = _ := ho2
  subst e_
  try dsimp only [Sum.elim_inl, Sum.elim_inr] at h1
  have e := Wk h1; subst e
  exact hQ1 _ _ _ (.inr rfl) rfl (show StLe _ _ ⟨[(2, .v (.one (.ptr 1 0))), (3, .v (.one (WL 8)))], [(0, .cells 48 (Q9 a0)), (1, .cells 72 [WK, .d (.v (.map none))])], [], 5, 88, []⟩ from (Qf (Wi rfl (Wi rfl Wh)) (WD rfl (WD rfl WC)) Wy rfl (Nat.le_trans hv1 (Wx rfl)) rfl rfl rfl (WT rfl (WU rfl rfl WR)) rfl rfl))
  replace h3 := Qr c16 h3
  refine Qi <| Q1 <| Q0 <| Wm rfl rfl rfl (Q6 JM rfl) <| Wm rfl rfl rfl (Q7 YD rfl rfl rfl) <| Wn rfl rfl rfl <| Wn rfl rfl rfl <| QJ rfl rfl (JL (M := s3.2) (k := x15) (v := s2.1) YC rfl rfl rfl rfl rfl) <| Q3 <| Qj <| Q1 <| Q0 <| Wm rfl rfl rfl (Q8 rfl rfl rfl) <| Wn rfl rfl rfl ?_
  refine Q3 ?_
  have e := Wk h3; subst e
  refine QD ((QZ (s3.1 + 1)), (JY s3.2 x15 s2.1)) (Qf (Wi rfl (Wi rfl (Wi rfl (Wi rfl (Wi rfl (Wi rfl (Wi rfl (Wi rfl (Wi rfl (Wi rfl Wh)))))))))) (WD rfl (WD rfl (WD rfl (WD rfl (WD rfl WC))))) Wy rfl (Nat.le_trans hv1 (Wx rfl)) rfl rfl rfl (WT rfl (WU rfl rfl (WS rfl (WU rfl rfl (WU rfl rfl WR))))) rfl rfl) ho3
  replace h3 := Qr c14 h3
  refine QM <| Qd <| Qd ?_
  have e := Wk h3; subst e
  have e_ : _ = _ := ho3
  subst e_
  exact QG s3.2 (Qf (Wi rfl (Wi rfl (Wi rfl (Wi rfl (Wi rfl (Wi rfl Wh)))))) (WD rfl (WD rfl (WD rfl (WD rfl (WD rfl WC))))) Wy rfl (Nat.le_trans hv1 (Wx rfl)) rfl rfl rfl (WT rfl (WU rfl rfl (WS rfl (WU rfl rfl (WU rfl rfl WR))))) rfl rfl) h2
  intro o12 h2
  refine QB <| Qj <| Q1 <| Q0 <| Wm rfl rfl rfl (Q8 rfl rfl rfl) <| Wn rfl rfl rfl <| Q3 ?_
  have e := Wk h2; subst e
  refine QD ((QZ (s2.1 + 1)), o12) (Qf (Wi rfl (Wi rfl (Wi rfl (Wi rfl (Wi rfl (Wi rfl Wh)))))) (WD rfl (WD rfl (WD rfl (WD rfl WC)))) Wy rfl (Nat.le_trans hv1 (Wx rfl)) rfl rfl rfl (WT rfl (WU rfl rfl (WS rfl (WU rfl rfl WR)))) rfl rfl) ho2
  replace h2 := Qr c8 h2
  refine QM <| Qd <| Qd ?_
  have e := Wk h2; subst e
  have e_ : _ = _ := ho2
  subst e_
  exact QG s2.2 (Qf (Wi rfl (Wi rfl (Wi rfl Wh))) (WD rfl (WD rfl (WD rfl (WD rfl WC)))) Wy rfl (Nat.le_trans hv1 (Wx rfl)) rfl rfl rfl (WT rfl (WU rfl rfl (WS rfl (WU rfl rfl WR)))) rfl rfl) h1
  intro o6 h1
  refine QB <| Q1 <| Q2 <| Q2 <| Q0 <| Wn rfl rfl rfl <| Wm rfl rfl rfl (Ya Jo rfl) <| Wn rfl rfl rfl <| Q3 <| Q1 <| Qc ?_
  refine QI 4 (fun (o17 : (List (List Int))) => ⟨[(2, .v (.one (.ptr 1 0))), (4, .v (.one (.ptr 3 0)))], [(0, .cells 48 (Q9 a0)), (1, .cells 72 [WK, .d (.v (.map none))]), (2, .mp (QL o6.1) o6.2), (3, .cells 72 [WN 4 o17, .mp 2])], [(4, some ⟨54, 1, (Enc.encL o17).length, []⟩)], 5, 88, []⟩) (fun (o17 : (List (List Int))) => (some (.inl (o17, o6))) = some y5) ?_ ?_
  refine YR (i := 3) (off := 0) 54 1 rfl rfl ?_
  refine Qb h1 (fun o18 hl2 h1 => ?_)
  refine QH (m15o_l3 nn a0 o6) (fun s2 => ⟨[(2, .v (.one (.ptr 1 0))), (4, .v (.one (.ptr 3 0))), (49, .v (.one (.osl 0 0 nn nn))), (50, .v (.one (WL ((nn : Nat) : Int)))), (51, .v (.one (WL s2.1)))], [(0, .cells 48 (Q9 a0)), (1, .cells 72 [WK, .d (.v (.map none))]), (2, .mp (QL o6.1) o6.2), (3, .cells 72 [WN 4 s2.2, .mp 2])], [(4, some ⟨54, 1, (Enc.encL s2.2).length, []⟩)], 5, 88, []⟩) (0, ([] : List (List Int))) o18 (Qf (Wi rfl (Wi rfl (Wi rfl (Wi rfl (Wi rfl Wh))))) (WD rfl (WD rfl (WD rfl (WD rfl WC)))) (Wz rfl Wy) rfl (Nat.le_trans hv1 (Wx rfl)) rfl rfl rfl (WT rfl (WU rfl rfl (WS rfl (WU rfl rfl WR)))) rfl rfl) hl2 (fun s2 n2 oo2 h2 ho2 => ?_)
  unfold m15o_l3 at h2
  refine Q2 <| Q0 <| Wm rfl rfl rfl (Q8 rfl rfl rfl) <| Q3 <| Q1 <| Q2 ?_
  refine Qe (b := (decide (s2.1 < ((nn : Nat) : Int)))) rfl (fun c19 => ?_) (fun c19 => ?_)
  replace h2 := Qq c19 h2
  refine Qi <| Q1 <| Q2 <| Qc <| Q2 <| Q0 ?_
  refine Qb h2 (fun x20 hx20 h2 => ?_)
  refine QS h2 (fun g21 h2 => ?_)
  refine Wm rfl rfl rfl (Jp (α := Dcl) Jo rfl rfl hx20 g21) <| Wm rfl rfl rfl (Yu (α := Dcl) (ys := [WL x20.kind, Z4 x20.name, WL x20.params, WL x20.ty.kind, WL x20.ty.index, Z4 x20.ty.name, WJ x20.ty.levels, WJ x20.ty.kids, WL x20.value.kind, WL x20.value.index, Z4 x20.value.name, WJ x20.value.levels, WJ x20.value.kids, WL x20.fixed, WJ x20.ctors, WL x20.rcr.params, WL x20.rcr.ty.kind, WL x20.rcr.ty.index, Z4 x20.rcr.ty.name, WJ x20.rcr.ty.levels, WJ x20.rcr.ty.kids, WJ x20.rcr.rules, WJ x20.funs]) Jg rfl rfl hx20 rfl) <| Qa rfl rfl (Wx rfl) (Qp ZU rfl) <| QJ rfl rfl (J6 (x20 : Dcl) Jg rfl rfl rfl rfl rfl) <| Q3 <| Q1 <| Q2 <| Q0 <| Wo rfl rfl rfl <| Q3 <| Q1 <| Q2 <| Q2 <| Q0 ?_
  refine Wm rfl rfl rfl (JA (x20 : Dcl) Jg rfl rfl) ?_
  refine Qb h2 (fun x22 hx22 h2 => ?_)
  refine Qa rfl rfl (Wx rfl) (Qn (GC x20 x22 hx22) rfl (.cons (.agg (.cons (.d _) (.cons (.d _) (.cons (.d _) (.cons (.d _) (.cons (.d _) (.cons (.d _) (.cons (.d _) (.cons (.d _) (.cons (.d _) (.cons (.d _) (.cons (.d _) (.cons (.d _) (.cons (.d _) (.cons (.d _) (.cons (.d _) (.cons (.d _) (.cons (.d _) (.cons (.d _) (.cons (.d _) (.cons (.d _) (.cons (.d _) (.cons (.d _) (.cons (.d _) .nil)))))))))))))))))))))))) .nil)) <| Wm rfl rfl rfl (QC (α := U3) J1 rfl (.d _)) <| Wn rfl rfl rfl <| Q3 <| Q1 <| Qc ?_
  refine QI 6 (fun (o23 : (List Int)) => ⟨[(2, .v (.one (.ptr 1 0))), (4, .v (.one (.ptr 3 0))), (13, .v (.one (.apv 6 1 ((Enc.encL o23).length) []))), (49, .v (.one (.osl 0 0 nn nn))), (50, .v (.one (WL ((nn : Nat) : Int)))), (51, .v (.one (WL s2.1)))], [(0, .cells 48 (Q9 a0)), (1, .cells 72 [WK, .d (.v (.map none))]), (2, .mp (QL o6.1) o6.2), (3, .cells 72 [WN 4 s2.2, .mp 2]), (5, .cells 48 (WO x20))], [(4, some ⟨54, 1, (Enc.encL s2.2).length, []⟩), (6, some ⟨3, 1, (Enc.encL o23).length, (Enc.encL o23).flatten⟩)], 7, 88, []⟩) (fun (o23 : (List Int)) => (Option.bind (Zf o23) fun (x24 : List Int) =>
    Option.bind (JS x24 ((Enc.encL o23).length)) fun (x25 : List Int) =>
    Qy (Nat.ble (s2.2.length + ([x25]).length) 1000000000)
    (some (.next ((QZ (s2.1 + 1)), (s2.2 ++ ([x25])))))) = some oo2) ?_ ?_
  refine JW (t := 13) 3 1 rfl <| Kd (α := Int) (t := 13) rfl rfl ?_
  refine Qb h2 (fun o24 hl3 h2 => ?_)
  refine QH (m15o_l2 x22 o6) (fun s3 => ⟨[(2, .v (.one (.ptr 1 0))), (4, .v (.one (.ptr 3 0))), (13, .v (.one (.apv 6 1 ((Enc.encL s3.1).length) []))), (49, .v (.one (.osl 0 0 nn nn))), (50, .v (.one (WL ((nn : Nat) : Int)))), (51, .v (.one (WL s2.1))), (56, .v (.one (WJ x22))), (57, .v (.one (WL (x22.length : Int)))), (58, .v (.one (WL s3.2)))], [(0, .cells 48 (Q9 a0)), (1, .cells 72 [WK, .d (.v (.map none))]), (2, .mp (QL o6.1) o6.2), (3, .cells 72 [WN 4 s2.2, .mp 2]), (5, .cells 48 (WO x20))], [(4, some ⟨54, 1, (Enc.encL s2.2).length, []⟩), (6, some ⟨3, 1, (Enc.encL s3.1).length, (Enc.encL s3.1).flatten⟩)], 7, 88, []⟩) (([] : List Int), 0) o24 (Qf (Wi rfl (Wi rfl (Wi rfl (Wi rfl (Wi rfl (Wi rfl (Wi rfl (Wi rfl (Wi rfl Wh))))))))) (WD rfl (WD rfl (WD rfl (WD rfl (WD rfl WC))))) (Wz rfl (Wz rfl Wy)) rfl (Nat.le_trans hv1 (Wx rfl)) rfl rfl rfl (WT rfl (WU rfl rfl (WS rfl (WU rfl rfl (WU rfl rfl WR))))) rfl rfl) hl3 (fun s3 n3 oo3 h3 ho3 => ?_)
  unfold m15o_l2 at h3
  refine Q2 <| Q0 <| Wm rfl rfl rfl (Q8 rfl rfl rfl) <| Q3 <| Q1 <| Q2 ?_
  refine Qe (b := (decide (s3.2 < (x22.length : Int)))) rfl (fun c25 => ?_) (fun c25 => ?_)
  replace h3 := Qq c25 h3
  refine Qi <| Q1 <| Q2 <| Qc <| Q2 <| Q0 ?_
  refine Qb h3 (fun x26 hx26 h3 => ?_)
  refine Wm rfl rfl rfl (Qm (α := U3) J1 rfl (.d _) rfl hx26) <| Wm rfl rfl rfl (QN JT rfl rfl) <| Wo rfl rfl rfl <| Q3 <| Q1 <| Q2 <| Q0 <| Wm rfl rfl rfl (Q6 JM rfl) <| Wm rfl rfl rfl (Q7 YD rfl rfl rfl) <| Wn rfl rfl rfl <| Wm rfl rfl rfl (Js (M := o6) (k := x26) YC Yg rfl rfl rfl) <| Wn rfl rfl rfl <| Wm rfl rfl rfl (Qg rfl rfl) <| Wm rfl rfl rfl (Qg rfl rfl) ?_
  refine Wo rfl rfl rfl <| Wo rfl rfl rfl <| Q3 <| Q1 <| Q2 <| Q2 <| Q0 <| Wn rfl rfl rfl <| Wm rfl rfl rfl (J9 rfl) <| Q3 <| Q1 ?_
  refine Qe (b := (!(Jt o6 x26))) rfl (fun c27 => ?_) (fun c27 => ?_)
  replace h3 := Qq c27 h3
  refine Q2 <| Q0 <| Wm rfl rfl rfl (Y5 Z5 rfl ) <| QJ rfl rfl (Ql J8 rfl rfl rfl rfl (Wx rfl) rfl) <| Wo rfl rfl rfl <| Q3 <| Q1 <| Qz ?_
  have e := Wk h3; subst e
  have e_ : _ = _ := ho3
  subst e_
  try dsimp only [Sum.elim_inl, Sum.elim_inr] at h2
  have e := Wk h2; subst e
  have e_ : _ = _ := ho2
  subst e_
  try dsimp only [Sum.elim_inl, Sum.elim_inr] at h1
  have e := Wk h1; subst e
  exact hQ1 _ _ _ (.inr rfl) rfl (show StLe _ _ ⟨[(2, .v (.one (.ptr 1 0))), (3, .v (.one (WL 9)))], [(0, .cells 48 (Q9 a0)), (1, .cells 72 [WK, .d (.v (.map none))])], [], 7, 88, []⟩ from (Qf (Wi rfl (Wi rfl Wh)) (WD rfl (WD rfl WC)) Wy rfl (Nat.le_trans hv1 (Wx rfl)) rfl rfl rfl (WT rfl (WU rfl rfl WR)) rfl rfl))
  replace h3 := Qr c27 h3
  refine Qi <| Q1 <| Q0 <| Wn rfl rfl rfl <| Wn rfl rfl rfl <| Qa rfl rfl (Wx rfl) (J3 (α := Int) ((Je o6 x26)) JU XE rfl rfl (Wx rfl) (Wx rfl) rfl rfl (.cons (.d _) .nil) rfl) ?_
  refine QS h3 (fun g28 h3 => ?_)
  refine Qa rfl rfl (Wx rfl) (Yv (α := Int) (l := s3.1) (l2 := ([(Je o6 x26)] : List Int)) JU Xn rfl rfl rfl rfl (.app _ _) rfl g28) <| Wo rfl rfl rfl <| Q3 <| Qj <| Q1 <| Q0 <| Wm rfl rfl rfl (Q8 rfl rfl rfl) <| Wn rfl rfl rfl <| Q3 ?_
  have e := Wk h3; subst e
  refine QD ((s3.1 ++ ([(Je o6 x26)])), (QZ (s3.2 + 1))) (Qf (Wi rfl (Wi rfl (Wi rfl (Wi rfl (Wi rfl (Wi rfl (Wi rfl (Wi rfl (Wi rfl Wh))))))))) (WD rfl (WD rfl (WD rfl (WD rfl (WD rfl WC))))) (Wz rfl (Wz rfl Wy)) rfl (Nat.le_trans hv1 (Wx rfl)) rfl rfl rfl (WT rfl (WU rfl rfl (WS rfl (WU rfl rfl (WU rfl rfl WR))))) rfl rfl) ho3
  replace h3 := Qr c25 h3
  refine QM <| Qd <| Qd ?_
  have e := Wk h3; subst e
  have e_ : _ = _ := ho3
  subst e_
  exact QG s3.1 (Qf (Wi rfl (Wi rfl (Wi rfl (Wi rfl (Wi rfl (Wi rfl Wh)))))) (WD rfl (WD rfl (WD rfl (WD rfl (WD rfl WC))))) (Wz rfl (Wz rfl Wy)) rfl (Nat.le_trans hv1 (Wx rfl)) rfl rfl rfl (WT rfl (WU rfl rfl (WS rfl (WU rfl rfl (WU rfl rfl WR))))) rfl rfl) h2
  intro o23 h2
  refine QB <| Q1 <| Q2 <| Q0 <| Wn rfl rfl rfl ?_
  refine Qb h2 (fun x29 hx29 h2 => ?_)
  refine Qa rfl rfl (Wx rfl) (J2 (hp1' := []) (tk1' := [(6, some ⟨3, 1, (Enc.encL o23).length, (Enc.encL x29).flatten⟩)]) (hpF := [(0, .cells 48 (Q9 a0)), (1, .cells 72 [WK, .d (.v (.map none))]), (2, .mp (QL o6.1) o6.2), (3, .cells 72 [WN 4 s2.2, .mp 2]), (5, .cells 48 (WO x20))]) (tkF := [(4, some ⟨54, 1, (Enc.encL s2.2).length, []⟩)]) (res2 := QA []) (nx2 := 7) [6] rfl rfl (K2 o23 x29 hx29) rfl rfl Wp rfl rfl WF (WB rfl WA) (WD rfl (WD rfl (WD rfl (WD rfl (WD rfl WC))))) (Wz rfl Wy) rfl rfl rfl rfl rfl WR rfl rfl rfl rfl) <| Q3 <| Q1 ?_
  refine JG [3, 5, 7] [(0, 1), (1, 1)] mixed (by kernel_rfl) (by kernel_rfl) (by kernel_rfl) ?_
  refine RunA.rd rfl rfl rfl (Q4 (Q6 JC rfl)) rfl <| RunA.rd rfl rfl rfl (Q4 (Q7 Y1 rfl rfl rfl)) rfl <| RunA.rd rfl rfl rfl (Q4 (QQ rfl)) rfl ?_
  refine Qb h2 (fun x30 hx30 h2 => ?_)
  refine RunA.eff rfl rfl rfl (J2 (hp1' := []) (tk1' := [(7, some ⟨3, 1, (Enc.encL x30).length, []⟩)]) (hpF := [(0, .cells 48 (Q9 a0)), (1, .cells 72 [WK, .d (.v (.map none))]), (2, .mp (QL o6.1) o6.2), (3, .cells 72 [WN 4 s2.2, .mp 2]), (5, .cells 48 (WO x20))]) (tkF := [(4, some ⟨54, 1, (Enc.encL s2.2).length, []⟩)]) (res2 := QA [.one (WN 7 x30)]) (nx2 := 8) [6] rfl rfl (YP x29 ((Enc.encL o23).length) x30 hx30) rfl rfl Wp rfl rfl WF (WB rfl WA) (WD rfl (WD rfl (WD rfl (WD rfl (WD rfl WC))))) (Wz rfl Wy) rfl rfl rfl rfl rfl WR rfl rfl rfl rfl) rfl <| RunA.rd rfl rfl rfl (Y3 (α := List Int) (x30) Y7 Xr rfl rfl (Wx rfl) rfl rfl (.cons (.app _ _ _) .nil) rfl) rfl ?_
  refine QS h2 (fun g31 h2 => ?_)
  refine RunA.eff rfl rfl rfl (QW (α := List Int) Y7 X7 rfl rfl rfl rfl rfl (.d _) g31) rfl <| RunA.rd rfl rfl rfl (Q4 (Q6 JC rfl)) rfl <| RunA.eff rfl rfl rfl (Ql Y1 rfl rfl rfl rfl (Wx rfl) rfl) rfl ?_
  refine RunA.nil ⟨?ex, _, _, rfl, ?_⟩
  case ex => exact ⟨⟨_, rfl, _, _, rfl, rfl, rfl, .inl ⟨rfl, _, Q4 (Q6 JC rfl), rfl⟩⟩, ⟨_, rfl, _, _, rfl, rfl, rfl, .inl ⟨rfl, _, Q4 (Q7 Y1 rfl rfl rfl), rfl⟩⟩, trivial⟩
  refine JK (st' := ⟨[(2, .v (.one (.ptr 1 0))), (4, .v (.one (.ptr 3 0))), (49, .v (.one (.osl 0 0 nn nn))), (50, .v (.one (WL ((nn : Nat) : Int)))), (51, .v (.one (WL s2.1)))], [(0, .cells 48 (Q9 a0)), (1, .cells 72 [WK, .d (.v (.map none))]), (2, .mp (QL o6.1) o6.2), (3, .cells 72 [WN 4 ((s2.2 ++ ([x30])) : List (List Int)), .mp 2]), (5, .cells 48 (WO x20))], [(4, some ⟨54, 1, (Enc.encL ((s2.2 ++ ([x30])) : List (List Int))).length, []⟩), (7, some ⟨3, 1, (Enc.encL x30).length, []⟩)], 8, 88, []⟩) (Qf (Wi rfl (Wi rfl (Wi rfl (Wi rfl (Wi rfl Wh))))) (WD rfl (WD rfl (WD rfl (WD rfl (WD rfl WC))))) (Wz rfl (Wz rfl Wy)) rfl (Nat.le_trans hv1 (Wx rfl)) rfl rfl rfl (WT rfl (WU rfl rfl (WS rfl (WU rfl rfl (WU rfl rfl WR))))) rfl rfl) <| Qj <| Q1 <| Q0 <| Wm rfl rfl rfl (Q8 rfl rfl rfl) <| Wn rfl rfl rfl <| Q3 ?_
  have e := Wk h2; subst e
  refine QD ((QZ (s2.1 + 1)), (s2.2 ++ ([x30]))) (Qf (Wi rfl (Wi rfl (Wi rfl (Wi rfl (Wi rfl Wh))))) (WD rfl (WD rfl (WD rfl (WD rfl WC)))) (Wz rfl Wy) rfl (Nat.le_trans hv1 (Wx rfl)) rfl rfl rfl (WT rfl (WU rfl rfl (WS rfl (WU rfl rfl WR)))) rfl rfl) ho2
  replace h2 := Qr c19 h2
  refine QM <| Qd <| Qd ?_
  have e := Wk h2; subst e
  have e_ : _ = _ := ho2
  subst e_
  exact QG s2.2 (Qf (Wi rfl (Wi rfl Wh)) (WD rfl (WD rfl (WD rfl (WD rfl WC)))) (Wz rfl Wy) rfl (Nat.le_trans hv1 (Wx rfl)) rfl rfl rfl (WT rfl (WU rfl rfl (WS rfl (WU rfl rfl WR)))) rfl rfl) h1
  intro o17 h1
  refine QB <| Q1 <| Q2 <| Q0 <| Wm rfl rfl rfl (Qu J8 rfl rfl rfl rfl) <| QJ rfl rfl (Ql J8 rfl rfl rfl rfl (Wx rfl) rfl) <| Wo rfl rfl rfl <| Q3 <| Q1 <| Qz ?_
  have e := Wk h1; subst e
  exact hQ1 _ _ _ (.inr rfl) rfl (show StLe _ _ ⟨[(2, .v (.one (.ptr 1 0))), (3, .v (.one (WL 0)))], [(0, .cells 48 (Q9 a0)), (1, .cells 72 [WN 4 o17, .mp 2]), (2, .mp (QL o6.1) o6.2)], [(4, some ⟨54, 1, (Enc.encL o17).length, []⟩)], 5, 88, []⟩ from (Qf (Wi rfl (Wi rfl Wh)) (WD rfl (WD rfl (WD rfl WC))) (Wz rfl Wy) rfl (Nat.le_trans hv1 (Wx rfl)) rfl rfl rfl (WT rfl (WU rfl rfl (WS rfl WR))) rfl rfl))
 refine KN (C := fun q_ => CallM Try.prog 34 [.one (.osl 0 0 nn nn)] ⟨[(0, .cells 48 (Q9 a0))], [], 1⟩ (QA (((Sum.elim (fun (y1 : (List (List Int)) × (Qh U3 Int)) => ([.agg [WN 4 y1.1, .mp 2], .one (WL 0)] : List AV)) (Sum.elim (fun (y2 : Unit) => ([.agg [WK, .d (.v (.map none))], .one (WL 8)] : List AV)) (fun (y3 : Unit) => ([.agg [WK, .d (.v (.map none))], .one (WL 9)] : List AV))))) q_)) ⟨(((Sum.elim (fun (y1 : (List (List Int)) × (Qh U3 Int)) => (⟨[(2, .v (.one (.ptr 1 0))), (3, .v (.one (WL 0)))], [(0, .cells 48 (Q9 a0)), (1, .cells 72 [WN 4 y1.1, .mp 2]), (2, .mp (QL y1.2.1) y1.2.2)], [(4, some ⟨54, 1, (Enc.encL y1.1).length, []⟩)], 5, 88, []⟩ : St)) (Sum.elim (fun (y2 : Unit) => (⟨[(2, .v (.one (.ptr 1 0))), (3, .v (.one (WL 8)))], [(0, .cells 48 (Q9 a0)), (1, .cells 72 [WK, .d (.v (.map none))])], [], 5, 88, []⟩ : St)) (fun (y3 : Unit) => (⟨[(2, .v (.one (.ptr 1 0))), (3, .v (.one (WL 9)))], [(0, .cells 48 (Q9 a0)), (1, .cells 72 [WK, .d (.v (.map none))])], [], 7, 88, []⟩ : St))))) q_).hp, (((Sum.elim (fun (y1 : (List (List Int)) × (Qh U3 Int)) => (⟨[(2, .v (.one (.ptr 1 0))), (3, .v (.one (WL 0)))], [(0, .cells 48 (Q9 a0)), (1, .cells 72 [WN 4 y1.1, .mp 2]), (2, .mp (QL y1.2.1) y1.2.2)], [(4, some ⟨54, 1, (Enc.encL y1.1).length, []⟩)], 5, 88, []⟩ : St)) (Sum.elim (fun (y2 : Unit) => (⟨[(2, .v (.one (.ptr 1 0))), (3, .v (.one (WL 8)))], [(0, .cells 48 (Q9 a0)), (1, .cells 72 [WK, .d (.v (.map none))])], [], 5, 88, []⟩ : St)) (fun (y3 : Unit) => (⟨[(2, .v (.one (.ptr 1 0))), (3, .v (.one (WL 9)))], [(0, .cells 48 (Q9 a0)), (1, .cells 72 [WK, .d (.v (.map none))])], [], 7, 88, []⟩ : St))))) q_).tk, (((Sum.elim (fun (y1 : (List (List Int)) × (Qh U3 Int)) => (⟨[(2, .v (.one (.ptr 1 0))), (3, .v (.one (WL 0)))], [(0, .cells 48 (Q9 a0)), (1, .cells 72 [WN 4 y1.1, .mp 2]), (2, .mp (QL y1.2.1) y1.2.2)], [(4, some ⟨54, 1, (Enc.encL y1.1).length, []⟩)], 5, 88, []⟩ : St)) (Sum.elim (fun (y2 : Unit) => (⟨[(2, .v (.one (.ptr 1 0))), (3, .v (.one (WL 8)))], [(0, .cells 48 (Q9 a0)), (1, .cells 72 [WK, .d (.v (.map none))])], [], 5, 88, []⟩ : St)) (fun (y3 : Unit) => (⟨[(2, .v (.one (.ptr 1 0))), (3, .v (.one (WL 9)))], [(0, .cells 48 (Q9 a0)), (1, .cells 72 [WK, .d (.v (.map none))])], [], 7, 88, []⟩ : St))))) q_).nx⟩) hc4 h0 (fun y1 hc4 h0 => ?_) (fun z_ hc4 h0 => KN (C := fun q_ => CallM Try.prog 34 [.one (.osl 0 0 nn nn)] ⟨[(0, .cells 48 (Q9 a0))], [], 1⟩ (QA (((Sum.elim (fun (y1 : (List (List Int)) × (Qh U3 Int)) => ([.agg [WN 4 y1.1, .mp 2], .one (WL 0)] : List AV)) (Sum.elim (fun (y2 : Unit) => ([.agg [WK, .d (.v (.map none))], .one (WL 8)] : List AV)) (fun (y3 : Unit) => ([.agg [WK, .d (.v (.map none))], .one (WL 9)] : List AV))))) (.inr q_))) ⟨(((Sum.elim (fun (y1 : (List (List Int)) × (Qh U3 Int)) => (⟨[(2, .v (.one (.ptr 1 0))), (3, .v (.one (WL 0)))], [(0, .cells 48 (Q9 a0)), (1, .cells 72 [WN 4 y1.1, .mp 2]), (2, .mp (QL y1.2.1) y1.2.2)], [(4, some ⟨54, 1, (Enc.encL y1.1).length, []⟩)], 5, 88, []⟩ : St)) (Sum.elim (fun (y2 : Unit) => (⟨[(2, .v (.one (.ptr 1 0))), (3, .v (.one (WL 8)))], [(0, .cells 48 (Q9 a0)), (1, .cells 72 [WK, .d (.v (.map none))])], [], 5, 88, []⟩ : St)) (fun (y3 : Unit) => (⟨[(2, .v (.one (.ptr 1 0))), (3, .v (.one (WL 9)))], [(0, .cells 48 (Q9 a0)), (1, .cells 72 [WK, .d (.v (.map none))])], [], 7, 88, []⟩ : St))))) (.inr q_)).hp, (((Sum.elim (fun (y1 : (List (List Int)) × (Qh U3 Int)) => (⟨[(2, .v (.one (.ptr 1 0))), (3, .v (.one (WL 0)))], [(0, .cells 48 (Q9 a0)), (1, .cells 72 [WN 4 y1.1, .mp 2]), (2, .mp (QL y1.2.1) y1.2.2)], [(4, some ⟨54, 1, (Enc.encL y1.1).length, []⟩)], 5, 88, []⟩ : St)) (Sum.elim (fun (y2 : Unit) => (⟨[(2, .v (.one (.ptr 1 0))), (3, .v (.one (WL 8)))], [(0, .cells 48 (Q9 a0)), (1, .cells 72 [WK, .d (.v (.map none))])], [], 5, 88, []⟩ : St)) (fun (y3 : Unit) => (⟨[(2, .v (.one (.ptr 1 0))), (3, .v (.one (WL 9)))], [(0, .cells 48 (Q9 a0)), (1, .cells 72 [WK, .d (.v (.map none))])], [], 7, 88, []⟩ : St))))) (.inr q_)).tk, (((Sum.elim (fun (y1 : (List (List Int)) × (Qh U3 Int)) => (⟨[(2, .v (.one (.ptr 1 0))), (3, .v (.one (WL 0)))], [(0, .cells 48 (Q9 a0)), (1, .cells 72 [WN 4 y1.1, .mp 2]), (2, .mp (QL y1.2.1) y1.2.2)], [(4, some ⟨54, 1, (Enc.encL y1.1).length, []⟩)], 5, 88, []⟩ : St)) (Sum.elim (fun (y2 : Unit) => (⟨[(2, .v (.one (.ptr 1 0))), (3, .v (.one (WL 8)))], [(0, .cells 48 (Q9 a0)), (1, .cells 72 [WK, .d (.v (.map none))])], [], 5, 88, []⟩ : St)) (fun (y3 : Unit) => (⟨[(2, .v (.one (.ptr 1 0))), (3, .v (.one (WL 9)))], [(0, .cells 48 (Q9 a0)), (1, .cells 72 [WK, .d (.v (.map none))])], [], 7, 88, []⟩ : St))))) (.inr q_)).nx⟩) hc4 h0 (fun y2 hc4 h0 => ?_) (fun y3 hc4 h0 => ?_))
 replace hc4 : CallM Try.prog 34 [.one (.osl 0 0 nn nn)] ⟨[(0, .cells 48 (Q9 a0))], [], 1⟩ (QA [.agg [WN 4 y1.1, .mp 2], .one (WL 0)]) ⟨[(0, .cells 48 (Q9 a0)), (1, .cells 72 [WN 4 y1.1, .mp 2]), (2, .mp (QL y1.2.1) y1.2.2)], [(4, some ⟨54, 1, (Enc.encL y1.1).length, []⟩)], 5⟩ := hc4
 refine Qa rfl rfl (Wx rfl) (QT rfl rfl rfl hc4 rfl (WD rfl WC) Wy) <| Wn rfl rfl rfl <| Wm rfl rfl rfl (Qg rfl rfl) <| Wm rfl rfl rfl (Qg rfl rfl) <| Qa rfl rfl (Wx rfl) (Qp YT rfl) <| QJ rfl rfl (Ql J8 rfl rfl rfl rfl (Wx rfl) rfl) <| Wo rfl rfl rfl <| Q3 <| Q1 <| Q2 <| Q2 <| Q0 <| Wn rfl rfl rfl <| Wm rfl rfl rfl (Q8 rfl rfl rfl) ?_
 refine Q3 <| Q1 ?_
 refine Qe rfl (fun h => nomatch h) (fun _ => ?_)
 refine Qi <| Q1 <| Q2 <| Q0 <| Wm rfl rfl rfl (Qu J8 rfl rfl rfl rfl) <| Wm rfl rfl rfl (Q6 JC rfl) <| Wm rfl rfl rfl (Q7 Y1 rfl rfl rfl) <| Wn rfl rfl rfl ?_
 refine Qb h0 (fun y35 h1 h0 => ?_)
 have hc34 : CallM Try.prog 35 [.agg [WN 4 y1.1, .mp 2], .one (WN 4 y1.1), .one (WJ a1)] ⟨[(0, .cells 48 (Q9 a0)), (1, .cells 72 [WN 4 y1.1, .mp 2]), (2, .mp (QL y1.2.1) y1.2.2), (5, .cells 72 [WN 4 y1.1, .mp 2])], [(4, some ⟨54, 1, (Enc.encL y1.1).length, []⟩)], 6⟩ (QA (((Sum.elim (fun (y32 : Unit) => ([.one (WK), .one (WL 9)] : List AV)) (fun (y33 : (List Bool)) => ([.one (.osl 8 0 ((y1.1.length : Int).toNat) ((y1.1.length : Int).toNat)), .one (WL 0)] : List AV)))) y35)) ⟨(((Sum.elim (fun (y32 : Unit) => (⟨[(6, .v (.one (WK))), (7, .v (.one (WL 9)))], [(0, .cells 48 (Q9 a0)), (1, .cells 72 [WN 4 y1.1, .mp 2]), (2, .mp (QL y1.2.1) y1.2.2), (5, .cells 72 [WN 4 y1.1, .mp 2])], [(4, some ⟨54, 1, (Enc.encL y1.1).length, []⟩)], 11, 38, []⟩ : St)) (fun (y33 : (List Bool)) => (⟨[(6, .v (.one (.osl 8 0 ((y1.1.length : Int).toNat) ((y1.1.length : Int).toNat)))), (7, .v (.one (WL 0)))], [(0, .cells 48 (Q9 a0)), (1, .cells 72 [WN 4 y1.1, .mp 2]), (2, .mp (QL y1.2.1) y1.2.2), (5, .cells 72 [WN 4 y1.1, .mp 2]), (8, .cells 4 (Q9 y33))], [(4, some ⟨54, 1, (Enc.encL y1.1).length, []⟩)], 11, 38, []⟩ : St)))) y35).hp, (((Sum.elim (fun (y32 : Unit) => (⟨[(6, .v (.one (WK))), (7, .v (.one (WL 9)))], [(0, .cells 48 (Q9 a0)), (1, .cells 72 [WN 4 y1.1, .mp 2]), (2, .mp (QL y1.2.1) y1.2.2), (5, .cells 72 [WN 4 y1.1, .mp 2])], [(4, some ⟨54, 1, (Enc.encL y1.1).length, []⟩)], 11, 38, []⟩ : St)) (fun (y33 : (List Bool)) => (⟨[(6, .v (.one (.osl 8 0 ((y1.1.length : Int).toNat) ((y1.1.length : Int).toNat)))), (7, .v (.one (WL 0)))], [(0, .cells 48 (Q9 a0)), (1, .cells 72 [WN 4 y1.1, .mp 2]), (2, .mp (QL y1.2.1) y1.2.2), (5, .cells 72 [WN 4 y1.1, .mp 2]), (8, .cells 4 (Q9 y33))], [(4, some ⟨54, 1, (Enc.encL y1.1).length, []⟩)], 11, 38, []⟩ : St)))) y35).tk, (((Sum.elim (fun (y32 : Unit) => (⟨[(6, .v (.one (WK))), (7, .v (.one (WL 9)))], [(0, .cells 48 (Q9 a0)), (1, .cells 72 [WN 4 y1.1, .mp 2]), (2, .mp (QL y1.2.1) y1.2.2), (5, .cells 72 [WN 4 y1.1, .mp 2])], [(4, some ⟨54, 1, (Enc.encL y1.1).length, []⟩)], 11, 38, []⟩ : St)) (fun (y33 : (List Bool)) => (⟨[(6, .v (.one (.osl 8 0 ((y1.1.length : Int).toNat) ((y1.1.length : Int).toNat)))), (7, .v (.one (WL 0)))], [(0, .cells 48 (Q9 a0)), (1, .cells 72 [WN 4 y1.1, .mp 2]), (2, .mp (QL y1.2.1) y1.2.2), (5, .cells 72 [WN 4 y1.1, .mp 2]), (8, .cells 4 (Q9 y33))], [(4, some ⟨54, 1, (Enc.encL y1.1).length, []⟩)], 11, 38, []⟩ : St)))) y35).nx⟩ := by
  refine JE y35 ((Sum.elim (fun (y32 : Unit) => (⟨[(6, .v (.one (WK))), (7, .v (.one (WL 9)))], [(0, .cells 48 (Q9 a0)), (1, .cells 72 [WN 4 y1.1, .mp 2]), (2, .mp (QL y1.2.1) y1.2.2), (5, .cells 72 [WN 4 y1.1, .mp 2])], [(4, some ⟨54, 1, (Enc.encL y1.1).length, []⟩)], 11, 38, []⟩ : St)) (fun (y33 : (List Bool)) => (⟨[(6, .v (.one (.osl 8 0 ((y1.1.length : Int).toNat) ((y1.1.length : Int).toNat)))), (7, .v (.one (WL 0)))], [(0, .cells 48 (Q9 a0)), (1, .cells 72 [WN 4 y1.1, .mp 2]), (2, .mp (QL y1.2.1) y1.2.2), (5, .cells 72 [WN 4 y1.1, .mp 2]), (8, .cells 4 (Q9 y33))], [(4, some ⟨54, 1, (Enc.encL y1.1).length, []⟩)], 11, 38, []⟩ : St)))) ((Sum.elim (fun (y32 : Unit) => ([.one (WK), .one (WL 9)] : List AV)) (fun (y33 : (List Bool)) => ([.one (.osl 8 0 ((y1.1.length : Int).toNat) ((y1.1.length : Int).toNat)), .one (WL 0)] : List AV)))) rfl rfl en_35 (Wx rfl) (fun z_ => by cases z_ <;> rfl) (fun z_ => by cases z_ with
    | inl _ => exact (Qo rfl (Qo rfl .nil))
    | inr _ => exact (Qo rfl (Qo rfl .nil))) (fun w0 M V0 Q hv1 hQ1 => ?_)
  simp only [Jb]
  refine Q2 <| Q0 <| Qa rfl rfl (Wx rfl) (Jc rfl) <| Qa rfl rfl (Wx rfl) (Jc rfl) <| Wo rfl rfl rfl <| Wo rfl rfl rfl <| Q3 <| Q1 <| Q2 <| Q0 <| Wm rfl rfl rfl (Q7 Y1 rfl rfl rfl) <| Wm rfl rfl rfl (QC (α := List Int) Y7 rfl (.app _ _)) ?_
  refine QS h1 (fun g36 h1 => ?_)
  refine Qa rfl rfl (Wx rfl) (ZP (α := Bool) (z := false) Zo Wb rfl rfl XV rfl rfl g36 rfl (by repeat (first | exact CLs.nil | refine CLs.cons (by first | exact .refl _ | exact .sub (.app _ _ _) | exact .sub (.nil _)) ?_))) ?_
  refine Qa rfl rfl (Wx rfl) (Qp XD rfl) <| QJ rfl rfl (Ql Zp rfl rfl rfl rfl (Wx rfl) rfl) <| Q3 <| Q1 <| Q2 <| Q0 <| Qa rfl rfl (Wx rfl) (Qp z_106 rfl) <| Q3 <| Q1 <| Q2 <| Q0 <| Wm rfl rfl rfl (Z1 rfl rfl rfl) <| QJ rfl rfl (Ql ZZ rfl rfl rfl rfl (Wx rfl) rfl) <| Q3 ?_
  refine Q1 <| Q2 <| Q2 <| Q0 <| Wn rfl rfl rfl <| Wm rfl rfl rfl (QC (α := U3) J1 rfl (.d _)) <| Wn rfl rfl rfl <| Q3 <| Q1 <| Qc ?_
  refine QI 0 (fun (o37 : (List Bool)) => ⟨[(8, .v (.one (.ptr 9 0)))], [(0, .cells 48 (Q9 a0)), (1, .cells 72 [WN 4 y1.1, .mp 2]), (2, .mp (QL y1.2.1) y1.2.2), (5, .cells 72 [WN 4 y1.1, .mp 2]), (6, .cells 72 [WN 4 y1.1, .mp 2]), (7, .cells 57 [WN 4 y1.1]), (8, .cells 4 (Q9 o37)), (9, .cells 75 [.osl 8 0 ((y1.1.length : Int).toNat) ((y1.1.length : Int).toNat)]), (10, .cells 106 [.fn 56 [(9, 0), (7, 0), (10, 0)]])], [(4, some ⟨54, 1, (Enc.encL y1.1).length, []⟩)], 11, 38, []⟩) (fun (o37 : (List Bool)) => (some (.inr o37)) = some y35) ?_ ?_
  refine Qb h1 (fun o38 hl2 h1 => ?_)
  refine QH (m15o_l4 a1 y1) (fun s2 => ⟨[(3, .v (.one (.ptr 6 0))), (8, .v (.one (.ptr 9 0))), (9, .v (.one (.ptr 10 0))), (18, .v (.one (WJ a1))), (19, .v (.one (WL (a1.length : Int)))), (20, .v (.one (WL s2.1)))], [(0, .cells 48 (Q9 a0)), (1, .cells 72 [WN 4 y1.1, .mp 2]), (2, .mp (QL y1.2.1) y1.2.2), (5, .cells 72 [WN 4 y1.1, .mp 2]), (6, .cells 72 [WN 4 y1.1, .mp 2]), (7, .cells 57 [WN 4 y1.1]), (8, .cells 4 (Q9 s2.2)), (9, .cells 75 [.osl 8 0 ((y1.1.length : Int).toNat) ((y1.1.length : Int).toNat)]), (10, .cells 106 [.fn 56 [(9, 0), (7, 0), (10, 0)]])], [(4, some ⟨54, 1, (Enc.encL y1.1).length, []⟩)], 11, 38, []⟩) (0, (List.replicate (y1.1.length : Int).toNat false)) o38 (Qf (Wi rfl (Wi rfl (Wi rfl (Wi rfl (Wi rfl (Wi rfl Wh)))))) (WD rfl (WD rfl (WD rfl (WD rfl (WD rfl (WD rfl (WD rfl (WD rfl (WD rfl WC))))))))) (Wz rfl Wy) rfl (Nat.le_trans hv1 (Wx rfl)) rfl rfl rfl (WT rfl (WU rfl rfl (WS rfl (WU rfl rfl (WU rfl rfl (WU rfl rfl (WT rfl (WU rfl rfl (WU rfl rfl WR))))))))) rfl rfl) hl2 (fun s2 n2 oo2 h2 ho2 => ?_)
  unfold m15o_l4 at h2
  refine Q2 <| Q0 <| Wm rfl rfl rfl (Q8 rfl rfl rfl) <| Q3 <| Q1 <| Q2 ?_
  refine Qe (b := (decide (s2.1 < (a1.length : Int)))) rfl (fun c39 => ?_) (fun c39 => ?_)
  replace h2 := Qq c39 h2
  refine Qi <| Q1 <| Q2 <| Qc <| Q2 <| Q0 ?_
  refine Qb h2 (fun x40 hx40 h2 => ?_)
  refine Wm rfl rfl rfl (Qm (α := U3) J1 rfl (.d _) rfl hx40) <| Wm rfl rfl rfl (QN JT rfl rfl) <| Wo rfl rfl rfl <| Q3 <| Q1 <| Q2 <| Q0 <| Wm rfl rfl rfl (Q6 JM rfl) <| Wm rfl rfl rfl (Q7 YD rfl rfl rfl) <| Wn rfl rfl rfl <| Wm rfl rfl rfl (Js (M := y1.2) (k := x40) YC Yg rfl rfl rfl) <| Wn rfl rfl rfl <| Wm rfl rfl rfl (Qg rfl rfl) <| Wm rfl rfl rfl (Qg rfl rfl) ?_
  refine Wo rfl rfl rfl <| Wo rfl rfl rfl <| Q3 <| Q1 <| Q2 <| Q2 <| Q0 <| Wn rfl rfl rfl <| Wm rfl rfl rfl (J9 rfl) <| Q3 <| Q1 ?_
  refine Qe (b := (!(Jt y1.2 x40))) rfl (fun c41 => ?_) (fun c41 => ?_)
  replace h2 := Qq c41 h2
  refine Q2 <| Q0 <| Wo rfl rfl rfl <| Wo rfl rfl rfl <| Q3 <| Q1 <| Qz ?_
  have e := Wk h2; subst e
  have e_ : _ = _ := ho2
  subst e_
  try dsimp only [Sum.elim_inl, Sum.elim_inr] at h1
  have e := Wk h1; subst e
  exact hQ1 _ _ _ (.inr rfl) rfl (show StLe _ _ ⟨[(6, .v (.one (WK))), (7, .v (.one (WL 9)))], [(0, .cells 48 (Q9 a0)), (1, .cells 72 [WN 4 y1.1, .mp 2]), (2, .mp (QL y1.2.1) y1.2.2), (5, .cells 72 [WN 4 y1.1, .mp 2])], [(4, some ⟨54, 1, (Enc.encL y1.1).length, []⟩)], 11, 38, []⟩ from (Qf (Wi rfl (Wi rfl Wh)) (WD rfl (WD rfl (WD rfl (WD rfl WC)))) (Wz rfl Wy) rfl (Nat.le_trans hv1 (Wx rfl)) rfl rfl rfl (WT rfl (WU rfl rfl (WS rfl (WU rfl rfl WR)))) rfl rfl))
  replace h2 := Qr c41 h2
  refine Qi <| Q1 <| Q0 <| Wm rfl rfl rfl (Q7 ZZ rfl rfl rfl) <| Wn rfl rfl rfl ?_
  refine Qb h2 (fun x42 hx42 h2 => ?_)
  refine Qa rfl rfl (Wx rfl) (J2 (hp1' := [(9, .cells 75 [.osl 8 0 ((y1.1.length : Int).toNat) ((y1.1.length : Int).toNat)]), (8, .cells 4 (Q9 x42)), (7, .cells 57 [WN 4 y1.1]), (10, .cells 106 [.fn 56 [(9, 0), (7, 0), (10, 0)]])]) (tk1' := [(4, some ⟨54, 1, (Enc.encL y1.1).length, []⟩)]) (hpF := [(0, .cells 48 (Q9 a0)), (1, .cells 72 [WN 4 y1.1, .mp 2]), (2, .mp (QL y1.2.1) y1.2.2), (5, .cells 72 [WN 4 y1.1, .mp 2]), (6, .cells 72 [WN 4 y1.1, .mp 2])]) (tkF := []) (res2 := QA []) (nx2 := 11) [9, 8, 7, 4, 10] rfl rfl (m56f11_ok (Je y1.2 x40) ((y1.1.length : Int).toNat) s2.2 y1.1 x42 hx42) rfl rfl (Ws rfl rfl (Wr rfl (Ws rfl rfl (Ws rfl rfl Wp)))) rfl rfl (WG rfl (WI rfl (WG rfl (WG rfl WF)))) (WB rfl WA) (WD rfl (WD rfl (WD rfl (WD rfl (WD rfl WC))))) Wy rfl rfl rfl rfl rfl (WU rfl rfl (WT rfl (WU rfl rfl (WU rfl rfl WR)))) rfl rfl rfl rfl) <| Q3 <| Qj <| Q1 <| Q0 <| Wm rfl rfl rfl (Q8 rfl rfl rfl) <| Wn rfl rfl rfl <| Q3 ?_
  have e := Wk h2; subst e
  refine QD ((QZ (s2.1 + 1)), x42) (Qf (Wi rfl (Wi rfl (Wi rfl (Wi rfl (Wi rfl (Wi rfl Wh)))))) (WD rfl (WD rfl (WD rfl (WD rfl (WD rfl (WD rfl (WD rfl (WD rfl (WD rfl WC))))))))) (Wz rfl Wy) rfl (Nat.le_trans hv1 (Wx rfl)) rfl rfl rfl (WT rfl (WU rfl rfl (WS rfl (WU rfl rfl (WU rfl rfl (WU rfl rfl (WT rfl (WU rfl rfl (WU rfl rfl WR))))))))) rfl rfl) ho2
  replace h2 := Qr c39 h2
  refine QM <| Qd <| Qd ?_
  have e := Wk h2; subst e
  have e_ : _ = _ := ho2
  subst e_
  exact QG s2.2 (Qf (Wi rfl Wh) (WD rfl (WD rfl (WD rfl (WD rfl (WD rfl (WD rfl (WD rfl (WD rfl (WD rfl WC))))))))) (Wz rfl Wy) rfl (Nat.le_trans hv1 (Wx rfl)) rfl rfl rfl (WT rfl (WU rfl rfl (WS rfl (WU rfl rfl (WU rfl rfl (WU rfl rfl (WT rfl (WU rfl rfl (WU rfl rfl WR))))))))) rfl rfl) h1
  intro o37 h1
  refine QB <| Q1 <| Q2 <| Q0 <| Wm rfl rfl rfl (Q7 Zp rfl rfl rfl) <| Wo rfl rfl rfl <| Wo rfl rfl rfl <| Q3 <| Q1 <| Qz ?_
  have e := Wk h1; subst e
  exact hQ1 _ _ _ (.inr rfl) rfl (show StLe _ _ ⟨[(6, .v (.one (.osl 8 0 ((y1.1.length : Int).toNat) ((y1.1.length : Int).toNat)))), (7, .v (.one (WL 0)))], [(0, .cells 48 (Q9 a0)), (1, .cells 72 [WN 4 y1.1, .mp 2]), (2, .mp (QL y1.2.1) y1.2.2), (5, .cells 72 [WN 4 y1.1, .mp 2]), (8, .cells 4 (Q9 o37))], [(4, some ⟨54, 1, (Enc.encL y1.1).length, []⟩)], 11, 38, []⟩ from (Qf (Wi rfl (Wi rfl Wh)) (WD rfl (WD rfl (WD rfl (WD rfl (WD rfl WC))))) (Wz rfl Wy) rfl (Nat.le_trans hv1 (Wx rfl)) rfl rfl rfl (WT rfl (WU rfl rfl (WS rfl (WU rfl rfl (WT rfl WR))))) rfl rfl))
 refine KN (C := fun q_ => CallM Try.prog 35 [.agg [WN 4 y1.1, .mp 2], .one (WN 4 y1.1), .one (WJ a1)] ⟨[(0, .cells 48 (Q9 a0)), (1, .cells 72 [WN 4 y1.1, .mp 2]), (2, .mp (QL y1.2.1) y1.2.2), (5, .cells 72 [WN 4 y1.1, .mp 2])], [(4, some ⟨54, 1, (Enc.encL y1.1).length, []⟩)], 6⟩ (QA (((Sum.elim (fun (y32 : Unit) => ([.one (WK), .one (WL 9)] : List AV)) (fun (y33 : (List Bool)) => ([.one (.osl 8 0 ((y1.1.length : Int).toNat) ((y1.1.length : Int).toNat)), .one (WL 0)] : List AV)))) q_)) ⟨(((Sum.elim (fun (y32 : Unit) => (⟨[(6, .v (.one (WK))), (7, .v (.one (WL 9)))], [(0, .cells 48 (Q9 a0)), (1, .cells 72 [WN 4 y1.1, .mp 2]), (2, .mp (QL y1.2.1) y1.2.2), (5, .cells 72 [WN 4 y1.1, .mp 2])], [(4, some ⟨54, 1, (Enc.encL y1.1).length, []⟩)], 11, 38, []⟩ : St)) (fun (y33 : (List Bool)) => (⟨[(6, .v (.one (.osl 8 0 ((y1.1.length : Int).toNat) ((y1.1.length : Int).toNat)))), (7, .v (.one (WL 0)))], [(0, .cells 48 (Q9 a0)), (1, .cells 72 [WN 4 y1.1, .mp 2]), (2, .mp (QL y1.2.1) y1.2.2), (5, .cells 72 [WN 4 y1.1, .mp 2]), (8, .cells 4 (Q9 y33))], [(4, some ⟨54, 1, (Enc.encL y1.1).length, []⟩)], 11, 38, []⟩ : St)))) q_).hp, (((Sum.elim (fun (y32 : Unit) => (⟨[(6, .v (.one (WK))), (7, .v (.one (WL 9)))], [(0, .cells 48 (Q9 a0)), (1, .cells 72 [WN 4 y1.1, .mp 2]), (2, .mp (QL y1.2.1) y1.2.2), (5, .cells 72 [WN 4 y1.1, .mp 2])], [(4, some ⟨54, 1, (Enc.encL y1.1).length, []⟩)], 11, 38, []⟩ : St)) (fun (y33 : (List Bool)) => (⟨[(6, .v (.one (.osl 8 0 ((y1.1.length : Int).toNat) ((y1.1.length : Int).toNat)))), (7, .v (.one (WL 0)))], [(0, .cells 48 (Q9 a0)), (1, .cells 72 [WN 4 y1.1, .mp 2]), (2, .mp (QL y1.2.1) y1.2.2), (5, .cells 72 [WN 4 y1.1, .mp 2]), (8, .cells 4 (Q9 y33))], [(4, some ⟨54, 1, (Enc.encL y1.1).length, []⟩)], 11, 38, []⟩ : St)))) q_).tk, (((Sum.elim (fun (y32 : Unit) => (⟨[(6, .v (.one (WK))), (7, .v (.one (WL 9)))], [(0, .cells 48 (Q9 a0)), (1, .cells 72 [WN 4 y1.1, .mp 2]), (2, .mp (QL y1.2.1) y1.2.2), (5, .cells 72 [WN 4 y1.1, .mp 2])], [(4, some ⟨54, 1, (Enc.encL y1.1).length, []⟩)], 11, 38, []⟩ : St)) (fun (y33 : (List Bool)) => (⟨[(6, .v (.one (.osl 8 0 ((y1.1.length : Int).toNat) ((y1.1.length : Int).toNat)))), (7, .v (.one (WL 0)))], [(0, .cells 48 (Q9 a0)), (1, .cells 72 [WN 4 y1.1, .mp 2]), (2, .mp (QL y1.2.1) y1.2.2), (5, .cells 72 [WN 4 y1.1, .mp 2]), (8, .cells 4 (Q9 y33))], [(4, some ⟨54, 1, (Enc.encL y1.1).length, []⟩)], 11, 38, []⟩ : St)))) q_).nx⟩) hc34 h0 (fun y32 hc34 h0 => ?_) (fun y33 hc34 h0 => ?_)
 replace hc34 : CallM Try.prog 35 [.agg [WN 4 y1.1, .mp 2], .one (WN 4 y1.1), .one (WJ a1)] ⟨[(0, .cells 48 (Q9 a0)), (1, .cells 72 [WN 4 y1.1, .mp 2]), (2, .mp (QL y1.2.1) y1.2.2), (5, .cells 72 [WN 4 y1.1, .mp 2])], [(4, some ⟨54, 1, (Enc.encL y1.1).length, []⟩)], 6⟩ (QA [.one (WK), .one (WL 9)]) ⟨[(0, .cells 48 (Q9 a0)), (1, .cells 72 [WN 4 y1.1, .mp 2]), (2, .mp (QL y1.2.1) y1.2.2), (5, .cells 72 [WN 4 y1.1, .mp 2])], [(4, some ⟨54, 1, (Enc.encL y1.1).length, []⟩)], 11⟩ := hc34
 refine Qa rfl rfl (Wx rfl) (QT rfl rfl rfl hc34 rfl (WD rfl (WD rfl (WD rfl (WD rfl WC)))) (Wz rfl Wy)) <| Wn rfl rfl rfl <| Wm rfl rfl rfl (Qg rfl rfl) <| Wm rfl rfl rfl (Qg rfl rfl) <| Wo rfl rfl rfl <| Wo rfl rfl rfl <| Q3 <| Q1 <| Q2 <| Q2 <| Q0 <| Wn rfl rfl rfl <| Wm rfl rfl rfl (Q8 rfl rfl rfl) <| Q3 ?_
 refine Q1 ?_
 refine Qe rfl (fun _ => ?_) (fun h => nomatch h)
 refine Q2 <| Q0 <| Wn rfl rfl rfl <| Wo rfl rfl rfl <| Wo rfl rfl rfl <| Q3 <| Q1 <| Qz ?_
 have e := Wk h0; subst e
 exact hQ0 _ _ _ (.inr rfl) rfl (Qf (Wj rfl (.sub (.nil _)) (Wi rfl Wh)) (WD rfl WC) Wy rfl (Nat.le_trans hv0 (Wx rfl)) rfl rfl rfl (WT rfl WR) rfl rfl)
 replace hc34 : CallM Try.prog 35 [.agg [WN 4 y1.1, .mp 2], .one (WN 4 y1.1), .one (WJ a1)] ⟨[(0, .cells 48 (Q9 a0)), (1, .cells 72 [WN 4 y1.1, .mp 2]), (2, .mp (QL y1.2.1) y1.2.2), (5, .cells 72 [WN 4 y1.1, .mp 2])], [(4, some ⟨54, 1, (Enc.encL y1.1).length, []⟩)], 6⟩ (QA [.one (.osl 8 0 ((y1.1.length : Int).toNat) ((y1.1.length : Int).toNat)), .one (WL 0)]) ⟨[(0, .cells 48 (Q9 a0)), (1, .cells 72 [WN 4 y1.1, .mp 2]), (2, .mp (QL y1.2.1) y1.2.2), (5, .cells 72 [WN 4 y1.1, .mp 2]), (8, .cells 4 (Q9 y33))], [(4, some ⟨54, 1, (Enc.encL y1.1).length, []⟩)], 11⟩ := hc34
 refine Qa rfl rfl (Wx rfl) (QT rfl rfl rfl hc34 rfl (WD rfl (WD rfl (WD rfl (WD rfl WC)))) (Wz rfl Wy)) <| Wn rfl rfl rfl <| Wm rfl rfl rfl (Qg rfl rfl) <| Wm rfl rfl rfl (Qg rfl rfl) <| Wo rfl rfl rfl <| Wo rfl rfl rfl <| Q3 <| Q1 <| Q2 <| Q2 <| Q0 <| Wn rfl rfl rfl <| Wm rfl rfl rfl (Q8 rfl rfl rfl) <| Q3 ?_
 refine Q1 ?_
 refine Qe rfl (fun h => nomatch h) (fun _ => ?_)
 refine Qi <| Q1 <| Q2 <| Q0 <| Wo rfl rfl rfl <| Q3 <| Q1 <| Q2 <| Q2 <| Q0 <| Wn rfl rfl rfl <| Wm rfl rfl rfl (Ya Jo rfl) <| Wn rfl rfl rfl <| Q3 ?_
 refine Q1 <| Qc ?_
 refine QI 0 (fun (o43 : (List Dcl)) => ⟨[(9, .v (.one (WN 11 o43)))], [(0, .cells 48 (Q9 a0)), (1, .cells 72 [WN 4 y1.1, .mp 2]), (2, .mp (QL y1.2.1) y1.2.2), (5, .cells 72 [WN 4 y1.1, .mp 2]), (8, .cells 4 (Q9 y33))], [(4, some ⟨54, 1, (Enc.encL y1.1).length, []⟩), (11, some ⟨48, 23, (Enc.encL o43).length, []⟩)], 12, 48, []⟩) (fun (o43 : (List Dcl)) => (some (o43, 0)) = some r) ?_ ?_
 refine JW (t := 9) 48 23 rfl ?_
 refine Qb h0 (fun o44 hl1 h0 => ?_)
 refine QH (m15o_l5 nn a0 y33 y1) (fun s1 => ⟨[(8, .v (.one (.osl 8 0 ((y1.1.length : Int).toNat) ((y1.1.length : Int).toNat)))), (9, .v (.one (WN 11 s1.1))), (31, .v (.one (.osl 0 0 nn nn))), (32, .v (.one (WL ((nn : Nat) : Int)))), (33, .v (.one (WL s1.2)))], [(0, .cells 48 (Q9 a0)), (1, .cells 72 [WN 4 y1.1, .mp 2]), (2, .mp (QL y1.2.1) y1.2.2), (5, .cells 72 [WN 4 y1.1, .mp 2]), (8, .cells 4 (Q9 y33))], [(4, some ⟨54, 1, (Enc.encL y1.1).length, []⟩), (11, some ⟨48, 23, (Enc.encL s1.1).length, []⟩)], 12, 48, []⟩) (([] : List Dcl), 0) o44 (Qf (Wi rfl (Wi rfl (Wi rfl (Wi rfl (Wi rfl Wh))))) (WD rfl (WD rfl (WD rfl (WD rfl (WD rfl WC))))) (Wz rfl (Wz rfl Wy)) rfl (Nat.le_trans hv0 (Wx rfl)) rfl rfl rfl (WT rfl (WU rfl rfl (WS rfl (WU rfl rfl (WT rfl WR))))) rfl rfl) hl1 (fun s1 n1 oo1 h1 ho1 => ?_)
 unfold m15o_l5 at h1
 refine Q2 <| Q0 <| Wm rfl rfl rfl (Q8 rfl rfl rfl) <| Q3 <| Q1 <| Q2 ?_
 refine Qe (b := (decide (s1.2 < ((nn : Nat) : Int)))) rfl (fun c45 => ?_) (fun c45 => ?_)
 replace h1 := Qq c45 h1
 refine Qi <| Q1 <| Q2 <| Qc <| Q2 <| Q0 <| Wn rfl rfl rfl ?_
 refine Qb h1 (fun x46 hx46 h1 => ?_)
 refine QS h1 (fun g47 h1 => ?_)
 refine Wm rfl rfl rfl (Jp (α := Dcl) Jo rfl rfl hx46 g47) <| Wm rfl rfl rfl (Yu (α := Dcl) (ys := [WL x46.kind, Z4 x46.name, WL x46.params, WL x46.ty.kind, WL x46.ty.index, Z4 x46.ty.name, WJ x46.ty.levels, WJ x46.ty.kids, WL x46.value.kind, WL x46.value.index, Z4 x46.value.name, WJ x46.value.levels, WJ x46.value.kids, WL x46.fixed, WJ x46.ctors, WL x46.rcr.params, WL x46.rcr.ty.kind, WL x46.rcr.ty.index, Z4 x46.rcr.ty.name, WJ x46.rcr.ty.levels, WJ x46.rcr.ty.kids, WJ x46.rcr.rules, WJ x46.funs]) Jg rfl rfl hx46 rfl) <| Qa rfl rfl (Wx rfl) (Qp ZU rfl) <| Wo rfl rfl rfl <| QJ rfl rfl (J6 (x46 : Dcl) Jg rfl rfl rfl rfl rfl) <| Q3 <| Q1 <| Q2 <| Q0 <| Wn rfl rfl rfl <| Wn rfl rfl rfl ?_
 refine Qb h1 (fun x48 hx48 h1 => ?_)
 refine QS h1 (fun g49 h1 => ?_)
 refine Wm rfl rfl rfl (Jp (α := Bool) Zo rfl rfl hx48 g49) <| Wm rfl rfl rfl (YS (α := Bool) (m := s1.2) (f := 0) Gt rfl rfl hx48 rfl) <| Q3 <| Q1 ?_
 refine Qe (b := x48) rfl (fun c50 => ?_) (fun c50 => ?_)
 replace h1 := Qq c50 h1
 refine Q0 <| Wn rfl rfl rfl <| Wm rfl rfl rfl (JA (x46 : Dcl) Jg rfl rfl) <| Qa rfl rfl (Wx rfl) (OpOK.lit1CE (x46 : Dcl) Jo ZU rfl rfl (Wx rfl) rfl) ?_
 refine QS h1 (fun g51 h1 => ?_)
 refine Qa rfl rfl (Wx rfl) (QW (α := Dcl) Jo el_48 rfl rfl rfl rfl rfl (.app _ _) g51) <| Wo rfl rfl rfl <| Q3 <| Qj <| Q1 <| Q0 <| Wm rfl rfl rfl (Q8 rfl rfl rfl) <| Wn rfl rfl rfl <| Q3 ?_
 have e := Wk h1; subst e
 refine QD ((s1.1 ++ ([x46])), (QZ (s1.2 + 1))) (Qf (Wi rfl (Wi rfl (Wi rfl (Wi rfl (Wi rfl Wh))))) (WD rfl (WD rfl (WD rfl (WD rfl (WD rfl WC))))) (Wz rfl (Wz rfl Wy)) rfl (Nat.le_trans hv0 (Wx rfl)) rfl rfl rfl (WT rfl (WU rfl rfl (WS rfl (WU rfl rfl (WT rfl WR))))) rfl rfl) ho1
 replace h1 := Qr c50 h1
 refine Qi <| Qj <| Q1 <| Q0 <| Wm rfl rfl rfl (Q8 rfl rfl rfl) <| Wn rfl rfl rfl <| Q3 ?_
 have e := Wk h1; subst e
 refine QD (s1.1, (QZ (s1.2 + 1))) (Qf (Wi rfl (Wi rfl (Wi rfl (Wi rfl (Wi rfl Wh))))) (WD rfl (WD rfl (WD rfl (WD rfl (WD rfl WC))))) (Wz rfl (Wz rfl Wy)) rfl (Nat.le_trans hv0 (Wx rfl)) rfl rfl rfl (WT rfl (WU rfl rfl (WS rfl (WU rfl rfl (WT rfl WR))))) rfl rfl) ho1
 replace h1 := Qr c45 h1
 refine QM <| Qd <| Qd ?_
 have e := Wk h1; subst e
 have e_ : _ = _ := ho1
 subst e_
 exact QG s1.1 (Qf (Wi rfl Wh) (WD rfl (WD rfl (WD rfl (WD rfl (WD rfl WC))))) (Wz rfl (Wz rfl Wy)) rfl (Nat.le_trans hv0 (Wx rfl)) rfl rfl rfl (WT rfl (WU rfl rfl (WS rfl (WU rfl rfl (WT rfl WR))))) rfl rfl) h0
 intro o43 h0
 refine QB <| Q1 <| Q2 <| Q0 <| Wn rfl rfl rfl <| Wo rfl rfl rfl <| Wo rfl rfl rfl <| Q3 <| Q1 <| Qz ?_
 have e := Wk h0; subst e
 exact hQ0 _ _ _ (.inr rfl) rfl (Qf (Wj rfl (.sub (.app _ _ _)) (Wi rfl Wh)) (WD rfl WC) Wy rfl (Nat.le_trans hv0 (Wx rfl)) rfl rfl rfl (WT rfl WR) rfl rfl)
 replace hc4 : CallM Try.prog 34 [.one (.osl 0 0 nn nn)] ⟨[(0, .cells 48 (Q9 a0))], [], 1⟩ (QA [.agg [WK, .d (.v (.map none))], .one (WL 8)]) ⟨[(0, .cells 48 (Q9 a0)), (1, .cells 72 [WK, .d (.v (.map none))])], [], 5⟩ := hc4
 refine Qa rfl rfl (Wx rfl) (QT rfl rfl rfl hc4 rfl (WD rfl WC) Wy) <| Wn rfl rfl rfl <| Wm rfl rfl rfl (Qg rfl rfl) <| Wm rfl rfl rfl (Qg rfl rfl) <| Qa rfl rfl (Wx rfl) (Qp YT rfl) <| QJ rfl rfl (Ql J8 rfl rfl rfl rfl (Wx rfl) rfl) <| Wo rfl rfl rfl <| Q3 <| Q1 <| Q2 <| Q2 <| Q0 <| Wn rfl rfl rfl <| Wm rfl rfl rfl (Q8 rfl rfl rfl) ?_
 refine Q3 <| Q1 ?_
 refine Qe rfl (fun _ => ?_) (fun h => nomatch h)
 refine Q2 <| Q0 <| Wn rfl rfl rfl <| Wo rfl rfl rfl <| Wo rfl rfl rfl <| Q3 <| Q1 <| Qz ?_
 have e := Wk h0; subst e
 exact hQ0 _ _ _ (.inr rfl) rfl (Qf (Wj rfl (.sub (.nil _)) (Wi rfl Wh)) (WD rfl WC) Wy rfl (Nat.le_trans hv0 (Wx rfl)) rfl rfl rfl (WT rfl WR) rfl rfl)
 replace hc4 : CallM Try.prog 34 [.one (.osl 0 0 nn nn)] ⟨[(0, .cells 48 (Q9 a0))], [], 1⟩ (QA [.agg [WK, .d (.v (.map none))], .one (WL 9)]) ⟨[(0, .cells 48 (Q9 a0)), (1, .cells 72 [WK, .d (.v (.map none))])], [], 7⟩ := hc4
 refine Qa rfl rfl (Wx rfl) (QT rfl rfl rfl hc4 rfl (WD rfl WC) Wy) <| Wn rfl rfl rfl <| Wm rfl rfl rfl (Qg rfl rfl) <| Wm rfl rfl rfl (Qg rfl rfl) <| Qa rfl rfl (Wx rfl) (Qp YT rfl) <| QJ rfl rfl (Ql J8 rfl rfl rfl rfl (Wx rfl) rfl) <| Wo rfl rfl rfl <| Q3 <| Q1 <| Q2 <| Q2 <| Q0 <| Wn rfl rfl rfl <| Wm rfl rfl rfl (Q8 rfl rfl rfl) ?_
 refine Q3 <| Q1 ?_
 refine Qe rfl (fun _ => ?_) (fun h => nomatch h)
 refine Q2 <| Q0 <| Wn rfl rfl rfl <| Wo rfl rfl rfl <| Wo rfl rfl rfl <| Q3 <| Q1 <| Qz ?_
 have e := Wk h0; subst e
 exact hQ0 _ _ _ (.inr rfl) rfl (Qf (Wj rfl (.sub (.nil _)) (Wi rfl Wh)) (WD rfl WC) Wy rfl (Nat.le_trans hv0 (Wx rfl)) rfl rfl rfl (WT rfl WR) rfl rfl)
end Go.Proofs.Ytijcchddnnnmdaa
